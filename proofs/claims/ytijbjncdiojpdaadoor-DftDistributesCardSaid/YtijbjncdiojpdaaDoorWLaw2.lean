/- The walk of the law DftCommutes. -/
import Derived.Test.YtijbjncdiojpdaaDoorWLaw1
import Derived.Test.YtijbjncdiojpdaaDoorDConv
namespace Go.Proofs.YtijbjncdiojpdaaDoor
open Go.RowKit
attribute [local go_sem ↓] add_UU sub_UU mul_UU add_UL add_LU sub_UL sub_LU mul_UL neg_at not_at and_UU or_UU xor_UU andNot_UU and_UL or_LU shr_UL shl_UL shr_UN shl_UN quo_UL rem_UL quo_UU rem_UU
attribute [local go_sem] wrap8_U wrap32_U wrap64_B wrap32_B wrap8_D wrapi_B wrap64_UU eq_UU ne_UU eq_UL ne_UL lt_UU le_UU
attribute [local go_sem ↓] run_fadd run_fsub run_fmul run_fquo
attribute [local go_sem] fRes_some unary_neg_f run_store_complex run_store_float

theorem Ints.congr {w : World} {v : Value} {l : Nat} {A B : Nat → Int} (h : Ints w v l A) (e : ∀ i, i < l → A i = B i) : Ints w v l B := by
  rcases h with h | ⟨b, off, cap, rfl, h⟩
  · exact .inl h
  · exact .inr ⟨b, off, cap, rfl, fun i hi => by rw [h i hi, e i hi]⟩
def ivals (A : Nat → Int) (n : Nat) : List Value := (List.range n).map fun i => Value.int .i64 (A i)
theorem Ints.of_owns {w : World} {base n : Nat} {v : Value} {A : Nat → Int} {xs : List Value} (hn : 0 < n) (h : w.ownsRow base 3 1 v n xs) (hx : ∀ i, i < n → xs[i]? = some (.int .i64 (A i))) : Ints w v n A := by
  rcases h.2 with h2 | ⟨g, cap, cur, h1, hg, hh, hc, hm, hs, ht⟩
  · omega
  · refine .inr ⟨g, 0, cap, h1, fun i hi => ?_⟩
    have hl := hx i hi
    rw [← ht, List.getElem?_take, if_pos (by omega)] at hl
    unfold World.cell?
    simp only []
    rw [hh]
    simpa using hl
theorem owns_zero (w : World) (base : Nat) (hb : base ≤ w.heap.size) : (w.alloc (.cells #[.int .i64 0] 3)).ownsRow base 3 1 (.slice (some ⟨w.heap.size, 0, none⟩) 1 1) 1 [.int .i64 0] :=
  ⟨rfl, .inr ⟨w.heap.size, 1, #[.int .i64 0], rfl, hb, heap_alloc_new w _, Nat.le_refl _, by decide, rfl, rfl⟩⟩

/-- append where a guard says yes. -/
theorem wpList_append_want {P : Program} {w : World} {ops : Array Oper} {rest : List Oper} {o : Oper} {a : Act} {Q : Exit → Act → World → Prop} (hw : Region.wanted o (yielded ops a.tmps) = true) (s x : Operand) (t : TypeId)
    (ho : o.op = .call { callee := .builtin .append, args := #[s, x], argTypes := #[t, t] }) (v u v' : Value) (w' : World) (hs : a.eval s = v) (hx : a.eval x = u) (hr : (Builtin.append_ #[t, t] o.type #[v, u]).run P w = .ok v' w')
    (h : wpList P ops Q rest (a.put o.dst v') w') : wpList P ops Q (o :: rest) a w := by
  refine BigFrame.wpList_want hw fun K hK => ?_
  unfold Oper.wp execOp
  simp only [ho, resolve, invoke, builtin, Sem.run_bind, Sem.run_pure, Result.andThen_ok, List.map_toArray, List.map_cons, List.map_nil, hs, hx, hr]
  exact hK _ _ h

set_option maxRecDepth 20000 in
set_option maxHeartbeats 2000000 in
theorem walkDftCommutes (va vb : Value) (A B : Nat → Int) (la lb : Nat) (w : World) (ht : Tabs w) (hg : 2 < w.heap.size) (hA : Ints w va la A) (hB : Ints w vb lb B) (sa : la * 8 ≤ 140737488351232) (sb : lb * 8 ≤ 140737488351232) :
    Calls Tryd.prog 6 #[va, vb] w fun e w' => e = .returned (.bool true) ∧ Below w.heap.size w w' := by
  have hM := multiplyAny va vb A B la lb w ht hg hA hB sa sb
  unfold MulPost at hM
  have HM := Lib.hid hM
  have HI := Lib.hid (And.intro ht (And.intro hg (And.intro hA (And.intro hB (And.intro sa sb)))))
  have HL := Lib.hid (mulL_le A B la lb)
  obtain ⟨i0, hi0, hz0, hz1, hz2⟩ := info_parts info_i
  obtain ⟨a, ca, rfl⟩ := hA.form
  have s1 : (la : Int) ≤ 17592186043904 := by omega
  clear hM ht hg hA hB sa sb
  go_enter Tryd.func6, Tryd.ntmps6
  go_wp2_with fail
  refine HM.out.mono ?_
  rintro e w1 ⟨vm, rfl, hvm, hb1⟩
  have hR := multiplyAny vb (.slice a la ca) B A lb la w1 (HI.out.1.below hb1 HI.out.2.1) (by have := hb1.size; have := HI.out.2.1; omega) (HI.out.2.2.2.1.below hb1) (HI.out.2.2.1.below hb1) HI.out.2.2.2.2.2 HI.out.2.2.2.2.1
  unfold MulPost at hR
  rw [mulE_comm, mulL_comm] at hR
  have HR := Lib.hid hR
  have H1 := Lib.hid (And.intro hvm hb1)
  clear hR hvm hb1 HM
  go_wp2_with fail
  refine HR.out.mono ?_
  rintro e w2 ⟨vn, rfl, hvn, hb2⟩
  have H2 := Lib.hid (show Ints w2 vm (mulL A B la lb) (convI A B la lb) ∧ Ints w2 vn (mulL A B la lb) (convI A B la lb) ∧ Below w.heap.size w w2 ∧ w.heap.size ≤ w2.heap.size from by
    have h1 := H1.out.2.size
    have h2 := hb2.size
    exact ⟨H1.out.1.below hb2, hvn.congr fun i _ => (conv_comm A B la lb i).symm, H1.out.2.trans (hb2.mono h1), by omega⟩)
  clear hvn hb2 HR H1
  obtain ⟨T, hT⟩ : ∃ T, T = w2.alloc (.cells #[.int .i64 0, .int .i64 1] 3) := ⟨_, rfl⟩
  have hTb : Below w2.heap.size w2 T := by rw [hT]; exact (Below.refl _ _).alloc (Nat.le_refl _) _
  have hTw : Below w.heap.size w T := H2.out.2.2.1.trans (hTb.mono H2.out.2.2.2)
  have hTs : T.heap.size = w2.heap.size + 1 := by rw [hT]; simp
  have iE : Ints T (.slice (some ⟨w2.heap.size, 0, none⟩) 2 2) 2 E01 := by
    refine .inr ⟨w2.heap.size, 0, 2, rfl, fun i hi => ?_⟩
    rw [Nat.zero_add, hT]
    refine cell_new _ _ _ _ _ ?_
    rcases (show i = 0 ∨ i = 1 by omega) with rfl | rfl <;> rfl
  have hS := multiplyAny (.slice a la ca) (.slice (some ⟨w2.heap.size, 0, none⟩) 2 2) A E01 la 2 T (HI.out.1.below hTw HI.out.2.1) (by have := H2.out.2.2.2; have := HI.out.2.1; omega) (HI.out.2.2.1.below hTw) iE HI.out.2.2.2.2.1 (by decide)
  unfold MulPost at hS
  have HS := Lib.hid hS
  have HE := Lib.hid hT
  have HT := Lib.hid (And.intro hTb (And.intro hTw hTs))
  clear hT hTb hTw hTs iE hS
  go_wp2_with fail
  rw [← HE.out]
  refine HS.out.mono ?_
  rintro e w3 ⟨vs, rfl, hvs, hb3⟩
  have H3 := Lib.hid (show Ints w3 vm (mulL A B la lb) (convI A B la lb) ∧ Ints w3 vn (mulL A B la lb) (convI A B la lb) ∧ Ints w3 vs (mulL A E01 la 2) (convI A E01 la 2) ∧ Below w.heap.size w w3 ∧ w.heap.size ≤ w3.heap.size from by
    have h1 := hb3.size
    have h2 := HT.out.2.2
    have h3 := H2.out.2.2.2
    exact ⟨(H2.out.1.below HT.out.1).below hb3, (H2.out.2.1.below HT.out.1).below hb3, hvs, HT.out.2.1.trans (hb3.mono (by omega)), by omega⟩)
  clear hvs hb3 HT HE HS H2
  have hF := refMultiply (.slice a la ca) (.slice none 0 0) A (fun _ => 0) la 0 w3 (HI.out.2.2.1.below H3.out.2.2.2.1) (.inl ⟨rfl, _, _, rfl⟩) HI.out.2.2.2.2.1 (by decide)
  unfold MulPost at hF
  have HF := Lib.hid hF
  clear hF
  go_wp2_with fail
  refine HF.out.mono ?_
  rintro e w4 ⟨vf, rfl, _, hb4⟩
  have H4 := Lib.hid (show Ints w4 vm (mulL A B la lb) (convI A B la lb) ∧ Ints w4 vn (mulL A B la lb) (convI A B la lb) ∧ Ints w4 vs (mulL A E01 la 2) (convI A E01 la 2) ∧ Below w.heap.size w w4 ∧ Tabs w4 ∧ 2 < w4.heap.size from by
    have h1 := hb4.size
    have h3 := H3.out.2.2.2.2
    have h4 := H3.out.2.2.2.1.trans (hb4.mono h3)
    have h5 := HI.out.2.1
    exact ⟨H3.out.1.below hb4, H3.out.2.1.below hb4, H3.out.2.2.1.below hb4, h4, HI.out.1.below h4 h5, by omega⟩)
  clear hb4 HF H3
  have HAl := Lib.hid (alive _ H4.out.2.2.2.2.1 H4.out.2.2.2.2.2)
  rcases (show mulE A (fun _ => 0) la 0 ≠ 0 ∨ (mulE A (fun _ => 0) la 0 = 0 ∧ la = 0) ∨ (mulE A (fun _ => 0) la 0 = 0 ∧ la ≠ 0) by omega) with hf | ⟨hf, hl0⟩ | ⟨hf, hl0⟩
  · have hm := mulE_cases A (fun _ => 0) la 0
    generalize mulE A (fun _ => 0) la 0 = F at *
    generalize mulE A B la lb = E at *
    have h' : (F == 0) = false := by rw [beq_eq_false_iff_ne]; exact hf
    have h'' : (F != 0) = true := by rw [bne_iff_ne]; exact hf
    have e0 : 0 ≤ F := by omega
    have e1 : F ≤ 19 := by omega
    clear hm
    go_wp2_with fail
    refine HAl.out.mono ?_
    rintro e w5 ⟨rfl, hb5⟩
    have H5 := Lib.hid (H4.out.2.2.2.1.trans (hb5.mono H4.out.2.2.2.1.size))
    clear hb5
    go_wp2
    go_ret
    exact ⟨by simp, H5.out⟩
  · rw [hf]
    generalize mulE A B la lb = E at *
    have h' : ((la : Int) == 0) = true := by rw [hl0]; rfl
    clear hf hl0
    go_wp2_with fail
    refine HAl.out.mono ?_
    rintro e w5 ⟨rfl, hb5⟩
    have H5 := Lib.hid (H4.out.2.2.2.1.trans (hb5.mono H4.out.2.2.2.1.size))
    clear hb5
    go_wp2
    go_ret
    exact ⟨by simp, H5.out⟩
  · have hs0 := mulE_01 A _ la hf
    have hla := (mulE_zero hf).1
    have HsL := Lib.hid (show mulL A E01 la 2 = la + 1 by unfold mulL; rw [if_pos ⟨hs0, hl0, by decide⟩]; omega)
    rw [hf, hs0]
    generalize mulE A B la lb = E at *
    have h' : ((la : Int) == 0) = false := by rw [beq_eq_false_iff_ne]; omega
    have hla1 : 0 < la := by omega
    clear hf hs0 hl0
    cases hE : (E == 0)
    all_goals
      go_wp2_with fail
      refine HAl.out.mono ?_
      rintro e w5 ⟨rfl, hb5⟩
      have H5 := Lib.hid (show Ints w5 vm (mulL A B la lb) (convI A B la lb) ∧ Ints w5 vn (mulL A B la lb) (convI A B la lb) ∧ Ints w5 vs (la + 1) (convI A E01 la 2) ∧ Below w.heap.size w w5 from
        ⟨H4.out.1.below hb5, H4.out.2.1.below hb5, by rw [← HsL.out]; exact H4.out.2.2.1.below hb5, H4.out.2.2.2.1.trans (hb5.mono H4.out.2.2.2.1.size)⟩)
      clear hb5 H4 HAl
      go_wp2_with fail
      refine (equalInts _ _ _ _ (by have := HL.out; omega) _ H5.out.1 H5.out.2.1).mono ?_
      rintro e w6 ⟨rfl, hb6⟩
      have H6 := Lib.hid (show Ints w6 vs (la + 1) (convI A E01 la 2) ∧ Below w.heap.size w w6 from ⟨H5.out.2.2.1.below hb6, H5.out.2.2.2.trans (hb6.mono H5.out.2.2.2.size)⟩)
      clear hb6 H5
      have HO := Lib.hid (owns_zero w6 w6.heap.size (Nat.le_refl _))
      obtain ⟨bA, oA, cA, hsl, hcA⟩ : ∃ bA oA cA, Value.slice a la ca = .slice (some ⟨bA, oA, none⟩) la cA ∧ ∀ i, i < la → w.cell? ⟨bA, oA + i, none⟩ = some (.int .i64 (A i)) := by
        rcases HI.out.2.2.1 with ⟨h, _⟩ | ⟨b1, o1, c1, h1, h2⟩
        · omega
        · exact ⟨b1, o1, c1, h1, h2⟩
      cases hsl
      have HcA := Lib.hid hcA
      clear hcA
      obtain ⟨v1, w7, hrun, hown1, hg1, hl1⟩ := run_append_lies (P := Tryd.prog) (w6.alloc (.cells #[.int .i64 0] 3)) w6.heap.size 22 22 3 i0 (.int .i64 0) 1 8 Tryd.underlying22 hi0 hz0 hz1 hz2 rfl (by decide) _ 1 _ HO.out ⟨bA, oA, none⟩ la ca (ivals A la) hla1
        (by simp [ivals])
        (by
          intro j u hj
          have hlt : j < la := by
            have := (List.getElem?_eq_some_iff.1 hj).1
            simpa [ivals] using this
          have hu : u = .int .i64 (A j) := by
            simp [ivals, hlt] at hj
            exact hj.symm
          subst hu
          rw [Go.WideShapes.add_plain]
          have hb : Below w.heap.size w (w6.alloc (.cells #[.int .i64 0] 3)) := H6.out.2.alloc H6.out.2.size _
          exact (hb.cell (p := ⟨bA, oA + j, none⟩) (World.block_lt_of_cell? w _ (HcA.out j hlt))).trans (HcA.out j hlt))
        (by
          intro u hu
          simp only [ivals, List.mem_map] at hu
          obtain ⟨i, _, rfl⟩ := hu
          rfl)
        (by unfold maxLen; omega) (by omega) (by simp)
      have H7 := Lib.hid (show Ints w7 v1 (la + 1) (convI A E01 la 2) ∧ Ints w7 vs (la + 1) (convI A E01 la 2) ∧ Below w.heap.size w w7 from by
        have hsz := H6.out.2.size
        refine ⟨?_, ?_, ?_⟩
        · rw [Nat.add_comm]
          refine Ints.of_owns (by omega) hown1 fun i hi => ?_
          rw [conv_shift A la i (by omega)]
          by_cases h0 : i = 0
          · subst h0
            rfl
          · rw [if_neg h0, List.getElem?_append_right (by simp; omega)]
            simp only [ivals, List.length_singleton, List.getElem?_map]
            rw [List.getElem?_range (by omega)]
            rfl
        · exact H6.out.1.below (((Below.refl _ w6).alloc (Nat.le_refl _) _).grown hg1 (by simp) (fun k hk => by cases hk; exact Nat.le_refl _))
        · exact (H6.out.2.alloc hsz _).grown hg1 (by simp; omega) (fun k hk => by cases hk; exact hsz))
      clear hown1 hg1 hl1 H6 HO
      go_wp2_with (first | (at_builtin; refine wpList_append_want rfl _ _ 22 rfl _ _ _ _ rfl rfl hrun ?_) | fail)
      refine (equalInts _ _ _ _ (by omega) _ H7.out.2.1 H7.out.1).mono ?_
      rintro e w8 ⟨rfl, hb8⟩
      have H8 := Lib.hid (H7.out.2.2.trans (hb8.mono H7.out.2.2.size))
      clear hb8
      go_wp2
      go_ret
      exact ⟨by simp, H8.out⟩

theorem walkDftCommutes' (w : World) (ht : Tabs w) (hg : 2 < w.heap.size) (va : Value) (A : Nat → Int) (la : Nat) (hA : Ints w va la A) (sa : la * 8 ≤ 140737488351232) (vb : Value) (B : Nat → Int) (lb : Nat) (hB : Ints w vb lb B) (sb : lb * 8 ≤ 140737488351232) :
    Calls Tryd.prog 6 #[va, vb] w fun e w' => e = .returned (.bool true) ∧ Below w.heap.size w w' := walkDftCommutes va vb A B la lb w ht hg hA hB sa sb
end Go.Proofs.YtijbjncdiojpdaaDoor
