/- The transform of zeros; the law package's alive. -/
import Derived.Test.YtijbjncdiojpdaaDoorWRefM
import Derived.Test.YtijbjncdiojpdaaDoorWNear
namespace Go.Proofs.YtijbjncdiojpdaaDoor
open Go.RowKit
attribute [local go_sem ↓] add_UU sub_UU mul_UU add_UL add_LU sub_UL sub_LU mul_UL neg_at not_at and_UU or_UU xor_UU andNot_UU and_UL or_LU shr_UL shl_UL shr_UN shl_UN quo_UL rem_UL quo_UU rem_UU
attribute [local go_sem] wrap8_U wrap32_U wrap64_B wrap32_B wrap8_D wrapi_B wrap64_UU eq_UU ne_UU eq_UL ne_UL lt_UU le_UU
attribute [local go_sem ↓] run_fadd run_fsub run_fmul run_fquo
attribute [local go_sem] fRes_some unary_neg_f run_store_complex run_store_float

def zeros : Nat → Nat × Nat := fun _ => (0, 0)
theorem zero_facts : allN 256 (fun k => ((cmul (rb k) (0, 0)).bind fun q => cadd (0, 0) q) == some (0, 0)) = true := by decide +kernel
theorem zero_quo : allN 9 (fun m => cQuoBits 0 0 (floatOfInt .f64 ((2 ^ m : Nat) : Int)) 0 == some (0, 0)) = true := by decide +kernel
theorem zero_dft (m : Nat) : m ≤ 8 → dftOk m zeros ∧ ∀ k, k < 2 ^ m → dftS m zeros k = (0, 0) := by
  induction m with
  | zero => intro _; exact ⟨trivial, fun k _ => rfl⟩
  | succ m ih =>
    intro hm
    obtain ⟨ok, hz⟩ := ih (by omega)
    have key : ∀ k, k < 2 ^ (m + 1) → (rootAt (2 ^ (m + 1)) k).isSome = true ∧ (cmul (rootR (2 ^ (m + 1)) k) (dftS m (odds zeros) (k % 2 ^ m))).isSome = true ∧
        cadd (dftS m (evens zeros) (k % 2 ^ m)) (cget (cmul (rootR (2 ^ (m + 1)) k) (dftS m (odds zeros) (k % 2 ^ m)))) = some (0, 0) := by
      intro k hk
      have hk' : k % 2 ^ m < 2 ^ m := Nat.mod_lt _ (Nat.two_pow_pos m)
      have hr := root_tab (m + 1) k hm hk
      have h3 : k * 2 ^ (8 - (m + 1)) < 256 := by
        have h4 := Nat.mul_lt_mul_of_pos_right hk (Nat.two_pow_pos (8 - (m + 1)))
        rwa [← Nat.pow_add, show m + 1 + (8 - (m + 1)) = 8 by omega] at h4
      have hf := allN_at zero_facts _ h3
      rw [beq_iff_eq] at hf
      rw [show rootR (2 ^ (m + 1)) k = rb (k * 2 ^ (8 - (m + 1))) from cget_eq hr, show evens zeros = zeros from rfl, show odds zeros = zeros from rfl, hz _ hk']
      cases hc : cmul (rb (k * 2 ^ (8 - (m + 1)))) (0, 0) with
      | none => rw [hc] at hf; cases hf
      | some q =>
        rw [hc] at hf
        exact ⟨by rw [hr]; rfl, rfl, hf⟩
    exact ⟨⟨ok, ok, fun k hk => ⟨(key k hk).1, (key k hk).2.1, by rw [(key k hk).2.2]; rfl⟩⟩, fun k hk => cget_eq (key k hk).2.2⟩

theorem transformZ (m : Nat) (hm : m ≤ 8) (g cap : Nat) (w : World) (ht : Tabs w) (hg : 2 < w.heap.size) (hc : CB w g (2 ^ m) zeros) :
    Calls Tryd.prog 18 #[.slice (some ⟨g, 0, none⟩) (2 ^ m : Nat) cap] w (SplitPost w (2 ^ m) (dftS m zeros)) := transform m hm zeros (zero_dft m hm).1 g cap w ht hg hc
theorem inverseZ (m : Nat) (hm : m ≤ 8) (g cap : Nat) (w : World) (ht : Tabs w) (hg : 2 < w.heap.size) (hc : CB w g (2 ^ m) zeros) :
    Calls Tryd.prog 17 #[.slice (some ⟨g, 0, none⟩) (2 ^ m : Nat) cap] w (SplitPost w (2 ^ m) zeros) := by
  have hb : 2 ^ m ≤ 256 := Nat.le_trans (Nat.pow_le_pow_right (by decide) hm) (by decide)
  refine inverseN (2 ^ m) (dftS m zeros) zeros (Nat.two_pow_pos m) hb _ w (fun W hW => by subst hW; exact transformZ m hm g cap W ht hg hc) fun q hq => ?_
  have hz := (zero_dft m hm).2
  have e : turned (2 ^ m) (dftS m zeros) q = (0, 0) := by
    unfold turned
    split
    · exact hz _ (by omega)
    · exact hz _ hq
  rw [e]
  have := allN_at zero_quo m (by omega)
  rw [beq_iff_eq] at this
  exact this

def lit4 : Nat → Nat × Nat := fun k => if k = 0 then (4607182418800017408, 0) else if k = 1 then (0, 4607182418800017408) else if k = 2 then (13830554455654793216, 0) else (0, 13830554455654793216)
theorem near4 : allN 4 (fun k => nearB (rb (k * 64)) (lit4 k)) = true := by decide +kernel

def A12 : Nat → Int := fun i => if i = 0 then 1 else 2
def B34 : Nat → Int := fun i => if i = 0 then 3 else 4
theorem aliveFacts : mulE A12 B34 2 2 = 0 ∧ mulL A12 B34 2 2 = 3 ∧ convI A12 B34 2 2 0 = 3 ∧ convI A12 B34 2 2 1 = 10 ∧ convI A12 B34 2 2 2 = 8 := by decide +kernel

theorem cell_new (w : World) (cs : Array Value) (t : TypeId) (i : Nat) (v : Value) (h : cs[i]? = some v) : (w.alloc (.cells cs t)).cell? ⟨w.heap.size, i, none⟩ = some v := by
  unfold World.cell?
  simp only []
  rw [heap_alloc_new]
  exact h

set_option maxRecDepth 20000 in
set_option maxHeartbeats 2000000 in
theorem alive (w : World) (ht : Tabs w) (hg : 2 < w.heap.size) :
    Calls Tryd.prog 11 #[] w fun e w' => e = .returned (.bool true) ∧ Below w.heap.size w w' := by
  obtain ⟨T, hT⟩ : ∃ T, T = (w.alloc (.cells #[.int .i64 1, .int .i64 2] 3)).alloc (.cells #[.int .i64 3, .int .i64 4] 3) := ⟨_, rfl⟩
  have hTb : Below w.heap.size w T := by rw [hT]; exact ((Below.refl _ w).alloc (Nat.le_refl _) _).alloc (by simp) _
  have hTs : T.heap.size = w.heap.size + 2 := by rw [hT]; simp
  have iA : Ints T (.slice (some ⟨w.heap.size, 0, none⟩) 2 2) 2 A12 := by
    refine .inr ⟨w.heap.size, 0, 2, rfl, fun i hi => ?_⟩
    rw [Nat.zero_add, hT]
    refine (((Below.refl _ _).alloc (Nat.le_refl _) _).cell (p := ⟨w.heap.size, i, none⟩) (by simp)).trans (cell_new _ _ _ _ _ ?_)
    rcases (show i = 0 ∨ i = 1 by omega) with rfl | rfl <;> rfl
  have iB : Ints T (.slice (some ⟨w.heap.size + 1, 0, none⟩) 2 2) 2 B34 := by
    refine .inr ⟨w.heap.size + 1, 0, 2, rfl, fun i hi => ?_⟩
    rw [Nat.zero_add, hT]
    have := cell_new (w.alloc (.cells #[.int .i64 1, .int .i64 2] 3)) #[.int .i64 3, .int .i64 4] 3 i (.int .i64 (B34 i)) (by rcases (show i = 0 ∨ i = 1 by omega) with rfl | rfl <;> rfl)
    rwa [show (w.alloc (.cells #[.int .i64 1, .int .i64 2] 3)).heap.size = w.heap.size + 1 by simp] at this
  obtain ⟨f1, f2, f3, f4, f5⟩ := aliveFacts
  have hm := multiplyAny _ _ A12 B34 2 2 T (ht.below hTb hg) (by omega) iA iB (by decide) (by decide)
  unfold MulPost at hm
  rw [f1, f2] at hm
  have HM := Lib.hid hm
  have HE := Lib.hid hT
  have HT := Lib.hid (And.intro ht (And.intro hg hTb))
  have HTs := Lib.hid hTs
  clear hT hTb hTs iA iB hm ht hg f1 f2
  go_enter Tryd.func11, Tryd.ntmps11
  go_wp2_with fail
  rw [← HE.out]
  refine HM.out.mono ?_
  rintro e w1 ⟨v, rfl, hv, hb1⟩
  have H1 := Lib.hid (show Below w.heap.size w w1 ∧ w.heap.size < w1.heap.size from ⟨HT.out.2.2.trans (hb1.mono (by have := HTs.out; omega)), by have := hb1.size; have := HTs.out; omega⟩)
  have HV := Lib.hid hv
  clear hb1 hv HM HE
  go_wp2_with fail
  have hlits : Ints (w1.alloc (.cells #[.int .i64 3, .int .i64 10, .int .i64 8] 3)) (.slice (some ⟨w1.heap.size, 0, none⟩) 3 3) 3 (convI A12 B34 2 2) := by
    refine .inr ⟨w1.heap.size, 0, 3, rfl, fun i hi => ?_⟩
    rw [Nat.zero_add]
    refine cell_new _ _ _ _ _ ?_
    rcases (show i = 0 ∨ i = 1 ∨ i = 2 by omega) with rfl | rfl | rfl
    · rw [f3]; rfl
    · rw [f4]; rfl
    · rw [f5]; rfl
  refine (equalInts _ _ 3 _ (by decide) _ (HV.out.below ((Below.refl _ _).alloc (Nat.le_refl _) _)) hlits).mono ?_
  rintro e w2 ⟨rfl, hb2⟩
  have H2 := Lib.hid (show Below w.heap.size w w2 ∧ w.heap.size < w2.heap.size ∧ Tabs w2 ∧ 2 < w2.heap.size from by
    have h1 := H1.out.2
    have h2 := hb2.size
    have h3 : Below w.heap.size w w2 := (H1.out.1.alloc (Nat.le_of_lt h1) _).trans (hb2.mono (by simp; omega))
    simp at h2
    exact ⟨h3, by omega, HT.out.1.below h3 HT.out.2.1, by have := HT.out.2.1; omega⟩)
  clear hb2 hlits HV H1
  go_wp2_with fail
  refine (roots 4 (fun k => rb (k * 64)) (isP_pow 2 (by decide)) (fun k hk => root_tab 2 k (by decide) hk) _ H2.out.2.2.1 H2.out.2.2.2).mono ?_
  rintro e w3 ⟨rfl, hr3, hb3⟩
  have H3 := Lib.hid (show Below w.heap.size w w3 ∧ w.heap.size < w3.heap.size ∧ Row w3 w2.heap.size 34 4 (fun i => cval (rb (i * 64))) from ⟨H2.out.1.trans (hb3.mono (by have := H2.out.2.1; omega)), by have := hb3.size; have := H2.out.2.1; omega, hr3⟩)
  clear hr3 hb3
  go_wp2_with fail
  refine (allTrue w2.heap.size w3.heap.size 4 4 4 (fun k => rb (k * 64)) lit4 (by decide) (fun i hi => allN_at near4 i hi) _ (fun i hi => ?_) (fun i hi => ?_)).mono ?_
  · exact (H3.out.2.2.alloc _).cell i hi
  · refine cell_new _ _ _ _ _ ?_
    rcases (show i = 0 ∨ i = 1 ∨ i = 2 ∨ i = 3 by omega) with rfl | rfl | rfl | rfl <;> rfl
  rintro e w4 ⟨rfl, hb4⟩
  have H4 := Lib.hid (show Below w.heap.size w w4 ∧ w.heap.size < w4.heap.size ∧ Tabs w4 ∧ 2 < w4.heap.size from by
    have h1 := H3.out.2.1
    have h2 := hb4.size
    have h3 : Below w.heap.size w w4 := (H3.out.1.alloc (Nat.le_of_lt h1) _).trans (hb4.mono (by simp; omega))
    simp at h2
    exact ⟨h3, by omega, HT.out.1.below h3 HT.out.2.1, by have := HT.out.2.1; omega⟩)
  clear hb4 H3 H2
  have hmk : (Instr.makeSlice 30 (.int .i64 2) (.int .i64 2)).run Tryd.prog w4 = .ok (.slice (some ⟨w4.heap.size, 0, none⟩) 2 2) (w4.alloc (.cells ((List.range 2).map fun _ => cval (0, 0)).toArray 34)) := make_c 2 (by decide) w4
  have K4 := Lib.hid (show CB (w4.alloc (.cells ((List.range 2).map fun _ => cval (0, 0)).toArray 34)) w4.heap.size (2 ^ 1) zeros ∧ Below w4.heap.size w4 (w4.alloc (.cells ((List.range 2).map fun _ => cval (0, 0)).toArray 34)) from ⟨(Row.new w4 _ _ 2 (fun _ => cval (0, 0)) rfl).toCB, by go_grown⟩)
  obtain ⟨T4, hT4⟩ : ∃ T4, T4 = w4.alloc (.cells ((List.range 2).map fun _ => cval (0, 0)).toArray 34) := ⟨_, rfl⟩
  rw [← hT4] at hmk K4
  have HS4 := Lib.hid (show T4.heap.size = w4.heap.size + 1 by rw [hT4]; simp)
  clear hT4
  go_wp2_with fail
  refine (transformZ 1 (by decide) w4.heap.size 2 T4 (H4.out.2.2.1.below K4.out.2 H4.out.2.2.2) (by have := HS4.out; have := H4.out.2.2.2; omega) K4.out.1).mono ?_
  rintro e w5 ⟨g5, c5, rfl, _, _, _, hb5⟩
  have H5 := Lib.hid (show Below w.heap.size w w5 ∧ w.heap.size < w5.heap.size ∧ Tabs w5 ∧ 2 < w5.heap.size from by
    have h1 := H4.out.2.1
    have h2 := hb5.size
    have h4 := HS4.out
    have h3 : Below w.heap.size w w5 := (H4.out.1.trans (K4.out.2.mono (Nat.le_of_lt h1))).trans (hb5.mono (by omega))
    exact ⟨h3, by omega, HT.out.1.below h3 HT.out.2.1, by have := HT.out.2.1; omega⟩)
  clear hb5 H4 K4 HS4 hmk
  have hmk : (Instr.makeSlice 30 (.int .i64 2) (.int .i64 2)).run Tryd.prog w5 = .ok (.slice (some ⟨w5.heap.size, 0, none⟩) 2 2) (w5.alloc (.cells ((List.range 2).map fun _ => cval (0, 0)).toArray 34)) := make_c 2 (by decide) w5
  have K5 := Lib.hid (show CB (w5.alloc (.cells ((List.range 2).map fun _ => cval (0, 0)).toArray 34)) w5.heap.size (2 ^ 1) zeros ∧ Below w5.heap.size w5 (w5.alloc (.cells ((List.range 2).map fun _ => cval (0, 0)).toArray 34)) from ⟨(Row.new w5 _ _ 2 (fun _ => cval (0, 0)) rfl).toCB, by go_grown⟩)
  obtain ⟨T5, hT5⟩ : ∃ T5, T5 = w5.alloc (.cells ((List.range 2).map fun _ => cval (0, 0)).toArray 34) := ⟨_, rfl⟩
  rw [← hT5] at hmk K5
  have HS5 := Lib.hid (show T5.heap.size = w5.heap.size + 1 by rw [hT5]; simp)
  clear hT5
  go_wp2_with fail
  refine (inverseZ 1 (by decide) w5.heap.size 2 T5 (H5.out.2.2.1.below K5.out.2 H5.out.2.2.2) (by have := HS5.out; have := H5.out.2.2.2; omega) K5.out.1).mono ?_
  rintro e w6 ⟨g6, c6, rfl, _, _, _, hb6⟩
  have H6 := Lib.hid (show Below w.heap.size w w6 from (H5.out.1.trans (K5.out.2.mono (by have := H5.out.2.1; omega))).trans (hb6.mono (by have := HS5.out; have := H5.out.2.1; omega)))
  clear hb6 H5 K5 HS5 hmk
  go_wp2
  go_ret
  exact ⟨rfl, H6.out⟩
end Go.Proofs.YtijbjncdiojpdaaDoor
