/- The walk of the law DftDistributes. -/
import Derived.Test.YtijbjncdiojpdaaDoorWTri
namespace Go.Proofs.YtijbjncdiojpdaaDoor
open Go.RowKit
attribute [local go_sem ↓] add_UU sub_UU mul_UU add_UL add_LU sub_UL sub_LU mul_UL neg_at not_at and_UU or_UU xor_UU andNot_UU and_UL or_LU shr_UL shl_UL shr_UN shl_UN quo_UL rem_UL quo_UU rem_UU
attribute [local go_sem] wrap8_U wrap32_U wrap64_B wrap32_B wrap8_D wrapi_B wrap64_UU eq_UU ne_UU eq_UL ne_UL lt_UU le_UU
attribute [local go_sem ↓] run_fadd run_fsub run_fmul run_fquo
attribute [local go_sem] fRes_some unary_neg_f run_store_complex run_store_float

theorem conv_add (A B C : Nat → Int) (la lb c : Nat) : convI A (fun i => B i + C i) la lb c = convI A B la lb c + convI A C la lb c := by
  unfold convI
  rw [← sumI_add]
  refine sumI_congr fun a _ => ?_
  split
  · rw [Int.mul_add]
  · rfl
theorem mulE_ok2 {A B C : Nat → Int} {la lb : Nat} (hb : bad B lb = false) (hc : bad C lb = false) : mulE A B la lb = mulE A C la lb := by
  unfold mulE
  rw [hb, hc]
theorem bad_small {B : Nat → Int} {l : Nat} (h : ∀ i, i < l → -1000 ≤ B i ∧ B i ≤ 1000) : bad B l = false :=
  bad_of fun i hi => by
    have := h i hi
    unfold outB
    simp
    omega

set_option maxRecDepth 20000 in
set_option maxHeartbeats 4000000 in
theorem walkDftDistributes (va : Value) (A : Nat → Int) (la : Nat) (X : Nat → Int) (arr : Array Value) (w : World) (ht : Tabs w) (hg : 2 < w.heap.size) (hA : Ints w va la A) (sa : la * 8 ≤ 140737488351232)
    (hX : ∀ i, i < 16 → arr[i]? = some (.int .i16 (X i))) :
    Calls Tryd.prog 7 #[va, .agg arr] w fun e w' => e = .returned (.bool true) ∧ Below w.heap.size w w' := by
  have HI := Lib.hid (And.intro ht (And.intro hg (And.intro hA sa)))
  have HT := Lib.hid (Tri.start w X arr 43 hX)
  obtain ⟨i0, hi0, hz0, hz1, hz2⟩ := info_parts info_i
  obtain ⟨BX, hBX⟩ : ∃ BX : Nat → Int, BX = rem500 X := ⟨_, rfl⟩
  obtain ⟨CX, hCX⟩ : ∃ CX : Nat → Int, CX = fun i => rem500 X (8 + i) := ⟨_, rfl⟩
  obtain ⟨SX, hSX⟩ : ∃ SX : Nat → Int, SX = fun i => BX i + CX i := ⟨_, rfl⟩
  have bB : ∀ i, -499 ≤ BX i ∧ BX i ≤ 499 := fun i => by rw [hBX]; exact rem500_le X i
  have bC : ∀ i, -499 ≤ CX i ∧ CX i ≤ 499 := fun i => by rw [hCX]; exact rem500_le X (8 + i)
  have HB := Lib.hid (And.intro hBX (And.intro hCX hSX))
  have HBD := Lib.hid (And.intro bB bC)
  clear ht hg hA sa hX hBX hCX hSX bB bC
  go_enter Tryd.func7, Tryd.ntmps7
  go_wp2
  go_loopw [5, 6, 7, 18] (fun vb vc vs j wr => ∃ k : Nat, k ≤ 8 ∧ j = .int .i64 k ∧ Tri w wr X vb vc vs k k k (ivals BX k) (ivals CX k) (ivals SX k)) (fun _ _ _ j _ => 8 - (intOf j).toNat)
  case atStart => exact ⟨0, by omega, rfl, HT.out⟩
  case round =>
    clear HT
    obtain ⟨k, hk, rfl, ht⟩ := hrel
    by_cases hlt : k < 8
    · have k0 : (0 : Int) ≤ (k : Int) := Int.natCast_nonneg k
      have hlt' : (k : Int) < 8 := by omega
      have c1 := ht.box k (by omega)
      have c2 := ht.box (8 + k) (by omega)
      have e1 : (X k).tmod 500 = BX k := by rw [HB.out.1]; rfl
      have e2 : (X (8 + k)).tmod 500 = CX k := by rw [HB.out.2.1]; rfl
      obtain ⟨r11, r12⟩ := HBD.out.1 k
      obtain ⟨r21, r22⟩ := HBD.out.2 k
      have HH := Lib.hid ht
      clear ht
      go_wp2
      go_quiet (fail)
      have H0 := Lib.hid (HH.out.drewN nq)
      clear HH
      go_wp2_with (at_builtin; refine wpList_append_lies rfl _ _ 22 rfl (w.heap.size + 1) 3 i0 (.int .i64 0) 1 8 Tryd.underlying22 hi0 hz0 hz1 hz2 rfl (by decide) _ _ _ rfl (H0.out.o1.alloc _) ⟨wr.heap.size, 0, none⟩ 1 1 [.int .i64 (BX k)] rfl (by decide) ?c1 ?c2 ?c3 ?c4 ?c5 ?c6 ?_)
      case c1 => rfl
      case c2 => exact cell_one_new _ _ _
      case c3 => intro u hu; simp at hu; subst hu; rfl
      case c4 => unfold maxLen; omega
      case c5 => omega
      case c6 => have := H0.out.lt; simp; (try simp at this); omega
      intro va1 wva1 hown hgr hll
      obtain ⟨gva1, capva1, rfl⟩ : ∃ g cap, va1 = .slice (some ⟨g, 0, none⟩) (k + 1) cap := owns_form hown (by omega)
      have H1 := Lib.hid (H0.out.step (ob := .cells #[.int .i64 (BX k)] 3) hown hgr hll).rot
      clear hown hgr hll H0
      go_wp2_with (at_builtin; refine wpList_append_lies rfl _ _ 22 rfl (w.heap.size + 1) 3 i0 (.int .i64 0) 1 8 Tryd.underlying22 hi0 hz0 hz1 hz2 rfl (by decide) _ _ _ rfl (H1.out.o1.alloc _) ⟨wva1.heap.size, 0, none⟩ 1 1 [.int .i64 (CX k)] rfl (by decide) ?c1 ?c2 ?c3 ?c4 ?c5 ?c6 ?_)
      case c1 => rfl
      case c2 => exact cell_one_new _ _ _
      case c3 => intro u hu; simp at hu; subst hu; rfl
      case c4 => unfold maxLen; omega
      case c5 => omega
      case c6 => have := H1.out.lt; simp; (try simp at this); omega
      intro va2 wva2 hown hgr hll
      obtain ⟨gva2, capva2, rfl⟩ : ∃ g cap, va2 = .slice (some ⟨g, 0, none⟩) (k + 1) cap := owns_form hown (by omega)
      have H2 := Lib.hid (H1.out.step (ob := .cells #[.int .i64 (CX k)] 3) hown hgr hll).rot
      clear hown hgr hll H1
      go_wp2_with (at_builtin; refine wpList_append_lies rfl _ _ 22 rfl (w.heap.size + 1) 3 i0 (.int .i64 0) 1 8 Tryd.underlying22 hi0 hz0 hz1 hz2 rfl (by decide) _ _ _ rfl (H2.out.o1.alloc _) ⟨wva2.heap.size, 0, none⟩ 1 1 [.int .i64 (BX k + CX k)] rfl (by decide) ?c1 ?c2 ?c3 ?c4 ?c5 ?c6 ?_)
      case c1 => rfl
      case c2 => exact cell_one_new _ _ _
      case c3 => intro u hu; simp at hu; subst hu; rfl
      case c4 => unfold maxLen; omega
      case c5 => omega
      case c6 => have := H2.out.lt; simp; (try simp at this); omega
      intro va3 wva3 hown hgr hll
      obtain ⟨gva3, capva3, rfl⟩ : ∃ g cap, va3 = .slice (some ⟨g, 0, none⟩) (k + 1) cap := owns_form hown (by omega)
      have H3 := Lib.hid (H2.out.step (ob := .cells #[.int .i64 (BX k + CX k)] 3) hown hgr hll).rot
      clear hown hgr hll H2
      go_wp2
      refine ⟨⟨k + 1, by omega, by go_num, ?_⟩, by simp [intOf]; omega⟩
      rw [ivals_succ, ivals_succ, ivals_succ]
      have := H3.out
      rw [show BX k + CX k = SX k by rw [HB.out.2.2]] at this
      exact this
    · obtain rfl : k = 8 := by omega
      have HS := Lib.hid (show Ints wr u5 8 BX ∧ Ints wr u6 8 CX ∧ Ints wr u7 8 SX ∧ Below w.heap.size w wr from ⟨Ints.of_ivals (by decide) ht.o1, Ints.of_ivals (by decide) ht.o2, Ints.of_ivals (by decide) ht.o3, ht.below⟩)
      have bB : bad BX 8 = false := bad_small fun i _ => by have := HBD.out.1 i; omega
      have bC : bad CX 8 = false := bad_small fun i _ => by have := HBD.out.2 i; omega
      have bS : bad SX 8 = false := bad_small fun i _ => by have := HBD.out.1 i; have := HBD.out.2 i; rw [HB.out.2.2]; simp only; omega
      have eC : mulE A CX la 8 = mulE A BX la 8 := mulE_ok2 bC bB
      have eS : mulE A SX la 8 = mulE A BX la 8 := mulE_ok2 bS bB
      have lC : mulL A CX la 8 = mulL A BX la 8 := by unfold mulL; rw [eC]
      have lS : mulL A SX la 8 = mulL A BX la 8 := by unfold mulL; rw [eS]
      have cS : ∀ i, convI A SX la 8 i = convI A BX la 8 i + convI A CX la 8 i := fun i => by rw [HB.out.2.2]; exact conv_add A BX CX la 8 i
      have HLe := Lib.hid (mulL_le A BX la 8)
      have HR := Lib.hid (show mulL A BX la 8 ≠ 0 → ∀ i, (-64000000 ≤ convI A BX la 8 i ∧ convI A BX la 8 i ≤ 64000000) ∧ (-64000000 ≤ convI A CX la 8 i ∧ convI A CX la 8 i ≤ 64000000) from by
        intro h i
        have h0 : mulE A BX la 8 = 0 := by
          by_cases h1 : mulE A BX la 8 = 0
          · exact h1
          · exact absurd (by unfold mulL; rw [if_neg (fun h2 => h1 h2.1)]) h
        obtain ⟨x1, _, x2, _⟩ := mulE_zero h0
        exact ⟨convI_le A BX la 8 x1 (bad_false x2) (bad_false bB) i, convI_le A CX la 8 x1 (bad_false x2) (bad_false bC) i⟩)
      have hM := multiplyAny va u5 A BX la 8 wr (HI.out.1.below HS.out.2.2.2 HI.out.2.1) (by have := HS.out.2.2.2.size; have := HI.out.2.1; omega) (HI.out.2.2.1.below HS.out.2.2.2) HS.out.1 HI.out.2.2.2 (by decide)
      unfold MulPost at hM
      have HM := Lib.hid hM
      have HX := Lib.hid (And.intro eC (And.intro eS (And.intro lC (And.intro lS cS))))
      clear hM ht bB bC bS eC eS lC lS cS hk hlt
      go_wp2_with fail
      refine HM.out.mono ?_
      rintro e w1 ⟨vm, rfl, hvm, hb1⟩
      have hM := multiplyAny va u6 A CX la 8 w1 (HI.out.1.below (HS.out.2.2.2.trans (hb1.mono HS.out.2.2.2.size)) HI.out.2.1) (by have := HS.out.2.2.2.size; have := hb1.size; have := HI.out.2.1; omega) ((HI.out.2.2.1.below HS.out.2.2.2).below hb1) (HS.out.2.1.below hb1) HI.out.2.2.2 (by decide)
      unfold MulPost at hM
      rw [HX.out.1, HX.out.2.2.1] at hM
      have HM2 := Lib.hid hM
      have H1 := Lib.hid (show Ints w1 vm (mulL A BX la 8) (convI A BX la 8) ∧ Below w.heap.size w w1 ∧ Ints w1 u7 8 SX from ⟨hvm, HS.out.2.2.2.trans (hb1.mono HS.out.2.2.2.size), HS.out.2.2.1.below hb1⟩)
      clear hM hvm hb1 HM HS
      go_wp2_with fail
      refine HM2.out.mono ?_
      rintro e w2 ⟨vn, rfl, hvn, hb2⟩
      have hM := multiplyAny va u7 A SX la 8 w2 (HI.out.1.below (H1.out.2.1.trans (hb2.mono H1.out.2.1.size)) HI.out.2.1) (by have := H1.out.2.1.size; have := hb2.size; have := HI.out.2.1; omega) ((HI.out.2.2.1.below H1.out.2.1).below hb2) (H1.out.2.2.below hb2) HI.out.2.2.2 (by decide)
      unfold MulPost at hM
      rw [HX.out.2.1, HX.out.2.2.2.1] at hM
      have HM3 := Lib.hid hM
      have H2 := Lib.hid (show Ints w2 vm (mulL A BX la 8) (convI A BX la 8) ∧ Ints w2 vn (mulL A BX la 8) (convI A CX la 8) ∧ Below w.heap.size w w2 from ⟨H1.out.1.below hb2, hvn, H1.out.2.1.trans (hb2.mono H1.out.2.1.size)⟩)
      clear hM hvn hb2 HM2 H1
      go_wp2_with fail
      refine HM3.out.mono ?_
      rintro e w3 ⟨vs, rfl, hvs, hb3⟩
      have H3 := Lib.hid (show Ints w3 vm (mulL A BX la 8) (convI A BX la 8) ∧ Ints w3 vn (mulL A BX la 8) (convI A CX la 8) ∧ Ints w3 vs (mulL A BX la 8) (convI A SX la 8) ∧ Below w.heap.size w w3 from ⟨H2.out.1.below hb3, H2.out.2.1.below hb3, hvs, H2.out.2.2.trans (hb3.mono H2.out.2.2.size)⟩)
      obtain ⟨pm, cm, rfl⟩ := H3.out.1.form
      obtain ⟨pn, cn, rfl⟩ := H3.out.2.1.form
      obtain ⟨ps, cs, rfl⟩ := hvs.form
      have hme := mulE_cases A BX la 8
      clear hvs hb3 HM3 H2
      generalize mulL A BX la 8 = L at *
      generalize mulE A BX la 8 = E at *
      have hL := HLe.out
      have hL' : (L : Int) ≤ 127 := by omega
      clear hme
      go_wp2
      go_loopw [90] (fun j wr => ∃ q : Nat, q ≤ L ∧ j = .int .i64 q ∧ Below w3.heap.size w3 wr) (fun j _ => L - (intOf j).toNat)
      case atStart => exact ⟨0, by omega, rfl, Below.refl _ _⟩
      case round =>
        obtain ⟨q, hq, rfl, hb⟩ := hrel
        have q0 : (0 : Int) ≤ (q : Int) := Int.natCast_nonneg q
        by_cases hlt : q < L
        · have hlt' : (q : Int) < (L : Int) := by omega
          obtain ⟨b1, o1, d1, f1, g1⟩ : ∃ b1 o1 d1, Value.slice pm L cm = .slice (some ⟨b1, o1, none⟩) L d1 ∧ w3.cell? ⟨b1, o1 + q, none⟩ = some (.int .i64 (convI A BX la 8 q)) := by
            rcases H3.out.1 with ⟨h, _⟩ | ⟨b1, o1, c1, h1, h2⟩
            · omega
            · exact ⟨b1, o1, c1, h1, h2 q hlt⟩
          cases f1
          obtain ⟨b2, o2, d2, f2, g2⟩ : ∃ b1 o1 d1, Value.slice pn L cn = .slice (some ⟨b1, o1, none⟩) L d1 ∧ w3.cell? ⟨b1, o1 + q, none⟩ = some (.int .i64 (convI A CX la 8 q)) := by
            rcases H3.out.2.1 with ⟨h, _⟩ | ⟨b1, o1, c1, h1, h2⟩
            · omega
            · exact ⟨b1, o1, c1, h1, h2 q hlt⟩
          cases f2
          obtain ⟨b3, o3, d3, f3, g3⟩ : ∃ b1 o1 d1, Value.slice ps L cs = .slice (some ⟨b1, o1, none⟩) L d1 ∧ w3.cell? ⟨b1, o1 + q, none⟩ = some (.int .i64 (convI A SX la 8 q)) := by
            rcases H3.out.2.2.1 with ⟨h, _⟩ | ⟨b1, o1, c1, h1, h2⟩
            · omega
            · exact ⟨b1, o1, c1, h1, h2 q hlt⟩
          cases f3
          rw [HX.out.2.2.2.2 q] at g3
          obtain ⟨⟨t1, t2⟩, t3, t4⟩ := HR.out (by omega) q
          generalize convI A BX la 8 q = y1 at *
          generalize convI A CX la 8 q = y2 at *
          have k1 := (hb.cell (p := ⟨b1, o1 + q, none⟩) (World.block_lt_of_cell? w3 _ g1)).trans g1
          have k2 := (hb.cell (p := ⟨b2, o2 + q, none⟩) (World.block_lt_of_cell? w3 _ g2)).trans g2
          have k3 := (hb.cell (p := ⟨b3, o3 + q, none⟩) (World.block_lt_of_cell? w3 _ g3)).trans g3
          have HB' := Lib.hid hb
          clear hb g1 g2 g3
          go_wp2
          go_quiet (fail)
          go_wp2
          refine ⟨⟨q + 1, by omega, by go_num, below_drewN HB'.out _⟩, by simp [intOf]; omega⟩
        · obtain rfl : q = L := by omega
          have H4 := Lib.hid (H3.out.2.2.2.trans (hb.mono H3.out.2.2.2.size))
          clear hb
          go_wp2_with fail
          refine (alive _ (HI.out.1.below H4.out HI.out.2.1) (by have := H4.out.size; have := HI.out.2.1; omega)).mono ?_
          rintro e w5 ⟨rfl, hb5⟩
          have H5 := Lib.hid (H4.out.trans (hb5.mono H4.out.size))
          clear hb5
          go_wp2
          go_ret
          exact ⟨rfl, H5.out⟩
theorem walkDftDistributes' (w : World) (ht : Tabs w) (hg : 2 < w.heap.size) (va : Value) (A : Nat → Int) (la : Nat) (hA : Ints w va la A) (sa : la * 8 ≤ 140737488351232) (arr : Array Value) (X : Nat → Int) (hX : ∀ i, i < 16 → arr[i]? = some (.int .i16 (X i))) :
    Calls Tryd.prog 7 #[va, .agg arr] w fun e w' => e = .returned (.bool true) ∧ Below w.heap.size w w' := walkDftDistributes va A la X arr w ht hg hA sa hX
end Go.Proofs.YtijbjncdiojpdaaDoor
