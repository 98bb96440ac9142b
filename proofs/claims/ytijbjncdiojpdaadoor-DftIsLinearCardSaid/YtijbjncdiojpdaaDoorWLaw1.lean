/- The walks of the laws DftMultiplies, DftCommutes. -/
import Derived.Test.YtijbjncdiojpdaaDoorWAlive
namespace Go.Proofs.YtijbjncdiojpdaaDoor
open Go.RowKit
attribute [local go_sem ↓] add_UU sub_UU mul_UU add_UL add_LU sub_UL sub_LU mul_UL neg_at not_at and_UU or_UU xor_UU andNot_UU and_UL or_LU shr_UL shl_UL shr_UN shl_UN quo_UL rem_UL quo_UU rem_UU
attribute [local go_sem] wrap8_U wrap32_U wrap64_B wrap32_B wrap8_D wrapi_B wrap64_UU eq_UU ne_UU eq_UL ne_UL lt_UU le_UU
attribute [local go_sem ↓] run_fadd run_fsub run_fmul run_fquo
attribute [local go_sem] fRes_some unary_neg_f run_store_complex run_store_float

theorem mulL_le (A B : Nat → Int) (la lb : Nat) : mulL A B la lb ≤ 127 := by
  unfold mulL
  split
  · rename_i h
    have := mulE_zero h.1
    omega
  · omega

theorem walkDftMultiplies (va vb : Value) (A B : Nat → Int) (la lb : Nat) (w : World) (ht : Tabs w) (hg : 2 < w.heap.size) (hA : Ints w va la A) (hB : Ints w vb lb B) (sa : la * 8 ≤ 140737488351232) (sb : lb * 8 ≤ 140737488351232) :
    Calls Tryd.prog 3 #[va, vb] w fun e w' => e = .returned (.bool true) ∧ Below w.heap.size w w' := by
  have hM := multiplyAny va vb A B la lb w ht hg hA hB sa sb
  unfold MulPost at hM
  have HM := Lib.hid hM
  have HI := Lib.hid (And.intro ht (And.intro hg (And.intro hA (And.intro hB (And.intro sa sb)))))
  have HL := Lib.hid (mulL_le A B la lb)
  clear hM ht hg hA hB sa sb
  go_enter Tryd.func3, Tryd.ntmps3
  go_wp2_with fail
  refine HM.out.mono ?_
  rintro e w1 ⟨v, rfl, hv, hb1⟩
  have hR := refMultiply va vb A B la lb w1 (HI.out.2.2.1.below hb1) (HI.out.2.2.2.1.below hb1) HI.out.2.2.2.2.1 HI.out.2.2.2.2.2
  unfold MulPost at hR
  have HR := Lib.hid hR
  have H1 := Lib.hid (And.intro hv hb1)
  clear hR hv hb1 HM
  go_wp2_with fail
  refine HR.out.mono ?_
  rintro e w2 ⟨v', rfl, hv', hb2⟩
  have H2 := Lib.hid (show Ints w2 v (mulL A B la lb) (convI A B la lb) ∧ Ints w2 v' (mulL A B la lb) (convI A B la lb) ∧ Below w.heap.size w w2 ∧ Tabs w2 ∧ 2 < w2.heap.size from by
    have h1 := H1.out.2.size
    have h2 := hb2.size
    have h3 := H1.out.2.trans (hb2.mono h1)
    have h4 := HI.out.2.1
    exact ⟨H1.out.1.below hb2, hv', h3, HI.out.1.below h3 h4, by omega⟩)
  clear hv' hb2 HR H1
  go_wp2_with fail
  refine (alive _ H2.out.2.2.2.1 H2.out.2.2.2.2).mono ?_
  rintro e w3 ⟨rfl, hb3⟩
  have H3 := Lib.hid (show Ints w3 v (mulL A B la lb) (convI A B la lb) ∧ Ints w3 v' (mulL A B la lb) (convI A B la lb) ∧ Below w.heap.size w w3 from
    ⟨H2.out.1.below hb3, H2.out.2.1.below hb3, H2.out.2.2.1.trans (hb3.mono H2.out.2.2.1.size)⟩)
  clear hb3 H2
  go_wp2_with fail
  refine (equalInts _ _ _ _ (by have := HL.out; omega) _ H3.out.1 H3.out.2.1).mono ?_
  rintro e w4 ⟨rfl, hb4⟩
  have H4 := Lib.hid (H3.out.2.2.trans (hb4.mono H3.out.2.2.size))
  clear hb4 H3
  go_wp2
  go_ret
  exact ⟨by simp, H4.out⟩
theorem walkDftMultiplies' (w : World) (ht : Tabs w) (hg : 2 < w.heap.size) (va : Value) (A : Nat → Int) (la : Nat) (hA : Ints w va la A) (sa : la * 8 ≤ 140737488351232) (vb : Value) (B : Nat → Int) (lb : Nat) (hB : Ints w vb lb B) (sb : lb * 8 ≤ 140737488351232) :
    Calls Tryd.prog 3 #[va, vb] w fun e w' => e = .returned (.bool true) ∧ Below w.heap.size w w' := walkDftMultiplies va vb A B la lb w ht hg hA hB sa sb
end Go.Proofs.YtijbjncdiojpdaaDoor
