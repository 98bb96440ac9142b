/- The examples of the chapter on masks hold. -/
import Derived.Test.YtacghnepggkgpaaMaskLaw
namespace Go.Proofs.Ytacghnepggkgpaa
open Go.RowKit
attribute [local go_sem ↓] add_UU sub_UU mul_UU add_UL add_LU sub_UL sub_LU mul_UL neg_at not_at and_UU or_UU xor_UU andNot_UU and_UL or_LU shr_UL shl_UL shr_UN shl_UN quo_UL rem_UL quo_UU rem_UU
attribute [local go_sem] wrap8_U wrap32_U wrap64_B wrap32_B wrap8_D wrapi_B wrap64_UU eq_UU ne_UU eq_UL ne_UL lt_UU le_UU

theorem isZero_none (w : World) : Calls Try.prog 22 #[.slice none 0 0] w fun e w' => e = .returned (.int .u64 (U ones)) ∧ w = w' :=
  (isZero_nil none 0 w).mono fun e w' h => by rw [show zeroW 0#64 = ones from by decide] at h; exact h

theorem table_789 (w : World) (b : Nat) (hb : b < w.heap.size) (hc : w.heap[b]? = some (.cells #[.int .u64 7, .int .u64 8, .int .u64 9] 22)) :
    Calls Try.prog 26 #[.slice (some ⟨b, 0, none⟩) 3 3, .int .u64 1] w fun e w' => e = .returned (.int .u64 (U 8#64)) ∧ Below w.heap.size w w' := by
  have h := table (some ⟨b, 0, none⟩) 3 3 [7#64, 8#64, 9#64] 1#64 (by decide) w (.inr ⟨b, 0, 3, rfl, hb, fun j hj => by
    unfold World.cell?
    simp only []
    rw [hc]
    match j, hj with
    | 0, _ => rfl
    | 1, _ => rfl
    | 2, _ => rfl⟩)
  rw [show tabT 1#64 (upto (entry [7#64, 8#64, 9#64]) [7#64, 8#64, 9#64].length) = 8#64 from by decide] at h
  exact h

set_option maxHeartbeats 1000000 in
theorem alive (w : World) :
    Calls Try.prog 15 #[] w fun e w' => e = .returned (.bool true) ∧ Below w.heap.size w w' := by
  have l1 : lessW 1#64 2#64 = ones := by decide
  have l2 : lessW 2#64 1#64 = 0#64 := by decide
  have l3 : chooseW 255#64 4660#64 22136#64 = 22068#64 := by decide
  have l4 : equalW 3#64 3#64 = ones := by decide
  go_enter Try.func15, Try.ntmps15
  go_wp2_with fail
  refine (less 1#64 2#64 _).mono ?_
  rintro e w1 ⟨rfl, rfl⟩
  go_wp2_with fail
  refine (less 2#64 1#64 _).mono ?_
  rintro e w1 ⟨rfl, rfl⟩
  go_wp2_with fail
  refine (choose 255#64 4660#64 22136#64 _).mono ?_
  rintro e w1 ⟨rfl, rfl⟩
  go_wp2_with fail
  refine (table_789 _ w.heap.size (by simp) (heap_alloc_new w _)).mono ?_
  rintro e w1 ⟨rfl, hb1⟩
  go_wp2_with fail
  refine (isZero_none _).mono ?_
  rintro e w2 ⟨rfl, rfl⟩
  go_wp2_with fail
  refine (equal 3#64 3#64 _).mono ?_
  rintro e w3 ⟨rfl, hb3⟩
  go_wp2
  go_ret
  have hb2 : Below w.heap.size w w1 := ((Below.refl _ w).alloc (Nat.le_refl _) _).trans (hb1.mono (by simp))
  exact ⟨rfl, hb2.trans (hb3.mono hb2.size)⟩

end Go.Proofs.Ytacghnepggkgpaa
