/- The examples of the chapter on numbers hold. -/
import Derived.Test.YtacghnepggkgpaaWLimbMore
import Derived.Test.YtacghnepggkgpaaWEq
import Derived.Deep.RegionHeld3
namespace Go.Proofs.Ytacghnepggkgpaa
open Go.RowKit
attribute [local go_sem ↓] add_UU sub_UU mul_UU add_UL add_LU sub_UL sub_LU mul_UL neg_at not_at and_UU or_UU xor_UU andNot_UU and_UL or_LU shr_UL shl_UL shr_UN shl_UN quo_UL rem_UL quo_UU rem_UU
attribute [local go_sem] wrap64_N wrapi_mod wrap8_U wrap32_U wrap64_B wrap32_B wrap8_D wrapi_B wrap64_UU eq_UU ne_UU eq_UL ne_UL lt_UU le_UU

theorem eq_U0 (x : BitVec 64) : (U x == 0) = (x == 0#64) := eq_UL x 0 (by decide)
theorem eq_U0L (x : BitVec 64) : ((0 : Int) == U x) = (0#64 == x) := by rw [show (0 : Int) = U 0#64 from rfl, eq_UU]
theorem limbAdd_one (w : World) : Calls Try.prog 33 #[.agg #[.int .u64 18446744073709551615, .int .u64 18446744073709551615, .int .u64 18446744073709551615, .int .u64 18446744073709551615], .agg #[.int .u64 1, .int .u64 0, .int .u64 0, .int .u64 0]] w fun e w' => e = .returned (.tuple #[.agg #[.int .u64 0, .int .u64 0, .int .u64 0, .int .u64 0], .int .u64 1]) ∧ Below w.heap.size w w' := by
  have h := limbAdd ⟨18446744073709551615#64, 18446744073709551615#64, 18446744073709551615#64, 18446744073709551615#64⟩ ⟨1#64, 0#64, 0#64, 0#64⟩ w
  have e1 : (chainN addF ⟨18446744073709551615#64, 18446744073709551615#64, 18446744073709551615#64, 18446744073709551615#64⟩ ⟨1#64, 0#64, 0#64, 0#64⟩ 4).1 = V4.zero := by decide
  have e2 : (chainN addF ⟨18446744073709551615#64, 18446744073709551615#64, 18446744073709551615#64, 18446744073709551615#64⟩ ⟨1#64, 0#64, 0#64, 0#64⟩ 4).2 = true := by decide
  rw [e1, e2] at h
  exact h
theorem limbMul_four (w : World) : Calls Try.prog 28 #[.agg #[.int .u64 0, .int .u64 0, .int .u64 0, .int .u64 9223372036854775808], .agg #[.int .u64 4, .int .u64 0, .int .u64 0, .int .u64 0]] w fun e w' => e = .returned (.tuple #[.agg #[.int .u64 0, .int .u64 0, .int .u64 0, .int .u64 0], .agg #[.int .u64 2, .int .u64 0, .int .u64 0, .int .u64 0]]) ∧ Below w.heap.size w w' := by
  have h := limbMul ⟨0#64, 0#64, 0#64, 9223372036854775808#64⟩ ⟨4#64, 0#64, 0#64, 0#64⟩ w
  have he : mulOut ⟨0#64, 0#64, 0#64, 9223372036854775808#64⟩ ⟨4#64, 0#64, 0#64, 0#64⟩ 4 = [0#64, 0#64, 0#64, 0#64, 2#64, 0#64, 0#64, 0#64] := by decide
  refine Calls.mono h ?_
  rintro e w' ⟨lo, hi, rfl, hm, hb⟩
  refine ⟨?_, hb⟩
  have hm := he.symm.trans hm
  simp only [List.cons.injEq, and_true] at hm
  obtain ⟨h0, h1, h2, h3, h4, h5, h6, h7⟩ := hm
  unfold V4.val V4.arr
  rw [← h0, ← h1, ← h2, ← h3, ← h4, ← h5, ← h6, ← h7]
  rfl
theorem limbBits_35 (w : World) : Calls Try.prog 31 #[.agg #[.int .u64 4660, .int .u64 0, .int .u64 0, .int .u64 0], .int .i64 4, .int .i64 8] w fun e w' => e = .returned (.int .u64 35) ∧ Below w.heap.size w w' := by
  have h := limbBits ⟨4660#64, 0#64, 0#64, 0#64⟩ 4 8 (by decide) (by decide) w
  rw [show bitsN ⟨4660#64, 0#64, 0#64, 0#64⟩ 4 8 = 35#64 from by decide] at h
  exact h

set_option maxHeartbeats 1000000 in
theorem limbAlive (w : World) :
    Calls Try.prog 30 #[] w fun e w' => e = .returned (.bool true) ∧ Below w.heap.size w w' := by
  have heq := run_eql_four
  go_enter Try.func30, Try.ntmps30
  go_wp2_with fail
  refine (limbAdd_one _).mono ?_
  rintro e w1 ⟨rfl, hb1⟩
  have hs1 := hb1.size
  have X1 := Lib.hid (show IsVec (w1.alloc (.cells V4.zero.arr 38)) w1.heap.size 38 V4.zero ∧ Below w.heap.size w (w1.alloc (.cells V4.zero.arr 38)) from ⟨IsVec.newAt w1 _ _ _ rfl, hb1.alloc hs1 _⟩)
  clear hb1
  go_wp2_with fail
  refine (limbMul_four _).mono ?_
  rintro e w2 ⟨rfl, hb2⟩
  have hv1 := X1.out.1.below hb2 X1.out.1.lt
  have c0 := hv1.cell 0 (by omega)
  have c1 := hv1.cell 1 (by omega)
  have c2 := hv1.cell 2 (by omega)
  have c3 := hv1.cell 3 (by omega)
  have d0 : V4.zero.get 0 = 0#64 := rfl
  have d1 : V4.zero.get 1 = 0#64 := rfl
  have d2 : V4.zero.get 2 = 0#64 := rfl
  have d3 : V4.zero.get 3 = 0#64 := rfl
  rw [d0] at c0
  rw [d1] at c1
  rw [d2] at c2
  rw [d3] at c3
  have X2 := Lib.hid (X1.out.2.trans (hb2.mono X1.out.2.size))
  have hs2 := X2.out.size
  have hlt : w1.heap.size < w2.heap.size := hv1.lt
  clear hb2 hv1 X1 d0 d1 d2 d3
  go_wp2_with fail
  refine (limbBits_35 _).mono ?_
  rintro e w3 ⟨rfl, hb3⟩
  have X3 := Lib.hid hb3
  clear hb3
  go_wp2
  go_ret
  refine ⟨rfl, ?_⟩
  have h3 := X3.out
  exact (((X2.out).alloc hs2 _).alloc (by simp; omega) _).trans (h3.mono (by simp; omega))
end Go.Proofs.Ytacghnepggkgpaa
