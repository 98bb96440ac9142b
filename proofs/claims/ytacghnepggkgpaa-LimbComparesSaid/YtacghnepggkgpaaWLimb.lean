/- Walks of limb's Add, Sub. -/
import Derived.Test.YtacghnepggkgpaaWChain
namespace Go.Proofs.Ytacghnepggkgpaa
open Go.RowKit
attribute [local go_sem ↓] add_UU sub_UU mul_UU add_UL add_LU sub_UL sub_LU mul_UL neg_at not_at and_UU or_UU xor_UU andNot_UU and_UL or_LU shr_UL shl_UL shr_UN shl_UN quo_UL rem_UL quo_UU rem_UU
attribute [local go_sem] wrap8_U wrap32_U wrap64_B wrap32_B wrap8_D wrapi_B wrap64_UU eq_UU ne_UU eq_UL ne_UL lt_UU le_UU

set_option maxHeartbeats 1000000 in
theorem limbAdd (a b : V4) (w : World) :
    Calls Try.prog 33 #[a.val, b.val] w fun e w' => e = .returned (.tuple #[(chainN addF a b 4).1.val, .int .u64 (U (bw (chainN addF a b 4).2))]) ∧ Below w.heap.size w w' := by
  have HC := Lib.hid (chain_add a b)
  unfold V4.val V4.arr
  go_enter Try.func33, Try.ntmps33
  go_wp2_with fail
  refine (HC.out _).mono ?_
  rintro e w1 ⟨rfl, hb1⟩
  have ho : IsVec w1 (w.heap.size + 1 + 1) 38 V4.zero := (IsVec.newAt ((w.alloc (.cells a.arr 38)).alloc (.cells b.arr 38)) 38 V4.zero (w.heap.size + 1 + 1) (by simp)).below hb1 (by simp)
  have d0 := ho.cell 0 (by omega)
  have d1 := ho.cell 1 (by omega)
  have d2 := ho.cell 2 (by omega)
  have d3 := ho.cell 3 (by omega)
  have f0 := ho.frozen 0
  have f1 := ho.frozen 1
  have f2 := ho.frozen 2
  have f3 := ho.frozen 3
  have hB : Below w.heap.size w w1 := ((((Below.refl _ w).alloc (Nat.le_refl _) _).alloc (by simp) _).alloc (by simp; omega) _).trans (hb1.mono (by simp; omega))
  have HB := Lib.hid hB
  clear hb1 hB ho
  unfold V4.val V4.arr
  go_wp2
  refine bodyPost_ret (v := .tuple #[(chainN addF a b 4).1.val, .int .u64 (U (bw (chainN addF a b 4).2))]) (by simp [results, Try.results33, go_sem, d0, d1, d2, d3]; rfl) rfl ⟨rfl, ?_⟩
  have hB := HB.out
  go_grown

set_option maxHeartbeats 1000000 in
theorem limbSub (a b : V4) (w : World) :
    Calls Try.prog 35 #[a.val, b.val] w fun e w' => e = .returned (.tuple #[(chainN subF a b 4).1.val, .int .u64 (U (bw (chainN subF a b 4).2))]) ∧ Below w.heap.size w w' := by
  have HC := Lib.hid (chain_sub a b)
  unfold V4.val V4.arr
  go_enter Try.func35, Try.ntmps35
  go_wp2_with fail
  refine (HC.out _).mono ?_
  rintro e w1 ⟨rfl, hb1⟩
  have ho : IsVec w1 (w.heap.size + 1 + 1) 38 V4.zero := (IsVec.newAt ((w.alloc (.cells a.arr 38)).alloc (.cells b.arr 38)) 38 V4.zero (w.heap.size + 1 + 1) (by simp)).below hb1 (by simp)
  have d0 := ho.cell 0 (by omega)
  have d1 := ho.cell 1 (by omega)
  have d2 := ho.cell 2 (by omega)
  have d3 := ho.cell 3 (by omega)
  have f0 := ho.frozen 0
  have f1 := ho.frozen 1
  have f2 := ho.frozen 2
  have f3 := ho.frozen 3
  have hB : Below w.heap.size w w1 := ((((Below.refl _ w).alloc (Nat.le_refl _) _).alloc (by simp) _).alloc (by simp; omega) _).trans (hb1.mono (by simp; omega))
  have HB := Lib.hid hB
  clear hb1 hB ho
  unfold V4.val V4.arr
  go_wp2
  refine bodyPost_ret (v := .tuple #[(chainN subF a b 4).1.val, .int .u64 (U (bw (chainN subF a b 4).2))]) (by simp [results, Try.results35, go_sem, d0, d1, d2, d3]; rfl) rfl ⟨rfl, ?_⟩
  have hB := HB.out
  go_grown

end Go.Proofs.Ytacghnepggkgpaa
