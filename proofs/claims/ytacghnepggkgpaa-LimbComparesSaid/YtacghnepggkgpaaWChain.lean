/- Walks of limb's chain of carries, Add, Sub. -/
import Derived.Test.YtacghnepggkgpaaProg
import Derived.Test.YtacghnepggkgpaaV4
import Derived.Test.YtacghnepggkgpaaWMask
import Derived.Handy
import Derived.RegionTactic
import Derived.BigRegion
import Derived.Deep.QuietTactic
import Derived.BigQuiet
import Derived.StillTailTactics
namespace Go.Proofs.Ytacghnepggkgpaa
open Go.RowKit
attribute [local go_sem ↓] add_UU sub_UU mul_UU add_UL add_LU sub_UL sub_LU mul_UL neg_at not_at and_UU or_UU xor_UU andNot_UU and_UL or_LU shr_UL shl_UL shr_UN shl_UN quo_UL rem_UL quo_UU rem_UU
attribute [local go_sem] wrap8_U wrap32_U wrap64_B wrap32_B wrap8_D wrapi_B wrap64_UU eq_UU ne_UU eq_UL ne_UL lt_UU le_UU

theorem call_add (x y : BitVec 64) (c : Bool) (w : World) : (callFunc 44 #[.int .u64 (U x), .int .u64 (U y), .int .u64 (U (bw c))]).run Try.prog w = .ok (.value (.tuple #[.int .u64 (U (addF x y c).1), .int .u64 (U (bw (addF x y c).2))])) w := by
  rw [run_callFunc_extern (e := add64Entry) Try.func44 (by kernel_rfl) (by kernel_rfl) (by kernel_rfl) (by kernel_rfl), run_addEntry]
  rfl
theorem call_sub (x y : BitVec 64) (c : Bool) (w : World) : (callFunc 49 #[.int .u64 (U x), .int .u64 (U y), .int .u64 (U (bw c))]).run Try.prog w = .ok (.value (.tuple #[.int .u64 (U (subF x y c).1), .int .u64 (U (bw (subF x y c).2))])) w := by
  rw [run_callFunc_extern (e := sub64Entry) Try.func49 (by kernel_rfl) (by kernel_rfl) (by kernel_rfl) (by kernel_rfl), run_subEntry]
  rfl

set_option maxHeartbeats 1000000 in
theorem chain_add (a b : V4) (w : World) :
    Calls Try.prog 48 #[.agg #[.func (.func 44) #[] #[]], a.val, b.val] w fun e w' => e = .returned (.tuple #[(chainN addF a b 4).1.val, .int .u64 (U (bw (chainN addF a b 4).2))]) ∧ Below w.heap.size w w' := by
  have hcall := call_add
  unfold V4.val V4.arr
  go_enter Try.func48, Try.ntmps48
  go_wp2
  have hb4 : Below w.heap.size w ((((w.alloc (.cells #[.func (.func 44) #[] #[]] 64)).alloc (.cells a.arr 38)).alloc (.cells b.arr 38)).alloc (.cells V4.zero.arr 38)) := by go_grown
  have vc := (World.cell?_alloc_past (w := (((w.alloc (.cells #[.func (.func 44) #[] #[]] 64)).alloc (.cells a.arr 38)).alloc (.cells b.arr 38))) (.cells V4.zero.arr 38) w.heap.size 0 (by simp; omega)).trans ((World.cell?_alloc_past (w := ((w.alloc (.cells #[.func (.func 44) #[] #[]] 64)).alloc (.cells a.arr 38))) (.cells b.arr 38) w.heap.size 0 (by simp; omega)).trans ((World.cell?_alloc_past (w := (w.alloc (.cells #[.func (.func 44) #[] #[]] 64))) (.cells a.arr 38) w.heap.size 0 (by simp)).trans (cellNew w #[.func (.func 44) #[] #[]] 64 0)))
  have va := ((IsVec.newAt (w.alloc (.cells #[.func (.func 44) #[] #[]] 64)) 38 a (w.heap.size + 1) (by simp)).alloc (.cells b.arr 38)).alloc (.cells V4.zero.arr 38)
  have vb := (IsVec.newAt ((w.alloc (.cells #[.func (.func 44) #[] #[]] 64)).alloc (.cells a.arr 38)) 38 b (w.heap.size + 1 + 1) (by simp)).alloc (.cells V4.zero.arr 38)
  have vo := IsVec.newAt (((w.alloc (.cells #[.func (.func 44) #[] #[]] 64)).alloc (.cells a.arr 38)).alloc (.cells b.arr 38)) 38 V4.zero (w.heap.size + 1 + 1 + 1) (by simp)
  have X := Lib.hid (And.intro vc (And.intro va (And.intro vb (And.intro vo hb4))))
  clear vc va vb vo hb4
  go_loopw [7, 9] (fun c i wr => ∃ k : Nat, k ≤ 4 ∧ i = .int .i64 k ∧ c = .int .u64 (U (bw (chainN addF a b k).2)) ∧ wr.cell? ⟨w.heap.size, 0, none⟩ = some (.func (.func 44) #[] #[]) ∧ IsVec wr (w.heap.size + 1) 38 a ∧ IsVec wr (w.heap.size + 1 + 1) 38 b ∧ IsVec wr (w.heap.size + 1 + 1 + 1) 38 (chainN addF a b k).1 ∧ Below w.heap.size w wr) (fun _ i _ => 4 - (intOf i).toNat)
  case atStart => exact ⟨0, by omega, rfl, rfl, X.out.1, X.out.2.1, X.out.2.2.1, X.out.2.2.2.1, X.out.2.2.2.2⟩
  case round =>
    obtain ⟨k, hk, rfl, rfl, hc, ha, hb, ho, hbel⟩ := hrel
    by_cases hlt : k < 4
    · have c1 := ha.cell k hlt
      have c2 := hb.cell k hlt
      have c3 := ho.cell k hlt
      have f3 := ho.frozen k
      have k0 : (0 : Int) ≤ (k : Int) := Int.natCast_nonneg k
      have k4 : (k : Int) < 4 := by omega
      have HX := Lib.hid (And.intro ha (And.intro hb (And.intro ho hbel)))
      clear ha hb ho hbel
      go_wp2
      go_region
      go_wp2
      go_roundw
      case rel =>
        obtain ⟨ha, hb, ho, hbel⟩ := HX.out
        have e1 : wr.heap.size = wr.heap.size := rfl
        refine ⟨k + 1, by omega, by go_num, rfl, ?_, ?_, ?_, ?_, ?_⟩
        · exact (World.cell?_of_block (w := wr) (Below.heap_setCell wr _ _ _ (by simp; omega))).trans hc
        · exact (ha.drew).other _ _ (by simp)
        · exact (hb.drew).other _ _ (by simp)
        · exact (ho.drew).set k hlt _
        · exact hbel.drew.setCell (p := ⟨w.heap.size + 1 + 1 + 1, k, none⟩) (by simp; omega) _
      case measure => simp [intOf]; omega
    · obtain rfl : k = 4 := by omega
      have d0 := ho.cell 0 (by omega)
      have d1 := ho.cell 1 (by omega)
      have d2 := ho.cell 2 (by omega)
      have d3 := ho.cell 3 (by omega)
      have f0 := ho.frozen 0
      have f1 := ho.frozen 1
      have f2 := ho.frozen 2
      have f3 := ho.frozen 3
      go_wp2
      refine bodyPost_ret (v := .tuple #[(chainN addF a b 4).1.val, .int .u64 (U (bw (chainN addF a b 4).2))]) (by simp [results, Try.results48, go_sem, d0, d1, d2, d3]; rfl) rfl ⟨rfl, ?_⟩
      go_grown
set_option maxHeartbeats 1000000 in
theorem chain_sub (a b : V4) (w : World) :
    Calls Try.prog 48 #[.agg #[.func (.func 49) #[] #[]], a.val, b.val] w fun e w' => e = .returned (.tuple #[(chainN subF a b 4).1.val, .int .u64 (U (bw (chainN subF a b 4).2))]) ∧ Below w.heap.size w w' := by
  have hcall := call_sub
  unfold V4.val V4.arr
  go_enter Try.func48, Try.ntmps48
  go_wp2
  have hb4 : Below w.heap.size w ((((w.alloc (.cells #[.func (.func 49) #[] #[]] 64)).alloc (.cells a.arr 38)).alloc (.cells b.arr 38)).alloc (.cells V4.zero.arr 38)) := by go_grown
  have vc := (World.cell?_alloc_past (w := (((w.alloc (.cells #[.func (.func 49) #[] #[]] 64)).alloc (.cells a.arr 38)).alloc (.cells b.arr 38))) (.cells V4.zero.arr 38) w.heap.size 0 (by simp; omega)).trans ((World.cell?_alloc_past (w := ((w.alloc (.cells #[.func (.func 49) #[] #[]] 64)).alloc (.cells a.arr 38))) (.cells b.arr 38) w.heap.size 0 (by simp; omega)).trans ((World.cell?_alloc_past (w := (w.alloc (.cells #[.func (.func 49) #[] #[]] 64))) (.cells a.arr 38) w.heap.size 0 (by simp)).trans (cellNew w #[.func (.func 49) #[] #[]] 64 0)))
  have va := ((IsVec.newAt (w.alloc (.cells #[.func (.func 49) #[] #[]] 64)) 38 a (w.heap.size + 1) (by simp)).alloc (.cells b.arr 38)).alloc (.cells V4.zero.arr 38)
  have vb := (IsVec.newAt ((w.alloc (.cells #[.func (.func 49) #[] #[]] 64)).alloc (.cells a.arr 38)) 38 b (w.heap.size + 1 + 1) (by simp)).alloc (.cells V4.zero.arr 38)
  have vo := IsVec.newAt (((w.alloc (.cells #[.func (.func 49) #[] #[]] 64)).alloc (.cells a.arr 38)).alloc (.cells b.arr 38)) 38 V4.zero (w.heap.size + 1 + 1 + 1) (by simp)
  have X := Lib.hid (And.intro vc (And.intro va (And.intro vb (And.intro vo hb4))))
  clear vc va vb vo hb4
  go_loopw [7, 9] (fun c i wr => ∃ k : Nat, k ≤ 4 ∧ i = .int .i64 k ∧ c = .int .u64 (U (bw (chainN subF a b k).2)) ∧ wr.cell? ⟨w.heap.size, 0, none⟩ = some (.func (.func 49) #[] #[]) ∧ IsVec wr (w.heap.size + 1) 38 a ∧ IsVec wr (w.heap.size + 1 + 1) 38 b ∧ IsVec wr (w.heap.size + 1 + 1 + 1) 38 (chainN subF a b k).1 ∧ Below w.heap.size w wr) (fun _ i _ => 4 - (intOf i).toNat)
  case atStart => exact ⟨0, by omega, rfl, rfl, X.out.1, X.out.2.1, X.out.2.2.1, X.out.2.2.2.1, X.out.2.2.2.2⟩
  case round =>
    obtain ⟨k, hk, rfl, rfl, hc, ha, hb, ho, hbel⟩ := hrel
    by_cases hlt : k < 4
    · have c1 := ha.cell k hlt
      have c2 := hb.cell k hlt
      have c3 := ho.cell k hlt
      have f3 := ho.frozen k
      have k0 : (0 : Int) ≤ (k : Int) := Int.natCast_nonneg k
      have k4 : (k : Int) < 4 := by omega
      have HX := Lib.hid (And.intro ha (And.intro hb (And.intro ho hbel)))
      clear ha hb ho hbel
      go_wp2
      go_region
      go_wp2
      go_roundw
      case rel =>
        obtain ⟨ha, hb, ho, hbel⟩ := HX.out
        have e1 : wr.heap.size = wr.heap.size := rfl
        refine ⟨k + 1, by omega, by go_num, rfl, ?_, ?_, ?_, ?_, ?_⟩
        · exact (World.cell?_of_block (w := wr) (Below.heap_setCell wr _ _ _ (by simp; omega))).trans hc
        · exact (ha.drew).other _ _ (by simp)
        · exact (hb.drew).other _ _ (by simp)
        · exact (ho.drew).set k hlt _
        · exact hbel.drew.setCell (p := ⟨w.heap.size + 1 + 1 + 1, k, none⟩) (by simp; omega) _
      case measure => simp [intOf]; omega
    · obtain rfl : k = 4 := by omega
      have d0 := ho.cell 0 (by omega)
      have d1 := ho.cell 1 (by omega)
      have d2 := ho.cell 2 (by omega)
      have d3 := ho.cell 3 (by omega)
      have f0 := ho.frozen 0
      have f1 := ho.frozen 1
      have f2 := ho.frozen 2
      have f3 := ho.frozen 3
      go_wp2
      refine bodyPost_ret (v := .tuple #[(chainN subF a b 4).1.val, .int .u64 (U (bw (chainN subF a b 4).2))]) (by simp [results, Try.results48, go_sem, d0, d1, d2, d3]; rfl) rfl ⟨rfl, ?_⟩
      go_grown
end Go.Proofs.Ytacghnepggkgpaa
