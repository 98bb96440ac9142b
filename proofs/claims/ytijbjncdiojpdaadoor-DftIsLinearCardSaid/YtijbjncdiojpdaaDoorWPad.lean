/- dft.padded. -/
import Derived.Test.YtijbjncdiojpdaaDoorWInv2
namespace Go.Proofs.YtijbjncdiojpdaaDoor
open Go.RowKit
attribute [local go_sem ↓] add_UU sub_UU mul_UU add_UL add_LU sub_UL sub_LU mul_UL neg_at not_at and_UU or_UU xor_UU andNot_UU and_UL or_LU shr_UL shl_UL shr_UN shl_UN quo_UL rem_UL quo_UU rem_UU
attribute [local go_sem] wrap8_U wrap32_U wrap64_B wrap32_B wrap8_D wrapi_B wrap64_UU eq_UU ne_UU eq_UL ne_UL lt_UU le_UU
attribute [local go_sem ↓] run_fadd run_fsub run_fmul run_fquo
attribute [local go_sem] fRes_some unary_neg_f run_store_complex run_store_float

def padN (A : Nat → Int) (l : Nat) : Nat → Nat × Nat := fun q => if q < l then (floatOfInt .f64 (A q), 0) else (0, 0)

set_option maxHeartbeats 1000000 in
theorem padded (b off l cap n : Nat) (A : Nat → Int) (hl : l ≤ n) (hn : n ≤ 1000) (w : World) (hA : ∀ i, i < l → w.cell? ⟨b, off + i, none⟩ = some (.int .i64 (A i))) :
    Calls Tryd.prog 23 #[.slice (some ⟨b, off, none⟩) l cap, .int .i64 (n : Int)] w fun e w' => e = .returned (.slice (some ⟨w.heap.size, 0, none⟩) n n) ∧ CB w' w.heap.size n (padN A l) ∧ Below w.heap.size w w' := by
  have hmk := make_c n hn w
  have X := Lib.hid (show CB (w.alloc (.cells ((List.range n).map fun _ => cval (0, 0)).toArray 34)) w.heap.size n (padN A 0) ∧ Below w.heap.size w (w.alloc (.cells ((List.range n).map fun _ => cval (0, 0)).toArray 34)) from ⟨(Row.new w _ _ n (fun _ => cval (0, 0)) rfl).toCB.congr fun i _ => by simp [padN], by go_grown⟩)
  have HA := Lib.hid hA
  clear hA
  go_enter Tryd.func23, Tryd.ntmps23
  go_wp2
  go_loopw [12] (fun j wr => ∃ k : Nat, k ≤ l ∧ j = .int .i64 k ∧ CB wr w.heap.size n (padN A k) ∧ Below w.heap.size w wr) (fun j _ => l - (intOf j).toNat)
  case atStart => exact ⟨0, by omega, rfl, X.out⟩
  case round =>
    clear X hmk
    obtain ⟨k, hk, rfl, hr, hb⟩ := hrel
    have k0 : (0 : Int) ≤ (k : Int) := Int.natCast_nonneg k
    by_cases hlt : k < l
    · have hlt' : (k : Int) < (l : Int) := by omega
      have hlt2 : (k : Int) < (n : Int) := by omega
      have hbl := World.block_lt_of_cell? w _ (HA.out k hlt)
      have ck := (hb.cell (p := ⟨b, off + k, none⟩) hbl).trans (HA.out k hlt)
      have co := hr.cell k (by omega)
      have fo := hr.frozen k
      have hz : padN A k k = (0, 0) := by unfold padN; rw [if_neg (by omega)]
      rw [hz] at co
      unfold cval at co
      have hcv : ∀ w, (convert 3 35 (.int .i64 (A k))).run Tryd.prog w = .ok (.float .f64 (floatOfInt .f64 (A k))) w := fun w => by rfl
      have HI := Lib.hid (And.intro hr hb)
      clear hr hb hz
      go_wp2
      refine ⟨⟨k + 1, by omega, by go_num, (HI.out.1.set k (floatOfInt .f64 (A k), 0) (by omega)).congr fun q hq => ?_, HI.out.2.setCell (p := ⟨w.heap.size, k, none⟩) (by simp) _⟩, by simp [intOf]; omega⟩
      unfold padN
      by_cases e : q = k
      · subst e
        rw [if_pos rfl, if_pos (by omega)]
      · rw [if_neg e]
        by_cases h : q < k
        · rw [if_pos h, if_pos (by omega)]
        · rw [if_neg h, if_neg (by omega)]
    · obtain rfl : k = l := by omega
      have HI := Lib.hid (And.intro hr hb)
      clear hr hb
      go_wp2
      go_ret
      exact ⟨rfl, HI.out⟩
end Go.Proofs.YtijbjncdiojpdaaDoor
