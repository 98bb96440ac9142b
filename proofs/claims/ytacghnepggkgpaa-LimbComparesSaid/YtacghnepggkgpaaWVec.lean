/- Walk of the reference's Vec: a number out of sixteen digits. -/
import Derived.Test.YtacghnepggkgpaaWDigits
namespace Go.Proofs.Ytacghnepggkgpaa
open Go.RowKit

theorem wrap64_N (n : Nat) : IntKind.u64.wrap (n : Int) = U (BitVec.ofNat 64 n) := by rw [wrap64_U, BitVec.ofInt_natCast]
attribute [local go_sem ↓] add_UU sub_UU mul_UU add_UL add_LU sub_UL sub_LU mul_UL neg_at not_at and_UU or_UU xor_UU andNot_UU and_UL or_LU shr_UL shl_UL shr_UN shl_UN quo_UL rem_UL quo_UU rem_UU
attribute [local go_sem] wrap64_N wrapi_mod wrap8_U wrap32_U wrap64_B wrap32_B wrap8_D wrapi_B wrap64_UU eq_UU ne_UU eq_UL ne_UL lt_UU le_UU

/-- What Vec has gathered of the digits d, from the digit f on, after k of them. -/
def vecN (d : Nat → Nat) (f : Nat) : Nat → V4
  | 0 => V4.zero
  | k + 1 => (vecN d f k).set (k / 4) ((vecN d f k).get (k / 4) + BitVec.ofNat 64 (d (f + k)) * BitVec.ofNat 64 (65536 ^ (k % 4)))

set_option maxHeartbeats 2000000 in
theorem vec (g len cap f : Nat) (d : Nat → Nat) (w : World) (hf : f ≤ 16) (hlen : f + 16 ≤ len) (hl : len ≤ 1000) (hc : ∀ i, i < 16 → w.cell? ⟨g, f + i, none⟩ = some (.int .i64 ((d (f + i) : Nat) : Int))) :
    Calls Try.prog 46 #[.slice (some ⟨g, 0, none⟩) len cap, .int .i64 (f : Int)] w fun e w' => e = .returned ((vecN d f 16).val) ∧ Below w.heap.size w w' := by
  have hg : g < w.heap.size := World.block_lt_of_cell? w _ (hc 0 (by omega))
  have HC := Lib.hid hc
  clear hc
  go_enter Try.func46, Try.ntmps46
  go_wp2
  have X := Lib.hid (show IsVec ((w.alloc (.cells V4.zero.arr 38)).alloc (.cells V4.zero.arr 38)) w.heap.size 38 V4.zero ∧ IsVec ((w.alloc (.cells V4.zero.arr 38)).alloc (.cells V4.zero.arr 38)) (w.heap.size + 1) 38 V4.zero ∧ Below w.heap.size w ((w.alloc (.cells V4.zero.arr 38)).alloc (.cells V4.zero.arr 38)) from
    ⟨(IsVec.newAt w _ _ _ rfl).alloc _, IsVec.newAt _ _ _ _ (by simp), by go_grown⟩)
  go_loopw [6] (fun i wr => ∃ k : Nat, k ≤ 16 ∧ i = .int .i64 k ∧ IsVec wr w.heap.size 38 V4.zero ∧ IsVec wr (w.heap.size + 1) 38 (vecN d f k) ∧ Below w.heap.size w wr) (fun i _ => 16 - (intOf i).toNat)
  case atStart => exact ⟨0, by omega, rfl, X.out.1, X.out.2.1, X.out.2.2⟩
  case round =>
    clear X
    obtain ⟨i, hk, rfl, hr, hv, hb⟩ := hrel
    obtain ⟨wo, rfl⟩ : ∃ wo : World, wo = wr := ⟨_, rfl⟩
    by_cases hlt : i < 16
    · have c1 := hv.cell (i / 4) (by omega)
      have f1 := hv.frozen (i / 4)
      have c2 := (hb.cell (p := ⟨g, f + i, none⟩) hg).trans (HC.out i hlt)
      have HI := Lib.hid (And.intro hr (And.intro hv hb))
      clear hr hv hb
      have k0 : (0 : Int) ≤ (i : Int) := Int.natCast_nonneg i
      have k4 : (i : Int) < 16 := by omega
      go_wp2
      go_loop [7, 8] (fun u j => ∃ m : Nat, m ≤ i % 4 ∧ j = .int .i64 m ∧ u = .int .u64 (U (BitVec.ofNat 64 (65536 ^ m)))) (fun _ j => 4 - (intOf j).toNat)
      case atStart => exact ⟨0, by omega, rfl, rfl⟩
      case round =>
        obtain ⟨m, hm, rfl, rfl⟩ := hrel
        by_cases hlm : m < i % 4
        · have hp : BitVec.ofNat 64 (65536 ^ m) * 65536#64 = BitVec.ofNat 64 (65536 ^ (m + 1)) := by
            apply BitVec.eq_of_toNat_eq
            rw [BitVec.toNat_mul, BitVec.toNat_ofNat, BitVec.toNat_ofNat, BitVec.toNat_ofNat, Nat.pow_succ, Nat.mod_mul_mod]
            rfl
          have HP := Lib.hid hp
          clear hp c1 c2 f1
          have h1 : (m : Int) < (i : Int) % 4 := by omega
          go_wp2
          go_round
          case rel => exact ⟨m + 1, by omega, by go_num, by rw [HP.out]⟩
          case measure => simp [intOf]; omega
        · obtain rfl : m = i % 4 := by omega
          have q0 : (0 : Int) ≤ (i : Int) / 4 := by omega
          have q1 : (i : Int) / 4 < 4 := by omega
          have q2 : (0 : Int) ≤ (f : Int) + (i : Int) := by omega
          have q3 : (f : Int) + (i : Int) < (len : Int) := by omega
          go_wp2
          go_region
          go_wp2
          refine ⟨⟨i + 1, by omega, by go_num, HI.out.1.drew.other _ _ (by simp), HI.out.2.1.drew.set (i / 4) (by omega) _, HI.out.2.2.drew.setCell (p := ⟨w.heap.size + 1, i / 4, none⟩) (by simp) _⟩, by simp [intOf]; omega⟩
    · obtain rfl : i = 16 := by omega
      have d0 := hv.cell 0 (by omega)
      have d1 := hv.cell 1 (by omega)
      have d2 := hv.cell 2 (by omega)
      have d3 := hv.cell 3 (by omega)
      have e0 := hr.cell 0 (by omega)
      have e1 := hr.cell 1 (by omega)
      have e2 := hr.cell 2 (by omega)
      have e3 := hr.cell 3 (by omega)
      have f0 := hr.frozen 0
      have f1 := hr.frozen 1
      have f2 := hr.frozen 2
      have f3 := hr.frozen 3
      have HB := Lib.hid hb
      clear hr hv hb
      go_wp2
      refine bodyPost_ret (v := (vecN d f 16).val) (by simp [results, Try.results46, go_sem, e0, e1, e2, e3]; rfl) rfl ⟨rfl, ?_⟩
      have hB := HB.out
      go_grown
end Go.Proofs.Ytacghnepggkgpaa
