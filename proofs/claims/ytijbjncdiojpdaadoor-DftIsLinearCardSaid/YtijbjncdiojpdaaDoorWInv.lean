/- slices.Reverse behind the first element; dft.Inverse. -/
import Derived.Test.YtijbjncdiojpdaaDoorWTrans
namespace Go.Proofs.YtijbjncdiojpdaaDoor
open Go.RowKit
attribute [local go_sem ↓] add_UU sub_UU mul_UU add_UL add_LU sub_UL sub_LU mul_UL neg_at not_at and_UU or_UU xor_UU andNot_UU and_UL or_LU shr_UL shl_UL shr_UN shl_UN quo_UL rem_UL quo_UU rem_UU
attribute [local go_sem] wrap8_U wrap32_U wrap64_B wrap32_B wrap8_D wrapi_B wrap64_UU eq_UU ne_UU eq_UL ne_UL lt_UU le_UU
attribute [local go_sem ↓] run_fadd run_fsub run_fmul run_fquo
attribute [local go_sem] fRes_some unary_neg_f run_store_complex run_store_float

/-- The row while it is turned round behind its first element: i steps done. -/
def revN (X : Nat → Nat × Nat) (n i : Nat) : Nat → Nat × Nat := fun q => if (1 ≤ q ∧ q ≤ i) ∨ (n - i ≤ q ∧ q < n) then X (n - q) else X q

set_option maxHeartbeats 2000000 in
theorem reverse (g n cap : Nat) (X : Nat → Nat × Nat) (hn : 2 ≤ n) (hn' : n ≤ 1000) (w : World) (hc : CB w g n X) :
    Calls Tryd.prog 27 #[.slice (some ⟨g, 1, none⟩) (n - 1) cap] w fun e w' => e = .returned (.tuple #[]) ∧ CB w' g n (fun q => if 1 ≤ q then X (n - q) else X q) ∧ Below g w w' := by
  have HC := Lib.hid (show CB w g n (revN X n 0) from hc.congr fun q hq => by unfold revN; rw [if_neg (by omega)])
  have hg := hc.lt
  have n0 : ((n - 1 : Nat) : Int) = (n : Int) - 1 := by omega
  obtain ⟨l, hl⟩ : ∃ l, l = n - 1 := ⟨_, rfl⟩
  rw [← hl] at n0 ⊢
  have HL := Lib.hid hl
  have hl1 : 1 ≤ l := by omega
  have hl2 : l ≤ 1000 := by omega
  clear hc n0 hl
  go_enter Tryd.func27, Tryd.ntmps27
  go_wp2
  go_loopw [2, 3] (fun i j wr => ∃ k : Nat, 2 * k ≤ l + 1 ∧ i = .int .i64 k ∧ j = .int .i64 ((l : Int) - 1 - k) ∧ CB wr g n (revN X n k) ∧ Below g w wr) (fun i _ _ => l - (intOf i).toNat)
  case atStart => exact ⟨0, by omega, rfl, by simp, HC.out, Below.refl _ _⟩
  case round =>
    obtain ⟨k, hk, rfl, rfl, hr, hb⟩ := hrel
    have k0 : (0 : Int) ≤ (k : Int) := Int.natCast_nonneg k
    by_cases hlt : 2 * k + 1 < l
    · have hlt' : (k : Int) < (l : Int) - 1 - k := by omega
      obtain ⟨j, hj⟩ : ∃ j, j = l - 1 - k := ⟨_, rfl⟩
      have hji : (l : Int) - 1 - k = (j : Int) := by omega
      have hL := HL.out
      have ci := hr.cell (1 + k) (by omega)
      have cj := hr.cell (1 + j) (by omega)
      have fi := hr.frozen (1 + k)
      have fj := hr.frozen (1 + j)
      unfold cval at ci cj
      have vi : revN X n k (1 + k) = X (1 + k) := by unfold revN; rw [if_neg (by omega)]
      have vj : revN X n k (1 + j) = X (1 + j) := by unfold revN; rw [if_neg (by omega)]
      rw [vi] at ci
      rw [vj] at cj
      have HI := Lib.hid (And.intro hr hb)
      have HJ := Lib.hid hj
      have hkj : k < j := by omega
      have j0 : (0 : Int) ≤ (j : Int) := Int.natCast_nonneg j
      have jl : (j : Int) < (l : Int) := by omega
      have kl : (k : Int) < (l : Int) := by omega
      have kj : (k : Int) < (j : Int) := by omega
      rw [hji]
      clear hr hb vi vj hL hji hlt' hj
      go_wp2
      go_region
      go_wp2
      refine ⟨⟨k + 1, by omega, by go_num, by have := HJ.out; have := HL.out; congr 1; omega, ((HI.out.1.drew.set (1 + k) (X (1 + j)) (by have := HL.out; omega)).set (1 + j) (X (1 + k)) (by have := HL.out; omega)).congr fun q hq => ?_, (HI.out.2.drew.setCell (p := ⟨g, 1 + k, none⟩) (by simp) _).setCell (p := ⟨g, 1 + j, none⟩) (by simp) _⟩, by simp [intOf]; omega⟩
      have h1 := HJ.out
      have h2 := HL.out
      unfold revN
      by_cases e1 : q = 1 + j
      · rw [if_pos e1, if_pos (by omega)]
        congr 1
        omega
      · rw [if_neg e1]
        by_cases e2 : q = 1 + k
        · rw [if_pos e2, if_pos (by omega)]
          congr 1
          omega
        · rw [if_neg e2]
          by_cases e3 : (1 ≤ q ∧ q ≤ k) ∨ (n - k ≤ q ∧ q < n)
          · rw [if_pos e3, if_pos (by omega)]
          · rw [if_neg e3, if_neg (by omega)]
    · have hge : (l : Int) - 1 - k ≤ (k : Int) := by omega
      have HI := Lib.hid (And.intro hr hb)
      clear hr hb
      go_wp2
      refine bodyPost_end (results_none (fn := Tryd.f27) rfl _ _ _) rfl ?_
      refine ⟨rfl, HI.out.1.congr fun q hq => ?_, HI.out.2⟩
      have h2 := HL.out
      unfold revN
      by_cases e : 1 ≤ q
      · rw [if_pos e]
        by_cases e3 : (1 ≤ q ∧ q ≤ k) ∨ (n - k ≤ q ∧ q < n)
        · rw [if_pos e3]
        · rw [if_neg e3]
          congr 1
          omega
      · rw [if_neg e, if_neg (by omega)]
end Go.Proofs.YtijbjncdiojpdaaDoor
