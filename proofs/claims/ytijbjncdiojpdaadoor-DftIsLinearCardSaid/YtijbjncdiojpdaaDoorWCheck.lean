/- dft.check: the range of the coefficients. -/
import Derived.Test.YtijbjncdiojpdaaDoorWPad
namespace Go.Proofs.YtijbjncdiojpdaaDoor
open Go.RowKit
attribute [local go_sem ↓] add_UU sub_UU mul_UU add_UL add_LU sub_UL sub_LU mul_UL neg_at not_at and_UU or_UU xor_UU andNot_UU and_UL or_LU shr_UL shl_UL shr_UN shl_UN quo_UL rem_UL quo_UU rem_UU
attribute [local go_sem] wrap8_U wrap32_U wrap64_B wrap32_B wrap8_D wrapi_B wrap64_UU eq_UU ne_UU eq_UL ne_UL lt_UU le_UU
attribute [local go_sem ↓] run_fadd run_fsub run_fmul run_fquo
attribute [local go_sem] fRes_some unary_neg_f run_store_complex run_store_float

def outB (x : Int) : Bool := decide (x < -1000) || decide (1000 < x)
theorem outWalk (x : Int) (w : World) :
    Calls Tryd.prog 31 #[.int .i64 x] w fun e w' => e = .returned (.bool (outB x)) ∧ w = w' := by
  go_enter Tryd.func31, Tryd.ntmps31
  go_wp2
  all_goals
    go_ret
    exact ⟨by simp_all [outB], rfl⟩

/-- slices.IndexFunc with the range's test: none of the numbers is out of range. -/
theorem indexNone (b off l cap : Nat) (A : Nat → Int) (hl : l * 8 ≤ 140737488351232) (w : World) (hA : ∀ i, i < l → w.cell? ⟨b, off + i, none⟩ = some (.int .i64 (A i))) (hin : ∀ i, i < l → outB (A i) = false) :
    Calls Tryd.prog 43 #[.slice (some ⟨b, off, none⟩) l cap, .func (.func 31) #[] #[]] w fun e w' => e = .returned (.int .i64 (-1)) ∧ w = w' := by
  have HA := Lib.hid hA
  have HI := Lib.hid hin
  clear hA hin
  go_enter Tryd.func43, Tryd.ntmps43
  go_wp2
  go_loop [8] (fun j => ∃ k : Nat, k ≤ l ∧ j = .int .i64 k) (fun j => l - (intOf j).toNat)
  case atStart => exact ⟨0, by omega, rfl⟩
  case round =>
    obtain ⟨k, hk, rfl⟩ := hrel
    have k0 : (0 : Int) ≤ (k : Int) := Int.natCast_nonneg k
    by_cases hlt : k < l
    · have hlt' : (k : Int) < (l : Int) := by omega
      have ck := HA.out k hlt
      have HF := Lib.hid (outWalk (A k))
      rw [HI.out k hlt] at HF
      go_wp2_with fail
      refine (HF.out _).mono ?_
      rintro e w1 ⟨rfl, rfl⟩
      go_wp2
      go_round
      case rel => exact ⟨k + 1, by omega, by go_num⟩
      case measure => simp [intOf]; omega
    · obtain rfl : k = l := by omega
      go_wp2
      go_ret
      exact ⟨rfl, rfl⟩

theorem containsNone (b off l cap : Nat) (A : Nat → Int) (hl : l * 8 ≤ 140737488351232) (w : World) (hA : ∀ i, i < l → w.cell? ⟨b, off + i, none⟩ = some (.int .i64 (A i))) (hin : ∀ i, i < l → outB (A i) = false) :
    Calls Tryd.prog 30 #[.slice (some ⟨b, off, none⟩) l cap, .func (.func 31) #[] #[]] w fun e w' => e = .returned (.bool false) ∧ w = w' := by
  have HI := Lib.hid (indexNone b off l cap A hl w hA hin)
  clear hA hin
  go_enter Tryd.func30, Tryd.ntmps30
  go_wp2_with fail
  refine HI.out.mono ?_
  rintro e w1 ⟨rfl, rfl⟩
  go_wp2
  go_ret
  exact ⟨rfl, rfl⟩

/-- dft.check of two lists within the limits. -/
theorem checkOk (V : Nat) (pa pb : Option Addr) (la ca lb cb : Nat) (hla : la ≤ 64) (hlb : lb ≤ 64) (w : World) (h0 : w.cell? ⟨V, 0, none⟩ = some (.slice pa la ca)) (h1 : w.cell? ⟨V, 1, none⟩ = some (.slice pb lb cb))
    (Ha : Calls Tryd.prog 30 #[.slice pa la ca, .func (.func 31) #[] #[]] w fun e w' => e = .returned (.bool false) ∧ w = w')
    (Hb : Calls Tryd.prog 30 #[.slice pb lb cb, .func (.func 31) #[] #[]] w fun e w' => e = .returned (.bool false) ∧ w = w') :
    Calls Tryd.prog 21 #[.slice (some ⟨V, 0, none⟩) 2 2] w fun e w' => e = .returned (.int .i64 0) ∧ w = w' := by
  have HA := Lib.hid Ha
  have HB := Lib.hid Hb
  have ia : (la : Int) ≤ 64 := by omega
  have ib : (lb : Int) ≤ 64 := by omega
  clear Ha Hb
  go_enter Tryd.func21, Tryd.ntmps21
  go_wp2
  go_loop [3, 8] (fun e j => e = .int .i64 0 ∧ ∃ k : Nat, k ≤ 2 ∧ j = .int .i64 k) (fun _ j => 2 - (intOf j).toNat)
  case atStart => exact ⟨rfl, 0, by omega, rfl⟩
  case round =>
    obtain ⟨rfl, k, hk, rfl⟩ := hrel
    rcases (show k = 0 ∨ k = 1 ∨ k = 2 by omega) with rfl | rfl | rfl
    · go_wp2_with fail
      refine HA.out.mono ?_
      rintro e w1 ⟨rfl, rfl⟩
      go_wp2
      go_round
      case rel => exact ⟨rfl, 1, by omega, by go_num⟩
      case measure => simp [intOf]
    · go_wp2_with fail
      refine HB.out.mono ?_
      rintro e w1 ⟨rfl, rfl⟩
      go_wp2
      go_round
      case rel => exact ⟨rfl, 2, by omega, by go_num⟩
      case measure => simp [intOf]
    · go_wp2
      go_ret
      exact ⟨rfl, rfl⟩
end Go.Proofs.YtijbjncdiojpdaaDoor
