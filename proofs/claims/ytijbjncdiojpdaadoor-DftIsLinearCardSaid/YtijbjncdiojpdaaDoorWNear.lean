/- Walks of the law's near and all, where they return true. -/
import Derived.Test.YtijbjncdiojpdaaDoorWRoots
namespace Go.Proofs.YtijbjncdiojpdaaDoor
open Go.RowKit
attribute [local go_sem ↓] add_UU sub_UU mul_UU add_UL add_LU sub_UL sub_LU mul_UL neg_at not_at and_UU or_UU xor_UU andNot_UU and_UL or_LU shr_UL shl_UL shr_UN shl_UN quo_UL rem_UL quo_UU rem_UU
attribute [local go_sem] wrap8_U wrap32_U wrap64_B wrap32_B wrap8_D wrapi_B wrap64_UU eq_UU ne_UU eq_UL ne_UL lt_UU le_UU
attribute [local go_sem ↓] run_fadd run_fsub run_fmul run_fquo
attribute [local go_sem] fRes_some unary_neg_f run_store_complex run_store_float

def leB (x y : Nat) : Bool := fo x y == some .lt || fo x y == some .eq
def geB (x y : Nat) : Bool := fo x y == some .gt || fo x y == some .eq
def smallD (d : Nat × Nat) : Bool := leB d.1 4517110426252607488 && (geB d.1 13740482463107383296 && (leB d.2 4517110426252607488 && geB d.2 13740482463107383296))
def nearB (a b : Nat × Nat) : Bool := ((cSumBits .sub .f64 a.1 a.2 b.1 b.2).map smallD).getD false

theorem nearTrue (a b : Nat × Nat) (h : nearB a b = true) (w : World) :
    Calls Tryd.prog 15 #[cval a, cval b] w fun e w' => e = .returned (.bool true) ∧ w = w' := by
  unfold nearB at h
  cases hd : cSumBits .sub .f64 a.1 a.2 b.1 b.2 with
  | none => rw [hd] at h; cases h
  | some d =>
    rw [hd] at h
    obtain ⟨d1, d2⟩ := d
    have hs := fun t w => run_complex_sum (P := Tryd.prog) w .sub (.inr rfl) t .f64 a.1 a.2 b.1 b.2 d1 d2 hd
    simp only [Option.map_some, Option.getD_some, smallD, leB, geB, fo, Bool.and_eq_true, Bool.or_eq_true, beq_iff_eq] at h
    obtain ⟨h1, h2, h3, h4⟩ := h
    clear hd
    unfold cval
    rcases h1 with h1 | h1 <;> rcases h2 with h2 | h2 <;> rcases h3 with h3 | h3 <;> rcases h4 with h4 | h4
    all_goals
      go_enter Tryd.func15, Tryd.ntmps15
      go_wp2
      go_ret
      exact ⟨rfl, rfl⟩

set_option maxHeartbeats 1000000 in
/-- all, of two rows that are near each other. -/
theorem allTrue (g g' n cap cap' : Nat) (A B : Nat → Nat × Nat) (hn : n ≤ 1000) (hAB : ∀ i, i < n → nearB (A i) (B i) = true) (w : World)
    (hA : ∀ i, i < n → w.cell? ⟨g, i, none⟩ = some (cval (A i))) (hB : ∀ i, i < n → w.cell? ⟨g', i, none⟩ = some (cval (B i))) :
    Calls Tryd.prog 19 #[.slice (some ⟨g, 0, none⟩) n cap, .slice (some ⟨g', 0, none⟩) n cap'] w fun e w' => e = .returned (.bool true) ∧ Below w.heap.size w w' := by
  have HA := Lib.hid hA
  have HB := Lib.hid hB
  have HN := Lib.hid hAB
  clear hA hB hAB
  go_enter Tryd.func19, Tryd.ntmps19
  go_wp2
  go_loopw [13] (fun j wr => ∃ k : Nat, k ≤ n ∧ j = .int .i64 k ∧ Below w.heap.size w wr) (fun j _ => n - (intOf j).toNat)
  case atStart => exact ⟨0, by omega, rfl, Below.refl _ _⟩
  case round =>
    obtain ⟨k, hk, rfl, hb⟩ := hrel
    have k0 : (0 : Int) ≤ (k : Int) := Int.natCast_nonneg k
    by_cases hlt : k < n
    · have hlt' : (k : Int) < (n : Int) := by omega
      have hg := World.block_lt_of_cell? w _ (HA.out k hlt)
      have hg' := World.block_lt_of_cell? w _ (HB.out k hlt)
      have c1 := (hb.cell (p := ⟨g, k, none⟩) hg).trans (HA.out k hlt)
      have c2 := (hb.cell (p := ⟨g', k, none⟩) hg').trans (HB.out k hlt)
      have HC := Lib.hid (nearTrue _ _ (HN.out k hlt))
      have HB' := Lib.hid hb
      clear hb
      unfold cval at c1 c2
      go_wp2
      go_quiet ((go_at_call 15; exact Calls.quiet_of_same ((HC.out _).mono fun _ _ h => ⟨h.1, h.2.symm⟩)))
      go_wp2
      refine ⟨⟨k + 1, by omega, by go_num, below_drewN HB'.out nq⟩, by simp [intOf]; omega⟩
    · obtain rfl : k = n := by omega
      have HB' := Lib.hid hb
      clear hb
      go_wp2
      go_ret
      exact ⟨rfl, HB'.out⟩
end Go.Proofs.YtijbjncdiojpdaaDoor
