/- The roots' products. No program in sight. -/
import Derived.Test.YtijbjncdiojpdaaDoorWAlive
namespace Go.Proofs.YtijbjncdiojpdaaDoor
open Go.RowKit
def oneC : Nat × Nat := (4607182418800017408, 0)
/-- The product is near a number. -/
def prodNear (a b c : Nat × Nat) : Bool := ((cmul a b).map fun q => nearB c q).getD false
def prodNear' (a b c : Nat × Nat) : Bool := ((cmul a b).map fun q => nearB q c).getD false
theorem rootFacts : allN 9 (fun m => nearB (rb 0) oneC && (prodNear' (rb ((2 ^ m - 1) * 2 ^ (8 - m))) (rb (1 % 2 ^ m * 2 ^ (8 - m))) oneC && allN (2 ^ m) fun k =>
    (k == 0 || prodNear (rb ((k - 1) * 2 ^ (8 - m))) (rb (2 ^ (8 - m))) (rb (k * 2 ^ (8 - m)))) && prodNear' (rb (k * 2 ^ (8 - m))) ((rb (k * 2 ^ (8 - m))).1, Op.negFloat .f64 (rb (k * 2 ^ (8 - m))).2) oneC)) = true := by decide +kernel
theorem prodNear_some {a b c : Nat × Nat} (h : prodNear a b c = true) : ∃ q, cmul a b = some q ∧ nearB c q = true := by
  unfold prodNear at h
  cases hc : cmul a b with
  | none => rw [hc] at h; cases h
  | some q => rw [hc] at h; exact ⟨q, rfl, h⟩
theorem prodNear'_some {a b c : Nat × Nat} (h : prodNear' a b c = true) : ∃ q, cmul a b = some q ∧ nearB q c = true := by
  unfold prodNear' at h
  cases hc : cmul a b with
  | none => rw [hc] at h; cases h
  | some q => rw [hc] at h; exact ⟨q, rfl, h⟩

end Go.Proofs.YtijbjncdiojpdaaDoor
