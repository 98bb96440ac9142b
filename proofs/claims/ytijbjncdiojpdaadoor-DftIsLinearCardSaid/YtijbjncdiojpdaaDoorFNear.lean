/- Numbers that are near each other: as floats; the accuracy of Inverse after Transform, of the first element, of the ones. -/
import Derived.Test.YtijbjncdiojpdaaDoorFConv
import Derived.Test.YtijbjncdiojpdaaDoorWNear
namespace Go.Proofs.YtijbjncdiojpdaaDoor
open Go

theorem order_num (a b : Ieee.Datum) (ha : isNum a = true) (hb : isNum b = true) : ∃ (A B : Int) (p : Int), a.order b = some (compare A B) ∧ (A : Rat) * pw p = dval a ∧ (B : Rat) * pw p = dval b := by
  cases a with
  | infinity s => cases ha
  | nan s f => cases ha
  | number s m i =>
    cases b with
    | infinity s => cases hb
    | nan s f => cases hb
    | number t n j => exact ⟨_, _, min i j, rfl, signed_place s m i _ (by omega), signed_place t n j _ (by omega)⟩
theorem leB_of (x y : Nat) (hx : fin x = true) (hy : fin y = true) (h : val x ≤ val y) : leB x y = true := by
  obtain ⟨A, B, p, h1, h2, h3⟩ := order_num _ _ hx hy
  have hAB : A ≤ B := by
    rcases Int.lt_or_le B A with h4 | h4
    · have h5 := Rat.mul_lt_mul_of_pos_right (Rat.intCast_lt_intCast.2 h4) (pw_pos p)
      rw [h2, h3] at h5
      change val y < val x at h5
      grind
    · exact h4
  unfold leB fo
  rw [show FloatKind.f64.format.order x y = some (compare A B) from h1]
  rcases (show A < B ∨ A = B by omega) with h4 | h4
  · rw [show compare A B = .lt from by simp [compare, compareOfLessAndEq, h4]]
    rfl
  · subst h4
    rw [show compare A A = .eq from by simp [compare, compareOfLessAndEq]]
    rfl
theorem geB_of (x y : Nat) (hx : fin x = true) (hy : fin y = true) (h : val y ≤ val x) : geB x y = true := by
  obtain ⟨A, B, p, h1, h2, h3⟩ := order_num _ _ hx hy
  have hAB : B ≤ A := by
    rcases Int.lt_or_le A B with h4 | h4
    · have h5 := Rat.mul_lt_mul_of_pos_right (Rat.intCast_lt_intCast.2 h4) (pw_pos p)
      rw [h2, h3] at h5
      change val x < val y at h5
      grind
    · exact h4
  unfold geB fo
  rw [show FloatKind.f64.format.order x y = some (compare A B) from h1]
  rcases (show B < A ∨ A = B by omega) with h4 | h4
  · rw [show compare A B = .gt from by show compareOfLessAndEq A B = .gt; unfold compareOfLessAndEq; rw [if_neg (by omega), if_neg (by omega)]]
    rfl
  · subst h4
    rw [show compare A A = .eq from by simp [compare, compareOfLessAndEq]]
    rfl
theorem small_facts : sc 4517110426252607488 = some 1237940039285380274899124224 ∧ sc 13740482463107383296 = some (-1237940039285380274899124224) := by decide +kernel
theorem near_of (a b : Nat × Nat) (ha : fin2 a) (hb : fin2 b) (h : Nc (cx a) (cx b) (1 / 2097152)) : nearB a b = true := by
  have heps := eps_small
  have heps0 := eps_pos
  have hBd : Bd (1 / 2097152) := by
    constructor
    · have h1 : pw (-900) ≤ pw (-21) := pw_mono (by decide)
      have h2 : pw (-21) * pw ((21 : Nat) : Int) = 1 := by rw [← pw_add]; rfl
      rw [pw_nat] at h2
      have e : ((2 ^ 21 : Nat) : Rat) = 2097152 := rfl
      rw [e] at h2
      grind
    · have h1 : pw ((1 : Nat) : Int) ≤ pw 900 := pw_mono (by decide)
      rw [pw_nat] at h1
      have e : ((2 ^ 1 : Nat) : Rat) = 2 := rfl
      rw [e] at h1
      grind
  obtain ⟨r, e1, f1, n1⟩ := sub_near a.1 b.1 ha.1 hb.1 _ hBd h.1
  obtain ⟨s, e2, f2, n2⟩ := sub_near a.2 b.2 ha.2 hb.2 _ hBd h.2
  obtain ⟨g1, g2⟩ := sc_val _ _ small_facts.1
  obtain ⟨g3, g4⟩ := sc_val _ _ small_facts.2
  have p110 := pw110
  have v1 : val 4517110426252607488 = 1 / 1048576 := by
    rw [g2]
    have e : ((1237940039285380274899124224 : Int) : Rat) = 1237940039285380274899124224 := rfl
    rw [e]
    grind
  have v2 : val 13740482463107383296 = -1 / 1048576 := by
    rw [g4]
    have e : ((-1237940039285380274899124224 : Int) : Rat) = -1237940039285380274899124224 := rfl
    rw [e]
    grind
  have b1 := h.1
  have b2 := h.2
  change Le (val a.1 - val b.1) _ at b1
  change Le (val a.2 - val b.2) _ at b2
  unfold Le at b1 b2
  unfold Near at n1 n2
  unfold nearB cSumBits
  rw [e1, e2]
  show smallD (r, s) = true
  unfold smallD
  simp only [Bool.and_eq_true]
  exact ⟨leB_of _ _ f1 g1 (by rw [v1]; grind), geB_of _ _ f1 g3 (by rw [v2]; grind), leB_of _ _ f2 g1 (by rw [v1]; grind), geB_of _ _ f2 g3 (by rw [v2]; grind)⟩

theorem inv_bound (m : Nat) (hm : m ≤ 7) (q e p : Rat) (hq : q = qR m) (he : e = eR m) (hp : p * q = 1) :
    ∃ z M B : Rat, z = e * (7 * eps) ∧ M = 15 * q ∧ B = 2 * (7 * q) + (e * (M * eps) + q * (2 * z) + 2 * (q * 7) * (6 * q + 36) * eps) + 1 ∧ 1 ≤ M ∧ M ≤ 1000000000000000000000000000000 ∧ 1 ≤ B ∧ B ≤ 10000000000000000000000000000000000000000 ∧ z ≤ q ∧
      8 * B * eps + p * (e * (M * eps) + q * (2 * z) + 2 * (q * 7) * (6 * q + 36) * eps) ≤ 1 / 2097152 := by
  have h1 := eps_small
  have h2 := eps_pos
  refine ⟨_, _, _, rfl, rfl, rfl, ?_⟩
  rcases (show m = 0 ∨ m = 1 ∨ m = 2 ∨ m = 3 ∨ m = 4 ∨ m = 5 ∨ m = 6 ∨ m = 7 by omega) with rfl | rfl | rfl | rfl | rfl | rfl | rfl | rfl
  all_goals
    simp only [qR, eR] at hq he
    subst hq
    subst he
    generalize eps = E at *
    have h3 := Rat.mul_nonneg (Rat.le_of_lt h2) (show 0 ≤ 1 - E * 4000000000000000 by grind)
    refine ⟨by grind, by grind, by grind, by grind, by grind, ?_⟩
  · obtain rfl : p = 1 := by grind
    grind
  · obtain rfl : p = 1 / 2 := by grind
    grind
  · obtain rfl : p = 1 / 4 := by grind
    grind
  · obtain rfl : p = 1 / 8 := by grind
    grind
  · obtain rfl : p = 1 / 16 := by grind
    grind
  · obtain rfl : p = 1 / 32 := by grind
    grind
  · obtain rfl : p = 1 / 64 := by grind
    grind
  · obtain rfl : p = 1 / 128 := by grind
    grind

/-- Inverse inverts Transform up to the accuracy. -/
theorem inverts (m : Nat) (hm : m ≤ 7) (X : Nat → Nat × Nat) (hX : ∀ i, fin2 (X i) ∧ Lc (cx (X i)) 7) :
    dftOk m X ∧ dftOk m (dftS m X) ∧ ∃ V : Nat → Nat × Nat, ∀ j, j < 2 ^ m → cQuoBits (turned (2 ^ m) (dftS m (dftS m X)) j).1 (turned (2 ^ m) (dftS m (dftS m X)) j).2 (floatOfInt .f64 ((2 ^ m : Nat) : Int)) 0 = some (V j) ∧ nearB (X j) (V j) = true := by
  obtain ⟨z, M, B, hz, hM, hB, M1, M2, B1, B2, zq, fb⟩ := inv_bound m hm (qR m) (eR m) (pw (-(m : Int))) rfl rfl (pw_inv m)
  obtain ⟨ok, hf⟩ := fft_near m hm X 7 (by grind) (by grind) (fun i _ => hX i)
  obtain ⟨ok2, hv⟩ := inv_near m hm (dftS m X) (fun i => cx (X i)) M 7 z B M1 M2 (fun i hi => ⟨(hf i hi).1, ((hf i hi).2.lc (P_le m (fun i => cx (X i)) 7 (fun i _ => (hX i).2) i)).mono (by rw [hM]; grind)⟩)
    (fun c _ => (hX c).2) (fun k hk => by rw [hz]; exact (hf k hk).2) B1 B2 (by rw [hB]; grind)
  refine ⟨ok, ok2, fun j => cget (cQuoBits (turned (2 ^ m) (dftS m (dftS m X)) j).1 (turned (2 ^ m) (dftS m (dftS m X)) j).2 (floatOfInt .f64 ((2 ^ m : Nat) : Int)) 0), fun j hj => ?_⟩
  obtain ⟨v, v1, v2, v3, v4⟩ := hv j hj
  show _ = some (cget _) ∧ nearB _ (cget _) = true
  rw [cget_eq v1]
  refine ⟨v1, near_of _ _ (hX j).1 v2 ?_⟩
  have := v4.mono fb
  unfold Nc Lc Le at *
  simp only [Cx.sub_re, Cx.sub_im] at *
  grind
end Go.Proofs.YtijbjncdiojpdaaDoor
