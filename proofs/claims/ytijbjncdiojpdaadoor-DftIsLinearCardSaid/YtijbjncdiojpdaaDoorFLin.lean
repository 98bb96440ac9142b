/- The first element of a transform; the transform of ones. -/
import Derived.Test.YtijbjncdiojpdaaDoorFNear
namespace Go.Proofs.YtijbjncdiojpdaaDoor
open Go

/-- The sum of k numbers, as floats. -/
def sF (X : Nat → Nat × Nat) : Nat → Nat × Nat
  | 0 => (0, 0)
  | k + 1 => cget (cadd (sF X k) (X k))
theorem zero_cx : fin2 (0, 0) ∧ cx (0, 0) = 0 := by
  refine ⟨⟨val_zero.1, val_zero.1⟩, ?_⟩
  unfold cx
  simp only [val_zero.2]
  rfl
theorem sF_near (X : Nat → Nat × Nat) (hX : ∀ i, fin2 (X i) ∧ Lc (cx (X i)) 7) (k : Nat) : k ≤ 16 → fin2 (sF X k) ∧ Nc (cx (sF X k)) (cs k fun i => cx (X i)) (k * (200 * eps)) ∧ (k < 16 → cadd (sF X k) (X k) = some (sF X (k + 1))) := by
  have he := eps_small
  have he0 := eps_pos
  have step : ∀ k, k < 16 → fin2 (sF X k) → Nc (cx (sF X k)) (cs k fun i => cx (X i)) (k * (200 * eps)) → ∃ z, cadd (sF X k) (X k) = some z ∧ fin2 z ∧ Nc (cx z) (cs (k + 1) fun i => cx (X i)) ((k + 1 : Nat) * (200 * eps)) := by
    intro k hk f1 n1
    have hs := cs_le (n := k) (f := fun i => cx (X i)) (b := 7) fun i _ => (hX i).2
    have hk16 : (k : Rat) ≤ ((16 : Nat) : Rat) := Rat.natCast_le_natCast.2 (by omega)
    have hk0 : (0 : Rat) ≤ k := Rat.natCast_nonneg
    have l16 : ((16 : Nat) : Rat) = 16 := rfl
    rw [l16] at hk16
    have h1 := Rat.mul_nonneg (show 0 ≤ 16 - (k : Rat) by grind) (show 0 ≤ 200 * eps by grind)
    have hl := (n1.lc hs).add (hX k).2
    obtain ⟨z, z1, z2, z3⟩ := cadd_near (sF X k) (X k) f1 (hX k).1 200 (by grind) (by grind) (hl.mono (by grind))
    refine ⟨z, z1, z2, ?_⟩
    have h2 := z3.trans (n1.add (Nc.refl (cx (X k))))
    rw [Rat.natCast_add]
    have l1 : ((1 : Nat) : Rat) = 1 := rfl
    rw [l1]
    exact h2.mono (by grind)
  induction k with
  | zero =>
    intro _
    have h0 : Nc (cx (sF X 0)) (cs 0 fun i => cx (X i)) ((0 : Nat) * (200 * eps)) := by
      show Nc (cx (0, 0)) 0 _
      rw [zero_cx.2]
      have l0 : ((0 : Nat) : Rat) = 0 := rfl
      rw [l0]
      exact (Nc.refl 0).mono (by grind)
    refine ⟨zero_cx.1, h0, fun _ => ?_⟩
    obtain ⟨z, z1, _⟩ := step 0 (by omega) zero_cx.1 h0
    rw [z1]
    show some z = some (cget (cadd (sF X 0) (X 0)))
    rw [cget_eq z1]
  | succ k ih =>
    intro hk
    obtain ⟨f1, n1, _⟩ := ih (by omega)
    obtain ⟨z, z1, z2, z3⟩ := step k (by omega) f1 n1
    have hz : sF X (k + 1) = z := cget_eq z1
    have f2 : fin2 (sF X (k + 1)) := by rw [hz]; exact z2
    have n2 : Nc (cx (sF X (k + 1))) (cs (k + 1) fun i => cx (X i)) ((k + 1 : Nat) * (200 * eps)) := by rw [hz]; exact z3
    refine ⟨f2, n2, fun h => ?_⟩
    obtain ⟨y, y1, _⟩ := step (k + 1) h f2 n2
    rw [y1]
    show some y = some (cget (cadd (sF X (k + 1)) (X (k + 1))))
    rw [cget_eq y1]

theorem W_zero : W 0 = 1 := by
  ext
  · show ((tre 0 : Int) : Rat) * pw (-110) = ((1 : Nat) : Rat)
    have : tre 0 = 1298074214633706907132624082305024 := by decide +kernel
    rw [this]
    have := pw110
    have e1 : ((1298074214633706907132624082305024 : Int) : Rat) = 1298074214633706907132624082305024 := rfl
    have e2 : ((1 : Nat) : Rat) = 1 := rfl
    rw [e1, e2]
    grind
  · show ((tim 0 : Int) : Rat) * pw (-110) = 0
    have : tim 0 = 0 := by decide +kernel
    rw [this]
    simp
theorem P_zero (m : Nat) (X : Nat → Cx) : P m X 0 = cs (2 ^ m) X := by
  unfold P
  refine cs_congr fun j _ => ?_
  rw [show 0 * j * 2 ^ (7 - m) = 0 by simp, W_zero]
  grind
/-- The first element is the sum. -/
theorem first_near (m : Nat) (hm : m ≤ 4) (X : Nat → Nat × Nat) (hX : ∀ i, fin2 (X i) ∧ Lc (cx (X i)) 7) : dftOk m X ∧ nearB (dftS m X 0) (sF X (2 ^ m)) = true := by
  obtain ⟨ok, hf⟩ := fft_near m (by omega) X 7 (by grind) (by grind) (fun i _ => hX i)
  have h16 : 2 ^ m ≤ 16 := Nat.le_trans (Nat.pow_le_pow_right (by decide) hm) (by decide)
  obtain ⟨f1, n1⟩ := hf 0 (Nat.two_pow_pos m)
  obtain ⟨f2, n2, _⟩ := sF_near X hX (2 ^ m) h16
  rw [P_zero] at n1
  have he := eps_small
  have he0 := eps_pos
  obtain ⟨q1, q2, e1, e2⟩ := qe_bound m (by omega)
  have hk16 : ((2 ^ m : Nat) : Rat) ≤ ((16 : Nat) : Rat) := Rat.natCast_le_natCast.2 h16
  have l16 : ((16 : Nat) : Rat) = 16 := rfl
  rw [l16] at hk16
  have b1 := Rat.mul_nonneg (show 0 ≤ 100000 - eR m by grind) (show 0 ≤ 7 * eps by grind)
  have b2 := Rat.mul_nonneg (show 0 ≤ 16 - ((2 ^ m : Nat) : Rat) by grind) (show 0 ≤ 200 * eps by grind)
  refine ⟨ok, near_of _ _ f1 f2 ?_⟩
  unfold Nc Lc Le at *
  simp only [Cx.sub_re, Cx.sub_im] at *
  generalize cs (2 ^ m) (fun i => cx (X i)) = S at *
  generalize ((2 ^ m : Nat) : Rat) = n at *
  grind

def one1 : Nat × Nat := (4607182418800017408, 0)
theorem one_fact : sc 4607182418800017408 = some 1298074214633706907132624082305024 := by decide +kernel
theorem one_cx : fin2 one1 ∧ cx one1 = 1 := by
  obtain ⟨h1, h2⟩ := sc_val _ _ one_fact
  refine ⟨⟨h1, val_zero.1⟩, ?_⟩
  unfold cx one1
  simp only [h2, val_zero.2]
  have := pw110
  have e1 : ((1298074214633706907132624082305024 : Int) : Rat) = 1298074214633706907132624082305024 := rfl
  rw [e1]
  ext
  · show 1298074214633706907132624082305024 * pw (-110) = ((1 : Nat) : Rat)
    have e2 : ((1 : Nat) : Rat) = 1 := rfl
    rw [e2]
    grind
  · rfl
def ones : Nat → Nat × Nat := fun _ => one1
theorem ones_near (m : Nat) (hm : m ≤ 4) : dftOk m ones ∧ nearB (dftS m ones 0) (floatOfInt .f64 ((2 ^ m : Nat) : Int), 0) = true ∧ ∀ k, 0 < k → k < 2 ^ m → nearB (dftS m ones k) (0, 0) = true := by
  have hone : Lc (cx one1) 7 := by
    rw [one_cx.2]
    unfold Lc Le
    rw [Cx.one_re, Cx.one_im]
    grind
  obtain ⟨ok, hf⟩ := fft_near m (by omega) ones 7 (by grind) (by grind) (fun i _ => ⟨one_cx.1, hone⟩)
  have h16 : 2 ^ m ≤ 16 := Nat.le_trans (Nat.pow_le_pow_right (by decide) hm) (by decide)
  have he := eps_small
  have he0 := eps_pos
  obtain ⟨q1, q2, e1, e2⟩ := qe_bound m (by omega)
  have b1 := Rat.mul_nonneg (show 0 ≤ 100000 - eR m by grind) (show 0 ≤ 7 * eps by grind)
  have hP : ∀ k, P m (fun i => cx (ones i)) k = cs (2 ^ m) fun j => W (j * k * 2 ^ (7 - m)) := by
    intro k
    unfold P
    refine cs_congr fun j _ => ?_
    show cx one1 * _ = _
    rw [one_cx.2, Nat.mul_comm k j]
    grind
  have key : ∀ k, k < 2 ^ m → fin2 (dftS m ones k) ∧ Nc (cx (dftS m ones k)) (if k % 2 ^ m = 0 then ⟨((2 ^ m : Nat) : Rat), 0⟩ else 0) (1 / 2097152) := by
    intro k hk
    obtain ⟨f1, n1⟩ := hf k hk
    rw [hP k] at n1
    exact ⟨f1, (n1.trans (W_sum m k (by omega))).mono (by grind)⟩
  have hpn : 0 ≤ ((2 ^ m : Nat) : Int) := Int.natCast_nonneg _
  have hpn2 : ((2 ^ m : Nat) : Int) ≤ 16 := by exact_mod_cast h16
  obtain ⟨v1, v2⟩ := int_val ((2 ^ m : Nat) : Int) (by generalize ((2 ^ m : Nat) : Int) = z at *; omega) (by generalize ((2 ^ m : Nat) : Int) = z at *; omega)
  refine ⟨ok, ?_, ?_⟩
  · obtain ⟨f1, n1⟩ := key 0 (Nat.two_pow_pos m)
    refine near_of _ _ f1 ⟨v1, val_zero.1⟩ ?_
    rw [Nat.zero_mod, if_pos rfl] at n1
    have : cx (floatOfInt .f64 ((2 ^ m : Nat) : Int), 0) = ⟨((2 ^ m : Nat) : Rat), 0⟩ := by
      unfold cx
      simp only [v2, val_zero.2, Rat.intCast_natCast]
    rw [this]
    exact n1
  · intro k h0 hk
    obtain ⟨f1, n1⟩ := key k hk
    refine near_of _ _ f1 zero_cx.1 ?_
    rw [Nat.mod_eq_of_lt hk, if_neg (by omega)] at n1
    rw [zero_cx.2]
    exact n1
end Go.Proofs.YtijbjncdiojpdaaDoor
