/- The number that a float's word stands for; what rounding does to it. -/
import Derived.Test.YtijbjncdiojpdaaDoorDSpec
namespace Go.Proofs.YtijbjncdiojpdaaDoor
open Go

def pw (e : Int) : Rat := (2 : Rat) ^ e
theorem pw_add (a b : Int) : pw (a + b) = pw a * pw b := Rat.zpow_add (by decide) a b
theorem pw_pos (a : Int) : 0 < pw a := Rat.zpow_pos (by decide)
theorem pw_nat (n : Nat) : pw (n : Int) = ((2 ^ n : Nat) : Rat) := by
  unfold pw
  rw [Rat.zpow_natCast, Rat.natCast_pow]
  rfl
theorem pw_mono {a b : Int} (h : a ≤ b) : pw a ≤ pw b := by
  obtain ⟨n, rfl⟩ : ∃ n : Nat, b = a + n := ⟨(b - a).toNat, by omega⟩
  rw [pw_add, pw_nat]
  have h1 : (1 : Rat) ≤ ((2 ^ n : Nat) : Rat) := by
    have := Rat.natCast_le_natCast.2 (Nat.one_le_two_pow (n := n))
    simpa using this
  have h2 := pw_pos a
  have h3 := Rat.mul_le_mul_of_nonneg_left h1 (Rat.le_of_lt h2)
  grind
theorem pw_lt {a b : Int} (h : pw a < pw b) : a < b := by
  rcases Int.lt_or_le a b with h1 | h1
  · exact h1
  · have := pw_mono h1
    grind

def sgn (s : Bool) : Rat := if s then -1 else 1
def dval : Ieee.Datum → Rat
  | .number s m e => sgn s * m * pw e
  | _ => 0
def isNum : Ieee.Datum → Bool
  | .number _ _ _ => true
  | _ => false
def val (x : Nat) : Rat := dval (Ieee.double.read x)
def fin (x : Nat) : Bool := isNum (Ieee.double.read x)

theorem read_eq (x : Nat) : Ieee.double.read x = if x % 2 ^ 63 < 2 ^ 52 then .number (x / 2 ^ 63 % 2 == 1) (x % 2 ^ 63) (-1074) else if x % 2 ^ 63 < 2047 * 2 ^ 52 then
    .number (x / 2 ^ 63 % 2 == 1) (2 ^ 52 + x % 2 ^ 63 % 2 ^ 52) (-1074 + (x % 2 ^ 63 / 2 ^ 52 - 1 : Nat)) else if x % 2 ^ 63 = 2047 * 2 ^ 52 then .infinity (x / 2 ^ 63 % 2 == 1) else .nan (x / 2 ^ 63 % 2 == 1) (x % 2 ^ 63 - 2047 * 2 ^ 52) := rfl

/-- The word of a sign and a rung that stands for kept units of place last. -/
theorem read_rung (s : Bool) (j kept : Nat) (hk : kept ≤ 2 ^ 53) (hj : 0 < j → 2 ^ 52 ≤ kept) (hr : j ≤ 2040) :
    isNum (Ieee.double.read (Ieee.double.word s (j * 2 ^ 52 + kept))) = true ∧ dval (Ieee.double.read (Ieee.double.word s (j * 2 ^ 52 + kept))) = sgn s * kept * pw (-1074 + j) := by
  have hw : Ieee.double.word s (j * 2 ^ 52 + kept) = (if s then 2 ^ 63 else 0) + (j * 2 ^ 52 + kept) := by
    cases s
    · simp [Ieee.Format.word]
    · simp [Ieee.Format.word, Ieee.Format.signWeight, Ieee.double]
  have hlt : j * 2 ^ 52 + kept < 2 ^ 63 := by omega
  have hm : Ieee.double.word s (j * 2 ^ 52 + kept) % 2 ^ 63 = j * 2 ^ 52 + kept := by
    rw [hw]
    cases s <;> simp <;> omega
  have hd : (Ieee.double.word s (j * 2 ^ 52 + kept) / 2 ^ 63 % 2 == 1) = s := by
    rw [hw]
    cases s
    · simp only [Bool.false_eq_true, if_false, Nat.zero_add, Nat.div_eq_of_lt hlt]
      rfl
    · have : (2 ^ 63 + (j * 2 ^ 52 + kept)) / 2 ^ 63 = 1 := by omega
      simp only [if_true, this]
      rfl
  rw [read_eq, hm, hd]
  by_cases h1 : j * 2 ^ 52 + kept < 2 ^ 52
  · obtain rfl : j = 0 := by omega
    rw [if_pos h1]
    refine ⟨rfl, ?_⟩
    simp [dval]
  · rw [if_neg h1, if_pos (by omega)]
    refine ⟨rfl, ?_⟩
    by_cases h2 : kept = 2 ^ 53
    · subst h2
      have e1 : (j * 2 ^ 52 + 2 ^ 53) % 2 ^ 52 = 0 := by omega
      have e2 : (j * 2 ^ 52 + 2 ^ 53) / 2 ^ 52 - 1 = j + 1 := by omega
      rw [e1, e2]
      show sgn s * ((2 ^ 52 + 0 : Nat) : Rat) * pw (-1074 + ((j + 1 : Nat) : Int)) = _
      rw [show (-1074 + ((j + 1 : Nat) : Int)) = (-1074 + (j : Int)) + ((1 : Nat) : Int) by omega, pw_add (-1074 + (j : Int)) ((1 : Nat) : Int), pw_nat 1]
      simp only [Nat.add_zero]
      rw [show (2 ^ 53 : Nat) = 2 ^ 52 * 2 ^ 1 from rfl, Rat.natCast_mul]
      generalize pw (-1074 + (j : Int)) = P
      generalize sgn s = S
      generalize ((2 ^ 52 : Nat) : Rat) = A
      generalize ((2 ^ 1 : Nat) : Rat) = B
      grind
    · have e0 : kept < 2 ^ 53 := by omega
      by_cases h3 : 2 ^ 52 ≤ kept
      · have e1 : 2 ^ 52 + (j * 2 ^ 52 + kept) % 2 ^ 52 = kept := by omega
        have e2 : (j * 2 ^ 52 + kept) / 2 ^ 52 - 1 = j := by omega
        rw [e1, e2]
        rfl
      · omega

/-- Half to even, as a whole number: off by half a unit at the most. -/
theorem cut_near (neg : Bool) (n drop : Nat) : 2 * (Ieee.Toward.even.cut neg n drop * 2 ^ drop) ≤ 2 * n + 2 ^ drop ∧ 2 * n ≤ 2 * (Ieee.Toward.even.cut neg n drop * 2 ^ drop) + 2 ^ drop := by
  by_cases hd : drop ≤ n.log2 + 2
  · have hg : (1 <<< min drop (n.log2 + 2)) = 2 ^ drop := by rw [Nat.min_eq_left hd, Nat.one_shiftLeft]
    unfold Ieee.Toward.cut
    simp only [hg]
    have hp : 0 < 2 ^ drop := Nat.two_pow_pos drop
    generalize 2 ^ drop = g at *
    have h1 := Nat.div_add_mod n g
    have h2 := Nat.mod_lt n hp
    generalize n / g = q at *
    generalize n % g = r at *
    have hm : g * q = q * g := Nat.mul_comm _ _
    by_cases hc : (decide (g < 2 * r) || (g == 2 * r && q % 2 == 1)) = true
    · rw [hc]
      have h3 : g ≤ 2 * r := by
        simp only [Bool.or_eq_true, Bool.and_eq_true, decide_eq_true_eq, beq_iff_eq] at hc
        omega
      simp only [Bool.toNat_true, Nat.add_mul, Nat.one_mul]
      omega
    · simp only [Bool.not_eq_true] at hc
      rw [hc]
      have h3 : 2 * r ≤ g := by
        simp only [Bool.or_eq_false_iff, decide_eq_false_iff_not] at hc
        omega
      simp only [Bool.toNat_false, Nat.add_zero]
      omega
  · have hlt : 4 * n < 2 ^ drop := by
      have h1 : n < 2 ^ (n.log2 + 1) := Nat.lt_log2_self
      have h2 : 2 ^ (n.log2 + 3) ≤ 2 ^ drop := Nat.pow_le_pow_right (by decide) (by omega)
      have h3 : 2 ^ (n.log2 + 3) = 2 ^ (n.log2 + 1) * 4 := by rw [show n.log2 + 3 = n.log2 + 1 + 2 by omega, Nat.pow_add]
      omega
    have h0 : Ieee.Toward.even.cut neg n drop = 0 := by
      unfold Ieee.Toward.cut
      have hg : (1 <<< min drop (n.log2 + 2)) = 2 ^ (n.log2 + 2) := by rw [Nat.min_eq_right (by omega), Nat.one_shiftLeft]
      have h1 : n < 2 ^ (n.log2 + 1) := Nat.lt_log2_self
      have h3 : 2 ^ (n.log2 + 2) = 2 ^ (n.log2 + 1) * 2 := by rw [show n.log2 + 2 = n.log2 + 1 + 1 by omega, Nat.pow_succ]
      simp only [hg]
      rw [Nat.div_eq_of_lt (by omega), Nat.mod_eq_of_lt (by omega)]
      have e1 : ¬ 2 ^ (n.log2 + 2) < 2 * n := by omega
      have e2 : (2 ^ (n.log2 + 2) == 2 * n) = false := by
        rw [beq_eq_false_iff_ne]
        omega
      simp [e1, e2]
    rw [h0]
    omega

/-- x and y are not further apart than d. -/
def Near (x y d : Rat) : Prop := x - y ≤ d ∧ y - x ≤ d

theorem nearest_eq (s : Bool) (m : Nat) (e : Int) (hm : m ≠ 0) : Ieee.double.nearest s m e = Ieee.double.word s (min ((max (e + m.log2 - 52) (-1074) + 1074).toNat * 2 ^ 52 +
    Ieee.Toward.even.cut s (m <<< (e - max (e + m.log2 - 52) (-1074)).toNat) (max (e + m.log2 - 52) (-1074) - e).toNat) (2047 * 2 ^ 52)) := by
  unfold Ieee.Format.nearest
  rw [if_neg hm]
  rfl

theorem nearest_val (s : Bool) (m : Nat) (e : Int) (h : (m : Rat) * pw e < pw 900) :
    fin (Ieee.double.nearest s m e) = true ∧ Near (val (Ieee.double.nearest s m e)) (sgn s * m * pw e) (m * pw e * pw (-53) + pw (-1075)) := by
  by_cases hm : m = 0
  · subst hm
    have h1 : Ieee.double.nearest s 0 e = Ieee.double.word s (0 * 2 ^ 52 + 0) := by
      unfold Ieee.Format.nearest
      rw [if_pos rfl]
    obtain ⟨h2, h3⟩ := read_rung s 0 0 (by omega) (by omega) (by omega)
    unfold fin val
    rw [h1]
    refine ⟨h2, ?_⟩
    rw [h3]
    have hp := pw_pos (-1075)
    generalize pw (-1075) = A at *
    unfold Near
    have : ((0 : Nat) : Rat) = 0 := rfl
    grind
  · have hL1 : 2 ^ m.log2 ≤ m := Nat.log2_self_le hm
    have hL2 : m < 2 ^ (m.log2 + 1) := Nat.lt_log2_self
    rw [nearest_eq s m e hm]
    generalize m.log2 = L at *
    have hpe := pw_pos e
    have hle : pw (e + L) ≤ m * pw e := by
      rw [pw_add, pw_nat]
      have := Rat.mul_le_mul_of_nonneg_right (Rat.natCast_le_natCast.2 hL1) (Rat.le_of_lt hpe)
      generalize pw e = P at *
      generalize ((2 ^ L : Nat) : Rat) = T at *
      grind
    have hlt : e + L < 900 := pw_lt (by grind)
    obtain ⟨last, hlast⟩ : ∃ l, l = max (e + L - 52) (-1074) := ⟨_, rfl⟩
    rw [← hlast]
    obtain ⟨a, ha⟩ : ∃ a, a = (e - last).toNat := ⟨_, rfl⟩
    obtain ⟨b, hb⟩ : ∃ b, b = (last - e).toNat := ⟨_, rfl⟩
    rw [← ha, ← hb, Nat.shiftLeft_eq]
    obtain ⟨c1, c2⟩ := cut_near s (m * 2 ^ a) b
    generalize Ieee.Toward.even.cut s (m * 2 ^ a) b = K at *
    have hab : e - a + b = last := by omega
    have hLab : L + a ≤ 52 + b := by omega
    have hN1 : m * 2 ^ a < 2 ^ 53 * 2 ^ b := by
      have h1 : m * 2 ^ a < 2 ^ (L + 1) * 2 ^ a := Nat.mul_lt_mul_of_pos_right hL2 (Nat.two_pow_pos a)
      rw [← Nat.pow_add] at h1 ⊢
      exact Nat.lt_of_lt_of_le h1 (Nat.pow_le_pow_right (by decide) (by omega))
    have hN2 : -1074 < last → 2 ^ 52 * 2 ^ b ≤ m * 2 ^ a := by
      intro hl
      have h1 : 2 ^ L * 2 ^ a ≤ m * 2 ^ a := Nat.mul_le_mul_right _ hL1
      rw [← Nat.pow_add] at h1 ⊢
      exact Nat.le_trans (Nat.pow_le_pow_right (by decide) (by omega)) h1
    have hB : 0 < 2 ^ b := Nat.two_pow_pos b
    have hK1 : K ≤ 2 ^ 53 := by
      rcases Nat.lt_or_ge (2 ^ 53) K with h1 | h1
      · have := Nat.mul_le_mul_right (2 ^ b) (show 2 ^ 53 + 1 ≤ K from h1)
        rw [Nat.add_mul, Nat.one_mul] at this
        omega
      · exact h1
    have hK2 : -1074 < last → 2 ^ 52 ≤ K := by
      intro hl
      have h0 := hN2 hl
      rcases Nat.lt_or_ge K (2 ^ 52) with h1 | h1
      · have := Nat.mul_le_mul_right (2 ^ b) (show K + 1 ≤ 2 ^ 52 from h1)
        rw [Nat.add_mul, Nat.one_mul] at this
        omega
      · exact h1
    obtain ⟨j, hj⟩ : ∃ j : Nat, j = (last + 1074).toNat := ⟨_, rfl⟩
    rw [← hj, Nat.min_eq_left (by omega)]
    obtain ⟨h2, h3⟩ := read_rung s j K hK1 (fun hj0 => hK2 (by omega)) (by omega)
    unfold fin val
    refine ⟨h2, ?_⟩
    rw [h3, show -1074 + (j : Int) = last by omega]
    have hx : (m : Rat) * pw e = ((m * 2 ^ a : Nat) : Rat) * pw (e - a) := by
      have h1 : pw e = pw a * pw (e - a) := by rw [← pw_add]; congr 1; omega
      rw [h1, pw_nat, Rat.natCast_mul]
      generalize pw (e - a) = P
      generalize ((2 ^ a : Nat) : Rat) = T
      grind
    have hy : (K : Rat) * pw last = ((K * 2 ^ b : Nat) : Rat) * pw (e - a) := by
      have h1 : pw last = pw b * pw (e - a) := by rw [← pw_add]; congr 1; omega
      rw [h1, pw_nat, Rat.natCast_mul]
      generalize pw (e - a) = P
      generalize ((2 ^ b : Nat) : Rat) = T
      grind
    have hz : pw last = ((2 ^ b : Nat) : Rat) * pw (e - a) := by
      rw [← pw_nat, ← pw_add]
      congr 1
      omega
    have hp := pw_pos (e - a)
    have hd : Near (K * pw last) (m * pw e) (pw last / 2) := by
      rw [hx, hy, hz]
      have d1 := Rat.mul_le_mul_of_nonneg_right (Rat.natCast_le_natCast.2 c1) (Rat.le_of_lt hp)
      have d2 := Rat.mul_le_mul_of_nonneg_right (Rat.natCast_le_natCast.2 c2) (Rat.le_of_lt hp)
      rw [Rat.natCast_add, Rat.natCast_mul 2, Rat.natCast_mul 2] at d1 d2
      generalize pw (e - a) = P at *
      generalize ((2 ^ b : Nat) : Rat) = T at *
      generalize ((K * 2 ^ b : Nat) : Rat) = T1 at *
      generalize ((m * 2 ^ a : Nat) : Rat) = T2 at *
      have : ((2 : Nat) : Rat) = 2 := rfl
      unfold Near
      grind
    have hu : pw last / 2 ≤ m * pw e * pw (-53) + pw (-1075) := by
      have q1 := pw_pos (-53)
      have q2 := pw_pos (-1075)
      have q3 := Rat.mul_pos (pw_pos (e + L)) q1
      have q4 := Rat.mul_le_mul_of_nonneg_right hle (Rat.le_of_lt q1)
      rcases (show last = -1074 ∨ last = e + L - 52 by omega) with h1 | h1
      · have : pw last = pw (-1075) * 2 := by
          rw [h1, show (-1074 : Int) = -1075 + ((1 : Nat) : Int) by decide, pw_add, pw_nat]
          rfl
        generalize pw last = A at *
        generalize pw (-1075) = B at *
        generalize pw (-53) = C at *
        generalize (m : Rat) * pw e = D at *
        generalize pw (e + L) = F at *
        grind
      · have : pw last = pw (e + L) * pw (-53) * 2 := by
          rw [h1, show e + L - 52 = (e + L) + (-53) + ((1 : Nat) : Int) by omega, pw_add, pw_add, pw_nat]
          rfl
        generalize pw last = A at *
        generalize pw (-1075) = B at *
        generalize pw (-53) = C at *
        generalize (m : Rat) * pw e = D at *
        generalize pw (e + L) = F at *
        grind
    generalize (m : Rat) * pw e * pw (-53) + pw (-1075) = U at *
    unfold Near at *
    cases s
    · have hs : sgn false = 1 := rfl
      rw [hs]
      grind
    · have hs : sgn true = -1 := rfl
      rw [hs]
      grind
end Go.Proofs.YtijbjncdiojpdaaDoor
