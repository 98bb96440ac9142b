/- Plain facts on 64-bit words as natural numbers: masks, the carry of a subtraction read off its top bits, the bitwise choice. No program in sight. -/
import Derived.Laws.BitsAll
import Derived.Laws.Entries
namespace Go.Proofs.Ytacghnepggkgpaa

/-- The mask of a condition. -/
def maskN (c : Bool) : Nat := if c then 18446744073709551615 else 0
theorem maskN_true : maskN true = 18446744073709551615 := rfl
theorem maskN_false : maskN false = 0 := rfl
theorem maskN_lt (c : Bool) : maskN c < 18446744073709551616 := by cases c <;> decide

theorem top_bit (y : Nat) (h : y < 18446744073709551616) : y / 9223372036854775808 = if y.testBit 63 then 1 else 0 := by
  rw [Nat.testBit_eq_decide_div_mod_eq]
  have : (2 : Nat) ^ 63 = 9223372036854775808 := by decide
  rw [this]
  by_cases hy : 9223372036854775808 ≤ y
  · have e : y / 9223372036854775808 = 1 := by omega
    simp [e]
  · have e : y / 9223372036854775808 = 0 := by omega
    simp [e]

theorem not_word (x i : Nat) (h : x < 18446744073709551616) : (18446744073709551615 - x).testBit i = (decide (i < 64) && !x.testBit i) := by
  have := Nat.testBit_two_pow_sub_succ (x := x) (n := 64) (by simpa using h) i
  have e : 2 ^ 64 - (x + 1) = 18446744073709551615 - x := by omega
  rwa [e] at this

theorem bit63 (x : Nat) (h : x < 18446744073709551616) : x.testBit 63 = decide (9223372036854775808 ≤ x) := by
  have t := top_bit x h
  by_cases hx : 9223372036854775808 ≤ x
  · have e : x / 9223372036854775808 = 1 := by omega
    rw [e] at t
    cases hb : x.testBit 63 <;> simp_all
  · have e : x / 9223372036854775808 = 0 := by omega
    rw [e] at t
    cases hb : x.testBit 63 <;> simp_all

theorem and_lt (a b : Nat) (h : a < 18446744073709551616) : a &&& b < 18446744073709551616 := Nat.lt_of_le_of_lt Nat.and_le_left h
theorem or_lt (a b : Nat) (h : a < 18446744073709551616) (h' : b < 18446744073709551616) : a ||| b < 18446744073709551616 := Nat.or_lt_two_pow (n := 64) h h'
theorem xor_lt (a b : Nat) (h : a < 18446744073709551616) (h' : b < 18446744073709551616) : a ^^^ b < 18446744073709551616 := Nat.xor_lt_two_pow (n := 64) h h'

/-- Less. -/
theorem less_top (a b : Nat) (ha : a < 18446744073709551616) (hb : b < 18446744073709551616) :
    (((18446744073709551615 - a) &&& b) ||| ((18446744073709551615 - (a ^^^ b)) &&& ((a + (18446744073709551616 - b)) % 18446744073709551616))) / 9223372036854775808 = if a < b then 1 else 0 := by
  have hx := xor_lt a b ha hb
  have hd : (a + (18446744073709551616 - b)) % 18446744073709551616 < 18446744073709551616 := Nat.mod_lt _ (by decide)
  rw [top_bit _ (or_lt _ _ (and_lt _ _ (by omega)) (and_lt _ _ (by omega)))]
  simp only [Nat.testBit_or, Nat.testBit_and, not_word a 63 ha, not_word _ 63 hx, Nat.testBit_xor, bit63 a ha, bit63 b hb, bit63 _ hd]
  by_cases h1 : 9223372036854775808 ≤ a <;> by_cases h2 : 9223372036854775808 ≤ b <;> simp [h1, h2]
  · by_cases h : a < b
    · have : 9223372036854775808 ≤ (a + (18446744073709551616 - b)) % 18446744073709551616 := by omega
      simp [h, this]
    · have : ¬ 9223372036854775808 ≤ (a + (18446744073709551616 - b)) % 18446744073709551616 := by omega
      simp [h, this]
  · omega
  · omega
  · by_cases h : a < b
    · have : 9223372036854775808 ≤ (a + (18446744073709551616 - b)) % 18446744073709551616 := by omega
      simp [h, this]
    · have : ¬ 9223372036854775808 ≤ (a + (18446744073709551616 - b)) % 18446744073709551616 := by omega
      simp [h, this]

/-- IsZero. -/
theorem zero_top (u : Nat) (hu : u < 18446744073709551616) :
    (18446744073709551615 - (u ||| (18446744073709551616 - u) % 18446744073709551616)) / 9223372036854775808 = if u = 0 then 1 else 0 := by
  have hd : (18446744073709551616 - u) % 18446744073709551616 < 18446744073709551616 := Nat.mod_lt _ (by decide)
  have ho := or_lt _ _ hu hd
  rw [top_bit _ (by omega), not_word _ 63 ho, Nat.testBit_or, bit63 u hu, bit63 _ hd]
  by_cases h : u = 0
  · subst h; simp
  · by_cases h1 : 9223372036854775808 ≤ u
    · simp [h, h1]
    · have : 9223372036854775808 ≤ (18446744073709551616 - u) % 18446744073709551616 := by omega
      simp [h, this]

/-- Choose, bit by bit. -/
theorem choose_bit (m a b i : Nat) : (b ^^^ (m &&& (a ^^^ b))).testBit i = if m.testBit i then a.testBit i else b.testBit i := by
  simp only [Nat.testBit_xor, Nat.testBit_and]
  cases m.testBit i <;> cases a.testBit i <;> cases b.testBit i <;> rfl

theorem choose_ones (a b : Nat) (ha : a < 18446744073709551616) (hb : b < 18446744073709551616) : b ^^^ (18446744073709551615 &&& (a ^^^ b)) = a := by
  apply Nat.eq_of_testBit_eq
  intro i
  rw [choose_bit]
  have h := not_word 0 i (by decide)
  simp at h
  rw [h]
  by_cases hi : i < 64
  · simp [hi]
  · have h1 : a.testBit i = false := Nat.testBit_lt_two_pow (Nat.lt_of_lt_of_le ha (by have := Nat.pow_le_pow_right (n := 2) (by decide) (Nat.le_of_not_lt hi); simpa using this))
    have h2 : b.testBit i = false := Nat.testBit_lt_two_pow (Nat.lt_of_lt_of_le hb (by have := Nat.pow_le_pow_right (n := 2) (by decide) (Nat.le_of_not_lt hi); simpa using this))
    simp [h1, h2]

theorem choose_zero (a b : Nat) : b ^^^ (0 &&& (a ^^^ b)) = b := by simp

theorem choose_mask (c : Bool) (a b : Nat) (ha : a < 18446744073709551616) (hb : b < 18446744073709551616) : b ^^^ (maskN c &&& (a ^^^ b)) = if c then a else b := by
  cases c
  · simp [maskN]
  · simpa [maskN] using choose_ones a b ha hb

end Go.Proofs.Ytacghnepggkgpaa
