/- The operations on floats, as operations on numbers up to rounding. -/
import Derived.Test.YtijbjncdiojpdaaDoorFVal
namespace Go.Proofs.YtijbjncdiojpdaaDoor
open Go

def eps : Rat := pw (-52)
theorem eps_pos : 0 < eps := pw_pos _
theorem eps_val : eps * 4503599627370496 = 1 := by
  unfold eps
  have h : pw (-52) * pw ((52 : Nat) : Int) = 1 := by rw [← pw_add]; decide
  rw [pw_nat] at h
  exact h
/-- A bound that rounding can be measured by. -/
def Bd (B : Rat) : Prop := pw (-900) ≤ B ∧ B < pw 900
def Le (x B : Rat) : Prop := -B ≤ x ∧ x ≤ B

theorem sgn_cases (s : Bool) : sgn s = 1 ∨ sgn s = -1 := by
  cases s
  · exact .inl rfl
  · exact .inr rfl
theorem write_near (d : Ieee.Datum) (h : isNum d = true) (B : Rat) (hB : Bd B) (hd : Le (dval d) B) : fin (Ieee.double.write d) = true ∧ Near (val (Ieee.double.write d)) (dval d) (B * eps) := by
  obtain ⟨h1, h2⟩ := hB
  cases d with
  | infinity s => cases h
  | nan s f => cases h
  | number s m e =>
    have hv : dval (.number s m e) = sgn s * m * pw e := rfl
    have h0 : (0 : Rat) ≤ m * pw e := Rat.mul_nonneg Rat.natCast_nonneg (Rat.le_of_lt (pw_pos e))
    have hle : (m : Rat) * pw e ≤ B := by
      obtain ⟨d1, d2⟩ := hd
      rw [hv] at d1 d2
      rcases sgn_cases s with hs | hs
      · rw [hs] at d1 d2; grind
      · rw [hs] at d1 d2; grind
    obtain ⟨r1, r2⟩ := nearest_val s m e (by grind)
    refine ⟨r1, ?_⟩
    rw [hv]
    have he : eps = pw (-53) * 2 := by
      unfold eps
      rw [show (-52 : Int) = -53 + ((1 : Nat) : Int) by decide, pw_add, pw_nat]
      rfl
    have p1 := pw_pos (-53)
    have q1 := Rat.mul_le_mul_of_nonneg_right hle (Rat.le_of_lt p1)
    have q2 := Rat.mul_le_mul_of_nonneg_right h1 (Rat.le_of_lt p1)
    have q3 : pw (-1075) ≤ pw (-900) * pw (-53) := by
      rw [← pw_add]
      exact pw_mono (by decide)
    have hfin : (m : Rat) * pw e * pw (-53) + pw (-1075) ≤ B * eps := by rw [he]; grind
    have hw : Ieee.double.write (.number s m e) = Ieee.double.nearest s m e := rfl
    rw [hw]
    unfold Near at *
    grind

theorem signed_val (s : Bool) (m u : Nat) : ((Ieee.signed s m u : Int) : Rat) = sgn s * m * ((2 ^ u : Nat) : Rat) := by
  unfold Ieee.signed
  rw [Nat.shiftLeft_eq]
  cases s
  · simp only [Bool.false_eq_true, if_false, Rat.intCast_natCast, Rat.natCast_mul]
    have hs : sgn false = 1 := rfl
    rw [hs]
    grind
  · simp only [if_true, Rat.intCast_neg, Rat.intCast_natCast, Rat.natCast_mul]
    have hs : sgn true = -1 := rfl
    rw [hs]
    grind
theorem signed_place (s : Bool) (m : Nat) (i b : Int) (h : b ≤ i) : ((Ieee.signed s m (i - b).toNat : Int) : Rat) * pw b = sgn s * m * pw i := by
  rw [signed_val, ← pw_nat]
  have : pw i = pw ((i - b).toNat : Int) * pw b := by rw [← pw_add]; congr 1; omega
  rw [this]
  generalize pw b = P
  generalize pw ((i - b).toNat : Int) = Q
  grind
theorem natAbs_val (t : Int) (z : Bool) (hz : z = decide (t < 0) ∨ t = 0) : sgn z * (t.natAbs : Rat) = (t : Rat) := by
  rcases hz with rfl | rfl
  · rcases Int.lt_or_le t 0 with h | h
    · rw [decide_eq_true h]
      have h1 : (t.natAbs : Rat) = ((-t : Int) : Rat) := by
        rw [← Rat.intCast_natCast]
        congr 1
        omega
      have hs : sgn true = -1 := rfl
      rw [h1, hs, Rat.intCast_neg]
      grind
    · rw [decide_eq_false (by omega)]
      have h1 : (t.natAbs : Rat) = (t : Rat) := by
        rw [← Rat.intCast_natCast]
        congr 1
        omega
      have hs : sgn false = 1 := rfl
      rw [h1, hs]
      grind
  · simp

theorem sum_num (a b : Ieee.Datum) (ha : isNum a = true) (hb : isNum b = true) : ∃ d, a.sum b = some d ∧ isNum d = true ∧ dval d = dval a + dval b := by
  cases a with
  | infinity s => cases ha
  | nan s f => cases ha
  | number s m i =>
    cases b with
    | infinity s => cases hb
    | nan s f => cases hb
    | number t n j =>
      refine ⟨_, rfl, rfl, ?_⟩
      show sgn _ * _ * pw (min i j) = sgn s * m * pw i + sgn t * n * pw j
      rw [natAbs_val]
      · rw [Rat.intCast_add, Rat.add_mul, signed_place s m i _ (by omega), signed_place t n j _ (by omega)]
      · by_cases h : Ieee.signed s m (i - min i j).toNat + Ieee.signed t n (j - min i j).toNat = 0
        · exact .inr h
        · left
          rw [if_neg h]
theorem prod_num (a b : Ieee.Datum) (ha : isNum a = true) (hb : isNum b = true) : ∃ d, a.product b = some d ∧ isNum d = true ∧ dval d = dval a * dval b := by
  cases a with
  | infinity s => cases ha
  | nan s f => cases ha
  | number s m i =>
    cases b with
    | infinity s => cases hb
    | nan s f => cases hb
    | number t n j =>
      refine ⟨_, rfl, rfl, ?_⟩
      show sgn (s ^^ t) * ((m * n : Nat) : Rat) * pw (i + j) = sgn s * m * pw i * (sgn t * n * pw j)
      have : sgn (s ^^ t) = sgn s * sgn t := by cases s <;> cases t <;> simp [sgn] <;> grind
      rw [this, Rat.natCast_mul, pw_add]
      generalize pw i = P
      generalize pw j = Q
      grind
theorem opp_num (a : Ieee.Datum) (ha : isNum a = true) : isNum a.opposite = true ∧ dval a.opposite = -dval a := by
  cases a with
  | infinity s => cases ha
  | nan s f => cases ha
  | number s m i =>
    refine ⟨rfl, ?_⟩
    show sgn (!s) * m * pw i = -(sgn s * m * pw i)
    have : sgn (!s) = -sgn s := by cases s <;> simp [sgn]
    rw [this]
    generalize pw i = P
    grind

theorem add_near (x y : Nat) (hx : fin x = true) (hy : fin y = true) (B : Rat) (hB : Bd B) (hv : Le (val x + val y) B) : ∃ r, floatBits .add .f64 x y = some r ∧ fin r = true ∧ Near (val r) (val x + val y) (B * eps) := by
  obtain ⟨d, h1, h2, h3⟩ := sum_num _ _ hx hy
  obtain ⟨h4, h5⟩ := write_near d h2 B hB (by rw [h3]; exact hv)
  refine ⟨Ieee.double.write d, ?_, h4, ?_⟩
  · show ((Ieee.double.read x).sum (Ieee.double.read y)).map _ = _
    rw [h1]
    rfl
  · rw [h3] at h5
    exact h5
theorem sub_near (x y : Nat) (hx : fin x = true) (hy : fin y = true) (B : Rat) (hB : Bd B) (hv : Le (val x - val y) B) : ∃ r, floatBits .sub .f64 x y = some r ∧ fin r = true ∧ Near (val r) (val x - val y) (B * eps) := by
  obtain ⟨o1, o2⟩ := opp_num _ hy
  obtain ⟨d, h1, h2, h3⟩ := sum_num _ _ hx o1
  rw [o2, show dval (Ieee.double.read x) + -dval (Ieee.double.read y) = val x - val y by unfold val; grind] at h3
  obtain ⟨h4, h5⟩ := write_near d h2 B hB (by rw [h3]; exact hv)
  refine ⟨Ieee.double.write d, ?_, h4, ?_⟩
  · show ((Ieee.double.read x).sum (Ieee.double.read y).opposite).map _ = _
    rw [h1]
    rfl
  · rw [h3] at h5
    exact h5
theorem mul_near (x y : Nat) (hx : fin x = true) (hy : fin y = true) (B : Rat) (hB : Bd B) (hv : Le (val x * val y) B) : ∃ r, floatBits .mul .f64 x y = some r ∧ fin r = true ∧ Near (val r) (val x * val y) (B * eps) := by
  obtain ⟨d, h1, h2, h3⟩ := prod_num _ _ hx hy
  obtain ⟨h4, h5⟩ := write_near d h2 B hB (by rw [h3]; exact hv)
  refine ⟨Ieee.double.write d, ?_, h4, ?_⟩
  · show ((Ieee.double.read x).product (Ieee.double.read y)).map _ = _
    rw [h1]
    rfl
  · rw [h3] at h5
    exact h5

/-- A quotient by a power of two. -/
theorem quo_near (x y : Nat) (hx : fin x = true) (j : Int) (hy : Ieee.double.read y = .number false 4503599627370496 j) (B : Rat) (hB : Bd B) (hv : Le (val x * pw (-52 - j)) B) :
    ∃ r, floatBits .quo .f64 x y = some r ∧ fin r = true ∧ Near (val r) (val x * pw (-52 - j)) (B * eps) := by
  have key : ∃ d, (Ieee.double.read x).quotient 54 (Ieee.double.read y) = some d ∧ isNum d = true ∧ dval d = val x * pw (-52 - j) := by
    unfold fin at hx
    unfold val
    have hlt : ∀ s m e, Ieee.double.read x = .number s m e → m < 2 ^ 53 := by
      intro s m e h
      rw [read_eq] at h
      split at h
      · cases h; omega
      · split at h
        · cases h; omega
        · split at h <;> cases h
    rw [hy]
    revert hlt hx
    generalize Ieee.double.read x = a
    intro hx hlt
    cases a with
    | infinity s => cases hx
    | nan s f => cases hx
    | number s m i =>
      have hm := hlt s m i rfl
      refine ⟨_, rfl, rfl, ?_⟩
      have hl : (4503599627370496 : Nat).log2 = 52 := by decide
      rw [hl]
      have hm2 : m.log2 ≤ 53 := by
        by_cases h0 : m = 0
        · subst h0; decide
        · have := Nat.log2_self_le h0
          have h2 : 2 ^ m.log2 < 2 ^ 53 := by omega
          exact Nat.le_of_lt ((Nat.pow_lt_pow_iff_right (by decide)).1 h2)
      obtain ⟨c, hc⟩ : ∃ c, 54 + 52 - m.log2 = c + 52 := ⟨54 - m.log2, by omega⟩
      rw [hc, Nat.shiftLeft_eq, Nat.pow_add]
      have e1 : m * (2 ^ c * 2 ^ 52) / 4503599627370496 = m * 2 ^ c := by rw [← Nat.mul_assoc]; exact Nat.mul_div_cancel _ (by decide)
      have e2 : m * (2 ^ c * 2 ^ 52) % 4503599627370496 = 0 := by rw [← Nat.mul_assoc]; exact Nat.mul_mod_left _ _
      rw [e1, e2]
      show sgn (s ^^ false) * ((2 * (m * 2 ^ c) + 0 : Nat) : Rat) * pw (i - j - ((c + 52 : Nat) : Int) - 1) = sgn s * m * pw i * pw (-52 - j)
      have e3 : pw i * pw (-52 - j) = pw (((c + 1 : Nat) : Nat) : Int) * pw (i - j - ((c + 52 : Nat) : Int) - 1) := by
        rw [← pw_add, ← pw_add]
        congr 1
        omega
      rw [Rat.mul_assoc (sgn s * m), e3, pw_nat, Bool.xor_false, Nat.add_zero, show 2 * (m * 2 ^ c) = m * 2 ^ (c + 1) by rw [Nat.pow_succ]; grind, Rat.natCast_mul]
      generalize pw (i - j - ((c + 52 : Nat) : Int) - 1) = Q
      generalize ((2 ^ (c + 1) : Nat) : Rat) = T
      grind
  obtain ⟨d, h1, h2, h3⟩ := key
  obtain ⟨h4, h5⟩ := write_near d h2 B hB (by rw [h3]; exact hv)
  refine ⟨Ieee.double.write d, ?_, h4, ?_⟩
  · show ((Ieee.double.read x).quotient (52 + 2) (Ieee.double.read y)).map _ = _
    rw [h1]
    rfl
  · rw [h3] at h5
    exact h5
end Go.Proofs.YtijbjncdiojpdaaDoor
