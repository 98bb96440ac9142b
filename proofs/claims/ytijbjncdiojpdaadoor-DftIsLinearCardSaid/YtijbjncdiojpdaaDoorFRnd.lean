/- math.Round and the conversion to an integer, of a float that is near a whole number. -/
import Derived.Test.YtijbjncdiojpdaaDoorWRound
import Derived.Test.YtijbjncdiojpdaaDoorFOps
namespace Go.Proofs.YtijbjncdiojpdaaDoor
open Go

theorem toInt_val (d : Ieee.Datum) (hd : isNum d = true) (c : Int) (h : dval d = (c : Rat)) : d.toInt .zero = some c := by
  cases d with
  | infinity s => cases hd
  | nan s f => cases hd
  | number s m i =>
    show some (Ieee.signed s (Ieee.Toward.cut .zero s (m <<< i.toNat) (-i).toNat) 0) = some c
    congr 1
    have hv : sgn s * m * pw i = (c : Rat) := h
    have hcast : ((Ieee.signed s (Ieee.Toward.cut .zero s (m <<< i.toNat) (-i).toNat) 0 : Int) : Rat) = (c : Rat) := by
      rw [signed_val, ← hv]
      have hcut : ((Ieee.Toward.cut .zero s (m <<< i.toNat) (-i).toNat : Nat) : Rat) = m * pw i := by
        have hm0 : ∃ a : Nat, (a : Rat) = m * pw i := by
          refine ⟨c.natAbs, ?_⟩
          have h0 : (0 : Rat) ≤ m * pw i := Rat.mul_nonneg Rat.natCast_nonneg (Rat.le_of_lt (pw_pos i))
          have hc := natAbs_val c (decide (c < 0)) (.inl rfl)
          have hn : (0 : Rat) ≤ (c.natAbs : Rat) := Rat.natCast_nonneg
          rw [← hv, Rat.mul_assoc] at hc
          generalize (m : Rat) * pw i = y at *
          generalize (c.natAbs : Rat) = a at *
          clear hv h hd
          rcases sgn_cases s with h1 | h1 <;> rcases sgn_cases (decide (c < 0)) with h2 | h2 <;> rw [h1, h2] at hc <;> grind
        obtain ⟨a, ha⟩ := hm0
        rw [← ha]
        congr 1
        unfold Ieee.Toward.cut
        simp only [Bool.toNat_false, Nat.add_zero]
        rw [Nat.shiftLeft_eq, Nat.one_shiftLeft]
        rcases Int.lt_or_le i 0 with hi | hi
        · have e1 : i.toNat = 0 := by omega
          obtain ⟨k, hk⟩ : ∃ k : Nat, k = (-i).toNat := ⟨_, rfl⟩
          rw [e1, Nat.pow_zero, Nat.mul_one, ← hk]
          have hmk : m = a * 2 ^ k := by
            have h1 : pw i * pw (k : Int) = 1 := by rw [← pw_add, show i + (k : Int) = 0 by omega]; rfl
            have h2 : (m : Rat) = ((a * 2 ^ k : Nat) : Rat) := by
              rw [Rat.natCast_mul, ← pw_nat, ha]
              generalize pw i = P at *
              generalize pw (k : Int) = Q at *
              grind
            exact Rat.natCast_inj.1 h2
          by_cases hle : k ≤ m.log2 + 2
          · rw [Nat.min_eq_left hle, hmk, Nat.mul_div_cancel _ (Nat.two_pow_pos k)]
          · have h3 : m < 2 ^ (m.log2 + 1) := Nat.lt_log2_self
            have h4 : 2 ^ (m.log2 + 1) ≤ 2 ^ k := Nat.pow_le_pow_right (by decide) (by omega)
            have ha0 : a = 0 := by
              rcases Nat.eq_zero_or_pos a with h5 | h5
              · exact h5
              · have := Nat.mul_le_mul_right (2 ^ k) h5
                omega
            subst ha0
            rw [Nat.zero_mul] at hmk
            rw [hmk]
            simp
        · have e1 : (-i).toNat = 0 := by omega
          rw [e1, Nat.min_eq_left (Nat.zero_le _), Nat.pow_zero, Nat.div_one]
          have h2 : ((m * 2 ^ i.toNat : Nat) : Rat) = (a : Rat) := by
            rw [Rat.natCast_mul, ← pw_nat, ha, show ((i.toNat : Nat) : Int) = i by omega]
          exact Rat.natCast_inj.1 h2
      rw [Rat.mul_assoc, hcut]
      have : ((2 ^ 0 : Nat) : Rat) = 1 := rfl
      rw [this]
      generalize pw i = P
      grind
    exact Rat.intCast_inj.1 hcast

theorem mask_off (Y : BitVec 64) (s k : Nat) (h : s + k = 52) : Y &&& ~~~(4503599627370495#64 >>> s) = (Y >>> k) <<< k := by
  apply BitVec.eq_of_getLsbD_eq
  intro i hi
  have e : (4503599627370495#64).getLsbD (s + i) = decide (s + i < 52) := by
    rw [show (4503599627370495#64) = BitVec.ofNat 64 (2 ^ 52 - 1) by decide, BitVec.getLsbD_ofNat, Nat.testBit_two_pow_sub_one]
    by_cases h1 : s + i < 52
    · simp [h1]; omega
    · simp [h1]
  simp only [BitVec.getLsbD_and, BitVec.getLsbD_not, BitVec.getLsbD_ushiftRight, BitVec.getLsbD_shiftLeft, e, hi]
  by_cases h1 : i < k
  · have : s + i < 52 := by omega
    simp [this, h1]
  · have : ¬ s + i < 52 := by omega
    simp [this, h1, show k + (i - k) = i by omega]

/-- A word, in its sign, its exponent and its fraction. -/
theorem word_parts (x : Nat) (hx : x < 2 ^ 64) : ∃ s : Bool, ∃ e f : Nat, x = (if s then 2 ^ 63 else 0) + (e * 2 ^ 52 + f) ∧ f < 2 ^ 52 ∧ e < 2048 := by
  refine ⟨decide (2 ^ 63 ≤ x), (x % 2 ^ 63) / 2 ^ 52, x % 2 ^ 52, ?_, by omega, by omega⟩
  by_cases h : 2 ^ 63 ≤ x
  · simp only [h, decide_true, if_true]
    omega
  · simp only [h, decide_false, Bool.false_eq_true, if_false]
    omega
theorem word_is (s : Bool) (r : Nat) : Ieee.double.word s r = (if s then 2 ^ 63 else 0) + r := by
  cases s
  · simp [Ieee.Format.word]
  · simp [Ieee.Format.word, Ieee.Format.signWeight, Ieee.double]
theorem val_word (s : Bool) (e f : Nat) (hf : f < 2 ^ 52) (he : e < 2047) (h1 : 1 ≤ e) : val ((if s then 2 ^ 63 else 0) + (e * 2 ^ 52 + f)) = sgn s * ((2 ^ 52 + f : Nat) : Rat) * pw (-1075 + e) := by
  rcases (show e ≤ 2041 ∨ 2041 < e by omega) with h2 | h2
  · have h := (read_rung s (e - 1) (2 ^ 52 + f) (by omega) (by omega) (by omega)).2
    rw [word_is, show (e - 1) * 2 ^ 52 + (2 ^ 52 + f) = e * 2 ^ 52 + f by omega] at h
    unfold val
    rw [h]
    congr 2
    omega
  · unfold val
    rw [read_eq]
    have hm : ((if s then 2 ^ 63 else 0) + (e * 2 ^ 52 + f)) % 2 ^ 63 = e * 2 ^ 52 + f := by cases s <;> simp <;> omega
    have hd : (((if s then 2 ^ 63 else 0) + (e * 2 ^ 52 + f)) / 2 ^ 63 % 2 == 1) = s := by
      cases s
      · have : (e * 2 ^ 52 + f) / 2 ^ 63 = 0 := by omega
        simp only [Bool.false_eq_true, if_false, Nat.zero_add, this]
        rfl
      · have : (2 ^ 63 + (e * 2 ^ 52 + f)) / 2 ^ 63 = 1 := by omega
        simp only [if_true, this]
        rfl
    rw [hm, hd, if_neg (by omega), if_pos (by omega)]
    have e1 : (e * 2 ^ 52 + f) % 2 ^ 52 = f := by omega
    have e2 : (e * 2 ^ 52 + f) / 2 ^ 52 - 1 = e - 1 := by omega
    rw [e1, e2]
    show sgn s * _ * pw _ = _
    congr 2
    omega

theorem int_close (a b : Int) (h1 : (a : Rat) - b < 1) (h2 : (b : Rat) - a < 1) : a = b := by
  have e1 : ((a - b : Int) : Rat) < ((1 : Int) : Rat) := by rw [Rat.intCast_sub]; exact h1
  have e2 : ((b - a : Int) : Rat) < ((1 : Int) : Rat) := by rw [Rat.intCast_sub]; exact h2
  rw [Rat.intCast_lt_intCast] at e1 e2
  omega
theorem sign_bit (X : BitVec 64) : X &&& 9223372036854775808#64 = (X >>> 63) <<< 63 := by
  apply BitVec.eq_of_getLsbD_eq
  intro i hi
  have e : (9223372036854775808#64).getLsbD i = decide (i = 63) := by
    rw [show (9223372036854775808#64) = BitVec.ofNat 64 (2 ^ 63) by decide, BitVec.getLsbD_ofNat, Nat.testBit_two_pow]
    by_cases h1 : i = 63
    · simp [h1]
    · simp [h1, show ¬ 63 = i by omega]
  simp only [BitVec.getLsbD_and, BitVec.getLsbD_ushiftRight, BitVec.getLsbD_shiftLeft, e, hi]
  by_cases h1 : i = 63
  · subst h1
    simp
  · have : i < 63 := by omega
    simp [this, h1]

theorem round_int (x : Nat) (hx : x < 18446744073709551616) (hf : fin x = true) (c : Int) (hc : c < 1000000000000 ∧ -1000000000000 < c) (h : val x - c < 1 / 2 ∧ (c : Rat) - val x < 1 / 2) :
    floatToIntVal .f64 (nat64 (roundB (BitVec.ofNat 64 x))) .i64 = some c := by
  have key : fin (nat64 (roundB (BitVec.ofNat 64 x))) = true ∧ val (nat64 (roundB (BitVec.ofNat 64 x))) = (c : Rat) := by
    obtain ⟨s, e, f, hxe, hf52, he⟩ := word_parts x hx
    have hX : (BitVec.ofNat 64 x).toNat = x := by rw [BitVec.toNat_ofNat]; exact Nat.mod_eq_of_lt hx
    have hE : (expo (BitVec.ofNat 64 x)).toNat = e := by
      unfold expo
      rw [BitVec.toNat_and, BitVec.toNat_ushiftRight, hX, Nat.shiftRight_eq_div_pow, show (2047#64).toNat = 2 ^ 11 - 1 by decide, Nat.and_two_pow_sub_one_eq_mod]
      have : x / 2 ^ 52 = (if s then 2048 else 0) + e := by
        rw [hxe]
        cases s <;> simp <;> omega
      rw [this]
      cases s <;> simp <;> omega
    have hlt : ∀ n : Nat, n < 2048 → (expo (BitVec.ofNat 64 x) < BitVec.ofNat 64 n ↔ e < n) := by
      intro n hn
      rw [BitVec.lt_def, hE, BitVec.toNat_ofNat, Nat.mod_eq_of_lt (by omega)]
    have hS : ((BitVec.ofNat 64 x) &&& 9223372036854775808#64) = BitVec.ofNat 64 (if s then 2 ^ 63 else 0) := by
      rw [sign_bit]
      apply BitVec.eq_of_toNat_eq
      rw [BitVec.toNat_shiftLeft, BitVec.toNat_ushiftRight, hX, Nat.shiftRight_eq_div_pow, Nat.shiftLeft_eq, hxe]
      cases s
      · have : (e * 2 ^ 52 + f) / 2 ^ 63 = 0 := by omega
        simp [this]
      · have : (2 ^ 63 + (e * 2 ^ 52 + f)) / 2 ^ 63 = 1 := by omega
        simp [this]
    have hE2 : expo (BitVec.ofNat 64 x) = 1022#64 ↔ e = 1022 := by
      constructor
      · intro h1
        rw [h1] at hE
        exact hE.symm
      · intro h1
        apply BitVec.eq_of_toNat_eq
        rw [hE, h1]
        rfl
    generalize hXX : BitVec.ofNat 64 x = X at *
    have he2047 : e < 2047 := by
      rcases (show e < 2047 ∨ e = 2047 by omega) with h1 | h1
      · exact h1
      · exfalso
        unfold fin at hf
        rw [read_eq] at hf
        have hm : x % 2 ^ 63 = e * 2 ^ 52 + f := by rw [hxe]; cases s <;> simp <;> omega
        rw [hm, if_neg (by omega), if_neg (by omega)] at hf
        split at hf <;> cases hf
    have hsg := sgn_cases s
    unfold roundB
    by_cases c1 : e < 1023
    · rw [if_pos ((hlt 1023 (by decide)).2 c1)]
      by_cases c2 : e = 1022
      · rw [if_pos (hE2.2 c2), hS]
        have hv := val_word s e f hf52 he2047 (by omega)
        rw [← hxe, c2] at hv
        have hp : pw (-1075 + ((1022 : Nat) : Int)) * 9007199254740992 = 1 := by
          have : pw (-53) * pw ((53 : Nat) : Int) = 1 := by rw [← pw_add]; rfl
          rw [pw_nat] at this
          exact this
        have hr := (read_rung s 1022 (2 ^ 52) (by decide) (by decide) (by decide))
        rw [word_is] at hr
        have hw : nat64 (BitVec.ofNat 64 (if s then 2 ^ 63 else 0) ||| 4607182418800017408#64) = (if s then 2 ^ 63 else 0) + (1022 * 2 ^ 52 + 2 ^ 52) := by
          cases s <;> decide
        rw [hw]
        unfold fin val
        refine ⟨hr.1, ?_⟩
        rw [hr.2]
        have hp2 : ((2 ^ 52 : Nat) : Rat) * pw (-1074 + ((1022 : Nat) : Int)) = 1 := by
          rw [← pw_nat, ← pw_add]
          rfl
        rw [Rat.mul_assoc, hp2]
        have m1 : ((2 ^ 52 : Nat) : Rat) ≤ ((2 ^ 52 + f : Nat) : Rat) := Rat.natCast_le_natCast.2 (by omega)
        have m2 : ((2 ^ 52 + f : Nat) : Rat) ≤ ((2 ^ 53 - 1 : Nat) : Rat) := Rat.natCast_le_natCast.2 (by omega)
        have l1 : ((2 ^ 52 : Nat) : Rat) = 4503599627370496 := rfl
        have l2 : ((2 ^ 53 - 1 : Nat) : Rat) = 9007199254740991 := rfl
        rw [l1] at m1
        rw [l2] at m2
        have hpp := pw_pos (-1075 + ((1022 : Nat) : Int))
        generalize pw (-1075 + ((1022 : Nat) : Int)) = Q at *
        generalize ((2 ^ 52 + f : Nat) : Rat) = Mm at *
        have b1 := Rat.mul_nonneg (show 0 ≤ Mm - 4503599627370496 by grind) (Rat.le_of_lt hpp)
        have b2 := Rat.mul_nonneg (show 0 ≤ 9007199254740991 - Mm by grind) (Rat.le_of_lt hpp)
        have sI : ∃ t : Int, (t : Rat) = sgn s * 1 ∧ (t = 1 ∧ sgn s = 1 ∨ t = -1 ∧ sgn s = -1) := by
          rcases hsg with h1 | h1
          · exact ⟨1, by rw [h1]; have l : ((1 : Int) : Rat) = 1 := rfl; grind, .inl ⟨rfl, h1⟩⟩
          · exact ⟨-1, by rw [h1]; have l : ((-1 : Int) : Rat) = -1 := rfl; grind, .inr ⟨rfl, h1⟩⟩
        obtain ⟨t, ht, htt⟩ := sI
        rw [← ht]
        congr 1
        apply int_close
        · rw [ht]
          rcases htt with ⟨_, h1⟩ | ⟨_, h1⟩ <;> rw [h1] at hv ⊢ <;> grind
        · rw [ht]
          rcases htt with ⟨_, h1⟩ | ⟨_, h1⟩ <;> rw [h1] at hv ⊢ <;> grind
      · rw [if_neg (fun h1 => c2 (hE2.1 h1)), hS]
        have hmag : ∃ g : Rat, val x = sgn s * g ∧ 0 ≤ g ∧ g < 1 / 2 := by
          by_cases c3 : e = 0
          · have hr := (read_rung s 0 f (by omega) (by omega) (by decide)).2
            rw [word_is] at hr
            subst c3
            refine ⟨f * pw (-1074), ?_, Rat.mul_nonneg Rat.natCast_nonneg (Rat.le_of_lt (pw_pos _)), ?_⟩
            · rw [hxe]
              unfold val
              rw [hr]
              exact Rat.mul_assoc _ _ _
            · have h1 := Rat.mul_le_mul_of_nonneg_right (Rat.natCast_le_natCast.2 (show f ≤ 2 ^ 52 by omega)) (Rat.le_of_lt (pw_pos (-1074)))
              have h2 : ((2 ^ 52 : Nat) : Rat) * pw (-1074) = pw (-1022) := by rw [← pw_nat, ← pw_add]; rfl
              have h3 : pw (-1022) ≤ pw (-2) := pw_mono (by decide)
              have h4 : pw (-2) * 4 = 1 := by
                have : pw (-2) * pw ((2 : Nat) : Int) = 1 := by rw [← pw_add]; rfl
                rw [pw_nat] at this
                exact this
              grind
          · have hv := val_word s e f hf52 he2047 (by omega)
            rw [← hxe] at hv
            refine ⟨((2 ^ 52 + f : Nat) : Rat) * pw (-1075 + e), by rw [hv, Rat.mul_assoc], Rat.mul_nonneg Rat.natCast_nonneg (Rat.le_of_lt (pw_pos _)), ?_⟩
            have h0 : pw (-1075 + (e : Int)) ≤ pw (-54) := pw_mono (by omega)
            have h1 := Rat.mul_le_mul_of_nonneg_right (Rat.natCast_le_natCast.2 (show 2 ^ 52 + f ≤ 2 ^ 53 - 1 by omega)) (Rat.le_of_lt (pw_pos (-1075 + (e : Int))))
            have l2 : ((2 ^ 53 - 1 : Nat) : Rat) = 9007199254740991 := rfl
            rw [l2] at h1
            have h4 : pw (-54) * 18014398509481984 = 1 := by
              have : pw (-54) * pw ((54 : Nat) : Int) = 1 := by rw [← pw_add]; rfl
              rw [pw_nat] at this
              exact this
            grind
        obtain ⟨g, g1, g2, g3⟩ := hmag
        have hc0 : (0 : Int) = c := by
          apply int_close
          · have : ((0 : Int) : Rat) = 0 := rfl
            rw [this]
            rcases hsg with h1 | h1 <;> rw [h1] at g1 <;> grind
          · have : ((0 : Int) : Rat) = 0 := rfl
            rw [this]
            rcases hsg with h1 | h1 <;> rw [h1] at g1 <;> grind
        have hr := (read_rung s 0 0 (by decide) (by decide) (by decide))
        rw [word_is] at hr
        have hw : nat64 (BitVec.ofNat 64 (if s then 2 ^ 63 else 0)) = (if s then 2 ^ 63 else 0) + (0 * 2 ^ 52 + 0) := by
          cases s <;> decide
        rw [hw]
        unfold fin val
        refine ⟨hr.1, ?_⟩
        rw [hr.2, ← hc0]
        have l1 : ((0 : Nat) : Rat) = 0 := rfl
        have l2 : ((0 : Int) : Rat) = 0 := rfl
        rw [l1, l2]
        grind
    · rw [if_neg (fun h1 => c1 ((hlt 1023 (by decide)).1 h1))]
      by_cases c2 : e < 1075
      · rw [if_pos ((hlt 1075 (by decide)).2 c2)]
        have hsub : nat64 (expo X - 1023#64) = e - 1023 := by
          unfold nat64
          rw [BitVec.toNat_sub, hE, show (1023#64).toNat = 1023 by decide]
          omega
        rw [hsub]
        obtain ⟨k, hk⟩ : ∃ k, k = 52 - (e - 1023) := ⟨_, rfl⟩
        rw [mask_off _ (e - 1023) k (by omega)]
        have hk1 : 1 ≤ k := by omega
        have hk2 : k ≤ 52 := by omega
        obtain ⟨j, hj⟩ : ∃ j, k = j + 1 := ⟨k - 1, by omega⟩
        have hhalf : (2251799813685248#64 >>> (e - 1023)).toNat = 2 ^ j := by
          rw [BitVec.toNat_ushiftRight, show (2251799813685248#64).toNat = 2 ^ 51 by decide, Nat.shiftRight_eq_div_pow, Nat.pow_div (by omega) (by decide), show 51 - (e - 1023) = j by omega]
        have hj52 : 2 ^ j ≤ 2 ^ 51 := Nat.pow_le_pow_right (by decide) (by omega)
        have hxl : x < (if s then 2 ^ 63 else 0) + 1076 * 2 ^ 52 := by rw [hxe]; omega
        have hY : (X + 2251799813685248#64 >>> (e - 1023)).toNat = x + 2 ^ j := by
          rw [BitVec.toNat_add, hX, hhalf]
          apply Nat.mod_eq_of_lt
          cases s <;> simp at hxl <;> omega
        have hZ : nat64 ((X + 2251799813685248#64 >>> (e - 1023)) >>> k <<< k) = (x + 2 ^ j) / 2 ^ k * 2 ^ k := by
          unfold nat64
          rw [BitVec.toNat_shiftLeft, BitVec.toNat_ushiftRight, hY, Nat.shiftRight_eq_div_pow, Nat.shiftLeft_eq]
          apply Nat.mod_eq_of_lt
          have := Nat.div_mul_le_self (x + 2 ^ j) (2 ^ k)
          cases s <;> simp at hxl <;> omega
        rw [hZ]
        obtain ⟨B, hB⟩ : ∃ B, B = 2 ^ k := ⟨_, rfl⟩
        have hBpos : 0 < B := by rw [hB]; exact Nat.two_pow_pos k
        have hBj : B = 2 * 2 ^ j := by rw [hB, hj, Nat.pow_succ, Nat.mul_comm]
        have hB52 : 2 ^ 52 = B * 2 ^ (52 - k) := by rw [hB, ← Nat.pow_add, show k + (52 - k) = 52 by omega]
        obtain ⟨A', hA'⟩ : ∃ A', (if s then 2 ^ 63 else 0) + (e - 1) * 2 ^ 52 = B * A' := by
          refine ⟨(if s then 2 ^ 11 else 0) * 2 ^ (52 - k) + (e - 1) * 2 ^ (52 - k), ?_⟩
          cases s
          · simp only [Bool.false_eq_true, if_false, Nat.zero_mul, Nat.zero_add]
            rw [hB52]
            grind
          · simp only [if_true]
            rw [show 2 ^ 63 = 2 ^ 52 * 2 ^ 11 by decide, hB52]
            grind
        have hx2 : x + 2 ^ j = B * A' + (2 ^ 52 + f + 2 ^ j) := by rw [← hA', hxe]; omega
        rw [← hB, hx2, Nat.mul_add_div hBpos, Nat.add_mul]
        have d1 := Nat.div_add_mod (2 ^ 52 + f + 2 ^ j) B
        have d2 := Nat.mod_lt (2 ^ 52 + f + 2 ^ j) hBpos
        have d3 : 2 ^ (52 - k) ≤ (2 ^ 52 + f + 2 ^ j) / B := by
          rw [Nat.le_div_iff_mul_le hBpos, Nat.mul_comm, ← hB52]
          omega
        have d4 : (2 ^ 52 + f + 2 ^ j) / B < 2 * 2 ^ (52 - k) + 1 := by
          rw [Nat.div_lt_iff_lt_mul hBpos, Nat.add_mul, Nat.one_mul, Nat.mul_assoc, Nat.mul_comm _ B, ← hB52]
          omega
        generalize (2 ^ 52 + f + 2 ^ j) / B = q at *
        generalize (2 ^ 52 + f + 2 ^ j) % B = r at *
        have q1 : 2 ^ 52 ≤ q * B := by rw [hB52, Nat.mul_comm B]; exact Nat.mul_le_mul_right B d3
        have q2 : q * B ≤ 2 ^ 53 := by
          have := Nat.mul_le_mul_right B (show q ≤ 2 * 2 ^ (52 - k) by omega)
          rw [Nat.mul_assoc, Nat.mul_comm (2 ^ (52 - k)) B, ← hB52] at this
          omega
        rw [Nat.mul_comm A' B, ← hA', Nat.add_assoc, ← word_is]
        obtain ⟨r1, r2⟩ := read_rung s (e - 1) (q * B) q2 (fun _ => q1) (by omega)
        unfold fin val
        refine ⟨r1, ?_⟩
        rw [r2]
        have hv := val_word s e f hf52 he2047 (by omega)
        rw [← hxe] at hv
        have hpk : ((B : Nat) : Rat) * pw (-1075 + (e : Int)) = 1 := by
          rw [hB, ← pw_nat, ← pw_add, show (k : Int) + (-1075 + (e : Int)) = 0 by omega]
          rfl
        rw [show -1074 + ((e - 1 : Nat) : Int) = -1075 + (e : Int) by omega, Rat.natCast_mul]
        have hpp := pw_pos (-1075 + (e : Int))
        have hM : ((2 ^ 52 + f : Nat) : Rat) + ((2 ^ j : Nat) : Rat) = B * q + r := by
          rw [← Rat.natCast_add, ← Rat.natCast_mul, ← Rat.natCast_add, d1]
        have hBj' : (B : Rat) = 2 * ((2 ^ j : Nat) : Rat) := by rw [hBj, Rat.natCast_mul]; rfl
        have hr1 : (r : Rat) ≤ B := Rat.natCast_le_natCast.2 (by omega)
        have hr0 : (0 : Rat) ≤ r := Rat.natCast_nonneg
        generalize pw (-1075 + (e : Int)) = Q at *
        generalize ((2 ^ 52 + f : Nat) : Rat) = Mm at *
        generalize ((2 ^ j : Nat) : Rat) = J at *
        have b1 := Rat.mul_nonneg hr0 (Rat.le_of_lt hpp)
        have b2 := Rat.mul_nonneg (show 0 ≤ (B : Rat) - r by grind) (Rat.le_of_lt hpp)
        have hMQ : Mm * Q = q + r * Q - 1 / 2 := by
          have : Mm = B * q + r - J := by grind
          rw [this]
          have hJ : J * Q = 1 / 2 := by grind
          grind
        have sI : ∃ t : Int, (t : Rat) = sgn s * (q * B) * Q ∧ (t : Rat) = sgn s * q := by
          have e1 : sgn s * ((q : Rat) * B) * Q = sgn s * q := by grind
          rw [e1]
          rcases hsg with h1 | h1
          · exact ⟨q, by rw [h1, Rat.intCast_natCast]; grind, by rw [h1, Rat.intCast_natCast]; grind⟩
          · exact ⟨-q, by rw [h1, Rat.intCast_neg, Rat.intCast_natCast]; grind, by rw [h1, Rat.intCast_neg, Rat.intCast_natCast]; grind⟩
        obtain ⟨t, ht, ht2⟩ := sI
        have htc : t = c := by
          apply int_close
          · rw [ht2]
            rcases hsg with h1 | h1 <;> rw [h1] at hv ⊢ <;> grind
          · rw [ht2]
            rcases hsg with h1 | h1 <;> rw [h1] at hv ⊢ <;> grind
        rw [← ht, htc]
      · exfalso
        have hv := val_word s e f hf52 he2047 (by omega)
        rw [← hxe] at hv
        have h0 : pw 0 ≤ pw (-1075 + (e : Int)) := pw_mono (by omega)
        have hp0 : pw 0 = 1 := rfl
        have m1 : ((2 ^ 52 : Nat) : Rat) ≤ ((2 ^ 52 + f : Nat) : Rat) := Rat.natCast_le_natCast.2 (by omega)
        have l1 : ((2 ^ 52 : Nat) : Rat) = 4503599627370496 := rfl
        rw [l1] at m1
        rw [hp0] at h0
        generalize pw (-1075 + (e : Int)) = Q at *
        generalize ((2 ^ 52 + f : Nat) : Rat) = Mm at *
        have b1 := Rat.mul_nonneg (show 0 ≤ Mm - 4503599627370496 by grind) (show 0 ≤ Q - 1 by grind)
        have i1 : (c : Rat) < ((1000000000000 : Int) : Rat) := Rat.intCast_lt_intCast.2 hc.1
        have i2 : ((-1000000000000 : Int) : Rat) < (c : Rat) := Rat.intCast_lt_intCast.2 hc.2
        have l3 : ((1000000000000 : Int) : Rat) = 1000000000000 := rfl
        have l4 : ((-1000000000000 : Int) : Rat) = -1000000000000 := rfl
        rw [l3] at i1
        rw [l4] at i2
        rcases hsg with h1 | h1 <;> rw [h1] at hv <;> grind
  obtain ⟨k1, k2⟩ := key
  have := toInt_val _ k1 c k2
  unfold floatToIntVal
  change (match (Ieee.double.read _).toInt .zero with | some n => _ | none => _) = _
  rw [this]
  simp only
  rw [if_pos]
  constructor
  · show (-9223372036854775808 : Int) ≤ c; omega
  · show c ≤ (9223372036854775807 : Int); omega
end Go.Proofs.YtijbjncdiojpdaaDoor
