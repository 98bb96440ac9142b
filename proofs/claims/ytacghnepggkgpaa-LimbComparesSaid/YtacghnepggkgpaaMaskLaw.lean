/- The plain law of the masks: what the walks say, as conditions. No program in sight. -/
import Derived.Test.YtacghnepggkgpaaWSlices
namespace Go.Proofs.Ytacghnepggkgpaa

abbrev ones : BitVec 64 := 18446744073709551615#64
def maskW (c : Bool) : BitVec 64 := if c then ones else 0#64

theorem top_lit (y : BitVec 64) : y >>> 63 = if y.toNat / 9223372036854775808 = 1 then 1#64 else 0#64 := by
  apply BitVec.eq_of_toNat_eq
  rw [BitVec.toNat_ushiftRight, Nat.shiftRight_eq_div_pow]
  have h := y.isLt
  have e : (2 : Nat) ^ 63 = 9223372036854775808 := by decide
  rw [e]
  split
  · rename_i h1; rw [h1]; rfl
  · rename_i h1
    have : y.toNat / 9223372036854775808 = 0 := by omega
    rw [this]; rfl

theorem fromBitW_lit (c : Bool) : fromBitW (if c then 1#64 else 0#64) = maskW c := by cases c <;> decide

theorem fromBitW_eq (x : BitVec 64) : fromBitW x = maskW (x % 2#64 == 1#64) := by
  have h : x &&& 1#64 = if (x % 2#64 == 1#64) then 1#64 else 0#64 := by
    have h2 : x % 2#64 = x &&& 1#64 := by
      apply BitVec.eq_of_toNat_eq
      rw [BitVec.toNat_umod, BitVec.toNat_and]
      show x.toNat % 2 = x.toNat &&& 1
      rw [Nat.and_one_is_mod]
    rw [← h2]
    have hc : x % 2#64 = 0#64 ∨ x % 2#64 = 1#64 := by
      have := Nat.mod_lt x.toNat (show 0 < 2 by decide)
      rcases (show x.toNat % 2 = 0 ∨ x.toNat % 2 = 1 by omega) with h | h
      · exact .inl (BitVec.eq_of_toNat_eq (by rw [BitVec.toNat_umod]; exact h))
      · exact .inr (BitVec.eq_of_toNat_eq (by rw [BitVec.toNat_umod]; exact h))
    rcases hc with h | h <;> rw [h] <;> rfl
  unfold fromBitW
  rw [h]
  cases (x % 2#64 == 1#64) <;> decide

theorem zeroW_eq (u : BitVec 64) : zeroW u = maskW (decide (u = 0#64)) := by
  unfold zeroW
  rw [top_lit]
  have h := zero_top u.toNat u.isLt
  have e : (~~~(u ||| -u)).toNat = 18446744073709551615 - (u.toNat ||| (18446744073709551616 - u.toNat) % 18446744073709551616) := by
    rw [BitVec.toNat_not, BitVec.toNat_or, BitVec.toNat_neg]
  rw [e, h]
  have e2 : (u.toNat = 0) ↔ (u = 0#64) := ⟨fun h => BitVec.eq_of_toNat_eq h, fun h => by rw [h]; rfl⟩
  by_cases hu : u = 0#64
  · rw [if_pos (e2.2 hu)]; simp only [hu, decide_true]; decide
  · rw [if_neg (fun h => hu (e2.1 h))]; simp only [hu, decide_false]; decide

theorem lessW_eq (a b : BitVec 64) : lessW a b = maskW (decide (a < b)) := by
  unfold lessW
  rw [top_lit]
  have h := less_top a.toNat b.toNat a.isLt b.isLt
  have e : (~~~a &&& b ||| ~~~(a ^^^ b) &&& (a - b)).toNat = (((18446744073709551615 - a.toNat) &&& b.toNat) ||| ((18446744073709551615 - (a.toNat ^^^ b.toNat)) &&& ((a.toNat + (18446744073709551616 - b.toNat)) % 18446744073709551616))) := by
    rw [BitVec.toNat_or, BitVec.toNat_and, BitVec.toNat_and, BitVec.toNat_not, BitVec.toNat_not, BitVec.toNat_xor, BitVec.toNat_sub, Nat.add_comm a.toNat]
  rw [e, h]
  have e2 : (a.toNat < b.toNat) ↔ (a < b) := BitVec.lt_def.symm
  by_cases hu : a < b
  · rw [if_pos (e2.2 hu)]; simp only [hu, decide_true]; decide
  · rw [if_neg (fun h => hu (e2.1 h))]; simp only [hu, decide_false]; decide

theorem xor_zero_iff (a b : BitVec 64) : a ^^^ b = 0#64 ↔ a = b := by
  constructor
  · intro h
    have : a ^^^ b ^^^ b = 0#64 ^^^ b := by rw [h]
    rwa [BitVec.xor_assoc, BitVec.xor_self, BitVec.xor_zero, BitVec.zero_xor] at this
  · rintro rfl; exact BitVec.xor_self

theorem equalW_eq (a b : BitVec 64) : equalW a b = maskW (decide (a = b)) := by
  unfold equalW
  rw [zeroW_eq]
  congr 1
  exact decide_eq_decide.2 (xor_zero_iff a b)

theorem chooseW_mask (c : Bool) (a b : BitVec 64) : chooseW (maskW c) a b = if c then a else b := by
  unfold chooseW
  cases c
  · show b ^^^ (0#64 &&& (a ^^^ b)) = b
    rw [BitVec.zero_and, BitVec.xor_zero]
  · show b ^^^ (BitVec.allOnes 64 &&& (a ^^^ b)) = a
    rw [BitVec.allOnes_and, BitVec.xor_comm a b, ← BitVec.xor_assoc, BitVec.xor_self, BitVec.zero_xor]

/-- What Table gathers over the entries. -/
theorem tabT_upto (i : BitVec 64) (xs : List (BitVec 64)) (hl : xs.length ≤ 18446744073709551616) : ∀ k, k ≤ xs.length → tabT i (upto (entry xs) k) = if i.toNat < k then xs[i.toNat]?.getD 0#64 else 0#64 := by
  intro k
  induction k with
  | zero => intro _; rfl
  | succ k ih =>
    intro hk
    rw [upto_succ, tabT_snoc, ih (by omega)]
    simp only [entry]
    rw [equalW_eq]
    have hkk : (BitVec.ofNat 64 k).toNat = k := by rw [BitVec.toNat_ofNat, Nat.mod_eq_of_lt (by omega)]
    by_cases h : i = BitVec.ofNat 64 k
    · have hi : i.toNat = k := by rw [h]; exact hkk
      rw [if_neg (by omega), if_pos (by omega), hi]
      simp only [h, decide_true]
      show 0#64 ||| (BitVec.allOnes 64 &&& _) = _
      rw [BitVec.allOnes_and, BitVec.zero_or]
    · have hi : i.toNat ≠ k := fun e => h (BitVec.eq_of_toNat_eq (by rw [hkk]; exact e))
      simp only [h, decide_false]
      show _ ||| (0#64 &&& _) = _
      rw [BitVec.zero_and, BitVec.or_zero]
      by_cases h2 : i.toNat < k
      · rw [if_pos h2, if_pos (by omega)]
      · rw [if_neg h2, if_neg (by omega)]

end Go.Proofs.Ytacghnepggkgpaa
