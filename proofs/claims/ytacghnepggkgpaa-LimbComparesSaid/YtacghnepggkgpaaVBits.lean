/- Bits of a number of 256 bits. No program in sight. -/
import Derived.Test.YtacghnepggkgpaaVNum
namespace Go.Proofs.Ytacghnepggkgpaa
open Go.RowKit

/-- n bits of a number, from the bit f on. -/
def bitsN (a : V4) (f n : Nat) : BitVec 64 := BitVec.ofNat 64 (a.num / 2 ^ f % 2 ^ n)

theorem pow64 : (2 : Nat) ^ 64 = 18446744073709551616 := by decide
theorem num_bits (a : V4) (j : Nat) : a.num.testBit j = if j < 64 then a.x0.toNat.testBit j else if j - 64 < 64 then a.x1.toNat.testBit (j - 64) else if j - 64 - 64 < 64 then a.x2.toNat.testBit (j - 64 - 64) else a.x3.toNat.testBit (j - 64 - 64 - 64) := by
  unfold V4.num
  rw [← pow64, Nat.add_comm, Nat.testBit_two_pow_mul_add _ (by exact a.x0.isLt), Nat.add_comm a.x1.toNat, Nat.testBit_two_pow_mul_add _ (by exact a.x1.isLt), Nat.add_comm a.x2.toNat, Nat.testBit_two_pow_mul_add _ (by exact a.x2.isLt)]
theorem get_bit (a : V4) (q j : Nat) (hq : q < 4) (hj : j < 64) : (a.get q).toNat.testBit j = a.num.testBit (64 * q + j) := by
  rw [num_bits]
  match q, hq with
  | 0, _ => rw [if_pos (by omega), show 64 * 0 + j = j by omega]; rfl
  | 1, _ => rw [if_neg (by omega), if_pos (by omega), show 64 * 1 + j - 64 = j by omega]; rfl
  | 2, _ => rw [if_neg (by omega), if_neg (by omega), if_pos (by omega), show 64 * 2 + j - 64 - 64 = j by omega]; rfl
  | 3, _ => rw [if_neg (by omega), if_neg (by omega), if_neg (by omega), show 64 * 3 + j - 64 - 64 - 64 = j by omega]; rfl
theorem pow256 : (2 : Nat) ^ 256 = 115792089237316195423570985008687907853269984665640564039457584007913129639936 := by decide +kernel
theorem num_high (a : V4) (j : Nat) (hj : 256 ≤ j) : a.num.testBit j = false := by
  apply Nat.testBit_lt_two_pow
  exact Nat.lt_of_lt_of_le (by rw [pow256]; exact a.num_lt) (Nat.pow_le_pow_right (by decide) hj)
theorem num_div_high (a : V4) (j : Nat) (hj : 256 ≤ j) : a.num / 2 ^ j = 0 :=
  Nat.div_eq_of_lt (Nat.lt_of_lt_of_le (by rw [pow256]; exact a.num_lt) (Nat.pow_le_pow_right (by decide) hj))

theorem bit_at (a : V4) (f : Nat) (hf : f < 256) : (a.get (f / 64)).toNat / 2 ^ (f % 64) % 2 = a.num / 2 ^ f % 2 := by
  rw [← Nat.toNat_testBit, ← Nat.toNat_testBit, get_bit a _ _ (by omega) (by omega), show 64 * (f / 64) + f % 64 = f by omega]

/-- One bit more. -/
theorem bits_step (X K m : Nat) : X / 2 ^ K % 2 ^ (m + 1) = 2 * (X / 2 ^ (K + 1) % 2 ^ m) + X / 2 ^ K % 2 := by
  rw [Nat.pow_succ 2 m, Nat.mul_comm (2 ^ m), Nat.mod_mul, Nat.div_div_eq_div_mul, ← Nat.pow_succ, Nat.add_comm]

theorem bitsN_lsb (a : V4) (f n i : Nat) : (bitsN a f n).getLsbD i = (decide (i < 64) && (decide (i < n) && a.num.testBit (f + i))) := by
  unfold bitsN
  rw [BitVec.getLsbD_ofNat, Nat.testBit_mod_two_pow, Nat.testBit_div_two_pow, Nat.add_comm i f]
theorem mask_lsb (n i : Nat) (hn : n < 64) : (1#64 <<< n - 1#64).getLsbD i = decide (i < n) := by
  unfold BitVec.getLsbD
  have hp : 2 ^ n < 2 ^ 64 := Nat.pow_lt_pow_right (by decide) hn
  have h1 : 1 ≤ 2 ^ n := Nat.one_le_two_pow
  have e : (1#64 <<< n - 1#64).toNat = 2 ^ n - 1 := by
    rw [BitVec.toNat_sub, BitVec.toNat_shiftLeft, Nat.shiftLeft_eq, BitVec.toNat_ofNat, show 1 % 2 ^ 64 = 1 from by decide, Nat.one_mul, Nat.mod_eq_of_lt hp]
    rw [pow64] at *
    omega
  rw [e, Nat.testBit_two_pow_sub_one]
theorem bits_last (a : V4) (s n : Nat) (hn : n < 64) : (a.get 3) >>> s &&& (1#64 <<< n - 1#64) = bitsN a (64 * 3 + s) n := by
  apply BitVec.eq_of_getLsbD_eq
  intro i hi
  rw [BitVec.getLsbD_and, mask_lsb _ _ hn, BitVec.getLsbD_ushiftRight, bitsN_lsb, Bool.and_comm]
  rw [decide_eq_true hi, Bool.true_and]
  congr 1
  by_cases h : s + i < 64
  · rw [BitVec.getLsbD, get_bit a 3 _ (by decide) h, ← Nat.add_assoc]
  · rw [BitVec.getLsbD_of_ge _ _ (by omega), num_high _ _ (by omega)]
theorem bits_mid (a : V4) (q s n : Nat) (hq : q + 1 < 4) (hs : s < 64) (hn : n < 64) : ((a.get q) >>> s ||| (a.get (q + 1)) <<< (64 - s)) &&& (1#64 <<< n - 1#64) = bitsN a (64 * q + s) n := by
  apply BitVec.eq_of_getLsbD_eq
  intro i hi
  rw [BitVec.getLsbD_and, mask_lsb _ _ hn, BitVec.getLsbD_or, BitVec.getLsbD_ushiftRight, BitVec.getLsbD_shiftLeft, bitsN_lsb, Bool.and_comm]
  rw [decide_eq_true hi, Bool.true_and, Bool.true_and]
  congr 1
  by_cases h : s + i < 64
  · rw [BitVec.getLsbD, get_bit a q _ (by omega) h, decide_eq_true (show i < 64 - s by omega), ← Nat.add_assoc]
    simp
  · rw [BitVec.getLsbD_of_ge _ _ (by omega), decide_eq_false (show ¬ i < 64 - s by omega), BitVec.getLsbD, get_bit a (q + 1) _ (by omega) (by omega)]
    rw [show 64 * (q + 1) + (i - (64 - s)) = 64 * q + s + i by omega]
    simp
theorem bits_last64 (a : V4) (s : Nat) : (a.get 3) >>> s = bitsN a (64 * 3 + s) 64 := by
  apply BitVec.eq_of_getLsbD_eq
  intro i hi
  rw [BitVec.getLsbD_ushiftRight, bitsN_lsb]
  rw [decide_eq_true hi, Bool.true_and, Bool.true_and]
  by_cases h : s + i < 64
  · rw [BitVec.getLsbD, get_bit a 3 _ (by decide) h, ← Nat.add_assoc]
  · rw [BitVec.getLsbD_of_ge _ _ (by omega), num_high _ _ (by omega)]
theorem bits_mid64 (a : V4) (q s : Nat) (hq : q + 1 < 4) (hs : s < 64) : ((a.get q) >>> s ||| (a.get (q + 1)) <<< (64 - s)) = bitsN a (64 * q + s) 64 := by
  apply BitVec.eq_of_getLsbD_eq
  intro i hi
  rw [BitVec.getLsbD_or, BitVec.getLsbD_ushiftRight, BitVec.getLsbD_shiftLeft, bitsN_lsb]
  rw [decide_eq_true hi, Bool.true_and, Bool.true_and, Bool.true_and]
  by_cases h : s + i < 64
  · rw [BitVec.getLsbD, get_bit a q _ (by omega) h, decide_eq_true (show i < 64 - s by omega), ← Nat.add_assoc]
    simp
  · rw [BitVec.getLsbD_of_ge _ _ (by omega), decide_eq_false (show ¬ i < 64 - s by omega), BitVec.getLsbD, get_bit a (q + 1) _ (by omega) (by omega)]
    rw [show 64 * (q + 1) + (i - (64 - s)) = 64 * q + s + i by omega]
    simp
theorem bitsN_high (a : V4) (f n : Nat) (hf : 256 ≤ f) : bitsN a f n = 0#64 := by
  unfold bitsN
  rw [num_div_high a f hf, Nat.zero_mod]
theorem bitsN_none (a : V4) (f : Nat) : bitsN a f 0 = 0#64 := by
  unfold bitsN
  rw [Nat.pow_zero, Nat.mod_one]
end Go.Proofs.Ytacghnepggkgpaa
