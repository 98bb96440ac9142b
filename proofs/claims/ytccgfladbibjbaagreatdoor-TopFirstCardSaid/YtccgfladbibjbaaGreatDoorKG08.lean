/- Numbers of 256 bits: what the chains of carries, the digits and the rows of products come to. No program in sight. -/
import Derived.Test.YtccgfladbibjbaaGreatDoorKG07
import Derived.Deep.RegionWith
namespace Go.Proofs.YtccgfladbibjbaaGreatDoor
open Go.RowKit
theorem V4.num_lt (a : V4) : a.num < 115792089237316195423570985008687907853269984665640564039457584007913129639936 := by
 unfold V4.num
 have h0 := a.x0.isLt
 have h1 := a.x1.isLt
 have h2 := a.x2.isLt
 have h3 := a.x3.isLt
 omega
theorem V4.ext_num {a b : V4} (h : a.num = b.num) : a = b := by
 unfold V4.num at h
 have a0 := a.x0.isLt
 have a1 := a.x1.isLt
 have a2 := a.x2.isLt
 have a3 := a.x3.isLt
 have b0 := b.x0.isLt
 have b1 := b.x1.isLt
 have b2 := b.x2.isLt
 have b3 := b.x3.isLt
 have e0 : a.x0 = b.x0 := by apply BitVec.eq_of_toNat_eq; omega
 have e1 : a.x1 = b.x1 := by apply BitVec.eq_of_toNat_eq; omega
 have e2 : a.x2 = b.x2 := by apply BitVec.eq_of_toNat_eq; omega
 have e3 : a.x3 = b.x3 := by apply BitVec.eq_of_toNat_eq; omega
 cases a; cases b; simp_all
theorem bw_le (c : Bool) : (bw c).toNat ≤ 1 := by cases c <;> decide
theorem addF_nat (x y : BitVec 64) (c : Bool) : (addF x y c).1.toNat + 18446744073709551616 * (bw (addF x y c).2).toNat = x.toNat + y.toNat + (bw c).toNat := by
 unfold addF
 simp only [BitVec.toNat_add]
 have hx := x.isLt
 have hy := y.isLt
 have hc := bw_le c
 by_cases h : 18446744073709551616 ≤ x.toNat + y.toNat + (bw c).toNat
 ·rw [decide_eq_true h, show (bw true).toNat = 1 from rfl]; omega
 ·rw [decide_eq_false h, show (bw false).toNat = 0 from rfl]; omega
theorem subF_nat (x y : BitVec 64) (c : Bool) : (subF x y c).1.toNat + y.toNat + (bw c).toNat = x.toNat + 18446744073709551616 * (bw (subF x y c).2).toNat := by
 unfold subF
 simp only [BitVec.toNat_sub]
 have hx := x.isLt
 have hy := y.isLt
 have hc := bw_le c
 by_cases h : x.toNat < y.toNat + (bw c).toNat
 ·rw [decide_eq_true h, show (bw true).toNat = 1 from rfl]; omega
 ·rw [decide_eq_false h, show (bw false).toNat = 0 from rfl]; omega
theorem chain_four (f : BitVec 64 → BitVec 64 → Bool → BitVec 64 × Bool) (a b : V4) : chainN f a b 4 =
    (⟨(f a.x0 b.x0 false).1, (f a.x1 b.x1 (f a.x0 b.x0 false).2).1, (f a.x2 b.x2 (f a.x1 b.x1 (f a.x0 b.x0 false).2).2).1, (f a.x3 b.x3 (f a.x2 b.x2 (f a.x1 b.x1 (f a.x0 b.x0 false).2).2).2).1⟩,
     (f a.x3 b.x3 (f a.x2 b.x2 (f a.x1 b.x1 (f a.x0 b.x0 false).2).2).2).2) := by
  rfl
theorem chain_sub_num (a b : V4) : (chainN subF a b 4).1.num + b.num = a.num + 115792089237316195423570985008687907853269984665640564039457584007913129639936 * (bw (chainN subF a b 4).2).toNat := by
 rw [chain_four]
 unfold V4.num
 have h0 := subF_nat a.x0 b.x0 false
 have h1 := subF_nat a.x1 b.x1 (subF a.x0 b.x0 false).2
 have h2 := subF_nat a.x2 b.x2 (subF a.x1 b.x1 (subF a.x0 b.x0 false).2).2
 have h3 := subF_nat a.x3 b.x3 (subF a.x2 b.x2 (subF a.x1 b.x1 (subF a.x0 b.x0 false).2).2).2
 rw [show (bw false).toNat = 0 from rfl] at h0
 simp only []
 omega
def mulStep (x y o c : BitVec 64) : BitVec 64 × BitVec 64 :=
 ((addF (addF (x * y) o false).1 c false).1, mulHi x y + bw (addF (x * y) o false).2 + bw (addF (addF (x * y) o false).1 c false).2)
theorem mulStep_nat (x y o c : BitVec 64) : (mulStep x y o c).1.toNat + 18446744073709551616 * (mulStep x y o c).2.toNat = x.toNat * y.toNat + o.toNat + c.toNat := by
 unfold mulStep
 simp only []
 have h1 := addF_nat (x * y) o false
 have h2 := addF_nat (addF (x * y) o false).1 c false
 rw [show (bw false).toNat = 0 from rfl] at h1 h2
 have hm : (x * y).toNat = x.toNat * y.toNat % 18446744073709551616 := BitVec.toNat_mul ..
 have hle : x.toNat * y.toNat ≤ 18446744073709551615 * 18446744073709551615 := Nat.mul_le_mul (by have := x.isLt; omega) (by have := y.isLt; omega)
 have hh : (mulHi x y).toNat = x.toNat * y.toNat / 18446744073709551616 := by
  unfold mulHi
  rw [BitVec.toNat_ofNat]
  omega
 have ho := o.isLt
 have hc := c.isLt
 have hr := (addF (addF (x * y) o false).1 c false).1.isLt
 simp only [BitVec.toNat_add, hh]
 rw [hm] at h1
 generalize x.toNat * y.toNat = P at *
 omega
theorem sub_borrow (a b : V4) : (chainN subF a b 4).2 = decide (a.num < b.num) := by
 have h1 := chain_sub_num a b
 have l1 := V4.num_lt (chainN subF a b 4).1
 cases hc : (chainN subF a b 4).2
 ·rw [hc, show (bw false).toNat = 0 from rfl] at h1
  rw [decide_eq_false (by omega)]
 ·rw [hc, show (bw true).toNat = 1 from rfl] at h1
  rw [decide_eq_true (by have := b.num_lt; omega)]
end Go.Proofs.YtccgfladbibjbaaGreatDoor
namespace Go.Proofs.YtccgfladbibjbaaGreatDoor
open Go.RowKit
def bitsN (a : V4) (f n : Nat) : BitVec 64 := BitVec.ofNat 64 (a.num / 2 ^ f % 2 ^ n)
theorem pow64 : (2 : Nat) ^ 64 = 18446744073709551616 := by decide
theorem num_bits (a : V4) (j : Nat) : a.num.testBit j = if j < 64 then a.x0.toNat.testBit j else if j - 64 < 64 then a.x1.toNat.testBit (j - 64) else if j - 64 - 64 < 64 then a.x2.toNat.testBit (j - 64 - 64) else a.x3.toNat.testBit (j - 64 - 64 - 64) := by
 unfold V4.num
 rw [← pow64, Nat.add_comm, Nat.testBit_two_pow_mul_add _ (by exact a.x0.isLt), Nat.add_comm a.x1.toNat, Nat.testBit_two_pow_mul_add _ (by exact a.x1.isLt), Nat.add_comm a.x2.toNat, Nat.testBit_two_pow_mul_add _ (by exact a.x2.isLt)]
theorem get_bit (a : V4) (q j : Nat) (hq : q < 4) (hj : j < 64) : (a.get q).toNat.testBit j = a.num.testBit (64 * q + j) := by
 rw [num_bits]
 match q, hq with
 | 0, _ => rw [if_pos (by omega), show 64 * 0 + j = j by omega]; rfl
 | 1, _ => rw [if_neg (by omega), if_pos (by omega), show 64 * 1 + j - 64 = j by omega]; rfl
 | 2, _ => rw [if_neg (by omega), if_neg (by omega), if_pos (by omega), show 64 * 2 + j - 64 - 64 = j by omega]; rfl
 | 3, _ => rw [if_neg (by omega), if_neg (by omega), if_neg (by omega), show 64 * 3 + j - 64 - 64 - 64 = j by omega]; rfl
theorem pow256 : (2 : Nat) ^ 256 = 115792089237316195423570985008687907853269984665640564039457584007913129639936 := by decide +kernel
theorem num_high (a : V4) (j : Nat) (hj : 256 ≤ j) : a.num.testBit j = false := by
 apply Nat.testBit_lt_two_pow
 exact Nat.lt_of_lt_of_le (by rw [pow256]; exact a.num_lt) (Nat.pow_le_pow_right (by decide) hj)
theorem bitsN_lsb (a : V4) (f n i : Nat) : (bitsN a f n).getLsbD i = (decide (i < 64) && (decide (i < n) && a.num.testBit (f + i))) := by
 unfold bitsN
 rw [BitVec.getLsbD_ofNat, Nat.testBit_mod_two_pow, Nat.testBit_div_two_pow, Nat.add_comm i f]
theorem mask_lsb (n i : Nat) (hn : n < 64) : (1#64 <<< n - 1#64).getLsbD i = decide (i < n) := by
 unfold BitVec.getLsbD
 have hp : 2 ^ n < 2 ^ 64 := Nat.pow_lt_pow_right (by decide) hn
 have h1 : 1 ≤ 2 ^ n := Nat.one_le_two_pow
 have e : (1#64 <<< n - 1#64).toNat = 2 ^ n - 1 := by
  rw [BitVec.toNat_sub, BitVec.toNat_shiftLeft, Nat.shiftLeft_eq, BitVec.toNat_ofNat, show 1 % 2 ^ 64 = 1 from by decide, Nat.one_mul, Nat.mod_eq_of_lt hp]
  rw [pow64] at *
  omega
 rw [e, Nat.testBit_two_pow_sub_one]
theorem bits_last (a : V4) (s n : Nat) (hn : n < 64) : (a.get 3) >>> s &&& (1#64 <<< n - 1#64) = bitsN a (64 * 3 + s) n := by
 apply BitVec.eq_of_getLsbD_eq
 intro i hi
 rw [BitVec.getLsbD_and, mask_lsb _ _ hn, BitVec.getLsbD_ushiftRight, bitsN_lsb, Bool.and_comm]
 rw [decide_eq_true hi, Bool.true_and]
 congr 1
 by_cases h : s + i < 64
 ·rw [BitVec.getLsbD, get_bit a 3 _ (by decide) h, ← Nat.add_assoc]
 ·rw [BitVec.getLsbD_of_ge _ _ (by omega), num_high _ _ (by omega)]
theorem bits_mid (a : V4) (q s n : Nat) (hq : q + 1 < 4) (hs : s < 64) (hn : n < 64) : ((a.get q) >>> s ||| (a.get (q + 1)) <<< (64 - s)) &&& (1#64 <<< n - 1#64) = bitsN a (64 * q + s) n := by
 apply BitVec.eq_of_getLsbD_eq
 intro i hi
 rw [BitVec.getLsbD_and, mask_lsb _ _ hn, BitVec.getLsbD_or, BitVec.getLsbD_ushiftRight, BitVec.getLsbD_shiftLeft, bitsN_lsb, Bool.and_comm]
 rw [decide_eq_true hi, Bool.true_and, Bool.true_and]
 congr 1
 by_cases h : s + i < 64
 ·rw [BitVec.getLsbD, get_bit a q _ (by omega) h, decide_eq_true (show i < 64 - s by omega), ← Nat.add_assoc]
  simp
 ·rw [BitVec.getLsbD_of_ge _ _ (by omega), decide_eq_false (show ¬ i < 64 - s by omega), BitVec.getLsbD, get_bit a (q + 1) _ (by omega) (by omega)]
  rw [show 64 * (q + 1) + (i - (64 - s)) = 64 * q + s + i by omega]
  simp
theorem bits_last64 (a : V4) (s : Nat) : (a.get 3) >>> s = bitsN a (64 * 3 + s) 64 := by
 apply BitVec.eq_of_getLsbD_eq
 intro i hi
 rw [BitVec.getLsbD_ushiftRight, bitsN_lsb]
 rw [decide_eq_true hi, Bool.true_and, Bool.true_and]
 by_cases h : s + i < 64
 ·rw [BitVec.getLsbD, get_bit a 3 _ (by decide) h, ← Nat.add_assoc]
 ·rw [BitVec.getLsbD_of_ge _ _ (by omega), num_high _ _ (by omega)]
theorem bits_mid64 (a : V4) (q s : Nat) (hq : q + 1 < 4) (hs : s < 64) : ((a.get q) >>> s ||| (a.get (q + 1)) <<< (64 - s)) = bitsN a (64 * q + s) 64 := by
 apply BitVec.eq_of_getLsbD_eq
 intro i hi
 rw [BitVec.getLsbD_or, BitVec.getLsbD_ushiftRight, BitVec.getLsbD_shiftLeft, bitsN_lsb]
 rw [decide_eq_true hi, Bool.true_and, Bool.true_and, Bool.true_and]
 by_cases h : s + i < 64
 ·rw [BitVec.getLsbD, get_bit a q _ (by omega) h, decide_eq_true (show i < 64 - s by omega), ← Nat.add_assoc]
  simp
 ·rw [BitVec.getLsbD_of_ge _ _ (by omega), decide_eq_false (show ¬ i < 64 - s by omega), BitVec.getLsbD, get_bit a (q + 1) _ (by omega) (by omega)]
  rw [show 64 * (q + 1) + (i - (64 - s)) = 64 * q + s + i by omega]
  simp
end Go.Proofs.YtccgfladbibjbaaGreatDoor
namespace Go.Proofs.YtccgfladbibjbaaGreatDoor
open Go.RowKit
theorem wrap64_N (n : Nat) : IntKind.u64.wrap (n : Int) = U (BitVec.ofNat 64 n) := by rw [wrap64_U, BitVec.ofInt_natCast]
theorem wrapi_mod (y : BitVec 64) : IntKind.i64.wrap (U (y % 65536#64)) = (y.toNat : Int) % 65536 := by
 rw [IntKind.wrap_i64]
 unfold U
 rw [BitVec.toNat_umod]
 show (((y.toNat % 65536 : Nat) : Int) + _) % _ - _ = _
 omega
theorem shl_LN (m n : Nat) (hm : m < 18446744073709551616) (yk : IntKind) : Op.shift .shl .u64 (no_index (OfNat.ofNat m)) yk (n : Int) = pure (.int .u64 (U (BitVec.ofNat 64 m <<< n))) := by
 show Op.shift .shl .u64 ((m : Nat) : Int) yk (n : Int) = _
 rw [lit_U m hm]
 exact shl_UN _ n yk
attribute [local go_sem ↓] add_UU sub_UU mul_UU add_UL add_LU sub_UL sub_LU mul_UL neg_at not_at and_UU or_UU xor_UU andNot_UU and_UL or_LU shr_UL shl_UL shr_UN shl_UN shl_LN quo_UL rem_UL quo_UU rem_UU
attribute [local go_sem] wrap64_N wrapi_mod wrap8_U wrap32_U wrap64_B wrap32_B wrap8_D wrapi_B wrap64_UU eq_UU ne_UU eq_UL ne_UL lt_UU le_UU
instance : DecidableEq V4 := fun a b => decidable_of_iff (a.num = b.num) ⟨V4.ext_num, fun h => congrArg _ h⟩
theorem four_get (a : V4) (i : Nat) (h : i < 4) : ([a.x0, a.x1, a.x2, a.x3][i]?.getD 0#64) = a.get i := by
 match i, h with
 | 0, _ => rfl
 | 1, _ => rfl
 | 2, _ => rfl
 | 3, _ => rfl
theorem orAll_four (a : V4) : zeroW (orAll [a.x0, a.x1, a.x2, a.x3]) = maskW (decide (a = V4.zero)) := by
 rw [zeroW_eq]
 congr 1
 rw [decide_eq_decide, orAll_zero]
 constructor
 ·intro h
  have h0 := h 0 (by simp)
  have h1 := h 1 (by simp)
  have h2 := h 2 (by simp)
  have h3 := h 3 (by simp)
  cases a
  simp at h0 h1 h2 h3
  subst h0 h1 h2 h3
  rfl
 ·rintro rfl i h
  match i, h with
  | 0, _ => rfl
  | 1, _ => rfl
  | 2, _ => rfl
  | 3, _ => rfl
theorem limbIsZero (a : V4) (w : World) :
  Calls Tryz.prog 145 #[a.val] w fun e w' => e = .returned (.int .u64 (U (maskW (decide (a = V4.zero))))) ∧ Below w.heap.size w w' := by
 have hz := isZero_some w.heap.size 0 4 [a.x0, a.x1, a.x2, a.x3] (w.alloc (.cells a.arr 45)) (by show 4 ≤ maxLen; unfold maxLen; omega) (fun i hi => by
  rw [Nat.zero_add, (IsVec.newAt w _ a _ rfl).cell i hi, four_get a i hi])
 rw [orAll_four] at hz
 have HZ := Lib.hid hz
 clear hz
 unfold V4.val V4.arr
 go_enter Tryz.func145, Tryz.ntmps145
 go_wp2_with fail
 refine (HZ.out).mono ?_
 rintro e w1 ⟨rfl, rfl⟩
 go_wp2
 go_ret
 refine ⟨rfl, ?_⟩
 unfold V4.arr
 go_grown
theorem fromBitW_bw (c : Bool) : fromBitW (bw c) = maskW c := by cases c <;> decide
theorem limbLess (a b : V4) (w : World) :
  Calls Tryz.prog 72 #[a.val, b.val] w fun e w' => e = .returned (.int .u64 (U (maskW (decide (a.num < b.num))))) ∧ Below w.heap.size w w' := by
 have hd := fromBitW_bw (chainN subF a b 4).2
 rw [sub_borrow] at hd
 have HD := Lib.hid hd
 have HS := Lib.hid (limbSub a b)
 have X := Lib.hid (show Below w.heap.size w ((w.alloc (.cells a.arr 45)).alloc (.cells b.arr 45)) by go_grown)
 clear hd
 unfold V4.val V4.arr
 go_enter Tryz.func72, Tryz.ntmps72
 go_wp2_with fail
 refine (HS.out _).mono ?_
 rintro e w1 ⟨rfl, hb1⟩
 have H1 := Lib.hid (X.out.trans (hb1.mono X.out.size))
 clear hb1 X HS
 unfold V4.val V4.arr
 go_wp2_with fail
 refine (fromBit _ _).mono ?_
 rintro e w2 ⟨rfl, rfl⟩
 go_wp2
 go_ret
 refine ⟨by rw [← HD.out, sub_borrow]; rfl, ?_⟩
 have hB := H1.out
 have hs := hB.size
 go_grown
def chooseN (m : BitVec 64) (a b : V4) : Nat → V4
 | 0 => a
 | k + 1 => (chooseN m a b k).set k (chooseW m (a.get k) (b.get k))
theorem chooseN_get (m : BitVec 64) (a b : V4) (k : Nat) (h : k < 4) : (chooseN m a b k).get k = a.get k := by
 match k, h with
 | 0, _ => rfl
 | 1, _ => rfl
 | 2, _ => rfl
 | 3, _ => rfl
theorem chooseN_four (m : BitVec 64) (a b : V4) : chooseN (fromBitW m) a b 4 = if (m % 2#64 == 1#64) = true then a else b := by
 rw [fromBitW_eq]
 show V4.mk (chooseW _ a.x0 b.x0) (chooseW _ a.x1 b.x1) (chooseW _ a.x2 b.x2) (chooseW _ a.x3 b.x3) = _
 rw [chooseW_mask, chooseW_mask, chooseW_mask, chooseW_mask]
 cases m % 2#64 == 1#64 <;> rfl
set_option maxHeartbeats 1000000 in
theorem limbChoose (m : BitVec 64) (a b : V4) (w : World) :
  Calls Tryz.prog 130 #[.int .u64 (U m), a.val, b.val] w fun e w' => e = .returned (if (m % 2#64 == 1#64) = true then a else b).val ∧ Below w.heap.size w w' := by
 obtain ⟨r, hr⟩ : ∃ r, r = (if (m % 2#64 == 1#64) = true then a else b) := ⟨_, rfl⟩
 rw [← hr]
 have HC := Lib.hid (hr ▸ chooseN_four m a b : chooseN (fromBitW m) a b 4 = r)
 clear hr
 have X := Lib.hid (show IsVec (((w.alloc (.cells a.arr 45)).alloc (.cells b.arr 45)).alloc (.cells V4.zero.arr 45)) w.heap.size 45 a ∧ IsVec (((w.alloc (.cells a.arr 45)).alloc (.cells b.arr 45)).alloc (.cells V4.zero.arr 45)) (w.heap.size + 1) 45 b ∧ IsVec (((w.alloc (.cells a.arr 45)).alloc (.cells b.arr 45)).alloc (.cells V4.zero.arr 45)) (w.heap.size + 1 + 1) 45 V4.zero ∧ Below w.heap.size w (((w.alloc (.cells a.arr 45)).alloc (.cells b.arr 45)).alloc (.cells V4.zero.arr 45)) from ⟨((IsVec.newAt w _ a _ rfl).alloc _).alloc _, (IsVec.newAt _ _ b _ (by simp)).alloc _, IsVec.newAt _ _ _ _ (by simp), by go_grown⟩)
 unfold V4.val V4.arr
 go_enter Tryz.func130, Tryz.ntmps130
 go_wp2_with fail
 refine (fromBit _ _).mono ?_
 rintro e w1 ⟨rfl, rfl⟩
 go_wp2
 go_loopw [10] (fun i wr => ∃ k : Nat, k ≤ 4 ∧ i = .int .i64 k ∧ IsVec wr w.heap.size 45 (chooseN (fromBitW m) a b k) ∧ IsVec wr (w.heap.size + 1) 45 b ∧ IsVec wr (w.heap.size + 1 + 1) 45 V4.zero ∧ Below w.heap.size w wr) (fun i _ => 4 - (intOf i).toNat)
 case atStart => exact ⟨0, by omega, rfl, X.out⟩
 case round =>
  clear X
  obtain ⟨k, hk, rfl, ha, hv, hz, hb⟩ := hrel
  by_cases hlt : k < 4
  ·have c1 := ha.cell k hlt
   rw [chooseN_get _ a b k hlt] at c1
   have f1 := ha.frozen k
   have c2 := hv.cell k hlt
   have HI := Lib.hid (And.intro ha (And.intro hv (And.intro hz hb)))
   clear ha hv hz hb
   have k0 : (0 : Int) ≤ (k : Int) := Int.natCast_nonneg k
   have k4 : (k : Int) < 4 := by omega
   go_wp2
   go_region_with (go_at_call 142; refine (choose _ _ _ _).mono ?_; rintro e w' ⟨rfl, rfl⟩)
   all_goals
    go_wp2
    refine ⟨⟨k + 1, by omega, by go_num, HI.out.1.drew.set k hlt _, HI.out.2.1.drew.other _ _ (by simp), HI.out.2.2.1.drew.other _ _ (by simp; omega), HI.out.2.2.2.drew.setCell (p := ⟨w.heap.size, k, none⟩) (by simp) _⟩, by simp [intOf]; omega⟩
  ·obtain rfl : k = 4 := by omega
   rw [HC.out] at ha
   have c0 := ha.cell 0 (by omega)
   have c1 := ha.cell 1 (by omega)
   have c2 := ha.cell 2 (by omega)
   have c3 := ha.cell 3 (by omega)
   have d0 := hz.cell 0 (by omega)
   have d1 := hz.cell 1 (by omega)
   have d2 := hz.cell 2 (by omega)
   have d3 := hz.cell 3 (by omega)
   have f0 := hz.frozen 0
   have f1 := hz.frozen 1
   have f2 := hz.frozen 2
   have f3 := hz.frozen 3
   have HB := Lib.hid hb
   clear ha hv hb hz HC
   go_wp2
   refine bodyPost_ret (v := r.val) (by simp [results, Tryz.results130, go_sem, d0, d1, d2, d3]; rfl) rfl ⟨rfl, ?_⟩
   have hB := HB.out
   go_grown
set_option maxRecDepth 8000 in
set_option maxHeartbeats 1000000 in
theorem limbBits (a : V4) (f n : Nat) (hf : f < 256) (hn : n ≤ 64) (w : World) :
  Calls Tryz.prog 152 #[a.val, .int .i64 (f : Int), .int .i64 (n : Int)] w fun e w' => e = .returned (.int .u64 (U (bitsN a f n))) ∧ Below w.heap.size w w' := by
 obtain ⟨q, hq⟩ : ∃ q, q = f / 64 := ⟨_, rfl⟩
 obtain ⟨s, hs⟩ : ∃ s, s = f % 64 := ⟨_, rfl⟩
 have hqs : 64 * q + s = f := by omega
 have hq4 : q < 4 := by omega
 have hs6 : s < 64 := by omega
 have hqi : (f : Int) / 64 = (q : Int) := by omega
 have hsi : (f : Int) % 64 = (s : Int) := by omega
 obtain ⟨r, hr⟩ : ∃ r, r = 64 - s := ⟨_, rfl⟩
 have h6i : 64 - (s : Int) = (r : Int) := by omega
 have f0 : (0 : Int) ≤ (f : Int) := by omega
 have f1 : (f : Int) < 256 := by omega
 have n0 : (0 : Int) ≤ (n : Int) := by omega
 have n1 : (n : Int) ≤ 64 := by omega
 have X := Lib.hid (show IsVec (w.alloc (.cells a.arr 45)) w.heap.size 45 a ∧ Below w.heap.size w (w.alloc (.cells a.arr 45)) from ⟨IsVec.newAt w 45 a _ rfl, by go_grown⟩)
 have c1 := X.out.1.cell q hq4
 have q0 : (0 : Int) ≤ (q : Int) := by omega
 have q4 : (q : Int) < 4 := by omega
 unfold V4.arr at c1
 unfold V4.val V4.arr
 clear hq hs
 by_cases hq3 : q + 1 < 4
 ·have hq3' : (q : Int) + 1 < 4 := by omega
  have hq30 : (0 : Int) ≤ (q : Int) + 1 := by omega
  have c2 := X.out.1.cell (q + 1) hq3
  unfold V4.arr at c2
  by_cases hn64 : n < 64
  ·have hn' : (n : Int) < 64 := by omega
   have hR := bits_mid a q s n hq3 hs6 hn64
   rw [hqs, ← hr] at hR
   have HR := Lib.hid hR
   clear hR hqs hr
   go_enter Tryz.func152, Tryz.ntmps152
   go_wp2
   go_ret
   exact ⟨by rw [← HR.out]; rfl, X.out.2⟩
  ·obtain rfl : n = 64 := by omega
   have hR := bits_mid64 a q s hq3 hs6
   rw [hqs, ← hr] at hR
   have HR := Lib.hid hR
   clear hR hqs hr
   go_enter Tryz.func152, Tryz.ntmps152
   go_wp2
   go_ret
   exact ⟨by rw [← HR.out]; rfl, X.out.2⟩
 ·obtain rfl : q = 3 := by omega
  by_cases hn64 : n < 64
  ·have hn' : (n : Int) < 64 := by omega
   have hR := bits_last a s n hn64
   rw [hqs] at hR
   have HR := Lib.hid hR
   clear hR hqs hr
   go_enter Tryz.func152, Tryz.ntmps152
   go_wp2
   go_ret
   exact ⟨by rw [← HR.out]; rfl, X.out.2⟩
  ·obtain rfl : n = 64 := by omega
   have hR := bits_last64 a s
   rw [hqs] at hR
   have HR := Lib.hid hR
   clear hR hqs hr
   go_enter Tryz.func152, Tryz.ntmps152
   go_wp2
   go_ret
   exact ⟨by rw [← HR.out]; rfl, X.out.2⟩
end Go.Proofs.YtccgfladbibjbaaGreatDoor
