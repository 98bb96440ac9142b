/- Numbers of 256 bits: what the chains of carries, the digits and the rows of products come to. No program in sight. -/
import Derived.Test.YtacghnepggkgpaaWRefMul
import Derived.Test.YtacghnepggkgpaaWMul
namespace Go.Proofs.Ytacghnepggkgpaa
open Go.RowKit

theorem V4.num_lt (a : V4) : a.num < 115792089237316195423570985008687907853269984665640564039457584007913129639936 := by
  unfold V4.num
  have h0 := a.x0.isLt
  have h1 := a.x1.isLt
  have h2 := a.x2.isLt
  have h3 := a.x3.isLt
  omega
theorem V4.ext_num {a b : V4} (h : a.num = b.num) : a = b := by
  unfold V4.num at h
  have a0 := a.x0.isLt
  have a1 := a.x1.isLt
  have a2 := a.x2.isLt
  have a3 := a.x3.isLt
  have b0 := b.x0.isLt
  have b1 := b.x1.isLt
  have b2 := b.x2.isLt
  have b3 := b.x3.isLt
  have e0 : a.x0 = b.x0 := by apply BitVec.eq_of_toNat_eq; omega
  have e1 : a.x1 = b.x1 := by apply BitVec.eq_of_toNat_eq; omega
  have e2 : a.x2 = b.x2 := by apply BitVec.eq_of_toNat_eq; omega
  have e3 : a.x3 = b.x3 := by apply BitVec.eq_of_toNat_eq; omega
  cases a; cases b; simp_all

theorem bw_le (c : Bool) : (bw c).toNat ≤ 1 := by cases c <;> decide
theorem addF_nat (x y : BitVec 64) (c : Bool) : (addF x y c).1.toNat + 18446744073709551616 * (bw (addF x y c).2).toNat = x.toNat + y.toNat + (bw c).toNat := by
  unfold addF
  simp only [BitVec.toNat_add]
  have hx := x.isLt
  have hy := y.isLt
  have hc := bw_le c
  by_cases h : 18446744073709551616 ≤ x.toNat + y.toNat + (bw c).toNat
  · rw [decide_eq_true h, show (bw true).toNat = 1 from rfl]; omega
  · rw [decide_eq_false h, show (bw false).toNat = 0 from rfl]; omega
theorem subF_nat (x y : BitVec 64) (c : Bool) : (subF x y c).1.toNat + y.toNat + (bw c).toNat = x.toNat + 18446744073709551616 * (bw (subF x y c).2).toNat := by
  unfold subF
  simp only [BitVec.toNat_sub]
  have hx := x.isLt
  have hy := y.isLt
  have hc := bw_le c
  by_cases h : x.toNat < y.toNat + (bw c).toNat
  · rw [decide_eq_true h, show (bw true).toNat = 1 from rfl]; omega
  · rw [decide_eq_false h, show (bw false).toNat = 0 from rfl]; omega

theorem chain_four (f : BitVec 64 → BitVec 64 → Bool → BitVec 64 × Bool) (a b : V4) : chainN f a b 4 =
    (⟨(f a.x0 b.x0 false).1, (f a.x1 b.x1 (f a.x0 b.x0 false).2).1, (f a.x2 b.x2 (f a.x1 b.x1 (f a.x0 b.x0 false).2).2).1, (f a.x3 b.x3 (f a.x2 b.x2 (f a.x1 b.x1 (f a.x0 b.x0 false).2).2).2).1⟩,
     (f a.x3 b.x3 (f a.x2 b.x2 (f a.x1 b.x1 (f a.x0 b.x0 false).2).2).2).2) := by
  rfl

/-- Addition of words: the number and the carry. -/
theorem chain_add_num (a b : V4) : (chainN addF a b 4).1.num + 115792089237316195423570985008687907853269984665640564039457584007913129639936 * (bw (chainN addF a b 4).2).toNat = a.num + b.num := by
  rw [chain_four]
  unfold V4.num
  have h0 := addF_nat a.x0 b.x0 false
  have h1 := addF_nat a.x1 b.x1 (addF a.x0 b.x0 false).2
  have h2 := addF_nat a.x2 b.x2 (addF a.x1 b.x1 (addF a.x0 b.x0 false).2).2
  have h3 := addF_nat a.x3 b.x3 (addF a.x2 b.x2 (addF a.x1 b.x1 (addF a.x0 b.x0 false).2).2).2
  rw [show (bw false).toNat = 0 from rfl] at h0
  simp only []
  omega
/-- Subtraction of words: the number and the borrow. -/
theorem chain_sub_num (a b : V4) : (chainN subF a b 4).1.num + b.num = a.num + 115792089237316195423570985008687907853269984665640564039457584007913129639936 * (bw (chainN subF a b 4).2).toNat := by
  rw [chain_four]
  unfold V4.num
  have h0 := subF_nat a.x0 b.x0 false
  have h1 := subF_nat a.x1 b.x1 (subF a.x0 b.x0 false).2
  have h2 := subF_nat a.x2 b.x2 (subF a.x1 b.x1 (subF a.x0 b.x0 false).2).2
  have h3 := subF_nat a.x3 b.x3 (subF a.x2 b.x2 (subF a.x1 b.x1 (subF a.x0 b.x0 false).2).2).2
  rw [show (bw false).toNat = 0 from rfl] at h0
  simp only []
  omega

/-- The number that n digits of base B stand for. -/
def dval (B : Nat) (X : Nat → Nat) : Nat → Nat
  | 0 => 0
  | n + 1 => dval B X n + X n * B ^ n
theorem dval_congr (B : Nat) (X Y : Nat → Nat) (n : Nat) (h : ∀ p, p < n → X p = Y p) : dval B X n = dval B Y n := by
  induction n with
  | zero => rfl
  | succ n ih => simp only [dval]; rw [ih fun p hp => h p (by omega), h n (by omega)]
theorem dval_upd (B : Nat) (X : Nat → Nat) (k v n : Nat) (hk : k < n) : dval B (fun p => if p = k then v else X p) n + X k * B ^ k = dval B X n + v * B ^ k := by
  induction n with
  | zero => omega
  | succ n ih =>
    simp only [dval]
    by_cases e : n = k
    · subst e
      rw [if_pos rfl, dval_congr B (fun p => if p = n then v else X p) X n fun p hp => if_neg (by omega)]
      omega
    · rw [if_neg e]
      have := ih (by omega)
      omega
theorem dval_split (B : Nat) (X : Nat → Nat) (m n : Nat) : dval B X (m + n) = dval B X m + B ^ m * dval B (fun p => X (m + p)) n := by
  induction n with
  | zero => simp [dval]
  | succ n ih =>
    show dval B X (m + n) + X (m + n) * B ^ (m + n) = _
    rw [ih, dval, Nat.mul_add, Nat.pow_add, ← Nat.mul_assoc, ← Nat.mul_assoc, Nat.mul_comm (X (m + n)) (B ^ m), Nat.add_assoc]

theorem dval_dig (a : V4) : dval 65536 (dig a) 16 = a.num := by
  simp only [dval, dig, V4.get, V4.num, Nat.reduceMod, Nat.reduceDiv, Nat.reducePow, Nat.reduceEqDiff, if_true, if_false]
  have h0 := a.x0.isLt
  have h1 := a.x1.isLt
  have h2 := a.x2.isLt
  have h3 := a.x3.isLt
  omega

theorem dval_zero (B : Nat) (X : Nat → Nat) : dval B X 0 = 0 := rfl
theorem dval_succ (B : Nat) (X : Nat → Nat) (n : Nat) : dval B X (n + 1) = dval B X n + X n * B ^ n := rfl
theorem dval_none (B n : Nat) : dval B (fun _ => 0) n = 0 := by
  induction n with
  | zero => rfl
  | succ n ih => rw [dval_succ, ih, Nat.zero_mul]

/-- A step of addition at one place. -/
theorem step_add (B P s r q u V V' W x y' : Nat) (hs : s = r + B * q) (hu : V' + u * P = V + r * P) (ih : V + x * P = W) (hx : s = u + x + y') : V' + q * (P * B) = W + y' * P := by
  have e : q * (P * B) = B * q * P := by rw [Nat.mul_comm P, ← Nat.mul_assoc, Nat.mul_comm q]
  have h := congrArg (· * P) (hs.symm.trans hx)
  simp only [Nat.add_mul] at h
  omega
theorem addD_succ (x y : Nat → Nat) (k : Nat) : addD x y (k + 1) = (fun j => if j = k then ((addD x y k).1 k + y k + (addD x y k).2) % 65536 else (addD x y k).1 j, ((addD x y k).1 k + y k + (addD x y k).2) / 65536) := rfl
theorem subD_succ (x y : Nat → Nat) (k : Nat) : subD x y (k + 1) = (fun j => if j = k then ((subD x y k).1 k + 65536 - y k - (subD x y k).2) % 65536 else (subD x y k).1 j, if (subD x y k).1 k < y k + (subD x y k).2 then 1 else 0) := rfl
theorem mulDin_succ (x y : Nat → Nat) (i : Nat) (o : Nat → Nat) (j : Nat) : mulDin x y i o (j + 1) = (fun p => if p = i + j then ((mulDin x y i o j).1 (i + j) + x i * y j + (mulDin x y i o j).2) % 65536 else (mulDin x y i o j).1 p, ((mulDin x y i o j).1 (i + j) + x i * y j + (mulDin x y i o j).2) / 65536) := rfl
theorem mulDout_succ (x y : Nat → Nat) (i : Nat) : mulDout x y (i + 1) = fun p => if p = i + 16 then (mulDin x y i (mulDout x y i) 16).1 (i + 16) + (mulDin x y i (mulDout x y i) 16).2 else (mulDin x y i (mulDout x y i) 16).1 p := by rw [mulDout]

theorem addD_val (x y : Nat → Nat) (N k : Nat) (hk : k ≤ N) : dval 65536 (addD x y k).1 N + (addD x y k).2 * 65536 ^ k = dval 65536 x N + dval 65536 y k := by
  induction k with
  | zero => simp [addD, dval_zero]
  | succ k ih =>
    have ih := ih (by omega)
    have hu := dval_upd 65536 (addD x y k).1 k (((addD x y k).1 k + y k + (addD x y k).2) % 65536) N (by omega)
    rw [addD_succ, dval_succ, Nat.pow_succ, ← Nat.add_assoc]
    exact step_add 65536 (65536 ^ k) _ _ _ _ _ _ _ _ _ (by rw [Nat.mod_add_div]) hu ih (by omega)
theorem subD_val (x y : Nat → Nat) (hx : ∀ p, x p < 65536) (hy : ∀ p, y p < 65536) (N k : Nat) (hk : k ≤ N) : dval 65536 (subD x y k).1 N + dval 65536 y k = dval 65536 x N + (subD x y k).2 * 65536 ^ k := by
  induction k with
  | zero => simp [subD, dval_zero]
  | succ k ih =>
    have ih := ih (by omega)
    have hbd := subD_bd x y hx k
    have b1 := hbd.1 k
    have b2 := hbd.2
    have b3 := hy k
    have hu := dval_upd 65536 (subD x y k).1 k (((subD x y k).1 k + 65536 - y k - (subD x y k).2) % 65536) N (by omega)
    have hs : ((subD x y k).1 k + 65536 - y k - (subD x y k).2) % 65536 + y k + (subD x y k).2 = (subD x y k).1 k + 65536 * (if (subD x y k).1 k < y k + (subD x y k).2 then 1 else 0) := by split <;> omega
    rw [subD_succ, dval_succ, Nat.pow_succ]
    dsimp only
    generalize (if (subD x y k).1 k < y k + (subD x y k).2 then 1 else 0) = q at *
    generalize ((subD x y k).1 k + 65536 - y k - (subD x y k).2) % 65536 = r at *
    generalize dval 65536 (fun p => if p = k then r else (subD x y k).1 p) N = V' at *
    generalize dval 65536 (subD x y k).1 N = V at *
    generalize (subD x y k).1 k = u at *
    generalize (subD x y k).2 = c at *
    generalize 65536 ^ k = P at *
    generalize dval 65536 y k = Y at *
    generalize dval 65536 x N = W at *
    generalize y k = z at *
    clear hbd b1 b2 b3 hx hy
    have hp := congrArg (· * P) hs
    simp only [Nat.add_mul] at hp
    have e : q * (P * 65536) = 65536 * q * P := by rw [Nat.mul_comm P, ← Nat.mul_assoc, Nat.mul_comm q]
    omega
theorem mulDin_val (x y : Nat → Nat) (i : Nat) (o : Nat → Nat) (N j : Nat) (hj : i + j ≤ N) : dval 65536 (mulDin x y i o j).1 N + (mulDin x y i o j).2 * 65536 ^ (i + j) = dval 65536 o N + x i * 65536 ^ i * dval 65536 y j := by
  induction j with
  | zero => simp [mulDin, dval_zero]
  | succ j ih =>
    have ih := ih (by omega)
    have hu := dval_upd 65536 (mulDin x y i o j).1 (i + j) (((mulDin x y i o j).1 (i + j) + x i * y j + (mulDin x y i o j).2) % 65536) N (by omega)
    have e2 : x i * 65536 ^ i * (y j * 65536 ^ j) = x i * y j * 65536 ^ (i + j) := by
      rw [Nat.pow_add]
      generalize 65536 ^ i = P
      generalize 65536 ^ j = Q
      rw [Nat.mul_assoc, Nat.mul_assoc, Nat.mul_left_comm P]
    rw [mulDin_succ, dval_succ, Nat.mul_add, e2, ← Nat.add_assoc, ← Nat.add_assoc, Nat.pow_succ]
    exact step_add 65536 (65536 ^ (i + j)) _ _ _ _ _ _ _ _ _ (by rw [Nat.mod_add_div]) hu ih (by omega)
theorem mulDout_val (x y : Nat → Nat) (N i : Nat) (hi : i + 16 ≤ N) : dval 65536 (mulDout x y i) N = dval 65536 x i * dval 65536 y 16 := by
  induction i with
  | zero => rw [mulDout, dval_none, dval_zero, Nat.zero_mul]
  | succ i ih =>
    have ih := ih (by omega)
    have hv := mulDin_val x y i (mulDout x y i) N 16 (by omega)
    have hu := dval_upd 65536 (mulDin x y i (mulDout x y i) 16).1 (i + 16) ((mulDin x y i (mulDout x y i) 16).1 (i + 16) + (mulDin x y i (mulDout x y i) 16).2) N (by omega)
    rw [Nat.add_mul] at hu
    rw [mulDout_succ, dval_succ, Nat.add_mul]
    omega

theorem word_val (a b c d : Nat) (ha : a < 65536) (hb : b < 65536) (hc : c < 65536) (hd : d < 65536) :
    (0#64 + BitVec.ofNat 64 a * BitVec.ofNat 64 1 + BitVec.ofNat 64 b * BitVec.ofNat 64 65536 + BitVec.ofNat 64 c * BitVec.ofNat 64 4294967296 + BitVec.ofNat 64 d * BitVec.ofNat 64 281474976710656).toNat = a + b * 65536 + c * 4294967296 + d * 281474976710656 := by
  have e : 0#64 + BitVec.ofNat 64 a * BitVec.ofNat 64 1 + BitVec.ofNat 64 b * BitVec.ofNat 64 65536 + BitVec.ofNat 64 c * BitVec.ofNat 64 4294967296 + BitVec.ofNat 64 d * BitVec.ofNat 64 281474976710656 = BitVec.ofNat 64 (0 + a * 1 + b * 65536 + c * 4294967296 + d * 281474976710656) := by
    simp only [BitVec.ofNat_add, BitVec.ofNat_mul]
  rw [e, BitVec.toNat_ofNat, Nat.mod_eq_of_lt (by rw [show (2 : Nat) ^ 64 = 18446744073709551616 from by decide]; omega)]
  omega
theorem vec_num (d : Nat → Nat) (f : Nat) (h : ∀ p, d p < 65536) : (vecN d f 16).num = dval 65536 (fun p => d (f + p)) 16 := by
  have e : vecN d f 16 = ⟨0#64 + BitVec.ofNat 64 (d (f + 0)) * BitVec.ofNat 64 1 + BitVec.ofNat 64 (d (f + 1)) * BitVec.ofNat 64 65536 + BitVec.ofNat 64 (d (f + 2)) * BitVec.ofNat 64 4294967296 + BitVec.ofNat 64 (d (f + 3)) * BitVec.ofNat 64 281474976710656,
      0#64 + BitVec.ofNat 64 (d (f + 4)) * BitVec.ofNat 64 1 + BitVec.ofNat 64 (d (f + 5)) * BitVec.ofNat 64 65536 + BitVec.ofNat 64 (d (f + 6)) * BitVec.ofNat 64 4294967296 + BitVec.ofNat 64 (d (f + 7)) * BitVec.ofNat 64 281474976710656,
      0#64 + BitVec.ofNat 64 (d (f + 8)) * BitVec.ofNat 64 1 + BitVec.ofNat 64 (d (f + 9)) * BitVec.ofNat 64 65536 + BitVec.ofNat 64 (d (f + 10)) * BitVec.ofNat 64 4294967296 + BitVec.ofNat 64 (d (f + 11)) * BitVec.ofNat 64 281474976710656,
      0#64 + BitVec.ofNat 64 (d (f + 12)) * BitVec.ofNat 64 1 + BitVec.ofNat 64 (d (f + 13)) * BitVec.ofNat 64 65536 + BitVec.ofNat 64 (d (f + 14)) * BitVec.ofNat 64 4294967296 + BitVec.ofNat 64 (d (f + 15)) * BitVec.ofNat 64 281474976710656⟩ := by
    rfl
  rw [e]
  unfold V4.num
  simp only [word_val _ _ _ _ (h _) (h _) (h _) (h _), dval, Nat.reducePow]
  generalize d (f + 0) = d0
  generalize d (f + 1) = d1
  generalize d (f + 2) = d2
  generalize d (f + 3) = d3
  generalize d (f + 4) = d4
  generalize d (f + 5) = d5
  generalize d (f + 6) = d6
  generalize d (f + 7) = d7
  generalize d (f + 8) = d8
  generalize d (f + 9) = d9
  generalize d (f + 10) = d10
  generalize d (f + 11) = d11
  generalize d (f + 12) = d12
  generalize d (f + 13) = d13
  generalize d (f + 14) = d14
  generalize d (f + 15) = d15
  omega

theorem dval_lt (X : Nat → Nat) (h : ∀ p, X p < 65536) (n : Nat) : dval 65536 X n < 65536 ^ n := by
  induction n with
  | zero => simp [dval]
  | succ n ih =>
    simp only [dval]
    rw [Nat.pow_succ]
    have := Nat.mul_le_mul_right (65536 ^ n) (show X n ≤ 65535 from Nat.le_of_lt_succ (h n))
    omega

/-- The reference's addition: the number and the carry. -/
theorem refAdd_num (a b : V4) : (vecN (addD (dig a) (dig b) 16).1 0 16).num + 115792089237316195423570985008687907853269984665640564039457584007913129639936 * (addD (dig a) (dig b) 16).2 = a.num + b.num ∧ (addD (dig a) (dig b) 16).2 ≤ 1 := by
  have hb := addD_bd (dig a) (dig b) (dig_lt a) (dig_lt b) 16
  have hv := addD_val (dig a) (dig b) 16 16 (by omega)
  rw [vec_num _ _ hb.1]
  rw [show (fun p => (addD (dig a) (dig b) 16).1 (0 + p)) = (addD (dig a) (dig b) 16).1 from funext fun p => by rw [Nat.zero_add]]
  rw [dval_dig, dval_dig] at hv
  refine ⟨?_, hb.2⟩
  rw [← hv, show (65536 : Nat) ^ 16 = 115792089237316195423570985008687907853269984665640564039457584007913129639936 from by decide]
  omega
theorem refSub_num (a b : V4) : (vecN (subD (dig a) (dig b) 16).1 0 16).num + b.num = a.num + 115792089237316195423570985008687907853269984665640564039457584007913129639936 * (subD (dig a) (dig b) 16).2 ∧ (subD (dig a) (dig b) 16).2 ≤ 1 := by
  have hb := subD_bd (dig a) (dig b) (dig_lt a) 16
  have hv := subD_val (dig a) (dig b) (dig_lt a) (dig_lt b) 16 16 (by omega)
  rw [vec_num _ _ hb.1]
  rw [show (fun p => (subD (dig a) (dig b) 16).1 (0 + p)) = (subD (dig a) (dig b) 16).1 from funext fun p => by rw [Nat.zero_add]]
  rw [dval_dig, dval_dig] at hv
  refine ⟨?_, hb.2⟩
  rw [hv, show (65536 : Nat) ^ 16 = 115792089237316195423570985008687907853269984665640564039457584007913129639936 from by decide]
  omega
theorem refMul_num (a b : V4) : (vecN (mulDout (dig a) (dig b) 16) 0 16).num + 115792089237316195423570985008687907853269984665640564039457584007913129639936 * (vecN (mulDout (dig a) (dig b) 16) 16 16).num = a.num * b.num := by
  have hb := mulDout_bd (dig a) (dig b) (dig_lt a) (dig_lt b) 16
  have hv := mulDout_val (dig a) (dig b) (16 + (16 + 1)) 16 (by omega)
  rw [dval_dig, dval_dig] at hv
  rw [vec_num _ _ hb.1, vec_num _ _ hb.1, ← hv, dval_split 65536 _ 16 (16 + 1), dval_succ 65536 (fun p => mulDout (dig a) (dig b) 16 (16 + p)) 16, hb.2 (16 + 16) (by omega), Nat.zero_mul, Nat.add_zero, show (65536 : Nat) ^ 16 = 115792089237316195423570985008687907853269984665640564039457584007913129639936 from by decide]
  rw [show (fun p => mulDout (dig a) (dig b) 16 (0 + p)) = mulDout (dig a) (dig b) 16 from funext fun p => by rw [Nat.zero_add]]

/-- Rows of products of words. -/
def lval : List (BitVec 64) → Nat
  | [] => 0
  | x :: l => x.toNat + 18446744073709551616 * lval l
theorem lval_set (l : List (BitVec 64)) (k : Nat) (x : BitVec 64) (hk : k < l.length) : lval (l.set k x) + (l[k]?.getD 0#64).toNat * 18446744073709551616 ^ k = lval l + x.toNat * 18446744073709551616 ^ k := by
  induction l generalizing k with
  | nil => simp at hk
  | cons y l ih =>
    cases k with
    | zero => simp [lval]; omega
    | succ k =>
      have := ih k (by simpa using hk)
      simp only [List.set_cons_succ, lval, List.getElem?_cons_succ, Nat.pow_succ]
      have e := congrArg (18446744073709551616 * ·) this
      simp only [Nat.mul_add] at e
      have e1 : (l[k]?.getD 0#64).toNat * (18446744073709551616 ^ k * 18446744073709551616) = 18446744073709551616 * ((l[k]?.getD 0#64).toNat * 18446744073709551616 ^ k) := by
        rw [← Nat.mul_assoc, Nat.mul_comm]
      have e2 : x.toNat * (18446744073709551616 ^ k * 18446744073709551616) = 18446744073709551616 * (x.toNat * 18446744073709551616 ^ k) := by
        rw [← Nat.mul_assoc, Nat.mul_comm]
      rw [e1, e2]
      omega
theorem mulStep_nat (x y o c : BitVec 64) : (mulStep x y o c).1.toNat + 18446744073709551616 * (mulStep x y o c).2.toNat = x.toNat * y.toNat + o.toNat + c.toNat := by
  unfold mulStep
  simp only []
  have h1 := addF_nat (x * y) o false
  have h2 := addF_nat (addF (x * y) o false).1 c false
  rw [show (bw false).toNat = 0 from rfl] at h1 h2
  have hm : (x * y).toNat = x.toNat * y.toNat % 18446744073709551616 := BitVec.toNat_mul ..
  have hle : x.toNat * y.toNat ≤ 18446744073709551615 * 18446744073709551615 := Nat.mul_le_mul (by have := x.isLt; omega) (by have := y.isLt; omega)
  have hh : (mulHi x y).toNat = x.toNat * y.toNat / 18446744073709551616 := by
    unfold mulHi
    rw [BitVec.toNat_ofNat]
    omega
  have ho := o.isLt
  have hc := c.isLt
  have hr := (addF (addF (x * y) o false).1 c false).1.isLt
  simp only [BitVec.toNat_add, hh]
  rw [hm] at h1
  generalize x.toNat * y.toNat = P at *
  omega
theorem mulIn_val (a b : V4) (i : Nat) (out : List (BitVec 64)) (hl : out.length = 8) (hi : i < 4) (j : Nat) (hj : j ≤ 4) : lval (mulIn a b i out j).1 + (mulIn a b i out j).2.toNat * 18446744073709551616 ^ (i + j) = lval out + (a.get i).toNat * 18446744073709551616 ^ i * dval 18446744073709551616 (fun p => (b.get p).toNat) j := by
  induction j with
  | zero => simp [mulIn, dval]
  | succ j ih =>
    have ih := ih (by omega)
    have hs := lval_set (mulIn a b i out j).1 (i + j) (mulStep (a.get i) (b.get j) ((mulIn a b i out j).1[i + j]?.getD 0#64) (mulIn a b i out j).2).1 (by rw [mulIn_len]; omega)
    have hm := congrArg (· * 18446744073709551616 ^ (i + j)) (mulStep_nat (a.get i) (b.get j) ((mulIn a b i out j).1[i + j]?.getD 0#64) (mulIn a b i out j).2)
    simp only [Nat.add_mul] at hm
    simp only [mulIn, dval, Nat.mul_add]
    have e : (mulStep (a.get i) (b.get j) ((mulIn a b i out j).1[i + j]?.getD 0#64) (mulIn a b i out j).2).2.toNat * 18446744073709551616 ^ (i + (j + 1)) = 18446744073709551616 * (mulStep (a.get i) (b.get j) ((mulIn a b i out j).1[i + j]?.getD 0#64) (mulIn a b i out j).2).2.toNat * 18446744073709551616 ^ (i + j) := by
      generalize (mulStep (a.get i) (b.get j) ((mulIn a b i out j).1[i + j]?.getD 0#64) (mulIn a b i out j).2).2.toNat = q
      rw [show i + (j + 1) = i + j + 1 from rfl, Nat.pow_succ]
      generalize 18446744073709551616 ^ (i + j) = P
      rw [Nat.mul_comm P, ← Nat.mul_assoc, Nat.mul_comm q]
    have e2 : (a.get i).toNat * (b.get j).toNat * 18446744073709551616 ^ (i + j) = (a.get i).toNat * 18446744073709551616 ^ i * ((b.get j).toNat * 18446744073709551616 ^ j) := by
      rw [Nat.pow_add]
      generalize 18446744073709551616 ^ i = P
      generalize 18446744073709551616 ^ j = Q
      rw [Nat.mul_assoc, Nat.mul_assoc, Nat.mul_left_comm P]
    rw [e]
    omega
theorem mulIn_above (a b : V4) (i : Nat) (out : List (BitVec 64)) (j p : Nat) (hp : i + j ≤ p) : (mulIn a b i out j).1[p]? = out[p]? := by
  induction j with
  | zero => rfl
  | succ j ih =>
    simp only [mulIn]
    rw [List.getElem?_set_ne (by omega), ih (by omega)]
theorem mulOut_above (a b : V4) (i p : Nat) (hp : i + 4 ≤ p) (h8 : p < 8) : (mulOut a b i)[p]? = some 0#64 := by
  induction i with
  | zero => rw [mulOut, List.getElem?_replicate, if_pos h8]
  | succ i ih =>
    simp only [mulOut]
    rw [List.getElem?_set_ne (by omega), mulIn_above _ _ _ _ _ _ (by omega), ih (by omega)]
theorem mulOut_val (a b : V4) (i : Nat) (hi : i ≤ 4) : lval (mulOut a b i) = dval 18446744073709551616 (fun p => (a.get p).toNat) i * dval 18446744073709551616 (fun p => (b.get p).toNat) 4 := by
  induction i with
  | zero => simp [mulOut, dval, lval]
  | succ i ih =>
    have ih := ih (by omega)
    have hv := mulIn_val a b i (mulOut a b i) (mulOut_len a b i) (by omega) 4 (by omega)
    have hs := lval_set (mulIn a b i (mulOut a b i) 4).1 (i + 4) (mulIn a b i (mulOut a b i) 4).2 (by rw [mulIn_len, mulOut_len]; omega)
    rw [mulIn_above _ _ _ _ _ _ (Nat.le_refl _), mulOut_above _ _ _ _ (Nat.le_refl _) (by omega), Option.getD_some, BitVec.toNat_ofNat, Nat.zero_mod, Nat.zero_mul, Nat.add_zero] at hs
    rw [mulOut, dval_succ, Nat.add_mul]
    omega
theorem dval_get (a : V4) : dval 18446744073709551616 (fun p => (a.get p).toNat) 4 = a.num := by
  simp only [dval, V4.get, V4.num, Nat.reducePow, Nat.reduceEqDiff, if_true, if_false]
  omega
/-- Multiplication of words: the two halves. -/
theorem limbMul_num (a b lo hi : V4) (h : mulOut a b 4 = [lo.x0, lo.x1, lo.x2, lo.x3, hi.x0, hi.x1, hi.x2, hi.x3]) : lo.num + 115792089237316195423570985008687907853269984665640564039457584007913129639936 * hi.num = a.num * b.num := by
  have hv := mulOut_val a b 4 (by omega)
  rw [dval_get, dval_get, h] at hv
  rw [← hv]
  simp only [lval, V4.num]
  omega

/-! ### that the words and the digits agree -/
theorem add_agree (a b : V4) : (chainN addF a b 4).1 = vecN (addD (dig a) (dig b) 16).1 0 16 ∧ bw (chainN addF a b 4).2 = BitVec.ofNat 64 (addD (dig a) (dig b) 16).2 := by
  have h1 := chain_add_num a b
  have h2 := refAdd_num a b
  have h3 := bw_le (chainN addF a b 4).2
  have l1 := V4.num_lt (chainN addF a b 4).1
  have l2 := V4.num_lt (vecN (addD (dig a) (dig b) 16).1 0 16)
  refine ⟨V4.ext_num (by omega), BitVec.eq_of_toNat_eq ?_⟩
  rw [BitVec.toNat_ofNat]
  omega
theorem sub_agree (a b : V4) : (chainN subF a b 4).1 = vecN (subD (dig a) (dig b) 16).1 0 16 ∧ bw (chainN subF a b 4).2 = BitVec.ofNat 64 (subD (dig a) (dig b) 16).2 := by
  have h1 := chain_sub_num a b
  have h2 := refSub_num a b
  have h3 := bw_le (chainN subF a b 4).2
  have l1 := V4.num_lt (chainN subF a b 4).1
  have l2 := V4.num_lt (vecN (subD (dig a) (dig b) 16).1 0 16)
  refine ⟨V4.ext_num (by omega), BitVec.eq_of_toNat_eq ?_⟩
  rw [BitVec.toNat_ofNat]
  omega
theorem mul_agree (a b lo hi : V4) (h : mulOut a b 4 = [lo.x0, lo.x1, lo.x2, lo.x3, hi.x0, hi.x1, hi.x2, hi.x3]) : lo = vecN (mulDout (dig a) (dig b) 16) 0 16 ∧ hi = vecN (mulDout (dig a) (dig b) 16) 16 16 := by
  have h1 := limbMul_num a b lo hi h
  have h2 := refMul_num a b
  have l1 := V4.num_lt lo
  have l2 := V4.num_lt (vecN (mulDout (dig a) (dig b) 16) 0 16)
  exact ⟨V4.ext_num (by omega), V4.ext_num (by omega)⟩
/-- The carry of the addition, the borrow of the subtraction, told by the numbers. -/
theorem add_carry (a b : V4) : (chainN addF a b 4).2 = decide (115792089237316195423570985008687907853269984665640564039457584007913129639936 ≤ a.num + b.num) := by
  have h1 := chain_add_num a b
  have l1 := V4.num_lt (chainN addF a b 4).1
  cases hc : (chainN addF a b 4).2
  · rw [hc, show (bw false).toNat = 0 from rfl] at h1
    rw [decide_eq_false (by omega)]
  · rw [hc, show (bw true).toNat = 1 from rfl] at h1
    rw [decide_eq_true (by omega)]
theorem sub_borrow (a b : V4) : (chainN subF a b 4).2 = decide (a.num < b.num) := by
  have h1 := chain_sub_num a b
  have l1 := V4.num_lt (chainN subF a b 4).1
  cases hc : (chainN subF a b 4).2
  · rw [hc, show (bw false).toNat = 0 from rfl] at h1
    rw [decide_eq_false (by omega)]
  · rw [hc, show (bw true).toNat = 1 from rfl] at h1
    rw [decide_eq_true (by have := b.num_lt; omega)]
end Go.Proofs.Ytacghnepggkgpaa
