/- The Montgomery product as a number: each round is a division by 2^64. No program in sight. -/
import Derived.Test.YtccgfladbibjbaaGreatDoorKG30
namespace Go.Proofs.YtccgfladbibjbaaGreatDoor
open Go.RowKit
theorem rowP_num (p : V4) (m : BitVec 64) (t : List (BitVec 64)) (ht : t.length = 6) :
  ∃ lo, lo < 18446744073709551616 ∧ lo + 18446744073709551616 * ((tw (rowP p m t 3).1 0).toNat + 18446744073709551616 * (tw (rowP p m t 3).1 1).toNat + 340282366920938463463374607431768211456 * (tw (rowP p m t 3).1 2).toNat + 6277101735386680763835789423207666416102355444464034512896 * (rowP p m t 3).2.toNat)
   = (tw t 0).toNat + 18446744073709551616 * (tw t 1).toNat + 340282366920938463463374607431768211456 * (tw t 2).toNat + 6277101735386680763835789423207666416102355444464034512896 * (tw t 3).toNat + m.toNat * p.num ∧ tw (rowP p m t 3).1 4 = tw t 4 ∧ tw (rowP p m t 3).1 5 = tw t 5 := by
 obtain ⟨c0, hc0⟩ : ∃ c0, c0 = (mulStep m p.x0 (tw t 0) 0#64).2 := ⟨_, rfl⟩
 have e0 : rowP p m t 0 = (t, c0) := by rw [hc0]; rfl
 have e1 : rowP p m t 1 = (t.set 0 (mulStep m (p.get 1) (tw t 1) c0).1, (mulStep m (p.get 1) (tw t 1) c0).2) := by
  show ((rowP p m t 0).1.set 0 _, _) = _
  rw [e0]
 obtain ⟨t1, h1⟩ : ∃ t1, t1 = t.set 0 (mulStep m (p.get 1) (tw t 1) c0).1 := ⟨_, rfl⟩
 obtain ⟨c1, hc1⟩ : ∃ c1, c1 = (mulStep m (p.get 1) (tw t 1) c0).2 := ⟨_, rfl⟩
 rw [← h1, ← hc1] at e1
 have e2 : rowP p m t 2 = (t1.set 1 (mulStep m (p.get 2) (tw t1 2) c1).1, (mulStep m (p.get 2) (tw t1 2) c1).2) := by
  show ((rowP p m t 1).1.set 1 _, _) = _
  rw [e1]
 obtain ⟨t2, h2⟩ : ∃ t2, t2 = t1.set 1 (mulStep m (p.get 2) (tw t1 2) c1).1 := ⟨_, rfl⟩
 obtain ⟨c2, hc2⟩ : ∃ c2, c2 = (mulStep m (p.get 2) (tw t1 2) c1).2 := ⟨_, rfl⟩
 rw [← h2, ← hc2] at e2
 have e3 : rowP p m t 3 = (t2.set 2 (mulStep m (p.get 3) (tw t2 3) c2).1, (mulStep m (p.get 3) (tw t2 3) c2).2) := by
  show ((rowP p m t 2).1.set 2 _, _) = _
  rw [e2]
 have l1 : t1.length = 6 := by rw [h1, List.length_set, ht]
 have l2 : t2.length = 6 := by rw [h2, List.length_set, l1]
 have g0 := mulStep_nat m p.x0 (tw t 0) 0#64
 have g1 := mulStep_nat m (p.get 1) (tw t 1) c0
 have g2 := mulStep_nat m (p.get 2) (tw t1 2) c1
 have g3 := mulStep_nat m (p.get 3) (tw t2 3) c2
 rw [show (0#64).toNat = 0 from rfl, ← hc0] at g0
 rw [← hc1] at g1
 rw [← hc2] at g2
 rw [e3]
 simp only []
 have x0 : tw (t2.set 2 (mulStep m (p.get 3) (tw t2 3) c2).1) 0 = (mulStep m (p.get 1) (tw t 1) c0).1 := by
  rw [tw_set _ _ _ _ (by omega), if_neg (by decide), h2, tw_set _ _ _ _ (by omega), if_neg (by decide), h1, tw_set _ _ _ _ (by omega), if_pos rfl]
 have x1 : tw (t2.set 2 (mulStep m (p.get 3) (tw t2 3) c2).1) 1 = (mulStep m (p.get 2) (tw t1 2) c1).1 := by
  rw [tw_set _ _ _ _ (by omega), if_neg (by decide), h2, tw_set _ _ _ _ (by omega), if_pos rfl]
 have x2 : tw (t2.set 2 (mulStep m (p.get 3) (tw t2 3) c2).1) 2 = (mulStep m (p.get 3) (tw t2 3) c2).1 := by
  rw [tw_set _ _ _ _ (by omega), if_pos rfl]
 have x4 : tw (t2.set 2 (mulStep m (p.get 3) (tw t2 3) c2).1) 4 = tw t 4 := by
  rw [tw_set _ _ _ _ (by omega), if_neg (by decide), h2, tw_set _ _ _ _ (by omega), if_neg (by decide), h1, tw_set _ _ _ _ (by omega), if_neg (by decide)]
 have x5 : tw (t2.set 2 (mulStep m (p.get 3) (tw t2 3) c2).1) 5 = tw t 5 := by
  rw [tw_set _ _ _ _ (by omega), if_neg (by decide), h2, tw_set _ _ _ _ (by omega), if_neg (by decide), h1, tw_set _ _ _ _ (by omega), if_neg (by decide)]
 have y2 : tw t1 2 = tw t 2 := by rw [h1, tw_set _ _ _ _ (by omega), if_neg (by decide)]
 have y3 : tw t2 3 = tw t 3 := by rw [h2, tw_set _ _ _ _ (by omega), if_neg (by decide), h1, tw_set _ _ _ _ (by omega), if_neg (by decide)]
 rw [x0, x1, x2]
 refine ⟨(mulStep m p.x0 (tw t 0) 0#64).1.toNat, BitVec.isLt _, ?_, x4, x5⟩
 rw [y2] at g2 ⊢
 rw [y3] at g3 ⊢
 have hn : m.toNat * p.num = m.toNat * p.x0.toNat + 18446744073709551616 * (m.toNat * (p.get 1).toNat) + 340282366920938463463374607431768211456 * (m.toNat * (p.get 2).toNat) + 6277101735386680763835789423207666416102355444464034512896 * (m.toNat * (p.get 3).toNat) := by
  show m.toNat * (p.x0.toNat + 18446744073709551616 * (p.x1.toNat + 18446744073709551616 * (p.x2.toNat + 18446744073709551616 * p.x3.toNat))) = m.toNat * p.x0.toNat + 18446744073709551616 * (m.toNat * p.x1.toNat) + 340282366920938463463374607431768211456 * (m.toNat * p.x2.toNat) + 6277101735386680763835789423207666416102355444464034512896 * (m.toNat * p.x3.toNat)
  grind
 rw [hn]
 generalize m.toNat * p.x0.toNat = P0 at *
 generalize m.toNat * (p.get 1).toNat = P1 at *
 generalize m.toNat * (p.get 2).toNat = P2 at *
 generalize m.toNat * (p.get 3).toNat = P3 at *
 omega
def mstep (p inv a y T : Nat) : Nat := (T + a * y + ((T + a * y) % 18446744073709551616 * inv % 18446744073709551616) * p) / 18446744073709551616
theorem mid_num (r : List (BitVec 64) × BitVec 64) (hr : r.1.length = 6) : tw (mid r) 0 = tw r.1 0 ∧ tw (mid r) 1 = tw r.1 1 ∧ tw (mid r) 2 = tw r.1 2 ∧ tw (mid r) 3 = tw r.1 3 ∧
  (tw (mid r) 4).toNat + 18446744073709551616 * (tw (mid r) 5).toNat = (tw r.1 4).toNat + r.2.toNat ∧ (tw (mid r) 5).toNat ≤ 1 := by
 have h := addF_nat (tw r.1 4) r.2 false
 have h2 := bw_le (addF (tw r.1 4) r.2 false).2
 rw [show (bw false).toNat = 0 from rfl] at h
 unfold mid
 refine ⟨?_, ?_, ?_, ?_, ?_, ?_⟩
 ·rw [tw_set _ _ _ _ (by rw [List.length_set]; omega), if_neg (by decide), tw_set _ _ _ _ (by omega), if_neg (by decide)]
 ·rw [tw_set _ _ _ _ (by rw [List.length_set]; omega), if_neg (by decide), tw_set _ _ _ _ (by omega), if_neg (by decide)]
 ·rw [tw_set _ _ _ _ (by rw [List.length_set]; omega), if_neg (by decide), tw_set _ _ _ _ (by omega), if_neg (by decide)]
 ·rw [tw_set _ _ _ _ (by rw [List.length_set]; omega), if_neg (by decide), tw_set _ _ _ _ (by omega), if_neg (by decide)]
 ·rw [tw_set _ _ _ _ (by rw [List.length_set]; omega), if_neg (by decide), tw_set _ _ _ _ (by omega), if_pos rfl, tw_set _ _ _ _ (by rw [List.length_set]; omega), if_pos rfl]
  omega
 ·rw [tw_set _ _ _ _ (by rw [List.length_set]; omega), if_pos rfl]
  exact h2
theorem fold_num (r : List (BitVec 64) × BitVec 64) (hr : r.1.length = 6) (h5 : (tw r.1 5).toNat ≤ 1) : tw (fold r) 0 = tw r.1 0 ∧ tw (fold r) 1 = tw r.1 1 ∧ tw (fold r) 2 = tw r.1 2 ∧
  (tw (fold r) 3).toNat + 18446744073709551616 * (tw (fold r) 4).toNat = (tw r.1 4).toNat + r.2.toNat + 18446744073709551616 * (tw r.1 5).toNat := by
 have h := addF_nat (tw r.1 4) r.2 false
 have h2 := bw_le (addF (tw r.1 4) r.2 false).2
 rw [show (bw false).toNat = 0 from rfl] at h
 unfold fold
 refine ⟨?_, ?_, ?_, ?_⟩
 ·rw [tw_set _ _ _ _ (by rw [List.length_set]; omega), if_neg (by decide), tw_set _ _ _ _ (by omega), if_neg (by decide)]
 ·rw [tw_set _ _ _ _ (by rw [List.length_set]; omega), if_neg (by decide), tw_set _ _ _ _ (by omega), if_neg (by decide)]
 ·rw [tw_set _ _ _ _ (by rw [List.length_set]; omega), if_neg (by decide), tw_set _ _ _ _ (by omega), if_neg (by decide)]
 ·rw [tw_set _ _ _ _ (by rw [List.length_set]; omega), if_neg (by decide), tw_set _ _ _ _ (by omega), if_pos rfl, tw_set _ _ _ _ (by rw [List.length_set]; omega), if_pos rfl, BitVec.toNat_add]
  omega
theorem mround_num (f : FP) (a : V4) (y : BitVec 64) (t : List (BitVec 64)) (ht : t.length = 6) : tv (mround f a y t) = mstep f.p.num f.inv.toNat a.num y.toNat (tv t) := by
 obtain ⟨r, hr⟩ : ∃ r, r = rowA a y t 4 := ⟨_, rfl⟩
 have hA := rowA_num a y t ht
 rw [← hr] at hA
 have lr : r.1.length = 6 := by rw [hr, rowA_length, ht]
 obtain ⟨q, hq⟩ : ∃ q, q = mid r := ⟨_, rfl⟩
 have hM := mid_num r lr
 rw [← hq] at hM
 have lq : q.length = 6 := by rw [hq, mid_length, lr]
 obtain ⟨m, hm⟩ : ∃ m, m = tw q 0 * f.inv := ⟨_, rfl⟩
 have hP := rowP_num f.p m q lq
 obtain ⟨z, hz⟩ : ∃ z, z = rowP f.p m q 3 := ⟨_, rfl⟩
 rw [← hz] at hP
 have lz : z.1.length = 6 := by rw [hz, rowP_length, lq]
 obtain ⟨lo, hlo, hP, hP4, hP5⟩ := hP
 have hF := fold_num z lz (by rw [hP5]; exact hM.2.2.2.2.2)
 have he : mround f a y t = fold z := by rw [hz, hm, hq, hr]; rfl
 rw [he]
 have hmn : m.toNat = (tw q 0).toNat * f.inv.toNat % 18446744073709551616 := by rw [hm]; exact BitVec.toNat_mul ..
 obtain ⟨h0, h1, h2, h3, h4, h5⟩ := hM
 obtain ⟨k0, k1, k2, k3⟩ := hF
 obtain ⟨hA, hA4⟩ := hA
 unfold mstep tv
 have hS : (tw t 0).toNat + 18446744073709551616 * (tw t 1).toNat + 340282366920938463463374607431768211456 * (tw t 2).toNat + 6277101735386680763835789423207666416102355444464034512896 * (tw t 3).toNat + 115792089237316195423570985008687907853269984665640564039457584007913129639936 * (tw t 4).toNat + a.num * y.toNat
   = (tw q 0).toNat + 18446744073709551616 * (tw q 1).toNat + 340282366920938463463374607431768211456 * (tw q 2).toNat + 6277101735386680763835789423207666416102355444464034512896 * (tw q 3).toNat + 115792089237316195423570985008687907853269984665640564039457584007913129639936 * ((tw q 4).toNat + 18446744073709551616 * (tw q 5).toNat) := by
  rw [h4, h0, h1, h2, h3, hA4]
  omega
 have hS' : 18446744073709551616 * 18446744073709551616 = 340282366920938463463374607431768211456 ∧ 340282366920938463463374607431768211456 * 18446744073709551616 = 6277101735386680763835789423207666416102355444464034512896 := ⟨rfl, rfl⟩
 rw [hS]
 have hq0 := (tw q 0).isLt
 have hmod : ((tw q 0).toNat + 18446744073709551616 * (tw q 1).toNat + 340282366920938463463374607431768211456 * (tw q 2).toNat + 6277101735386680763835789423207666416102355444464034512896 * (tw q 3).toNat + 115792089237316195423570985008687907853269984665640564039457584007913129639936 * ((tw q 4).toNat + 18446744073709551616 * (tw q 5).toNat)) % 18446744073709551616 = (tw q 0).toNat := by omega
 rw [hmod, ← hmn, k0, k1, k2]
 rw [hP4, hP5] at k3
 generalize m.toNat * f.p.num = P at *
 omega
theorem mrows_num (f : FP) (a b : V4) (i : Nat) : tv (mrows f a b (i + 1)) = mstep f.p.num f.inv.toNat a.num (b.get i).toNat (tv (mrows f a b i)) := mround_num f a _ _ (mrows_length f a b i)
def mT (p inv a b : Nat) : Nat := mstep p inv a (b / 6277101735386680763835789423207666416102355444464034512896 % 18446744073709551616) (mstep p inv a (b / 340282366920938463463374607431768211456 % 18446744073709551616) (mstep p inv a (b / 18446744073709551616 % 18446744073709551616) (mstep p inv a (b % 18446744073709551616) 0)))
def mmN (p inv a b : Nat) : Nat := if mT p inv a b < p then mT p inv a b else (mT p inv a b - p) % 115792089237316195423570985008687907853269984665640564039457584007913129639936
theorem V4.num_words (b : V4) : b.num % 18446744073709551616 = (b.get 0).toNat ∧ b.num / 18446744073709551616 % 18446744073709551616 = (b.get 1).toNat ∧ b.num / 340282366920938463463374607431768211456 % 18446744073709551616 = (b.get 2).toNat ∧ b.num / 6277101735386680763835789423207666416102355444464034512896 % 18446744073709551616 = (b.get 3).toNat := by
 have h0 := b.x0.isLt
 have h1 := b.x1.isLt
 have h2 := b.x2.isLt
 have h3 := b.x3.isLt
 have e : b.num = b.x0.toNat + 18446744073709551616 * (b.x1.toNat + 18446744073709551616 * (b.x2.toNat + 18446744073709551616 * b.x3.toNat)) := rfl
 rw [e]
 refine ⟨?_, ?_, ?_, ?_⟩
 ·show _ = b.x0.toNat; omega
 ·show _ = b.x1.toNat; omega
 ·show _ = b.x2.toNat; omega
 ·show _ = b.x3.toNat; omega
theorem mrows_tv (f : FP) (a b : V4) : tv (mrows f a b 4) = mT f.p.num f.inv.toNat a.num b.num := by
 obtain ⟨e0, e1, e2, e3⟩ := V4.num_words b
 unfold mT
 rw [e0, e1, e2, e3, mrows_num, mrows_num, mrows_num, mrows_num]
 rfl
theorem mstep_lt (p inv a y T : Nat) (hp : p < 115792089237316195423570985008687907853269984665640564039457584007913129639936) (ha : a < 115792089237316195423570985008687907853269984665640564039457584007913129639936) (hy : y < 18446744073709551616) (hT : T < 2 * 115792089237316195423570985008687907853269984665640564039457584007913129639936) : mstep p inv a y T < 2 * 115792089237316195423570985008687907853269984665640564039457584007913129639936 := by
 unfold mstep
 have h1 : a * y ≤ (115792089237316195423570985008687907853269984665640564039457584007913129639936 - 1) * (18446744073709551616 - 1) := Nat.mul_le_mul (by omega) (by omega)
 have hm : (T + a * y) % 18446744073709551616 * inv % 18446744073709551616 < 18446744073709551616 := Nat.mod_lt _ (by decide)
 have h2 : ((T + a * y) % 18446744073709551616 * inv % 18446744073709551616) * p ≤ (18446744073709551616 - 1) * (115792089237316195423570985008687907853269984665640564039457584007913129639936 - 1) := Nat.mul_le_mul (by omega) (by omega)
 generalize ((T + a * y) % 18446744073709551616 * inv % 18446744073709551616) * p = P at *
 generalize a * y = Q at *
 omega
theorem mT_lt (p inv a b : Nat) (hp : p < 115792089237316195423570985008687907853269984665640564039457584007913129639936) (ha : a < 115792089237316195423570985008687907853269984665640564039457584007913129639936) : mT p inv a b < 2 * 115792089237316195423570985008687907853269984665640564039457584007913129639936 := by
 have hm : ∀ n : Nat, n % 18446744073709551616 < 18446744073709551616 := fun n => Nat.mod_lt _ (by decide)
 unfold mT
 exact mstep_lt _ _ _ _ _ hp ha (hm _) (mstep_lt _ _ _ _ _ hp ha (hm _) (mstep_lt _ _ _ _ _ hp ha (hm _) (mstep_lt _ _ _ _ _ hp ha (hm _) (by decide))))
theorem mmul_num (f : FP) (a b : V4) : (mmul f a b).num = mmN f.p.num f.inv.toNat a.num b.num := by
 have h := mrows_tv f a b
 have hlt := mT_lt f.p.num f.inv.toNat a.num b.num (V4.num_lt _) (V4.num_lt _)
 unfold mmul mmN
 rw [← h] at hlt ⊢
 rw [subP_num]
 generalize mrows f a b 4 = t at *
 have b0 := (tw t 0).isLt
 have b1 := (tw t 1).isLt
 have b2 := (tw t 2).isLt
 have b3 := (tw t 3).isLt
 have e : tv t = V4.num ⟨tw t 0, tw t 1, tw t 2, tw t 3⟩ + 115792089237316195423570985008687907853269984665640564039457584007913129639936 * (tw t 4).toNat := by
  show _ = (tw t 0).toNat + 18446744073709551616 * ((tw t 1).toNat + 18446744073709551616 * ((tw t 2).toNat + 18446744073709551616 * (tw t 3).toNat)) + _
  unfold tv
  omega
 have hn := V4.num_lt ⟨tw t 0, tw t 1, tw t 2, tw t 3⟩
 have hp := V4.num_lt f.p
 have h4 : (tw t 4).toNat % 2 = (tw t 4).toNat := by omega
 rw [h4, e]
 by_cases hc : V4.num ⟨tw t 0, tw t 1, tw t 2, tw t 3⟩ + 115792089237316195423570985008687907853269984665640564039457584007913129639936 * (tw t 4).toNat < f.p.num
 ·rw [if_pos hc, if_pos hc]
  omega
 ·rw [if_neg hc, if_neg hc]
end Go.Proofs.YtccgfladbibjbaaGreatDoor
namespace Go.Proofs.YtccgfladbibjbaaGreatDoor
open Go.RowKit
theorem mstep_exact (p inv a y T : Nat) (hg : (inv * p + 1) % 18446744073709551616 = 0) : 18446744073709551616 * mstep p inv a y T = T + a * y + ((T + a * y) % 18446744073709551616 * inv % 18446744073709551616) * p := by
 unfold mstep
 generalize T + a * y = S
 have h : (S + S % 18446744073709551616 * inv % 18446744073709551616 * p) % 18446744073709551616 = 0 := by
  rw [Nat.add_mod, Nat.mod_mul_mod]
  have h1 : S % 18446744073709551616 * inv * p % 18446744073709551616 = S % 18446744073709551616 * (inv * p) % 18446744073709551616 := by rw [Nat.mul_assoc]
  rw [h1, ← Nat.add_mod]
  have h2 : (S % 18446744073709551616 + S % 18446744073709551616 * (inv * p)) % 18446744073709551616 = 0 := by
   have h3 : S % 18446744073709551616 + S % 18446744073709551616 * (inv * p) = S % 18446744073709551616 * (inv * p + 1) := by rw [Nat.mul_add, Nat.mul_one, Nat.add_comm]
   rw [h3, Nat.mul_mod, hg, Nat.mul_zero, Nat.zero_mod]
  rw [Nat.add_mod, Nat.mod_mod, ← Nat.add_mod] at h2
  exact h2
 omega
theorem mod_once (x p : Nat) (h : ¬ x < p) (h2 : x < 2 * p) : x % p = x - p := by rw [Nat.mod_eq_sub_mod (by omega), Nat.mod_eq_of_lt (by omega)]
theorem mT_exact (p inv a b : Nat) (hg : (inv * p + 1) % 18446744073709551616 = 0) (hb : b < 115792089237316195423570985008687907853269984665640564039457584007913129639936) : ∃ M, M < 115792089237316195423570985008687907853269984665640564039457584007913129639936 ∧ 115792089237316195423570985008687907853269984665640564039457584007913129639936 * mT p inv a b = a * b + M * p := by
 have hm : ∀ n : Nat, n % 18446744073709551616 < 18446744073709551616 := fun n => Nat.mod_lt _ (by decide)
 unfold mT
 obtain ⟨T1, h1⟩ : ∃ T, T = mstep p inv a (b % 18446744073709551616) 0 := ⟨_, rfl⟩
 obtain ⟨T2, h2⟩ : ∃ T, T = mstep p inv a (b / 18446744073709551616 % 18446744073709551616) T1 := ⟨_, rfl⟩
 obtain ⟨T3, h3⟩ : ∃ T, T = mstep p inv a (b / 340282366920938463463374607431768211456 % 18446744073709551616) T2 := ⟨_, rfl⟩
 rw [← h1, ← h2, ← h3]
 have e1 := mstep_exact p inv a (b % 18446744073709551616) 0 hg
 have e2 := mstep_exact p inv a (b / 18446744073709551616 % 18446744073709551616) T1 hg
 have e3 := mstep_exact p inv a (b / 340282366920938463463374607431768211456 % 18446744073709551616) T2 hg
 have e4 := mstep_exact p inv a (b / 6277101735386680763835789423207666416102355444464034512896 % 18446744073709551616) T3 hg
 rw [← h1] at e1
 rw [← h2] at e2
 rw [← h3] at e3
 have l1 := hm ((0 + a * (b % 18446744073709551616)) % 18446744073709551616 * inv)
 have l2 := hm ((T1 + a * (b / 18446744073709551616 % 18446744073709551616)) % 18446744073709551616 * inv)
 have l3 := hm ((T2 + a * (b / 340282366920938463463374607431768211456 % 18446744073709551616)) % 18446744073709551616 * inv)
 have l4 := hm ((T3 + a * (b / 6277101735386680763835789423207666416102355444464034512896 % 18446744073709551616)) % 18446744073709551616 * inv)
 generalize mstep p inv a (b / 6277101735386680763835789423207666416102355444464034512896 % 18446744073709551616) T3 = T4 at *
 generalize (0 + a * (b % 18446744073709551616)) % 18446744073709551616 * inv % 18446744073709551616 = m1 at *
 generalize (T1 + a * (b / 18446744073709551616 % 18446744073709551616)) % 18446744073709551616 * inv % 18446744073709551616 = m2 at *
 generalize (T2 + a * (b / 340282366920938463463374607431768211456 % 18446744073709551616)) % 18446744073709551616 * inv % 18446744073709551616 = m3 at *
 generalize (T3 + a * (b / 6277101735386680763835789423207666416102355444464034512896 % 18446744073709551616)) % 18446744073709551616 * inv % 18446744073709551616 = m4 at *
 refine ⟨m1 + 18446744073709551616 * m2 + 340282366920938463463374607431768211456 * m3 + 6277101735386680763835789423207666416102355444464034512896 * m4, by omega, ?_⟩
 have hbw : b = b % 18446744073709551616 + 18446744073709551616 * (b / 18446744073709551616 % 18446744073709551616) + 340282366920938463463374607431768211456 * (b / 340282366920938463463374607431768211456 % 18446744073709551616) + 6277101735386680763835789423207666416102355444464034512896 * (b / 6277101735386680763835789423207666416102355444464034512896 % 18446744073709551616) := by omega
 have hab : a * b = a * (b % 18446744073709551616) + 18446744073709551616 * (a * (b / 18446744073709551616 % 18446744073709551616)) + 340282366920938463463374607431768211456 * (a * (b / 340282366920938463463374607431768211456 % 18446744073709551616)) + 6277101735386680763835789423207666416102355444464034512896 * (a * (b / 6277101735386680763835789423207666416102355444464034512896 % 18446744073709551616)) := by
  rw [show a * b = a * (b % 18446744073709551616 + 18446744073709551616 * (b / 18446744073709551616 % 18446744073709551616) + 340282366920938463463374607431768211456 * (b / 340282366920938463463374607431768211456 % 18446744073709551616) + 6277101735386680763835789423207666416102355444464034512896 * (b / 6277101735386680763835789423207666416102355444464034512896 % 18446744073709551616)) from by rw [← hbw]]
  generalize b % 18446744073709551616 = c0
  generalize b / 18446744073709551616 % 18446744073709551616 = c1
  generalize b / 340282366920938463463374607431768211456 % 18446744073709551616 = c2
  generalize b / 6277101735386680763835789423207666416102355444464034512896 % 18446744073709551616 = c3
  grind
 have hmp : (m1 + 18446744073709551616 * m2 + 340282366920938463463374607431768211456 * m3 + 6277101735386680763835789423207666416102355444464034512896 * m4) * p = m1 * p + 18446744073709551616 * (m2 * p) + 340282366920938463463374607431768211456 * (m3 * p) + 6277101735386680763835789423207666416102355444464034512896 * (m4 * p) := by grind
 rw [hab, hmp]
 generalize a * (b % 18446744073709551616) = q1 at *
 generalize a * (b / 18446744073709551616 % 18446744073709551616) = q2 at *
 generalize a * (b / 340282366920938463463374607431768211456 % 18446744073709551616) = q3 at *
 generalize a * (b / 6277101735386680763835789423207666416102355444464034512896 % 18446744073709551616) = q4 at *
 generalize m1 * p = r1 at *
 generalize m2 * p = r2 at *
 generalize m3 * p = r3 at *
 generalize m4 * p = r4 at *
 clear hab hmp hbw h1 h2 h3
 omega
theorem mmN_eq (p inv Ri a b : Nat) (hg : (inv * p + 1) % 18446744073709551616 = 0) (hp : p < 115792089237316195423570985008687907853269984665640564039457584007913129639936) (hR : 115792089237316195423570985008687907853269984665640564039457584007913129639936 * Ri % p = 1 % p) (hb : b < 115792089237316195423570985008687907853269984665640564039457584007913129639936) (hab : a * b < 115792089237316195423570985008687907853269984665640564039457584007913129639936 * p) : mmN p inv a b = a * b * Ri % p := by
 obtain ⟨M, hM, he⟩ := mT_exact p inv a b hg hb
 have h1 : M * p ≤ (115792089237316195423570985008687907853269984665640564039457584007913129639936 - 1) * p := Nat.mul_le_mul_right _ (by omega)
 have h1' : (115792089237316195423570985008687907853269984665640564039457584007913129639936 - 1) * p + p = 115792089237316195423570985008687907853269984665640564039457584007913129639936 * p := by rw [← Nat.succ_mul]
 have hT : mT p inv a b < 2 * p := by
  generalize M * p = Q at *
  generalize a * b = A at *
  omega
 have hp0 : 0 < p := by omega
 have hres : mmN p inv a b = mT p inv a b % p := by
  unfold mmN
  by_cases hc : mT p inv a b < p
  ·rw [if_pos hc, Nat.mod_eq_of_lt hc]
  ·rw [if_neg hc, mod_once _ p hc hT, Nat.mod_eq_of_lt (by omega)]
 rw [hres]
 have h2 : mT p inv a b % p = mT p inv a b * (115792089237316195423570985008687907853269984665640564039457584007913129639936 * Ri) % p := by
  rw [Nat.mul_mod, hR, ← Nat.mul_mod, Nat.mul_one]
 rw [h2, ← Nat.mul_assoc, Nat.mul_comm (mT p inv a b), he, Nat.add_mul, Nat.mul_assoc M p Ri, Nat.mul_comm p Ri, ← Nat.mul_assoc M Ri p, Nat.add_mul_mod_self_right]
def V4.of (n : Nat) : V4 := ⟨BitVec.ofNat 64 n, BitVec.ofNat 64 (n / 18446744073709551616), BitVec.ofNat 64 (n / 340282366920938463463374607431768211456), BitVec.ofNat 64 (n / 6277101735386680763835789423207666416102355444464034512896)⟩
structure Good (f : FP) (Ri : Nat) : Prop where
 inv : (f.inv.toNat * f.p.num + 1) % 18446744073709551616 = 0
 rad : 115792089237316195423570985008687907853269984665640564039457584007913129639936 * Ri % f.p.num = 1
 sq : f.sq.num * Ri % f.p.num * Ri % f.p.num = 1
 one : f.one.num * Ri % f.p.num = 1
 sqlt : f.sq.num < f.p.num
 onelt : f.one.num < f.p.num
 big : 1 < f.p.num
theorem mmul_good {f : FP} {Ri : Nat} (g : Good f Ri) (a b : V4) (h : a.num < f.p.num ∨ b.num < f.p.num) : (mmul f a b).num = a.num * b.num * Ri % f.p.num := by
 have hp := V4.num_lt f.p
 have ha := V4.num_lt a
 have hb := V4.num_lt b
 rw [mmul_num]
 refine mmN_eq _ _ _ _ _ g.inv hp (by rw [g.rad, Nat.mod_eq_of_lt g.big]) hb ?_
 have hb0 := g.big
 rcases h with h | h
 ·rw [Nat.mul_comm 115792089237316195423570985008687907853269984665640564039457584007913129639936]
  rcases Nat.eq_zero_or_pos b.num with h0 | h0
  ·rw [h0, Nat.mul_zero]
   exact Nat.mul_pos (by omega) (by decide)
  ·exact Nat.mul_lt_mul_of_lt_of_le h (by omega) (by omega)
 ·exact Nat.mul_lt_mul_of_le_of_lt (by omega) h (by decide)
theorem mmul_lt {f : FP} {Ri : Nat} (g : Good f Ri) (a b : V4) (h : a.num < f.p.num ∨ b.num < f.p.num) : (mmul f a b).num < f.p.num := by
 rw [mmul_good g a b h]
 exact Nat.mod_lt _ (by have := g.big; omega)
end Go.Proofs.YtccgfladbibjbaaGreatDoor
