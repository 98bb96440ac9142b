/- The sum of the shares of two secrets is a share of the sum: the shares. No program in sight. -/
import Derived.Test.YtccgfladbibjbaaGreatDoorPLag
namespace Go.Proofs.YtccgfladbibjbaaGreatDoor
open Go.RowKit

theorem dot_sum (p x s1 s2 s3 : Nat) (hp : 3 ≤ p) (h : 3 * s1 + s3 = 3 * s2 + x) : (3 * s1 + (p - 3) * s2 + 1 * s3) % p = x % p := by
  have e : (p - 3) * s2 + 3 * s2 = p * s2 := by rw [← Nat.add_mul, Nat.sub_add_cancel hp]
  have : 3 * s1 + (p - 3) * s2 + 1 * s3 = x + p * s2 := by omega
  rw [this, Nat.add_mul_mod_self_left]
/-- A share of the sum: one element. -/
def sumP (f : FP) (k : Int) (x y : List V4) : V4 := radd f.p (evalAt f k x) (evalAt f k y)
theorem sumP_num {f : FP} {Ri : Nat} (g : Good f Ri) (a0 a1 a2 b0 b1 b2 : V4) (h0 : a0.num < f.p.num) (h1 : a1.num < f.p.num) (h2 : a2.num < f.p.num) (k0 : b0.num < f.p.num) (k1 : b1.num < f.p.num) (k2 : b2.num < f.p.num) (k : Int) (c : Nat) (hk : (ptE f k).num * Ri % f.p.num = c) :
    (sumP f k [a0, a1, a2] [b0, b1, b2]).num = (a0.num + c * (a1.num + c * a2.num) + (b0.num + c * (b1.num + c * b2.num))) % f.p.num ∧ (sumP f k [a0, a1, a2] [b0, b1, b2]).num < f.p.num := by
  obtain ⟨e1, l1⟩ := eval3 g a0 a1 a2 h0 h1 h2 k c hk
  obtain ⟨e2, l2⟩ := eval3 g b0 b1 b2 k0 k1 k2 k c hk
  unfold sumP
  refine ⟨?_, radd_lt _ _ _ l1 l2⟩
  rw [radd_num _ _ _ l1 l2, e1, e2, Nat.mod_add_mod, Nat.add_mod_mod]
theorem dot_back {f : FP} {Ri : Nat} (L : Lag f Ri) (hp : 3 ≤ f.p.num) (a0 a1 a2 b0 b1 b2 : V4) (h0 : a0.num < f.p.num) (h1 : a1.num < f.p.num) (h2 : a2.num < f.p.num) (k0 : b0.num < f.p.num) (k1 : b1.num < f.p.num) (k2 : b2.num < f.p.num) :
    dotT f (zeroC f [1, 2, 3]) [sumP f 1 [a0, a1, a2] [b0, b1, b2], sumP f 2 [a0, a1, a2] [b0, b1, b2], sumP f 3 [a0, a1, a2] [b0, b1, b2]] (zeroC f [1, 2, 3]).length = radd f.p a0 b0 := by
  obtain ⟨z0, z1, z2, hz, ⟨l0, e0⟩, ⟨l1, e1⟩, ⟨l2, e2⟩⟩ := L.z
  obtain ⟨n1, m1⟩ := sumP_num L.g a0 a1 a2 b0 b1 b2 h0 h1 h2 k0 k1 k2 1 1 L.x1
  obtain ⟨n2, m2⟩ := sumP_num L.g a0 a1 a2 b0 b1 b2 h0 h1 h2 k0 k1 k2 2 2 L.x2
  obtain ⟨n3, m3⟩ := sumP_num L.g a0 a1 a2 b0 b1 b2 h0 h1 h2 k0 k1 k2 3 3 L.x3
  rw [hz]
  apply V4.ext_num
  rw [radd_num _ _ _ h0 k0]
  generalize sumP f 1 [a0, a1, a2] [b0, b1, b2] = s1 at *
  generalize sumP f 2 [a0, a1, a2] [b0, b1, b2] = s2 at *
  generalize sumP f 3 [a0, a1, a2] [b0, b1, b2] = s3 at *
  show (madd f (madd f (madd f V4.zero (mmul f z0 s1)) (mmul f z1 s2)) (mmul f z2 s3)).num = _
  have z : V4.zero.num < f.p.num := by rw [zero_num]; omega
  have q0 := mmul_l L.g z0 s1 _ l0 e0
  have q1 := mmul_l L.g z1 s2 _ l1 e1
  have q2 := mmul_l L.g z2 s3 _ l2 e2
  have r0 := mmul_lt L.g z0 s1 (.inl l0)
  have r1 := mmul_lt L.g z1 s2 (.inl l1)
  have r2 := mmul_lt L.g z2 s3 (.inl l2)
  have t0 := madd_good (f := f) V4.zero _ z r0
  have u0 : (madd f V4.zero (mmul f z0 s1)).num < f.p.num := by rw [t0]; exact Nat.mod_lt _ (by omega)
  have t1 := madd_good (f := f) _ _ u0 r1
  have u1 : (madd f (madd f V4.zero (mmul f z0 s1)) (mmul f z1 s2)).num < f.p.num := by rw [t1]; exact Nat.mod_lt _ (by omega)
  have t2 := madd_good (f := f) _ _ u1 r2
  rw [t2, t1, t0, q0, q1, q2, zero_num, n1, n2, n3]
  simp only [Nat.zero_add, Nat.mod_add_mod, Nat.add_mod_mod, Nat.mul_mod_mod]
  exact dot_sum _ _ _ _ _ hp (by omega)
theorem at4_one (v : V4) : at4 [v] 0 = v := rfl
/-- The share with the number k + 1 of the sum. -/
def sumAt (id : Int) (f : FP) (X Y : List V4) (k : Nat) : Sh := ⟨id, 3, (k : Int) + 1, 31, [sumP f ((k : Int) + 1) X Y]⟩
def sumsV (id : Int) (f : FP) (X Y : List V4) (n : Nat) : List Sh := (List.range n).map (sumAt id f X Y)
theorem sumsV_succ (id : Int) (f : FP) (X Y : List V4) (n : Nat) : sumsV id f X Y (n + 1) = sumsV id f X Y n ++ [sumAt id f X Y n] := by simp [sumsV, List.range_succ]
theorem sumsV_length (id : Int) (f : FP) (X Y : List V4) (n : Nat) : (sumsV id f X Y n).length = n := by simp [sumsV]
theorem sums_ok {id : Int} {f : FP} {X Y : List V4} (h1 : getE id = 0) (h2 : getF id = f) (hl : ∀ k, k < 4 → (sumP f ((k : Nat) + 1 : Int) X Y).num < f.p.num) : OkShs (sumsV id f X Y 4) := by
  have hm : ∀ x ∈ sumsV id f X Y 4, ∃ k : Nat, k < 4 ∧ x = sumAt id f X Y k := fun x hx => by
    unfold sumsV at hx
    obtain ⟨k, hk, rfl⟩ := List.mem_map.1 hx
    exact ⟨k, List.mem_range.1 hk, rfl⟩
  refine ⟨by rw [sumsV_length]; decide, ?_, ?_, ?_, ?_⟩
  · intro x hx
    obtain ⟨k, hk, rfl⟩ := hm x hx
    have hp : okPay (getF id) [sumP f ((k : Int) + 1) X Y] = true := by
      rw [h2]
      unfold okPay
      simp only [List.all_cons, List.all_nil, Bool.and_true]
      exact decide_eq_true (hl k hk)
    have hc : ([sumP f ((k : Int) + 1) X Y] : List V4).length = cnt 31 := rfl
    unfold checkE sumAt
    simp only []
    rw [if_neg (fun h => h h1), if_neg (by decide), if_neg (fun h => h (by omega)), if_neg (by decide), if_neg (fun h => h hc), if_pos hp]
  · intro x hx y hy
    obtain ⟨k, _, rfl⟩ := hm x hx
    obtain ⟨j, _, rfl⟩ := hm y hy
    rfl
  · have : (sumsV id f X Y 4).map Sh.idx = [1, 2, 3, 4] := rfl
    rw [this]
    decide
  · intro x hx
    obtain ⟨k, _, rfl⟩ := hm x hx
    rw [sumsV_length]
    show (3 : Int) ≤ ((4 : Nat) : Int)
    decide
set_option maxHeartbeats 1000000 in
theorem sums_join {id : Int} {f : FP} {X Y : List V4} (L : List ShA) (h : L.map ShA.s = sumsV id f X Y 4) (m : Nat) (hm : m = 1) :
    joinVals f m (L.take 3) = [dotT f (zeroC f [1, 2, 3]) [sumP f 1 X Y, sumP f 2 X Y, sumP f 3 X Y] (zeroC f [1, 2, 3]).length] := by
  subst hm
  have h3 : (L.take 3).map ShA.s = [sumAt id f X Y 0, sumAt id f X Y 1, sumAt id f X Y 2] := by
    rw [List.map_take, h]
    rfl
  have hi : idxs (L.take 3) = [1, 2, 3] := by
    have e : idxs (L.take 3) = ((L.take 3).map ShA.s).map Sh.idx := by unfold idxs; rw [List.map_map]; rfl
    rw [e, h3]
    rfl
  have hc : colV (L.take 3) 0 = [sumP f 1 X Y, sumP f 2 X Y, sumP f 3 X Y] := by
    have e : colV (L.take 3) 0 = ((L.take 3).map ShA.s).map (fun s => at4 s.pay 0) := by unfold colV; rw [List.map_map]; rfl
    have a : ∀ k : Nat, at4 (sumAt id f X Y k).pay 0 = sumP f ((k : Int) + 1) X Y := fun k => at4_one _
    rw [e, h3]
    show [at4 (sumAt id f X Y 0).pay 0, at4 (sumAt id f X Y 1).pay 0, at4 (sumAt id f X Y 2).pay 0] = _
    rw [a, a, a, show ((0 : Nat) : Int) + 1 = 1 from rfl, show ((1 : Nat) : Int) + 1 = 2 from rfl, show ((2 : Nat) : Int) + 1 = 3 from rfl]
  unfold joinVals
  rw [hi]
  show [valAt f (zeroC f [1, 2, 3]) (L.take 3) 0] = _
  unfold valAt
  rw [hc]
theorem list3 : ∀ X : List V4, X.length = 3 → ∃ a b c, X = [a, b, c]
  | [a, b, c], _ => ⟨a, b, c, rfl⟩
/-- All shares of the sum are elements, and together they give back the sum of the first elements. -/
theorem adds_law {id : Int} {f : FP} {Ri : Nat} (Lg : Lag f Ri) (h1 : getE id = 0) (h2 : getF id = f) (hp : 3 ≤ f.p.num) (x4 : (ptE f 4).num * Ri % f.p.num = 4) (X Y : List V4) (hX : X.length = 3) (hY : Y.length = 3) (lX : ∀ v ∈ X, v.num < f.p.num) (lY : ∀ v ∈ Y, v.num < f.p.num) :
    OkShs (sumsV id f X Y 4) ∧ ∀ L : List ShA, L.map ShA.s = sumsV id f X Y 4 → ∀ m, m = 1 → joinVals f m (L.take 3) = [radd f.p (at4 X 0) (at4 Y 0)] := by
  obtain ⟨a0, a1, a2, rfl⟩ := list3 X hX
  obtain ⟨b0, b1, b2, rfl⟩ := list3 Y hY
  have h0 := lX a0 (.head _)
  have h1' := lX a1 (.tail _ (.head _))
  have h2' := lX a2 (.tail _ (.tail _ (.head _)))
  have k0 := lY b0 (.head _)
  have k1 := lY b1 (.tail _ (.head _))
  have k2 := lY b2 (.tail _ (.tail _ (.head _)))
  have c1 := (sumP_num Lg.g a0 a1 a2 b0 b1 b2 h0 h1' h2' k0 k1 k2 1 1 Lg.x1).2
  have c2 := (sumP_num Lg.g a0 a1 a2 b0 b1 b2 h0 h1' h2' k0 k1 k2 2 2 Lg.x2).2
  have c3 := (sumP_num Lg.g a0 a1 a2 b0 b1 b2 h0 h1' h2' k0 k1 k2 3 3 Lg.x3).2
  have c4 := (sumP_num Lg.g a0 a1 a2 b0 b1 b2 h0 h1' h2' k0 k1 k2 4 4 x4).2
  have hd := dot_back Lg hp a0 a1 a2 b0 b1 b2 h0 h1' h2' k0 k1 k2
  refine ⟨sums_ok h1 h2 fun k hk => ?_, fun L h m hm => ?_⟩
  · obtain h | h | h | h : k = 0 ∨ k = 1 ∨ k = 2 ∨ k = 3 := by omega
    · subst h; rw [show ((0 : Nat) : Int) + 1 = 1 from rfl]; exact c1
    · subst h; rw [show ((1 : Nat) : Int) + 1 = 2 from rfl]; exact c2
    · subst h; rw [show ((2 : Nat) : Int) + 1 = 3 from rfl]; exact c3
    · subst h; rw [show ((3 : Nat) : Int) + 1 = 4 from rfl]; exact c4
  · rw [sums_join L h m hm, hd, show at4 [a0, a1, a2] 0 = a0 from rfl, show at4 [b0, b1, b2] 0 = b0 from rfl]
end Go.Proofs.YtccgfladbibjbaaGreatDoor
