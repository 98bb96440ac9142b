/- The sum of the shares of two secrets is a share of the sum. No program in sight. -/
import Derived.Test.YtccgfladbibjbaaGreatDoorG37
import Derived.Test.YtccgfladbibjbaaGreatDoorG30
import Derived.Test.YtccgfladbibjbaaGreatDoorG34
import Derived.Test.YtccgfladbibjbaaGreatDoorG35
namespace Go.Proofs.YtccgfladbibjbaaGreatDoor
open Go.RowKit

theorem mmul_r {f : FP} {Ri : Nat} (g : Good f Ri) (a b : V4) (c : Nat) (hb : b.num < f.p.num) (h : b.num * Ri % f.p.num = c) : (mmul f a b).num = a.num * c % f.p.num := by
  rw [mmul_good g a b (.inr hb), Nat.mul_assoc, ← h, Nat.mul_mod_mod]
theorem mmul_l {f : FP} {Ri : Nat} (g : Good f Ri) (a b : V4) (c : Nat) (ha : a.num < f.p.num) (h : a.num * Ri % f.p.num = c) : (mmul f a b).num = c * b.num % f.p.num := by
  rw [mmul_good g a b (.inl ha), Nat.mul_right_comm, ← h, Nat.mod_mul_mod]
theorem zero_num : V4.zero.num = 0 := by decide
/-- A polynomial of degree two at a point. -/
theorem eval3 {f : FP} {Ri : Nat} (g : Good f Ri) (a0 a1 a2 : V4) (h0 : a0.num < f.p.num) (h1 : a1.num < f.p.num) (h2 : a2.num < f.p.num) (k : Int) (c : Nat) (hk : (ptE f k).num * Ri % f.p.num = c) :
    (evalAt f k [a0, a1, a2]).num = (a0.num + c * (a1.num + c * a2.num)) % f.p.num ∧ (evalAt f k [a0, a1, a2]).num < f.p.num := by
  have hx : (ptE f k).num < f.p.num := mmul_lt g _ _ (.inr g.sqlt)
  have e : evalAt f k [a0, a1, a2] = madd f (mmul f (madd f (mmul f (madd f (mmul f V4.zero (ptE f k)) a2) (ptE f k)) a1) (ptE f k)) a0 := rfl
  have hp := g.big
  have z : V4.zero.num < f.p.num := by rw [zero_num]; omega
  have m1 := mmul_lt g V4.zero (ptE f k) (.inr hx)
  have n1 := mmul_r g V4.zero _ c hx hk
  have n2 := madd_good (f := f) _ a2 m1 h2
  have l2 : (madd f (mmul f V4.zero (ptE f k)) a2).num < f.p.num := by rw [n2]; exact Nat.mod_lt _ (by omega)
  have n3 := mmul_r g (madd f (mmul f V4.zero (ptE f k)) a2) _ c hx hk
  have m3 := mmul_lt g (madd f (mmul f V4.zero (ptE f k)) a2) (ptE f k) (.inr hx)
  have n4 := madd_good (f := f) _ a1 m3 h1
  have n5 := mmul_r g (madd f (mmul f (madd f (mmul f V4.zero (ptE f k)) a2) (ptE f k)) a1) _ c hx hk
  have m5 := mmul_lt g (madd f (mmul f (madd f (mmul f V4.zero (ptE f k)) a2) (ptE f k)) a1) (ptE f k) (.inr hx)
  have n6 := madd_good (f := f) _ a0 m5 h0
  rw [e]
  refine ⟨?_, by rw [n6]; exact Nat.mod_lt _ (by omega)⟩
  rw [n6, n5, n4, n3, n2, n1, zero_num]
  simp only [Nat.zero_mul, Nat.zero_mod, Nat.zero_add, Nat.mod_add_mod, Nat.mod_mul_mod]
  have q : (a2.num * c + a1.num) * c + a0.num = a0.num + c * (a1.num + c * a2.num) := by grind
  rw [q]

/-- The weights of the points 1, 2, 3 at 0. -/
structure Lag (f : FP) (Ri : Nat) : Prop where
  g : Good f Ri
  z : ∃ z0 z1 z2, zeroC f [1, 2, 3] = [z0, z1, z2] ∧ (z0.num < f.p.num ∧ z0.num * Ri % f.p.num = 3) ∧ (z1.num < f.p.num ∧ z1.num * Ri % f.p.num = f.p.num - 3) ∧ (z2.num < f.p.num ∧ z2.num * Ri % f.p.num = 1)
  x1 : (ptE f 1).num * Ri % f.p.num = 1
  x2 : (ptE f 2).num * Ri % f.p.num = 2
  x3 : (ptE f 3).num * Ri % f.p.num = 3
theorem lag_mk {f : FP} {Ri : Nat} (g : Good f Ri) (zs : List V4) (h : zeroC f [1, 2, 3] = zs) (h0 : (at4 zs 0).num < f.p.num ∧ (at4 zs 0).num * Ri % f.p.num = 3) (h1 : (at4 zs 1).num < f.p.num ∧ (at4 zs 1).num * Ri % f.p.num = f.p.num - 3) (h2 : (at4 zs 2).num < f.p.num ∧ (at4 zs 2).num * Ri % f.p.num = 1)
    (x1 : (ptE f 1).num * Ri % f.p.num = 1) (x2 : (ptE f 2).num * Ri % f.p.num = 2) (x3 : (ptE f 3).num * Ri % f.p.num = 3) : Lag f Ri := by
  have hl : zs.length = 3 := by rw [← h]; unfold zeroC; rw [zeT_length, weights_length]; rfl
  match zs, hl, h0, h1, h2, h with
  | [z0, z1, z2], _, h0, h1, h2, h => exact ⟨g, ⟨z0, z1, z2, h, h0, h1, h2⟩, x1, x2, x3⟩
set_option maxRecDepth 100000 in
theorem lag1 : Lag fp1 10665060850805439052171011777115991512801182798151104582581619579676209308938 :=
  lag_mk good1 [⟨114#64, 0#64, 0#64, 0#64⟩, ⟨18446744073709551483#64, 18446744073709551615#64, 18446744073709551615#64, 9223372036854775807#64⟩, ⟨38#64, 0#64, 0#64, 0#64⟩] (by kernel_rfl) (by decide +kernel) (by decide +kernel) (by decide +kernel) (by decide +kernel) (by decide +kernel) (by decide +kernel)
set_option maxRecDepth 100000 in
theorem lag2 : Lag fp2 43790243014242295660885426880012836369732278457577312309071968676491870960761 :=
  lag_mk good2 [⟨2653358738984308749#64, 14504704578588058737#64, 0#64, 12884901885#64⟩, ⟨14908932421730473284#64, 17553882042635024915#64, 18446744073709551614#64, 18446744056529682435#64⟩, ⟨884452912994769583#64, 4834901526196019579#64, 0#64, 4294967295#64⟩] (by kernel_rfl) (by decide +kernel) (by decide +kernel) (by decide +kernel) (by decide +kernel) (by decide +kernel) (by decide +kernel)
end Go.Proofs.YtccgfladbibjbaaGreatDoor
