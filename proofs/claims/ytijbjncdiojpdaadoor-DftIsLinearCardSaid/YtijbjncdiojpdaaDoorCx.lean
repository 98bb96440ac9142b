/- Complex numbers with rational parts; finite sums of them. -/
import Derived.Test.YtijbjncdiojpdaaDoorFOps
namespace Go.Proofs.YtijbjncdiojpdaaDoor
open Go

@[ext] structure Cx where
  re : Rat
  im : Rat
namespace Cx
instance : Add Cx := ⟨fun a b => ⟨a.re + b.re, a.im + b.im⟩⟩
instance : Mul Cx := ⟨fun a b => ⟨a.re * b.re - a.im * b.im, a.re * b.im + a.im * b.re⟩⟩
instance : Neg Cx := ⟨fun a => ⟨-a.re, -a.im⟩⟩
instance : Sub Cx := ⟨fun a b => ⟨a.re - b.re, a.im - b.im⟩⟩
instance : NatCast Cx := ⟨fun n => ⟨(n : Rat), 0⟩⟩
instance : IntCast Cx := ⟨fun n => ⟨(n : Rat), 0⟩⟩
instance (n : Nat) : OfNat Cx n := ⟨⟨(n : Rat), 0⟩⟩
instance : SMul Nat Cx := ⟨fun n a => (n : Cx) * a⟩
instance : SMul Int Cx := ⟨fun n a => (n : Cx) * a⟩
def pow (a : Cx) : Nat → Cx
  | 0 => 1
  | n + 1 => pow a n * a
instance : HPow Cx Nat Cx := ⟨pow⟩
theorem add_re (a b : Cx) : (a + b).re = a.re + b.re := rfl
theorem add_im (a b : Cx) : (a + b).im = a.im + b.im := rfl
theorem mul_re (a b : Cx) : (a * b).re = a.re * b.re - a.im * b.im := rfl
theorem mul_im (a b : Cx) : (a * b).im = a.re * b.im + a.im * b.re := rfl
theorem neg_re (a : Cx) : (-a).re = -a.re := rfl
theorem neg_im (a : Cx) : (-a).im = -a.im := rfl
theorem sub_re (a b : Cx) : (a - b).re = a.re - b.re := rfl
theorem sub_im (a b : Cx) : (a - b).im = a.im - b.im := rfl
theorem nat_re (n : Nat) : ((n : Cx)).re = n := rfl
theorem nat_im (n : Nat) : ((n : Cx)).im = 0 := rfl
theorem int_re (n : Int) : ((n : Cx)).re = n := rfl
theorem int_im (n : Int) : ((n : Cx)).im = 0 := rfl
theorem zero_re : (0 : Cx).re = 0 := rfl
theorem zero_im : (0 : Cx).im = 0 := rfl
theorem one_re : (1 : Cx).re = 1 := rfl
theorem one_im : (1 : Cx).im = 0 := rfl
instance : Lean.Grind.CommRing Cx where
  add_zero a := by ext <;> simp only [add_re, add_im, zero_re, zero_im] <;> grind
  add_comm a b := by ext <;> simp only [add_re, add_im] <;> grind
  add_assoc a b c := by ext <;> simp only [add_re, add_im] <;> grind
  mul_assoc a b c := by ext <;> simp only [mul_re, mul_im] <;> grind
  mul_one a := by ext <;> simp only [mul_re, mul_im, one_re, one_im] <;> grind
  one_mul a := by ext <;> simp only [mul_re, mul_im, one_re, one_im] <;> grind
  left_distrib a b c := by ext <;> simp only [mul_re, mul_im, add_re, add_im] <;> grind
  right_distrib a b c := by ext <;> simp only [mul_re, mul_im, add_re, add_im] <;> grind
  zero_mul a := by ext <;> simp only [mul_re, mul_im, zero_re, zero_im] <;> grind
  mul_zero a := by ext <;> simp only [mul_re, mul_im, zero_re, zero_im] <;> grind
  pow_zero a := rfl
  pow_succ a n := rfl
  ofNat_succ n := by
    ext
    · show ((n + 1 : Nat) : Rat) = (n : Rat) + ((1 : Nat) : Rat)
      exact Rat.natCast_add n 1
    · show (0 : Rat) = 0 + 0
      grind
  neg_add_cancel a := by ext <;> simp only [add_re, add_im, neg_re, neg_im, zero_re, zero_im] <;> grind
  sub_eq_add_neg a b := by ext <;> simp only [add_re, add_im, neg_re, neg_im, sub_re, sub_im] <;> grind
  neg_zsmul i a := by
    show ((-i : Int) : Cx) * a = -((i : Cx) * a)
    ext <;> simp only [mul_re, mul_im, neg_re, neg_im, int_re, int_im, Rat.intCast_neg] <;> grind
  zsmul_natCast_eq_nsmul n a := rfl
  intCast_ofNat n := rfl
  intCast_neg i := by ext <;> simp only [neg_re, neg_im, int_re, int_im, Rat.intCast_neg] <;> grind
  mul_comm a b := by ext <;> simp only [mul_re, mul_im] <;> grind
end Cx
open Cx

/-- Both parts are b at the most. -/
def Lc (x : Cx) (b : Rat) : Prop := Le x.re b ∧ Le x.im b
def Nc (x y : Cx) (d : Rat) : Prop := Lc (x - y) d

theorem Le.mul {x y a b : Rat} (h1 : Le x a) (h2 : Le y b) : Le (x * y) (a * b) := by
  unfold Le at *
  have h5 := Rat.mul_nonneg (show 0 ≤ a - x by grind) (show 0 ≤ b + y by grind)
  have h6 := Rat.mul_nonneg (show 0 ≤ a + x by grind) (show 0 ≤ b - y by grind)
  have h7 := Rat.mul_nonneg (show 0 ≤ a - x by grind) (show 0 ≤ b - y by grind)
  have h8 := Rat.mul_nonneg (show 0 ≤ a + x by grind) (show 0 ≤ b + y by grind)
  grind
theorem Lc.nonneg {x : Cx} {a : Rat} (h : Lc x a) : 0 ≤ a := by
  unfold Lc Le at h
  grind
theorem Lc.mul {x y : Cx} {a b : Rat} (h1 : Lc x a) (h2 : Lc y b) : Lc (x * y) (2 * (a * b)) := by
  have e1 := h1.1.mul h2.1
  have e2 := h1.2.mul h2.2
  have e3 := h1.1.mul h2.2
  have e4 := h1.2.mul h2.1
  unfold Lc Le at *
  simp only [Cx.mul_re, Cx.mul_im]
  grind
theorem Lc.add {x y : Cx} {a b : Rat} (h1 : Lc x a) (h2 : Lc y b) : Lc (x + y) (a + b) := by
  unfold Lc Le at *
  simp only [Cx.add_re, Cx.add_im]
  grind
theorem Lc.sub {x y : Cx} {a b : Rat} (h1 : Lc x a) (h2 : Lc y b) : Lc (x - y) (a + b) := by
  unfold Lc Le at *
  simp only [Cx.sub_re, Cx.sub_im]
  grind
theorem Lc.mono {x : Cx} {a b : Rat} (h1 : Lc x a) (h : a ≤ b) : Lc x b := by
  unfold Lc Le at *
  grind
theorem Lc.zero : Lc 0 0 := by
  unfold Lc Le
  simp only [Cx.zero_re, Cx.zero_im]
  grind
theorem Nc.lc {x y : Cx} {d b : Rat} (h : Nc x y d) (hy : Lc y b) : Lc x (b + d) := by
  unfold Nc Lc Le at *
  simp only [Cx.sub_re, Cx.sub_im] at *
  grind
theorem Nc.trans {x y z : Cx} {d e : Rat} (h : Nc x y d) (h2 : Nc y z e) : Nc x z (d + e) := by
  unfold Nc Lc Le at *
  simp only [Cx.sub_re, Cx.sub_im] at *
  grind
theorem Nc.mono {x y : Cx} {d e : Rat} (h : Nc x y d) (h2 : d ≤ e) : Nc x y e := Lc.mono h h2
theorem Nc.refl (x : Cx) : Nc x x 0 := by
  unfold Nc Lc Le
  simp only [Cx.sub_re, Cx.sub_im]
  grind
theorem Nc.add {x y z t : Cx} {d e : Rat} (h : Nc x y d) (h2 : Nc z t e) : Nc (x + z) (y + t) (d + e) := by
  unfold Nc Lc Le at *
  simp only [Cx.sub_re, Cx.sub_im, Cx.add_re, Cx.add_im] at *
  grind
theorem Nc.mul {x y z t : Cx} {d e a b : Rat} (h : Nc x y d) (h2 : Nc z t e) (hz : Lc z a) (hy : Lc y b) : Nc (x * z) (y * t) (2 * (d * a) + 2 * (b * e)) := by
  have h3 := Lc.mul h hz
  have h4 := Lc.mul hy h2
  have h5 := h3.add h4
  have : (x - y) * z + y * (z - t) = x * z - y * t := by grind
  rw [this] at h5
  exact h5

/-- The sum of f 0 .. f (n - 1). -/
def cs : Nat → (Nat → Cx) → Cx
  | 0, _ => 0
  | n + 1, f => cs n f + f n
theorem cs_congr {n : Nat} {f g : Nat → Cx} (h : ∀ i, i < n → f i = g i) : cs n f = cs n g := by
  induction n with
  | zero => rfl
  | succ n ih => rw [cs, cs, ih fun i hi => h i (by omega), h n (by omega)]
theorem cs_add (n : Nat) (f g : Nat → Cx) : cs n (fun i => f i + g i) = cs n f + cs n g := by
  induction n with
  | zero => show (0 : Cx) = 0 + 0; grind
  | succ n ih => rw [cs, cs, cs, ih]; grind
theorem cs_sub (n : Nat) (f g : Nat → Cx) : cs n (fun i => f i - g i) = cs n f - cs n g := by
  induction n with
  | zero => show (0 : Cx) = 0 - 0; grind
  | succ n ih => rw [cs, cs, cs, ih]; grind
theorem cs_mul (n : Nat) (c : Cx) (f : Nat → Cx) : cs n (fun i => c * f i) = c * cs n f := by
  induction n with
  | zero => show (0 : Cx) = c * 0; grind
  | succ n ih => rw [cs, cs, ih]; grind
theorem cs_mul' (n : Nat) (c : Cx) (f : Nat → Cx) : cs n (fun i => f i * c) = cs n f * c := by
  rw [Lean.Grind.CommSemiring.mul_comm, ← cs_mul]
  exact cs_congr fun i _ => Lean.Grind.CommSemiring.mul_comm _ _
theorem cs_zero (n : Nat) : cs n (fun _ => 0) = 0 := by
  induction n with
  | zero => rfl
  | succ n ih => rw [cs, ih]; grind
theorem cs_swap (n m : Nat) (f : Nat → Nat → Cx) : cs n (fun i => cs m fun j => f i j) = cs m fun j => cs n fun i => f i j := by
  induction n with
  | zero => exact (cs_zero m).symm
  | succ n ih => rw [cs, ih, ← cs_add]; rfl
theorem cs_single (n : Nat) (f : Nat → Cx) (j : Nat) (hj : j < n) (h : ∀ i, i < n → i ≠ j → f i = 0) : cs n f = f j := by
  induction n with
  | zero => omega
  | succ n ih =>
    rw [cs]
    by_cases e : j = n
    · subst e
      have : cs j f = 0 := (cs_congr fun i hi => h i (by omega) (by omega)).trans (cs_zero j)
      rw [this]
      grind
    · rw [ih (by omega) fun i hi he => h i (by omega) he, h n (by omega) (fun h => e h.symm)]
      grind
theorem cs_le {n : Nat} {f : Nat → Cx} {b : Rat} (h : ∀ i, i < n → Lc (f i) b) : Lc (cs n f) (n * b) := by
  induction n with
  | zero => exact Lc.zero.mono (by have : ((0 : Nat) : Rat) = 0 := rfl; grind)
  | succ n ih =>
    refine ((ih fun i hi => h i (by omega)).add (h n (by omega))).mono ?_
    rw [Rat.natCast_add]
    have : ((1 : Nat) : Rat) = 1 := rfl
    grind
theorem cs_near {n : Nat} {f g : Nat → Cx} {d : Rat} (h : ∀ i, i < n → Nc (f i) (g i) d) : Nc (cs n f) (cs n g) (n * d) := by
  unfold Nc
  rw [← cs_sub]
  exact cs_le h
theorem cs_halves (h : Nat) (f : Nat → Cx) : cs (2 * h) f = cs h (fun i => f (2 * i)) + cs h (fun i => f (2 * i + 1)) := by
  induction h with
  | zero => show (0 : Cx) = 0 + 0; grind
  | succ h ih =>
    show cs (2 * h + 1 + 1) f = _
    rw [cs, cs, cs, cs, ih]
    grind
theorem cs_split (n m : Nat) (f : Nat → Cx) : cs (n + m) f = cs n f + cs m (fun i => f (n + i)) := by
  induction m with
  | zero => show cs n f = cs n f + 0; grind
  | succ m ih =>
    show cs (n + m + 1) f = _
    rw [cs, cs, ih]
    grind
end Go.Proofs.YtijbjncdiojpdaaDoor
