/- Laws of the product of two lists of integers. No program in sight. -/
import Derived.Test.YtijbjncdiojpdaaDoorFConv
import Derived.Test.YtijbjncdiojpdaaDoorWMult2
namespace Go.Proofs.YtijbjncdiojpdaaDoor
open Go

theorem sumI_congr {n : Nat} {f g : Nat → Int} (h : ∀ i, i < n → f i = g i) : sumI n f = sumI n g := by
  induction n with
  | zero => rfl
  | succ n ih => rw [sumI, sumI, ih fun i hi => h i (by omega), h n (by omega)]
theorem sumI_zero (n : Nat) : sumI n (fun _ => 0) = 0 := by
  induction n with
  | zero => rfl
  | succ n ih => rw [sumI, ih]; rfl
theorem sumI_add (n : Nat) (f g : Nat → Int) : sumI n (fun i => f i + g i) = sumI n f + sumI n g := by
  induction n with
  | zero => rfl
  | succ n ih => rw [sumI, sumI, sumI, ih]; omega
theorem sumI_swap (n m : Nat) (f : Nat → Nat → Int) : sumI n (fun i => sumI m fun j => f i j) = sumI m fun j => sumI n fun i => f i j := by
  induction n with
  | zero => exact (sumI_zero m).symm
  | succ n ih => rw [sumI, ih, ← sumI_add]; rfl
theorem sumI_single (n j : Nat) (f : Nat → Int) (h : ∀ i, i < n → i ≠ j → f i = 0) : sumI n f = if j < n then f j else 0 := by
  induction n with
  | zero => rfl
  | succ n ih =>
    rw [sumI, ih fun i hi => h i (by omega)]
    by_cases e : j = n
    · subst e
      rw [if_neg (by omega), if_pos (by omega)]
      omega
    · rw [h n (by omega) (fun h => e h.symm)]
      by_cases h1 : j < n
      · rw [if_pos h1, if_pos (by omega)]; omega
      · rw [if_neg h1, if_neg (by omega)]; rfl

theorem conv_delta (A B : Nat → Int) (la lb c : Nat) : convI A B la lb c = sumI la fun a => sumI lb fun b => if a + b = c then A a * B b else 0 := by
  unfold convI
  refine sumI_congr fun a _ => ?_
  rw [sumI_single lb (c - a)]
  · by_cases h : a ≤ c ∧ c - a < lb
    · rw [if_pos h, if_pos h.2, if_pos (by omega)]
    · rw [if_neg h]
      by_cases h2 : c - a < lb
      · rw [if_pos h2, if_neg (by omega)]
      · rw [if_neg h2]
  · intro b _ hb
    rw [if_neg (by omega)]
theorem conv_comm (A B : Nat → Int) (la lb c : Nat) : convI A B la lb c = convI B A lb la c := by
  rw [conv_delta, conv_delta, sumI_swap]
  refine sumI_congr fun b _ => ?_
  refine sumI_congr fun a _ => ?_
  rw [Nat.add_comm, Int.mul_comm]
theorem mulE_comm (A B : Nat → Int) (la lb : Nat) : mulE A B la lb = mulE B A lb la := by
  unfold mulE
  by_cases h1 : 64 < la ∨ 64 < lb
  · rw [if_pos h1, if_pos (or_comm.1 h1)]
  · rw [if_neg h1, if_neg (fun h => h1 (or_comm.1 h))]
    by_cases h2 : bad A la = true ∨ bad B lb = true
    · rw [if_pos h2, if_pos (or_comm.1 h2)]
    · rw [if_neg h2, if_neg (fun h => h2 (or_comm.1 h))]
theorem mulL_comm (A B : Nat → Int) (la lb : Nat) : mulL A B la lb = mulL B A lb la := by
  unfold mulL
  rw [mulE_comm]
  by_cases h : mulE B A lb la = 0 ∧ la ≠ 0 ∧ lb ≠ 0
  · rw [if_pos h, if_pos ⟨h.1, h.2.2, h.2.1⟩]; omega
  · rw [if_neg h, if_neg (fun h2 => h ⟨h2.1, h2.2.2, h2.2.1⟩)]

/-- The list 0, 1. -/
def E01 : Nat → Int := fun i => if i = 0 then 0 else 1
theorem E01_bad : bad E01 2 = false := by decide
theorem conv_shift (A : Nat → Int) (la c : Nat) (hc : c ≤ la) : convI A E01 la 2 c = if c = 0 then 0 else A (c - 1) := by
  unfold convI
  rw [sumI_single la (c - 1)]
  · by_cases h0 : c = 0
    · subst h0
      simp [E01]
    · rw [if_pos (by omega), if_pos (by omega), if_neg h0, show c - (c - 1) = 1 by omega]
      simp [E01]
  · intro i hi hne
    by_cases h : i ≤ c ∧ c - i < 2
    · rw [if_pos h, show c - i = 0 by omega]
      simp [E01]
    · rw [if_neg h]
theorem mulE_01 (A B : Nat → Int) (la : Nat) (h : mulE A B la 0 = 0) : mulE A E01 la 2 = 0 := by
  obtain ⟨h1, _, h2, _⟩ := mulE_zero h
  unfold mulE
  rw [if_neg (by omega), if_neg (by rw [h2, E01_bad]; simp)]
end Go.Proofs.YtijbjncdiojpdaaDoor
