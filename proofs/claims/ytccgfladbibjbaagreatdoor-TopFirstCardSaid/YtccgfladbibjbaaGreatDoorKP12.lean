/- The reference's rounds of SHA-256 are the program's. No program in sight. -/
import Derived.Test.YtccgfladbibjbaaGreatDoorKG14
namespace Go.Proofs.YtccgfladbibjbaaGreatDoor
open Go.RowKit
theorem ch_eq (e f g : BitVec 32) : e &&& f ^^^ ~~~e &&& g = g ^^^ e &&& (f ^^^ g) := by
 apply BitVec.eq_of_getLsbD_eq
 intro i hi
 simp only [BitVec.getLsbD_xor, BitVec.getLsbD_and, BitVec.getLsbD_not, hi, decide_true, Bool.true_and]
 cases e.getLsbD i <;> cases f.getLsbD i <;> cases g.getLsbD i <;> rfl
theorem maj_eq (a b c : BitVec 32) : a &&& b ^^^ a &&& c ^^^ b &&& c = a &&& b ||| (a ||| b) &&& c := by
 apply BitVec.eq_of_getLsbD_eq
 intro i hi
 simp only [BitVec.getLsbD_xor, BitVec.getLsbD_and, BitVec.getLsbD_or]
 cases a.getLsbD i <;> cases b.getLsbD i <;> cases c.getLsbD i <;> rfl
theorem shl8_or (x : BitVec 32) (y : BitVec 8) : x <<< 8 ||| y.setWidth 32 = x * 256#32 + y.setWidth 32 := by
 have hd : x <<< 8 &&& y.setWidth 32 = 0#32 := by
  apply BitVec.eq_of_getLsbD_eq
  intro i hi
  simp only [BitVec.getLsbD_and, BitVec.getLsbD_shiftLeft, BitVec.getLsbD_setWidth, BitVec.getLsbD_zero]
  by_cases h1 : i < 8
  ·simp [h1]
  ·have : y.getLsbD i = false := BitVec.getLsbD_of_ge _ _ (by omega)
   simp [this]
 rw [← BitVec.add_eq_or_of_and_eq_zero _ _ hd]
 congr 1
 apply BitVec.eq_of_toNat_eq
 rw [BitVec.toNat_shiftLeft, BitVec.toNat_mul, Nat.shiftLeft_eq]
 rfl
def rword (l : List (BitVec 8)) (t : Nat) : BitVec 32 :=
 (l[4 * t]?.getD 0#8).setWidth 32 * 16777216#32 + (l[4 * t + 1]?.getD 0#8).setWidth 32 * 65536#32 + (l[4 * t + 2]?.getD 0#8).setWidth 32 * 256#32 + (l[4 * t + 3]?.getD 0#8).setWidth 32
theorem rword_eq (l : List (BitVec 8)) (t : Nat) : rword l t = wordB l t 4 := by
 unfold rword
 simp only [wordB, shl8_or, Nat.add_zero]
 generalize (l[4 * t]?.getD 0#8).setWidth 32 = b0
 generalize (l[4 * t + 1]?.getD 0#8).setWidth 32 = b1
 generalize (l[4 * t + 2]?.getD 0#8).setWidth 32 = b2
 generalize (l[4 * t + 3]?.getD 0#8).setWidth 32 = b3
 grind
def rwN (l : List (BitVec 8)) (r : List (BitVec 32)) (t : Nat) : BitVec 32 := if t < 16 then rword l t else sg1 (dw r (t - 2)) + dw r (t - 7) + sg0 (dw r (t - 15)) + dw r (t - 16)
def rwL (l : List (BitVec 8)) : Nat → List (BitVec 32)
 | 0 => []
 | t + 1 => rwL l t ++ [rwN l (rwL l t) t]
theorem rwL_length (l : List (BitVec 8)) : ∀ t, (rwL l t).length = t
 | 0 => rfl
 | t + 1 => by rw [rwL, List.length_append, rwL_length l t]; rfl
theorem rwL_sch (l : List (BitVec 8)) : ∀ t, t ≤ 64 → ∀ k, k < t → dw (sch l t) k = dw (rwL l t) k
 | 0, _, k, h => by omega
 | t + 1, ht, k, h => by
  have ih := rwL_sch l t (by omega)
  have hw : (if t < 16 then wordB l t 4 else sg1 (dw (sch l t) (t - 2)) + dw (sch l t) (t - 7) + sg0 (dw (sch l t) (t - 15)) + dw (sch l t) (t - 16)) = rwN l (rwL l t) t := by
   unfold rwN
   by_cases h16 : t < 16
   ·rw [if_pos h16, if_pos h16, rword_eq]
   ·rw [if_neg h16, if_neg h16, ih (t - 2) (by omega), ih (t - 7) (by omega), ih (t - 15) (by omega), ih (t - 16) (by omega)]
  rw [sch, hw, rwL]
  unfold dw
  by_cases hk : k = t
  ·subst hk
   rw [List.getElem?_set_self (by rw [sch_length]; omega), List.getElem?_append_right (by rw [rwL_length]; omega), rwL_length, Nat.sub_self]
   rfl
  ·rw [List.getElem?_set_ne (by omega), List.getElem?_append_left (by rw [rwL_length]; omega)]
   exact ih k (by omega)
theorem rwL_all (l : List (BitVec 8)) : rwL l 64 = sch l 64 := by
 apply List.ext_getElem?
 intro k
 by_cases hk : k < 64
 ·have := rwL_sch l 64 (Nat.le_refl _) k hk
  unfold dw at this
  have a1 : k < (sch l 64).length := by rw [sch_length]; exact hk
  have a2 : k < (rwL l 64).length := by rw [rwL_length]; exact hk
  rw [List.getElem?_eq_getElem a1, List.getElem?_eq_getElem a2] at this
  rw [List.getElem?_eq_getElem a1, List.getElem?_eq_getElem a2]
  simp only [Option.getD_some] at this
  rw [this]
 ·rw [List.getElem?_eq_none (by rw [rwL_length]; omega), List.getElem?_eq_none (by rw [sch_length]; omega)]
theorem rt1_eq (a b c d e f g h k x : BitVec 32) : h + (rotrW e 6 ^^^ rotrW e 11 ^^^ rotrW e 25) + (e &&& f ^^^ ~~~e &&& g) + k + x = t1W ⟨a, b, c, d, e, f, g, h⟩ k x := by
 unfold t1W
 rw [ch_eq]
theorem rt2_eq (a b c d e f g h : BitVec 32) : (rotrW a 2 ^^^ rotrW a 13 ^^^ rotrW a 22) + (a &&& b ^^^ a &&& c ^^^ b &&& c) = t2W ⟨a, b, c, d, e, f, g, h⟩ := by
 unfold t2W
 rw [maj_eq]
end Go.Proofs.YtccgfladbibjbaaGreatDoor
