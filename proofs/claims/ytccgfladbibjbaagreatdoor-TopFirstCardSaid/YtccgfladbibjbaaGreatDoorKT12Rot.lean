/- sharecoreref12.rotr, shr. -/
import Derived.Test.YtccgfladbibjbaaGreatDoorKG11
namespace Go.Proofs.YtccgfladbibjbaaGreatDoor
open Go.RowKit
attribute [local go_sem ↓] add_DD mul_DD mul_DL and_DD or_DD xor_DD notD_at shr_DL shl_DL shr_DN shl_DN quo_DL rem_DL
attribute [local go_sem] wrap32_B wrap8_D
def rI (x : BitVec 32) : Nat → BitVec 32
 | 0 => x
 | j + 1 => rI x j / 2#32 + rI x j % 2#32 * 2147483648#32
def sI (x : BitVec 32) : Nat → BitVec 32
 | 0 => x
 | j + 1 => sI x j / 2#32
theorem rot_num (x : BitVec 32) (n : Nat) (h : n ≤ 31) : (rotrW x n).toNat = x.toNat / 2 ^ n + x.toNat % 2 ^ n * 2 ^ (32 - n) := by
 have hx := x.isLt
 unfold rotrW
 have hd : (x <<< (32 - n)) &&& (x >>> n) = 0#32 := by
  apply BitVec.eq_of_getLsbD_eq
  intro i hi
  simp only [BitVec.getLsbD_and, BitVec.getLsbD_shiftLeft, BitVec.getLsbD_ushiftRight, BitVec.getLsbD_zero]
  by_cases h1 : i < 32 - n
  ·simp [h1]
  ·have : x.getLsbD (n + i) = false := BitVec.getLsbD_of_ge _ _ (by omega)
   simp [this]
 rw [← BitVec.add_eq_or_of_and_eq_zero _ _ hd, BitVec.toNat_add, BitVec.toNat_shiftLeft, BitVec.toNat_ushiftRight, Nat.shiftLeft_eq, Nat.shiftRight_eq_div_pow]
 have e : (2 : Nat) ^ 32 = 2 ^ n * 2 ^ (32 - n) := by rw [← Nat.pow_add]; congr 1; omega
 have e1 : x.toNat * 2 ^ (32 - n) % 2 ^ 32 = x.toNat % 2 ^ n * 2 ^ (32 - n) := by rw [e, Nat.mul_mod_mul_right]
 rw [e1]
 have h2 : 0 < 2 ^ n := Nat.pow_pos (by decide)
 have h3 : x.toNat % 2 ^ n < 2 ^ n := Nat.mod_lt _ h2
 have h4 : x.toNat / 2 ^ n < 2 ^ (32 - n) := by
  rw [Nat.div_lt_iff_lt_mul h2, Nat.mul_comm, ← e]
  exact hx
 have h5 : (x.toNat % 2 ^ n + 1) * 2 ^ (32 - n) ≤ 2 ^ n * 2 ^ (32 - n) := Nat.mul_le_mul_right _ h3
 rw [Nat.add_mul, Nat.one_mul, ← e] at h5
 rw [Nat.mod_eq_of_lt (by omega), Nat.add_comm]
theorem rI_rotr (x : BitVec 32) : ∀ n, n ≤ 31 → rI x n = rotrW x n
 | 0, _ => by
  apply BitVec.eq_of_toNat_eq
  rw [rot_num x 0 (by decide)]
  simp [rI, Nat.mod_one]
 | n + 1, h => by
  have hx := x.isLt
  rw [rI, rI_rotr x n (by omega)]
  apply BitVec.eq_of_toNat_eq
  rw [rot_num x (n + 1) h]
  have e := rot_num x n (by omega)
  have l := (rotrW x n).isLt
  rw [BitVec.toNat_add, BitVec.toNat_mul, BitVec.toNat_udiv, BitVec.toNat_umod, show (2#32).toNat = 2 from rfl, show (2147483648#32).toNat = 2147483648 from rfl]
  generalize (rotrW x n).toNat = y at *
  have hp : (2 : Nat) ^ (32 - n) = 2 * 2 ^ (32 - (n + 1)) := by rw [← Nat.pow_succ']; congr 1; omega
  have hq : (2 : Nat) ^ (n + 1) = 2 ^ n * 2 := Nat.pow_succ ..
  have h32 : 2 ^ n * 2 ^ (32 - (n + 1)) = 2147483648 := by rw [← Nat.pow_add, show n + (32 - (n + 1)) = 31 by omega]
  rw [hq, ← Nat.div_div_eq_div_mul, Nat.mod_mul]
  generalize x.toNat / 2 ^ n = a at *
  generalize x.toNat % 2 ^ n = b at *
  rw [hp] at e
  have e2 : (b + 2 ^ n * (a % 2)) * 2 ^ (32 - (n + 1)) = b * 2 ^ (32 - (n + 1)) + a % 2 * 2147483648 := by
   rw [Nat.add_mul, Nat.mul_right_comm, h32, Nat.mul_comm 2147483648]
  rw [e2]
  have e3 : b * (2 * 2 ^ (32 - (n + 1))) = 2 * (b * 2 ^ (32 - (n + 1))) := Nat.mul_left_comm ..
  rw [e3] at e
  generalize b * 2 ^ (32 - (n + 1)) = c at *
  have y2 : y % 2 = a % 2 := by omega
  have y3 : y / 2 = a / 2 + c := by omega
  have y4 : a / 2 + c < 2147483648 := by omega
  rw [y2, y3]
  clear e e2 e3 l y2 y3 h32 hq hp hx
  rcases Nat.mod_two_eq_zero_or_one a with h0 | h0 <;> rw [h0] <;> omega
theorem sI_shr (x : BitVec 32) : ∀ n, sI x n = x >>> n
 | 0 => by simp [sI]
 | n + 1 => by
  rw [sI, sI_shr x n]
  apply BitVec.eq_of_toNat_eq
  rw [BitVec.toNat_udiv, BitVec.toNat_ushiftRight, BitVec.toNat_ushiftRight, Nat.shiftRight_eq_div_pow, Nat.shiftRight_eq_div_pow, Nat.pow_succ, ← Nat.div_div_eq_div_mul]
  rfl
theorem refRotr (x : BitVec 32) (n : Nat) (hn : n ≤ 31) (w : World) : Calls Tryz.prog 96 #[.int .u32 (D x), .int .i64 n] w fun e w' => e = .returned (.int .u32 (D (rotrW x n))) ∧ w' = w := by
 rw [← rI_rotr x n hn]
 go_enter Tryz.func96, Tryz.ntmps96
 go_wp2
 go_loopw [0, 5] (fun xv iv W => ∃ j : Nat, j ≤ n ∧ xv = .int .u32 (D (rI x j)) ∧ iv = .int .i64 j ∧ W = w) (fun _ iv _ => n - (intOf iv).toNat)
 case atStart => exact ⟨0, by omega, rfl, rfl, rfl⟩
 case round =>
  obtain ⟨j, hj, rfl, rfl, rfl⟩ := hrel
  by_cases hlt : j < n
  ·have hlt' : (j : Int) < (n : Int) := by omega
   have HX := Lib.hid (show rI x (j + 1) = rI x j / 2#32 + rI x j % 2#32 * 2147483648#32 from rfl)
   generalize rI x j = y at *
   go_wp2
   go_roundw
   case rel => exact ⟨j + 1, by omega, by rw [HX.out], by go_num, trivial⟩
   case measure => (first | (simp [intOf]; done) | (simp [intOf]; omega))
  ·obtain rfl : j = n := by omega
   go_wp2
   go_ret
   exact ⟨rfl, rfl⟩
theorem refShr (x : BitVec 32) (n : Nat) (hn : n ≤ 31) (w : World) : Calls Tryz.prog 97 #[.int .u32 (D x), .int .i64 n] w fun e w' => e = .returned (.int .u32 (D (x >>> n))) ∧ w' = w := by
 rw [← sI_shr x n]
 go_enter Tryz.func97, Tryz.ntmps97
 go_wp2
 go_loopw [0, 5] (fun xv iv W => ∃ j : Nat, j ≤ n ∧ xv = .int .u32 (D (sI x j)) ∧ iv = .int .i64 j ∧ W = w) (fun _ iv _ => n - (intOf iv).toNat)
 case atStart => exact ⟨0, by omega, rfl, rfl, rfl⟩
 case round =>
  obtain ⟨j, hj, rfl, rfl, rfl⟩ := hrel
  by_cases hlt : j < n
  ·have hlt' : (j : Int) < (n : Int) := by omega
   have HX := Lib.hid (show sI x (j + 1) = sI x j / 2#32 from rfl)
   generalize sI x j = y at *
   go_wp2
   go_roundw
   case rel => exact ⟨j + 1, by omega, by rw [HX.out], by go_num, trivial⟩
   case measure => (first | (simp [intOf]; done) | (simp [intOf]; omega))
  ·obtain rfl : j = n := by omega
   go_wp2
   go_ret
   exact ⟨rfl, rfl⟩
theorem refRotrB (x : BitVec 32) (n : Nat) (hn : n ≤ 31) (w : World) : Calls Tryz.prog 96 #[.int .u32 (D x), .int .i64 n] w fun e w' => e = .returned (.int .u32 (D (rotrW x n))) ∧ Below w.heap.size w w' :=
 (refRotr x n hn w).mono fun _ _ h => ⟨h.1, by rw [h.2]; exact Below.refl _ _⟩
def rotZ (x : BitVec 32) (n : Int) : BitVec 32 := rotrW x n.toNat
theorem rotI (x : BitVec 32) (n : Int) (h0 : 0 ≤ n) (h : n ≤ 31) (w : World) : Calls Tryz.prog 96 #[.int .u32 (D x), .int .i64 n] w fun e w' => e = .returned (.int .u32 (D (rotZ x n))) ∧ Below w.heap.size w w' := by
 have := refRotrB x n.toNat (by omega) w
 rw [Int.toNat_of_nonneg h0] at this
 exact this
end Go.Proofs.YtccgfladbibjbaaGreatDoor
