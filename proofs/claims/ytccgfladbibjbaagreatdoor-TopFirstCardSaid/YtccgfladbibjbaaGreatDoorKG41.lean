/- sharecoreref12: isPrime, cubeAbove, squareAbove, root. -/
import Derived.Test.YtccgfladbibjbaaGreatDoorKT12Rot
import Derived.Test.YtccgfladbibjbaaGreatDoorKG14
import Derived.Test.YtccgfladbibjbaaGreatDoorKT12Block
import Derived.Test.YtccgfladbibjbaaGreatDoorKG18
import Derived.Test.YtccgfladbibjbaaGreatDoorKP12
import Derived.Test.YtccgfladbibjbaaGreatDoorKG34
namespace Go.Proofs.YtccgfladbibjbaaGreatDoor
open Go.RowKit
attribute [local go_sem ↓] add_UU sub_UU mul_UU add_UL add_LU sub_UL sub_LU mul_UL neg_at not_at and_UU or_UU xor_UU andNot_UU and_UL or_LU shr_UL shl_UL shr_UN shl_UN shl_LN quo_UL rem_UL quo_UU rem_UU
attribute [local go_sem] wrap64_N wrapi_mod wrap8_U wrap32_U wrap64_B wrap32_B wrap8_D wrapi_B wrap64_UU eq_UU ne_UU eq_UL ne_UL lt_UU le_UU
theorem mul_LU (x : BitVec 64) (n : Nat) : Op.intArith .mul .u64 (no_index (OfNat.ofNat n)) (U x) = pure (.int .u64 (U (BitVec.ofNat 64 n * x))) := by
 have := mul_UL x n
 rw [BitVec.mul_comm]
 rw [← this]
 simp only [Op.intArith, Int.mul_comm]
attribute [local go_sem ↓] mul_LU
theorem pos_U (z : BitVec 64) : decide ((0 : Int) < U z) = decide (0#64 < z) := decide_eq_decide.2 (by
 rw [BitVec.lt_def, show (0#64).toNat = 0 from rfl]
 show (0 : Int) < ((z.toNat : Nat) : Int) ↔ _
 omega)
def primeB (n : Nat) : Bool := (List.range 21).all (fun d => !(decide (2 ≤ d) && decide (d * d ≤ n) && decide (n % d = 0))) && decide (2 ≤ n)
theorem prime_no {n d : Nat} (h2 : 2 ≤ d) (hd : d * d ≤ n) (hn : n ≤ 400) (h : n % d = 0) : primeB n = false := by
 have hd20 : d ≤ 20 := by
  rcases Nat.lt_or_ge 20 d with h | h
  ·have := Nat.mul_le_mul h h; omega
  ·exact h
 unfold primeB
 rw [Bool.and_eq_false_iff]
 left
 rw [List.all_eq_false]
 exact ⟨d, List.mem_range.2 (by omega), by simp [h2, hd, h]⟩
theorem prime_yes {n d : Nat} (hd : ¬ d * d ≤ n) (h : ∀ j, 2 ≤ j → j < d → ¬ n % j = 0) : primeB n = decide (2 ≤ n) := by
 unfold primeB
 have : (List.range 21).all (fun d => !(decide (2 ≤ d) && decide (d * d ≤ n) && decide (n % d = 0))) = true := by
  rw [List.all_eq_true]
  intro j _
  by_cases h2 : 2 ≤ j
  ·by_cases h3 : j * j ≤ n
   ·have hj : j < d := by
     rcases Nat.lt_or_ge j d with h | h
     ·exact h
     ·have := Nat.mul_le_mul h h; omega
    simp [h2, h3, h j h2 hj]
   ·simp [h3]
  ·simp [h2]
 rw [this, Bool.true_and]
set_option maxRecDepth 20000 in
theorem refPrime (n : Nat) (hn : n ≤ 400) (w : World) : Calls Tryz.prog 94 #[.int .u64 (U (BitVec.ofNat 64 n))] w fun e w' => e = .returned (.bool (primeB n)) ∧ w' = w := by
 have HY := Lib.hid (fun d => @prime_yes n d)
 have HN := Lib.hid (fun d => @prime_no n d)
 have HNN := Lib.hid hn
 have HB := Lib.hid (show (BitVec.ofNat 64 n).toNat = n from by rw [BitVec.toNat_ofNat]; omega)
 obtain ⟨x, hx⟩ : ∃ x, BitVec.ofNat 64 n = x := ⟨_, rfl⟩
 rw [hx] at HB ⊢
 clear hx hn
 obtain ⟨r, hr⟩ : ∃ r, primeB n = r := ⟨_, rfl⟩
 have HR := Lib.hid hr
 rw [hr]
 clear hr
 go_enter Tryz.func94, Tryz.ntmps94
 go_wp2
 go_loopw [3] (fun dv W => ∃ d : BitVec 64, 2 ≤ d.toNat ∧ d.toNat ≤ 21 ∧ (∀ j, 2 ≤ j → j < d.toNat → ¬ n % j = 0) ∧ dv = .int .u64 (U d) ∧ W = w) (fun dv _ => match dv with | .int _ x => (30 - x).toNat | _ => 0)
 case atStart => exact ⟨2#64, by decide, by decide, fun j h1 h2 => by rw [show (2#64).toNat = 2 from rfl] at h2; omega, rfl, rfl⟩
 case round =>
  obtain ⟨d, h2, h21, hj, rfl, rfl⟩ := hrel
  have hdd : (d * d).toNat = d.toNat * d.toNat := by
   rw [BitVec.toNat_mul]
   have := Nat.mul_le_mul h21 h21
   omega
  have HD := Lib.hid (And.intro h2 (And.intro h21 (And.intro hj hdd)))
  have hne : d.toNat ≠ 0 := by omega
  by_cases hle : d * d ≤ x
  ·have d1 : decide (d * d ≤ x) = true := by simpa using hle
   have hle' : d.toNat * d.toNat ≤ n := by rw [BitVec.le_def, hdd, HB.out] at hle; exact hle
   by_cases hm : x % d = 0#64
   ·have d2 : (x % d == 0#64) = true := by simpa using hm
    have HF := Lib.hid (show r = false from by
     rw [← HR.out]
     refine HN.out _ h2 hle' HNN.out ?_
     have := congrArg BitVec.toNat hm
     rw [BitVec.toNat_umod, HB.out] at this
     exact this)
    clear hle hm h2 h21 hj hdd hle'
    go_wp2
    go_ret
    exact ⟨by first | (rw [HF.out]; done) | (rw [HF.out]; rfl), rfl⟩
   ·have d2 : (x % d == 0#64) = false := by simpa using hm
    have hd20 : d.toNat ≤ 20 := by
     rcases Nat.lt_or_ge 20 d.toNat with h | h
     ·have := Nat.mul_le_mul h h; have := HNN.out; omega
     ·exact h
    have HS := Lib.hid (show (d + 1#64).toNat = d.toNat + 1 ∧ ¬ n % d.toNat = 0 ∧ d.toNat ≤ 20 from ⟨by rw [BitVec.toNat_add, show (1#64).toNat = 1 from rfl]; omega, fun h => hm (BitVec.eq_of_toNat_eq (by rw [BitVec.toNat_umod, HB.out]; exact h)), hd20⟩)
    clear hle hm h2 h21 hj hdd hle' hd20
    go_wp2
    go_roundw
    case rel =>
     refine ⟨d + 1#64, by rw [HS.out.1]; have := HD.out.1; omega, by rw [HS.out.1]; have := HS.out.2.2; omega, fun j h1 h2 => ?_, rfl, trivial⟩
     rw [HS.out.1] at h2
     rcases Nat.lt_or_ge j d.toNat with h | h
     ·exact HD.out.2.2.1 j h1 h
     ·have : j = d.toNat := by omega
      rw [this]
      exact HS.out.2.1
    case measure =>
     have a1 := HS.out.1
     have a2 := HS.out.2.2
     show (30 - (((d + 1#64).toNat : Nat) : Int)).toNat < (30 - ((d.toNat : Nat) : Int)).toNat
     omega
  ·have d1 : decide (d * d ≤ x) = false := by simpa using hle
   have HF := Lib.hid (show r = decide (2 ≤ n) from by
    rw [← HR.out]
    exact HY.out d.toNat (by rw [BitVec.le_def, hdd, HB.out] at hle; exact hle) hj)
   have hge : (decide ((2 : Int) ≤ U x)) = decide (2 ≤ n) := decide_eq_decide.2 (by
    show (2 : Int) ≤ ((x.toNat : Nat) : Int) ↔ _
    rw [HB.out]
    omega)
   clear hle h2 h21 hj hdd
   go_wp2
   go_ret
   exact ⟨by first | (rw [HF.out, ← hge]; done) | (rw [HF.out, ← hge]; rfl), rfl⟩
def k1 (a b : BitVec 64) : BitVec 64 := 3#64 * a * b * b + b * b * b / 262144#64
def k2 (a b : BitVec 64) : BitVec 64 := 3#64 * a * a * b + k1 a b / 262144#64
def k3 (a b : BitVec 64) : BitVec 64 := a * a * a + k2 a b / 262144#64
def kr (a b : BitVec 64) : BitVec 64 := b * b * b % 262144#64 + k1 a b % 262144#64 + k2 a b % 262144#64
def cubeA (x n : BitVec 64) : Bool := decide (n * 4398046511104#64 < k3 (x / 262144#64) (x % 262144#64)) || (k3 (x / 262144#64) (x % 262144#64) == n * 4398046511104#64 && decide (0#64 < kr (x / 262144#64) (x % 262144#64)))
theorem refCube (x n : BitVec 64) (w : World) : Calls Tryz.prog 123 #[.int .u64 (U x), .int .u64 (U n)] w fun e w' => e = .returned (.bool (cubeA x n)) ∧ w' = w := by
 by_cases h1 : n * 4398046511104#64 < k3 (x / 262144#64) (x % 262144#64)
 ·have d1 := decide_eq_true h1
  have HC := Lib.hid (show cubeA x n = true from by unfold cubeA; rw [d1, Bool.true_or])
  unfold k3 k2 k1 at d1
  clear h1
  go_enter Tryz.func123, Tryz.ntmps123
  go_wp2
  go_ret
  exact ⟨by first | (rw [HC.out]; done) | (rw [HC.out]; rfl), rfl⟩
 ·have d1 := decide_eq_false h1
  by_cases h2 : k3 (x / 262144#64) (x % 262144#64) = n * 4398046511104#64
  ·have d2 : (k3 (x / 262144#64) (x % 262144#64) == n * 4398046511104#64) = true := by simpa using h2
   have HC := Lib.hid (show cubeA x n = decide (0#64 < kr (x / 262144#64) (x % 262144#64)) from by unfold cubeA; rw [d1, d2, Bool.false_or, Bool.true_and])
   unfold k3 k2 k1 at d1 d2
   rw [← pos_U] at HC
   unfold kr k2 k1 at HC
   clear h1 h2
   go_enter Tryz.func123, Tryz.ntmps123
   go_wp2
   go_ret
   exact ⟨by first | (rw [HC.out]; done) | (rw [HC.out]; rfl), rfl⟩
  ·have d2 : (k3 (x / 262144#64) (x % 262144#64) == n * 4398046511104#64) = false := by simpa using h2
   have HC := Lib.hid (show cubeA x n = false from by unfold cubeA; rw [d1, d2, Bool.false_or, Bool.false_and])
   unfold k3 k2 k1 at d1 d2
   clear h1 h2
   go_enter Tryz.func123, Tryz.ntmps123
   go_wp2
   go_ret
   exact ⟨by first | (rw [HC.out]; done) | (rw [HC.out]; rfl), rfl⟩
def sLow (b : BitVec 64) : BitVec 64 := b * b
def sMid (a b : BitVec 64) : BitVec 64 := 2#64 * a * b % 4294967296#64 * 4294967296#64
def sHigh (a b : BitVec 64) : BitVec 64 := if b * b + 2#64 * a * b % 4294967296#64 * 4294967296#64 < b * b then a * a + 2#64 * a * b / 4294967296#64 + 1#64 else a * a + 2#64 * a * b / 4294967296#64
def sqA (x n : BitVec 64) : Bool := decide (n < sHigh (x / 4294967296#64) (x % 4294967296#64)) || (sHigh (x / 4294967296#64) (x % 4294967296#64) == n && decide (0#64 < sLow (x % 4294967296#64) + sMid (x / 4294967296#64) (x % 4294967296#64)))
theorem refSquare (x n : BitVec 64) (w : World) : Calls Tryz.prog 124 #[.int .u64 (U x), .int .u64 (U n)] w fun e w' => e = .returned (.bool (sqA x n)) ∧ w' = w := by
 by_cases h0 : (x % 4294967296#64) * (x % 4294967296#64) + 2#64 * (x / 4294967296#64) * (x % 4294967296#64) % 4294967296#64 * 4294967296#64 < (x % 4294967296#64) * (x % 4294967296#64)
 ·have e0 : sHigh (x / 4294967296#64) (x % 4294967296#64) = x / 4294967296#64 * (x / 4294967296#64) + 2#64 * (x / 4294967296#64) * (x % 4294967296#64) / 4294967296#64 + 1#64 := if_pos h0
  have d0 := decide_eq_true h0
  by_cases h1 : n < sHigh (x / 4294967296#64) (x % 4294967296#64)
  ·have d1 := decide_eq_true h1
   have HC := Lib.hid (show sqA x n = true from by unfold sqA; rw [d1, Bool.true_or])
   rw [e0] at d1
   clear h1 h0 e0
   go_enter Tryz.func124, Tryz.ntmps124
   go_wp2
   go_ret
   exact ⟨by first | (rw [HC.out]; done) | (rw [HC.out]; rfl), rfl⟩
  ·have d1 := decide_eq_false h1
   by_cases h2 : sHigh (x / 4294967296#64) (x % 4294967296#64) = n
   ·have d2 : (sHigh (x / 4294967296#64) (x % 4294967296#64) == n) = true := by simpa using h2
    have HC := Lib.hid (show sqA x n = decide (0#64 < sLow (x % 4294967296#64) + sMid (x / 4294967296#64) (x % 4294967296#64)) from by unfold sqA; rw [d1, d2, Bool.false_or, Bool.true_and])
    rw [e0] at d1 d2
    rw [← pos_U] at HC
    unfold sLow sMid at HC
    clear h1 h2 h0 e0
    go_enter Tryz.func124, Tryz.ntmps124
    go_wp2
    go_ret
    exact ⟨by first | (rw [HC.out]; done) | (rw [HC.out]; rfl), rfl⟩
   ·have d2 : (sHigh (x / 4294967296#64) (x % 4294967296#64) == n) = false := by simpa using h2
    have HC := Lib.hid (show sqA x n = false from by unfold sqA; rw [d1, d2, Bool.false_or, Bool.false_and])
    rw [e0] at d1 d2
    clear h1 h2 h0 e0
    go_enter Tryz.func124, Tryz.ntmps124
    go_wp2
    go_ret
    exact ⟨by first | (rw [HC.out]; done) | (rw [HC.out]; rfl), rfl⟩
 ·have e0 : sHigh (x / 4294967296#64) (x % 4294967296#64) = x / 4294967296#64 * (x / 4294967296#64) + 2#64 * (x / 4294967296#64) * (x % 4294967296#64) / 4294967296#64 := if_neg h0
  have d0 := decide_eq_false h0
  by_cases h1 : n < sHigh (x / 4294967296#64) (x % 4294967296#64)
  ·have d1 := decide_eq_true h1
   have HC := Lib.hid (show sqA x n = true from by unfold sqA; rw [d1, Bool.true_or])
   rw [e0] at d1
   clear h1 h0 e0
   go_enter Tryz.func124, Tryz.ntmps124
   go_wp2
   go_ret
   exact ⟨by first | (rw [HC.out]; done) | (rw [HC.out]; rfl), rfl⟩
  ·have d1 := decide_eq_false h1
   by_cases h2 : sHigh (x / 4294967296#64) (x % 4294967296#64) = n
   ·have d2 : (sHigh (x / 4294967296#64) (x % 4294967296#64) == n) = true := by simpa using h2
    have HC := Lib.hid (show sqA x n = decide (0#64 < sLow (x % 4294967296#64) + sMid (x / 4294967296#64) (x % 4294967296#64)) from by unfold sqA; rw [d1, d2, Bool.false_or, Bool.true_and])
    rw [e0] at d1 d2
    rw [← pos_U] at HC
    unfold sLow sMid at HC
    clear h1 h2 h0 e0
    go_enter Tryz.func124, Tryz.ntmps124
    go_wp2
    go_ret
    exact ⟨by first | (rw [HC.out]; done) | (rw [HC.out]; rfl), rfl⟩
   ·have d2 : (sHigh (x / 4294967296#64) (x % 4294967296#64) == n) = false := by simpa using h2
    have HC := Lib.hid (show sqA x n = false from by unfold sqA; rw [d1, d2, Bool.false_or, Bool.false_and])
    rw [e0] at d1 d2
    clear h1 h2 h0 e0
    go_enter Tryz.func124, Tryz.ntmps124
    go_wp2
    go_ret
    exact ⟨by first | (rw [HC.out]; done) | (rw [HC.out]; rfl), rfl⟩
theorem halves {b : BitVec 64} (h : 0#64 < b) : (U (b / 2#64)).toNat < (U b).toNat := by
 rw [BitVec.lt_def] at h
 show (((b / 2#64).toNat : Nat) : Int).toNat < ((b.toNat : Nat) : Int).toNat
 rw [BitVec.toNat_udiv, show (2#64).toNat = 2 from rfl]
 rw [show (0#64).toNat = 0 from rfl] at h
 omega
def bT : Nat → BitVec 64
 | 0 => 68719476736#64
 | j + 1 => bT j / 2#64
def rStep (n : BitVec 64) (cube : Bool) (b x : BitVec 64) : BitVec 64 := if (if cube then cubeA (x + b) n else sqA (x + b) n) then x else x + b
def rT (n : BitVec 64) (cube : Bool) : Nat → BitVec 64
 | 0 => 0#64
 | j + 1 => rStep n cube (bT j) (rT n cube j)
def rootD (n : BitVec 64) (cube : Bool) : BitVec 32 := (rT n cube 37 % 4294967296#64).setWidth 32
theorem bT_pos : ∀ j, j < 37 → (decide ((0 : Int) < U (bT j))) = true := by decide
theorem bT_end : bT 37 = 0#64 := by decide
set_option maxRecDepth 20000 in
theorem refRoot (n : BitVec 64) (cube : Bool) (w : World) : Calls Tryz.prog 95 #[.int .u64 (U n), .bool cube] w fun e w' => e = .returned (.int .u32 (D (rootD n cube))) ∧ w' = w := by
 have HC := Lib.hid (fun x W => refCube x n W)
 have HQ := Lib.hid (fun x W => refSquare x n W)
 cases cube with
 | true =>
  go_enter Tryz.func95, Tryz.ntmps95
  go_wp2
  go_loopw [5, 6] (fun xv bv W => ∃ j : Nat, j ≤ 37 ∧ xv = .int .u64 (U (rT n true j)) ∧ bv = .int .u64 (U (bT j)) ∧ W = w) (fun _ bv _ => match bv with | .int _ x => x.toNat | _ => 0)
  case atStart => exact ⟨0, by omega, rfl, rfl, rfl⟩
  case round =>
   obtain ⟨j, hj, rfl, rfl, rfl⟩ := hrel
   by_cases hlt : j < 37
   ·have d1 := bT_pos j hlt
    have HE := Lib.hid (show rT n true (j + 1) = rStep n true (bT j) (rT n true j) ∧ bT (j + 1) = bT j / 2#64 ∧ 0#64 < bT j from ⟨rfl, rfl, of_decide_eq_true ((pos_U _).symm.trans d1)⟩)
    generalize rT n true j = x at *
    generalize bT j = b at *
    go_wp2_with fail
    refine (HC.out _ _).mono ?_
    rintro e wr ⟨rfl, rfl⟩
    cases hc : cubeA (x + b) n with
    | true =>
     have HX := Lib.hid (show rT n true (j + 1) = x from by rw [HE.out.1]; simp [rStep, hc])
     clear hc
     go_wp2
     go_roundw
     case rel => exact ⟨j + 1, by omega, by rw [HX.out], by rw [HE.out.2.1], trivial⟩
     case measure => exact halves HE.out.2.2
    | false =>
     have HX := Lib.hid (show rT n true (j + 1) = x + b from by rw [HE.out.1]; simp [rStep, hc])
     clear hc
     go_wp2
     go_roundw
     case rel => exact ⟨j + 1, by omega, by rw [HX.out], by rw [HE.out.2.1], trivial⟩
     case measure => exact halves HE.out.2.2
   ·obtain rfl : j = 37 := by omega
    rw [bT_end]
    have HD := Lib.hid (show rootD n true = (rT n true 37 % 4294967296#64).setWidth 32 from rfl)
    generalize rT n true 37 = x at *
    go_wp2
    go_ret
    exact ⟨by first | (rw [HD.out]; done) | (rw [HD.out]; rfl), rfl⟩
 | false =>
  go_enter Tryz.func95, Tryz.ntmps95
  go_wp2
  go_loopw [5, 6] (fun xv bv W => ∃ j : Nat, j ≤ 37 ∧ xv = .int .u64 (U (rT n false j)) ∧ bv = .int .u64 (U (bT j)) ∧ W = w) (fun _ bv _ => match bv with | .int _ x => x.toNat | _ => 0)
  case atStart => exact ⟨0, by omega, rfl, rfl, rfl⟩
  case round =>
   obtain ⟨j, hj, rfl, rfl, rfl⟩ := hrel
   by_cases hlt : j < 37
   ·have d1 := bT_pos j hlt
    have HE := Lib.hid (show rT n false (j + 1) = rStep n false (bT j) (rT n false j) ∧ bT (j + 1) = bT j / 2#64 ∧ 0#64 < bT j from ⟨rfl, rfl, of_decide_eq_true ((pos_U _).symm.trans d1)⟩)
    generalize rT n false j = x at *
    generalize bT j = b at *
    go_wp2_with fail
    refine (HQ.out _ _).mono ?_
    rintro e wr ⟨rfl, rfl⟩
    cases hc : sqA (x + b) n with
    | true =>
     have HX := Lib.hid (show rT n false (j + 1) = x from by rw [HE.out.1]; simp [rStep, hc])
     clear hc
     go_wp2
     go_roundw
     case rel => exact ⟨j + 1, by omega, by rw [HX.out], by rw [HE.out.2.1], trivial⟩
     case measure => exact halves HE.out.2.2
    | false =>
     have HX := Lib.hid (show rT n false (j + 1) = x + b from by rw [HE.out.1]; simp [rStep, hc])
     clear hc
     go_wp2
     go_roundw
     case rel => exact ⟨j + 1, by omega, by rw [HX.out], by rw [HE.out.2.1], trivial⟩
     case measure => exact halves HE.out.2.2
   ·obtain rfl : j = 37 := by omega
    rw [bT_end]
    have HD := Lib.hid (show rootD n false = (rT n false 37 % 4294967296#64).setWidth 32 from rfl)
    generalize rT n false 37 = x at *
    go_wp2
    go_ret
    exact ⟨by first | (rw [HD.out]; done) | (rw [HD.out]; rfl), rfl⟩
end Go.Proofs.YtccgfladbibjbaaGreatDoor
namespace Go.Proofs.YtccgfladbibjbaaGreatDoor
open Go.RowKit
attribute [local go_sem ↓] add_UU sub_UU mul_UU add_UL add_LU sub_UL sub_LU mul_UL neg_at not_at and_UU or_UU xor_UU andNot_UU and_UL or_LU shr_UL shl_UL shr_UN shl_UN shl_LN quo_UL rem_UL quo_UU rem_UU
attribute [local go_sem] wrap64_N wrapi_mod wrap8_U wrap32_U wrap64_B wrap32_B wrap8_D wrapi_B wrap64_UU eq_UU ne_UU eq_UL ne_UL lt_UU le_UU
def cL (cube : Bool) : Nat → List (BitVec 32)
 | 0 => []
 | j + 1 => if primeB (j + 2) then cL cube j ++ [rootD (BitVec.ofNat 64 (j + 2)) cube] else cL cube j
theorem cL_pre (cube : Bool) (j : Nat) : ∀ d, ∃ r, cL cube (j + d) = cL cube j ++ r
 | 0 => ⟨[], by simp⟩
 | d + 1 => by
  obtain ⟨r, hr⟩ := cL_pre cube j d
  rw [← Nat.add_assoc, cL, hr]
  split
  ·exact ⟨r ++ [_], by rw [List.append_assoc]⟩
  ·exact ⟨r, rfl⟩
theorem cL_take (cube : Bool) {j : Nat} (h : j ≤ 310) : cL cube j = (cL cube 310).take (cL cube j).length := by
 obtain ⟨r, hr⟩ := cL_pre cube j (310 - j)
 rw [show j + (310 - j) = 310 by omega] at hr
 rw [hr, List.take_left]
theorem next_k (j : Nat) : BitVec.ofNat 64 (j + 2) + 1#64 = BitVec.ofNat 64 (j + 1 + 2) := by
 apply BitVec.eq_of_toNat_eq
 simp only [BitVec.toNat_add, BitVec.toNat_ofNat]
 omega
structure CoI2 (w : World) (n : Nat) (cube : Bool) (v : Value) (j : Nat) (W : World) : Prop where
 J : j ≤ 310
 N : (cL cube j).length ≤ n
 O : OwnD W w.heap.size v (cL cube j)
 L : Below w.heap.size w W
set_option maxRecDepth 20000 in
set_option maxHeartbeats 1000000 in
theorem refConsts (n : Nat) (cube : Bool) (h64 : n ≤ 64) (hfull : n ≤ (cL cube 310).length) (w : World) :
  Calls Tryz.prog 64 #[.int .i64 n, .bool cube] w fun e w' => ∃ A c, e = .returned (.slice A n c) ∧ Sees w' A (dVals ((cL cube 310).take n)) ∧ Below w.heap.size w w' := by
 obtain ⟨i0, hi0, ia0, ia1, ia2⟩ := info_parts info_D
 have HF := Lib.hid (And.intro hfull h64)
 clear hfull h64
 go_enter Tryz.func64, Tryz.ntmps64
 go_wp2
 go_loopw [5, 6] (fun v kv W => ∃ j : Nat, kv = .int .u64 (U (BitVec.ofNat 64 (j + 2))) ∧ CoI2 w n cube v j W) (fun _ kv _ => match kv with | .int _ x => (400 - x).toNat | _ => 0)
 case atStart => exact ⟨0, rfl, ⟨by omega, Nat.zero_le _, ownD_nil _ _, Below.refl _ _⟩⟩
 case round =>
  obtain ⟨j, rfl, hI⟩ := hrel
  obtain ⟨A, c, rfl, hc, hs, -⟩ := hI.O.open
  by_cases hlt : (cL cube j).length < n
  ·have hlt' : ((cL cube j).length : Int) < (n : Int) := by omega
   have hj : j < 310 := by
    rcases Nat.lt_or_ge j 310 with h | h
    ·exact h
    ·have := hI.J
     obtain rfl : j = 310 := by omega
     have := HF.out
     omega
   have HI := Lib.hid hI
   have HK := Lib.hid (next_k j)
   have HM := Lib.hid (show (400 - U (BitVec.ofNat 64 (j + 1 + 2))).toNat < (400 - U (BitVec.ofNat 64 (j + 2))).toNat from by
    show (400 - (((BitVec.ofNat 64 (j + 1 + 2)).toNat : Nat) : Int)).toNat < (400 - (((BitVec.ofNat 64 (j + 2)).toNat : Nat) : Int)).toNat
    rw [BitVec.toNat_ofNat, BitVec.toNat_ofNat]
    omega)
   have HP := Lib.hid (refPrime (j + 2) (by omega) wr)
   have HR := Lib.hid (fun W => refRoot (BitVec.ofNat 64 (j + 2)) cube W)
   have HE := Lib.hid (show cL cube (j + 1) = if primeB (j + 2) then cL cube j ++ [rootD (BitVec.ofNat 64 (j + 2)) cube] else cL cube j from rfl)
   clear hI hs
   generalize BitVec.ofNat 64 (j + 2) = kx at *
   go_wp2_with fail
   refine HP.out.mono ?_
   rintro e w1 ⟨rfl, rfl⟩
   cases hp : primeB (j + 2) with
   | true =>
    rw [hp, if_pos rfl] at HE
    clear hp HP
    go_wp2_with fail
    refine (HR.out _).mono ?_
    rintro e wr ⟨rfl, rfl⟩
    generalize rootD kx cube = z at *
    obtain ⟨l, hl⟩ : ∃ l, cL cube j = l := ⟨_, rfl⟩
    obtain ⟨m, hm⟩ : ∃ m, l.length = m := ⟨_, rfl⟩
    rw [hl, hm] at hlt hlt' hc ⊢
    rw [hl] at HE
    have HO := Lib.hid (show OwnD wr w.heap.size (.slice A m c) l from by have := HI.out.O; rwa [hl, hm] at this)
    have HMm := Lib.hid (And.intro hm hlt)
    obtain ⟨w3, hw3⟩ : ∃ w3, w3 = wr.alloc (.cells #[.int .u32 (D z)] 116) := ⟨_, rfl⟩
    have hb3 : Below wr.heap.size wr w3 := by rw [hw3]; exact (Below.refl _ wr).alloc (Nat.le_refl _) _
    have hS3 : Sees w3 (some ⟨wr.heap.size, 0, none⟩) (dVals [z]) := by rw [hw3]; exact seesD_of (heap_alloc_new wr (.cells (dVals [z]).toArray 116))
    have HL3 := Lib.hid (And.intro (HI.out.L.trans (hb3.mono HI.out.L.size)) (And.intro hS3 (HO.out.below hb3)))
    have hz3 : w.heap.size ≤ w3.heap.size := HL3.out.1.size
    have hm64 : m ≤ 64 := by have := HF.out; omega
    clear hb3 hS3 hl hm
    go_wp2_with (at_builtin; rw [← hw3]; refine wpList_append_sees rfl (.tmp 15) (.tmp 19) 113 rfl w.heap.size 116 i0 _ 1 4 Tryz.underlying113 hi0 ia0 ia1 ia2 rfl (by decide) (.slice A m c) m (dVals l) rfl ?c1 (some ⟨wr.heap.size, 0, none⟩) 1 1 (dVals [z]) rfl rfl HL3.out.2.1 (dVals_one _) (by unfold maxLen; omega) (by omega) hz3 ?_)
    case c1 =>
     have := HL3.out.2.2
     unfold OwnD at this
     rwa [HMm.out.1] at this
    intro v' w4 hown hg _
    rw [← hw3] at hg
    have HN := Lib.hid (show CoI2 w n cube v' (j + 1) w4 from ⟨hj, by rw [HE.out, List.length_append, HMm.out.1]; exact HMm.out.2, by rw [HE.out]; exact OwnD.grew HMm.out.1 hown, HL3.out.1.grown hg HL3.out.1.size (fun q e => by have := (HL3.out.2.2.lt q e).1; omega)⟩)
    clear hown hg HL3 HO hw3
    go_wp2
    go_roundw
    case rel => exact ⟨j + 1, by rw [HK.out], HN.out⟩
    case measure =>
     have := HM.out
     rw [← HK.out] at this
     exact this
   | false =>
    have HE' := Lib.hid (show cL cube (j + 1) = cL cube j from by have := HE.out; rwa [hp, if_neg (by decide)] at this)
    clear hp HP HE
    have HN := Lib.hid (show CoI2 w n cube (.slice A (cL cube j).length c) (j + 1) w1 from ⟨hj, by rw [HE'.out]; exact HI.out.N, by rw [HE'.out]; exact HI.out.O, HI.out.L⟩)
    go_wp2
    go_roundw
    case rel => exact ⟨j + 1, by rw [HK.out], HN.out⟩
    case measure =>
     have := HM.out
     rw [← HK.out] at this
     exact this
  ·have hn : (cL cube j).length = n := by have := hI.N; omega
   have hlt' : ¬ ((cL cube j).length : Int) < (n : Int) := by omega
   have HT := Lib.hid (show cL cube j = (cL cube 310).take n from by rw [cL_take cube hI.J, hn])
   have HS := Lib.hid (And.intro hs hI.L)
   rw [hn] at hlt' ⊢
   clear hs hI hc hlt
   go_wp2
   go_ret
   exact ⟨A, ⟨c, rfl⟩, by rw [← HT.out]; exact HS.out.1, HS.out.2⟩
theorem cTrue : (cL true 310).take 64 = kL ∧ (cL true 310).length = 64 := by constructor <;> kernel_rfl
theorem cFalse : (cL false 310).take 8 = S8.list ⟨1779033703#32, 3144134277#32, 1013904242#32, 2773480762#32, 1359893119#32, 2600822924#32, 528734635#32, 1541459225#32⟩ ∧ (cL false 310).length = 64 := by constructor <;> kernel_rfl
end Go.Proofs.YtccgfladbibjbaaGreatDoor
namespace Go.Proofs.YtccgfladbibjbaaGreatDoor
open Go.RowKit
def nnT (x : BitVec 64) : Nat → BitVec 64
 | 0 => x * 8#64
 | j + 1 => nnT x j / 256#64
theorem nnT_eq (x : BitVec 64) : ∀ j, nnT x j = x <<< 3 >>> (8 * j)
 | 0 => by
  apply BitVec.eq_of_toNat_eq
  simp only [nnT, Nat.mul_zero, BitVec.toNat_ushiftRight, Nat.shiftRight_zero, BitVec.toNat_shiftLeft, Nat.shiftLeft_eq, BitVec.toNat_mul]
  rfl
 | j + 1 => by
  rw [nnT, nnT_eq x j]
  apply BitVec.eq_of_toNat_eq
  rw [BitVec.toNat_udiv, BitVec.toNat_ushiftRight, BitVec.toNat_ushiftRight, Nat.shiftRight_eq_div_pow, Nat.shiftRight_eq_div_pow, Nat.mul_add, Nat.pow_add, ← Nat.div_div_eq_div_mul]
  rfl
theorem byte_mod (x : BitVec 64) : (x % 256#64).setWidth 8 = x.setWidth 8 := by
 apply BitVec.eq_of_toNat_eq
 rw [BitVec.toNat_setWidth, BitVec.toNat_setWidth, BitVec.toNat_umod, show (256#64).toNat = 256 from rfl]
 omega
theorem word_mod (x : BitVec 32) : (x % 256#32).setWidth 8 = x.setWidth 8 := by
 apply BitVec.eq_of_toNat_eq
 rw [BitVec.toNat_setWidth, BitVec.toNat_setWidth, BitVec.toNat_umod, show (256#32).toNat = 256 from rfl]
 omega
def dvT (x : BitVec 32) : Nat → BitVec 32
 | 0 => x
 | q + 1 => dvT x q / 256#32
theorem dvT_eq (x : BitVec 32) : ∀ q, dvT x q = x >>> (8 * q)
 | 0 => by simp [dvT]
 | q + 1 => by
  rw [dvT, dvT_eq x q]
  apply BitVec.eq_of_toNat_eq
  rw [BitVec.toNat_udiv, BitVec.toNat_ushiftRight, BitVec.toNat_ushiftRight, Nat.shiftRight_eq_div_pow, Nat.shiftRight_eq_div_pow, Nat.mul_add, Nat.pow_add, ← Nat.div_div_eq_div_mul]
  rfl
theorem out_byte (s : S8) (i : Nat) : (dvT (dw s.list (i / 4)) (3 - i % 4) % 256#32).setWidth 8 = outB s i := by
 rw [word_mod, dvT_eq]
 unfold outB
 rw [show 8 * (3 - i % 4) = 24 - 8 * (i % 4) by omega]
def TB (m : Nat) : Nat → List (BitVec 8)
 | 0 => List.replicate 8 0#8
 | j + 1 => (TB m j).set (7 - j) ((nnT (BitVec.ofNat 64 m) j % 256#64).setWidth 8)
theorem TB_length (m : Nat) : ∀ j, (TB m j).length = 8
 | 0 => rfl
 | j + 1 => by rw [TB, List.length_set, TB_length]
theorem tailT_eq (m z : Nat) : ∀ i, i ≤ 8 → tailT m z i = [128#8] ++ List.replicate z 0#8 ++ TB m i
 | 0, _ => by
  rw [tailT, TB, show 1 + z + 8 = (z + 8) + 1 by omega, List.replicate_succ, List.set_cons_zero, List.append_assoc, List.replicate_append_replicate]
  rfl
 | i + 1, h => by
  rw [tailT, TB, tailT_eq m z i (by omega), byte_mod, nnT_eq, List.set_append_right _ _ (by simp; omega)]
  congr 2
  simp
  omega
def padL (l : List (BitVec 8)) : List (BitVec 8) := l ++ [128#8] ++ List.replicate ((119 - l.length % 64) % 64) 0#8 ++ TB l.length 8
theorem padL_eq (l : List (BitVec 8)) : padL l = l ++ tailL l.length (l.length % 64) := by
 unfold padL tailL
 rw [tailT_eq _ _ 8 (Nat.le_refl _)]
 simp only [List.append_assoc]
theorem padL_length (l : List (BitVec 8)) : (padL l).length = l.length + 1 + (119 - l.length % 64) % 64 + 8 := by
 unfold padL
 simp only [List.length_append, List.length_replicate, TB_length, List.length_singleton]
theorem feed_same (s : S8) (l t : List (BitVec 8)) : ∀ k, 64 * k ≤ l.length → feedS s (l ++ t) k = feedS s l k
 | 0, _ => rfl
 | k + 1, h => by
  rw [feedS, feedS, feed_same s l t k (by omega), List.drop_append_of_le_length (by omega), List.take_append_of_le_length (by rw [List.length_drop]; omega)]
theorem feed_on (s : S8) (l t : List (BitVec 8)) (q : Nat) (hq : 64 * q ≤ l.length) : ∀ k, feedS (feedS s l q) (l.drop (64 * q) ++ t) k = feedS s (l ++ t) (q + k)
 | 0 => by rw [feedS, Nat.add_zero, feed_same s l t q hq]
 | k + 1 => by
  rw [feedS, feed_on s l t q hq k, ← Nat.add_assoc, feedS, ← List.drop_append_of_le_length hq, List.drop_drop, show 64 * q + 64 * k = 64 * (q + k) by omega]
theorem sumL_pad (l : List (BitVec 8)) : sumL l = outL (feedS s0 (padL l) ((padL l).length / 64)) := by
 unfold sumL sumH
 have hq : 64 * (l.length / 64) ≤ l.length := by omega
 rw [feed_on s0 l _ _ hq, List.length_drop, show l.length - 64 * (l.length / 64) = l.length % 64 by omega, padL_eq]
 congr 2
 rw [List.length_append, List.length_append, List.length_drop]
 omega
end Go.Proofs.YtccgfladbibjbaaGreatDoor
namespace Go.Proofs.YtccgfladbibjbaaGreatDoor
open Go.RowKit
attribute [local go_sem ↓] add_UU sub_UU mul_UU add_UL add_LU sub_UL sub_LU mul_UL neg_at not_at and_UU or_UU xor_UU andNot_UU and_UL or_LU shr_UL shl_UL shr_UN shl_UN shl_LN quo_UL rem_UL quo_UU rem_UU
attribute [local go_sem] wrap64_N wrapi_mod wrap8_U wrap32_U wrap64_B wrap32_B wrap8_D wrapi_B wrap64_UU eq_UU ne_UU eq_UL ne_UL lt_UU le_UU
attribute [local go_sem ↓] add_DD mul_DD mul_DL and_DD or_DD xor_DD notD_at shr_DL shl_DL shr_DN shl_DN quo_DL rem_DL
attribute [local go_sem] wrap32_B wrap8_D
attribute [local simp] putAgg_size
attribute [local go_sem ↓] loadVar_F loadVar_E loadVar_V loadVar_B32 storeVar_F storeVar_E storeVar_V storeVar_B32 box_F box_E box_V box_B32
attribute [local go_sem ↓ high] V4.cells_val FP.cells_val
attribute [local go_sem] run_loadF run_loadE run_loadV run_loadB32 run_storeF run_storeE run_storeV run_storeB32 run_boxA aggAt_drew aggAt_drewN aggAt_alloc_new aggAt_alloc_past aggAt_setCell_other aggAt_putAgg_other aggAt_putAgg_new putAgg_drew putAgg_size putAgg_alloc_new putAgg_alloc_past putAgg_cell_other putAgg_frozen_other V4.agg_arr FP.agg_arr V4.size_arr FP.size_arr V4.fits FP.fits fitsA_agg4 lt_2 ne_2 en_2 lt_3 ne_3 en_3 lt_4 ne_4 en_4 lt_5 ne_5 en_5 lt_6 ne_6 en_6
attribute [local go_sem ↓] loadVar_W loadVar_S storeVar_W storeVar_S box_S
attribute [local go_sem ↓ high] dval_cells
attribute [local go_sem] run_loadW run_loadS run_storeW run_storeS agg_words dVals_size dVals_length
attribute [local go_sem ↓ high] bval_cells
attribute [local go_sem ↓] shr8
attribute [local go_sem] agg_bytes byteVals_size byteVals_length
theorem OwnB.more {w : World} {base : Nat} {v : Value} {l t : List (BitVec 8)} {m n : Nat} (hm : l.length = m) (hn : t.length = n) (h : w.ownsRow base 5 1 v (m + n) (byteVals l ++ byteVals t)) : OwnB w base v (l ++ t) := by
 unfold OwnB
 rw [List.length_append, byteVals_append, hm, hn]
 exact h
theorem seesB_of {w : World} {b : Nat} {l : List (BitVec 8)} {t : TypeId} (h : w.heap[b]? = some (.cells (byteVals l).toArray t (0, 0))) : Sees w (some ⟨b, 0, none⟩) (byteVals l) := IsBs.sees (t := t) h
structure PdI (w : World) (v : Value) (l : List (BitVec 8)) (W : World) : Prop where
 Z : IsBs W w.heap.size 64 (List.replicate 32 0#8)
 O : OwnB W (w.heap.size + 1) v l
 L : Below w.heap.size w W
theorem PdI.below {w W W' : World} {v : Value} {l : List (BitVec 8)} (h : PdI w v l W) (hb : Below W.heap.size W W') : PdI w v l W' := ⟨h.Z.call hb, h.O.below hb, h.L.trans (hb.mono h.L.size)⟩
theorem PdI.grown {w W W' : World} {v v' : Value} {l t : List (BitVec 8)} {m n : Nat} (h : PdI w v l W) (hm : l.length = m) (hn : t.length = n) (hg : W.grownBy W' v.ownBlock) (ho : W'.ownsRow (w.heap.size + 1) 5 1 v' (m + n) (byteVals l ++ byteVals t)) : PdI w v' (l ++ t) W' := by
 have hlo : ∀ k, v.ownBlock = some k → w.heap.size + 1 ≤ k := fun k e => (h.O.lt k e).1
 exact ⟨(hg.block w.heap.size h.Z.lt (fun e => by have := hlo _ e.symm; omega)).trans h.Z, OwnB.more hm hn ho, h.L.grown hg h.L.size (fun k e => by have := hlo k e; omega)⟩
structure PdN (w : World) (v : Value) (p : List (BitVec 8)) (m g j : Nat) (W : World) : Prop where
 S : PdI w v p W
 G : IsBs W g 112 (TB m j)
 D : ∀ q, v.ownBlock = some q → q ≠ g
 H : w.heap.size < g
theorem PdN.next {w W : World} {v : Value} {p : List (BitVec 8)} {m g j q : Nat} (h : PdN w v p m g j W) (hq : q = 7 - j) : PdN w v p m g (j + 1) (W.setCell ⟨g, q, none⟩ (.int .u8 (B ((nnT (BitVec.ofNat 64 m) j % 256#64).setWidth 8)))) := by
 subst hq
 have hH := h.H
 refine ⟨⟨(Below.heap_setCell W _ _ _ (by show w.heap.size ≠ g; omega)).trans h.S.Z, World.ownsRow.kept h.S.O (grownBy_setC W g _ _) ?_, h.S.L.setCell (p := ⟨g, 7 - j, none⟩) (by show w.heap.size ≤ g; omega) _⟩, h.G.set _ _, h.D, h.H⟩
 cases hv : v.ownBlock with
 | none => exact .inl rfl
 | some r => exact .inr fun e => h.D r hv (Option.some.inj e)
theorem slice_all8 (g : Nat) (w : World) : (Instr.sliceAt 112 (.pointer (some ⟨g, 0, none⟩)) none none none).run Tryz.prog w = .ok (.slice (some ⟨g, 0, none⟩) 8 8) w := by kernel_rfl
structure PdB (w : World) (pad : List (BitVec 8)) (P K S : Option Addr) (j : Nat) (W : World) : Prop where
 Z : IsBs W w.heap.size 64 (List.replicate 32 0#8)
 P : Sees W P (byteVals pad)
 K : Sees W K (dVals kL)
 S : Sees W S (dVals (feedS s0 pad j).list)
 L : Below w.heap.size w W
structure PdO (w : World) (S2 : S8) (g t : Nat) (R : Option Addr) (W : World) : Prop where
 Z : IsBs W w.heap.size 64 (List.replicate 32 0#8)
 T : IsBs W g 64 (outT S2 t)
 S : Sees W R (dVals S2.list)
 G : ∀ b o, R = some ⟨b, o, none⟩ → b ≠ g
 H : w.heap.size < g
 L : Below w.heap.size w W
theorem PdO.next {w W : World} {S2 : S8} {g t : Nat} {S : Option Addr} (h : PdO w S2 g t S W) (x : BitVec 8) (hx : x = outB S2 t) : PdO w S2 g (t + 1) S (W.setCell ⟨g, t, none⟩ (.int .u8 (B x))) := by
 subst hx
 have hH := h.H
 exact ⟨(Below.heap_setCell W _ _ _ (by show w.heap.size ≠ g; omega)).trans h.Z, h.T.set _ _, h.S.move fun b o e _ => Below.heap_setCell W _ _ _ (h.G b o e), h.G, h.H, h.L.setCell (p := ⟨g, t, none⟩) (by show w.heap.size ≤ g; omega) _⟩
set_option maxRecDepth 100000 in
set_option maxHeartbeats 4000000 in
theorem refSum12 (A : Option Addr) (cap : Nat) (l : List (BitVec 8)) (w : World) (hs : Sees w A (byteVals l)) (hlen : l.length ≤ 1099511627776) :
  Calls Tryz.prog 25 #[.slice A l.length cap] w fun e w' => e = .returned (bval (sumL l)) ∧ Below w.heap.size w w' := by
 obtain ⟨i0, hi0, ia0, ia1, ia2⟩ := info_parts info_u8
 obtain ⟨m, hm⟩ : ∃ m, l.length = m := ⟨_, rfl⟩
 obtain ⟨z, hz⟩ : ∃ z, z = (119 - m % 64) % 64 := ⟨_, rfl⟩
 have HS := Lib.hid (fun W (hW : Below w.heap.size w W) => hs.below hW)
 have HP := Lib.hid (show padL l = l ++ [128#8] ++ List.replicate z 0#8 ++ TB m 8 from by unfold padL; rw [hm, ← hz])
 have HSum := Lib.hid (sumL_pad l)
 have HPL := Lib.hid (padL_length l)
 rw [hm] at hlen HPL ⊢
 have HM := Lib.hid (And.intro hm hz)
 have HC1 := Lib.hid (show ∀ W, Calls Tryz.prog 64 #[.int .i64 64, .bool true] W fun e w' => ∃ A c, e = .returned (.slice A 64 c) ∧ Sees w' A (dVals kL) ∧ Below W.heap.size W w' from fun W => by
  have := refConsts 64 true (by decide) (by rw [cTrue.2]; decide) W
  rw [cTrue.1] at this
  exact this)
 have HC2 := Lib.hid (show ∀ W, Calls Tryz.prog 64 #[.int .i64 8, .bool false] W fun e w' => ∃ A c, e = .returned (.slice A 8 c) ∧ Sees w' A (dVals s0.list) ∧ Below W.heap.size W w' from fun W => by
  have := refConsts 8 false (by decide) (by rw [cFalse.2]; decide) W
  rw [cFalse.1] at this
  exact this)
 clear hs hm hz
 go_enter Tryz.func25, Tryz.ntmps25
 obtain ⟨w0, hw0⟩ : ∃ w0, w0 = w.alloc (.cells #[.int .u8 0, .int .u8 0, .int .u8 0, .int .u8 0, .int .u8 0, .int .u8 0, .int .u8 0, .int .u8 0, .int .u8 0, .int .u8 0, .int .u8 0, .int .u8 0, .int .u8 0, .int .u8 0, .int .u8 0, .int .u8 0, .int .u8 0, .int .u8 0, .int .u8 0, .int .u8 0, .int .u8 0, .int .u8 0, .int .u8 0, .int .u8 0, .int .u8 0, .int .u8 0, .int .u8 0, .int .u8 0, .int .u8 0, .int .u8 0, .int .u8 0, .int .u8 0] 64) := ⟨_, rfl⟩
 have ha : Below w.heap.size w w0 := by rw [hw0]; exact (Below.refl _ w).alloc (Nat.le_refl _) _
 have hZ0 : IsBs w0 w.heap.size 64 (List.replicate 32 0#8) := by rw [hw0]; exact heap_alloc_new w (.cells (byteVals (List.replicate 32 0#8)).toArray 64)
 have hz0 : w0.heap.size = w.heap.size + 1 := by rw [hw0]; simp
 have hO0 : (w0.alloc (.cells #[] 5)).ownsRow (w.heap.size + 1) 5 1 (.slice (some ⟨w.heap.size + 1, 0, none⟩) 0 0) 0 [] := by
  have := World.ownsRow_made (base := w.heap.size + 1) (e := 5) (size := 1) w0 #[] 0 (by omega) (Nat.zero_le _) rfl
  rwa [hz0] at this
 have ha1 := (Below.refl _ w0).alloc (Nat.le_refl _) (.cells #[] 5)
 have H0 := Lib.hid (show PdI w (.slice (some ⟨w.heap.size + 1, 0, none⟩) 0 0) [] (w0.alloc (.cells #[] 5)) from ⟨hZ0.call ha1, hO0, ha.trans (ha1.mono (by omega))⟩)
 have HS0 := Lib.hid (HS.out _ H0.out.L)
 have hsz0 : w.heap.size + 1 ≤ (w0.alloc (.cells #[] 5)).heap.size := by simp; omega
 clear ha hZ0 hO0 ha1
 go_wp2_with (at_builtin; rw [← hw0]; refine wpList_append_sees rfl (.tmp 14) (.tmp 15) 22 rfl (w.heap.size + 1) 5 i0 (.int .u8 0) 1 1 Tryz.underlying22 hi0 ia0 ia1 ia2 rfl (by decide) (.slice (some ⟨w.heap.size + 1, 0, none⟩) 0 0) 0 [] rfl H0.out.O A m cap (byteVals l) rfl ?c1 HS0.out (byteVals_one l) ?c4 ?c5 hsz0 ?_)
 case c1 => rw [byteVals_length, HM.out.1, Nat.mul_one]
 case c4 => unfold maxLen; omega
 case c5 => omega
 intro v1 w1 hown hg _
 rw [← hw0] at hg
 have H1 := Lib.hid (H0.out.grown (l := []) (m := 0) (t := l) rfl HM.out.1 hg (by rw [Nat.zero_add]; exact hown))
 clear hown hg H0 HS0 hsz0 hw0 hz0
 rw [List.nil_append] at H1
 obtain ⟨w2, hw2⟩ : ∃ w2, w2 = w1.alloc (.cells #[.int .u8 128] 5) := ⟨_, rfl⟩
 have hb2 : Below w1.heap.size w1 w2 := by rw [hw2]; exact (Below.refl _ w1).alloc (Nat.le_refl _) _
 have hS2 : Sees w2 (some ⟨w1.heap.size, 0, none⟩) (byteVals [128#8]) := by rw [hw2]; exact seesB_of (t := 5) (heap_alloc_new w1 (.cells (byteVals [128#8]).toArray 5))
 have H2 := Lib.hid (And.intro (H1.out.below hb2) hS2)
 have hsz2 : w.heap.size + 1 ≤ w2.heap.size := H2.out.1.Z.lt
 clear hb2 hS2 H1
 go_wp2_with (at_builtin; rw [← hw2]; refine wpList_append_sees rfl (.tmp 16) (.tmp 17) 22 rfl (w.heap.size + 1) 5 i0 (.int .u8 0) 1 1 Tryz.underlying22 hi0 ia0 ia1 ia2 rfl (by decide) v1 m (byteVals l) rfl ?c0 (some ⟨w1.heap.size, 0, none⟩) 1 1 (byteVals [128#8]) rfl rfl H2.out.2 (byteVals_one _) ?c4 ?c5 hsz2 ?_)
 case c0 =>
  have := H2.out.1.O
  unfold OwnB at this
  rwa [HM.out.1] at this
 case c4 => unfold maxLen; omega
 case c5 => omega
 intro v2 w3 hown hg _
 rw [← hw2] at hg
 have H3 := Lib.hid (H2.out.1.grown (t := [128#8]) HM.out.1 rfl hg hown)
 clear hown hg H2 hw2 hsz2
 have hzl : z < 64 := by rw [HM.out.2]; exact Nat.mod_lt _ (by decide)
 have H4 := Lib.hid (show PdI w v2 (l ++ [128#8] ++ List.replicate 0 0#8) w3 from by rw [List.replicate_zero, List.append_nil]; exact H3.out)
 clear H3
 go_wp2
 go_loopw [3] (fun v W => ∃ k : Nat, k ≤ z ∧ PdI w v (l ++ [128#8] ++ List.replicate k 0#8) W) (fun v _ => m + 1 + z - lenOfS v)
 case atStart => exact ⟨0, Nat.zero_le _, H4.out⟩
 case round =>
  clear H4
  obtain ⟨k, hk, hI⟩ := hrel
  have hn0 : (l ++ [128#8] ++ List.replicate k 0#8).length = m + 1 + k := by rw [List.length_append, List.length_append, List.length_replicate, HM.out.1]; rfl
  obtain ⟨pl, hpl⟩ : ∃ pl, l ++ [128#8] ++ List.replicate k 0#8 = pl := ⟨_, rfl⟩
  rw [hpl] at hI hn0
  have HPl := Lib.hid hpl
  clear hpl
  obtain ⟨Ap, cp, rfl, hcp, hsp, hap⟩ := hI.O.open
  obtain ⟨n, hn⟩ : ∃ n, pl.length = n := ⟨_, rfl⟩
  have hn1 : n = m + 1 + k := by rw [← hn]; exact hn0
  clear hn0
  rw [hn]
  have HI := Lib.hid (And.intro hI hn)
  have HSP := Lib.hid hsp
  have hz := HM.out.2
  have hr : (n : Int).tmod 64 = ((n % 64 : Nat) : Int) := by rw [Int.tmod_eq_emod_of_nonneg (by omega)]; omega
  have hr' : (n : Int) % 64 = ((n % 64 : Nat) : Int) := by omega
  have hwr : IntKind.i64.wrap ((n % 64 : Nat) : Int) = ((n % 64 : Nat) : Int) := by rw [IntKind.wrap_i64]; omega
  have hq : n % 64 = 56 ↔ k = z := by omega
  obtain ⟨r, hr0⟩ : ∃ r, n % 64 = r := ⟨_, rfl⟩
  rw [hr0] at hr hr' hwr hq
  have HN1 := Lib.hid hn1
  by_cases hlt : k < z
  ·have HK := Lib.hid (show k + 1 ≤ z from hlt)
   have h56 : ((r : Int) != 56) = true := by simp; omega
   have h56' : ¬ (r : Int) = 56 := by omega
   clear hI hsp hap hcp hz hq hr0 hn hn1
   obtain ⟨w4, hw4⟩ : ∃ w4, w4 = wr.alloc (.cells #[.int .u8 0] 5) := ⟨_, rfl⟩
   have hb4 : Below wr.heap.size wr w4 := by rw [hw4]; exact (Below.refl _ wr).alloc (Nat.le_refl _) _
   have hS4 : Sees w4 (some ⟨wr.heap.size, 0, none⟩) (byteVals [0#8]) := by rw [hw4]; exact seesB_of (t := 5) (heap_alloc_new wr (.cells (byteVals [0#8]).toArray 5))
   have H5 := Lib.hid (And.intro (HI.out.1.below hb4) hS4)
   have hsz4 : w.heap.size + 1 ≤ w4.heap.size := H5.out.1.Z.lt
   have hnb : n ≤ 2199023255552 := by have := HN1.out; omega
   clear hb4 hS4 HSP hlt
   go_wp2_with (at_builtin; rw [← hw4]; refine wpList_append_sees rfl (.tmp 23) (.tmp 24) 22 rfl (w.heap.size + 1) 5 i0 (.int .u8 0) 1 1 Tryz.underlying22 hi0 ia0 ia1 ia2 rfl (by decide) (.slice Ap n cp) n (byteVals pl) rfl ?c0 (some ⟨wr.heap.size, 0, none⟩) 1 1 (byteVals [0#8]) rfl rfl H5.out.2 (byteVals_one _) ?c4 ?c5 hsz4 ?_)
   case c0 =>
    have := H5.out.1.O
    unfold OwnB at this
    rwa [HI.out.2] at this
   case c4 => unfold maxLen; omega
   case c5 => omega
   intro v' w5 hown hg _
   rw [← hw4] at hg
   have HLn := Lib.hid (show lenOfS v' = n + 1 from by obtain ⟨A', c', e, -⟩ := owns_open hown; rw [e]; rfl)
   have HN := Lib.hid (show PdI w v' (l ++ [128#8] ++ List.replicate (k + 1) 0#8) w5 from by
    have hg' : w4.grownBy w5 (Value.ownBlock (.slice Ap pl.length cp)) := by rw [HI.out.2]; exact hg
    have := H5.out.1.grown (t := [0#8]) HI.out.2 rfl hg' hown
    rw [List.replicate_succ', ← List.append_assoc, HPl.out]
    exact this)
   clear hown hg H5 hw4
   go_wp2
   go_roundw
   case rel => exact ⟨k + 1, HK.out, HN.out⟩
   case measure =>
    have h1 := HLn.out
    have h2 := HN1.out
    have h3 := HK.out
    show m + 1 + z - lenOfS v' < m + 1 + z - n
    omega
  ·obtain rfl : k = z := by omega
   obtain rfl : r = 56 := by omega
   rw [← hn]
   obtain ⟨g, hg⟩ : ∃ g, g = wr.heap.size := ⟨_, rfl⟩
   obtain ⟨w6, hw6⟩ : ∃ w6, w6 = wr.alloc (.cells #[.int .u8 0, .int .u8 0, .int .u8 0, .int .u8 0, .int .u8 0, .int .u8 0, .int .u8 0, .int .u8 0] 112) := ⟨_, rfl⟩
   have hb6 : Below wr.heap.size wr w6 := by rw [hw6]; exact (Below.refl _ wr).alloc (Nat.le_refl _) _
   have H6 := Lib.hid (show PdN w (.slice Ap n cp) pl m g 0 w6 from by
    rw [← hn]
    refine ⟨HI.out.1.below hb6, ?_, fun q e => ?_, ?_⟩
    ·rw [hw6, hg]; exact heap_alloc_new wr (.cells (byteVals (TB m 0)).toArray 112)
    ·have := (HI.out.1.O.lt q e).2; omega
    ·rw [hg]; exact HI.out.1.Z.lt)
   have hnb : n ≤ 2199023255552 := by omega
   rw [hn]
   clear hb6 hI hsp hap hcp hz hlt hq hr0 hn hn1 HSP
   go_wp2
   rw [← hw6, ← hg]
   clear hw6 hg hr hr' hwr
   go_loopw [4, 6] (fun nv iv W => ∃ j : Nat, j ≤ 8 ∧ nv = .int .u64 (U (nnT (BitVec.ofNat 64 m) j)) ∧ iv = .int .i64 (7 - (j : Int)) ∧ PdN w (.slice Ap n cp) pl m g j W) (fun _ iv _ => ((intOf iv) + 1).toNat)
   case atStart => exact ⟨0, by omega, rfl, rfl, H6.out⟩
   case round =>
    obtain ⟨j, hj, rfl, rfl, hJ⟩ := hrel
    by_cases h8 : j < 8
    ·obtain ⟨q, hq⟩ : ∃ q, q = 7 - j := ⟨_, rfl⟩
     have e7 : 7 - (j : Int) = (q : Int) := by omega
     have hq0 : (0 : Int) ≤ (q : Int) := by omega
     have hq8 : (q : Int) < 8 := by omega
     rw [e7]
     have gc := hJ.G.cell q (by rw [TB_length]; omega)
     have gf := hJ.G.frozen q
     have HN := Lib.hid (hJ.next hq)
     have HE := Lib.hid (show nnT (BitVec.ofNat 64 m) (j + 1) = nnT (BitVec.ofNat 64 m) j / 256#64 from rfl)
     have HQ := Lib.hid (show (q : Int) - 1 = 7 - ((j + 1 : Nat) : Int) ∧ j + 1 ≤ 8 from by omega)
     generalize nnT (BitVec.ofNat 64 m) j = nx at *
     clear hJ hq e7 h8 hj
     go_wp2
     go_roundw
     case rel => exact ⟨j + 1, HQ.out.2, by rw [HE.out], by rw [← HQ.out.1], HN.out⟩
     case measure => (first | (simp [intOf]; done) | (simp [intOf]; omega))
    ·obtain rfl : j = 8 := by omega
     have HJ := Lib.hid hJ
     clear hJ
     have hsl := slice_all8 g
     have hszJ : w.heap.size + 1 ≤ wr.heap.size := HJ.out.S.Z.lt
     have HPd := Lib.hid (show padL l = pl ++ TB m 8 from by rw [HP.out, HPl.out])
     rw [show 7 - ((8 : Nat) : Int) = -1 from rfl]
     go_wp2_with (at_builtin; refine wpList_append_sees rfl (.tmp 41) (.tmp 42) 22 rfl (w.heap.size + 1) 5 i0 (.int .u8 0) 1 1 Tryz.underlying22 hi0 ia0 ia1 ia2 rfl (by decide) (.slice Ap n cp) n (byteVals pl) rfl ?c0 (some ⟨g, 0, none⟩) 8 8 (byteVals (TB m 8)) rfl ?c3 HJ.out.G.sees (byteVals_one _) ?c4 ?c5 hszJ ?_)
     case c0 =>
      have := HJ.out.S.O
      unfold OwnB at this
      rwa [HI.out.2] at this
     case c3 => rw [byteVals_length, TB_length]
     case c4 => unfold maxLen; omega
     case c5 => omega
     intro v7 w7 hown hg _
     have hg' : wr.grownBy w7 (Value.ownBlock (.slice Ap pl.length cp)) := by rw [HI.out.2]; exact hg
     have hp7 : PdI w v7 (padL l) w7 := by
      rw [HPd.out]
      have hS := HJ.out.S
      rw [← HI.out.2] at hS
      exact hS.grown HI.out.2 (TB_length m 8) hg' hown
     obtain ⟨pad, hpad⟩ : ∃ pad, padL l = pad := ⟨_, rfl⟩
     obtain ⟨nb, hnb0⟩ : ∃ nb, nb = pad.length / 64 := ⟨_, rfl⟩
     rw [hpad] at hp7 HSum HPL
     have hN : pad.length = 64 * nb := by have := HPL.out; have := HM.out.2; omega
     obtain ⟨A7, c7, rfl, hc7, hs7, -⟩ := hp7.O.open
     obtain ⟨NN, hNN⟩ : ∃ NN, pad.length = NN := ⟨_, rfl⟩
     rw [hNN] at hc7 ⊢
     have H7 := Lib.hid (And.intro hp7.Z (And.intro hs7 hp7.L))
     have HNB := Lib.hid (show pad.length = NN ∧ NN = 64 * nb ∧ nb = pad.length / 64 from ⟨hNN, hNN.symm.trans hN, hnb0⟩)
     have hnbb : nb ≤ 34359738368 := by have := HPL.out; omega
     clear hown hg hg' hp7 hpad hN hNN hnb0 hs7 HJ hsl H6 HPd HPl HI hszJ hnb
     go_wp2_with fail
     refine (HC1.out _).mono ?_
     rintro e w8 ⟨K, ck, rfl, hK8, hb8⟩
     have H8 := Lib.hid (And.intro (H7.out.1.call hb8) (And.intro (H7.out.2.1.below hb8) (And.intro hK8 (H7.out.2.2.trans (hb8.mono H7.out.2.2.size)))))
     clear hK8 hb8 H7
     go_wp2_with fail
     refine (HC2.out _).mono ?_
     rintro e w9 ⟨Si, ci, rfl, hS9, hb9⟩
     have H9 := Lib.hid (show PdB w pad A7 K Si 0 w9 from ⟨H8.out.1.call hb9, H8.out.2.1.below hb9, H8.out.2.2.1.below hb9, hS9, H8.out.2.2.2.trans (hb9.mono H8.out.2.2.2.size)⟩)
     clear hS9 hb9 H8
     go_wp2
     go_loopw [8, 9] (fun sv iv W => ∃ (S : Option Addr) (cs j : Nat), j ≤ nb ∧ sv = .slice S 8 cs ∧ iv = .int .i64 ((64 * j : Nat) : Int) ∧ PdB w pad A7 K S j W) (fun _ iv _ => NN - (intOf iv).toNat)
     case atStart => exact ⟨Si, ci, 0, by omega, rfl, rfl, H9.out⟩
     case round =>
      clear H9
      obtain ⟨S, cs, j, hj, rfl, rfl, hB⟩ := hrel
      by_cases hlt : j < nb
      ·obtain ⟨q, hq⟩ : ∃ q, 64 * j = q := ⟨_, rfl⟩
       obtain ⟨q2, hq2⟩ : ∃ q2, q2 = q + 64 := ⟨_, rfl⟩
       have h64 := HNB.out.2.1
       have hcut := cut_lh A7 NN c7 q q2 (by omega) (by omega) .i64 .i64
       rw [show q2 - q = 64 by omega] at hcut
       have hww : IntKind.i64.wrap ((q : Int) + 64) = (q2 : Int) := by rw [IntKind.wrap_i64]; omega
       have hqlt : (q : Int) < (NN : Int) := by omega
       have hchunk : Sees wr (cutA A7 q c7) (byteVals ((pad.drop (64 * j)).take 64)) := by
        have := (hB.P.cut q c7 (by rw [byteVals_length, HNB.out.1]; exact hc7)).take 64
        rw [hq]
        unfold byteVals at this ⊢
        rw [List.map_take, List.map_drop]
        exact this
       have HBk := Lib.hid (refBlock S K (cutA A7 q c7) cs ck (c7 - q) (feedS s0 pad j) ((pad.drop (64 * j)).take 64) (by rw [List.length_take, List.length_drop, HNB.out.1]; omega) wr hB.S hB.K hchunk)
       have HB := Lib.hid hB
       have HQ := Lib.hid (show (q2 : Int) = ((64 * (j + 1) : Nat) : Int) ∧ j + 1 ≤ nb ∧ q < NN ∧ q2 = q + 64 from by omega)
       rw [hq]
       clear hq hq2 hchunk hB hlt hj h64
       go_wp2_with fail
       refine HBk.out.mono ?_
       rintro e w10 ⟨b, rfl, hb, hD, hbl⟩
       have HN := Lib.hid (show PdB w pad A7 K (some ⟨b, 0, none⟩) (j + 1) w10 from ⟨HB.out.Z.call hbl, HB.out.P.below hbl, HB.out.K.below hbl, seesD_of hD, HB.out.L.trans (hbl.mono HB.out.L.size)⟩)
       clear hcut HBk HB hb hD hbl
       go_wp2
       go_roundw
       case rel => exact ⟨_, 8, j + 1, HQ.out.2.1, rfl, by rw [← HQ.out.1], HN.out⟩
       case measure =>
        have := HQ.out.2.2
        show NN - ((q2 : Int)).toNat < NN - ((q : Int)).toNat
        omega
      ·have hjn : j = nb := by omega
       have hjN : ((64 * j : Nat) : Int) = (NN : Int) := by have := HNB.out.2.1; omega
       rw [hjN]
       obtain ⟨S2, hS2⟩ : ∃ S2, feedS s0 pad j = S2 := ⟨_, rfl⟩
       have hBS := hB.S
       rw [hS2] at hBS
       have HR := Lib.hid (show sumL l = outT S2 32 from by rw [HSum.out, ← HNB.out.2.2, ← hjn, hS2]; rfl)
       obtain ⟨bs, os, rfl, -⟩ := hBS (by rw [dVals_length, S8.length]; decide)
       have hbs := Sees.lt hBS (by rw [dVals_length, S8.length]; decide)
       obtain ⟨g2, hg2⟩ : ∃ g2, g2 = wr.heap.size := ⟨_, rfl⟩
       obtain ⟨w11, hw11⟩ : ∃ w11, w11 = wr.alloc (.cells #[.int .u8 0, .int .u8 0, .int .u8 0, .int .u8 0, .int .u8 0, .int .u8 0, .int .u8 0, .int .u8 0, .int .u8 0, .int .u8 0, .int .u8 0, .int .u8 0, .int .u8 0, .int .u8 0, .int .u8 0, .int .u8 0, .int .u8 0, .int .u8 0, .int .u8 0, .int .u8 0, .int .u8 0, .int .u8 0, .int .u8 0, .int .u8 0, .int .u8 0, .int .u8 0, .int .u8 0, .int .u8 0, .int .u8 0, .int .u8 0, .int .u8 0, .int .u8 0] 64) := ⟨_, rfl⟩
       have hb11 : Below wr.heap.size wr w11 := by rw [hw11]; exact (Below.refl _ wr).alloc (Nat.le_refl _) _
       have HO := Lib.hid (show PdO w S2 g2 0 (some ⟨bs, os, none⟩) w11 from ⟨hB.Z.call hb11, by rw [hw11, hg2]; exact heap_alloc_new wr (.cells (byteVals (List.replicate 32 0#8)).toArray 64), hBS.below hb11, fun b o e => by injection e with e; injection e with e1 e2; omega, by rw [hg2]; exact hB.Z.lt, hB.L.trans (hb11.mono hB.L.size)⟩)
       clear hb11 hBS hbs hB hS2 hlt hj hjn hjN HSum HNB hnbb
       go_wp2
       rw [← hw11, ← hg2]
       clear hw11 hg2
       go_loopw [11] (fun iv W => ∃ t : Nat, t ≤ 32 ∧ iv = .int .i64 t ∧ PdO w S2 g2 t (some ⟨bs, os, none⟩) W) (fun iv _ => 32 - (intOf iv).toNat)
       case atStart => exact ⟨0, by omega, rfl, HO.out⟩
       case round =>
        clear HO
        obtain ⟨t, ht, rfl, hO⟩ := hrel
        by_cases h32 : t < 32
        ·have h32' : (t : Int) < 32 := by omega
         have hcs := hO.S.word (t / 4) (by rw [S8.length]; omega)
         have hco := hO.T.cell t (by rw [outT_length]; exact h32)
         have hfo := hO.T.frozen t
         have HN := Lib.hid (hO.next _ (out_byte S2 t))
         have hq1 : ((t : Int)).tdiv 4 = ((t / 4 : Nat) : Int) := by rw [Int.tdiv_eq_ediv_of_nonneg (by omega)]; omega
         have hq2 : ((t : Int)) / 4 = ((t / 4 : Nat) : Int) := by omega
         have hr1 : ((t : Int)).tmod 4 = ((t % 4 : Nat) : Int) := by rw [Int.tmod_eq_emod_of_nonneg (by omega)]; omega
         have hr2 : ((t : Int)) % 4 = ((t % 4 : Nat) : Int) := by omega
         have hq8 : ((t / 4 : Nat) : Int) < 8 := by omega
         have hm4 : t % 4 < 4 := Nat.mod_lt _ (by decide)
         have hwq : IntKind.i64.wrap ((t / 4 : Nat) : Int) = ((t / 4 : Nat) : Int) := by rw [IntKind.wrap_i64]; omega
         have hwr : IntKind.i64.wrap ((t % 4 : Nat) : Int) = ((t % 4 : Nat) : Int) := by rw [IntKind.wrap_i64]; omega
         have HT := Lib.hid (show t + 1 ≤ 32 from h32)
         clear hO ht h32
         generalize t / 4 = q at *
         generalize dw S2.list q = xw at *
         generalize t % 4 = r4 at *
         have HR4 := Lib.hid hm4
         clear hm4
         go_wp2
         go_loopw [12, 13] (fun xv jv W => ∃ p : Nat, p ≤ 3 - r4 ∧ xv = .int .u32 (D (dvT xw p)) ∧ jv = .int .i64 ((3 - p : Nat) : Int) ∧ W = wr) (fun _ jv _ => (intOf jv).toNat)
         case atStart => exact ⟨0, by omega, rfl, rfl, rfl⟩
         case round =>
          obtain ⟨p, hp, rfl, rfl, rfl⟩ := hrel
          have hr3 := HR4.out
          by_cases hlt : p < 3 - r4
          ·obtain ⟨jn, hjn⟩ : ∃ jn, jn = 3 - p := ⟨_, rfl⟩
           obtain ⟨jm, hjm⟩ : ∃ jm, jm = 3 - (p + 1) := ⟨_, rfl⟩
           have hgt : (r4 : Int) < (jn : Int) := by omega
           have hwj : IntKind.i64.wrap ((jn : Int) - 1) = (jm : Int) := by rw [IntKind.wrap_i64]; omega
           have HE := Lib.hid (show dvT xw (p + 1) = dvT xw p / 256#32 from rfl)
           have HJ := Lib.hid (show jm = 3 - (p + 1) ∧ p + 1 ≤ 3 - r4 ∧ jm < jn from by omega)
           rw [← hjn]
           generalize dvT xw p = y at *
           clear hjn hjm hr3 hlt hp
           go_wp2
           go_roundw
           case rel => exact ⟨p + 1, HJ.out.2.1, by rw [HE.out], by rw [← HJ.out.1], trivial⟩
           case measure =>
            have := HJ.out.2.2
            show ((jm : Int)).toNat < ((jn : Int)).toNat
            omega
          ·obtain rfl : p = 3 - r4 := by omega
           have hjr : ((3 - (3 - r4) : Nat) : Int) = (r4 : Int) := by omega
           rw [hjr]
           generalize dvT xw (3 - r4) = y at *
           clear hp hlt hr3 hjr
           go_wp2
           go_roundw
           case rel => exact ⟨t + 1, HT.out, by go_num, HN.out⟩
           case measure => (first | (simp [intOf]; done) | (simp [intOf]; omega))
        ·obtain rfl : t = 32 := by omega
         have h1 := hO.T.agg (n := 32) (outT_length S2 32)
         have h0 := hO.Z.agg (n := 32) (by simp)
         have hle := outT_length S2 32
         have hf : fitsA 32 (bval (outT S2 32)) = true := fits_bytes 32 _ hle
         have hH := hO.H
         have hL := hO.L
         have hz9 : w.heap.size < wr.heap.size := hO.Z.lt
         generalize outT S2 32 = R at *
         generalize bval (List.replicate 32 0#8) = z32 at *
         clear hO
         go_wp2_with ((with_reducible show bodyPost _ _ _ _ _ _); exact end_c Tryz.results25 rfl (atB32 (v := bval R) (by go_simp)) rfl ⟨by rw [HR.out], (by repeat (first | with_reducible assumption | with_reducible exact Below.refl _ _ | (with_reducible refine putAgg_below ?_ (by first | omega | (simp; done) | (simp; omega))) | (with_reducible refine Below.alloc ?_ (by first | omega | (simp; done) | (simp; omega)) _) | (with_reducible refine Below.setCell ?_ (by first | omega | (simp; done) | (simp; omega)) _) | (with_reducible refine Below.drew ?_) | (with_reducible refine Below.trans ?_ (Below.mono (by with_reducible assumption) (by first | omega | (simp; done) | (simp; omega))))))⟩)
end Go.Proofs.YtccgfladbibjbaaGreatDoor
