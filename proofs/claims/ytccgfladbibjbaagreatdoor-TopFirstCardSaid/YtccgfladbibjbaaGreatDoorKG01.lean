/- Words of 64, 32 and 8 bits as bit vectors: how the walk writes what the machine's operations give. No program in sight. -/
import Derived.WalkKit
import Derived.WalkLawsBesides
namespace Go.Proofs.YtccgfladbibjbaaGreatDoor
open Go
def U (x : BitVec 64) : Int := (x.toNat : Int)
def D (x : BitVec 32) : Int := (x.toNat : Int)
def B (x : BitVec 8) : Int := (x.toNat : Int)
theorem signed_u64 : IntKind.u64.signed = false := rfl
theorem signed_u32 : IntKind.u32.signed = false := rfl
theorem U_lt (x : BitVec 64) : 0 ≤ U x ∧ U x < 18446744073709551616 := by unfold U; have := x.isLt; omega
theorem wrap64_U (n : Int) : IntKind.u64.wrap n = U (BitVec.ofInt 64 n) := by
 rw [IntKind.wrap_u64]; unfold U; rw [BitVec.toNat_ofInt]; omega
theorem wrap32_D (n : Int) : IntKind.u32.wrap n = D (BitVec.ofInt 32 n) := by
 rw [IntKind.wrap_u32']; unfold D; rw [BitVec.toNat_ofInt]; omega
theorem ofInt_U (x : BitVec 64) : BitVec.ofInt 64 (U x) = x := by
 apply BitVec.eq_of_toNat_eq; unfold U; rw [BitVec.toNat_ofInt]; have := x.isLt; omega
theorem ofInt_D (x : BitVec 32) : BitVec.ofInt 32 (D x) = x := by
 apply BitVec.eq_of_toNat_eq; unfold D; rw [BitVec.toNat_ofInt]; have := x.isLt; omega
theorem ofInt_B (x : BitVec 8) : BitVec.ofInt 8 (B x) = x := by
 apply BitVec.eq_of_toNat_eq; unfold B; rw [BitVec.toNat_ofInt]; have := x.isLt; omega
theorem lit_U (n : Nat) (h : n < 18446744073709551616) : (n : Int) = U (BitVec.ofNat 64 n) := by
 unfold U; rw [BitVec.toNat_ofNat, Nat.mod_eq_of_lt (by omega)]
theorem lit_D (n : Nat) (h : n < 4294967296) : (n : Int) = D (BitVec.ofNat 32 n) := by
 unfold D; rw [BitVec.toNat_ofNat, Nat.mod_eq_of_lt (by omega)]
theorem int_B (n : Int) (h : (Lit.int .u8 n).wf = true) : n = B (BitVec.ofInt 8 n) := by
 have hb : 0 ≤ n ∧ n < 256 := by
  simp [Lit.wf, IntKind.min, IntKind.max, IntKind.signed, IntKind.bits] at h; omega
 unfold B; rw [BitVec.toNat_ofInt]; omega
section
variable (x y : BitVec 64) (n : Nat)
theorem ofInt_sub64 (a b : Int) : BitVec.ofInt 64 (a - b) = BitVec.ofInt 64 a - BitVec.ofInt 64 b := by rw [Int.sub_eq_add_neg, BitVec.ofInt_add, BitVec.ofInt_neg, BitVec.sub_eq_add_neg]
theorem add_UU : Op.intArith .add .u64 (U x) (U y) = pure (.int .u64 (U (x + y))) := by
 simp only [Op.intArith, wrap64_U, BitVec.ofInt_add, ofInt_U]
theorem sub_UU : Op.intArith .sub .u64 (U x) (U y) = pure (.int .u64 (U (x - y))) := by
 simp only [Op.intArith, wrap64_U, ofInt_sub64, ofInt_U]
theorem mul_UU : Op.intArith .mul .u64 (U x) (U y) = pure (.int .u64 (U (x * y))) := by
 simp only [Op.intArith, wrap64_U, BitVec.ofInt_mul, ofInt_U]
theorem ofInt_lit : BitVec.ofInt 64 (no_index (OfNat.ofNat n) : Int) = BitVec.ofNat 64 n := BitVec.ofInt_natCast 64 n
theorem add_UL : Op.intArith .add .u64 (U x) (no_index (OfNat.ofNat n)) = pure (.int .u64 (U (x + BitVec.ofNat 64 n))) := by
 simp only [Op.intArith, wrap64_U, BitVec.ofInt_add, ofInt_U, ofInt_lit]
theorem add_LU : Op.intArith .add .u64 (no_index (OfNat.ofNat n)) (U x) = pure (.int .u64 (U (BitVec.ofNat 64 n + x))) := by
 simp only [Op.intArith, wrap64_U, BitVec.ofInt_add, ofInt_U, ofInt_lit]
theorem sub_UL : Op.intArith .sub .u64 (U x) (no_index (OfNat.ofNat n)) = pure (.int .u64 (U (x - BitVec.ofNat 64 n))) := by
 simp only [Op.intArith, wrap64_U, ofInt_sub64, ofInt_U, ofInt_lit]
theorem sub_LU : Op.intArith .sub .u64 (no_index (OfNat.ofNat n)) (U x) = pure (.int .u64 (U (BitVec.ofNat 64 n - x))) := by
 simp only [Op.intArith, wrap64_U, ofInt_sub64, ofInt_U, ofInt_lit]
theorem mul_UL : Op.intArith .mul .u64 (U x) (no_index (OfNat.ofNat n)) = pure (.int .u64 (U (x * BitVec.ofNat 64 n))) := by
 simp only [Op.intArith, wrap64_U, BitVec.ofInt_mul, ofInt_U, ofInt_lit]
theorem neg_U : Op.unary .neg (.int .u64 (U x)) = pure (.int .u64 (U (-x))) := by
 simp only [Op.unary, Op.intArith, wrap64_U, ofInt_sub64, ofInt_U]
 congr 4
theorem not_U : Op.unary .xor (.int .u64 (U x)) = pure (.int .u64 (U (~~~x))) := by
 simp only [Op.unary, Op.intBits, signed_u64, Bool.false_eq_true, if_false]
 show pure (Value.int .u64 (IntKind.u64.wrap ((BitVec.ofInt 64 IntKind.u64.max ^^^ BitVec.ofInt 64 (U x)).toNat : Int))) = _
 rw [wrap64_U, ofInt_U, BitVec.ofInt_natCast, BitVec.ofNat_toNat, BitVec.setWidth_eq]
 have : BitVec.ofInt 64 IntKind.u64.max = BitVec.allOnes 64 := by decide
 rw [this, BitVec.allOnes_xor]
theorem not_at : Op.intBits .xor .u64 (if IntKind.u64.signed = true then -1 else IntKind.u64.max) (U x) = pure (.int .u64 (U (~~~x))) := not_U x
theorem neg_at : Op.intArith .sub .u64 0 (U x) = pure (.int .u64 (U (-x))) := neg_U x
theorem bits_back (z : BitVec 64) : IntKind.u64.wrap (z.toNat : Int) = U z := by
 rw [wrap64_U, BitVec.ofInt_natCast, BitVec.ofNat_toNat, BitVec.setWidth_eq]
theorem and_UU : Op.intBits .and .u64 (U x) (U y) = pure (.int .u64 (U (x &&& y))) := by
 show pure (Value.int .u64 (IntKind.u64.wrap ((BitVec.ofInt 64 (U x) &&& BitVec.ofInt 64 (U y)).toNat : Int))) = _
 rw [bits_back, ofInt_U, ofInt_U]
theorem or_UU : Op.intBits .or .u64 (U x) (U y) = pure (.int .u64 (U (x ||| y))) := by
 show pure (Value.int .u64 (IntKind.u64.wrap ((BitVec.ofInt 64 (U x) ||| BitVec.ofInt 64 (U y)).toNat : Int))) = _
 rw [bits_back, ofInt_U, ofInt_U]
theorem xor_UU : Op.intBits .xor .u64 (U x) (U y) = pure (.int .u64 (U (x ^^^ y))) := by
 show pure (Value.int .u64 (IntKind.u64.wrap ((BitVec.ofInt 64 (U x) ^^^ BitVec.ofInt 64 (U y)).toNat : Int))) = _
 rw [bits_back, ofInt_U, ofInt_U]
theorem andNot_UU : Op.intBits .andNot .u64 (U x) (U y) = pure (.int .u64 (U (x &&& ~~~y))) := by
 show pure (Value.int .u64 (IntKind.u64.wrap ((BitVec.ofInt 64 (U x) &&& ~~~BitVec.ofInt 64 (U y)).toNat : Int))) = _
 rw [bits_back, ofInt_U, ofInt_U]
theorem and_UL : Op.intBits .and .u64 (U x) (no_index (OfNat.ofNat n)) = pure (.int .u64 (U (x &&& BitVec.ofNat 64 n))) := by
 show pure (Value.int .u64 (IntKind.u64.wrap ((BitVec.ofInt 64 (U x) &&& BitVec.ofInt 64 ((n : Nat) : Int)).toNat : Int))) = _
 rw [bits_back, ofInt_U, BitVec.ofInt_natCast]
theorem or_LU : Op.intBits .or .u64 (no_index (OfNat.ofNat n)) (U x) = pure (.int .u64 (U (BitVec.ofNat 64 n ||| x))) := by
 show pure (Value.int .u64 (IntKind.u64.wrap ((BitVec.ofInt 64 ((n : Nat) : Int) ||| BitVec.ofInt 64 (U x)).toNat : Int))) = _
 rw [bits_back, ofInt_U, BitVec.ofInt_natCast]
theorem shr_val (k : Nat) : (U x).fdiv (2 ^ min k 64) = U (x >>> k) := by
 have hp : (0 : Int) ≤ 2 ^ min k 64 := Int.pow_nonneg (by decide)
 rw [Int.fdiv_eq_ediv_of_nonneg _ hp]
 unfold U
 rw [BitVec.toNat_ushiftRight, Nat.shiftRight_eq_div_pow]
 have e : (2 : Int) ^ min k 64 = ((2 ^ min k 64 : Nat) : Int) := by rw [Int.natCast_pow]; rfl
 rw [e, ← Int.natCast_ediv]
 congr 1
 rcases Nat.le_total k 64 with h | h
 ·rw [Nat.min_eq_left h]
 ·rw [Nat.min_eq_right h, Nat.div_eq_of_lt x.isLt, Nat.div_eq_of_lt (Nat.lt_of_lt_of_le x.isLt (Nat.pow_le_pow_right (by decide) h))]
theorem shl_val (k : Nat) : IntKind.u64.wrap (U x * 2 ^ min k 64) = U (x <<< k) := by
 rw [IntKind.wrap_u64]
 unfold U
 rw [BitVec.toNat_shiftLeft, Nat.shiftLeft_eq]
 have e : (2 : Int) ^ min k 64 = ((2 ^ min k 64 : Nat) : Int) := by rw [Int.natCast_pow]; rfl
 rw [e, ← Int.natCast_mul, show (18446744073709551616 : Int) = ((18446744073709551616 : Nat) : Int) from rfl, ← Int.natCast_emod]
 congr 1
 rcases Nat.le_total k 64 with h | h
 ·rw [Nat.min_eq_left h]
 ·rw [Nat.min_eq_right h]
  obtain ⟨d, rfl⟩ := Nat.exists_eq_add_of_le h
  rw [Nat.pow_add, ← Nat.mul_assoc, Nat.mul_right_comm]
  have : (2 : Nat) ^ 64 = 18446744073709551616 := by decide
  rw [this, Nat.mul_mod_left, Nat.mul_mod_left]
theorem shr_UL (yk : IntKind) : Op.shift .shr .u64 (U x) yk (no_index (OfNat.ofNat n)) = pure (.int .u64 (U (x >>> n))) := by
 have h0 : ¬ ((no_index (OfNat.ofNat n) : Int) < 0) := by show ¬ ((n : Nat) : Int) < 0; omega
 unfold Op.shift
 rw [if_neg h0]
 show pure (Value.int .u64 ((U x).fdiv (2 ^ min n 64))) = _
 rw [shr_val]
theorem shl_UL (yk : IntKind) : Op.shift .shl .u64 (U x) yk (no_index (OfNat.ofNat n)) = pure (.int .u64 (U (x <<< n))) := by
 have h0 : ¬ ((no_index (OfNat.ofNat n) : Int) < 0) := by show ¬ ((n : Nat) : Int) < 0; omega
 unfold Op.shift
 rw [if_neg h0]
 show pure (Value.int .u64 (IntKind.u64.wrap (U x * 2 ^ min n 64))) = _
 rw [shl_val]
theorem shr_UN (yk : IntKind) : Op.shift .shr .u64 (U x) yk (n : Int) = pure (.int .u64 (U (x >>> n))) := shr_UL x n yk
theorem shl_UN (yk : IntKind) : Op.shift .shl .u64 (U x) yk (n : Int) = pure (.int .u64 (U (x <<< n))) := shl_UL x n yk
theorem eq_UU : (U x == U y) = (x == y) := by
 rw [Bool.eq_iff_iff]; simp only [beq_iff_eq, U, Int.natCast_inj, BitVec.toNat_inj]
theorem ne_UU : (U x != U y) = (x != y) := by simp only [bne, eq_UU]
theorem eq_UL (h : n < 18446744073709551616) : (U x == (no_index (OfNat.ofNat n) : Int)) = (x == BitVec.ofNat 64 n) := by
 show (U x == ((n : Nat) : Int)) = _
 rw [lit_U n h, eq_UU]
theorem ne_UL (h : n < 18446744073709551616) : (U x != (no_index (OfNat.ofNat n) : Int)) = (x != BitVec.ofNat 64 n) := by simp only [bne, eq_UL _ _ h]
theorem lt_UU : (U x < U y) = (x < y) := by unfold U; rw [BitVec.lt_def]; simp
theorem le_UU : (U x ≤ U y) = (x ≤ y) := by unfold U; rw [BitVec.le_def]; simp
theorem quo_UU (h : y.toNat ≠ 0) : Op.intDiv .quo .u64 (U x) (U y) = pure (.int .u64 (U (x / y))) := by
 have h0 : ¬ (U y = 0) := by unfold U; omega
 unfold Op.intDiv
 rw [if_neg h0]
 show pure (Value.int .u64 (IntKind.u64.wrap ((U x).tdiv (U y)))) = _
 rw [wrap64_U]
 congr 3
 apply BitVec.eq_of_toNat_eq
 unfold U
 rw [Int.tdiv_eq_ediv_of_nonneg (by omega), ← Int.natCast_ediv, BitVec.ofInt_natCast, BitVec.toNat_ofNat, BitVec.toNat_udiv]
 exact Nat.mod_eq_of_lt (Nat.lt_of_le_of_lt (Nat.div_le_self _ _) x.isLt)
theorem rem_UU (h : y.toNat ≠ 0) : Op.intDiv .rem .u64 (U x) (U y) = pure (.int .u64 (U (x % y))) := by
 have h0 : ¬ (U y = 0) := by unfold U; omega
 unfold Op.intDiv
 rw [if_neg h0]
 show pure (Value.int .u64 ((U x).tmod (U y))) = _
 unfold U
 rw [Int.tmod_eq_emod_of_nonneg (by omega), ← Int.natCast_emod, BitVec.toNat_umod]
theorem quo_UL (h : n ≠ 0) (h' : n < 18446744073709551616) : Op.intDiv .quo .u64 (U x) (no_index (OfNat.ofNat n)) = pure (.int .u64 (U (x / BitVec.ofNat 64 n))) := by
 show Op.intDiv .quo .u64 (U x) ((n : Nat) : Int) = _
 rw [lit_U n h']
 exact quo_UU x _ (by rw [BitVec.toNat_ofNat, Nat.mod_eq_of_lt (by omega)]; exact h)
theorem rem_UL (h : n ≠ 0) (h' : n < 18446744073709551616) : Op.intDiv .rem .u64 (U x) (no_index (OfNat.ofNat n)) = pure (.int .u64 (U (x % BitVec.ofNat 64 n))) := by
 show Op.intDiv .rem .u64 (U x) ((n : Nat) : Int) = _
 rw [lit_U n h']
 exact rem_UU x _ (by rw [BitVec.toNat_ofNat, Nat.mod_eq_of_lt (by omega)]; exact h)
end
theorem wrap8_U (x : BitVec 64) : IntKind.u8.wrap (U x) = B (x.setWidth 8) := by
 rw [IntKind.wrap_u8']; unfold U B; rw [BitVec.toNat_setWidth]; omega
theorem wrap32_U (x : BitVec 64) : IntKind.u32.wrap (U x) = D (x.setWidth 32) := by
 rw [IntKind.wrap_u32']; unfold U D; rw [BitVec.toNat_setWidth]; omega
theorem wrap64_B (x : BitVec 8) : IntKind.u64.wrap (B x) = U (x.setWidth 64) := by
 rw [IntKind.wrap_u64]; unfold U B; rw [BitVec.toNat_setWidth]; have := x.isLt; omega
theorem wrap32_B (x : BitVec 8) : IntKind.u32.wrap (B x) = D (x.setWidth 32) := by
 rw [IntKind.wrap_u32']; unfold D B; rw [BitVec.toNat_setWidth]; have := x.isLt; omega
theorem wrap8_D (x : BitVec 32) : IntKind.u8.wrap (D x) = B (x.setWidth 8) := by
 rw [IntKind.wrap_u8']; unfold D B; rw [BitVec.toNat_setWidth]; omega
theorem wrapi_B (x : BitVec 8) : IntKind.i64.wrap (B x) = (x.toNat : Int) := by
 rw [IntKind.wrap_i64]; unfold B; have := x.isLt; omega
theorem wrap64_UU (x : BitVec 64) : IntKind.u64.wrap (U x) = U x := by rw [wrap64_U, ofInt_U]
end Go.Proofs.YtccgfladbibjbaaGreatDoor
namespace Go.Proofs.YtccgfladbibjbaaGreatDoor
open Go.RowKit
theorem or_nat (a b : Nat) (ha : a < 256) : a ||| b * 256 = a + 256 * b := by
 have := Nat.shiftLeft_add_eq_or_of_lt (i := 8) (b := a) ha b
 rw [Nat.shiftLeft_eq] at this
 rw [Nat.or_comm, ← this]
 omega
theorem or_head (a b : Int) (ha : 0 ≤ a ∧ a < 256) (hb : 0 ≤ b ∧ b < 256) : bits BinOp.or IntKind.i64 a (b * 256) = a + 256 * b := by
 obtain ⟨x, rfl⟩ : ∃ x : Nat, a = (x : Int) := ⟨a.toNat, by omega⟩
 obtain ⟨y, rfl⟩ : ∃ y : Nat, b = (y : Int) := ⟨b.toNat, by omega⟩
 show IntKind.i64.wrap (((BitVec.ofInt 64 (x : Int) ||| BitVec.ofInt 64 ((y : Int) * 256)).toNat : Nat) : Int) = _
 have h1 : (BitVec.ofInt 64 (x : Int)).toNat = x := by rw [BitVec.toNat_ofInt]; omega
 have h2 : (BitVec.ofInt 64 ((y : Int) * 256)).toNat = y * 256 := by rw [BitVec.toNat_ofInt]; omega
 rw [BitVec.toNat_or, h1, h2, or_nat x y (by omega), IntKind.wrap_i64]
 omega
end Go.Proofs.YtccgfladbibjbaaGreatDoor
namespace Go.Proofs.YtccgfladbibjbaaGreatDoor
open Go.RowKit
structure V4 where
 x0 : BitVec 64
 x1 : BitVec 64
 x2 : BitVec 64
 x3 : BitVec 64
def V4.zero : V4 := ⟨0#64, 0#64, 0#64, 0#64⟩
def V4.get (v : V4) (k : Nat) : BitVec 64 := if k = 0 then v.x0 else if k = 1 then v.x1 else if k = 2 then v.x2 else v.x3
def V4.set (v : V4) (k : Nat) (x : BitVec 64) : V4 :=
 if k = 0 then { v with x0 := x } else if k = 1 then { v with x1 := x } else if k = 2 then { v with x2 := x } else { v with x3 := x }
def V4.num (v : V4) : Nat := v.x0.toNat + 18446744073709551616 * (v.x1.toNat + 18446744073709551616 * (v.x2.toNat + 18446744073709551616 * v.x3.toNat))
def V4.arr (v : V4) : Array Value := #[.int .u64 (U v.x0), .int .u64 (U v.x1), .int .u64 (U v.x2), .int .u64 (U v.x3)]
def V4.val (v : V4) : Value := .agg v.arr
def bw (c : Bool) : BitVec 64 := if c then 1#64 else 0#64
def addF (x y : BitVec 64) (c : Bool) : BitVec 64 × Bool := (x + y + bw c, decide (18446744073709551616 ≤ x.toNat + y.toNat + (bw c).toNat))
def subF (x y : BitVec 64) (c : Bool) : BitVec 64 × Bool := (x - y - bw c, decide (x.toNat < y.toNat + (bw c).toNat))
theorem run_addEntry {P : Program} (x y : BitVec 64) (c : Bool) (w : World) : (add64Entry #[.int .u64 (U x), .int .u64 (U y), .int .u64 (U (bw c))]).run P w = .ok (.tuple #[.int .u64 (U (addF x y c).1), .int .u64 (U (bw (addF x y c).2))]) w := by
 have hx := U_lt x
 have hy := U_lt y
 have hc : 0 ≤ U (bw c) ∧ U (bw c) ≤ 1 := by cases c <;> exact ⟨by decide, by decide⟩
 rw [run_add64 _ _ _ hx.1 hy.1 hc.1 hc.2]
 have e1 : (U x + U y + U (bw c)) % 18446744073709551616 = U (addF x y c).1 := by
  unfold addF U
  simp only [BitVec.toNat_add]
  omega
 have e2 : (U x + U y + U (bw c)) / 18446744073709551616 = U (bw (addF x y c).2) := by
  unfold addF
  simp only []
  have hxx := x.isLt
  have hyy := y.isLt
  have hcc : (bw c).toNat ≤ 1 := by cases c <;> decide
  by_cases h : 18446744073709551616 ≤ x.toNat + y.toNat + (bw c).toNat
  ·rw [decide_eq_true h]
   show _ = (1 : Int)
   unfold U; omega
  ·rw [decide_eq_false h]
   show _ = (0 : Int)
   unfold U; omega
 rw [e1, e2]
def sub64Entry : Array Value → Sem Value := fun args => do
 let (x, y, b) ← Extern.MathBitsCarry.three "Sub64" args
 pure (Extern.MathBitsCarry.pair ((x + Extern.MathBitsCarry.m64 - y - b) % Extern.MathBitsCarry.m64) (if x < y + b then 1 else 0))
theorem run_subEntry {P : Program} (x y : BitVec 64) (c : Bool) (w : World) : (sub64Entry #[.int .u64 (U x), .int .u64 (U y), .int .u64 (U (bw c))]).run P w = .ok (.tuple #[.int .u64 (U (subF x y c).1), .int .u64 (U (bw (subF x y c).2))]) w := by
 have key : ∀ k : Nat, k ≤ 1 → (sub64Entry #[.int .u64 (U x), .int .u64 (U y), .int .u64 (k : Int)]).run P w =
   .ok (Extern.MathBitsCarry.pair (((U x).toNat + Extern.MathBitsCarry.m64 - (U y).toNat - k) % Extern.MathBitsCarry.m64) (if (U x).toNat < (U y).toNat + k then 1 else 0)) w := by
  intro k hk
  have : k = 0 ∨ k = 1 := by omega
  rcases this with rfl | rfl <;> rfl
 have hcc : (bw c).toNat ≤ 1 := by cases c <;> decide
 have h := key (bw c).toNat hcc
 rw [show (((bw c).toNat : Nat) : Int) = U (bw c) from rfl] at h
 rw [h]
 have hxx := x.isLt
 have hyy := y.isLt
 have tx : (U x).toNat = x.toNat := rfl
 have ty : (U y).toNat = y.toNat := rfl
 rw [tx, ty]
 unfold Extern.MathBitsCarry.pair
 have e1 : Int.ofNat ((x.toNat + Extern.MathBitsCarry.m64 - y.toNat - (bw c).toNat) % Extern.MathBitsCarry.m64) = U (subF x y c).1 := by
  unfold subF U
  simp only [BitVec.toNat_sub, Extern.MathBitsCarry.m64]
  show ((_ : Nat) : Int) = _
  congr 1
  omega
 have e2 : Int.ofNat (if x.toNat < y.toNat + (bw c).toNat then 1 else 0) = U (bw (subF x y c).2) := by
  unfold subF
  simp only []
  by_cases h : x.toNat < y.toNat + (bw c).toNat
  ·rw [decide_eq_true h, if_pos h]; rfl
  ·rw [decide_eq_false h, if_neg h]; rfl
 rw [e1, e2]
def chainN (f : BitVec 64 → BitVec 64 → Bool → BitVec 64 × Bool) (a b : V4) : Nat → V4 × Bool
 | 0 => (V4.zero, false)
 | k + 1 => ((chainN f a b k).1.set k (f (a.get k) (b.get k) (chainN f a b k).2).1, (f (a.get k) (b.get k) (chainN f a b k).2).2)
def IsVec (w : World) (b : Nat) (t : TypeId) (v : V4) : Prop := w.heap[b]? = some (.cells v.arr t (0, 0))
theorem IsVec.cell {w : World} {b : Nat} {t : TypeId} {v : V4} (h : IsVec w b t v) (k : Nat) (hk : k < 4) : w.cell? ⟨b, k, none⟩ = some (.int .u64 (U (v.get k))) := by
 unfold World.cell?
 simp only []
 rw [h]
 match k, hk with
 | 0, _ => rfl
 | 1, _ => rfl
 | 2, _ => rfl
 | 3, _ => rfl
theorem IsVec.frozen {w : World} {b : Nat} {t : TypeId} {v : V4} (h : IsVec w b t v) (k : Nat) : w.frozen? ⟨b, k, none⟩ = false := by
 unfold World.frozen?
 simp only []
 rw [h]
 simp
theorem IsVec.set {w : World} {b : Nat} {t : TypeId} {v : V4} (h : IsVec w b t v) (k : Nat) (hk : k < 4) (x : BitVec 64) : IsVec (w.setCell ⟨b, k, none⟩ (.int .u64 (U x))) b t (v.set k x) := by
 unfold IsVec at *
 obtain ⟨hlt, he⟩ := Array.getElem?_eq_some_iff.1 h
 show (w.heap.modify b _)[b]? = _
 rw [Array.getElem?_eq_getElem (by rw [Array.size_modify]; exact hlt), Array.getElem_modify_self, he]
 match k, hk with
 | 0, _ => rfl
 | 1, _ => rfl
 | 2, _ => rfl
 | 3, _ => rfl
theorem IsVec.below {w w' : World} {b B : Nat} {t : TypeId} {v : V4} (h : IsVec w b t v) (hb : Below B w w') (hlt : b < B) : IsVec w' b t v := (hb.block b hlt).trans h
theorem IsVec.lt {w : World} {b : Nat} {t : TypeId} {v : V4} (h : IsVec w b t v) : b < w.heap.size := (Array.getElem?_eq_some_iff.1 h).1
theorem IsVec.new (w : World) (t : TypeId) (v : V4) : IsVec (w.alloc (.cells v.arr t)) w.heap.size t v := heap_alloc_new w _
theorem IsVec.newAt (w : World) (t : TypeId) (v : V4) (n : Nat) (hn : n = w.heap.size) : IsVec (w.alloc (.cells v.arr t)) n t v := by subst hn; exact heap_alloc_new w _
theorem IsVec.alloc {w : World} {b : Nat} {t : TypeId} {v : V4} (h : IsVec w b t v) (o : Obj) : IsVec (w.alloc o) b t v := (Below.heap_alloc w o b h.lt).trans h
theorem IsVec.drew {w : World} {b : Nat} {t : TypeId} {v : V4} (h : IsVec w b t v) : IsVec w.drew b t v := h
theorem IsVec.drewN {w : World} {b : Nat} {t : TypeId} {v : V4} (h : IsVec w b t v) (n : Nat) : IsVec (w.drewN n) b t v := h
theorem IsVec.other {w : World} {b : Nat} {t : TypeId} {v : V4} (h : IsVec w b t v) (a : Addr) (u : Value) (hne : b ≠ a.block) : IsVec (w.setCell a u) b t v := (Below.heap_setCell w a u b hne).trans h
def IsBlk (w : World) (b : Nat) (t : TypeId) (vs : List Value) : Prop := w.heap[b]? = some (.cells vs.toArray t (0, 0))
theorem IsBlk.cell {w : World} {b : Nat} {t : TypeId} {vs : List Value} (h : IsBlk w b t vs) (k : Nat) : w.cell? ⟨b, k, none⟩ = vs[k]? := by
 unfold World.cell?
 simp only []
 rw [h]
 simp
theorem IsBlk.frozen {w : World} {b : Nat} {t : TypeId} {vs : List Value} (h : IsBlk w b t vs) (k : Nat) : w.frozen? ⟨b, k, none⟩ = false := by
 unfold World.frozen?
 simp only []
 rw [h]
 simp
theorem IsBlk.set {w : World} {b : Nat} {t : TypeId} {vs : List Value} (h : IsBlk w b t vs) (k : Nat) (u : Value) : IsBlk (w.setCell ⟨b, k, none⟩ u) b t (vs.set k u) := by
 unfold IsBlk at *
 obtain ⟨hlt, he⟩ := Array.getElem?_eq_some_iff.1 h
 show (w.heap.modify b _)[b]? = _
 rw [Array.getElem?_eq_getElem (by rw [Array.size_modify]; exact hlt), Array.getElem_modify_self, he]
 simp
theorem IsBlk.below {w w' : World} {b B : Nat} {t : TypeId} {vs : List Value} (h : IsBlk w b t vs) (hb : Below B w w') (hlt : b < B) : IsBlk w' b t vs := (hb.block b hlt).trans h
theorem IsBlk.lt {w : World} {b : Nat} {t : TypeId} {vs : List Value} (h : IsBlk w b t vs) : b < w.heap.size := (Array.getElem?_eq_some_iff.1 h).1
theorem IsBlk.newAt (w : World) (t : TypeId) (vs : List Value) (n : Nat) (hn : n = w.heap.size) : IsBlk (w.alloc (.cells vs.toArray t)) n t vs := by subst hn; exact heap_alloc_new w _
theorem IsBlk.alloc {w : World} {b : Nat} {t : TypeId} {vs : List Value} (h : IsBlk w b t vs) (o : Obj) : IsBlk (w.alloc o) b t vs := (Below.heap_alloc w o b h.lt).trans h
theorem IsBlk.drew {w : World} {b : Nat} {t : TypeId} {vs : List Value} (h : IsBlk w b t vs) : IsBlk w.drew b t vs := h
theorem IsBlk.drewN {w : World} {b : Nat} {t : TypeId} {vs : List Value} (h : IsBlk w b t vs) (n : Nat) : IsBlk (w.drewN n) b t vs := h
theorem IsBlk.other {w : World} {b : Nat} {t : TypeId} {vs : List Value} (h : IsBlk w b t vs) (a : Addr) (u : Value) (hne : b ≠ a.block) : IsBlk (w.setCell a u) b t vs := (Below.heap_setCell w a u b hne).trans h
def wordVals (l : List (BitVec 64)) : List Value := l.map fun x => .int .u64 (U x)
theorem wordVals_get (l : List (BitVec 64)) (k : Nat) (h : k < l.length) : (wordVals l)[k]? = some (.int .u64 (U (l[k]?.getD 0#64))) := by
 unfold wordVals
 rw [List.getElem?_map, List.getElem?_eq_getElem h]
 rfl
theorem wordVals_set (l : List (BitVec 64)) (k : Nat) (x : BitVec 64) : (wordVals l).set k (.int .u64 (U x)) = wordVals (l.set k x) := by
 unfold wordVals
 rw [List.map_set]
end Go.Proofs.YtccgfladbibjbaaGreatDoor
