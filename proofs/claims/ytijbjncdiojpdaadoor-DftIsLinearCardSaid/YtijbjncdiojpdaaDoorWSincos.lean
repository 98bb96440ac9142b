/- Walks of math.IsNaN, Abs, IsInf, Sincos. -/
import Derived.Test.YtijbjncdiojpdaaDoorProg
import Derived.Test.YtijbjncdiojpdaaDoorBv
import Derived.Test.YtijbjncdiojpdaaDoorDSpec
import Derived.WalkSpells
import Derived.Lib.Hide
namespace Go.Proofs.YtijbjncdiojpdaaDoor
open Go.RowKit
attribute [local go_sem ↓] add_UU sub_UU mul_UU add_UL add_LU sub_UL sub_LU mul_UL neg_at not_at and_UU or_UU xor_UU andNot_UU and_UL or_LU shr_UL shl_UL shr_UN shl_UN quo_UL rem_UL quo_UU rem_UU
attribute [local go_sem] wrap8_U wrap32_U wrap64_B wrap32_B wrap8_D wrapi_B wrap64_UU eq_UU ne_UU eq_UL ne_UL lt_UU le_UU

theorem call_bits (x : Nat) (w : World) : (callFunc 34 #[.float .f64 x]).run Tryd.prog w = .ok (.value (.int .u64 (x : Int))) w := by
  rfl
theorem call_frombits (x : Nat) (w : World) : (callFunc 35 #[.int .u64 (x : Int)]).run Tryd.prog w = .ok (.value (.float .f64 x)) w := by
  rfl

theorem isNaN (x : Nat) (h : fo x x = some .eq) (w : World) :
    Calls Tryd.prog 36 #[.float .f64 x] w fun e w' => e = .returned (.bool false) ∧ w = w' := by
  unfold fo at h
  go_enter Tryd.func36, Tryd.ntmps36
  go_wp2
  go_ret
  exact ⟨rfl, rfl⟩

theorem abs (x : Nat) (h : x < 9223372036854775808) (w : World) :
    Calls Tryd.prog 44 #[.float .f64 x] w fun e w' => e = .returned (.float .f64 x) ∧ w = w' := by
  have hb := call_bits
  have hf := call_frombits
  have ha : Op.intBits .andNot .u64 (x : Int) 9223372036854775808 = pure (.int .u64 (x : Int)) := by
    have h0 : (x : Int) = U (BitVec.ofNat 64 x) := lit_U x (by omega)
    rw [h0, show (9223372036854775808 : Int) = U (BitVec.ofNat 64 9223372036854775808) from lit_U 9223372036854775808 (by decide), andNot_UU]
    congr 3
    apply BitVec.eq_of_getLsbD_eq
    intro i hi
    simp only [BitVec.getLsbD_and, BitVec.getLsbD_not, hi, decide_true, Bool.true_and, BitVec.getLsbD_ofNat]
    by_cases e : i = 63
    · subst e
      rw [Nat.testBit_lt_two_pow (show x < 2 ^ 63 by simpa using h)]
      rfl
    · rw [show (9223372036854775808 : Nat) = 2 ^ 63 from by decide, Nat.testBit_two_pow, decide_eq_false (fun h => e h.symm)]
      simp
  go_enter Tryd.func44, Tryd.ntmps44
  go_wp2
  exact bodyPost_ret (v := .float .f64 x) (by simp [results, Tryd.results44, go_sem]) rfl ⟨rfl, rfl⟩

theorem isInf (x : Nat) (h : x < 9223372036854775808) (hm : fo x 9218868437227405311 = some .lt) (w : World) :
    Calls Tryd.prog 37 #[.float .f64 x, .int .i64 0] w fun e w' => e = .returned (.bool false) ∧ w = w' := by
  unfold fo at hm
  go_enter Tryd.func37, Tryd.ntmps37
  go_wp2_with fail
  refine (abs x h _).mono ?_
  rintro e w1 ⟨rfl, rfl⟩
  go_wp2
  go_ret
  exact ⟨rfl, rfl⟩

/-- The tables of the polynomials stand where the program lays them. -/
def Tabs (w : World) : Prop :=
  w.cell? ⟨1, 0, none⟩ = some (.float .f64 13666448263388469915) ∧ w.cell? ⟨1, 1, none⟩ = some (.float .f64 4477121864728985349) ∧ w.cell? ⟨1, 2, none⟩ = some (.float .f64 13732177093698800582) ∧
  w.cell? ⟨1, 3, none⟩ = some (.float .f64 4537941361668146421) ∧ w.cell? ⟨1, 4, none⟩ = some (.float .f64 13787419979223748497) ∧ w.cell? ⟨1, 5, none⟩ = some (.float .f64 4586165620538955083) ∧
  w.cell? ⟨2, 0, none⟩ = some (.float .f64 4460209587652500685) ∧ w.cell? ⟨2, 1, none⟩ = some (.float .f64 13716528389658582877) ∧ w.cell? ⟨2, 2, none⟩ = some (.float .f64 4523617212962785441) ∧
  w.cell? ⟨2, 3, none⟩ = some (.float .f64 13774824197404483331) ∧ w.cell? ⟨2, 4, none⟩ = some (.float .f64 4575957461383575504) ∧ w.cell? ⟨2, 5, none⟩ = some (.float .f64 13818544856648471880)

/-- A float operation, whatever comes of it. -/
def fRes (o : Option Nat) (other : Result Value) (w : World) : Result Value :=
  match o with
  | some r => .ok (.float .f64 r) w
  | none => other
theorem fRes_some (r : Nat) (other : Result Value) (w : World) : fRes (some r) other w = .ok (.float .f64 r) w := rfl
def nanRun (P : Program) (op : BinOp) (t : TypeId) (x y : Nat) (w : World) : Result Value := (binOp op t (.float .f64 x) (.float .f64 y)).run P w
theorem run_fop {P : Program} (op : BinOp) (t : TypeId) (x y : Nat) (w : World) : (binOp op t (.float .f64 x) (.float .f64 y)).run P w = fRes (floatBits op .f64 x y) (nanRun P op t x y w) w := by
  unfold fRes nanRun
  cases h : floatBits op .f64 x y with
  | none => rfl
  | some r => exact run_float_arith w op t .f64 x y r h
theorem run_fadd {P : Program} (t : TypeId) (x y : Nat) (w : World) : (binOp .add t (.float .f64 x) (.float .f64 y)).run P w = fRes (floatBits .add .f64 x y) (nanRun P .add t x y w) w := run_fop ..
theorem run_fsub {P : Program} (t : TypeId) (x y : Nat) (w : World) : (binOp .sub t (.float .f64 x) (.float .f64 y)).run P w = fRes (floatBits .sub .f64 x y) (nanRun P .sub t x y w) w := run_fop ..
theorem run_fmul {P : Program} (t : TypeId) (x y : Nat) (w : World) : (binOp .mul t (.float .f64 x) (.float .f64 y)).run P w = fRes (floatBits .mul .f64 x y) (nanRun P .mul t x y w) w := run_fop ..
theorem run_fquo {P : Program} (t : TypeId) (x y : Nat) (w : World) : (binOp .quo t (.float .f64 x) (.float .f64 y)).run P w = fRes (floatBits .quo .f64 x y) (nanRun P .quo t x y w) w := run_fop ..
attribute [local go_sem ↓] run_fadd run_fsub run_fmul run_fquo
theorem unary_neg_f (c : Nat) : Op.unary .neg (.float .f64 c) = pure (.float .f64 (Op.negFloat .f64 c)) := rfl
attribute [local go_sem] fRes_some unary_neg_f

theorem bind_some' {α β : Type} {o : Option α} {f : α → Option β} {r : β} (h : o.bind f = some r) : ∃ a, o = some a ∧ f a = some r := by
  cases o with
  | none => cases h
  | some a => exact ⟨a, rfl, h⟩

/-- What a regular argument's way is made of. -/
structure Steps (x : Nat) (j t y m1 z1 m2 z2 m3 z zz h a q p0 p1 p2 p3 p4 p5 p6 p7 p8 p9 r c qs u0 u1 u2 u3 u4 u5 u6 u7 u8 u9 us s : Nat) : Prop where
  e1 : floatBits .mul .f64 x 4608412980311869571 = some t
  ej : floatToIntVal .f64 t .u64 = some (j : Int)
  e3 : floatBits .mul .f64 y 4605249456957292544 = some m1
  e4 : floatBits .sub .f64 x m1 = some z1
  e5 : floatBits .mul .f64 y 4495793288086814720 = some m2
  e6 : floatBits .sub .f64 z1 m2 = some z2
  e7 : floatBits .mul .f64 y 4388835458085048688 = some m3
  e8 : floatBits .sub .f64 z2 m3 = some z
  e9 : floatBits .mul .f64 z z = some zz
  f1 : floatBits .mul .f64 4602678819172646912 zz = some h
  f2 : floatBits .sub .f64 4607182418800017408 h = some a
  f3 : floatBits .mul .f64 zz zz = some q
  f4 : floatBits .mul .f64 13666448263388469915 zz = some p0
  f5 : floatBits .add .f64 p0 4477121864728985349 = some p1
  f6 : floatBits .mul .f64 p1 zz = some p2
  f7 : floatBits .add .f64 p2 13732177093698800582 = some p3
  f8 : floatBits .mul .f64 p3 zz = some p4
  f9 : floatBits .add .f64 p4 4537941361668146421 = some p5
  f10 : floatBits .mul .f64 p5 zz = some p6
  f11 : floatBits .add .f64 p6 13787419979223748497 = some p7
  f12 : floatBits .mul .f64 p7 zz = some p8
  f13 : floatBits .add .f64 p8 4586165620538955083 = some p9
  f14 : floatBits .mul .f64 q p9 = some r
  f15 : floatBits .add .f64 a r = some c
  g1 : floatBits .mul .f64 z zz = some qs
  g2 : floatBits .mul .f64 4460209587652500685 zz = some u0
  g3 : floatBits .add .f64 u0 13716528389658582877 = some u1
  g4 : floatBits .mul .f64 u1 zz = some u2
  g5 : floatBits .add .f64 u2 4523617212962785441 = some u3
  g6 : floatBits .mul .f64 u3 zz = some u4
  g7 : floatBits .add .f64 u4 13774824197404483331 = some u5
  g8 : floatBits .mul .f64 u5 zz = some u6
  g9 : floatBits .add .f64 u6 4575957461383575504 = some u7
  g10 : floatBits .mul .f64 u7 zz = some u8
  g11 : floatBits .add .f64 u8 13818544856648471880 = some u9
  g12 : floatBits .mul .f64 qs u9 = some us
  g13 : floatBits .add .f64 z us = some s

end Go.Proofs.YtijbjncdiojpdaaDoor
