/- '==' and '!=' on [4]uint64. -/
import Derived.Test.YtccgfladbibjbaaGreatDoorG01
import Derived.Test.YtccgfladbibjbaaGreatDoorG11
import Derived.Laws.StructEq
namespace Go.Proofs.YtccgfladbibjbaaGreatDoor
open Go.RowKit

theorem agg_u64 (w : World) : (isAgg 44).run Tryz.prog w = .ok false w := by
  simp [isAgg, run_underlying Tryz.underlying44]
theorem sizeOf_u64 (w : World) : (sizeOf 44).run Tryz.prog w = .ok 1 w := by kernel_rfl
theorem part_u64 (cs : Array Value) (off : Nat) (v : Value) (h : cs[off]? = some v) (w : World) : (part 44 cs off).run Tryz.prog w = .ok v w := by
  unfold part
  simp only [Sem.run_bind, agg_u64, Result.andThen_ok, Bool.false_eq_true, if_false, h, Sem.run_pure]
theorem equalIn_u64 (d : Nat) (a b : Int) (w : World) : (Op.equalIn (d + 1) 44 (.int .u64 a) (.int .u64 b)).run Tryz.prog w = .ok (a == b) w :=
  run_equalIn_int w d _ .u64 .u64 a b Tryz.underlying44
theorem equal_four (a0 a1 a2 a3 b0 b1 b2 b3 : Int) (w : World) :
    (Op.equalIn 10000 45 (.agg #[.int .u64 a0, .int .u64 a1, .int .u64 a2, .int .u64 a3]) (.agg #[.int .u64 b0, .int .u64 b1, .int .u64 b2, .int .u64 b3])).run Tryz.prog w = .ok (a0 == b0 && (a1 == b1 && (a2 == b2 && a3 == b3))) w := by
  rw [show (10000 : Nat) = 9998 + 1 + 1 from rfl]
  unfold Op.equalIn
  simp only [Sem.run_bind, run_underlying Tryz.underlying45, Result.andThen_ok, sizeOf_u64]
  simp [Std.Legacy.Range.forIn_eq_forIn_range', Std.Legacy.Range.size, List.range', Sem.run_bind]
  have e9 : ∀ (a b : Int) (w : World), (Op.equalIn 9999 44 (.int .u64 a) (.int .u64 b)).run Tryz.prog w = .ok (a == b) w := fun a b w => equalIn_u64 9998 a b w
  simp only [part_u64 #[.int .u64 a0, .int .u64 a1, .int .u64 a2, .int .u64 a3] 0 (.int .u64 a0) rfl, part_u64 #[.int .u64 a0, .int .u64 a1, .int .u64 a2, .int .u64 a3] 1 (.int .u64 a1) rfl, part_u64 #[.int .u64 a0, .int .u64 a1, .int .u64 a2, .int .u64 a3] 2 (.int .u64 a2) rfl, part_u64 #[.int .u64 a0, .int .u64 a1, .int .u64 a2, .int .u64 a3] 3 (.int .u64 a3) rfl,
    part_u64 #[.int .u64 b0, .int .u64 b1, .int .u64 b2, .int .u64 b3] 0 (.int .u64 b0) rfl, part_u64 #[.int .u64 b0, .int .u64 b1, .int .u64 b2, .int .u64 b3] 1 (.int .u64 b1) rfl, part_u64 #[.int .u64 b0, .int .u64 b1, .int .u64 b2, .int .u64 b3] 2 (.int .u64 b2) rfl, part_u64 #[.int .u64 b0, .int .u64 b1, .int .u64 b2, .int .u64 b3] 3 (.int .u64 b3) rfl, Result.andThen_ok, e9]
  cases a0 == b0 <;> cases a1 == b1 <;> cases a2 == b2 <;> cases a3 == b3 <;> rfl
theorem vec_eq (a b : V4) : (a.x0 == b.x0 && (a.x1 == b.x1 && (a.x2 == b.x2 && a.x3 == b.x3))) = decide (a = b) := by
  rw [Bool.eq_iff_iff, decide_eq_true_iff]
  cases a; cases b; simp
/-- Two numbers are compared. -/
theorem run_eqv (a b : V4) (w : World) : (binOp .eql 45 a.val b.val).run Tryz.prog w = .ok (.bool (decide (a = b))) w := by
  unfold V4.val V4.arr
  rw [run_eql_struct, equal_four, eq_UU, eq_UU, eq_UU, eq_UU, vec_eq]
  rfl
theorem run_neqv (a b : V4) (w : World) : (binOp .neq 45 a.val b.val).run Tryz.prog w = .ok (.bool (!decide (a = b))) w := by
  unfold V4.val V4.arr
  rw [run_neq_struct, equal_four, eq_UU, eq_UU, eq_UU, eq_UU, vec_eq]
  rfl
end Go.Proofs.YtccgfladbibjbaaGreatDoor
