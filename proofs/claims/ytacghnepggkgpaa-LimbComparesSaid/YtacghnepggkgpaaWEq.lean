/- '==' on [4]uint64. -/
import Derived.Test.YtacghnepggkgpaaWRefMul
import Derived.Test.YtacghnepggkgpaaWMul
namespace Go.Proofs.Ytacghnepggkgpaa
open Go.RowKit

theorem size_u64 : Try.prog.cellsOf 22 = 1 := by kernel_rfl
theorem agg_u64 (w : World) : (isAgg 22).run Try.prog w = .ok false w := by
  simp [isAgg, run_underlying Try.underlying22]
theorem sizeOf_u64 (w : World) : (sizeOf 22).run Try.prog w = .ok 1 w := by kernel_rfl
theorem part_u64 (cs : Array Value) (off : Nat) (v : Value) (h : cs[off]? = some v) (w : World) : (part 22 cs off).run Try.prog w = .ok v w := by
  unfold part
  simp only [Sem.run_bind, agg_u64, Result.andThen_ok, Bool.false_eq_true, if_false, h, Sem.run_pure]
theorem equalIn_u64 (d : Nat) (a b : Int) (w : World) : (Op.equalIn (d + 1) 22 (.int .u64 a) (.int .u64 b)).run Try.prog w = .ok (a == b) w :=
  run_equalIn_int w d _ .u64 .u64 a b Try.underlying22

theorem run_eql_four (a0 a1 a2 a3 b0 b1 b2 b3 : Int) (w : World) :
    (binOp .eql 38 (.agg #[.int .u64 a0, .int .u64 a1, .int .u64 a2, .int .u64 a3]) (.agg #[.int .u64 b0, .int .u64 b1, .int .u64 b2, .int .u64 b3])).run Try.prog w = .ok (.bool (a0 == b0 && (a1 == b1 && (a2 == b2 && a3 == b3)))) w := by
  rw [run_eql_struct, show (10000 : Nat) = 9998 + 1 + 1 from rfl]
  unfold Op.equalIn
  simp only [Sem.run_bind, run_underlying Try.underlying38, Result.andThen_ok, sizeOf_u64]
  simp [Std.Legacy.Range.forIn_eq_forIn_range', Std.Legacy.Range.size, List.range', Sem.run_bind]
  have e9 : ∀ (a b : Int) (w : World), (Op.equalIn 9999 22 (.int .u64 a) (.int .u64 b)).run Try.prog w = .ok (a == b) w := fun a b w => equalIn_u64 9998 a b w
  simp only [part_u64 #[.int .u64 a0, .int .u64 a1, .int .u64 a2, .int .u64 a3] 0 (.int .u64 a0) rfl, part_u64 #[.int .u64 a0, .int .u64 a1, .int .u64 a2, .int .u64 a3] 1 (.int .u64 a1) rfl, part_u64 #[.int .u64 a0, .int .u64 a1, .int .u64 a2, .int .u64 a3] 2 (.int .u64 a2) rfl, part_u64 #[.int .u64 a0, .int .u64 a1, .int .u64 a2, .int .u64 a3] 3 (.int .u64 a3) rfl,
    part_u64 #[.int .u64 b0, .int .u64 b1, .int .u64 b2, .int .u64 b3] 0 (.int .u64 b0) rfl, part_u64 #[.int .u64 b0, .int .u64 b1, .int .u64 b2, .int .u64 b3] 1 (.int .u64 b1) rfl, part_u64 #[.int .u64 b0, .int .u64 b1, .int .u64 b2, .int .u64 b3] 2 (.int .u64 b2) rfl, part_u64 #[.int .u64 b0, .int .u64 b1, .int .u64 b2, .int .u64 b3] 3 (.int .u64 b3) rfl, Result.andThen_ok, e9]
  cases a0 == b0 <;> cases a1 == b1 <;> cases a2 == b2 <;> cases a3 == b3 <;> rfl
/-- Two numbers are compared. -/
theorem run_eql_vec (a b : V4) (w : World) : (binOp .eql 38 a.val b.val).run Try.prog w = .ok (.bool (a.x0 == b.x0 && (a.x1 == b.x1 && (a.x2 == b.x2 && a.x3 == b.x3)))) w := by
  unfold V4.val V4.arr
  rw [run_eql_four, eq_UU, eq_UU, eq_UU, eq_UU]
theorem vec_eq (a b : V4) : (a.x0 == b.x0 && (a.x1 == b.x1 && (a.x2 == b.x2 && a.x3 == b.x3))) = true ↔ a = b := by
  cases a; cases b; simp
end Go.Proofs.Ytacghnepggkgpaa
