/- '!=' on [32]uint8: of the same bytes. -/
import Derived.Test.YtccgfladbibjbaaGreatDoorG18
import Derived.DeepKeys
import Derived.ChangeSlices
import Derived.Laws.StructEq
namespace Go.Proofs.YtccgfladbibjbaaGreatDoor
open Go.RowKit

theorem formedB (f : Nat → BitVec 8) : (bval ((List.range 32).map f)).formed Tryz.prog 64 = true := by kernel_rfl
theorem wf_B (x : BitVec 8) : (Lit.int .u8 (B x)).wf = true := by
  have := x.isLt
  unfold B
  simp [Lit.wf, IntKind.min, IntKind.max, IntKind.signed, IntKind.bits]
  omega
theorem litsB (f : Nat → BitVec 8) : ∃ la, Tryz.prog.keyLits 4 64 (bval ((List.range 32).map f)).cells.toList = some la := by
  have k5 : Tryz.prog.cellsOf 5 = 1 := by kernel_rfl
  have k64 : Tryz.prog.cellsOf 64 = 32 := by kernel_rfl
  have hc : (bval ((List.range 32).map f)).cells.toList = byteVals ((List.range 32).map f) := rfl
  have h1 : ∀ i, i < 32 → Tryz.prog.keyLits 3 5 (((bval ((List.range 32).map f)).cells.toList.drop (i * Tryz.prog.cellsOf 5)).take (Tryz.prog.cellsOf 5)) = some [Lit.int .u8 (B (f i))] := by
    intro i hi
    have hl : i < (byteVals ((List.range 32).map f)).length := by rw [byteVals_length]; simp; exact hi
    have e : ((byteVals ((List.range 32).map f)).drop i).take 1 = [Value.int .u8 (B (f i))] := by
      rw [List.drop_eq_getElem_cons hl, List.take_succ_cons, List.take_zero]
      simp [byteVals]
    rw [k5, Nat.mul_one, hc, e]
    unfold Program.keyLits
    rw [Tryz.underlying5]
    simp only []
    rw [if_pos ⟨trivial, wf_B _⟩]
  refine ⟨((List.range 32).map fun i => [Lit.int .u8 (B (f i))]).flatten, ?_⟩
  unfold Program.keyLits
  rw [Tryz.underlying64]
  simp only []
  rw [if_pos (by rw [k64, hc, byteVals_length]; simp), Go.ChangeShapes.mapM_range_of 32 h1]
  rfl
theorem neqB (l : List (BitVec 8)) (h : l.length = 32) (w : World) : (binOp .neq 64 (bval l) (bval l)).run Tryz.prog w = .ok (.bool false) w := by
  obtain ⟨f, rfl⟩ : ∃ f : Nat → BitVec 8, l = (List.range 32).map f := by
    refine ⟨fun i => l[i]?.getD 0#8, ?_⟩
    apply List.ext_getElem?
    intro i
    by_cases hi : i < 32
    · rw [List.getElem?_map, List.getElem?_range hi, List.getElem?_eq_getElem (by omega)]
      simp [List.getElem?_eq_getElem (show i < l.length by omega)]
    · rw [List.getElem?_eq_none (by omega), List.getElem?_eq_none (by simp; omega)]
  obtain ⟨la, hla⟩ := litsB f
  obtain ⟨r, hr, hiff⟩ := run_equalIn_deep (P := Tryz.prog) 9998 2 64 (by kernel_rfl) w 4 4 _ _ _ _ (formedB f) (formedB f) hla hla
  have : r = true := hiff.2 rfl
  subst this
  unfold bval at hr ⊢
  rw [run_neq_struct, hr]
  rfl
end Go.Proofs.YtccgfladbibjbaaGreatDoor
