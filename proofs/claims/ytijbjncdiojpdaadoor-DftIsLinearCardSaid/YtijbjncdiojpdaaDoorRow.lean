/- A block of memory whose cells hold given values. -/
import Derived.Test.YtijbjncdiojpdaaDoorProg
import Derived.WalkKit
import Derived.WalkSpells
import Derived.Lib.Hide
import Derived.Laws.MakeOwn
import Derived.Laws.OwnMore
import Derived.Deep.QuietTactic
import Derived.BigQuiet
import Derived.Handy
namespace Go.Proofs.YtijbjncdiojpdaaDoor
open Go.RowKit

/-- Block g, of type t, holds n values, X 0, X 1, .. -/
def Row (w : World) (g : Nat) (t : TypeId) (n : Nat) (X : Nat → Value) : Prop := w.heap[g]? = some (.cells ((List.range n).map X).toArray t (0, 0))
theorem Row.cell {w : World} {g : Nat} {t : TypeId} {n : Nat} {X : Nat → Value} (h : Row w g t n X) (k : Nat) (hk : k < n) : w.cell? ⟨g, k, none⟩ = some (X k) := by
  unfold World.cell?
  simp only []
  rw [h]
  simp [hk]
theorem Row.frozen {w : World} {g : Nat} {t : TypeId} {n : Nat} {X : Nat → Value} (h : Row w g t n X) (k : Nat) : w.frozen? ⟨g, k, none⟩ = false := by
  unfold World.frozen?
  simp only []
  rw [h]
  simp
theorem Row.set {w : World} {g : Nat} {t : TypeId} {n : Nat} {X : Nat → Value} (h : Row w g t n X) (k : Nat) (u : Value) : Row (w.setCell ⟨g, k, none⟩ u) g t n (fun j => if j = k then u else X j) := by
  unfold Row at *
  obtain ⟨hlt, he⟩ := Array.getElem?_eq_some_iff.1 h
  show (w.heap.modify g _)[g]? = _
  rw [Array.getElem?_eq_getElem (by rw [Array.size_modify]; exact hlt), Array.getElem_modify_self, he]
  show some (Obj.cells (((List.range n).map X).toArray.setIfInBounds k u) t (0, 0)) = _
  congr 2
  apply Array.ext'
  simp only [List.setIfInBounds_toArray]
  apply List.ext_getElem?
  intro i
  by_cases hi : i < n
  · by_cases e : i = k
    · subst e
      simp [hi]
    · rw [List.getElem?_set_ne (fun h => e h.symm)]
      simp [hi, e]
  · rw [List.getElem?_eq_none (by simp; omega), List.getElem?_eq_none (by simp; omega)]
theorem Row.lt {w : World} {g : Nat} {t : TypeId} {n : Nat} {X : Nat → Value} (h : Row w g t n X) : g < w.heap.size := (Array.getElem?_eq_some_iff.1 h).1
theorem Row.below {w w' : World} {g : Nat} {t : TypeId} {n B : Nat} {X : Nat → Value} (h : Row w g t n X) (hb : Below B w w') (hlt : g < B) : Row w' g t n X := (hb.block g hlt).trans h
theorem Row.alloc {w : World} {g : Nat} {t : TypeId} {n : Nat} {X : Nat → Value} (h : Row w g t n X) (o : Obj) : Row (w.alloc o) g t n X := (Below.heap_alloc w o g h.lt).trans h
theorem Row.drew {w : World} {g : Nat} {t : TypeId} {n : Nat} {X : Nat → Value} (h : Row w g t n X) : Row w.drew g t n X := h
theorem Row.drewN {w : World} {g : Nat} {t : TypeId} {n : Nat} {X : Nat → Value} (h : Row w g t n X) (m : Nat) : Row (w.drewN m) g t n X := h
theorem Row.other {w : World} {g : Nat} {t : TypeId} {n : Nat} {X : Nat → Value} (h : Row w g t n X) (a : Addr) (u : Value) (hne : g ≠ a.block) : Row (w.setCell a u) g t n X := (Below.heap_setCell w a u g hne).trans h
theorem Row.new (w : World) (g : Nat) (t : TypeId) (n : Nat) (X : Nat → Value) (hg : g = w.heap.size) : Row (w.alloc (.cells ((List.range n).map X).toArray t)) g t n X := by
  subst hg
  exact heap_alloc_new w _
theorem Row.congr {w : World} {g : Nat} {t : TypeId} {n : Nat} {X Y : Nat → Value} (h : Row w g t n X) (e : ∀ i, i < n → X i = Y i) : Row w g t n Y := by
  unfold Row at *
  rw [h]
  congr 3
  apply List.map_congr_left
  intro i hi
  exact e i (by simpa using hi)
theorem below_drewN {B : Nat} {a w : World} (h : Below B a w) (n : Nat) : Below B a (w.drewN n) := ⟨h.os, h.tape, h.output, h.size, h.block⟩
theorem madeCells_one (z : Value) (n : Nat) : madeCells #[z] n = ((List.range n).map fun _ => z).toArray := by
  apply Array.ext'
  rw [toList_madeCells_one]
  apply List.ext_getElem?
  intro i
  by_cases hi : i < n <;> simp [hi]
theorem run_store_complex {P : Program} (w : World) (a : Addr) (m : Mode) (k : FloatKind) (x y : Nat) : (store a (.complex k x y) m).run P w = stored P w a (.complex k x y) m := run_store P w a _ m rfl
theorem run_store_float {P : Program} (w : World) (a : Addr) (m : Mode) (k : FloatKind) (x : Nat) : (store a (.float k x) m).run P w = stored P w a (.float k x) m := run_store P w a _ m rfl
end Go.Proofs.YtijbjncdiojpdaaDoor
