/- The transform, as a function of the bits. No program in sight. -/
import Derived.Test.YtijbjncdiojpdaaDoorWClone
namespace Go.Proofs.YtijbjncdiojpdaaDoor
open Go.RowKit

def cadd (a b : Nat × Nat) : Option (Nat × Nat) := cSumBits .add .f64 a.1 a.2 b.1 b.2
def cmul (a b : Nat × Nat) : Option (Nat × Nat) := cMulBits a.1 a.2 b.1 b.2
def cget (o : Option (Nat × Nat)) : Nat × Nat := o.getD (0, 0)
def rootR (n k : Nat) : Nat × Nat := cget (rootAt n k)
def evens (X : Nat → Nat × Nat) : Nat → Nat × Nat := fun i => X (2 * i)
def odds (X : Nat → Nat × Nat) : Nat → Nat × Nat := fun i => X (2 * i + 1)
/-- The transform of 2 ^ m numbers. -/
def dftS : Nat → (Nat → Nat × Nat) → Nat → Nat × Nat
  | 0, X => X
  | m + 1, X => fun k => cget (cadd (dftS m (evens X) (k % 2 ^ m)) (cget (cmul (rootR (2 ^ (m + 1)) k) (dftS m (odds X) (k % 2 ^ m)))))
/-- Every operation on the way is valid. -/
def dftOk : Nat → (Nat → Nat × Nat) → Prop
  | 0, _ => True
  | m + 1, X => dftOk m (evens X) ∧ dftOk m (odds X) ∧ ∀ k, k < 2 ^ (m + 1) → (rootAt (2 ^ (m + 1)) k).isSome = true ∧ (cmul (rootR (2 ^ (m + 1)) k) (dftS m (odds X) (k % 2 ^ m))).isSome = true ∧
      (cadd (dftS m (evens X) (k % 2 ^ m)) (cget (cmul (rootR (2 ^ (m + 1)) k) (dftS m (odds X) (k % 2 ^ m))))).isSome = true
theorem cget_some {o : Option (Nat × Nat)} (h : o.isSome = true) : o = some (cget o) := by
  cases o with
  | none => cases h
  | some a => rfl

/-- The two halves of the list, while they are gathered. -/
structure Halves (w wr : World) (X : Nat → Nat × Nat) (va vb : Value) (a b : Nat) : Prop where
  blk : wr.heap[w.heap.size]? = some (.cells #[va, vb] 30 (0, 0))
  oa : wr.ownsRow (w.heap.size + 1) 34 1 va a (cvals (evens X) a)
  ob : wr.ownsRow (w.heap.size + 1) 34 1 vb b (cvals (odds X) b)
  dj : ∀ k, va.ownBlock = some k → vb.ownBlock = some k → False
  below : Below w.heap.size w wr
theorem Halves.lt {w wr : World} {X : Nat → Nat × Nat} {va vb : Value} {a b : Nat} (h : Halves w wr X va vb a b) : w.heap.size < wr.heap.size := (Array.getElem?_eq_some_iff.1 h.blk).1
theorem Halves.cellA {w wr : World} {X : Nat → Nat × Nat} {va vb : Value} {a b : Nat} (h : Halves w wr X va vb a b) : wr.cell? ⟨w.heap.size, 0, none⟩ = some va := by
  unfold World.cell?
  simp only []
  rw [h.blk]
  rfl
theorem Halves.cellB {w wr : World} {X : Nat → Nat × Nat} {va vb : Value} {a b : Nat} (h : Halves w wr X va vb a b) : wr.cell? ⟨w.heap.size, 1, none⟩ = some vb := by
  unfold World.cell?
  simp only []
  rw [h.blk]
  rfl
theorem Halves.frozen {w wr : World} {X : Nat → Nat × Nat} {va vb : Value} {a b : Nat} (h : Halves w wr X va vb a b) (k : Nat) : wr.frozen? ⟨w.heap.size, k, none⟩ = false := by
  unfold World.frozen?
  simp only []
  rw [h.blk]
  simp
theorem kept_of {va vb : Value} (dj : ∀ k, va.ownBlock = some k → vb.ownBlock = some k → False) : vb.ownBlock = none ∨ vb.ownBlock ≠ va.ownBlock := by
  cases h : vb.ownBlock with
  | none => exact .inl rfl
  | some k => exact .inr fun e => dj k e.symm h
theorem kept_of' {va vb : Value} (dj : ∀ k, va.ownBlock = some k → vb.ownBlock = some k → False) : va.ownBlock = none ∨ va.ownBlock ≠ vb.ownBlock := by
  cases h : va.ownBlock with
  | none => exact .inl rfl
  | some k => exact .inr fun e => dj k h e.symm
theorem Halves.stepA {w wr w1 : World} {X : Nat → Nat × Nat} {va vb v1 : Value} {a b : Nat} {ob : Obj} (h : Halves w wr X va vb a b)
    (hown : w1.ownsRow (w.heap.size + 1) 34 1 v1 (a + 1) (cvals (evens X) a ++ [cval (X (2 * a))])) (hg : (wr.alloc ob).grownBy w1 va.ownBlock)
    (hl : ∀ k, v1.ownBlock = some k → va.ownBlock = some k ∨ wr.heap.size + 1 ≤ k) : Halves w (w1.setCell ⟨w.heap.size, 0, none⟩ v1) X v1 vb (a + 1) b := by
  have hH : w1.heap[w.heap.size]? = some (.cells #[va, vb] 30 (0, 0)) := by
    rw [hg.block w.heap.size (by have := h.lt; simp; omega) (fun e => by have := (h.oa.lt _ e.symm).1; omega), Below.heap_alloc wr ob _ h.lt]
    exact h.blk
  obtain ⟨hlt, he⟩ := Array.getElem?_eq_some_iff.1 hH
  refine ⟨?_, ?_, ?_, ?_, ?_⟩
  · show (w1.heap.modify w.heap.size _)[w.heap.size]? = _
    rw [Array.getElem?_eq_getElem (by rw [Array.size_modify]; exact hlt), Array.getElem_modify_self, he]
    rfl
  · rw [cvals_succ]
    exact ownsRow_setCell_below hown (by show w.heap.size < _; omega) _
  · exact ownsRow_setCell_below ((h.ob.alloc ob).kept hg (kept_of h.dj)) (by show w.heap.size < _; omega) _
  · intro k h1 h2
    rcases hl k h1 with h3 | h3
    · exact h.dj k h3 h2
    · have := (h.ob.lt k h2).2
      omega
  · have hb := (h.below.alloc h.below.size ob).grown hg (by have := h.below.size; simp; omega) (fun k hk => by have := (h.oa.lt k hk).1; omega)
    exact hb.setCell (p := ⟨w.heap.size, 0, none⟩) (by simp) _
theorem Halves.stepB {w wr w1 : World} {X : Nat → Nat × Nat} {va vb v1 : Value} {a b : Nat} {ob : Obj} (h : Halves w wr X va vb a b)
    (hown : w1.ownsRow (w.heap.size + 1) 34 1 v1 (b + 1) (cvals (odds X) b ++ [cval (X (2 * b + 1))])) (hg : (wr.alloc ob).grownBy w1 vb.ownBlock)
    (hl : ∀ k, v1.ownBlock = some k → vb.ownBlock = some k ∨ wr.heap.size + 1 ≤ k) : Halves w (w1.setCell ⟨w.heap.size, 1, none⟩ v1) X va v1 a (b + 1) := by
  have hH : w1.heap[w.heap.size]? = some (.cells #[va, vb] 30 (0, 0)) := by
    rw [hg.block w.heap.size (by have := h.lt; simp; omega) (fun e => by have := (h.ob.lt _ e.symm).1; omega), Below.heap_alloc wr ob _ h.lt]
    exact h.blk
  obtain ⟨hlt, he⟩ := Array.getElem?_eq_some_iff.1 hH
  refine ⟨?_, ?_, ?_, ?_, ?_⟩
  · show (w1.heap.modify w.heap.size _)[w.heap.size]? = _
    rw [Array.getElem?_eq_getElem (by rw [Array.size_modify]; exact hlt), Array.getElem_modify_self, he]
    rfl
  · exact ownsRow_setCell_below ((h.oa.alloc ob).kept hg (kept_of' h.dj)) (by show w.heap.size < _; omega) _
  · rw [cvals_succ]
    exact ownsRow_setCell_below hown (by show w.heap.size < _; omega) _
  · intro k h1 h2
    rcases hl k h2 with h3 | h3
    · exact h.dj k h1 h3
    · have := (h.oa.lt k h1).2
      omega
  · have hb := (h.below.alloc h.below.size ob).grown hg (by have := h.below.size; simp; omega) (fun k hk => by have := (h.ob.lt k hk).1; omega)
    exact hb.setCell (p := ⟨w.heap.size, 1, none⟩) (by simp) _
theorem Halves.keepA {w wr w1 : World} {X : Nat → Nat × Nat} {va vb : Value} {a b : Nat} {ob : Obj} (h : Halves w wr X va vb a b) (hg : (wr.alloc ob).grownBy w1 va.ownBlock) :
    w1.cell? ⟨w.heap.size, 0, none⟩ = some va ∧ ∀ k, w1.frozen? ⟨w.heap.size, k, none⟩ = false := by
  have hH : w1.heap[w.heap.size]? = some (.cells #[va, vb] 30 (0, 0)) := by
    rw [hg.block w.heap.size (by have := h.lt; simp; omega) (fun e => by have := (h.oa.lt _ e.symm).1; omega), Below.heap_alloc wr ob _ h.lt]
    exact h.blk
  refine ⟨?_, fun k => ?_⟩
  · unfold World.cell?
    simp only []
    rw [hH]
    rfl
  · unfold World.frozen?
    simp only []
    rw [hH]
    simp
theorem Halves.keepB {w wr w1 : World} {X : Nat → Nat × Nat} {va vb : Value} {a b : Nat} {ob : Obj} (h : Halves w wr X va vb a b) (hg : (wr.alloc ob).grownBy w1 vb.ownBlock) :
    w1.cell? ⟨w.heap.size, 1, none⟩ = some vb ∧ ∀ k, w1.frozen? ⟨w.heap.size, k, none⟩ = false := by
  have hH : w1.heap[w.heap.size]? = some (.cells #[va, vb] 30 (0, 0)) := by
    rw [hg.block w.heap.size (by have := h.lt; simp; omega) (fun e => by have := (h.ob.lt _ e.symm).1; omega), Below.heap_alloc wr ob _ h.lt]
    exact h.blk
  refine ⟨?_, fun k => ?_⟩
  · unfold World.cell?
    simp only []
    rw [hH]
    rfl
  · unfold World.frozen?
    simp only []
    rw [hH]
    simp
theorem Halves.start (w : World) (X : Nat → Nat × Nat) : Halves w (w.alloc (.cells #[.slice none 0 0, .slice none 0 0] 30)) X (.slice none 0 0) (.slice none 0 0) 0 0 :=
  ⟨heap_alloc_new w _, World.ownsRow_nil _ _ _ _, World.ownsRow_nil _ _ _ _, fun k h => (by cases h), (Below.refl _ w).alloc (Nat.le_refl _) _⟩
end Go.Proofs.YtijbjncdiojpdaaDoor
