/- Three lists that are gathered side by side. -/
import Derived.Test.YtijbjncdiojpdaaDoorWLaw2
namespace Go.Proofs.YtijbjncdiojpdaaDoor
open Go.RowKit

/-- What stands while three lists are gathered. -/
structure Tri (w wr : World) (X : Nat → Int) (v1 v2 v3 : Value) (n1 n2 n3 : Nat) (x1 x2 x3 : List Value) : Prop where
  lt : w.heap.size < wr.heap.size
  box : ∀ i, i < 16 → wr.cell? ⟨w.heap.size, i, none⟩ = some (.int .i16 (X i))
  o1 : wr.ownsRow (w.heap.size + 1) 3 1 v1 n1 x1
  o2 : wr.ownsRow (w.heap.size + 1) 3 1 v2 n2 x2
  o3 : wr.ownsRow (w.heap.size + 1) 3 1 v3 n3 x3
  d12 : ∀ k, v1.ownBlock = some k → v2.ownBlock = some k → False
  d13 : ∀ k, v1.ownBlock = some k → v3.ownBlock = some k → False
  d23 : ∀ k, v2.ownBlock = some k → v3.ownBlock = some k → False
  below : Below w.heap.size w wr
theorem Tri.rot {w wr : World} {X : Nat → Int} {v1 v2 v3 : Value} {n1 n2 n3 : Nat} {x1 x2 x3 : List Value} (h : Tri w wr X v1 v2 v3 n1 n2 n3 x1 x2 x3) : Tri w wr X v2 v3 v1 n2 n3 n1 x2 x3 x1 :=
  ⟨h.lt, h.box, h.o2, h.o3, h.o1, h.d23, fun k a b => h.d12 k b a, fun k a b => h.d13 k b a, h.below⟩
theorem Tri.drewN {w wr : World} {X : Nat → Int} {v1 v2 v3 : Value} {n1 n2 n3 : Nat} {x1 x2 x3 : List Value} (h : Tri w wr X v1 v2 v3 n1 n2 n3 x1 x2 x3) (n : Nat) : Tri w (wr.drewN n) X v1 v2 v3 n1 n2 n3 x1 x2 x3 :=
  ⟨h.lt, h.box, h.o1, h.o2, h.o3, h.d12, h.d13, h.d23, below_drewN h.below n⟩
theorem Tri.step {w wr w1 : World} {X : Nat → Int} {v1 v2 v3 u : Value} {n1 n2 n3 : Nat} {x1 x2 x3 y : List Value} {ob : Obj} (h : Tri w wr X v1 v2 v3 n1 n2 n3 x1 x2 x3)
    (hown : w1.ownsRow (w.heap.size + 1) 3 1 u (n1 + 1) y) (hg : (wr.alloc ob).grownBy w1 v1.ownBlock)
    (hl : ∀ k, u.ownBlock = some k → v1.ownBlock = some k ∨ wr.heap.size + 1 ≤ k) : Tri w w1 X u v2 v3 (n1 + 1) n2 n3 y x2 x3 := by
  have hlt := h.lt
  have hb : w1.heap[w.heap.size]? = wr.heap[w.heap.size]? := by
    rw [hg.block w.heap.size (by simp; omega) (fun e => by have := (h.o1.lt _ e.symm).1; omega), Below.heap_alloc wr ob _ hlt]
  refine ⟨?_, ?_, hown, (h.o2.alloc ob).kept hg (kept_of h.d12), (h.o3.alloc ob).kept hg (kept_of h.d13), ?_, ?_, h.d23, ?_⟩
  · have := hg.size
    simp at this
    omega
  · intro i hi
    exact (World.cell?_of_block (w := wr) (a := ⟨w.heap.size, i, none⟩) hb).trans (h.box i hi)
  · intro k a b
    rcases hl k a with h3 | h3
    · exact h.d12 k h3 b
    · have := (h.o2.lt k b).2
      omega
  · intro k a b
    rcases hl k a with h3 | h3
    · exact h.d13 k h3 b
    · have := (h.o3.lt k b).2
      omega
  · exact (h.below.alloc h.below.size ob).grown hg (by have := h.below.size; simp; omega) (fun k hk => by have := (h.o1.lt k hk).1; omega)
theorem Tri.start (w : World) (X : Nat → Int) (arr : Array Value) (t : TypeId) (h : ∀ i, i < 16 → arr[i]? = some (.int .i16 (X i))) : Tri w (w.alloc (.cells arr t)) X (.slice none 0 0) (.slice none 0 0) (.slice none 0 0) 0 0 0 [] [] [] :=
  ⟨by simp, fun i hi => cell_new _ _ _ _ _ (h i hi), World.ownsRow_nil _ _ _ _, World.ownsRow_nil _ _ _ _, World.ownsRow_nil _ _ _ _, fun k h => (by cases h), fun k h => (by cases h), fun k h => (by cases h), (Below.refl _ w).alloc (Nat.le_refl _) _⟩
theorem ivals_succ (A : Nat → Int) (n : Nat) : ivals A (n + 1) = ivals A n ++ [Value.int .i64 (A n)] := by simp [ivals, List.range_succ]
theorem Ints.of_ivals {w : World} {base n : Nat} {v : Value} {A : Nat → Int} (hn : 0 < n) (h : w.ownsRow base 3 1 v n (ivals A n)) : Ints w v n A :=
  Ints.of_owns hn h fun i hi => by simp [ivals, hi]

def rem500 (X : Nat → Int) : Nat → Int := fun i => (X i).tmod 500
theorem rem500_le (X : Nat → Int) (i : Nat) : -499 ≤ rem500 X i ∧ rem500 X i ≤ 499 := by
  unfold rem500
  have h1 := Int.tmod_lt_of_pos (X i) (show (0 : Int) < 500 by decide)
  have h2 := Int.lt_tmod_of_pos (X i) (show (0 : Int) < 500 by decide) 
  omega
end Go.Proofs.YtijbjncdiojpdaaDoor
