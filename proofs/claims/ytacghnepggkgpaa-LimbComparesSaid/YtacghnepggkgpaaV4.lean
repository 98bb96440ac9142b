/- Numbers of 256 bits as four words. No program in sight. -/
import Derived.Test.YtacghnepggkgpaaBv
namespace Go.Proofs.Ytacghnepggkgpaa
open Go.RowKit

structure V4 where
  x0 : BitVec 64
  x1 : BitVec 64
  x2 : BitVec 64
  x3 : BitVec 64

def V4.zero : V4 := ⟨0#64, 0#64, 0#64, 0#64⟩
def V4.get (v : V4) (k : Nat) : BitVec 64 := if k = 0 then v.x0 else if k = 1 then v.x1 else if k = 2 then v.x2 else v.x3
def V4.set (v : V4) (k : Nat) (x : BitVec 64) : V4 :=
  if k = 0 then { v with x0 := x } else if k = 1 then { v with x1 := x } else if k = 2 then { v with x2 := x } else { v with x3 := x }
def V4.num (v : V4) : Nat := v.x0.toNat + 18446744073709551616 * (v.x1.toNat + 18446744073709551616 * (v.x2.toNat + 18446744073709551616 * v.x3.toNat))
def V4.arr (v : V4) : Array Value := #[.int .u64 (U v.x0), .int .u64 (U v.x1), .int .u64 (U v.x2), .int .u64 (U v.x3)]
def V4.val (v : V4) : Value := .agg v.arr

/-- A carry as a word. -/
def bw (c : Bool) : BitVec 64 := if c then 1#64 else 0#64
def addF (x y : BitVec 64) (c : Bool) : BitVec 64 × Bool := (x + y + bw c, decide (18446744073709551616 ≤ x.toNat + y.toNat + (bw c).toNat))
def subF (x y : BitVec 64) (c : Bool) : BitVec 64 × Bool := (x - y - bw c, decide (x.toNat < y.toNat + (bw c).toNat))

theorem run_addEntry {P : Program} (x y : BitVec 64) (c : Bool) (w : World) : (add64Entry #[.int .u64 (U x), .int .u64 (U y), .int .u64 (U (bw c))]).run P w = .ok (.tuple #[.int .u64 (U (addF x y c).1), .int .u64 (U (bw (addF x y c).2))]) w := by
  have hx := U_lt x
  have hy := U_lt y
  have hc : 0 ≤ U (bw c) ∧ U (bw c) ≤ 1 := by cases c <;> exact ⟨by decide, by decide⟩
  rw [run_add64 _ _ _ hx.1 hy.1 hc.1 hc.2]
  have e1 : (U x + U y + U (bw c)) % 18446744073709551616 = U (addF x y c).1 := by
    unfold addF U
    simp only [BitVec.toNat_add]
    omega
  have e2 : (U x + U y + U (bw c)) / 18446744073709551616 = U (bw (addF x y c).2) := by
    unfold addF
    simp only []
    have hxx := x.isLt
    have hyy := y.isLt
    have hcc : (bw c).toNat ≤ 1 := by cases c <;> decide
    by_cases h : 18446744073709551616 ≤ x.toNat + y.toNat + (bw c).toNat
    · rw [decide_eq_true h]
      show _ = (1 : Int)
      unfold U; omega
    · rw [decide_eq_false h]
      show _ = (0 : Int)
      unfold U; omega
  rw [e1, e2]

def sub64Entry : Array Value → Sem Value := fun args => do
  let (x, y, b) ← Extern.MathBitsCarry.three "Sub64" args
  pure (Extern.MathBitsCarry.pair ((x + Extern.MathBitsCarry.m64 - y - b) % Extern.MathBitsCarry.m64) (if x < y + b then 1 else 0))

theorem run_subEntry {P : Program} (x y : BitVec 64) (c : Bool) (w : World) : (sub64Entry #[.int .u64 (U x), .int .u64 (U y), .int .u64 (U (bw c))]).run P w = .ok (.tuple #[.int .u64 (U (subF x y c).1), .int .u64 (U (bw (subF x y c).2))]) w := by
  have key : ∀ k : Nat, k ≤ 1 → (sub64Entry #[.int .u64 (U x), .int .u64 (U y), .int .u64 (k : Int)]).run P w =
      .ok (Extern.MathBitsCarry.pair (((U x).toNat + Extern.MathBitsCarry.m64 - (U y).toNat - k) % Extern.MathBitsCarry.m64) (if (U x).toNat < (U y).toNat + k then 1 else 0)) w := by
    intro k hk
    have : k = 0 ∨ k = 1 := by omega
    rcases this with rfl | rfl <;> rfl
  have hcc : (bw c).toNat ≤ 1 := by cases c <;> decide
  have h := key (bw c).toNat hcc
  rw [show (((bw c).toNat : Nat) : Int) = U (bw c) from rfl] at h
  rw [h]
  have hxx := x.isLt
  have hyy := y.isLt
  have tx : (U x).toNat = x.toNat := rfl
  have ty : (U y).toNat = y.toNat := rfl
  rw [tx, ty]
  unfold Extern.MathBitsCarry.pair
  have e1 : Int.ofNat ((x.toNat + Extern.MathBitsCarry.m64 - y.toNat - (bw c).toNat) % Extern.MathBitsCarry.m64) = U (subF x y c).1 := by
    unfold subF U
    simp only [BitVec.toNat_sub, Extern.MathBitsCarry.m64]
    show ((_ : Nat) : Int) = _
    congr 1
    omega
  have e2 : Int.ofNat (if x.toNat < y.toNat + (bw c).toNat then 1 else 0) = U (bw (subF x y c).2) := by
    unfold subF
    simp only []
    by_cases h : x.toNat < y.toNat + (bw c).toNat
    · rw [decide_eq_true h, if_pos h]; rfl
    · rw [decide_eq_false h, if_neg h]; rfl
  rw [e1, e2]

/-- The state of a chain of carries after k words. -/
def chainN (f : BitVec 64 → BitVec 64 → Bool → BitVec 64 × Bool) (a b : V4) : Nat → V4 × Bool
  | 0 => (V4.zero, false)
  | k + 1 => ((chainN f a b k).1.set k (f (a.get k) (b.get k) (chainN f a b k).2).1, (f (a.get k) (b.get k) (chainN f a b k).2).2)

/-- A block of memory that holds a number. -/
def IsVec (w : World) (b : Nat) (t : TypeId) (v : V4) : Prop := w.heap[b]? = some (.cells v.arr t (0, 0))

theorem IsVec.cell {w : World} {b : Nat} {t : TypeId} {v : V4} (h : IsVec w b t v) (k : Nat) (hk : k < 4) : w.cell? ⟨b, k, none⟩ = some (.int .u64 (U (v.get k))) := by
  unfold World.cell?
  simp only []
  rw [h]
  match k, hk with
  | 0, _ => rfl
  | 1, _ => rfl
  | 2, _ => rfl
  | 3, _ => rfl
theorem IsVec.frozen {w : World} {b : Nat} {t : TypeId} {v : V4} (h : IsVec w b t v) (k : Nat) : w.frozen? ⟨b, k, none⟩ = false := by
  unfold World.frozen?
  simp only []
  rw [h]
  simp
theorem IsVec.set {w : World} {b : Nat} {t : TypeId} {v : V4} (h : IsVec w b t v) (k : Nat) (hk : k < 4) (x : BitVec 64) : IsVec (w.setCell ⟨b, k, none⟩ (.int .u64 (U x))) b t (v.set k x) := by
  unfold IsVec at *
  obtain ⟨hlt, he⟩ := Array.getElem?_eq_some_iff.1 h
  show (w.heap.modify b _)[b]? = _
  rw [Array.getElem?_eq_getElem (by rw [Array.size_modify]; exact hlt), Array.getElem_modify_self, he]
  match k, hk with
  | 0, _ => rfl
  | 1, _ => rfl
  | 2, _ => rfl
  | 3, _ => rfl
theorem IsVec.below {w w' : World} {b B : Nat} {t : TypeId} {v : V4} (h : IsVec w b t v) (hb : Below B w w') (hlt : b < B) : IsVec w' b t v := (hb.block b hlt).trans h
theorem IsVec.lt {w : World} {b : Nat} {t : TypeId} {v : V4} (h : IsVec w b t v) : b < w.heap.size := (Array.getElem?_eq_some_iff.1 h).1
theorem IsVec.new (w : World) (t : TypeId) (v : V4) : IsVec (w.alloc (.cells v.arr t)) w.heap.size t v := heap_alloc_new w _
theorem IsVec.newAt (w : World) (t : TypeId) (v : V4) (n : Nat) (hn : n = w.heap.size) : IsVec (w.alloc (.cells v.arr t)) n t v := by subst hn; exact heap_alloc_new w _
theorem IsVec.alloc {w : World} {b : Nat} {t : TypeId} {v : V4} (h : IsVec w b t v) (o : Obj) : IsVec (w.alloc o) b t v := (Below.heap_alloc w o b h.lt).trans h
theorem IsVec.drew {w : World} {b : Nat} {t : TypeId} {v : V4} (h : IsVec w b t v) : IsVec w.drew b t v := h
theorem IsVec.drewN {w : World} {b : Nat} {t : TypeId} {v : V4} (h : IsVec w b t v) (n : Nat) : IsVec (w.drewN n) b t v := h
theorem IsVec.other {w : World} {b : Nat} {t : TypeId} {v : V4} (h : IsVec w b t v) (a : Addr) (u : Value) (hne : b ≠ a.block) : IsVec (w.setCell a u) b t v := (Below.heap_setCell w a u b hne).trans h

/-- A block of memory that holds the values vs. -/
def IsBlk (w : World) (b : Nat) (t : TypeId) (vs : List Value) : Prop := w.heap[b]? = some (.cells vs.toArray t (0, 0))
theorem IsBlk.cell {w : World} {b : Nat} {t : TypeId} {vs : List Value} (h : IsBlk w b t vs) (k : Nat) : w.cell? ⟨b, k, none⟩ = vs[k]? := by
  unfold World.cell?
  simp only []
  rw [h]
  simp
theorem IsBlk.frozen {w : World} {b : Nat} {t : TypeId} {vs : List Value} (h : IsBlk w b t vs) (k : Nat) : w.frozen? ⟨b, k, none⟩ = false := by
  unfold World.frozen?
  simp only []
  rw [h]
  simp
theorem IsBlk.set {w : World} {b : Nat} {t : TypeId} {vs : List Value} (h : IsBlk w b t vs) (k : Nat) (u : Value) : IsBlk (w.setCell ⟨b, k, none⟩ u) b t (vs.set k u) := by
  unfold IsBlk at *
  obtain ⟨hlt, he⟩ := Array.getElem?_eq_some_iff.1 h
  show (w.heap.modify b _)[b]? = _
  rw [Array.getElem?_eq_getElem (by rw [Array.size_modify]; exact hlt), Array.getElem_modify_self, he]
  simp
theorem IsBlk.below {w w' : World} {b B : Nat} {t : TypeId} {vs : List Value} (h : IsBlk w b t vs) (hb : Below B w w') (hlt : b < B) : IsBlk w' b t vs := (hb.block b hlt).trans h
theorem IsBlk.lt {w : World} {b : Nat} {t : TypeId} {vs : List Value} (h : IsBlk w b t vs) : b < w.heap.size := (Array.getElem?_eq_some_iff.1 h).1
theorem IsBlk.newAt (w : World) (t : TypeId) (vs : List Value) (n : Nat) (hn : n = w.heap.size) : IsBlk (w.alloc (.cells vs.toArray t)) n t vs := by subst hn; exact heap_alloc_new w _
theorem IsBlk.alloc {w : World} {b : Nat} {t : TypeId} {vs : List Value} (h : IsBlk w b t vs) (o : Obj) : IsBlk (w.alloc o) b t vs := (Below.heap_alloc w o b h.lt).trans h
theorem IsBlk.drew {w : World} {b : Nat} {t : TypeId} {vs : List Value} (h : IsBlk w b t vs) : IsBlk w.drew b t vs := h
theorem IsBlk.drewN {w : World} {b : Nat} {t : TypeId} {vs : List Value} (h : IsBlk w b t vs) (n : Nat) : IsBlk (w.drewN n) b t vs := h
theorem IsBlk.other {w : World} {b : Nat} {t : TypeId} {vs : List Value} (h : IsBlk w b t vs) (a : Addr) (u : Value) (hne : b ≠ a.block) : IsBlk (w.setCell a u) b t vs := (Below.heap_setCell w a u b hne).trans h

/-- Words as values. -/
def wordVals (l : List (BitVec 64)) : List Value := l.map fun x => .int .u64 (U x)
theorem wordVals_get (l : List (BitVec 64)) (k : Nat) (h : k < l.length) : (wordVals l)[k]? = some (.int .u64 (U (l[k]?.getD 0#64))) := by
  unfold wordVals
  rw [List.getElem?_map, List.getElem?_eq_getElem h]
  rfl
theorem wordVals_set (l : List (BitVec 64)) (k : Nat) (x : BitVec 64) : (wordVals l).set k (.int .u64 (U x)) = wordVals (l.set k x) := by
  unfold wordVals
  rw [List.map_set]

end Go.Proofs.Ytacghnepggkgpaa
