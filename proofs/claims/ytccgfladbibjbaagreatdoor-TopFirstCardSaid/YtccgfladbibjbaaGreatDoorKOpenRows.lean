/- A parameter of type [][]byte, opened. -/
import Derived.Test.YtccgfladbibjbaaGreatDoorKOpenBs
import Derived.Test.YtccgfladbibjbaaGreatDoorKG38
namespace Go.Proofs.YtccgfladbibjbaaGreatDoor
open Go.ChangeShapes Go.WideShapes Go.ChangeAt Go.RowKit
theorem choose_rows (f : Nat → BA → Prop) : ∀ n, (∀ i, i < n → ∃ x, f i x) → ∃ bs : List BA, bs.length = n ∧ ∀ i (hi : i < bs.length), f i bs[i]
 | 0, _ => ⟨[], rfl, fun i hi => by simp at hi⟩
 | m + 1, key => by
  obtain ⟨bs, hb, hx⟩ := choose_rows f m (fun i hi => key i (by omega))
  obtain ⟨x, hxx⟩ := key m (by omega)
  refine ⟨bs ++ [x], by simp [hb], fun i hi => ?_⟩
  by_cases him : i < bs.length
  ·rw [List.getElem_append_left him]
   exact hx i him
  ·obtain rfl : i = m := by simp at hi; omega
   rw [List.getElem_append_right (by omega)]
   simpa using hxx
set_option maxRecDepth 100000 in
theorem open_rows {H : Type} {enc : TypeId × Value → H} {W : World} {r : Reach} {base' : Nat} {v : Value} {d : DataW H} {ps : List MemPlace}
  (hok : Value.okWide Tryz.prog W r base' 37 v) (h : DataW.Trod enc Tryz.prog W 0 (fun _ => true) true 37 v d ps) : ∃ (R : Option Addr) (cap : Nat) (bs : List BA), v = .slice R bs.length cap ∧ bs.length ≤ cap ∧ SeesR W R bs := by
 obtain ⟨a, len, cap, rfl⟩ := okWide_slice Tryz.underlying37 hok
 obtain ⟨fuel, hf⟩ := h
 have hc22 : Tryz.prog.cellsOf 22 = 1 := by kernel_rfl
 rcases DataW.trod_slice Tryz.underlying37 hf with ⟨hc, _⟩ | ⟨a', len', cap', elems, rest, n, _, hc, _, _, hl, _, hlen, hel, _, _⟩
 ·have hc : Value.slice a len cap = .slice none 0 0 := by simpa [Value.cells] using hc
  injection hc with e1 e2 e3
  subst e1 e2 e3
  exact ⟨none, 0, [], rfl, Nat.le_refl _, fun hx => by simp [baVals] at hx, by simp⟩
 ·have hc : Value.slice a len cap = .slice (some a') len' cap' := by simpa [Value.cells] using hc
  injection hc with e1 e2 e3
  subst e1 e2 e3
  have key : ∀ i, i < len → ∃ x : BA, W.cell? (a'.add i) = some x.val ∧ Sees W x.A (byteVals x.l) ∧ x.l.length ≤ x.cap := by
   intro i hi
   have h1 := hel i hi
   rw [List.getElem?_eq_getElem (by omega), hc22, Nat.mul_one, Option.bind_eq_some_iff] at h1
   obtain ⟨cs', hcs, hy⟩ := h1
   obtain ⟨_, hcl, _⟩ := World.cells?_some hcs
   obtain ⟨c, rfl⟩ : ∃ c, cs' = [c] := List.length_eq_one_iff.1 hcl
   obtain ⟨A, cp, l, rfl, hlc, hs⟩ := bytes_of hy
   exact ⟨⟨A, cp, l⟩, cell_of_cells?_one hcs, hs, hlc⟩
  obtain ⟨bs, hb, hx⟩ := choose_rows _ len key
  refine ⟨some a', cap, bs, by rw [hb], by omega, fun hpos => ?_, fun x hm => ?_⟩
  ·rw [baVals_length] at hpos
   obtain ⟨b, o, spot⟩ := a'
   have hspot : spot = none := by simpa [Addr.add] using World.cell?_spot (hx 0 hpos).1
   subst hspot
   refine ⟨b, o, rfl, fun j hj => ?_⟩
   rw [baVals_length] at hj
   have h1 := (hx j hj).1
   rw [Addr.add_mid] at h1
   rw [h1]
   unfold baVals
   rw [List.getElem?_map, List.getElem?_eq_getElem hj]
   rfl
  ·obtain ⟨i, hi, rfl⟩ := List.getElem_of_mem hm
   exact (hx i hi).2
end Go.Proofs.YtccgfladbibjbaaGreatDoor
