/- A parameter of type []byte, opened. -/
import Derived.Test.YtccgfladbibjbaaGreatDoorKLaidTop
import Derived.Test.YtccgfladbibjbaaGreatDoorKG29
import Derived.WideKeyArr2
namespace Go.Proofs.YtccgfladbibjbaaGreatDoor
open Go.ChangeShapes Go.WideShapes Go.ChangeAt Go.RowKit
theorem bytes_of {H : Type} {enc : TypeId × Value → H} {W : World} {fuel : Nat} {c : Value} {x : DataW H × List MemPlace} (h : DataW.trod enc Tryz.prog W 0 (fun _ => true) true fuel 22 [c] = some x) :
  ∃ (A : Option Addr) (cap : Nat) (l : List (BitVec 8)), c = .slice A l.length cap ∧ l.length ≤ cap ∧ Sees W A (byteVals l) := by
 rcases open_ints Tryz.underlying22 Tryz.underlying5 (by kernel_rfl) h with ⟨hc, _⟩ | ⟨a, len, cap, zs, hc, _, hl, _, hz, _, hcell, hwf⟩
 ·simp only [List.cons.injEq, and_true] at hc
  exact ⟨none, 0, [], hc, Nat.le_refl _, fun hx => by simp [byteVals] at hx⟩
 ·simp only [List.cons.injEq, and_true] at hc
  simp only [if_true] at hz
  have hlen : ((List.range len).map fun i => BitVec.ofInt 8 (zs.getD i 0)).length = len := by simp
  refine ⟨some a, cap, (List.range len).map fun i => BitVec.ofInt 8 (zs.getD i 0), by rw [hlen]; exact hc, by rw [hlen]; exact hl, fun hx => ?_⟩
  rw [byteVals_length, hlen] at hx
  obtain ⟨b, o, spot⟩ := a
  have hspot : spot = none := by simpa [Addr.add] using World.cell?_spot (hcell 0 (by omega))
  subst hspot
  refine ⟨b, o, rfl, fun j hj => ?_⟩
  rw [byteVals_length, hlen] at hj
  have h1 := hcell j (by omega)
  rw [Addr.add_mid] at h1
  have hm : zs.getD j 0 ∈ zs := by
   rw [List.getD_eq_getElem?_getD, List.getElem?_eq_getElem (by omega)]
   exact List.getElem_mem _
  rw [h1, byteVals_get _ j (by rw [hlen]; exact hj), List.getElem?_map, List.getElem?_range hj]
  show some (Value.int .u8 (zs.getD j 0)) = some (Value.int .u8 (B (BitVec.ofInt 8 (zs.getD j 0))))
  rw [← int_B _ (hwf _ hm)]
set_option maxRecDepth 100000 in
theorem open_bytes {H : Type} {enc : TypeId × Value → H} {W : World} {r : Reach} {base' : Nat} {v : Value} {d : DataW H} {ps : List MemPlace}
  (hok : Value.okWide Tryz.prog W r base' 22 v) (h : DataW.Trod enc Tryz.prog W 0 (fun _ => true) true 22 v d ps) : ∃ (A : Option Addr) (cap : Nat) (l : List (BitVec 8)), v = .slice A l.length cap ∧ l.length ≤ cap ∧ Sees W A (byteVals l) := by
 obtain ⟨a, len, cap, rfl⟩ := okWide_slice Tryz.underlying22 hok
 obtain ⟨fuel, hf⟩ := h
 exact bytes_of hf
end Go.Proofs.YtccgfladbibjbaaGreatDoor
