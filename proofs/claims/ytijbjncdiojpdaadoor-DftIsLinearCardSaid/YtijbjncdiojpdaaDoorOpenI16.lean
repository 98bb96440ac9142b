/- A parameter of type []int16, opened. -/
import Derived.Test.YtijbjncdiojpdaaDoorLaidOf
import Derived.Test.YtijbjncdiojpdaaDoorWNum
namespace Go.Proofs.YtijbjncdiojpdaaDoor
open Go.ChangeShapes Go.WideShapes Go.ChangeAt Go.RowKit

theorem open_i16List {H : Type} {enc : TypeId × Value → H} {W : World} {a : Option Addr} {len cap : Nat} {d : DataW H} {ps : List MemPlace} (h : DataW.Trod enc Tryd.prog W 0 (fun _ => true) true 36 (.slice a len cap) d ps) :
    ∃ A, I16s W (.slice a len cap) len A ∧ (len = 0 ∨ ∃ zs : List Int, len ≤ zs.length ∧ d = .slice (lits .i16 (zs.take len)) (lits .i16 (zs.drop len))) := by
  obtain ⟨fuel, hf⟩ := h
  rcases open_ints Tryd.underlying36 Tryd.underlying41 (by kernel_rfl) hf with ⟨hcs, _⟩ | ⟨x, l, c, zs, hcs, _, hl, hm, hz, hx, hcell, hwz⟩
  · simp [Value.cells] at hcs
    obtain ⟨rfl, rfl, rfl⟩ := hcs
    exact ⟨fun _ => 0, .inl ⟨rfl, _, _, rfl⟩, .inl rfl⟩
  · simp [Value.cells] at hcs
    obtain ⟨rfl, rfl, rfl⟩ := hcs
    simp only [if_true] at hz
    simp only [Prod.mk.injEq] at hx
    refine ⟨fun i => zs.getD i 0, ?_, .inr ⟨zs, by omega, hx.1⟩⟩
    by_cases h0' : len = 0
    · subst h0'; exact .inl ⟨rfl, _, _, rfl⟩
    · obtain ⟨b, off, spot⟩ := x
      have hspot : spot = none := by simpa [Addr.add] using World.cell?_spot (hcell 0 (by omega))
      subst hspot
      refine .inr ⟨b, off, cap, rfl, fun i hi => ?_⟩
      have hc := hcell i (by omega)
      rw [← add_plain]
      exact hc
end Go.Proofs.YtijbjncdiojpdaaDoor
