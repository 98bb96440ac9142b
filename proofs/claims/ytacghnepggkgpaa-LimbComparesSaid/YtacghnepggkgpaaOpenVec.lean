/- A number of 256 bits that came in. -/
import Derived.Test.YtacghnepggkgpaaVNum
import Derived.ProofKit
import Derived.OpenShut
import Derived.WideKeyArr2
namespace Go.Proofs.Ytacghnepggkgpaa
open Go.ChangeShapes Go.WideShapes Go.RowKit

theorem wf_lt (n : Int) (h : (Lit.int .i64 n).wf = true) : n < 9223372036854775808 := by
  simp [Lit.wf, IntKind.min, IntKind.max, IntKind.signed, IntKind.bits] at h; omega
theorem cells_vec : Try.prog.cellsOf 38 = 4 := by kernel_rfl
theorem cells_word : Try.prog.cellsOf 22 = 1 := by kernel_rfl
theorem open_vec {H : Type} {enc : TypeId × Value → H} {W : World} {r : Reach} {base base' : Nat} {sp : Nat → Bool} {held : Bool} {v : Value} {d : DataW H} {ps : List MemPlace}
    (hok : Value.okWide Try.prog W r base' 38 v) (h : DataW.Trod enc Try.prog W base sp held 38 v d ps) : ∃ x : V4, v = x.val := by
  have hu : Try.prog.underlying 22 = some (.int .u64) := Try.underlying22
  simp only [Value.okWide, Try.underlying38] at hok
  obtain ⟨cs, rfl, hsz, _⟩ := hok
  rw [cells_vec] at hsz
  obtain ⟨l⟩ := cs
  match l, hsz with
  | [c0, c1, c2, c3], _ =>
    obtain ⟨fuel, hf⟩ := h
    obtain ⟨xs, m, _, _, _, hl, hx⟩ := DataW.trod_array Try.underlying38 hf
    have one : ∀ i c, i < 4 → (([c0, c1, c2, c3].drop (i * 1)).take 1) = [c] → ∃ a, c = .int .u64 (U a) := by
      intro i c hi hc
      have hy := hx i hi
      rw [List.getElem?_eq_getElem (by omega), cells_word] at hy
      obtain ⟨a, ea, _, wa⟩ := DataW.trod_int hu hy
      have ea' : (([c0, c1, c2, c3].drop (i * 1)).take 1) = [.int .u64 a] := ea
      rw [hc] at ea'
      simp only [List.cons.injEq, and_true] at ea'
      exact ⟨BitVec.ofInt 64 a, by rw [ea', ← int_U a wa]⟩
    obtain ⟨a0, rfl⟩ := one 0 c0 (by decide) rfl
    obtain ⟨a1, rfl⟩ := one 1 c1 (by decide) rfl
    obtain ⟨a2, rfl⟩ := one 2 c2 (by decide) rfl
    obtain ⟨a3, rfl⟩ := one 3 c3 (by decide) rfl
    exact ⟨⟨a0, a1, a2, a3⟩, rfl⟩
end Go.Proofs.Ytacghnepggkgpaa
