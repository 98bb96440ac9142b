/- A parameter of type [2][8]int16, opened. -/
import Derived.Test.YtijbjncdiojpdaaDoorLaidOf
import Derived.WideKeyArr2
namespace Go.Proofs.YtijbjncdiojpdaaDoor
open Go.ChangeShapes Go.WideShapes Go.RowKit

theorem cells_arr : Tryd.prog.cellsOf 43 = 16 := by kernel_rfl
theorem cells_half : Tryd.prog.cellsOf 42 = 8 := by kernel_rfl
theorem cells_i16 : Tryd.prog.cellsOf 41 = 1 := by kernel_rfl
def num16 : Option Value → Int
  | some (.int _ n) => n
  | _ => 0
theorem open_arr {H : Type} {enc : TypeId × Value → H} {W : World} {r : Reach} {base base' : Nat} {sp : Nat → Bool} {held : Bool} {v : Value} {d : DataW H} {ps : List MemPlace}
    (hok : Value.okWide Tryd.prog W r base' 43 v) (h : DataW.Trod enc Tryd.prog W base sp held 43 v d ps) : ∃ (arr : Array Value) (X : Nat → Int), v = .agg arr ∧ ∀ i, i < 16 → arr[i]? = some (.int .i16 (X i)) := by
  simp only [Value.okWide, Tryd.underlying43] at hok
  obtain ⟨cs, rfl, hsz, _⟩ := hok
  obtain ⟨fuel, hf⟩ := h
  obtain ⟨xs, m, _, _, _, hl, hx⟩ := DataW.trod_array Tryd.underlying43 hf
  refine ⟨cs, fun i => num16 cs[i]?, rfl, fun k hk => ?_⟩
  have key : ∃ a, cs[k]? = some (.int .i16 a) := by
    have hi : k / 8 < 2 := by omega
    have hj : k % 8 < 8 := Nat.mod_lt _ (by decide)
    have h1 := hx (k / 8) hi
    rw [List.getElem?_eq_getElem (by omega), cells_half] at h1
    obtain ⟨ys, m2, _, _, _, hl2, hy⟩ := DataW.trod_array Tryd.underlying42 h1
    have h2 := hy (k % 8) hj
    rw [List.getElem?_eq_getElem (by omega), cells_i16, Nat.mul_one] at h2
    obtain ⟨a, ea, _, wa⟩ := DataW.trod_int Tryd.underlying41 h2
    refine ⟨a, ?_⟩
    have h3 := congrArg (fun l => l[0]?) ea
    simp only [List.getElem?_take, List.getElem?_drop, Nat.add_zero, List.getElem?_cons_zero] at h3
    rw [if_pos (by decide), if_pos hj, show k / 8 * 8 + k % 8 = k by omega] at h3
    simpa [Value.cells] using h3
  obtain ⟨a, ha⟩ := key
  show cs[k]? = some (.int .i16 (num16 cs[k]?))
  rw [ha]
  rfl
end Go.Proofs.YtijbjncdiojpdaaDoor
