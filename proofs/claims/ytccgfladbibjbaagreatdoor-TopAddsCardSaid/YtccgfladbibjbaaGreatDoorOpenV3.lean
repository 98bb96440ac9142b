/- A parameter of type [3][4]uint64, opened. -/
import Derived.Test.YtccgfladbibjbaaGreatDoorLaidTop
import Derived.Test.YtccgfladbibjbaaGreatDoorG19
import Derived.WideKeyArr2
namespace Go.Proofs.YtccgfladbibjbaaGreatDoor
open Go.ChangeShapes Go.WideShapes Go.RowKit

set_option maxRecDepth 100000 in
theorem open_vec3 {H : Type} {enc : TypeId × Value → H} {W : World} {r : Reach} {base base' : Nat} {sp : Nat → Bool} {held : Bool} {v : Value} {d : DataW H} {ps : List MemPlace}
    (hok : Value.okWide Tryz.prog W r base' 46 v) (h : DataW.Trod enc Tryz.prog W base sp held 46 v d ps) : ∃ al : List V4, al.length = 3 ∧ v = .agg (eVals al).toArray := by
  simp only [Value.okWide, Tryz.underlying46] at hok
  obtain ⟨cs, rfl, hsz, _⟩ := hok
  have k46 : Tryz.prog.cellsOf 46 = 12 := by kernel_rfl
  have k45 : Tryz.prog.cellsOf 45 = 4 := by kernel_rfl
  have k44 : Tryz.prog.cellsOf 44 = 1 := by kernel_rfl
  rw [k46] at hsz
  obtain ⟨fuel, hf⟩ := h
  obtain ⟨xs, m, _, _, _, hl, hx⟩ := DataW.trod_array Tryz.underlying46 hf
  have key : ∀ k, k < 12 → ∃ a : BitVec 64, cs.toList[k]? = some (.int .u64 (U a)) := by
    intro k hk
    have hi : k / 4 < 3 := by omega
    have hj : k % 4 < 4 := Nat.mod_lt _ (by decide)
    have h1 := hx (k / 4) hi
    rw [List.getElem?_eq_getElem (by omega), k45] at h1
    obtain ⟨ys, m2, _, _, _, hl2, hy⟩ := DataW.trod_array Tryz.underlying45 h1
    have h2 := hy (k % 4) hj
    rw [List.getElem?_eq_getElem (by omega), k44, Nat.mul_one] at h2
    obtain ⟨a, ea, _, wa⟩ := DataW.trod_int Tryz.underlying44 h2
    refine ⟨BitVec.ofInt 64 a, ?_⟩
    have h3 := congrArg (fun l => l[0]?) ea
    simp only [List.getElem?_take, List.getElem?_drop, Nat.add_zero, List.getElem?_cons_zero] at h3
    rw [if_pos (by decide), if_pos hj, show k / 4 * 4 + k % 4 = k by omega] at h3
    rw [← int_U a wa]
    simpa [Value.cells] using h3
  obtain ⟨l⟩ := cs
  match l, hsz with
  | [c0, c1, c2, c3, c4, c5, c6, c7, c8, c9, c10, c11], _ =>
    obtain ⟨a0, h0⟩ := key 0 (by decide)
    obtain ⟨a1, h1⟩ := key 1 (by decide)
    obtain ⟨a2, h2⟩ := key 2 (by decide)
    obtain ⟨a3, h3⟩ := key 3 (by decide)
    obtain ⟨a4, h4⟩ := key 4 (by decide)
    obtain ⟨a5, h5⟩ := key 5 (by decide)
    obtain ⟨a6, h6⟩ := key 6 (by decide)
    obtain ⟨a7, h7⟩ := key 7 (by decide)
    obtain ⟨a8, h8⟩ := key 8 (by decide)
    obtain ⟨a9, h9⟩ := key 9 (by decide)
    obtain ⟨a10, h10⟩ := key 10 (by decide)
    obtain ⟨a11, h11⟩ := key 11 (by decide)
    obtain rfl := Option.some.inj h0
    obtain rfl := Option.some.inj h1
    obtain rfl := Option.some.inj h2
    obtain rfl := Option.some.inj h3
    obtain rfl := Option.some.inj h4
    obtain rfl := Option.some.inj h5
    obtain rfl := Option.some.inj h6
    obtain rfl := Option.some.inj h7
    obtain rfl := Option.some.inj h8
    obtain rfl := Option.some.inj h9
    obtain rfl := Option.some.inj h10
    obtain rfl := Option.some.inj h11
    exact ⟨[⟨a0, a1, a2, a3⟩, ⟨a4, a5, a6, a7⟩, ⟨a8, a9, a10, a11⟩], rfl, rfl⟩
end Go.Proofs.YtccgfladbibjbaaGreatDoor
