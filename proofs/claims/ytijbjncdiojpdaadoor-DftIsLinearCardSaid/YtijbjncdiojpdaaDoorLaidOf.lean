/- What the listed variables say of the memory: the two tables of math.Sincos stand in it. -/
import Derived.Test.YtijbjncdiojpdaaDoorRows
import Derived.Test.YtijbjncdiojpdaaDoorWLaw1
import Derived.ProofKit
import Derived.LaidMore
import Derived.OpenShut
import Derived.ChangeOld
import Derived.Stop.Joined
namespace Go.Proofs.YtijbjncdiojpdaaDoor
open Go.ChangeShapes Go.WideShapes Go.ChangeAt Go.RowKit

theorem own : ownKnob Tryd.prog.godebug = none := by kernel_rfl
theorem laidOut : laidOutB Tryd.prog = true := by kernel_rfl
def laid3 : List (String × DataW Unit) := [("math._sin", Rows.laid_math_sin), ("math._cos", Rows.laid_math_cos), ("math.mPi4", Rows.laid_math_mPi4)]
theorem gSin : Tryd.prog.globalNamed "math._sin" = some 2 := by kernel_rfl
theorem gCos : Tryd.prog.globalNamed "math._cos" = some 1 := by kernel_rfl
theorem tSin : (Tryd.prog.globals[2]?).map (·.type) = some 70 := by kernel_rfl
theorem tCos : (Tryd.prog.globals[1]?).map (·.type) = some 70 := by kernel_rfl

theorem door_met (os : Os) (args : Array Value) : laidMetH Tryd.prog laid3 ((World.doorLaid Tryd.prog 400 os).forCall (fun _ _ => 0) ⟨#[], args, []⟩).memory :=
  laidMetH_of_parts3 (fuel := 8) (laidMet_of_run' 8 (by kernel_rfl) (by kernel_rfl)) (by kernel_rfl) (by kernel_rfl)

theorem trod_float {H : Type} {enc : TypeId × Value → H} {P : Program} {w : World} {base : Nat} {spare : Nat → Bool} {held : Bool} {fuel : Nat} {t : TypeId} {cs : List Value} {x : DataW H × List MemPlace} {k : FloatKind}
    (ht : P.underlying t = some (.float k)) (h : DataW.trod enc P w base spare held fuel t cs = some x) : ∃ b, cs = [.float k b] ∧ x.1 = .lit (.float k b) := by
  cases fuel with
  | zero => simp [DataW.trod] at h
  | succ n =>
    unfold DataW.trod at h
    rw [ht] at h
    split at h <;> simp_all
    · cases h.2; rfl

theorem six {H : Type} {enc : TypeId × Value → H} {w : World} {base : Nat} {spare : Nat → Bool} {held : Bool} {fuel : Nat} {cs : List Value} {q : List MemPlace} {b : List Nat}
    (hb : b.length = 6) (h : DataW.trod enc Tryd.prog w base spare held fuel 70 cs = some (.agg (b.map fun n => .lit (.float .f64 n)), q)) : ∀ i, i < 6 → cs[i]? = (b[i]?).map fun n => Value.float .f64 n := by
  obtain ⟨xs, m, rfl, hx, hlen, hn, hel⟩ := DataW.trod_array Tryd.underlying70 h
  have c1 : Tryd.prog.cellsOf 35 = 1 := by kernel_rfl
  intro i hi
  have h0 := hel i hi
  rw [c1, Nat.mul_one] at h0
  have hix : i < xs.length := by omega
  rw [List.getElem?_eq_getElem hix] at h0
  obtain ⟨v, e1, e2⟩ := trod_float Tryd.underlying35 h0
  simp only [Prod.mk.injEq, DataW.agg.injEq] at hx
  have hxi := congrArg (fun l => l[i]?) hx.1
  simp only [List.getElem?_map, List.getElem?_eq_getElem hix, Option.map_some] at hxi
  have hbi : i < b.length := by omega
  rw [List.getElem?_eq_getElem hbi] at hxi ⊢
  simp only [Option.map_some, Option.some.injEq] at hxi ⊢
  rw [e2] at hxi
  have hv : b[i] = v := by simpa using hxi
  have : ((cs.drop i).take 1)[0]? = some (Value.float .f64 v) := by rw [e1]; rfl
  rw [List.getElem?_take, if_pos (by decide), List.getElem?_drop, Nat.add_zero] at this
  rw [this, hv]

theorem of_laid {W : World} (h : laidMetH Tryd.prog laid3 W) : Tabs W := by
  rw [MakeChecks.laidMetH_plain _ _ _ (by kernel_rfl)] at h
  obtain ⟨ps, ⟨g0, t0, cs0, f0, p0, q0, hg0, ht0, hv0, hd0, ⟨g1, t1, cs1, f1, p1, q1, hg1, ht1, hv1, hd1, _⟩, _⟩, _, _⟩ := h
  obtain rfl := Option.some.inj (gSin.symm.trans hg0)
  obtain rfl := Option.some.inj (gCos.symm.trans hg1)
  obtain rfl := Option.some.inj (tSin.symm.trans ht0)
  obtain rfl := Option.some.inj (tCos.symm.trans ht1)
  have s := six (b := [4460209587652500685, 13716528389658582877, 4523617212962785441, 13774824197404483331, 4575957461383575504, 13818544856648471880]) rfl hd0
  have c := six (b := [13666448263388469915, 4477121864728985349, 13732177093698800582, 4537941361668146421, 13787419979223748497, 4586165620538955083]) rfl hd1
  have es : ∀ i, i < 6 → W.cell? ⟨2, i, none⟩ = _ := fun i hi => (World.var?_cell gSin hv0 i).trans ((Array.getElem?_toList).symm.trans (s i hi))
  have ec : ∀ i, i < 6 → W.cell? ⟨1, i, none⟩ = _ := fun i hi => (World.var?_cell gCos hv1 i).trans ((Array.getElem?_toList).symm.trans (c i hi))
  exact ⟨ec 0 (by decide), ec 1 (by decide), ec 2 (by decide), ec 3 (by decide), ec 4 (by decide), ec 5 (by decide), es 0 (by decide), es 1 (by decide), es 2 (by decide), es 3 (by decide), es 4 (by decide), es 5 (by decide)⟩
theorem Tabs.size {W : World} (h : Tabs W) : 2 < W.heap.size := World.block_lt_of_cell? W _ h.2.2.2.2.2.2.1

/-- A parameter of type []int, opened. -/
theorem open_intList {H : Type} {enc : TypeId × Value → H} {W : World} {a : Option Addr} {len cap : Nat} {d : DataW H} {ps : List MemPlace} (h : DataW.Trod enc Tryd.prog W 0 (fun _ => true) true 22 (.slice a len cap) d ps) :
    ∃ A, Ints W (.slice a len cap) len A ∧ (len = 0 ∨ ∃ zs : List Int, len ≤ zs.length ∧ d = .slice (lits .i64 (zs.take len)) (lits .i64 (zs.drop len))) := by
  obtain ⟨fuel, hf⟩ := h
  rcases open_ints Tryd.underlying22 Tryd.underlying3 (by kernel_rfl) hf with ⟨hcs, _⟩ | ⟨x, l, c, zs, hcs, _, hl, hm, hz, hx, hcell, hwz⟩
  · simp [Value.cells] at hcs
    obtain ⟨rfl, rfl, rfl⟩ := hcs
    exact ⟨fun _ => 0, .inl ⟨rfl, _, _, rfl⟩, .inl rfl⟩
  · simp [Value.cells] at hcs
    obtain ⟨rfl, rfl, rfl⟩ := hcs
    simp only [if_true] at hz
    simp only [Prod.mk.injEq] at hx
    refine ⟨fun i => zs.getD i 0, ?_, .inr ⟨zs, by omega, hx.1⟩⟩
    by_cases h0' : len = 0
    · subst h0'; exact .inl ⟨rfl, _, _, rfl⟩
    · obtain ⟨b, off, spot⟩ := x
      have hspot : spot = none := by simpa [Addr.add] using World.cell?_spot (hcell 0 (by omega))
      subst hspot
      refine .inr ⟨b, off, cap, rfl, fun i hi => ?_⟩
      have hc := hcell i (by omega)
      rw [← add_plain]
      exact hc
end Go.Proofs.YtijbjncdiojpdaaDoor
