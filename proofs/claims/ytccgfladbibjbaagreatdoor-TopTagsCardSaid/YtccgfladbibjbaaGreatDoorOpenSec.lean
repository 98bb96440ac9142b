/- A parameter of type sharecorelaw16.Secret, opened. -/
import Derived.Test.YtccgfladbibjbaaGreatDoorOpenBs
import Derived.Test.YtccgfladbibjbaaGreatDoorG28
namespace Go.Proofs.YtccgfladbibjbaaGreatDoor
open Go.ChangeShapes Go.WideShapes Go.ChangeAt Go.RowKit

set_option maxRecDepth 100000 in
theorem open_sec {H : Type} {enc : TypeId × Value → H} {W : World} {r : Reach} {base' : Nat} {v : Value} {d : DataW H} {ps : List MemPlace}
    (hok : Value.okWide Tryz.prog W r base' 60 v) (h : DataW.Trod enc Tryz.prog W 0 (fun _ => true) true 60 v d ps) :
    ∃ (p : Pa) (A1 A2 : Option Addr) (c1 c2 : Nat) (sec rnd : List (BitVec 8)), v = .agg #[.int .i64 p.field, .int .i64 p.thr, .int .i64 p.shr, .int .i64 p.len, .slice A1 sec.length c1, .slice A2 rnd.length c2] ∧ sec.length ≤ c1 ∧ Sees W A1 (byteVals sec) ∧ Sees W A2 (byteVals rnd) := by
  obtain ⟨cs, rfl, hsz⟩ := okWide_struct Tryz.underlying60 hok
  have k60 : Tryz.prog.cellsOf 60 = 6 := by kernel_rfl
  have k48 : Tryz.prog.cellsOf 48 = 4 := by kernel_rfl
  have k22 : Tryz.prog.cellsOf 22 = 1 := by kernel_rfl
  have k3 : Tryz.prog.cellsOf 3 = 1 := by kernel_rfl
  rw [k60] at hsz
  obtain ⟨l⟩ := cs
  obtain ⟨fuel, hf⟩ := h
  match l, hsz with
  | [e0, e1, e2, e3, e4, e5], _ =>
    have hf : DataW.trod enc Tryz.prog W 0 (fun _ => true) true fuel 60 [e0, e1, e2, e3, e4, e5] = some (d, ps) := hf
    obtain ⟨xs, m, rfl, _, _, hxl, hel⟩ := DataW.trod_struct Tryz.underlying60 hf
    have hxl' : xs.length = 3 := hxl
    have h0 : DataW.trod enc Tryz.prog W 0 (fun _ => true) true m 48 (([e0, e1, e2, e3, e4, e5].drop 0).take (Tryz.prog.cellsOf 48)) = xs[0]? := hel 0 _ rfl
    have h1 : DataW.trod enc Tryz.prog W 0 (fun _ => true) true m 22 (([e0, e1, e2, e3, e4, e5].drop 4).take (Tryz.prog.cellsOf 22)) = xs[1]? := hel 1 _ rfl
    have h2 : DataW.trod enc Tryz.prog W 0 (fun _ => true) true m 22 (([e0, e1, e2, e3, e4, e5].drop 5).take (Tryz.prog.cellsOf 22)) = xs[2]? := hel 2 _ rfl
    rw [k48, List.getElem?_eq_getElem (by omega)] at h0
    rw [k22, List.getElem?_eq_getElem (by omega)] at h1 h2
    have h0 : DataW.trod enc Tryz.prog W 0 (fun _ => true) true m 48 [e0, e1, e2, e3] = some xs[0] := h0
    obtain ⟨ys, m2, rfl, _, _, hyl, hey⟩ := DataW.trod_struct Tryz.underlying48 h0
    have hyl' : ys.length = 4 := hyl
    have g0 : DataW.trod enc Tryz.prog W 0 (fun _ => true) true m2 3 (([e0, e1, e2, e3].drop 0).take (Tryz.prog.cellsOf 3)) = ys[0]? := hey 0 _ rfl
    have g1 : DataW.trod enc Tryz.prog W 0 (fun _ => true) true m2 3 (([e0, e1, e2, e3].drop 1).take (Tryz.prog.cellsOf 3)) = ys[1]? := hey 1 _ rfl
    have g2 : DataW.trod enc Tryz.prog W 0 (fun _ => true) true m2 3 (([e0, e1, e2, e3].drop 2).take (Tryz.prog.cellsOf 3)) = ys[2]? := hey 2 _ rfl
    have g3 : DataW.trod enc Tryz.prog W 0 (fun _ => true) true m2 3 (([e0, e1, e2, e3].drop 3).take (Tryz.prog.cellsOf 3)) = ys[3]? := hey 3 _ rfl
    rw [k3, List.getElem?_eq_getElem (by omega)] at g0 g1 g2 g3
    obtain ⟨f, q0, _, _⟩ := DataW.trod_int Tryz.underlying3 g0
    obtain ⟨t, q1, _, _⟩ := DataW.trod_int Tryz.underlying3 g1
    obtain ⟨s, q2, _, _⟩ := DataW.trod_int Tryz.underlying3 g2
    obtain ⟨n, q3, _, _⟩ := DataW.trod_int Tryz.underlying3 g3
    have r0 : [e0] = [Value.int .i64 f] := q0
    have r1 : [e1] = [Value.int .i64 t] := q1
    have r2 : [e2] = [Value.int .i64 s] := q2
    have r3 : [e3] = [Value.int .i64 n] := q3
    simp only [List.cons.injEq, and_true] at r0 r1 r2 r3
    clear q0 q1 q2 q3 g0 g1 g2 g3
    subst r0 r1 r2 r3
    obtain ⟨A1, c1, sec, rfl, hc, hs1⟩ := bytes_of (c := e4) h1
    obtain ⟨A2, c2, rnd, rfl, _, hs2⟩ := bytes_of (c := e5) h2
    exact ⟨⟨f, t, s, n⟩, A1, A2, c1, c2, sec, rnd, rfl, hc, hs1, hs2⟩
end Go.Proofs.YtccgfladbibjbaaGreatDoor
