/- What the listed variables say of the memory: the fields and the constants of SHA-256 stand in it. -/
import Derived.Test.YtccgfladbibjbaaGreatDoorRows
import Derived.Test.YtccgfladbibjbaaGreatDoorKG12
import Derived.ProofKit
import Derived.LaidMore
import Derived.OpenShut
import Derived.ChangeOld
import Derived.Stop.Joined
namespace Go.Proofs.YtccgfladbibjbaaGreatDoor
open Go.ChangeShapes Go.WideShapes Go.ChangeAt Go.RowKit
theorem own : ownKnob Tryz.prog.godebug = none := by kernel_rfl
theorem laidOut : laidOutB Tryz.prog = true := by kernel_rfl
def laid3 : List (String × DataW Unit) := [("sharecore/sha.constants", Rows.laid_sharecore_sha_constants), ("sharecore/sha.start", Rows.laid_sharecore_sha_start), ("sharecore/field.fields", Rows.laid_sharecore_field_fields)]
theorem gC : Tryz.prog.globalNamed "sharecore/sha.constants" = some 2 := by kernel_rfl
theorem gS : Tryz.prog.globalNamed "sharecore/sha.start" = some 1 := by kernel_rfl
theorem gF : Tryz.prog.globalNamed "sharecore/field.fields" = some 0 := by kernel_rfl
theorem tC : (Tryz.prog.globals[2]?).map (·.type) = some 186 := by kernel_rfl
theorem tS : (Tryz.prog.globals[1]?).map (·.type) = some 144 := by kernel_rfl
theorem tF : (Tryz.prog.globals[0]?).map (·.type) = some 117 := by kernel_rfl
theorem door_met (os : Os) (args : Array Value) : laidMetH Tryz.prog laid3 ((World.doorLaid Tryz.prog 400 os).forCall (fun _ _ => 0) ⟨#[], args, []⟩).memory :=
 laidMetH_of_parts3 (fuel := 8) (laidMet_of_run' 8 (by kernel_rfl) (by kernel_rfl)) (by kernel_rfl) (by kernel_rfl)
theorem row_ints {H : Type} {enc : TypeId × Value → H} {w : World} {base : Nat} {spare : Nat → Bool} {held : Bool} {fuel : Nat} {cs : List Value} {q : List MemPlace} {t e : TypeId} {n : Nat} {k : IntKind} {ns : List Int}
  (ht : Tryz.prog.underlying t = some (.array n e)) (he : Tryz.prog.underlying e = some (.int k)) (hc : Tryz.prog.cellsOf e = 1) (hct : Tryz.prog.cellsOf t = n) (hn : ns.length = n)
  (h : DataW.trod enc Tryz.prog w base spare held fuel t cs = some (.agg (ns.map fun x => .lit (.int k x)), q)) : cs = ns.map (Value.int k) := by
 obtain ⟨xs, m, rfl, hx, hlen, hxl, hel⟩ := DataW.trod_array ht h
 rw [hct] at hlen
 simp only [Prod.mk.injEq, DataW.agg.injEq] at hx
 apply List.ext_getElem?
 intro i
 by_cases hi : i < n
 ·have h0 := hel i hi
  rw [hc, Nat.mul_one, List.getElem?_eq_getElem (by omega)] at h0
  obtain ⟨v, e1, e2, _⟩ := DataW.trod_int he h0
  have hxi := congrArg (fun l => l[i]?) hx.1
  simp only [List.getElem?_map, List.getElem?_eq_getElem (show i < xs.length by omega), List.getElem?_eq_getElem (show i < ns.length by omega), Option.map_some, Option.some.injEq] at hxi
  rw [e2] at hxi
  have hv : ns[i] = v := by simpa using hxi
  have e3 : ((cs.drop i).take 1)[0]? = some (Value.int k v) := by rw [e1]; rfl
  rw [List.getElem?_take, if_pos (by decide), List.getElem?_drop, Nat.add_zero] at e3
  rw [e3, List.getElem?_map, List.getElem?_eq_getElem (show i < ns.length by omega), Option.map_some, hv]
 ·rw [List.getElem?_eq_none (by omega), List.getElem?_eq_none (by rw [List.length_map]; omega)]
theorem one_int {H : Type} {enc : TypeId × Value → H} {w : World} {base : Nat} {spare : Nat → Bool} {held : Bool} {fuel : Nat} {cs : List Value} {q : List MemPlace} {e : TypeId} {k : IntKind} {n : Int}
  (he : Tryz.prog.underlying e = some (.int k)) (h : DataW.trod enc Tryz.prog w base spare held fuel e cs = some (.lit (.int k n), q)) : cs = [Value.int k n] := by
 obtain ⟨v, e1, e2, _⟩ := DataW.trod_int he h
 simp only [Prod.mk.injEq, DataW.lit.injEq, Lit.int.injEq] at e2
 rw [e1, e2.1.2]
set_option maxRecDepth 100000 in
theorem row_field {H : Type} {enc : TypeId × Value → H} {w : World} {base : Nat} {spare : Nat → Bool} {held : Bool} {fuel : Nat} {cs : List Value} {q : List MemPlace} {i p0 p1 p2 p3 v o0 o1 o2 o3 s0 s1 s2 s3 : Int}
  (h : DataW.trod enc Tryz.prog w base spare held fuel 67 cs = some (.agg [.lit (.int .i64 i), .agg [.lit (.int .u64 p0), .lit (.int .u64 p1), .lit (.int .u64 p2), .lit (.int .u64 p3)], .lit (.int .u64 v), .agg [.lit (.int .u64 o0), .lit (.int .u64 o1), .lit (.int .u64 o2), .lit (.int .u64 o3)], .agg [.lit (.int .u64 s0), .lit (.int .u64 s1), .lit (.int .u64 s2), .lit (.int .u64 s3)]], q)) :
  cs = [.int .i64 i, .int .u64 p0, .int .u64 p1, .int .u64 p2, .int .u64 p3, .int .u64 v, .int .u64 o0, .int .u64 o1, .int .u64 o2, .int .u64 o3, .int .u64 s0, .int .u64 s1, .int .u64 s2, .int .u64 s3] := by
 obtain ⟨xs, m, rfl, hx, hlen, hxl, hel⟩ := DataW.trod_struct Tryz.underlying67 h
 have hlen' : cs.length = 14 := hlen.trans (by kernel_rfl)
 have k3 : Tryz.prog.cellsOf 3 = 1 := by kernel_rfl
 have k45 : Tryz.prog.cellsOf 45 = 4 := by kernel_rfl
 have k44 : Tryz.prog.cellsOf 44 = 1 := by kernel_rfl
 have k50 : Tryz.prog.cellsOf 50 = 4 := by kernel_rfl
 have hxl' : xs.length = 5 := hxl
 simp only [Prod.mk.injEq, DataW.agg.injEq] at hx
 match xs, hxl', cs, hlen' with
 | [x0, x1, x2, x3, x4], _, [c0, c1, c2, c3, c4, c5, c6, c7, c8, c9, c10, c11, c12, c13], _ =>
  have h0 : DataW.trod enc Tryz.prog w base spare held m 3 (([c0, c1, c2, c3, c4, c5, c6, c7, c8, c9, c10, c11, c12, c13].drop 0).take (Tryz.prog.cellsOf 3)) = some x0 := hel 0 _ rfl
  rw [k3] at h0
  have h1 : DataW.trod enc Tryz.prog w base spare held m 45 (([c0, c1, c2, c3, c4, c5, c6, c7, c8, c9, c10, c11, c12, c13].drop 1).take (Tryz.prog.cellsOf 45)) = some x1 := hel 1 _ rfl
  rw [k45] at h1
  have h2 : DataW.trod enc Tryz.prog w base spare held m 44 (([c0, c1, c2, c3, c4, c5, c6, c7, c8, c9, c10, c11, c12, c13].drop 5).take (Tryz.prog.cellsOf 44)) = some x2 := hel 2 _ rfl
  rw [k44] at h2
  have h3 : DataW.trod enc Tryz.prog w base spare held m 50 (([c0, c1, c2, c3, c4, c5, c6, c7, c8, c9, c10, c11, c12, c13].drop 6).take (Tryz.prog.cellsOf 50)) = some x3 := hel 3 _ rfl
  rw [k50] at h3
  have h4 : DataW.trod enc Tryz.prog w base spare held m 45 (([c0, c1, c2, c3, c4, c5, c6, c7, c8, c9, c10, c11, c12, c13].drop 10).take (Tryz.prog.cellsOf 45)) = some x4 := hel 4 _ rfl
  rw [k45] at h4
  have h0 : DataW.trod enc Tryz.prog w base spare held m 3 [c0] = some x0 := h0
  have h1 : DataW.trod enc Tryz.prog w base spare held m 45 [c1, c2, c3, c4] = some x1 := h1
  have h2 : DataW.trod enc Tryz.prog w base spare held m 44 [c5] = some x2 := h2
  have h3 : DataW.trod enc Tryz.prog w base spare held m 50 [c6, c7, c8, c9] = some x3 := h3
  have h4 : DataW.trod enc Tryz.prog w base spare held m 45 [c10, c11, c12, c13] = some x4 := h4
  obtain ⟨y0, z0⟩ := x0
  obtain ⟨y1, z1⟩ := x1
  obtain ⟨y2, z2⟩ := x2
  obtain ⟨y3, z3⟩ := x3
  obtain ⟨y4, z4⟩ := x4
  simp only [List.map_cons, List.map_nil, List.cons.injEq, and_true] at hx
  obtain ⟨⟨rfl, rfl, rfl, rfl, rfl⟩, _⟩ := hx
  have q0 := one_int Tryz.underlying3 h0
  have q1 := row_ints (ns := [p0, p1, p2, p3]) Tryz.underlying45 Tryz.underlying44 k44 k45 rfl h1
  have q2 := one_int Tryz.underlying44 h2
  have q3 := row_ints (ns := [o0, o1, o2, o3]) Tryz.underlying50 Tryz.underlying44 k44 k50 rfl h3
  have q4 := row_ints (ns := [s0, s1, s2, s3]) Tryz.underlying45 Tryz.underlying44 k44 k45 rfl h4
  simp only [List.map_cons, List.map_nil, List.cons.injEq, and_true] at q0 q1 q2 q3 q4
  obtain rfl := q0
  obtain ⟨rfl, rfl, rfl, rfl⟩ := q1
  obtain rfl := q2
  obtain ⟨rfl, rfl, rfl, rfl⟩ := q3
  obtain ⟨rfl, rfl, rfl, rfl⟩ := q4
  rfl
set_option maxRecDepth 100000 in
theorem of_laid {W : World} (h : laidMetH Tryz.prog laid3 W) : Laid W := by
 rw [MakeChecks.laidMetH_plain _ _ _ (by kernel_rfl)] at h
 obtain ⟨ps, ⟨g0, t0, cs0, f0, p0, q0, hg0, ht0, hv0, hd0, ⟨g1, t1, cs1, f1, p1, q1, hg1, ht1, hv1, hd1, ⟨g2, t2, cs2, f2, p2, q2, hg2, ht2, hv2, hd2, _⟩, _⟩, _⟩, _, _⟩ := h
 obtain rfl := Option.some.inj (gC.symm.trans hg0)
 obtain rfl := Option.some.inj (gS.symm.trans hg1)
 obtain rfl := Option.some.inj (gF.symm.trans hg2)
 obtain rfl := Option.some.inj (tC.symm.trans ht0)
 obtain rfl := Option.some.inj (tS.symm.trans ht1)
 obtain rfl := Option.some.inj (tF.symm.trans ht2)
 have c := row_ints (ns := shaK.map fun (n : Nat) => (n : Int)) Tryz.underlying186 Tryz.underlying116 (by kernel_rfl) (by kernel_rfl) rfl hd0
 have s := row_ints (ns := shaIV.map fun (n : Nat) => (n : Int)) Tryz.underlying144 Tryz.underlying116 (by kernel_rfl) (by kernel_rfl) rfl hd1
 obtain ⟨xs, m, rfl, hx, hlen, hxl, hel⟩ := DataW.trod_array Tryz.underlying117 hd2
 have k67 : Tryz.prog.cellsOf 67 = 14 := by kernel_rfl
 have hlen' : cs2.toList.length = 28 := hlen.trans (by kernel_rfl)
 simp only [Prod.mk.injEq] at hx
 have hf : cs2.toList = (fp1.arr ++ fp2.arr).toList := by
  match xs, hxl with
  | [x0, x1], _ =>
   obtain ⟨y0, z0⟩ := x0
   obtain ⟨y1, z1⟩ := x1
   have h0 := hel 0 (by decide)
   have h1 := hel 1 (by decide)
   rw [k67] at h0 h1
   have hx1 : [DataW.agg _, DataW.agg _] = [y0, y1] := DataW.agg.inj hx.1
   simp only [List.cons.injEq, and_true] at hx1
   obtain ⟨rfl, rfl⟩ := hx1
   have r0 := row_field h0
   have r1 := row_field h1
   have e : cs2.toList = (cs2.toList.drop (0 * 14)).take 14 ++ (cs2.toList.drop (1 * 14)).take 14 := by
    rw [Nat.zero_mul, Nat.one_mul, List.drop_zero, List.take_of_length_le (l := cs2.toList.drop 14) (by rw [List.length_drop]; omega), List.take_append_drop]
   rw [e, r0, r1]
   rfl
 refine ⟨fun k hk => ?_, fun k hk => ?_, fun k hk => ?_⟩
 ·refine (World.var?_cell gF hv2 k).trans ((Array.getElem?_toList).symm.trans ?_)
  rw [show cs2.toList = _ from hf, Array.getElem?_toList]
 ·refine (World.var?_cell gS hv1 k).trans ((Array.getElem?_toList).symm.trans ?_)
  rw [show _ = _ from s, List.getElem?_map, List.getElem?_map, Option.map_map]
  rfl
 ·refine (World.var?_cell gC hv0 k).trans ((Array.getElem?_toList).symm.trans ?_)
  rw [show _ = _ from c, List.getElem?_map, List.getElem?_map, Option.map_map]
  rfl
end Go.Proofs.YtccgfladbibjbaaGreatDoor
