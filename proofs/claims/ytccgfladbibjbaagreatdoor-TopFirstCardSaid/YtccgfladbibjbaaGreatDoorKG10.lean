/- mont.Mul: the walk. -/
import Derived.Test.YtccgfladbibjbaaGreatDoorKG09
import Derived.Deep.RegionLaw
import Derived.Laws.Cover3
namespace Go.Proofs.YtccgfladbibjbaaGreatDoor
open Go.RowKit
attribute [local go_sem ↓] add_UU sub_UU mul_UU add_UL add_LU sub_UL sub_LU mul_UL neg_at not_at and_UU or_UU xor_UU andNot_UU and_UL or_LU shr_UL shl_UL shr_UN shl_UN shl_LN quo_UL rem_UL quo_UU rem_UU
attribute [local go_sem] wrap64_N wrapi_mod wrap8_U wrap32_U wrap64_B wrap32_B wrap8_D wrapi_B wrap64_UU eq_UU ne_UU eq_UL ne_UL lt_UU le_UU
def tw (t : List (BitVec 64)) (k : Nat) : BitVec 64 := t[k]?.getD 0#64
def rowA (a : V4) (y : BitVec 64) (t : List (BitVec 64)) : Nat → List (BitVec 64) × BitVec 64
 | 0 => (t, 0#64)
 | j + 1 => ((rowA a y t j).1.set j (mulStep (a.get j) y (tw (rowA a y t j).1 j) (rowA a y t j).2).1, (mulStep (a.get j) y (tw (rowA a y t j).1 j) (rowA a y t j).2).2)
def rowP (p : V4) (m : BitVec 64) (t : List (BitVec 64)) : Nat → List (BitVec 64) × BitVec 64
 | 0 => (t, (mulStep m p.x0 (tw t 0) 0#64).2)
 | j + 1 => ((rowP p m t j).1.set j (mulStep m (p.get (j + 1)) (tw (rowP p m t j).1 (j + 1)) (rowP p m t j).2).1, (mulStep m (p.get (j + 1)) (tw (rowP p m t j).1 (j + 1)) (rowP p m t j).2).2)
def mid (r : List (BitVec 64) × BitVec 64) : List (BitVec 64) := (r.1.set 4 (addF (tw r.1 4) r.2 false).1).set 5 (bw (addF (tw r.1 4) r.2 false).2)
def fold (r : List (BitVec 64) × BitVec 64) : List (BitVec 64) := (r.1.set 3 (addF (tw r.1 4) r.2 false).1).set 4 (tw r.1 5 + bw (addF (tw r.1 4) r.2 false).2)
def mround (f : FP) (a : V4) (y : BitVec 64) (t : List (BitVec 64)) : List (BitVec 64) :=
 fold (rowP f.p (tw (mid (rowA a y t 4)) 0 * f.inv) (mid (rowA a y t 4)) 3)
def mrows (f : FP) (a b : V4) : Nat → List (BitVec 64)
 | 0 => List.replicate 6 0#64
 | i + 1 => mround f a (b.get i) (mrows f a b i)
theorem IsF.pcell {w : World} {b : Nat} {f : FP} (h : IsF w b f) (k : Nat) (hk : k < 4) : w.cell? ⟨b, 1 + k, none⟩ = some (.int .u64 (U (f.p.get k))) := by
 rw [h.cell (1 + k)]
 match k, hk with
 | 0, _ => rfl
 | 1, _ => rfl
 | 2, _ => rfl
 | 3, _ => rfl
structure MonI (f : FP) (a b : V4) (w : World) (t : List (BitVec 64)) (wr : World) : Prop where
 f : IsF wr w.heap.size f
 a : IsVec wr (w.heap.size + 1) 50 a
 b : IsVec wr (w.heap.size + 1 + 1) 50 b
 o : IsVec wr (w.heap.size + 1 + 1 + 1) 50 V4.zero
 tb : IsBlk wr (w.heap.size + 1 + 1 + 1 + 1) 163 (wordVals t)
 len : t.length = 6
 below : Below w.heap.size w wr
theorem MonI.cell {f : FP} {a b : V4} {w wr : World} {t : List (BitVec 64)} (h : MonI f a b w t wr) (k : Nat) (hk : k < 6) : wr.cell? ⟨w.heap.size + 1 + 1 + 1 + 1, k, none⟩ = some (.int .u64 (U (tw t k))) := by
 rw [h.tb.cell k]
 exact wordVals_get t k (by rw [h.len]; exact hk)
theorem MonI.drew {f : FP} {a b : V4} {w wr : World} {t : List (BitVec 64)} (h : MonI f a b w t wr) : MonI f a b w t wr.drew := ⟨h.f, h.a, h.b, h.o, h.tb, h.len, h.below.drew⟩
theorem IsF.other {w : World} {b : Nat} {f : FP} (h : IsF w b f) (a : Addr) (u : Value) (hne : b ≠ a.block) : IsF (w.setCell a u) b f := (Below.heap_setCell w a u b hne).trans h
theorem MonI.set {f : FP} {a b : V4} {w wr : World} {t : List (BitVec 64)} (h : MonI f a b w t wr) (k : Nat) (x : BitVec 64) : MonI f a b w (t.set k x) (wr.setCell ⟨w.heap.size + 1 + 1 + 1 + 1, k, none⟩ (.int .u64 (U x))) :=
 ⟨h.f.other _ _ (by simp; omega), h.a.other _ _ (by simp), h.b.other _ _ (by simp), h.o.other _ _ (by simp), by have := h.tb.set k (.int .u64 (U x)); rwa [wordVals_set] at this, by rw [List.length_set]; exact h.len, h.below.setCell (p := ⟨w.heap.size + 1 + 1 + 1 + 1, k, none⟩) (by simp; omega) _⟩
set_option maxRecDepth 20000 in
set_option maxHeartbeats 4000000 in
theorem montMulWalk (f : FP) (a b : V4) (w : World) :
  Calls Tryz.prog 78 #[f.val, a.val, b.val] w fun e w' => e = .returned (subP f.p ⟨tw (mrows f a b 4) 0, tw (mrows f a b 4) 1, tw (mrows f a b 4) 2, tw (mrows f a b 4) 3⟩ (tw (mrows f a b 4) 4)).val ∧ Below w.heap.size w w' := by
 have hcall := call_add0
 obtain ⟨t, ht⟩ : ∃ t, t = mrows f a b 4 := ⟨_, rfl⟩
 obtain ⟨r, hr⟩ : ∃ r, r = subP f.p ⟨tw t 0, tw t 1, tw t 2, tw t 3⟩ (tw t 4) := ⟨_, rfl⟩
 have HS := Lib.hid (subtract f ⟨tw t 0, tw t 1, tw t 2, tw t 3⟩ (tw t 4))
 rw [← hr] at HS
 rw [← ht, ← hr]
 have HT := Lib.hid ht
 clear ht hr
 unfold FP.val FP.arr V4.val V4.arr at HS
 dsimp only at HS
 unfold FP.val V4.val V4.arr
 have X := Lib.hid (show MonI f a b w (mrows f a b 0) (((((w.alloc (.cells f.arr 67)).alloc (.cells a.arr 50)).alloc (.cells b.arr 50)).alloc (.cells V4.zero.arr 50)).alloc (.cells (wordVals (mrows f a b 0)).toArray 163)) from
  ⟨((((IsF.newAt w f _ rfl).alloc _).alloc _).alloc _).alloc _, (((IsVec.newAt _ _ a _ (by simp)).alloc _).alloc _).alloc _, ((IsVec.newAt _ _ b _ (by simp)).alloc _).alloc _, (IsVec.newAt _ _ _ _ (by simp)).alloc _, IsBlk.newAt _ _ _ _ (by simp), rfl, by go_grown⟩)
 go_enter Tryz.func78, Tryz.ntmps78
 go_wp2
 go_loopw [15] (fun i wr => ∃ k : Nat, k ≤ 4 ∧ i = .int .i64 k ∧ MonI f a b w (mrows f a b k) wr) (fun i _ => 4 - (intOf i).toNat)
 case atStart => exact ⟨0, by omega, rfl, X.out⟩
 case round =>
  clear X
  obtain ⟨i, hi, rfl, hI⟩ := hrel
  have i0 : (0 : Int) ≤ (i : Int) := Int.natCast_nonneg i
  by_cases hlt : i < 4
  ·have hlt' : (i : Int) < 4 := by omega
   have HI := Lib.hid hI
   clear hI
   go_wp2
   go_loopw [9, 18] (fun c j wr => ∃ q : Nat, q ≤ 4 ∧ j = .int .i64 q ∧ c = .int .u64 (U (rowA a (b.get i) (mrows f a b i) q).2) ∧ MonI f a b w (rowA a (b.get i) (mrows f a b i) q).1 wr) (fun _ j _ => 4 - (intOf j).toNat)
   case atStart => exact ⟨0, by omega, rfl, rfl, HI.out⟩
   case round =>
    clear HI
    obtain ⟨q, hq, rfl, rfl, hJ⟩ := hrel
    have q0 : (0 : Int) ≤ (q : Int) := Int.natCast_nonneg q
    by_cases hqt : q < 4
    ·have hqt' : (q : Int) < 4 := by omega
     have hq6 : (q : Int) < 6 := by omega
     have ca := hJ.a.cell q hqt
     have cb := hJ.b.cell i hlt
     have ct := hJ.cell q (by omega)
     have ft := hJ.tb.frozen q
     have HM := Lib.hid (multiplyAdd (a.get q) (b.get i) (tw (rowA a (b.get i) (mrows f a b i) q).1 q) (rowA a (b.get i) (mrows f a b i) q).2)
     have HJ := Lib.hid hJ
     clear hJ
     go_wp2
     go_region_law (first | (go_simp; go_at_call 106; with_reducible refine (HM.out _).mono ?_; rintro e w2 ⟨rfl, rfl⟩))
     all_goals
      go_wp2
      exact ⟨⟨q + 1, by omega, by go_num, rfl, HJ.out.drew.set q _⟩, by simp [intOf]; omega⟩
    ·obtain rfl : q = 4 := by omega
     obtain ⟨r, hr⟩ : ∃ r, r = rowA a (b.get i) (mrows f a b i) 4 := ⟨_, rfl⟩
     rw [← hr] at hJ
     have HRR := Lib.hid hr
     have c0 := hJ.cell 0 (by decide)
     have c4 := hJ.cell 4 (by decide)
     have c5 := hJ.cell 5 (by decide)
     have f4 := hJ.tb.frozen 4
     have f5 := hJ.tb.frozen 5
     obtain ⟨m0, m1, m2, m3⟩ := hJ.f.mod
     have mi : wr.cell? ⟨w.heap.size, 5, none⟩ = some (.int .u64 (U f.inv)) := hJ.f.cell 5
     have hmid := ((hJ.set 4 (addF (tw r.1 4) r.2 false).1).set 5 (bw (addF (tw r.1 4) r.2 false).2))
     have e0 : tw (mid r) 0 = tw r.1 0 := by
      unfold mid tw
      rw [List.getElem?_set_ne (by decide), List.getElem?_set_ne (by decide)]
     obtain ⟨m, hm⟩ : ∃ m, m = tw r.1 0 * f.inv := ⟨_, rfl⟩
     have HM := Lib.hid (multiplyAdd m f.p.x0 (tw r.1 0) 0#64)
     rw [show U 0#64 = 0 from rfl] at HM
     have HQ := Lib.hid (show (mulStep m f.p.x0 (tw r.1 0) 0#64).2 = (rowP f.p m (mid r) 0).2 from by rw [← e0]; rfl)
     have HE := Lib.hid (show mrows f a b (i + 1) = fold (rowP f.p m (mid r) 3) from by
      show mround f a (b.get i) (mrows f a b i) = _
      unfold mround
      rw [← hr, e0, hm])
     have HMid := Lib.hid (show MonI f a b w (rowP f.p m (mid r) 0).1 _ from hmid)
     clear hJ hmid e0
     rw [← hr]
     clear hr HRR
     go_wp2_with fail
     rw [← hm]
     clear hm
     refine (HM.out _).mono ?_
     rintro e w2 ⟨rfl, rfl⟩
     rw [HQ.out]
     clear HQ HM c0 c4 c5 f4 f5 m0 m1 m2 m3 mi
     go_wp2
     go_loopw [9, 12] (fun c jv wr => ∃ q j : Nat, q ≤ 3 ∧ j = q + 1 ∧ jv = .int .i64 j ∧ c = .int .u64 (U (rowP f.p m (mid r) q).2) ∧ MonI f a b w (rowP f.p m (mid r) q).1 wr) (fun _ j _ => 4 - (intOf j).toNat)
     case atStart => exact ⟨0, 1, by omega, rfl, rfl, rfl, HMid.out⟩
     case round =>
      clear HMid
      obtain ⟨q, j, hq, hj, rfl, rfl, hJ⟩ := hrel
      have q0 : (0 : Int) ≤ (q : Int) := Int.natCast_nonneg q
      have j0 : (0 : Int) ≤ (j : Int) := Int.natCast_nonneg j
      by_cases hqt : q < 3
      ·have hjt : (j : Int) < 4 := by omega
       have hj6 : (j : Int) < 6 := by omega
       have hq6 : (q : Int) < 6 := by omega
       have hw : IntKind.i64.wrap ((j : Int) - 1) = (q : Int) := by rw [IntKind.wrap_i64]; omega
       have ct := hJ.cell j (by omega)
       have cq := hJ.cell q (by omega)
       have cp := hJ.f.pcell j (by omega)
       have ft := hJ.tb.frozen q
       have HM := Lib.hid (multiplyAdd m (f.p.get j) (tw (rowP f.p m (mid r) q).1 j) (rowP f.p m (mid r) q).2)
       have HJ := Lib.hid hJ
       have HJE := Lib.hid hj
       clear hJ hj
       go_wp2_with fail
       go_region_law (first | (go_simp; go_at_call 106; with_reducible refine (HM.out _).mono ?_; rintro e w2 ⟨rfl, rfl⟩))
       all_goals
        go_wp2
        have hj := HJE.out
        exact ⟨⟨q + 1, j + 1, by omega, by omega, by go_num, by subst hj; rfl, by subst hj; exact HJ.out.drew.set q _⟩, by simp [intOf]; omega⟩
      ·obtain rfl : q = 3 := by omega
       subst hj
       obtain ⟨r3, hr3⟩ : ∃ r3, r3 = rowP f.p m (mid r) 3 := ⟨_, rfl⟩
       rw [← hr3] at hJ HE
       have c3 := hJ.cell 3 (by decide)
       have c4 := hJ.cell 4 (by decide)
       have c5 := hJ.cell 5 (by decide)
       have f3 := hJ.tb.frozen 3
       have f4 := hJ.tb.frozen 4
       have HX := Lib.hid (show MonI f a b w (mrows f a b (i + 1)) _ from by rw [HE.out]; exact (hJ.set 3 (addF (tw r3.1 4) r3.2 false).1).set 4 (tw r3.1 5 + bw (addF (tw r3.1 4) r3.2 false).2))
       clear hJ
       rw [← hr3]
       clear hr3
       go_wp2_with fail
       exact ⟨⟨i + 1, by omega, by go_num, HX.out⟩, by simp [intOf]; omega⟩
  ·obtain rfl : i = 4 := by omega
   rw [← HT.out] at hI
   clear HT
   have t0 := hI.cell 0 (by decide)
   have t1 := hI.cell 1 (by decide)
   have t2 := hI.cell 2 (by decide)
   have t3 := hI.cell 3 (by decide)
   have t4 := hI.cell 4 (by decide)
   obtain ⟨p0, p1, p2, p3⟩ := hI.f.mod
   have q0 : wr.cell? ⟨w.heap.size, 0, none⟩ = some (.int .i64 f.id) := hI.f.cell 0
   have q5 : wr.cell? ⟨w.heap.size, 5, none⟩ = some (.int .u64 (U f.inv)) := hI.f.cell 5
   have q6 : wr.cell? ⟨w.heap.size, 6, none⟩ = some (.int .u64 (U f.one.x0)) := hI.f.cell 6
   have q7 : wr.cell? ⟨w.heap.size, 7, none⟩ = some (.int .u64 (U f.one.x1)) := hI.f.cell 7
   have q8 : wr.cell? ⟨w.heap.size, 8, none⟩ = some (.int .u64 (U f.one.x2)) := hI.f.cell 8
   have q9 : wr.cell? ⟨w.heap.size, 9, none⟩ = some (.int .u64 (U f.one.x3)) := hI.f.cell 9
   have q10 : wr.cell? ⟨w.heap.size, 10, none⟩ = some (.int .u64 (U f.sq.x0)) := hI.f.cell 10
   have q11 : wr.cell? ⟨w.heap.size, 11, none⟩ = some (.int .u64 (U f.sq.x1)) := hI.f.cell 11
   have q12 : wr.cell? ⟨w.heap.size, 12, none⟩ = some (.int .u64 (U f.sq.x2)) := hI.f.cell 12
   have q13 : wr.cell? ⟨w.heap.size, 13, none⟩ = some (.int .u64 (U f.sq.x3)) := hI.f.cell 13
   have HI := Lib.hid hI
   clear hI
   have hat : ∀ w', (Instr.arrayAt 45 (.slice (some ⟨w.heap.size + 1 + 1 + 1 + 1, 0, none⟩) 4 6)).run Tryz.prog w' = .ok (.pointer (some ⟨w.heap.size + 1 + 1 + 1 + 1, 0, none⟩)) w' := fun w' => run_arrayAt w' _ _ 4 _ 4 6 Tryz.underlying45 (by decide)
   go_wp2_with fail
   go_region_law (first | (go_simp; go_at_call 108; with_reducible refine (HS.out _).mono ?_; rintro e w2 ⟨rfl, hb2⟩; have hz := HI.out.drew.o.below hb2 HI.out.drew.o.lt; have z0 := hz.cell 0 (by decide); have z1 := hz.cell 1 (by decide); have z2 := hz.cell 2 (by decide); have z3 := hz.cell 3 (by decide); have y0 := hz.frozen 0; have y1 := hz.frozen 1; have y2 := hz.frozen 2; have y3 := hz.frozen 3; have HB := Lib.hid hb2; clear hz hb2))
   all_goals
    have hv := stored_vec (r := r) ((((HI.out.drew.o.below HB.out HI.out.drew.o.lt).set 0 (by decide) r.x0).set 1 (by decide) r.x1).set 2 (by decide) r.x2 |>.set 3 (by decide) r.x3)
    have hB := (((((HI.out.drew.below.trans (HB.out.mono HI.out.drew.below.size)).setCell (p := ⟨w.heap.size + 1 + 1 + 1, 0, none⟩) (by simp; omega) (.int .u64 (U r.x0))).setCell (p := ⟨w.heap.size + 1 + 1 + 1, 1, none⟩) (by simp; omega) (.int .u64 (U r.x1))).setCell (p := ⟨w.heap.size + 1 + 1 + 1, 2, none⟩) (by simp; omega) (.int .u64 (U r.x2))).setCell (p := ⟨w.heap.size + 1 + 1 + 1, 3, none⟩) (by simp; omega) (.int .u64 (U r.x3)))
    have d0 := hv.cell 0 (by omega)
    have d1 := hv.cell 1 (by omega)
    have d2 := hv.cell 2 (by omega)
    have d3 := hv.cell 3 (by omega)
    have HB2 := Lib.hid hB
    clear hv hB t0 t1 t2 t3 t4 p0 p1 p2 p3 q0 q5 q6 q7 q8 q9 q10 q11 q12 q13 z0 z1 z2 z3 y0 y1 y2 y3
    go_wp2
    refine bodyPost_ret (v := .agg #[.int .u64 (U r.x0), .int .u64 (U r.x1), .int .u64 (U r.x2), .int .u64 (U r.x3)]) (by simp [results, Tryz.results78, go_sem, d0, d1, d2, d3]; exact ⟨rfl, rfl, rfl, rfl⟩) rfl ⟨rfl, HB2.out⟩
end Go.Proofs.YtccgfladbibjbaaGreatDoor
namespace Go.Proofs.YtccgfladbibjbaaGreatDoor
open Go.RowKit
attribute [local go_sem ↓] add_UU sub_UU mul_UU add_UL add_LU sub_UL sub_LU mul_UL neg_at not_at and_UU or_UU xor_UU andNot_UU and_UL or_LU shr_UL shl_UL shr_UN shl_UN shl_LN quo_UL rem_UL quo_UU rem_UU
attribute [local go_sem] wrap64_N wrapi_mod wrap8_U wrap32_U wrap64_B wrap32_B wrap8_D wrapi_B wrap64_UU eq_UU ne_UU eq_UL ne_UL lt_UU le_UU
def mmul (f : FP) (a b : V4) : V4 := subP f.p ⟨tw (mrows f a b 4) 0, tw (mrows f a b 4) 1, tw (mrows f a b 4) 2, tw (mrows f a b 4) 3⟩ (tw (mrows f a b 4) 4)
theorem montMul (f : FP) (a b : V4) (w : World) :
  Calls Tryz.prog 78 #[f.val, a.val, b.val] w fun e w' => e = .returned (mmul f a b).val ∧ Below w.heap.size w w' := montMulWalk f a b w
theorem IsF.all {w : World} {b : Nat} {f : FP} (h : IsF w b f) : w.cell? ⟨b, 0, none⟩ = some (.int .i64 f.id) ∧ w.cell? ⟨b, 1, none⟩ = some (.int .u64 (U f.p.x0)) ∧ w.cell? ⟨b, 2, none⟩ = some (.int .u64 (U f.p.x1)) ∧ w.cell? ⟨b, 3, none⟩ = some (.int .u64 (U f.p.x2)) ∧ w.cell? ⟨b, 4, none⟩ = some (.int .u64 (U f.p.x3))
  ∧ w.cell? ⟨b, 5, none⟩ = some (.int .u64 (U f.inv)) ∧ w.cell? ⟨b, 6, none⟩ = some (.int .u64 (U f.one.x0)) ∧ w.cell? ⟨b, 7, none⟩ = some (.int .u64 (U f.one.x1)) ∧ w.cell? ⟨b, 8, none⟩ = some (.int .u64 (U f.one.x2)) ∧ w.cell? ⟨b, 9, none⟩ = some (.int .u64 (U f.one.x3))
  ∧ w.cell? ⟨b, 10, none⟩ = some (.int .u64 (U f.sq.x0)) ∧ w.cell? ⟨b, 11, none⟩ = some (.int .u64 (U f.sq.x1)) ∧ w.cell? ⟨b, 12, none⟩ = some (.int .u64 (U f.sq.x2)) ∧ w.cell? ⟨b, 13, none⟩ = some (.int .u64 (U f.sq.x3)) :=
 ⟨h.cell 0, h.cell 1, h.cell 2, h.cell 3, h.cell 4, h.cell 5, h.cell 6, h.cell 7, h.cell 8, h.cell 9, h.cell 10, h.cell 11, h.cell 12, h.cell 13⟩
theorem IsVec.all {w : World} {b : Nat} {t : TypeId} {v : V4} (h : IsVec w b t v) : w.cell? ⟨b, 0, none⟩ = some (.int .u64 (U v.x0)) ∧ w.cell? ⟨b, 1, none⟩ = some (.int .u64 (U v.x1)) ∧ w.cell? ⟨b, 2, none⟩ = some (.int .u64 (U v.x2)) ∧ w.cell? ⟨b, 3, none⟩ = some (.int .u64 (U v.x3)) :=
 ⟨h.cell 0 (by decide), h.cell 1 (by decide), h.cell 2 (by decide), h.cell 3 (by decide)⟩
theorem IsVec.open_ {w : World} {b : Nat} {t : TypeId} {v : V4} (h : IsVec w b t v) : w.frozen? ⟨b, 0, none⟩ = false ∧ w.frozen? ⟨b, 1, none⟩ = false ∧ w.frozen? ⟨b, 2, none⟩ = false ∧ w.frozen? ⟨b, 3, none⟩ = false :=
 ⟨h.frozen 0, h.frozen 1, h.frozen 2, h.frozen 3⟩
def V4.unit : V4 := ⟨1#64, 0#64, 0#64, 0#64⟩
set_option maxRecDepth 20000 in
set_option maxHeartbeats 4000000 in
theorem montTo (f : FP) (a : V4) (w : World) :
  Calls Tryz.prog 46 #[f.val, a.val] w fun e w' => e = .returned (mmul f a f.sq).val ∧ Below w.heap.size w w' := by
 have h0 := (((IsF.newAt w f (w.heap.size) (by simp)).alloc (.cells a.arr 45)).alloc (.cells V4.zero.arr 50))
 obtain ⟨p0, p1, p2, p3, p4, p5, p6, p7, p8, p9, p10, p11, p12, p13⟩ := h0.all
 have h1 := ((IsVec.newAt (w.alloc (.cells f.arr 67)) 45 a (w.heap.size + 1) (by simp)).alloc (.cells V4.zero.arr 50))
 obtain ⟨a10, a11, a12, a13⟩ := h1.all
 have h2 := (IsVec.newAt ((w.alloc (.cells f.arr 67)).alloc (.cells a.arr 45)) 50 V4.zero (w.heap.size + 1 + 1) (by simp))
 have HB0 := Lib.hid (show Below w.heap.size w (((w.alloc (.cells f.arr 67)).alloc (.cells a.arr 45)).alloc (.cells V4.zero.arr 50)) from by go_grown)
 have HZ := Lib.hid h2
 have HM := Lib.hid (montMul f a f.sq)
 generalize (mmul f a f.sq) = r at *
 clear h0 h1 h2
 unfold FP.arr V4.arr at p0 p1 p2 p3 p4 p5 p6 p7 p8 p9 p10 p11 p12 p13 a10 a11 a12 a13
 unfold FP.val FP.arr V4.val V4.arr at HM
 unfold FP.val FP.arr V4.val V4.arr
 go_enter Tryz.func46, Tryz.ntmps46
 go_wp2_with fail
 refine (HM.out _).mono ?_
 rintro e w1 ⟨rfl, hb1⟩
 have hz := HZ.out.below hb1 (by simp)
 obtain ⟨z0, z1, z2, z3⟩ := hz.all
 obtain ⟨y0, y1, y2, y3⟩ := hz.open_
 have hv := stored_vec (r := r) ((((hz.set 0 (by decide) r.x0).set 1 (by decide) r.x1).set 2 (by decide) r.x2).set 3 (by decide) r.x3)
 obtain ⟨d0, d1, d2, d3⟩ := hv.all
 have HB := Lib.hid (((((HB0.out.trans (hb1.mono (by simp; omega))).setCell (p := ⟨w.heap.size + 1 + 1, 0, none⟩) (by simp; omega) (.int .u64 (U r.x0))).setCell (p := ⟨w.heap.size + 1 + 1, 1, none⟩) (by simp; omega) (.int .u64 (U r.x1))).setCell (p := ⟨w.heap.size + 1 + 1, 2, none⟩) (by simp; omega) (.int .u64 (U r.x2))).setCell (p := ⟨w.heap.size + 1 + 1, 3, none⟩) (by simp; omega) (.int .u64 (U r.x3)))
 clear hz hv hb1 p0 p1 p2 p3 p4 p5 p6 p7 p8 p9 p10 p11 p12 p13 a10 a11 a12 a13
 go_wp2
 refine bodyPost_ret (v := .agg #[.int .u64 (U r.x0), .int .u64 (U r.x1), .int .u64 (U r.x2), .int .u64 (U r.x3)]) (by simp [results, Tryz.results46, go_sem, d0, d1, d2, d3]) rfl ⟨rfl, HB.out⟩
set_option maxRecDepth 20000 in
set_option maxHeartbeats 4000000 in
theorem montFrom (f : FP) (a : V4) (w : World) :
  Calls Tryz.prog 69 #[f.val, a.val] w fun e w' => e = .returned (mmul f a V4.unit).val ∧ Below w.heap.size w w' := by
 have h0 := (((IsF.newAt w f (w.heap.size) (by simp)).alloc (.cells a.arr 50)).alloc (.cells V4.zero.arr 45))
 obtain ⟨p0, p1, p2, p3, p4, p5, p6, p7, p8, p9, p10, p11, p12, p13⟩ := h0.all
 have h1 := ((IsVec.newAt (w.alloc (.cells f.arr 67)) 50 a (w.heap.size + 1) (by simp)).alloc (.cells V4.zero.arr 45))
 obtain ⟨a10, a11, a12, a13⟩ := h1.all
 have h2 := (IsVec.newAt ((w.alloc (.cells f.arr 67)).alloc (.cells a.arr 50)) 45 V4.zero (w.heap.size + 1 + 1) (by simp))
 have HB0 := Lib.hid (show Below w.heap.size w (((w.alloc (.cells f.arr 67)).alloc (.cells a.arr 50)).alloc (.cells V4.zero.arr 45)) from by go_grown)
 have HZ := Lib.hid h2
 have HM := Lib.hid (montMul f a V4.unit)
 generalize (mmul f a V4.unit) = r at *
 clear h0 h1 h2
 unfold FP.arr V4.arr at p0 p1 p2 p3 p4 p5 p6 p7 p8 p9 p10 p11 p12 p13 a10 a11 a12 a13
 unfold FP.val FP.arr V4.val V4.arr at HM
 rw [show U V4.unit.x0 = 1 from rfl, show U V4.unit.x1 = 0 from rfl, show U V4.unit.x2 = 0 from rfl, show U V4.unit.x3 = 0 from rfl] at HM
 unfold FP.val FP.arr V4.val V4.arr
 go_enter Tryz.func69, Tryz.ntmps69
 go_wp2_with fail
 refine (HM.out _).mono ?_
 rintro e w1 ⟨rfl, hb1⟩
 have hz := HZ.out.below hb1 (by simp)
 obtain ⟨z0, z1, z2, z3⟩ := hz.all
 obtain ⟨y0, y1, y2, y3⟩ := hz.open_
 have hv := stored_vec (r := r) ((((hz.set 0 (by decide) r.x0).set 1 (by decide) r.x1).set 2 (by decide) r.x2).set 3 (by decide) r.x3)
 obtain ⟨d0, d1, d2, d3⟩ := hv.all
 have HB := Lib.hid (((((HB0.out.trans (hb1.mono (by simp; omega))).setCell (p := ⟨w.heap.size + 1 + 1, 0, none⟩) (by simp; omega) (.int .u64 (U r.x0))).setCell (p := ⟨w.heap.size + 1 + 1, 1, none⟩) (by simp; omega) (.int .u64 (U r.x1))).setCell (p := ⟨w.heap.size + 1 + 1, 2, none⟩) (by simp; omega) (.int .u64 (U r.x2))).setCell (p := ⟨w.heap.size + 1 + 1, 3, none⟩) (by simp; omega) (.int .u64 (U r.x3)))
 clear hz hv hb1 p0 p1 p2 p3 p4 p5 p6 p7 p8 p9 p10 p11 p12 p13 a10 a11 a12 a13
 go_wp2
 refine bodyPost_ret (v := .agg #[.int .u64 (U r.x0), .int .u64 (U r.x1), .int .u64 (U r.x2), .int .u64 (U r.x3)]) (by simp [results, Tryz.results69, go_sem, d0, d1, d2, d3]) rfl ⟨rfl, HB.out⟩
set_option maxRecDepth 20000 in
set_option maxHeartbeats 4000000 in
theorem montSquare (f : FP) (a : V4) (w : World) :
  Calls Tryz.prog 150 #[f.val, a.val] w fun e w' => e = .returned (mmul f a a).val ∧ Below w.heap.size w w' := by
 have h0 := (((IsF.newAt w f (w.heap.size) (by simp)).alloc (.cells a.arr 50)).alloc (.cells V4.zero.arr 50))
 obtain ⟨p0, p1, p2, p3, p4, p5, p6, p7, p8, p9, p10, p11, p12, p13⟩ := h0.all
 have h1 := ((IsVec.newAt (w.alloc (.cells f.arr 67)) 50 a (w.heap.size + 1) (by simp)).alloc (.cells V4.zero.arr 50))
 obtain ⟨a10, a11, a12, a13⟩ := h1.all
 have h2 := (IsVec.newAt ((w.alloc (.cells f.arr 67)).alloc (.cells a.arr 50)) 50 V4.zero (w.heap.size + 1 + 1) (by simp))
 have HB0 := Lib.hid (show Below w.heap.size w (((w.alloc (.cells f.arr 67)).alloc (.cells a.arr 50)).alloc (.cells V4.zero.arr 50)) from by go_grown)
 have HZ := Lib.hid h2
 have HM := Lib.hid (montMul f a a)
 generalize (mmul f a a) = r at *
 clear h0 h1 h2
 unfold FP.arr V4.arr at p0 p1 p2 p3 p4 p5 p6 p7 p8 p9 p10 p11 p12 p13 a10 a11 a12 a13
 unfold FP.val FP.arr V4.val V4.arr at HM
 unfold FP.val FP.arr V4.val V4.arr
 go_enter Tryz.func150, Tryz.ntmps150
 go_wp2_with fail
 refine (HM.out _).mono ?_
 rintro e w1 ⟨rfl, hb1⟩
 have hz := HZ.out.below hb1 (by simp)
 obtain ⟨z0, z1, z2, z3⟩ := hz.all
 obtain ⟨y0, y1, y2, y3⟩ := hz.open_
 have hv := stored_vec (r := r) ((((hz.set 0 (by decide) r.x0).set 1 (by decide) r.x1).set 2 (by decide) r.x2).set 3 (by decide) r.x3)
 obtain ⟨d0, d1, d2, d3⟩ := hv.all
 have HB := Lib.hid (((((HB0.out.trans (hb1.mono (by simp; omega))).setCell (p := ⟨w.heap.size + 1 + 1, 0, none⟩) (by simp; omega) (.int .u64 (U r.x0))).setCell (p := ⟨w.heap.size + 1 + 1, 1, none⟩) (by simp; omega) (.int .u64 (U r.x1))).setCell (p := ⟨w.heap.size + 1 + 1, 2, none⟩) (by simp; omega) (.int .u64 (U r.x2))).setCell (p := ⟨w.heap.size + 1 + 1, 3, none⟩) (by simp; omega) (.int .u64 (U r.x3)))
 clear hz hv hb1 p0 p1 p2 p3 p4 p5 p6 p7 p8 p9 p10 p11 p12 p13 a10 a11 a12 a13
 go_wp2
 refine bodyPost_ret (v := .agg #[.int .u64 (U r.x0), .int .u64 (U r.x1), .int .u64 (U r.x2), .int .u64 (U r.x3)]) (by simp [results, Tryz.results150, go_sem, d0, d1, d2, d3]) rfl ⟨rfl, HB.out⟩
set_option maxRecDepth 20000 in
set_option maxHeartbeats 4000000 in
theorem montChoose (m : BitVec 64) (a b : V4) (w : World) :
  Calls Tryz.prog 135 #[.int .u64 (U m), a.val, b.val] w fun e w' => e = .returned (if (m % 2#64 == 1#64) = true then a else b).val ∧ Below w.heap.size w w' := by
 have h0 := (((IsVec.newAt w 50 a (w.heap.size) (by simp)).alloc (.cells b.arr 50)).alloc (.cells V4.zero.arr 50))
 obtain ⟨a00, a01, a02, a03⟩ := h0.all
 have h1 := ((IsVec.newAt (w.alloc (.cells a.arr 50)) 50 b (w.heap.size + 1) (by simp)).alloc (.cells V4.zero.arr 50))
 obtain ⟨a10, a11, a12, a13⟩ := h1.all
 have h2 := (IsVec.newAt ((w.alloc (.cells a.arr 50)).alloc (.cells b.arr 50)) 50 V4.zero (w.heap.size + 1 + 1) (by simp))
 have HB0 := Lib.hid (show Below w.heap.size w (((w.alloc (.cells a.arr 50)).alloc (.cells b.arr 50)).alloc (.cells V4.zero.arr 50)) from by go_grown)
 have HZ := Lib.hid h2
 have HM := Lib.hid (limbChoose m a b)
 generalize (if (m % 2#64 == 1#64) = true then a else b) = r at *
 clear h0 h1 h2
 unfold V4.arr at a00 a01 a02 a03 a10 a11 a12 a13
 unfold V4.val V4.arr at HM
 unfold V4.val V4.arr
 go_enter Tryz.func135, Tryz.ntmps135
 go_wp2_with fail
 refine (HM.out _).mono ?_
 rintro e w1 ⟨rfl, hb1⟩
 have hz := HZ.out.below hb1 (by simp)
 obtain ⟨z0, z1, z2, z3⟩ := hz.all
 obtain ⟨y0, y1, y2, y3⟩ := hz.open_
 have hv := stored_vec (r := r) ((((hz.set 0 (by decide) r.x0).set 1 (by decide) r.x1).set 2 (by decide) r.x2).set 3 (by decide) r.x3)
 obtain ⟨d0, d1, d2, d3⟩ := hv.all
 have HB := Lib.hid (((((HB0.out.trans (hb1.mono (by simp; omega))).setCell (p := ⟨w.heap.size + 1 + 1, 0, none⟩) (by simp; omega) (.int .u64 (U r.x0))).setCell (p := ⟨w.heap.size + 1 + 1, 1, none⟩) (by simp; omega) (.int .u64 (U r.x1))).setCell (p := ⟨w.heap.size + 1 + 1, 2, none⟩) (by simp; omega) (.int .u64 (U r.x2))).setCell (p := ⟨w.heap.size + 1 + 1, 3, none⟩) (by simp; omega) (.int .u64 (U r.x3)))
 clear hz hv hb1 a00 a01 a02 a03 a10 a11 a12 a13
 go_wp2
 refine bodyPost_ret (v := .agg #[.int .u64 (U r.x0), .int .u64 (U r.x1), .int .u64 (U r.x2), .int .u64 (U r.x3)]) (by simp [results, Tryz.results135, go_sem, d0, d1, d2, d3]) rfl ⟨rfl, HB.out⟩
end Go.Proofs.YtccgfladbibjbaaGreatDoor
