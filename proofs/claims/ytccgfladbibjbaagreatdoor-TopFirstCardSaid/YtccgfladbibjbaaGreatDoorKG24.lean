/- poly.Mul. -/
import Derived.Test.YtccgfladbibjbaaGreatDoorKG23
import Derived.Test.YtccgfladbibjbaaGreatDoorKG12
namespace Go.Proofs.YtccgfladbibjbaaGreatDoor
open Go.RowKit
attribute [local go_sem ↓] add_UU sub_UU mul_UU add_UL add_LU sub_UL sub_LU mul_UL neg_at not_at and_UU or_UU xor_UU andNot_UU and_UL or_LU shr_UL shl_UL shr_UN shl_UN shl_LN quo_UL rem_UL quo_UU rem_UU
attribute [local go_sem] wrap64_N wrapi_mod wrap8_U wrap32_U wrap64_B wrap32_B wrap8_D wrapi_B wrap64_UU eq_UU ne_UU eq_UL ne_UL lt_UU le_UU
attribute [local simp] putAgg_size
attribute [local go_sem ↓] loadVar_F loadVar_E loadVar_V loadVar_B32 storeVar_F storeVar_E storeVar_V storeVar_B32 box_F box_E box_V box_B32
attribute [local go_sem ↓ high] V4.cells_val FP.cells_val
attribute [local go_sem] run_loadF run_loadE run_loadV run_loadB32 run_storeF run_storeE run_storeV run_storeB32 run_boxA aggAt_drew aggAt_drewN aggAt_alloc_new aggAt_alloc_past aggAt_setCell_other aggAt_putAgg_other aggAt_putAgg_new putAgg_drew putAgg_size putAgg_alloc_new putAgg_alloc_past putAgg_cell_other putAgg_frozen_other V4.agg_arr FP.agg_arr V4.size_arr FP.size_arr V4.fits FP.fits fitsA_agg4 lt_2 ne_2 en_2 lt_3 ne_3 en_3 lt_4 ne_4 en_4 lt_5 ne_5 en_5 lt_6 ne_6 en_6
set_option maxRecDepth 20000 in
theorem Sees.ld {W : World} {A : Option Addr} {l : List V4} (h : Sees W A (eVals l)) (j : Nat) (hj : j < l.length) : ∃ b o, A = some ⟨b, o, none⟩ ∧ b < W.heap.size ∧ ∀ W', Below W.heap.size W W' → (loadA 50 4 ⟨b, o + j * 4, none⟩).run Tryz.prog W' = .ok (at4 l j).val W' := by
 obtain ⟨b, o, rfl, hb, _⟩ := h.loadE j hj
 refine ⟨b, o, rfl, hb, fun W' hW => ?_⟩
 obtain ⟨b', o', e, _, hl⟩ := (h.below hW).loadE j hj
 injection e with e
 injection e with e1 e2
 subst e1; subst e2
 rw [at4_eq] at hl
 exact hl
set_option maxRecDepth 20000 in
theorem Sees.ld' {W : World} {b o : Nat} {l : List V4} (h : Sees W (some ⟨b, o, none⟩) (eVals l)) (j : Nat) (hj : j < l.length) : ∀ W', Below W.heap.size W W' → (loadA 50 4 ⟨b, o + j * 4, none⟩).run Tryz.prog W' = .ok (at4 l j).val W' := by
 obtain ⟨b', o', e, _, hl⟩ := h.ld j hj
 injection e with e
 injection e with e1 e2
 subst e1; subst e2
 exact hl
theorem Sees.addr {W : World} {A : Option Addr} {xs : List Value} (h : Sees W A xs) (hx : 0 < xs.length) : ∃ b o, A = some ⟨b, o, none⟩ ∧ b < W.heap.size := by
 obtain ⟨b, o, rfl, _⟩ := h hx
 exact ⟨b, o, rfl, Sees.lt h hx⟩
def mulK (f : FP) (x : V4) (b : List V4) (i : Nat) (o : List V4) : Nat → List V4
 | 0 => o
 | k + 1 => (mulK f x b i o k).set (i + k) (madd f (at4 (mulK f x b i o k) (i + k)) (mmul f x (at4 b k)))
def mulI (f : FP) (a b : List V4) : Nat → List V4
 | 0 => List.replicate (a.length + b.length - 1) V4.zero
 | i + 1 => mulK f (at4 a i) b i (mulI f a b i) b.length
def pMul (f : FP) (a b : List V4) : List V4 := mulI f a b a.length
theorem mulK_length (f : FP) (x : V4) (b : List V4) (i : Nat) (o : List V4) : ∀ k, (mulK f x b i o k).length = o.length
 | 0 => rfl
 | k + 1 => by rw [mulK, List.length_set, mulK_length f x b i o k]
theorem mulI_length (f : FP) (a b : List V4) : ∀ i, (mulI f a b i).length = a.length + b.length - 1
 | 0 => List.length_replicate
 | i + 1 => by rw [mulI, mulK_length, mulI_length f a b i]
def RowI (f : FP) (w : World) (o : List V4) (W : World) : Prop := W.heap[w.heap.size]? = some (.cells f.arr 67 (0, 0)) ∧ IsEs W (w.heap.size + 1) o ∧ Below w.heap.size w W
theorem RowI.below {f : FP} {w W W' : World} {o : List V4} (h : RowI f w o W) (hb : Below W.heap.size W W') : RowI f w o W' :=
 ⟨(hb.block _ (Array.getElem?_eq_some_iff.1 h.1).1).trans h.1, h.2.1.below hb, h.2.2.trans (hb.mono h.2.2.size)⟩
theorem RowI.put {f : FP} {w W : World} {o : List V4} (h : RowI f w o W) (k : Nat) (hk : k < o.length) (v : V4) : RowI f w (o.set k v) (putAgg W (w.heap.size + 1) (k * 4) v.arr) :=
 ⟨(putAgg_block _ _ _ _ _ (by omega)).trans h.1, h.2.1.put k hk v, putAgg_below h.2.2 (by omega)⟩
theorem RowI.agg {f : FP} {w W : World} {o : List V4} (h : RowI f w o W) (k : Nat) (hk : k < o.length) : aggAt W 4 (w.heap.size + 1) (k * 4) = some (at4 o k).val := h.2.1.get k hk
theorem RowI.lt {f : FP} {w W : World} {o : List V4} (h : RowI f w o W) : w.heap.size + 1 < W.heap.size := h.2.1.lt
set_option maxRecDepth 100000 in
set_option maxHeartbeats 4000000 in
theorem polyMul (f : FP) (A B : Option Addr) (ca cb : Nat) (a b : List V4) (ha : 0 < a.length) (hb : 0 < b.length) (hn : a.length + b.length ≤ 1073741824) (w : World) (hA : Sees w A (eVals a)) (hB : Sees w B (eVals b)) :
  Calls Tryz.prog 114 #[.pointer none, f.val, .slice A a.length ca, .slice B b.length cb] w fun e w' => ∃ g, e = .returned (.slice (some ⟨g, 0, none⟩) (a.length + b.length - 1) (a.length + b.length - 1)) ∧ w.heap.size ≤ g ∧ IsEs w' g (pMul f a b) ∧ Below w.heap.size w w' := by
 obtain ⟨n, hN⟩ : ∃ n, n = a.length + b.length - 1 := ⟨_, rfl⟩
 have hmk := makeE n (by omega)
 have hw1 : IntKind.i64.wrap ((a.length : Int) + (b.length : Int)) = (a.length : Int) + (b.length : Int) := by rw [IntKind.wrap_i64]; omega
 have hw2 : IntKind.i64.wrap ((a.length : Int) + (b.length : Int) - 1) = (n : Int) := by rw [IntKind.wrap_i64]; omega
 have hna : ((a.length : Int) == 0) = false := beq_eq_false_iff_ne.2 (by omega)
 have hnb : ((b.length : Int) == 0) = false := beq_eq_false_iff_ne.2 (by omega)
 obtain ⟨ba, oa, rfl, hba⟩ := hA.addr (by rw [eVals_length]; omega)
 obtain ⟨bb, ob, rfl, hbb⟩ := hB.addr (by rw [eVals_length]; omega)
 have H0 := Lib.hid (show RowI f w (mulI f a b 0) ((w.alloc (.cells f.arr 67)).alloc (.cells (eVals (List.replicate n V4.zero)).toArray 50)) from
  ⟨IsF.alloc (IsF.newAt w f _ rfl) _, by rw [mulI, ← hN]; exact IsEsT.new _ _ _ (by simp), (by repeat (first | with_reducible assumption | with_reducible exact Below.refl _ _ | (with_reducible refine putAgg_below ?_ (by first | omega | (simp; done) | (simp; omega))) | (with_reducible refine Below.alloc ?_ (by first | omega | (simp; done) | (simp; omega)) _) | (with_reducible refine Below.setCell ?_ (by first | omega | (simp; done) | (simp; omega)) _) | (with_reducible refine Below.drew ?_) | (with_reducible refine Below.trans ?_ (Below.mono (by with_reducible assumption) (by first | omega | (simp; done) | (simp; omega))))))⟩)
 have HS := Lib.hid (And.intro hA hB)
 have HN := Lib.hid hN
 rw [← hN]
 clear hA hB hN
 go_enter Tryz.func114, Tryz.ntmps114
 go_wp2
 clear hmk
 go_loopw [10, 11, 31] (fun _ _ iv W => ∃ i : Nat, i ≤ a.length ∧ iv = .int .i64 i ∧ RowI f w (mulI f a b i) W) (fun _ _ iv _ => a.length - (intOf iv).toNat)
 case atStart => exact ⟨0, by omega, rfl, H0.out⟩
 case round =>
  clear H0
  obtain ⟨i, hi, rfl, hI⟩ := hrel
  by_cases hlt : i < a.length
  ·have hlt' : (i : Int) < (a.length : Int) := by omega
   have hld := (HS.out.1.below hI.2.2).ld' i hlt wr (Below.refl _ _)
   have HI := Lib.hid hI
   have HE := Lib.hid (show mulI f a b (i + 1) = mulK f (at4 a i) b i (mulI f a b i) b.length from rfl)
   have HL := Lib.hid (mulI_length f a b i)
   generalize at4 a i = x at *
   generalize mulI f a b i = o at *
   clear hI
   go_wp2
   (obtain ⟨V, hV⟩ : ∃ W0 : World, W0 = (wr).alloc (.cells x.arr 50) := ⟨_, rfl⟩); (have gV : ∀ (j : Nat) (o : Obj), ([Obj.cells x.arr 50] : List Obj)[j]? = some o → V.heap[wr.heap.size + j]? = some o := by rw [hV]; exact allocs_get wr _); (have zV : V.heap.size = wr.heap.size + 1 := by rw [hV]; exact allocs_size wr [Obj.cells x.arr 50]); (have bV : Below wr.heap.size wr V := by rw [hV]; exact allocs_below wr [Obj.cells x.arr 50]); (rw [← hV]); (clear hV)
   have HV := Lib.hid (show RowI f w (mulK f x b i o 0) V ∧ V.heap[wr.heap.size]? = some (.cells x.arr 50 (0, 0)) from ⟨HI.out.below bV, gV 0 _ rfl⟩)
   have hc0 : w.heap.size + 1 < wr.heap.size := HI.out.lt
   clear gV bV zV HI
   generalize wr.heap.size = c0 at *
   go_loopw [12, 13, 38] (fun _ _ kv W => ∃ k : Nat, k ≤ b.length ∧ kv = .int .i64 k ∧ RowI f w (mulK f x b i o k) W ∧ W.heap[c0]? = some (.cells x.arr 50 (0, 0))) (fun _ _ kv _ => b.length - (intOf kv).toNat)
   case atStart => exact ⟨0, by omega, rfl, HV.out⟩
   case round =>
    clear HV
    obtain ⟨k, hk, rfl, hI, hX⟩ := hrel
    have HIX := Lib.hid (And.intro hI hX)
    by_cases hkt : k < b.length
    ·have hkt' : (k : Int) < (b.length : Int) := by omega
     have hld := (HS.out.2.below hI.2.2).ld' k hkt wr (Below.refl _ _)
     have HQ := Lib.hid (show mulK f x b i o (k + 1) = (mulK f x b i o k).set (i + k) (madd f (at4 (mulK f x b i o k) (i + k)) (mmul f x (at4 b k))) from rfl)
     have HLK := Lib.hid (show (mulK f x b i o k).length = n from by rw [mulK_length, HL.out, HN.out])
     generalize mulK f x b i o k = q at *
     generalize at4 b k = y at *
     clear hI hX
     go_wp2_with fail
     refine (noteNil _ _ _ _).mono ?_
     rintro e w1 ⟨rfl, rfl⟩
     go_wp2
     (obtain ⟨V2, hV2⟩ : ∃ W0 : World, W0 = (wr).alloc (.cells y.arr 50) := ⟨_, rfl⟩); (have gV2 : ∀ (j : Nat) (o : Obj), ([Obj.cells y.arr 50] : List Obj)[j]? = some o → V2.heap[wr.heap.size + j]? = some o := by rw [hV2]; exact allocs_get wr _); (have zV2 : V2.heap.size = wr.heap.size + 1 := by rw [hV2]; exact allocs_size wr [Obj.cells y.arr 50]); (have bV2 : Below wr.heap.size wr V2 := by rw [hV2]; exact allocs_below wr [Obj.cells y.arr 50]); (rw [← hV2]); (clear hV2)
     have hwi : IntKind.i64.wrap ((i : Int) + (k : Int)) = ((i + k : Nat) : Int) := by rw [IntKind.wrap_i64]; omega
     have hik : i + k < n := by have := HN.out; omega
     have hik' : (i : Int) + (k : Int) < (n : Int) := by omega
     have hik0 : 0 ≤ (i : Int) + (k : Int) := by omega
     have htn : ((i : Int) + (k : Int)).toNat = i + k := by omega
     have HI2 := Lib.hid (HIX.out.1.below bV2)
     have HX2 := Lib.hid ((bV2.block c0 (Array.getElem?_eq_some_iff.1 HIX.out.2).1).trans HIX.out.2)
     have hc1 : c0 < wr.heap.size := (Array.getElem?_eq_some_iff.1 HIX.out.2).1
     have pF := aggF_of_block HI2.out.1
     have pX := agg_of_block HX2.out
     have pY := agg_of_block (gV2 0 _ rfl)
     rw [Nat.add_zero] at pY
     have pO := HI2.out.agg (i + k) (by rw [HLK.out]; exact hik)
     generalize at4 q (i + k) = u at *
     clear gV2 bV2 HIX hld
     ((refine region_held (h := 16) (by kernel_rfl) (by kernel_rfl) (fun W' => (Below V2.heap.size V2 W' ∧ aggAt W' 14 (w.heap.size) (0) = some (f.val) ∧ aggAt W' 4 (c0) (0) = some (x.val) ∧ aggAt W' 4 (wr.heap.size) (0) = some (y.val) ∧ aggAt W' 4 (w.heap.size + 1) ((i + k) * 4) = some (u.val))) ⟨(Below.refl _ V2).drew, pF, pX, pY, pO⟩ ?_); (have hSB : ∀ W' W'' : World, (Below V2.heap.size V2 W' ∧ aggAt W' 14 (w.heap.size) (0) = some (f.val) ∧ aggAt W' 4 (c0) (0) = some (x.val) ∧ aggAt W' 4 (wr.heap.size) (0) = some (y.val) ∧ aggAt W' 4 (w.heap.size + 1) ((i + k) * 4) = some (u.val)) → Below W'.heap.size W' W'' → (Below V2.heap.size V2 W'' ∧ aggAt W'' 14 (w.heap.size) (0) = some (f.val) ∧ aggAt W'' 4 (c0) (0) = some (x.val) ∧ aggAt W'' 4 (wr.heap.size) (0) = some (y.val) ∧ aggAt W'' 4 (w.heap.size + 1) ((i + k) * 4) = some (u.val)) := fun W' W'' ⟨h0, h1, h2, h3, h4⟩ hb => ⟨h0.trans (hb.mono h0.size), agg_keep h1 hb, agg_keep h2 hb, agg_keep h3 hb, agg_keep h4 hb⟩); (clear pF pX pY pO); (((try simp only [List.take_succ_cons, List.take_zero, List.drop_succ_cons, List.drop_zero]); repeat (apply chain_op; (focus (intro W' hS' K hK; (try simp only [Act.put, List.setIfInBounds_toArray, List.set_cons_zero, List.set_cons_succ] at hK); (have hS'' := hS'); (obtain ⟨s0, s1, s2, s3, s4⟩ := hS''); go_simp; (first | exact hK _ hS' | (with_reducible refine Calls.mono (montMul f x y _) ?_; rintro e W'' ⟨rfl, hb''⟩; exact hK _ (hSB _ _ hS' hb'')) | (with_reducible refine Calls.mono (montAdd f u _ _) ?_; rintro e W'' ⟨rfl, hb''⟩; exact hK _ (hSB _ _ hS' hb''))); done)); (try simp only [Act.put, List.setIfInBounds_toArray, List.set_cons_zero, List.set_cons_succ])); unfold chain)); (rintro W' ⟨s0, s1, s2, s3, s4⟩); (clear hSB))
     have HW := Lib.hid (And.intro (HI2.out.below s0) ((s0.block c0 (Array.getElem?_eq_some_iff.1 HX2.out).1).trans HX2.out))
     clear s0 HI2 HX2
     go_wp2
     have HR := Lib.hid (And.intro (HW.out.1.put (i + k) (by rw [HLK.out]; exact hik) (madd f u (mmul f x y))) ((putAgg_block W' (w.heap.size + 1) ((i + k) * 4) (madd f u (mmul f x y)).arr c0 (by omega)).trans HW.out.2))
     go_roundw
     case rel => exact ⟨k + 1, by omega, by go_num, by rw [HQ.out]; exact HR.out.1, HR.out.2⟩
     case measure => (first | (simp [intOf]; done) | (simp [intOf]; omega))
    ·obtain rfl : k = b.length := by omega
     clear hI hX
     go_wp2
     go_roundw
     case rel => exact ⟨i + 1, by omega, by go_num, by rw [HE.out]; exact HIX.out.1⟩
     case measure => (first | (simp [intOf]; done) | (simp [intOf]; omega))
  ·obtain rfl : i = a.length := by omega
   have HI := Lib.hid hI
   clear hI
   go_wp2
   go_ret
   exact ⟨_, rfl, by omega, HI.out.2.1, HI.out.2.2⟩
end Go.Proofs.YtccgfladbibjbaaGreatDoor
namespace Go.Proofs.YtccgfladbibjbaaGreatDoor
open Go.RowKit
attribute [local go_sem ↓] add_UU sub_UU mul_UU add_UL add_LU sub_UL sub_LU mul_UL neg_at not_at and_UU or_UU xor_UU andNot_UU and_UL or_LU shr_UL shl_UL shr_UN shl_UN shl_LN quo_UL rem_UL quo_UU rem_UU
attribute [local go_sem] wrap64_N wrapi_mod wrap8_U wrap32_U wrap64_B wrap32_B wrap8_D wrapi_B wrap64_UU eq_UU ne_UU eq_UL ne_UL lt_UU le_UU
set_option maxRecDepth 20000 in
set_option maxHeartbeats 4000000 in
theorem montNeg (f : FP) (a : V4) (w : World) :
  Calls Tryz.prog 115 #[f.val, a.val] w fun e w' => e = .returned (msub f V4.zero a).val ∧ Below w.heap.size w w' := by
 have h0 := (((IsF.newAt w f (w.heap.size) (by simp)).alloc (.cells a.arr 50)).alloc (.cells V4.zero.arr 50))
 obtain ⟨p0, p1, p2, p3, p4, p5, p6, p7, p8, p9, p10, p11, p12, p13⟩ := h0.all
 have h1 := ((IsVec.newAt (w.alloc (.cells f.arr 67)) 50 a (w.heap.size + 1) (by simp)).alloc (.cells V4.zero.arr 50))
 obtain ⟨a10, a11, a12, a13⟩ := h1.all
 have h2 := (IsVec.newAt ((w.alloc (.cells f.arr 67)).alloc (.cells a.arr 50)) 50 V4.zero (w.heap.size + 1 + 1) (by simp))
 have HB0 := Lib.hid (show Below w.heap.size w (((w.alloc (.cells f.arr 67)).alloc (.cells a.arr 50)).alloc (.cells V4.zero.arr 50)) from by go_grown)
 have HZ := Lib.hid h2
 have HM := Lib.hid (montSub f V4.zero a)
 generalize (msub f V4.zero a) = r at *
 clear h0 h1 h2
 unfold FP.arr V4.arr at p0 p1 p2 p3 p4 p5 p6 p7 p8 p9 p10 p11 p12 p13 a10 a11 a12 a13
 unfold FP.val FP.arr V4.val V4.arr at HM
 rw [show U V4.zero.x0 = 0 from rfl, show U V4.zero.x1 = 0 from rfl, show U V4.zero.x2 = 0 from rfl, show U V4.zero.x3 = 0 from rfl] at HM
 unfold FP.val FP.arr V4.val V4.arr
 go_enter Tryz.func115, Tryz.ntmps115
 go_wp2_with fail
 refine (HM.out _).mono ?_
 rintro e w1 ⟨rfl, hb1⟩
 have hz := HZ.out.below hb1 (by simp)
 obtain ⟨z0, z1, z2, z3⟩ := hz.all
 obtain ⟨y0, y1, y2, y3⟩ := hz.open_
 have hv := stored_vec (r := r) ((((hz.set 0 (by decide) r.x0).set 1 (by decide) r.x1).set 2 (by decide) r.x2).set 3 (by decide) r.x3)
 obtain ⟨d0, d1, d2, d3⟩ := hv.all
 have HB := Lib.hid (((((HB0.out.trans (hb1.mono (by simp; omega))).setCell (p := ⟨w.heap.size + 1 + 1, 0, none⟩) (by simp; omega) (.int .u64 (U r.x0))).setCell (p := ⟨w.heap.size + 1 + 1, 1, none⟩) (by simp; omega) (.int .u64 (U r.x1))).setCell (p := ⟨w.heap.size + 1 + 1, 2, none⟩) (by simp; omega) (.int .u64 (U r.x2))).setCell (p := ⟨w.heap.size + 1 + 1, 3, none⟩) (by simp; omega) (.int .u64 (U r.x3)))
 clear hz hv hb1 p0 p1 p2 p3 p4 p5 p6 p7 p8 p9 p10 p11 p12 p13 a10 a11 a12 a13
 go_wp2
 refine bodyPost_ret (v := .agg #[.int .u64 (U r.x0), .int .u64 (U r.x1), .int .u64 (U r.x2), .int .u64 (U r.x3)]) (by simp [results, Tryz.results115, go_sem, d0, d1, d2, d3]) rfl ⟨rfl, HB.out⟩
end Go.Proofs.YtccgfladbibjbaaGreatDoor
namespace Go.Proofs.YtccgfladbibjbaaGreatDoor
open Go.RowKit
attribute [local go_sem ↓] add_UU sub_UU mul_UU add_UL add_LU sub_UL sub_LU mul_UL neg_at not_at and_UU or_UU xor_UU andNot_UU and_UL or_LU shr_UL shl_UL shr_UN shl_UN shl_LN quo_UL rem_UL quo_UU rem_UU
attribute [local go_sem] wrap64_N wrapi_mod wrap8_U wrap32_U wrap64_B wrap32_B wrap8_D wrapi_B wrap64_UU eq_UU ne_UU eq_UL ne_UL lt_UU le_UU
attribute [local simp] putAgg_size
attribute [local go_sem ↓] loadVar_F loadVar_E loadVar_V loadVar_B32 storeVar_F storeVar_E storeVar_V storeVar_B32 box_F box_E box_V box_B32
attribute [local go_sem ↓ high] V4.cells_val FP.cells_val
attribute [local go_sem] run_loadF run_loadE run_loadV run_loadB32 run_storeF run_storeE run_storeV run_storeB32 run_boxA aggAt_drew aggAt_drewN aggAt_alloc_new aggAt_alloc_past aggAt_setCell_other aggAt_putAgg_other aggAt_putAgg_new putAgg_drew putAgg_size putAgg_alloc_new putAgg_alloc_past putAgg_cell_other putAgg_frozen_other V4.agg_arr FP.agg_arr V4.size_arr FP.size_arr V4.fits FP.fits fitsA_agg4 lt_2 ne_2 en_2 lt_3 ne_3 en_3 lt_4 ne_4 en_4 lt_5 ne_5 en_5 lt_6 ne_6 en_6
def iVals (l : List Int) : List Value := l.map fun x => .int .i64 x
theorem iVals_length (l : List Int) : (iVals l).length = l.length := List.length_map ..
def atI (l : List Int) (j : Nat) : Int := l[j]?.getD 0
theorem iVals_get (l : List Int) (j : Nat) (h : j < l.length) : (iVals l)[j]? = some (.int .i64 (atI l j)) := by
 unfold iVals atI
 rw [List.getElem?_map, List.getElem?_eq_getElem h]
 rfl
theorem Sees.int {W : World} {b o : Nat} {l : List Int} (h : Sees W (some ⟨b, o, none⟩) (iVals l)) (j : Nat) (hj : j < l.length) : W.cell? ⟨b, o + j, none⟩ = some (.int .i64 (atI l j)) := by
 obtain ⟨b', o', e, hc⟩ := h (by rw [iVals_length]; omega)
 injection e with e
 injection e with e1 e2
 subst e1; subst e2
 rw [hc j (by rw [iVals_length]; exact hj), iVals_get l j hj]
def vec1 (x : Int) : V4 := ⟨BitVec.ofInt 64 x, 0#64, 0#64, 0#64⟩
def ptE (f : FP) (x : Int) : V4 := mmul f (vec1 x) f.sq
def pts (f : FP) (xs : List Int) : List V4 := xs.map (ptE f)
theorem montPt (f : FP) (x : Int) (w : World) : Calls Tryz.prog 46 #[f.val, .agg #[.int .u64 (IntKind.u64.wrap x), .int .u64 0, .int .u64 0, .int .u64 0]] w fun e w' => e = .returned (ptE f x).val ∧ Below w.heap.size w w' := by
 have := montTo f (vec1 x) w
 rw [show (vec1 x).val = .agg #[.int .u64 (IntKind.u64.wrap x), .int .u64 0, .int .u64 0, .int .u64 0] from by rw [wrap64_U]; rfl] at this
 exact this
def ptsT (f : FP) (xs : List Int) (k : Nat) : List V4 := (List.range xs.length).map fun j => if j < k then ptE f (atI xs j) else V4.zero
theorem ptsT_length (f : FP) (xs : List Int) (k : Nat) : (ptsT f xs k).length = xs.length := by simp [ptsT]
theorem ptsT_zero (f : FP) (xs : List Int) : ptsT f xs 0 = List.replicate xs.length V4.zero := by
 apply List.ext_getElem
 ·simp [ptsT]
 ·intro i h1 h2
  simp [ptsT]
theorem ptsT_set (f : FP) (xs : List Int) (k : Nat) : ptsT f xs (k + 1) = (ptsT f xs k).set k (ptE f (atI xs k)) := by
 apply List.ext_getElem
 ·simp [ptsT]
 ·intro i h1 h2
  rw [List.getElem_set]
  simp only [ptsT, List.getElem_map, List.getElem_range]
  by_cases hi : k = i
  ·subst hi; rw [if_pos (Nat.lt_succ_self _), if_pos rfl]
  ·rw [if_neg hi]
   by_cases hle : i < k
   ·rw [if_pos hle, if_pos (by omega)]
   ·rw [if_neg hle, if_neg (by omega)]
theorem ptsT_all (f : FP) (xs : List Int) : ptsT f xs xs.length = pts f xs := by
 apply List.ext_getElem
 ·simp [ptsT, pts]
 ·intro i h1 h2
  rw [ptsT_length] at h1
  simp only [ptsT, pts, List.getElem_map, List.getElem_range, atI]
  rw [if_pos h1, List.getElem?_eq_getElem h1, Option.getD_some]
theorem pts_length (f : FP) (xs : List Int) : (pts f xs).length = xs.length := by simp [pts]
set_option maxRecDepth 100000 in
set_option maxHeartbeats 4000000 in
theorem points (f : FP) (A : Option Addr) (cap : Nat) (xs : List Int) (hn : xs.length ≤ 1073741824) (w : World) (hS : Sees w A (iVals xs)) :
  Calls Tryz.prog 84 #[f.val, .slice A xs.length cap] w fun e w' => ∃ g, e = .returned (.slice (some ⟨g, 0, none⟩) xs.length xs.length) ∧ w.heap.size ≤ g ∧ IsEs w' g (pts f xs) ∧ Below w.heap.size w w' := by
 have hmk := makeE xs.length (by omega)
 have H0 := Lib.hid (show RowI f w (ptsT f xs 0) ((w.alloc (.cells f.arr 67)).alloc (.cells (eVals (List.replicate xs.length V4.zero)).toArray 50)) from
  ⟨IsF.alloc (IsF.newAt w f _ rfl) _, by rw [ptsT_zero]; exact IsEsT.new _ _ _ (by simp), (by repeat (first | with_reducible assumption | with_reducible exact Below.refl _ _ | (with_reducible refine putAgg_below ?_ (by first | omega | (simp; done) | (simp; omega))) | (with_reducible refine Below.alloc ?_ (by first | omega | (simp; done) | (simp; omega)) _) | (with_reducible refine Below.setCell ?_ (by first | omega | (simp; done) | (simp; omega)) _) | (with_reducible refine Below.drew ?_) | (with_reducible refine Below.trans ?_ (Below.mono (by with_reducible assumption) (by first | omega | (simp; done) | (simp; omega))))))⟩)
 have HS := Lib.hid hS
 clear hS
 go_enter Tryz.func84, Tryz.ntmps84
 go_wp2
 clear hmk
 go_loopw [6, 7, 13] (fun _ _ iv W => ∃ i : Nat, i ≤ xs.length ∧ iv = .int .i64 i ∧ RowI f w (ptsT f xs i) W) (fun _ _ iv _ => xs.length - (intOf iv).toNat)
 case atStart => exact ⟨0, by omega, rfl, H0.out⟩
 case round =>
  clear H0
  obtain ⟨i, hi, rfl, hI⟩ := hrel
  have HI := Lib.hid hI
  by_cases hlt : i < xs.length
  ·have hlt' : (i : Int) < (xs.length : Int) := by omega
   obtain ⟨b, o, rfl, hb⟩ := HS.out.addr (by rw [iVals_length]; omega)
   have hc := (HS.out.below hI.2.2).int i hlt
   have pF := aggF_of_block hI.1
   have HE := Lib.hid (ptsT_set f xs i)
   generalize atI xs i = x at *
   clear hI
   go_wp2_with fail
   refine (montPt f x _).mono ?_
   rintro e w1 ⟨rfl, hb1⟩
   have hI1 := HI.out.below hb1
   have pO := hI1.agg i (by rw [ptsT_length]; exact hlt)
   have HR := Lib.hid (hI1.put i (by rw [ptsT_length]; exact hlt) (ptE f x))
   clear hI1 hb1 hc pF
   go_wp2
   go_roundw
   case rel => exact ⟨i + 1, by omega, by go_num, by rw [HE.out]; exact HR.out⟩
   case measure => (first | (simp [intOf]; done) | (simp [intOf]; omega))
  ·obtain rfl : i = xs.length := by omega
   clear hI
   go_wp2
   go_ret
   exact ⟨_, rfl, by omega, by have := HI.out.2.1; rwa [ptsT_all] at this, HI.out.2.2⟩
def wtK (f : FP) (p : List V4) (i : Nat) : Nat → V4
 | 0 => f.one
 | k + 1 => if k = i then wtK f p i k else mmul f (wtK f p i k) (msub f (at4 p i) (at4 p k))
def wtT (f : FP) (p : List V4) (i : Nat) : List V4 := (List.range p.length).map fun j => if j < i then wtK f p j p.length else V4.zero
theorem wtT_length (f : FP) (p : List V4) (i : Nat) : (wtT f p i).length = p.length := by simp [wtT]
theorem wtT_zero (f : FP) (p : List V4) : wtT f p 0 = List.replicate p.length V4.zero := by
 apply List.ext_getElem
 ·simp [wtT]
 ·intro i h1 h2
  simp [wtT]
theorem wtT_set (f : FP) (p : List V4) (i : Nat) : wtT f p (i + 1) = (wtT f p i).set i (wtK f p i p.length) := by
 apply List.ext_getElem
 ·simp [wtT]
 ·intro j h1 h2
  rw [List.getElem_set]
  simp only [wtT, List.getElem_map, List.getElem_range]
  by_cases hi : i = j
  ·subst hi; rw [if_pos (Nat.lt_succ_self _), if_pos rfl]
  ·rw [if_neg hi]
   by_cases hle : j < i
   ·rw [if_pos hle, if_pos (by omega)]
   ·rw [if_neg hle, if_neg (by omega)]
def wts (f : FP) (p : List V4) : List V4 := wtT f p p.length
theorem wts_length (f : FP) (p : List V4) : (wts f p).length = p.length := wtT_length f p _
end Go.Proofs.YtccgfladbibjbaaGreatDoor
