/- Package sha: after. -/
import Derived.Test.YtccgfladbibjbaaGreatDoorKG14
import Derived.Laws.CopyOwn
import Derived.Test.YtccgfladbibjbaaGreatDoorKG16
import Derived.Deep.RegionWith
import Derived.Deep.RegionLaw
namespace Go.Proofs.YtccgfladbibjbaaGreatDoor
open Go.RowKit
attribute [local go_sem ↓] add_DD mul_DD mul_DL and_DD or_DD xor_DD notD_at shr_DL shl_DL shr_DN shl_DN quo_DL rem_DL
attribute [local go_sem] wrap32_B wrap8_D
attribute [local simp] putAgg_size
attribute [local go_sem ↓] loadVar_F loadVar_E loadVar_V loadVar_B32 storeVar_F storeVar_E storeVar_V storeVar_B32 box_F box_E box_V box_B32
attribute [local go_sem ↓ high] V4.cells_val FP.cells_val
attribute [local go_sem] run_loadF run_loadE run_loadV run_loadB32 run_storeF run_storeE run_storeV run_storeB32 run_boxA aggAt_drew aggAt_drewN aggAt_alloc_new aggAt_alloc_past aggAt_setCell_other aggAt_putAgg_other aggAt_putAgg_new putAgg_drew putAgg_size putAgg_alloc_new putAgg_alloc_past putAgg_cell_other putAgg_frozen_other V4.agg_arr FP.agg_arr V4.size_arr FP.size_arr V4.fits FP.fits fitsA_agg4 lt_2 ne_2 en_2 lt_3 ne_3 en_3 lt_4 ne_4 en_4 lt_5 ne_5 en_5 lt_6 ne_6 en_6
attribute [local go_sem ↓] loadVar_W loadVar_S storeVar_W storeVar_S box_S
attribute [local go_sem ↓ high] dval_cells
attribute [local go_sem] run_loadW run_loadS run_storeW run_storeS agg_words dVals_size dVals_length
theorem slice_l1 (g : Nat) (w : World) : (Instr.sliceAt 144 (.pointer (some ⟨g, 0, none⟩)) (some (.int .i64 1)) none none).run Tryz.prog w = .ok (.slice (some ⟨g, 1, none⟩) 7 7) w := by kernel_rfl
theorem slice_h7 (g : Nat) (w : World) : (Instr.sliceAt 144 (.pointer (some ⟨g, 0, none⟩)) none (some (.int .i64 7)) none).run Tryz.prog w = .ok (.slice (some ⟨g, 0, none⟩) 7 8) w := by kernel_rfl
structure AI (w : World) (s v : S8) (t : Nat) (k : BitVec 32) (W : World) : Prop where
 p : IsDs W w.heap.size 144 s.list
 r : (aggAt W 8 (w.heap.size + 1) 0).isSome = true
 v : IsDs W (w.heap.size + 1 + 1) 144 v.list
 k : W.cell? ⟨2, t, none⟩ = some (.int .u32 (D k))
 below : Below w.heap.size w W
theorem AI.drew {w W : World} {s v : S8} {t : Nat} {k : BitVec 32} (h : AI w s v t k W) : AI w s v t k W.drew := ⟨h.p, h.r, h.v, h.k, h.below.drew⟩
theorem AI.drewN {w W : World} {s v : S8} {t : Nat} {k : BitVec 32} (h : AI w s v t k W) (n : Nat) : AI w s v t k (W.drewN n) := ⟨h.p, h.r, h.v, h.k, below_drewN h.below n⟩
theorem AI.set {w W : World} {s v v' : S8} {t : Nat} {k : BitVec 32} (h : AI w s v t k W) (hw : 2 < w.heap.size) (j : Nat) (x : BitVec 32) (hv : v'.list = v.list.set j x) : AI w s v' t k (W.setCell ⟨w.heap.size + 1 + 1, j, none⟩ (.int .u32 (D x))) :=
 ⟨(Below.heap_setCell W _ _ _ (by show w.heap.size ≠ w.heap.size + 1 + 1; omega)).trans h.p, by rw [aggAt_setCell_other _ _ _ _ _ _ (by simp)]; exact h.r, by rw [hv]; exact h.v.set j x,
  (World.cell?_of_block (w := W) (Below.heap_setCell W _ _ _ (by show 2 ≠ w.heap.size + 1 + 1; omega))).trans h.k, h.below.setCell (p := ⟨w.heap.size + 1 + 1, j, none⟩) (by simp; omega) _⟩
set_option maxRecDepth 100000 in
set_option maxHeartbeats 1000000 in
theorem after (s : S8) (b off cap : Nat) (l : List (BitVec 8)) (hl : l.length = 64) (hcap : 64 ≤ cap) (w : World) (hr : w.rangeAt b off (byteVals l)) (L : Laid w) :
  Calls Tryz.prog 91 #[dval s.list, .slice (some ⟨b, off, none⟩) 64 cap] w fun e w' => e = .returned (dval (afterS s l).list) ∧ Below w.heap.size w w' := by
 have hB0 : Below w.heap.size w (((w.alloc (.cells (dVals s.list).toArray 144)).alloc (.cells #[.int .u32 0, .int .u32 0, .int .u32 0, .int .u32 0, .int .u32 0, .int .u32 0, .int .u32 0, .int .u32 0] 144)).alloc (.cells (dVals s.list).toArray 144)) := (by repeat (first | with_reducible assumption | with_reducible exact Below.refl _ _ | (with_reducible refine putAgg_below ?_ (by first | omega | (simp; done) | (simp; omega))) | (with_reducible refine Below.alloc ?_ (by first | omega | (simp; done) | (simp; omega)) _) | (with_reducible refine Below.setCell ?_ (by first | omega | (simp; done) | (simp; omega)) _) | (with_reducible refine Below.drew ?_) | (with_reducible refine Below.trans ?_ (Below.mono (by with_reducible assumption) (by first | omega | (simp; done) | (simp; omega))))))
 have HS := Lib.hid (schedule b off cap l hl hcap _ (rangeAt_below hr hB0))
 have hf := fits_words 8 s.list rfl
 have hle : s.list.length = 8 := rfl
 have HX := Lib.hid (show afterS s l = addS s (roundsS s (sch l 64) 64) from rfl)
 have HL := Lib.hid (sch_length l 64)
 have HI := Lib.hid (show IsDs (((w.alloc (.cells (dVals s.list).toArray 144)).alloc (.cells #[.int .u32 0, .int .u32 0, .int .u32 0, .int .u32 0, .int .u32 0, .int .u32 0, .int .u32 0, .int .u32 0] 144)).alloc (.cells (dVals s.list).toArray 144)) w.heap.size 144 s.list ∧ (aggAt (((w.alloc (.cells (dVals s.list).toArray 144)).alloc (.cells #[.int .u32 0, .int .u32 0, .int .u32 0, .int .u32 0, .int .u32 0, .int .u32 0, .int .u32 0, .int .u32 0] 144)).alloc (.cells (dVals s.list).toArray 144)) 8 (w.heap.size + 1) 0).isSome = true ∧ IsDs (((w.alloc (.cells (dVals s.list).toArray 144)).alloc (.cells #[.int .u32 0, .int .u32 0, .int .u32 0, .int .u32 0, .int .u32 0, .int .u32 0, .int .u32 0, .int .u32 0] 144)).alloc (.cells (dVals s.list).toArray 144)) (w.heap.size + 1 + 1) 144 s.list from by
  refine ⟨?_, by go_simp, alloc_block _ _ _ (by simp)⟩
  exact (Below.heap_alloc _ _ _ (by simp; omega)).trans ((Below.heap_alloc _ _ _ (by simp)).trans (heap_alloc_new w _)))
 have HB0 := Lib.hid hB0
 clear hB0
 rw [HX.out]
 clear HX
 generalize sch l 64 = X at *
 go_enter Tryz.func91, Tryz.ntmps91
 go_wp2_with fail
 refine HS.out.mono ?_
 rintro e w1 ⟨rfl, hb1⟩
 have HI1 := Lib.hid (show IsDs w1 w.heap.size 144 s.list ∧ (aggAt w1 8 (w.heap.size + 1) 0).isSome = true ∧ IsDs w1 (w.heap.size + 1 + 1) 144 s.list ∧ Below w.heap.size w w1 from
  ⟨HI.out.1.call hb1 (by simp; omega), by rw [aggAt_congr (hb1.block _ (by simp))]; exact HI.out.2.1, HI.out.2.2.call hb1 (by simp), (by repeat (first | with_reducible assumption | with_reducible exact Below.refl _ _ | (with_reducible refine putAgg_below ?_ (by first | omega | (simp; done) | (simp; omega))) | (with_reducible refine Below.alloc ?_ (by first | omega | (simp; done) | (simp; omega)) _) | (with_reducible refine Below.setCell ?_ (by first | omega | (simp; done) | (simp; omega)) _) | (with_reducible refine Below.drew ?_) | (with_reducible refine Below.trans ?_ (Below.mono (by with_reducible assumption) (by first | omega | (simp; done) | (simp; omega))))))⟩)
 clear hb1 HI HB0 HS hf hle
 go_wp2
 go_loopw [16] (fun i wr => ∃ t : Nat, t ≤ 64 ∧ i = .int .i64 t ∧ IsDs wr w.heap.size 144 s.list ∧ (aggAt wr 8 (w.heap.size + 1) 0).isSome = true ∧ IsDs wr (w.heap.size + 1 + 1) 144 (roundsS s X t).list ∧ Below w.heap.size w wr) (fun i _ => 64 - (intOf i).toNat)
 case atStart => exact ⟨0, by omega, rfl, HI1.out⟩
 case round =>
  clear HI1
  obtain ⟨t, ht, rfl, hP, hR, hV, hB⟩ := hrel
  by_cases h64 : t < 64
  ·have hx := index_W X HL.out t h64
   have hkc := (hB.cell (p := ⟨2, t, none⟩) L.size).trans (L.const t h64)
   have HN := Lib.hid (show roundsS s X (t + 1) = roundS (roundsS s X t) (kW t) (dw X t) from rfl)
   generalize roundsS s X t = v at *
   generalize dw X t = x at *
   generalize kW t = k at *
   have HI := Lib.hid (AI.mk hP hR hV hkc hB)
   obtain ⟨c0, c1, c2, c3, c4, c5, c6, c7⟩ := hV.cells8
   have h64' : (t : Int) < 64 := by omega
   clear hP hR hV hB
   go_wp2
   go_quiet (fail)
   go_wp2_with fail
   clear c0 c1 c2 c3 c4 c5 c6 c7 hkc
   generalize hq : wr.drewN _ = wq
   have HQ := Lib.hid (show AI w s v t k wq.drew from by rw [← hq]; exact (HI.out.drewN _).drew)
   obtain ⟨c0, c1, c2, c3, c4, c5, c6, c7⟩ := HQ.out.v.cells8
   have hkc := HQ.out.k
   clear hq HI
   refine wp_region_still_lit (by kernel_rfl) (by kernel_rfl) ?_
   rw [show ({ wq with drawn := wq.drawn + 1 } : World) = wq.drew from rfl]
   generalize wq.drew = wd at *
   ((try simp only [List.take_succ_cons, List.take_zero, List.drop_succ_cons, List.drop_zero]); repeat ((refine wpStill_step (fun K hK => ?_)); go_simp; (first | (with_reducible refine hK _ ?_) | (with_reducible refine ⟨_, rotrI _ _ (by decide) (by decide) _, hK _ ?_⟩)); clear hK K); try refine wpStill_nil ?_)
   go_wp2_with fail
   clear c0 c1 c2 c3 c4 c5 c6 c7 hkc
   have HT1 := Lib.hid (show v.h + (rotrW v.e 6 ^^^ rotrW v.e 11 ^^^ rotrW v.e 25) + (v.g ^^^ v.e &&& (v.f ^^^ v.g)) + k + x = t1W v k x from rfl)
   rw [HT1.out]
   generalize t1W v k x = T1 at *
   have HQ2 := Lib.hid (HQ.out.drew)
   obtain ⟨c0, c1, c2, c3, c4, c5, c6, c7⟩ := HQ2.out.v.cells8
   refine wp_region_still_lit (by kernel_rfl) (by kernel_rfl) ?_
   rw [show ({ wd with drawn := wd.drawn + 1 } : World) = wd.drew from rfl]
   clear HQ
   generalize wd.drew = we at *
   ((try simp only [List.take_succ_cons, List.take_zero, List.drop_succ_cons, List.drop_zero]); repeat ((refine wpStill_step (fun K hK => ?_)); go_simp; (first | (with_reducible refine hK _ ?_) | (with_reducible refine ⟨_, rotrI _ _ (by decide) (by decide) _, hK _ ?_⟩)); clear hK K); try refine wpStill_nil ?_)
   go_wp2_with fail
   clear c0 c1 c2 c3 c4 c5 c6 c7
   have HT2 := Lib.hid (show (rotrW v.a 2 ^^^ rotrW v.a 13 ^^^ rotrW v.a 22) + (v.a &&& v.b ||| (v.a ||| v.b) &&& v.c) = t2W v from rfl)
   rw [HT2.out]
   generalize t2W v = T2 at *
   have HQ3 := Lib.hid (HQ2.out.drew)
   clear HQ2
   have s1 := slice_l1 (w.heap.size + 1 + 1)
   have s7 := slice_h7 (w.heap.size + 1 + 1)
   refine wp_region_still_tail 2 (by kernel_rfl) (by kernel_rfl) ?_
   rw [show ({ we with drawn := we.drawn + 1 } : World) = we.drew from rfl]
   generalize we.drew = wf at *
   ((try simp only [List.take_succ_cons, List.take_zero, List.drop_succ_cons, List.drop_zero]); repeat ((refine wpStill_step (fun K hK => ?_)); go_simp; (first | (with_reducible refine hK _ ?_)); clear hK K); try refine wpStill_nil ?_)
   clear s1 s7
   refine wpList_copy_splice (o := ⟨some 75, _, _, _, _, _⟩) rfl (.tmp 73) (.tmp 74) 113 113 rfl 116 Tryz.underlying113 (by kernel_rfl) _ _ 7 7 7 8 rfl rfl (w.heap.size + 1 + 1) 1 (dVals v.list) 144 ?d1 (dVals (v.list.take 7)) ?d2 ?d3 ?d4 ?d5 (w.heap.size + 1 + 1) _ (Below.refl _ _) (Nat.le_refl _) ?_
   case d1 => exact HQ3.out.v
   case d2 => rfl
   case d3 =>
    refine fun _ => ⟨rfl, _, rfl, ?_⟩
    intro j y hj
    have hj7 : j < 7 := by
     have := List.getElem?_eq_some_iff.1 hj
     obtain ⟨h1, _⟩ := this
     simpa [dVals, S8.length] using h1
    have hc := HQ3.out.v.cell j (by rw [S8.length]; omega)
    rw [Addr.add_mid, Nat.zero_add, hc, ← hj]
    clear hc hj
    match j, hj7 with
    | 0, _ => rfl
    | 1, _ => rfl
    | 2, _ => rfl
    | 3, _ => rfl
    | 4, _ => rfl
    | 5, _ => rfl
    | 6, _ => rfl
   case d4 => exact Nat.le_refl _
   case d5 =>
    intro y hy
    obtain ⟨x, _, rfl⟩ := List.mem_map.1 hy
    rfl
   intro w2 hg2 hb2
   have HQ4 := Lib.hid (show AI w s ⟨v.a, v.a, v.b, v.c, v.d, v.e, v.f, v.g⟩ t k w2 from
    ⟨HQ3.out.p.call hb2 (by omega), by rw [aggAt_congr (hb2.block _ (by simp))]; exact HQ3.out.r, hg2.out, (hb2.cell (p := ⟨2, t, none⟩) (by have := L.size; show 2 < w.heap.size + 1 + 1; omega)).trans HQ3.out.k, HQ3.out.below.trans (hb2.mono (by omega))⟩)
   clear HQ3 hb2 hg2
   have f0 := HQ4.out.v.frozen 0
   have f4 := HQ4.out.v.frozen 4
   obtain ⟨c0, c1, c2, c3, c4, c5, c6, c7⟩ := HQ4.out.v.cells8
   have HQ5 := Lib.hid ((HQ4.out.set (v' := ⟨T1 + T2, v.a, v.b, v.c, v.d, v.e, v.f, v.g⟩) L.size 0 (T1 + T2) rfl).set (v' := ⟨T1 + T2, v.a, v.b, v.c, v.d + T1, v.e, v.f, v.g⟩) L.size 4 (v.d + T1) rfl)
   clear HQ4 c1 c2 c3 c5 c6 c7
   go_wp2
   go_roundw
   case rel =>
    refine ⟨t + 1, by omega, by go_num, ?_⟩
    rw [HN.out]
    have H := HQ5.out
    rw [← HT1.out, ← HT2.out] at H ⊢
    exact ⟨H.p, H.r, H.v, H.below⟩
   case measure => simp [intOf]; omega
  ·obtain rfl : t = 64 := by omega
   have HI := Lib.hid (And.intro hP (And.intro hR (And.intro hV hB)))
   generalize hv : roundsS s X 64 = v at *
   have HV := Lib.hid hv
   clear hv hP hR hV hB
   rw [show ((64 : Nat) : Int) = 64 from rfl]
   go_wp2
   go_loopw [12, 86] (fun x i wr => ∃ j : Nat, j ≤ 8 ∧ i = .int .i64 j ∧ IsDs wr w.heap.size 144 s.list ∧ (aggAt wr 8 (w.heap.size + 1) 0).isSome = true ∧ IsDs wr (w.heap.size + 1 + 1) 144 (addT s v j) ∧ Below w.heap.size w wr) (fun _ i _ => 8 - (intOf i).toNat)
   case atStart => exact ⟨0, by omega, rfl, HI.out⟩
   case round =>
    clear HI
    obtain ⟨j, hj, rfl, hP, hR, hV, hB⟩ := hrel
    by_cases h8 : j < 8
    ·have h8' : (j : Int) < 8 := by omega
     have c1 := hV.cell j (by rw [addT_length]; exact h8)
     rw [addT_get s v j h8, Option.getD_some] at c1
     have c2 := hP.cell j h8
     have f1 := hV.frozen j
     have HS := Lib.hid (addT_succ s v j h8)
     have HI := Lib.hid (And.intro hP (And.intro hR (And.intro hV hB)))
     have hd : s.list[j]?.getD 0#32 = dw s.list j := rfl
     rw [hd] at c2
     clear hP hR hV hB hd
     generalize dw v.list j = y at *
     generalize dw s.list j = x at *
     go_wp2
     refine wp_region_still_tail 8 (by kernel_rfl) (by kernel_rfl) ?_
     have d1 := (show wr.drew.cell? ⟨w.heap.size + 1 + 1, j, none⟩ = _ from c1)
     have d2 := (show wr.drew.cell? ⟨w.heap.size, j, none⟩ = _ from c2)
     have g1 := (show wr.drew.frozen? ⟨w.heap.size + 1 + 1, j, none⟩ = _ from f1)
     have HI2 := Lib.hid (show IsDs wr.drew w.heap.size 144 s.list ∧ (aggAt wr.drew 8 (w.heap.size + 1) 0).isSome = true ∧ IsDs wr.drew (w.heap.size + 1 + 1) 144 (addT s v j) ∧ Below w.heap.size w wr.drew from ⟨HI.out.1, HI.out.2.1, HI.out.2.2.1, HI.out.2.2.2.drew⟩)
     rw [show ({ wr with drawn := wr.drawn + 1 } : World) = wr.drew from rfl]
     clear c1 c2 f1 HI
     generalize wr.drew = wd at *
     ((try simp only [List.take_succ_cons, List.take_zero, List.drop_succ_cons, List.drop_zero]); repeat ((refine wpStill_step (fun K hK => ?_)); go_simp; (first | (with_reducible refine hK _ ?_)); clear hK K); try refine wpStill_nil ?_)
     go_wp2
     go_roundw
     case rel =>
      obtain ⟨hP, hR, hV, hB⟩ := HI2.out
      refine ⟨j + 1, by omega, by go_num, (Below.heap_setCell wd _ _ _ (by show w.heap.size ≠ w.heap.size + 1 + 1; omega)).trans hP, by rw [aggAt_setCell_other _ _ _ _ _ _ (by simp)]; exact hR, ?_, hB.setCell (p := ⟨w.heap.size + 1 + 1, j, none⟩) (by simp; omega) _⟩
      rw [HS.out]
      exact hV.set j _
     case measure => simp [intOf]; omega
    ·obtain rfl : j = 8 := by omega
     have h1 := hV.agg (addT_length s v 8)
     rw [addT_last] at h1
     clear hV
     have hf := fits_words 8 (addS s v).list rfl
     have hle : (addS s v).list.length = 8 := rfl
     generalize hr : (addS s v).list = R at *
     have HR := Lib.hid hr
     clear hr
     go_wp2_with ((with_reducible show bodyPost _ _ _ _ _ _); exact end_c Tryz.results91 rfl (atS (v := dval R) (by go_simp)) rfl ⟨by rw [HV.out, HR.out], (by repeat (first | with_reducible assumption | with_reducible exact Below.refl _ _ | (with_reducible refine putAgg_below ?_ (by first | omega | (simp; done) | (simp; omega))) | (with_reducible refine Below.alloc ?_ (by first | omega | (simp; done) | (simp; omega)) _) | (with_reducible refine Below.setCell ?_ (by first | omega | (simp; done) | (simp; omega)) _) | (with_reducible refine Below.drew ?_) | (with_reducible refine Below.trans ?_ (Below.mono (by with_reducible assumption) (by first | omega | (simp; done) | (simp; omega))))))⟩)
end Go.Proofs.YtccgfladbibjbaaGreatDoor
namespace Go.Proofs.YtccgfladbibjbaaGreatDoor
open Go.RowKit
attribute [local go_sem ↓] add_DD mul_DD mul_DL and_DD or_DD xor_DD notD_at shr_DL shl_DL shr_DN shl_DN quo_DL rem_DL
attribute [local go_sem] wrap32_B wrap8_D
attribute [local simp] putAgg_size
attribute [local go_sem ↓] loadVar_F loadVar_E loadVar_V loadVar_B32 storeVar_F storeVar_E storeVar_V storeVar_B32 box_F box_E box_V box_B32
attribute [local go_sem ↓ high] V4.cells_val FP.cells_val
attribute [local go_sem] run_loadF run_loadE run_loadV run_loadB32 run_storeF run_storeE run_storeV run_storeB32 run_boxA aggAt_drew aggAt_drewN aggAt_alloc_new aggAt_alloc_past aggAt_setCell_other aggAt_putAgg_other aggAt_putAgg_new putAgg_drew putAgg_size putAgg_alloc_new putAgg_alloc_past putAgg_cell_other putAgg_frozen_other V4.agg_arr FP.agg_arr V4.size_arr FP.size_arr V4.fits FP.fits fitsA_agg4 lt_2 ne_2 en_2 lt_3 ne_3 en_3 lt_4 ne_4 en_4 lt_5 ne_5 en_5 lt_6 ne_6 en_6
attribute [local go_sem ↓] loadVar_W loadVar_S storeVar_W storeVar_S box_S
attribute [local go_sem ↓ high] dval_cells
attribute [local go_sem] run_loadW run_loadS run_storeW run_storeS agg_words dVals_size dVals_length
def IsH (w : World) (g : Nat) (s : S8) (rv : Value) (n : Int) : Prop := w.heap[g]? = some (.cells (dVals s.list ++ [rv, .int .i64 n]).toArray 146 (0, 0))
theorem IsH.lt {w : World} {g : Nat} {s : S8} {rv : Value} {n : Int} (h : IsH w g s rv n) : g < w.heap.size := (Array.getElem?_eq_some_iff.1 h).1
theorem IsH.agg {w : World} {g : Nat} {s : S8} {rv : Value} {n : Int} (h : IsH w g s rv n) : aggAt w 8 g 0 = some (dval s.list) := by rw [aggAt_of h (by rw [List.size_toArray]; simp [dVals_length, S8.length])]; rfl
theorem IsH.rvc {w : World} {g : Nat} {s : S8} {rv : Value} {n : Int} (h : IsH w g s rv n) : w.cell? ⟨g, 8, none⟩ = some rv := by
 have := IsBlk.cell (t := 146) (vs := dVals s.list ++ [rv, .int .i64 n]) h 8
 exact this
theorem IsH.nc {w : World} {g : Nat} {s : S8} {rv : Value} {n : Int} (h : IsH w g s rv n) : w.cell? ⟨g, 9, none⟩ = some (.int .i64 n) := by
 have := IsBlk.cell (t := 146) (vs := dVals s.list ++ [rv, .int .i64 n]) h 9
 exact this
theorem IsH.sc {w : World} {g : Nat} {s : S8} {rv : Value} {n : Int} (h : IsH w g s rv n) (k : Nat) (hk : k < 8) : w.cell? ⟨g, k, none⟩ = some (.int .u32 (D (dw s.list k))) := by
 have := IsBlk.cell (t := 146) (vs := dVals s.list ++ [rv, .int .i64 n]) h k
 rw [this, List.getElem?_append_left (by rw [dVals_length, S8.length]; exact hk)]
 exact dVals_get s.list k (by rw [S8.length]; exact hk)
theorem IsH.frozen {w : World} {g : Nat} {s : S8} {rv : Value} {n : Int} (h : IsH w g s rv n) (k : Nat) : w.frozen? ⟨g, k, none⟩ = false := IsBlk.frozen (t := 146) (vs := dVals s.list ++ [rv, .int .i64 n]) h k
theorem IsH.below {w w' : World} {g B : Nat} {s : S8} {rv : Value} {n : Int} (h : IsH w g s rv n) (hb : Below B w w') (hB : g < B) : IsH w' g s rv n := (hb.block g hB).trans h
theorem IsH.call {w w' : World} {g : Nat} {s : S8} {rv : Value} {n : Int} (h : IsH w g s rv n) (hb : Below w.heap.size w w') : IsH w' g s rv n := h.below hb h.lt
theorem IsH.setN {w : World} {g : Nat} {s : S8} {rv : Value} {n : Int} (h : IsH w g s rv n) (m : Int) : IsH (w.setCell ⟨g, 9, none⟩ (.int .i64 m)) g s rv m :=
 IsBlk.set (t := 146) (vs := dVals s.list ++ [rv, .int .i64 n]) h 9 (.int .i64 m)
theorem IsH.setR {w : World} {g : Nat} {s : S8} {rv : Value} {n : Int} (h : IsH w g s rv n) (v : Value) : IsH (w.setCell ⟨g, 8, none⟩ v) g s v n :=
 IsBlk.set (t := 146) (vs := dVals s.list ++ [rv, .int .i64 n]) h 8 v
theorem IsH.put {w : World} {g : Nat} {s : S8} {rv : Value} {n : Int} (h : IsH w g s rv n) (t : S8) : IsH (putAgg w g 0 (dVals t.list).toArray) g t rv n := by
 exact setCells_block g 146 (dVals t.list) 0 w _ h (by rw [List.size_toArray]; simp [dVals_length, S8.length])
theorem Sees.other {w w' : World} {A : Option Addr} {xs : List Value} (h : Sees w A xs) (hb : ∀ b o, A = some ⟨b, o, none⟩ → w'.heap[b]? = w.heap[b]?) : Sees w' A xs := by
 intro hx
 obtain ⟨b, o, rfl, hc⟩ := h hx
 exact ⟨b, o, rfl, fun j hj => (World.cell?_of_block (w := w) (hb b o rfl)).trans (hc j hj)⟩
theorem Sees.range {w : World} {A : Option Addr} {xs : List Value} (h : Sees w A xs) (hx : 0 < xs.length) : ∃ b o, A = some ⟨b, o, none⟩ ∧ w.rangeAt b o xs := by
 obtain ⟨b, o, rfl, hc⟩ := h hx
 exact ⟨b, o, rfl, fun j v hj => (hc j (List.getElem?_eq_some_iff.1 hj).1).trans hj⟩
def feedS (s : S8) (D : List (BitVec 8)) : Nat → S8
 | 0 => s
 | k + 1 => afterS (feedS s D k) ((D.drop (64 * k)).take 64)
def lenOfS : Value → Nat
 | .slice _ n _ => n
 | _ => 0
theorem Addr.add_block (a : Addr) (n : Nat) : (a.add n).block = a.block := by unfold Addr.add; split <;> rfl
theorem cutA_block {A : Option Addr} {l m : Nat} {g : Nat} (h : ∀ a, A = some a → a.block ≠ g) : ∀ a, cutA A l m = some a → a.block ≠ g := by
 intro a e
 unfold cutA at e
 split at e
 ·exact h a e
 ·cases A with
  | none => cases e
  | some b =>
   simp only [Option.map_some, Option.some.injEq] at e
   rw [← e, Addr.add_block]
   exact h b rfl
set_option maxRecDepth 100000 in
set_option maxHeartbeats 1000000 in
theorem hashWrite (N g : Nat) (s : S8) (rv : Value) (rest : List (BitVec 8)) (n : Int) (A : Option Addr) (cap : Nat) (l : List (BitVec 8)) (w : World) (L : Laid w) (hH : IsH w g s rv n) (hR : OwnB w N rv rest) (hN : N ≤ g) (h3 : 3 ≤ N)
  (hne : rv.ownBlock ≠ some g) (hs : Sees w A (byteVals l)) (hag : l ≠ [] → ∀ a, A = some a → a.block ≠ g) (hcap : l.length ≤ cap) (hlen : rest.length + l.length ≤ 1099511627776) (hn0 : 0 ≤ n) (hn : n + l.length < 4611686018427387904) :
  Calls Tryz.prog 62 #[.pointer (some ⟨g, 0, none⟩), .slice A l.length cap] w fun e w' => e = .returned (.tuple #[]) ∧
   ∃ rv', IsH w' g (feedS s (rest ++ l) ((rest ++ l).length / 64)) rv' (n + l.length) ∧ OwnB w' N rv' ((rest ++ l).drop (64 * ((rest ++ l).length / 64))) ∧ rv'.ownBlock ≠ some g ∧ Below N w w' := by
 obtain ⟨i0, hi0, hz0, hz1, hz2⟩ := info_parts info_u8
 have hw1 : IntKind.i64.wrap (n + (l.length : Int)) = n + (l.length : Int) := by rw [IntKind.wrap_i64]; omega
 have hg := hH.lt
 have hnc := hH.nc
 have hfr := hH.frozen 9
 have hrc := hH.rvc
 have HH := Lib.hid (hH.setN (n + l.length))
 have hb0 : Below N w (w.setCell ⟨g, 9, none⟩ (.int .i64 (n + (l.length : Int)))) := (Below.refl _ w).setCell (p := ⟨g, 9, none⟩) hN _
 have HO := Lib.hid (show OwnB (w.setCell ⟨g, 9, none⟩ (.int .i64 (n + (l.length : Int)))) N rv rest from hR.kept (row := some g) ⟨rfl, rfl, rfl, by simp, fun k _ hk => Below.heap_setCell w ⟨g, 9, none⟩ _ k (fun e => hk (by rw [e]))⟩ (.inr hne))
 have HS := Lib.hid (show Sees (w.setCell ⟨g, 9, none⟩ (.int .i64 (n + (l.length : Int)))) A (byteVals l) from by
  intro hx
  obtain ⟨b, o, rfl, hc⟩ := hs hx
  have hb := hag (by intro e; subst e; simp [byteVals] at hx) _ rfl
  exact ⟨b, o, rfl, fun j hj => (World.cell?_of_block (w := w) (Below.heap_setCell w _ _ b hb)).trans (hc j hj)⟩)
 have HB0 := Lib.hid hb0
 have HN := Lib.hid (And.intro hN (And.intro h3 hne))
 have hLb := L.below hb0 h3
 have hsz0 : (w.setCell ⟨g, 9, none⟩ (.int .i64 (n + (l.length : Int)))).heap.size = w.heap.size := by simp
 have HL := Lib.hid L
 clear hH hR hs hb0 hag hN h3 hne L hLb
 go_enter Tryz.func62, Tryz.ntmps62
 go_wp2_with (at_builtin; refine wpList_append_sees rfl _ _ 22 rfl N 5 i0 (.int .u8 0) 1 1 Tryz.underlying22 hi0 hz0 hz1 hz2 rfl (by decide) _ _ _ rfl HO.out A l.length cap (byteVals l) rfl ?c1 HS.out (byteVals_one l) ?c4 ?c5 ?c6 ?_)
 case c1 => rw [byteVals_length, Nat.mul_one]
 case c4 => unfold maxLen; omega
 case c5 => omega
 case c6 => rw [hsz0]; have := HN.out.1; omega
 intro v1 w1 hown1 hg1 hat1
 generalize hw0 : w.setCell ⟨g, 9, none⟩ (.int .i64 (n + (l.length : Int))) = w0 at *
 have hgne : ∀ k, v1.ownBlock = some k → k ≠ g := by
  intro k hk e
  subst e
  rcases hat1 with h | h
  ·exact HN.out.2.2 (h ▸ hk)
  ·rw [hk] at h; injection h with h; omega
 have HX := Lib.hid (show IsH w1 g s rv (n + l.length) ∧ OwnB w1 N v1 (rest ++ l) ∧ Below N w w1 from
  ⟨(hg1.block g (by omega) (fun e => HN.out.2.2 e.symm)).trans HH.out, by unfold OwnB; rw [List.length_append, byteVals_append]; exact hown1, HB0.out.grown hg1 (by rw [hsz0]; have := HN.out.1; omega) (fun k hk => (HO.out.lt k hk).1)⟩)
 obtain ⟨A1, c1, rfl, hc1, hS1, hA1⟩ := HX.out.2.1.open
 have hA1' : ∀ a, A1 = some a → a.block ≠ g := fun a e => hgne a.block (by rw [e]; rfl)
 have hHI := HX.out.1
 have hHB := HX.out.2.2
 clear hown1 hg1 hat1 HX hgne hA1 HO HH HS hw0 hsz0 HB0 hnc hfr hrc hw1
 generalize hD : rest ++ l = D at *
 have HI := Lib.hid (And.intro hHI (And.intro hHB (And.intro hS1 hA1')))
 clear hHI hHB hS1 hA1'
 go_wp2
 go_loopw [4] (fun v W => ∃ k A' c, 64 * k ≤ D.length ∧ v = .slice A' (D.length - 64 * k) c ∧ D.length - 64 * k ≤ c ∧ Sees W A' (byteVals (D.drop (64 * k))) ∧ (∀ a, A' = some a → a.block ≠ g) ∧ IsH W g (feedS s D k) rv (n + l.length) ∧ Below N w W) (fun v _ => lenOfS v)
 case atStart => exact ⟨0, A1, c1, by omega, by simp, by omega, by simpa using HI.out.2.2.1, HI.out.2.2.2, HI.out.1, HI.out.2.1⟩
 case round =>
  clear HI hc1
  obtain ⟨k, A', c, hk, rfl, hc, hS, hA, hH, hB⟩ := hrel
  have hlD : (D.drop (64 * k)).length = D.length - 64 * k := List.length_drop
  by_cases h64 : 64 ≤ D.length - 64 * k
  ·have h64' : (64 : Int) ≤ ((D.length - 64 * k : Nat) : Int) := by omega
   have hF := Lib.hid (show feedS s D (k + 1) = afterS (feedS s D k) ((D.drop (64 * k)).take 64) from rfl)
   have hDr := Lib.hid (show D.drop (64 * (k + 1)) = (D.drop (64 * k)).drop 64 from by rw [List.drop_drop]; congr 1)
   have hL2 := Lib.hid (show D.length - 64 * (k + 1) = D.length - 64 * k - 64 from by omega)
   have hk2 := Lib.hid (show 64 * (k + 1) ≤ D.length from by omega)
   generalize hm : D.length - 64 * k = m at *
   generalize D.drop (64 * k) = E at *
   obtain ⟨b, o, rfl, hr⟩ := hS.range (by rw [byteVals_length]; omega)
   have hcut1 := cut_h (some ⟨b, o, none⟩) m c 64 (by omega) .i64
   have hcut2 := cut_l (some ⟨b, o, none⟩) m c 64 h64 .i64
   have hag := hH.agg
   have hLW := HL.out.below hB HN.out.2.1
   have hbl : b < wr.heap.size := hS.lt (by rw [byteVals_length]; omega)
   have hgl := hH.lt
   have HA := Lib.hid (fun W (hW : Below wr.heap.size wr W) => after (feedS s D k) b o c (E.take 64) (by rw [List.length_take]; omega) (by omega) W (rangeAt_below (rangeAt_take hr 64) hW) (hLW.to hW))
   have HI := Lib.hid (And.intro hS (And.intro hA (And.intro hH hB)))
   have hf := fits_words 8 (afterS (feedS s D k) (E.take 64)).list rfl
   have hle : (afterS (feedS s D k) (E.take 64)).list.length = 8 := rfl
   clear hS hA hH hB hr hLW
   generalize hs' : afterS (feedS s D k) (E.take 64) = s' at *
   generalize hsv : feedS s D k = sv at *
   have HS' := Lib.hid hs'
   clear hs' hsv
   generalize hsl' : s'.list = sl' at *
   have HSL := Lib.hid hsl'
   clear hsl'
   go_wp2
   go_region_with (first | (go_at_call 91; (with_reducible refine (HA.out _ (by repeat (first | with_reducible assumption | with_reducible exact Below.refl _ _ | (with_reducible refine putAgg_below ?_ (by first | omega | (simp; done) | (simp; omega))) | (with_reducible refine Below.alloc ?_ (by first | omega | (simp; done) | (simp; omega)) _) | (with_reducible refine Below.setCell ?_ (by first | omega | (simp; done) | (simp; omega)) _) | (with_reducible refine Below.drew ?_) | (with_reducible refine Below.trans ?_ (Below.mono (by with_reducible assumption) (by first | omega | (simp; done) | (simp; omega))))))).mono ?_); rintro e w5 ⟨rfl, hb5⟩; have hag5 := (aggAt_congr (hb5.block g (by first | exact hgl | (simp; exact hgl)))).trans hag; have hgl5 := Nat.lt_of_lt_of_le hgl hb5.size))
   go_wp2
   all_goals
    have hb5' : Below wr.heap.size wr w5 := (by repeat (first | with_reducible assumption | with_reducible exact Below.refl _ _ | (with_reducible refine putAgg_below ?_ (by first | omega | (simp; done) | (simp; omega))) | (with_reducible refine Below.alloc ?_ (by first | omega | (simp; done) | (simp; omega)) _) | (with_reducible refine Below.setCell ?_ (by first | omega | (simp; done) | (simp; omega)) _) | (with_reducible refine Below.drew ?_) | (with_reducible refine Below.trans ?_ (Below.mono (by with_reducible assumption) (by first | omega | (simp; done) | (simp; omega))))))
    obtain ⟨hS, hA, hH, hB⟩ := HI.out
    refine ⟨⟨k + 1, cutA (some ⟨b, o, none⟩) 64 c, c - 64, hk2.out, ?_, by rw [hL2.out]; omega, ?_, cutA_block hA, ?_, putAgg_below (hB.trans (hb5'.mono (Nat.le_trans HN.out.1 (Nat.le_of_lt hH.lt)))) HN.out.1⟩, ?_⟩
    ·rw [hL2.out]
     simp [cutA, Addr.add]
    ·rw [hDr.out, show byteVals (E.drop 64) = (byteVals E).drop 64 from by unfold byteVals; rw [List.map_drop]]
     refine Sees.cut (Sees.other (hS.below hb5') fun b' o' e => putAgg_block _ _ _ _ _ (hA _ e)) 64 c (by rw [byteVals_length]; omega)
    ·rw [hF.out, ← HSL.out]
     exact (hH.call hb5').put s'
    ·show m - 64 < m
     omega
  ·have hkk : k = D.length / 64 := by omega
   have h64' : ¬ (64 : Int) ≤ ((D.length - 64 * k : Nat) : Int) := by omega
   subst hkk
   have hCl := cloneB A' c (D.drop (64 * (D.length / 64))) (by omega) wr hS
   rw [hlD] at hCl
   have HC := Lib.hid hCl
   clear hCl
   have HI := Lib.hid (And.intro hH hB)
   have hgl := hH.lt
   have hfr := hH.frozen 8
   have hrv := hH.rvc
   clear hS hA hH hB
   go_wp2_with fail
   refine HC.out.mono ?_
   rintro e w6 ⟨v6, rfl, hO6, hb6⟩
   have hfr6 : w6.frozen? ⟨g, 8, none⟩ = false := (World.frozen?_of_block (w := wr) (hb6.block g hgl)).trans hfr
   have hrv6 := (hb6.cell (p := ⟨g, 8, none⟩) hgl).trans hrv
   obtain ⟨A6, c6, rfl, _, _, _⟩ := hO6.open
   have H6 := Lib.hid (And.intro hO6 hb6)
   clear hO6 hb6
   go_wp2
   (try simp only [Exit.inBlock, Exit.then]); first | refine bodyPost_end (results_none rfl _ _ _) rfl ?_ | refine bodyPost_ret (results_none rfl _ _ _) rfl ?_
   have hne6 : Value.ownBlock (.slice A6 (D.drop (64 * (D.length / 64))).length c6) ≠ some g := fun e => by have := (H6.out.1.lt g e).1; omega
   rw [hlD] at H6 hne6
   subst hD
   refine ⟨rfl, _, (HI.out.1.call H6.out.2).setR _, ?_, hne6, ?_⟩
   ·refine OwnB.kept (row := some g) (OwnB.base_le H6.out.1 (Nat.le_trans HN.out.1 (Nat.le_of_lt hgl))) ⟨rfl, rfl, rfl, by simp, fun k _ hk => Below.heap_setCell w6 ⟨g, 8, none⟩ _ k (fun e => hk (by rw [e]))⟩ (.inr hne6)
   ·exact (HI.out.2.trans (H6.out.2.mono (Nat.le_trans HN.out.1 (Nat.le_of_lt hgl)))).setCell (p := ⟨g, 8, none⟩) HN.out.1 _
end Go.Proofs.YtccgfladbibjbaaGreatDoor
namespace Go.Proofs.YtccgfladbibjbaaGreatDoor
open Go.RowKit
attribute [local go_sem ↓] add_DD mul_DD mul_DL and_DD or_DD xor_DD notD_at shr_DL shl_DL shr_DN shl_DN quo_DL rem_DL
attribute [local go_sem] wrap32_B wrap8_D
attribute [local simp] putAgg_size
attribute [local go_sem ↓] loadVar_F loadVar_E loadVar_V loadVar_B32 storeVar_F storeVar_E storeVar_V storeVar_B32 box_F box_E box_V box_B32
attribute [local go_sem ↓ high] V4.cells_val FP.cells_val
attribute [local go_sem] run_loadF run_loadE run_loadV run_loadB32 run_storeF run_storeE run_storeV run_storeB32 run_boxA aggAt_drew aggAt_drewN aggAt_alloc_new aggAt_alloc_past aggAt_setCell_other aggAt_putAgg_other aggAt_putAgg_new putAgg_drew putAgg_size putAgg_alloc_new putAgg_alloc_past putAgg_cell_other putAgg_frozen_other V4.agg_arr FP.agg_arr V4.size_arr FP.size_arr V4.fits FP.fits fitsA_agg4 lt_2 ne_2 en_2 lt_3 ne_3 en_3 lt_4 ne_4 en_4 lt_5 ne_5 en_5 lt_6 ne_6 en_6
attribute [local go_sem ↓] loadVar_W loadVar_S storeVar_W storeVar_S box_S
attribute [local go_sem ↓ high] dval_cells
attribute [local go_sem] run_loadW run_loadS run_storeW run_storeS agg_words dVals_size dVals_length
def s0 : S8 := ⟨1779033703#32, 3144134277#32, 1013904242#32, 2773480762#32, 1359893119#32, 2600822924#32, 528734635#32, 1541459225#32⟩
theorem s0_cells : ∀ k, k < 8 → (shaIV[k]?).map (fun (n : Nat) => Value.int .u32 (n : Int)) = (dVals s0.list)[k]? := by
 intro k hk
 match k, hk with
 | 0, _ => rfl
 | 1, _ => rfl
 | 2, _ => rfl
 | 3, _ => rfl
 | 4, _ => rfl
 | 5, _ => rfl
 | 6, _ => rfl
 | 7, _ => rfl
theorem Laid.loadS {w : World} (h : Laid w) : (loadA 144 8 ⟨1, 0, none⟩).run Tryz.prog w = .ok (dval s0.list) w := by
 have := run_loadVar_mid (P := Tryz.prog) w 1 0 144 (dVals s0.list) _ (fun j v hv => by
  have hl : j < 8 := by
   have := (List.getElem?_eq_some_iff.1 hv).1
   exact this
  rw [Nat.zero_add, h.start j hl, s0_cells j hl]
  exact hv) Tryz.underlying144 rfl (by kernel_rfl)
 exact this
@[irreducible] def buildH (parts : Array (Nat × Value)) : Sem Value := Instr.build 146 parts
theorem build_H (parts : Array (Nat × Value)) : Instr.build 146 parts = buildH parts := by unfold buildH; rfl
theorem run_buildH1 (s : S8) (w : World) : (buildH #[(0, dval s.list)]).run Tryz.prog w = .ok (.agg (dVals s.list ++ [Value.slice none 0 0, Value.int .i64 0]).toArray) w := by unfold buildH; kernel_rfl
theorem run_buildH3 (s : S8) (A : Option Addr) (n c : Nat) (m : Int) (w : World) : (buildH #[(0, dval s.list), (1, .slice A n c), (2, .int .i64 m)]).run Tryz.prog w = .ok (.agg (dVals s.list ++ [Value.slice A n c, Value.int .i64 m]).toArray) w := by unfold buildH; kernel_rfl
def hcells (s : S8) (rv : Value) (n : Int) : Array Value := (dVals s.list ++ [rv, Value.int .i64 n]).toArray
def hval (s : S8) (rv : Value) (n : Int) : Value := .agg (hcells s rv n)
theorem box_H (v : Value) : Instr.box 146 v = boxA 146 v := rfl
theorem hval_cells (s : S8) (rv : Value) (n : Int) : (hval s rv n).cells = hcells s rv n := rfl
theorem isH_new (w : World) (s : S8) (rv : Value) (n : Int) : IsH (w.alloc (.cells (hcells s rv n) 146)) w.heap.size s rv n := heap_alloc_new w _
attribute [local go_sem ↓] build_H box_H
attribute [local go_sem ↓ high] hval_cells
set_option maxRecDepth 20000 in
set_option maxHeartbeats 1000000 in
theorem shaNew (w : World) (L : Laid w) : Calls Tryz.prog 61 #[] w fun e w' => ∃ g, e = .returned (.pointer (some ⟨g, 0, none⟩)) ∧ w.heap.size ≤ g ∧ IsH w' g s0 (.slice none 0 0) 0 ∧ Below w.heap.size w w' := by
 have hl := L.loadS
 have hb : ∀ W, (buildH #[(0, dval s0.list)]).run Tryz.prog W = .ok (hval s0 (.slice none 0 0) 0) W := run_buildH1 s0
 have HB := Lib.hid (show Below w.heap.size w (w.alloc (.cells (hcells s0 (.slice none 0 0) 0) 146)) from (by repeat (first | with_reducible assumption | with_reducible exact Below.refl _ _ | (with_reducible refine putAgg_below ?_ (by first | omega | (simp; done) | (simp; omega))) | (with_reducible refine Below.alloc ?_ (by first | omega | (simp; done) | (simp; omega)) _) | (with_reducible refine Below.setCell ?_ (by first | omega | (simp; done) | (simp; omega)) _) | (with_reducible refine Below.drew ?_) | (with_reducible refine Below.trans ?_ (Below.mono (by with_reducible assumption) (by first | omega | (simp; done) | (simp; omega)))))))
 have HI := Lib.hid (isH_new w s0 (.slice none 0 0) 0)
 generalize dval s0.list = dl at *
 go_enter Tryz.func61, Tryz.ntmps61
 go_wp2
 go_ret
 exact ⟨w.heap.size, rfl, Nat.le_refl _, HI.out, HB.out⟩
set_option maxRecDepth 20000 in
set_option maxHeartbeats 1000000 in
theorem hashClone (N g : Nat) (s : S8) (rv : Value) (rest : List (BitVec 8)) (n : Int) (w : World) (hH : IsH w g s rv n) (hR : OwnB w N rv rest) (hlen : rest.length ≤ 1099511627776) :
  Calls Tryz.prog 93 #[.pointer (some ⟨g, 0, none⟩)] w fun e w' => ∃ g' rv', e = .returned (.pointer (some ⟨g', 0, none⟩)) ∧ w.heap.size ≤ g' ∧ IsH w' g' s rv' n ∧ OwnB w' w.heap.size rv' rest ∧ rv'.ownBlock ≠ some g' ∧ Below w.heap.size w w' := by
 obtain ⟨A, cap, rfl, hcap, hS, hA⟩ := hR.open
 have HC := Lib.hid (fun W (hW : Below w.heap.size w W) => cloneB A cap rest hlen W (hS.below hW))
 have hgl := hH.lt
 have hnc := hH.nc
 have hrc := hH.rvc
 have hag := hH.agg
 have hbd : ∀ (A' : Option Addr) (n' c' : Nat) W, (buildH #[(0, dval s.list), (1, .slice A' n' c'), (2, .int .i64 n)]).run Tryz.prog W = .ok (hval s (.slice A' n' c') n) W := fun A' n' c' => run_buildH3 s A' n' c' n
 clear hS hA hR hH
 generalize hdl : dval s.list = dl at *
 go_enter Tryz.func93, Tryz.ntmps93
 go_wp2
 go_region_with (first | (go_at_call 92; (with_reducible refine (HC.out _ (by repeat (first | with_reducible assumption | with_reducible exact Below.refl _ _ | (with_reducible refine putAgg_below ?_ (by first | omega | (simp; done) | (simp; omega))) | (with_reducible refine Below.alloc ?_ (by first | omega | (simp; done) | (simp; omega)) _) | (with_reducible refine Below.setCell ?_ (by first | omega | (simp; done) | (simp; omega)) _) | (with_reducible refine Below.drew ?_) | (with_reducible refine Below.trans ?_ (Below.mono (by with_reducible assumption) (by first | omega | (simp; done) | (simp; omega))))))).mono ?_); rintro e w5 ⟨v5, rfl, ho5, hb5⟩; obtain ⟨A5, c5, rfl, hc5, hS5, hA5⟩ := ho5.open; have HO5 := Lib.hid (And.intro ho5 hb5); have hag5 := (aggAt_congr (hb5.block g (by first | exact hgl | (simp; exact hgl)))).trans hag; have hgl5 := Nat.lt_of_lt_of_le hgl hb5.size; have hnc5 := (hb5.cell (p := ⟨g, 9, none⟩) (by first | exact hgl | (simp; exact hgl))).trans hnc; have hrc5 := (hb5.cell (p := ⟨g, 8, none⟩) (by first | exact hgl | (simp; exact hgl))).trans hrc; clear hb5 ho5 hS5 hA5))
 go_wp2
 all_goals
  go_ret
  have hO5 : OwnB w5 w.heap.size (.slice A5 rest.length c5) rest := HO5.out.1
  have hb5 : Below w.heap.size w w5 := (Below.refl _ w).drew.trans HO5.out.2
  refine ⟨w5.heap.size, .slice A5 rest.length c5, rfl, hb5.size, isH_new w5 s _ n, hO5.below ((Below.refl _ w5).alloc (Nat.le_refl _) _), fun e => ?_, hb5.alloc hb5.size _⟩
  have := (hO5.lt _ e).2
  omega
end Go.Proofs.YtccgfladbibjbaaGreatDoor
