/- sharecoreref19.Decode: the record's error, and some share with the record's head. -/
import Derived.Test.YtccgfladbibjbaaGreatDoorKG42
namespace Go.Proofs.YtccgfladbibjbaaGreatDoor
open Go.RowKit
attribute [local go_sem ↓] add_UU sub_UU mul_UU add_UL add_LU sub_UL sub_LU mul_UL neg_at not_at and_UU or_UU xor_UU andNot_UU and_UL or_LU shr_UL shl_UL shr_UN shl_UN shl_LN quo_UL rem_UL quo_UU rem_UU
attribute [local go_sem] wrap64_N wrapi_mod wrap8_U wrap32_U wrap64_B wrap32_B wrap8_D wrapi_B wrap64_UU eq_UU ne_UU eq_UL ne_UL lt_UU le_UU
attribute [local simp] putAgg_size
attribute [local go_sem ↓] loadVar_F loadVar_E loadVar_V loadVar_B32 storeVar_F storeVar_E storeVar_V storeVar_B32 box_F box_E box_V box_B32
attribute [local go_sem ↓ high] V4.cells_val FP.cells_val
attribute [local go_sem] run_loadF run_loadE run_loadV run_loadB32 run_storeF run_storeE run_storeV run_storeB32 run_boxA aggAt_drew aggAt_drewN aggAt_alloc_new aggAt_alloc_past aggAt_setCell_other aggAt_putAgg_other aggAt_putAgg_new putAgg_drew putAgg_size putAgg_alloc_new putAgg_alloc_past putAgg_cell_other putAgg_frozen_other V4.agg_arr FP.agg_arr V4.size_arr FP.size_arr V4.fits FP.fits fitsA_agg4 lt_2 ne_2 en_2 lt_3 ne_3 en_3 lt_4 ne_4 en_4 lt_5 ne_5 en_5 lt_6 ne_6 en_6
attribute [local go_sem ↓] loadVar_Sh storeVar_Sh
attribute [local go_sem] run_loadSh run_storeSh fits_Sh
theorem run_build1E (u : V4) (w : World) : (Instr.buildSlice 24 1 #[(0, u.val)]).run Tryz.prog w = .ok (.slice (some ⟨w.heap.size, 0, none⟩) 1 1) (w.alloc (.cells (eVals [u]).toArray 50)) := by kernel_rfl
theorem wp_build1E {o : Oper} {a : Act} {w : World} {K : Act → World → Prop} {Q : Exit → Act → World → Prop} (x : Operand) (u : V4) (ho : o.op = .buildSlice 24 1 #[(0, x)]) (hx : a.eval x = u.val)
  (hK : K (a.put o.dst (.slice (some ⟨w.heap.size, 0, none⟩) 1 1)) (w.alloc (.cells (eVals [u]).toArray 50))) : o.wp Tryz.prog a w K Q := by
 unfold Oper.wp execOp
 rw [ho]
 have := run_build1E u w
 simp only [List.map_toArray, List.map_cons, List.map_nil, hx, Sem.run_bind, this, Result.andThen, Sem.run_pure]
 exact hK
structure RdI (w : World) (l : List (BitVec 8)) (f : FP) (h1 h2 h3 rl : Int) (n bS bP k : Nat) (pv : Value) (es : List V4) (W : World) : Prop where
 K : k ≤ n
 E : elsE f l k = 0
 C : es.length = k
 S : W.heap[bS]? = some (.cells #[.int .i64 h1, .int .i64 h2, .int .i64 h3, .int .i64 rl, pv] 26 (0, 0))
 P : W.heap[bP]? = some (.cells f.p.arr 45 (0, 0))
 O : OwnE W (bP + 1) pv es
 Z : W.heap[w.heap.size]? = some (.cells #[.int .i64 0, .int .i64 0, .int .i64 0, .int .i64 0, .slice none 0 0] 26 (0, 0))
 B : Below w.heap.size w W
 T : w.heap.size < bS ∧ bS < bP ∧ bP + 1 ≤ W.heap.size
theorem RdI.below {w W W' : World} {l : List (BitVec 8)} {f : FP} {h1 h2 h3 rl : Int} {n bS bP k : Nat} {pv : Value} {es : List V4} (h : RdI w l f h1 h2 h3 rl n bS bP k pv es W) (hb : Below W.heap.size W W') : RdI w l f h1 h2 h3 rl n bS bP k pv es W' :=
 ⟨h.K, h.E, h.C, blk_below h.S hb rfl, blk_below h.P hb rfl, h.O.below hb, blk_below h.Z hb rfl, h.B.trans (hb.mono h.B.size), ⟨h.T.1, h.T.2.1, Nat.le_trans h.T.2.2 hb.size⟩⟩
theorem RdI.step {w W W' : World} {l : List (BitVec 8)} {f : FP} {h1 h2 h3 rl : Int} {n bS bP k : Nat} {pv pv' : Value} {es : List V4} {x : V4} (h : RdI w l f h1 h2 h3 rl n bS bP k pv es W) (hk : k < n) (he : decE f (recChunk l k) = 0) (hg : W.grownBy W' pv.ownBlock) (ho : OwnE W' (bP + 1) pv' (es ++ [x])) : RdI w l f h1 h2 h3 rl n bS bP (k + 1) pv' (es ++ [x]) (W'.setCell ⟨bS, 4, none⟩ pv') := by
 obtain ⟨_, E, C, S, P, O, Z, B, T1, T2, T3⟩ := h
 have hlo : ∀ j, pv.ownBlock = some j → bP + 1 ≤ j := fun j e => (O.lt j e).1
 have hne : ∀ j, j < bP + 1 → some j ≠ pv.ownBlock := fun j hj e => by have := hlo j e.symm; omega
 have g := grownBy_setC W' bS 4 pv'
 have hs := hg.size
 refine ⟨by omega, by rw [elsE, if_pos E]; exact he, by rw [List.length_append, C]; rfl, ?_, (g.block _ (by omega) (fun e => by injection e; omega)).trans ((hg.block _ (by omega) (hne _ (by omega))).trans P), ho.kept g ?_, (g.block _ (by omega) (fun e => by injection e; omega)).trans ((hg.block _ (by omega) (hne _ (by omega))).trans Z), (B.grown hg B.size (fun j e => by have := hlo j e; omega)).setCell (p := ⟨bS, 4, none⟩) (by show w.heap.size ≤ bS; omega) _, T1, T2, by simp; omega⟩
 ·exact row_set (cs := [.int .i64 h1, .int .i64 h2, .int .i64 h3, .int .i64 rl, pv]) ((hg.block _ (by omega) (hne _ (by omega))).trans S) 4 pv'
 ·cases hw : pv'.ownBlock with
  | none => exact .inl rfl
  | some j => exact .inr fun e => by injection e with e; have := (ho.lt j hw).1; omega
theorem refMod_getF {id : Int} (h : getE id = 0) : refMod id = (getF id).p ∧ 1 < (getF id).p.num := by
 rcases getE_range h with rfl | rfl
 ·exact ⟨rfl, of_decide_eq_true (by kernel_rfl)⟩
 ·exact ⟨rfl, of_decide_eq_true (by kernel_rfl)⟩
set_option maxRecDepth 100000 in
set_option maxHeartbeats 4000000 in
theorem refDec19 (A : Option Addr) (cap : Nat) (l : List (BitVec 8)) (hl : l.length ≤ 1073741824) (hcap : l.length ≤ cap) (w : World) (hs : Sees w A (byteVals l)) :
  Calls Tryz.prog 9 #[.slice A l.length cap] w fun e w' => ∃ X : ShA, e = .returned (.tuple #[X.s.val X.A X.cap, .int .i64 (recE l)]) ∧ (recE l = 0 → X.s.field = hdr l 1 ∧ X.s.thr = hdr l 2 ∧ X.s.idx = hdr l 3 ∧ X.s.len = recLen l ∧ X.s.pay.length = cnt (recLen l)) ∧ OwnE w' w.heap.size X.pv X.s.pay ∧ Below w.heap.size w w' := by
 obtain ⟨e0, he0, ea0, ea1, ea2⟩ := info_parts info_E
 have HH := Lib.hid (fun W (hW : Below w.heap.size w W) => refHead A cap l (by omega) W (hs.below hW))
 have HR := Lib.hid (recE_head l)
 by_cases h0 : headE l = 0
 ·obtain ⟨h38, _, z1, _, _, zl⟩ := headE_zero h0
  rw [h0] at HH
  rw [if_neg (fun h => h h0)] at HR
  clear h0
  have hbb : ∃ b o, A = some ⟨b, o, none⟩ := by
   obtain ⟨b, o, e, _⟩ := hs (by rw [byteVals_length]; omega)
   exact ⟨b, o, e⟩
  obtain ⟨b, o, rfl⟩ := hbb
  have HS := Lib.hid (fun W (hW : Below w.heap.size w W) => hs.below hW)
  have HC := Lib.hid (fun W (hW : Below w.heap.size w W) j (hj : j < l.length) => hdr_at (hs.below hW) j hj)
  have hr1 := hdr_le l 1
  have hr2 := hdr_le l 2
  have hr3 := hdr_le l 3
  have hr4 := hdr_le l 4
  have hr5 := hdr_le l 5
  have hrl : hdr l 4 + 256 * hdr l 5 = recLen l := rfl
  obtain ⟨hfp, hp1⟩ := refMod_getF z1
  have HC1 := Lib.hid (fun W (hW : Below w.heap.size w W) => And.intro (HC.out W hW 1 (by omega)) (And.intro (HC.out W hW 2 (by omega)) (And.intro (HC.out W hW 3 (by omega)) (And.intro (HC.out W hW 4 (by omega)) (HC.out W hW 5 (by omega))))))
  have hnb := cnt_le (recLen l)
  generalize hdr l 1 = h1 at *
  generalize hdr l 2 = h2 at *
  generalize hdr l 3 = h3 at *
  generalize hdr l 4 = h4 at *
  generalize hdr l 5 = h5 at *
  generalize recLen l = rl at *
  generalize getF h1 = f at *
  generalize cnt rl = n at *
  obtain ⟨N, hN⟩ : ∃ N, l.length = N := ⟨_, rfl⟩
  have HN := Lib.hid (And.intro hN (And.intro zl (And.intro hcap (And.intro hnb hl))))
  have HP := Lib.hid (And.intro hfp (And.intro hp1 z1))
  rw [hN] at HH ⊢
  clear hs hN zl hcap hl hfp hp1 z1 hnb
  go_enter Tryz.func9, Tryz.ntmps9
  go_wp2_with fail
  (obtain ⟨W0, hW0⟩ : ∃ W0 : World, W0 = (w).alloc (.cells #[.int .i64 0, .int .i64 0, .int .i64 0, .int .i64 0, .slice none 0 0] 26) := ⟨_, rfl⟩); (have gW0 : ∀ (j : Nat) (o : Obj), ([Obj.cells #[.int .i64 0, .int .i64 0, .int .i64 0, .int .i64 0, .slice none 0 0] 26] : List Obj)[j]? = some o → W0.heap[w.heap.size + j]? = some o := by rw [hW0]; exact allocs_get w _); (have zW0 : W0.heap.size = w.heap.size + 1 := by rw [hW0]; exact allocs_size w [Obj.cells #[.int .i64 0, .int .i64 0, .int .i64 0, .int .i64 0, .slice none 0 0] 26]); (have bW0 : Below w.heap.size w W0 := by rw [hW0]; exact allocs_below w [Obj.cells #[.int .i64 0, .int .i64 0, .int .i64 0, .int .i64 0, .slice none 0 0] 26]); (rw [← hW0]); (clear hW0)
  have g0 : W0.heap[w.heap.size]? = some (.cells #[.int .i64 0, .int .i64 0, .int .i64 0, .int .i64 0, .slice none 0 0] 26 (0, 0)) := gW0 0 _ rfl
  refine (HH.out _ bW0).mono ?_
  rintro e w1 ⟨rfl, hb⟩
  have hB1 := bW0.trans (hb.mono bW0.size)
  have HZ1 := Lib.hid (And.intro (blk_below g0 hb rfl) hB1)
  have hz1 : w.heap.size < w1.heap.size := by have := hb.size; omega
  obtain ⟨x1, x2, x3, x4, x5⟩ := HC1.out w1 hB1
  have ww1 : IntKind.i64.wrap h1 = h1 := by rw [IntKind.wrap_i64]; omega
  have ww2 : IntKind.i64.wrap h2 = h2 := by rw [IntKind.wrap_i64]; omega
  have ww3 : IntKind.i64.wrap h3 = h3 := by rw [IntKind.wrap_i64]; omega
  have ww4 : IntKind.i64.wrap h4 = h4 := by rw [IntKind.wrap_i64]; omega
  have ww5 : IntKind.i64.wrap h5 = h5 := by rw [IntKind.wrap_i64]; omega
  have ww6 : IntKind.i64.wrap (256 * h5) = 256 * h5 := by rw [IntKind.wrap_i64]; omega
  have ww7 : IntKind.i64.wrap (h4 + 256 * h5) = rl := by rw [IntKind.wrap_i64]; omega
  have hN38 : 38 ≤ N := by have := HN.out.2.1; have := HN.out.1; omega
  have l1 : (1 : Int) < (N : Int) := by omega
  have l2 : (2 : Int) < (N : Int) := by omega
  have l3 : (3 : Int) < (N : Int) := by omega
  have l4 : (4 : Int) < (N : Int) := by omega
  have l5 : (5 : Int) < (N : Int) := by omega
  clear g0 gW0 bW0 zW0 hb HH hB1 hrl h38
  go_upto_region 4 with (fail)
  clear hr1 hr2 hr3 hr4 hr5 hN38
  ((have hS0 : (Below w1.heap.size w1 w1.drew ∧ w1.drew.cell? ⟨(b), (o + 1), none⟩ = some (.int .u8 h1) ∧ w1.drew.cell? ⟨(b), (o + 2), none⟩ = some (.int .u8 h2) ∧ w1.drew.cell? ⟨(b), (o + 3), none⟩ = some (.int .u8 h3) ∧ w1.drew.cell? ⟨(b), (o + 4), none⟩ = some (.int .u8 h4) ∧ w1.drew.cell? ⟨(b), (o + 5), none⟩ = some (.int .u8 h5)) := ⟨((Below.refl _ w1)).drew, x1, x2, x3, x4, x5⟩); (refine region_free (by kernel_rfl) [23, 24] [0, 1, 2, 3, 4, 5, 6, 7, 8, 9, 10, 11, 12, 13, 14, 15, 16, 17, 18, 19, 20, 21, 22] false (by kernel_rfl) (by kernel_rfl) (fun W' => (Below w1.heap.size w1 W' ∧ W'.cell? ⟨(b), (o + 1), none⟩ = some (.int .u8 h1) ∧ W'.cell? ⟨(b), (o + 2), none⟩ = some (.int .u8 h2) ∧ W'.cell? ⟨(b), (o + 3), none⟩ = some (.int .u8 h3) ∧ W'.cell? ⟨(b), (o + 4), none⟩ = some (.int .u8 h4) ∧ W'.cell? ⟨(b), (o + 5), none⟩ = some (.int .u8 h5))) hS0 ?_); (have hSB : ∀ W' W'' : World, (Below w1.heap.size w1 W' ∧ W'.cell? ⟨(b), (o + 1), none⟩ = some (.int .u8 h1) ∧ W'.cell? ⟨(b), (o + 2), none⟩ = some (.int .u8 h2) ∧ W'.cell? ⟨(b), (o + 3), none⟩ = some (.int .u8 h3) ∧ W'.cell? ⟨(b), (o + 4), none⟩ = some (.int .u8 h4) ∧ W'.cell? ⟨(b), (o + 5), none⟩ = some (.int .u8 h5)) → Below W'.heap.size W' W'' → (Below w1.heap.size w1 W'' ∧ W''.cell? ⟨(b), (o + 1), none⟩ = some (.int .u8 h1) ∧ W''.cell? ⟨(b), (o + 2), none⟩ = some (.int .u8 h2) ∧ W''.cell? ⟨(b), (o + 3), none⟩ = some (.int .u8 h3) ∧ W''.cell? ⟨(b), (o + 4), none⟩ = some (.int .u8 h4) ∧ W''.cell? ⟨(b), (o + 5), none⟩ = some (.int .u8 h5)) := fun W' W'' ⟨h0, h1, h2, h3, h4, h5⟩ hb => ⟨h0.trans (hb.mono h0.size), cell_keep h1 hb, cell_keep h2 hb, cell_keep h3 hb, cell_keep h4 hb, cell_keep h5 hb⟩); (clear x1 x2 x3 x4 x5); (iterate 23 (refine chainF_opL (by rfl) (by rfl) ?_ ?_ ?_; rotate_left; (focus (intro W' hS' K hK; (try simp only [put_some, List.set] at hK); (have hS'' := hS'); (obtain ⟨s0, s1, s2, s3, s4, s5⟩ := hS''); go_simp; (exact hK); done)); (try simp only [put_some, List.set]))); (refine chainF_nil ?_))
  have HZ2 := Lib.hid (show w1.drew.heap[w.heap.size]? = some (.cells #[.int .i64 0, .int .i64 0, .int .i64 0, .int .i64 0, .slice none 0 0] 26 (0, 0)) ∧ Below w.heap.size w w1.drew ∧ w1.drew.heap.size = w1.heap.size from ⟨HZ1.out.1, HZ1.out.2.drew, rfl⟩)
  clear ww1 ww2 ww3 ww4 ww5 ww6 ww7 l1 l2 l3 l4 l5 HZ1 HC1
  generalize w1.drew = wd at *
  refine spine_opL (by rfl) (by rfl) (fun K hK => ?_)
  (try simp only [put_some, List.set] at hK)
  go_simp
  have hbA := (Below.refl _ wd).alloc (Nat.le_refl _) (.cells #[.int .i64 0, .int .i64 0, .int .i64 0, .int .i64 0, .slice none 0 0] 26)
  have gS := heap_alloc_new wd (.cells #[.int .i64 0, .int .i64 0, .int .i64 0, .int .i64 0, .slice none 0 0] 26)
  have hS1 := hSB _ _ hS0 hbA
  have HZ3 := Lib.hid (And.intro (blk_below HZ2.out.1 hbA rfl) (HZ2.out.2.1.trans (hbA.mono HZ2.out.2.1.size)))
  have hzS : w.heap.size < wd.heap.size := by rw [HZ2.out.2.2]; exact hz1
  refine hK _ _ hS1 ?_
  clear hK K hbA hS0 HZ2 hSB hS1 hz1
  generalize wd.heap.size = bS at *
  generalize wd.alloc (.cells #[.int .i64 0, .int .i64 0, .int .i64 0, .int .i64 0, .slice none 0 0] 26) = w2 at *
  have pS := aggSh_of_block gS rfl
  refine spine_lastL (by rfl) (by rfl) (fun K hK => ?_)
  go_simp
  obtain ⟨w3, hw3⟩ : ∃ w3, w3 = putAgg w2 bS 0 #[.int .i64 h1, .int .i64 h2, .int .i64 h3, .int .i64 rl, .slice none 0 0] := ⟨_, rfl⟩
  have gS3 : w3.heap[bS]? = some (.cells #[.int .i64 h1, .int .i64 h2, .int .i64 h3, .int .i64 rl, .slice none 0 0] 26 (0, 0)) := by rw [hw3]; exact vec_put gS rfl
  have gZ3 := (show w3.heap[w.heap.size]? = w2.heap[w.heap.size]? by rw [hw3]; exact putAgg_block _ _ _ _ _ (by omega)).trans HZ3.out.1
  have hB3 : Below w.heap.size w w3 := by rw [hw3]; exact putAgg_below HZ3.out.2 (by omega)
  rw [← hw3]
  refine hK undef _ (fun h => by cases h) ?_
  rw [put_none]
  clear hK K hw3 pS gS HZ3
  have d0 := row_cell (cs := [_, _, _, _, _]) gS3 0 rfl
  have hzS3 : bS < w3.heap.size := (Array.getElem?_eq_some_iff.1 gS3).1
  have HG3 := Lib.hid (And.intro gS3 (And.intro gZ3 hB3))
  clear gS3 gZ3 hB3
  go_wp2_with fail
  refine (refModulus h1 _).mono ?_
  rintro e w4 ⟨rfl, hb4⟩
  rw [HP.out.1]
  have HG4 := Lib.hid (And.intro (blk_below HG3.out.1 hb4 rfl) (And.intro (blk_below HG3.out.2.1 hb4 rfl) (HG3.out.2.2.trans (hb4.mono HG3.out.2.2.size))))
  have hzS4 : bS < w4.heap.size := Nat.lt_of_lt_of_le hzS3 hb4.size
  clear d0 HG3 hb4 hzS3
  go_upto_region 6 with (fail)
  (obtain ⟨W5, hW5⟩ : ∃ W0 : World, W0 = (w4).alloc (.cells f.p.arr 45) := ⟨_, rfl⟩); (have gW5 : ∀ (j : Nat) (o : Obj), ([Obj.cells f.p.arr 45] : List Obj)[j]? = some o → W5.heap[w4.heap.size + j]? = some o := by rw [hW5]; exact allocs_get w4 _); (have zW5 : W5.heap.size = w4.heap.size + 1 := by rw [hW5]; exact allocs_size w4 [Obj.cells f.p.arr 45]); (have bW5 : Below w4.heap.size w4 W5 := by rw [hW5]; exact allocs_below w4 [Obj.cells f.p.arr 45]); (rw [← hW5]); (clear hW5)
  have gP : W5.heap[w4.heap.size]? = some (.cells f.p.arr 45 (0, 0)) := gW5 0 _ rfl
  have H0 := Lib.hid (show RdI w l f h1 h2 h3 rl n bS w4.heap.size 0 (.slice none 0 0) [] W5 from
   ⟨Nat.zero_le _, rfl, rfl, blk_below HG4.out.1 bW5 rfl, gP, ownE_nil _ _, blk_below HG4.out.2.1 bW5 rfl, HG4.out.2.2.trans (bW5.mono HG4.out.2.2.size), hzS, hzS4, by omega⟩)
  clear gW5 zW5 bW5 gP HG4
  generalize w4.heap.size = bP at *
  go_wp2
  go_loopw [7] (fun iv W => ∃ (k : Nat) (pv : Value) (es : List V4), iv = .int .i64 ((6 + 32 * k : Nat) : Int) ∧ RdI w l f h1 h2 h3 rl n bS bP k pv es W) (fun iv _ => N - (intOf iv).toNat)
  case atStart => exact ⟨0, _, [], rfl, H0.out⟩
  case round =>
   clear H0
   obtain ⟨k, pv, es, rfl, hI⟩ := hrel
   have HI := Lib.hid hI
   have hkn := hI.K
   obtain ⟨hN1, hN2, hN3, hN4, hN5⟩ := HN.out
   have hw32 : IntKind.i64.wrap ((N : Int) - 32) = (N : Int) - 32 := by rw [IntKind.wrap_i64]; omega
   clear hI
   by_cases hlt : k < n
   ·have hcmp : (((6 + 32 * k : Nat) : Int) < (N : Int) - 32) := by omega
    have hch := recChunk_length l k (by omega)
    have hc0 : 0 ≤ ((6 + 32 * k : Nat) : Int) + 32 := by omega
    have hc1 : ((6 + 32 * k : Nat) : Int) + 32 ≤ (cap : Int) := by omega
    have hc2 : (((6 + 32 * k : Nat) : Int) + 32).toNat = 6 + 32 * k + 32 := by omega
    have hc3 : ¬ cap = 6 + 32 * k := by omega
    have hw2 : IntKind.i64.wrap (((6 + 32 * k : Nat) : Int) + 32) = ((6 + 32 * k : Nat) : Int) + 32 := by rw [IntKind.wrap_i64]; omega
    have HD := Lib.hid (fun W (hW : Below w.heap.size w W) => refDec31 f (by have := HP.out.2.1; omega) (some ⟨b, o + (6 + 32 * k), none⟩) (cap - (6 + 32 * k)) (recChunk l k) hch W (fun _ => ⟨b, o + (6 + 32 * k), rfl, fun j hj => by
     rw [byteVals_length, hch] at hj
     rw [Nat.add_assoc, HC.out W hW (6 + 32 * k + j) (by omega), byteVals_get _ j (by omega), recChunk_get l k j hj]
     rfl⟩))
    have hel : elsE f l (k + 1) = decE f (recChunk l k) := by rw [elsE, if_pos HI.out.E]
    have HEL := Lib.hid hel
    have hor : decE f (recChunk l k) = 0 ∨ decE f (recChunk l k) = 9 := decE_or f (recChunk l k)
    obtain ⟨ee, hee⟩ : ∃ ee, decE f (recChunk l k) = ee := ⟨_, rfl⟩
    rw [hee] at HD HEL hor
    obtain ⟨u, hu⟩ : ∃ u, (if ee = 0 then numV (recChunk l k) else V4.zero) = u := ⟨_, rfl⟩
    rw [hu] at HD
    have HEE := Lib.hid (And.intro hee hor)
    clear hor hee hel hch hu
    have HLN := Lib.hid (show 6 + 32 * (k + 1) = 6 + 32 * k + 32 ∧ 6 + 32 * k + 32 + 32 ≤ N ∧ N ≤ 1073741824 ∧ k < n ∧ k ≤ 2115 from ⟨by omega, by omega, by omega, hlt, by omega⟩)
    clear hN1 hN2 hN3 hN4 hN5 hkn hlt
    generalize hat : 6 + 32 * k = at0 at *
    have HAT := Lib.hid hat
    clear hat
    have pP := agg_of_block HI.out.P
    have HBw := HI.out.B
    go_wp2_with fail
    ((have hS0 : (Below wr.heap.size wr wr.drew ∧ aggAt wr.drew 4 (bP) (0) = some (f.p.val)) := ⟨((Below.refl _ wr)).drew, pP⟩); (refine region_later (by kernel_rfl) [10, 11] [0, 1, 2, 3, 4, 5, 6, 7, 8, 9, 12] true (by kernel_rfl) (by kernel_rfl) (fun W' => (Below wr.heap.size wr W' ∧ aggAt W' 4 (bP) (0) = some (f.p.val))) hS0 ?_); (have hSB : ∀ W' W'' : World, (Below wr.heap.size wr W' ∧ aggAt W' 4 (bP) (0) = some (f.p.val)) → Below W'.heap.size W' W'' → (Below wr.heap.size wr W'' ∧ aggAt W'' 4 (bP) (0) = some (f.p.val)) := fun W' W'' ⟨h0, h1⟩ hb => ⟨h0.trans (hb.mono h0.size), agg_keep h1 hb⟩); (clear pP); (iterate 11 (refine chainL_op (by rfl) (by rfl) ?_ ?_ ?_; rotate_left; (focus (intro W' hS' K hK; (try simp only [put_some, List.set] at hK); (have hS'' := hS'); (obtain ⟨s0, s1⟩ := hS''); go_simp; (first | exact hK _ hS' (Later.refl _) | (with_reducible refine Calls.mono (HD.out _ (HBw.trans (s0.mono HBw.size))) ?_; rintro e W'' ⟨rfl, hb''⟩; exact hK _ (hSB _ _ hS' hb'') (Later.of hb''))); done)); (try simp only [put_some, List.set]))); (refine chainL_nil ?_))
    clear hc0 hc1 hc2 hc3 hw2 HD
    refine spineL_op (by rfl) (by rfl) (fun X1 hS1 hL1 K hK => ?_)
    (try simp only [put_some, List.set] at hK)
    go_simp
    have hbA := (Below.refl _ X1).alloc (Nat.le_refl _) (.cells V4.zero.arr 45)
    have gA : (X1.alloc (.cells V4.zero.arr 45)).heap[X1.heap.size]? = some (.cells V4.zero.arr 45 (0, 0)) := heap_alloc_new X1 _
    refine hK _ _ (fun _ => hSB _ _ hS1 hbA) ?_
    (try simp only [put_some, List.set])
    clear hK K hbA
    obtain ⟨bV, hbV⟩ : ∃ bV, X1.heap.size = bV := ⟨_, rfl⟩
    have hzV : wr.heap.size ≤ bV := by rw [← hbV]; exact hS1.1.size
    have HX1 := Lib.hid (hSB _ _ hS1 ((Below.refl _ X1).alloc (Nat.le_refl _) (.cells V4.zero.arr 45)))
    rw [hbV] at gA ⊢
    clear hS1 hL1
    clear hbV
    refine spineL_op (by rfl) (by rfl) (fun X2 hS2 hL2 K hK => ?_)
    have gV2 := blk_below gA hL2 rfl
    have pV2 := agg_of_block gV2
    go_simp
    have bV3 : Below wr.heap.size wr (putAgg X2 bV 0 u.arr) := putAgg_below hS2.1 hzV
    have gV3 : (putAgg X2 bV 0 u.arr).heap[bV]? = some (.cells u.arr 45 (0, 0)) := vec_put gV2 rfl
    have HI3 := Lib.hid (HI.out.below bV3)
    have pP3 := agg_of_block HI3.out.P
    refine hK undef _ (fun _ => ⟨bV3, pP3⟩) ?_
    rw [put_none]
    clear hK K gV2 pV2 gA hS2 hL2 HX1
    generalize putAgg X2 bV 0 u.arr = X3 at *
    refine spineL_nil fun X4 hL4 hS4 => ?_
    have HI4 := Lib.hid (HI3.out.below hL4)
    have gV4 := blk_below gV3 hL4 rfl
    have HOW := Lib.hid (show (∀ j, pv.ownBlock = some j → j < bV) from fun j e => Nat.lt_of_lt_of_le (HI.out.O.lt j e).2 hzV)
    clear bV3 gV3 HI3 pP3 hL4 hS4 hSB hS0 HBw HI hzV
    by_cases h9 : ee = 0
    ·subst h9
     have c4 : X4.cell? ⟨bS, 4, none⟩ = some pv := row_cell (cs := [_, _, _, _, _]) HI4.out.S 4 rfl
     have pP4 := agg_of_block HI4.out.P
     have pV4 := agg_of_block gV4
     have hB4 := HI4.out.B
     have HV4 := Lib.hid gV4
     clear gV4
     go_wp2_with fail
     ((have hS0 : (Below w.heap.size w X4.drew ∧ X4.drew.cell? ⟨(bS), (4), none⟩ = some (pv) ∧ aggAt X4.drew 4 (bP) (0) = some (f.p.val) ∧ aggAt X4.drew 4 (bV) (0) = some (u.val)) := ⟨(hB4).drew, c4, pP4, pV4⟩); (refine region_free (by kernel_rfl) [4, 5, 6, 8] [0, 1, 2, 3, 7] false (by kernel_rfl) (by kernel_rfl) (fun W' => (Below w.heap.size w W' ∧ W'.cell? ⟨(bS), (4), none⟩ = some (pv) ∧ aggAt W' 4 (bP) (0) = some (f.p.val) ∧ aggAt W' 4 (bV) (0) = some (u.val))) hS0 ?_); (have hSB : ∀ W' W'' : World, (Below w.heap.size w W' ∧ W'.cell? ⟨(bS), (4), none⟩ = some (pv) ∧ aggAt W' 4 (bP) (0) = some (f.p.val) ∧ aggAt W' 4 (bV) (0) = some (u.val)) → Below W'.heap.size W' W'' → (Below w.heap.size w W'' ∧ W''.cell? ⟨(bS), (4), none⟩ = some (pv) ∧ aggAt W'' 4 (bP) (0) = some (f.p.val) ∧ aggAt W'' 4 (bV) (0) = some (u.val)) := fun W' W'' ⟨h0, h1, h2, h3⟩ hb => ⟨h0.trans (hb.mono h0.size), cell_keep h1 hb, agg_keep h2 hb, agg_keep h3 hb⟩); (clear c4 pP4 pV4); (iterate 5 (refine chainF_opL (by rfl) (by rfl) ?_ ?_ ?_; rotate_left; (focus (intro W' hS' K hK; (try simp only [put_some, List.set] at hK); (have hS'' := hS'); (obtain ⟨s0, s1, s2, s3⟩ := hS''); go_simp; (exact hK); done)); (try simp only [put_some, List.set]))); (refine chainF_nil ?_))
     have HI5 := Lib.hid (And.intro (HI4.out.below (Below.refl _ X4).drew) (blk_below HV4.out (Below.refl _ X4).drew rfl))
     clear HI4 HV4 hB4
     generalize X4.drew = Y0 at *
     refine spine_opL (by rfl) (by rfl) (fun K hK => ?_)
     (try simp only [put_some, List.set] at hK)
     go_simp
     refine Calls.mono (refForm f.p u HP.out.2.1 _) ?_
     rintro e Y1 ⟨v, rfl, hv, hb⟩
     have HI6 := Lib.hid (And.intro (HI5.out.1.below hb) (blk_below HI5.out.2 hb rfl))
     have hS1 := hSB _ _ hS0 hb
     refine hK _ _ hS1 ?_
     clear hK K hb hS0 HI5 hv
     refine spine_opL (by rfl) (by rfl) (fun K hK => ?_)
     (try simp only [put_some, List.set] at hK)
     refine wp_build1E (.tmp 67) v rfl rfl ?_
     have hb := (Below.refl _ Y1).alloc (Nat.le_refl _) (.cells (eVals [v]).toArray 50)
     have hsv : Sees (Y1.alloc (.cells (eVals [v]).toArray 50)) (some ⟨Y1.heap.size, 0, none⟩) (eVals [v]) := (IsEsT.new (t := 50) Y1 [v] _ rfl).sees
     have HI7 := Lib.hid (And.intro (HI6.out.1.below hb) (And.intro (blk_below HI6.out.2 hb rfl) hsv))
     have hS2 := hSB _ _ hS1 hb
     refine hK _ _ hS2 ?_
     clear hK K hb hS1 HI6 hsv hSB hS2
     generalize Y1.heap.size = bn at *
     generalize Y1.alloc (.cells (eVals [v]).toArray 50) = Y2 at *
     refine spine_opL (by rfl) (by rfl) (fun K hK => ?_)
     (try simp only [put_some, List.set] at hK)
     refine wp_append_sees (.tmp 64) (.tmp 68) 24 rfl (bP + 1) 50 e0 _ 4 32 Tryz.underlying24 he0 ea0 ea1 ea2 rfl (by decide) pv k (eVals es) rfl ?c1 (some ⟨bn, 0, none⟩) 1 1 (eVals [v]) rfl (by rw [eVals_length]; rfl) HI7.out.2.2 (eVals_one _) ?c2 ?c3 HI7.out.1.T.2.2 (fun v' Y3 hown hg _ => ?_)
     case c1 =>
      have := HI7.out.1.O
      unfold OwnE at this
      rwa [HI7.out.1.C] at this
     case c2 => unfold maxLen; have := HLN.out; omega
     case c3 => have := HLN.out; omega
     have hov : OwnE Y3 (bP + 1) v' (es ++ [v]) := OwnE.grew HI7.out.1.C hown
     have hlo : ∀ j, pv.ownBlock = some j → bP + 1 ≤ j := fun j e => (HI7.out.1.O.lt j e).1
     have hT := HI7.out.1.T
     have hVlt := (Array.getElem?_eq_some_iff.1 HI7.out.2.1).1
     have gS3 : Y3.heap[bS]? = some (.cells #[.int .i64 h1, .int .i64 h2, .int .i64 h3, .int .i64 rl, pv] 26 (0, 0)) := (hg.block _ (by omega) (fun e => by have := hlo _ e.symm; omega)).trans HI7.out.1.S
     have gP3 := (hg.block bP (by omega) (fun e => by have := hlo _ e.symm; omega)).trans HI7.out.1.P
     have gV3 := (hg.block bV hVlt (fun e => by have := HOW.out bV e.symm; omega)).trans HI7.out.2.1
     have p4 : Y3.cell? ⟨bS, 4, none⟩ = some pv := row_cell (cs := [_, _, _, _, _]) gS3 4 rfl
     have f4 := row_frozen gS3 4
     have HR3 := Lib.hid (HI7.out.1.step HLN.out.2.2.2.1 HEE.out.1 hg hov)
     obtain ⟨Av, cv, hvv, -⟩ := hov.open
     rw [show (es ++ [v]).length = k + 1 from by rw [List.length_append, HI7.out.1.C]; rfl] at hvv
     refine hK _ _ ⟨HI7.out.1.B.grown hg HI7.out.1.B.size (fun j e => by have := hlo j e; omega), p4, agg_of_block gP3, agg_of_block gV3⟩ ?_
     clear hK K hown hg hov hlo hT hVlt gS3 gP3 gV3 HI7
     subst hvv
     refine spine_lastL (by rfl) (by rfl) (fun K hK => ?_)
     go_simp
     refine hK undef _ (fun h => by cases h) ?_
     rw [put_none]
     clear hK K p4 f4
     have hle : at0 + 64 ≤ 1073741824 := by have := HLN.out; omega
     go_wp2
     go_roundw
     case rel => exact ⟨k + 1, _, es ++ [v], by rw [HLN.out.1]; congr 1, HR3.out⟩
     case measure =>
      have := HLN.out
      simp [intOf]
      omega
    ·have hee9 : (ee != 0) = true := by simpa using h9
     have HE := Lib.hid (show recE l = ee from by
      rw [HR.out]
      have h1 : elsE f l (k + 1) ≠ 0 := by rw [HEL.out]; exact h9
      have h2 := elsE_stick f l (k + 1) h1 (n - (k + 1))
      rw [show k + 1 + (n - (k + 1)) = n from by have := HLN.out; omega, HEL.out] at h2
      rw [h2, if_pos h9])
     have HN9 := Lib.hid h9
     have gZ := HI4.out.Z
     have bZ := HI4.out.B
     have pZ := aggSh_of_block gZ rfl
     clear h9 gV4
     go_wp2_with fail
     exact end_ct Tryz.results9 rfl (atSh (aggSh_of_block (vec_put gZ rfl) rfl)) rfl ⟨⟨⟨0, 0, 0, 0, []⟩, none, 0⟩, by rw [HE.out]; rfl, (fun h => absurd (HE.out.symm.trans h) HN9.out), ownE_nil _ _, putAgg_below bZ (Nat.le_refl _)⟩
   ·obtain rfl : k = n := by omega
    have hE := HI.out.E
    have hR := HR.out
    rw [if_neg (fun h => h hE)] at hR
    obtain ⟨m, hm⟩ : ∃ m, 6 + 32 * k = m := ⟨_, rfl⟩
    rw [hm]
    have hNm : N = m + 32 := by omega
    have hm0 : 6 ≤ m := by omega
    have hmc : m ≤ cap := by omega
    have hlm : l.length - 32 = m := by omega
    have htl : (l.take m).length = m := by rw [List.length_take]; omega
    rw [hlm] at hR
    have hcmp : ¬ ((m : Int) < (m : Int)) := by omega
    clear hw32
    have hsub : IntKind.i64.wrap ((N : Int) - 32) = (m : Int) := by rw [IntKind.wrap_i64]; omega
    have hnb0 : ¬ (m : Int) < 0 := by omega
    have hcut := cut_h (some ⟨b, o, none⟩) N cap m hmc .i64
    have HBw := HI.out.B
    have pP := agg_of_block HI.out.P
    have HTg := Lib.hid (fun W (hW : Below w.heap.size w W) => refTagged (some ⟨b, o, none⟩) cap (l.take m) W (by
     have := (HS.out W hW).take m
     unfold byteVals at this ⊢
     rwa [← List.map_take] at this) (by omega))
    have hiff := tag_iff l m
    have hTl : (l.take m ++ sumL (l.take m)).length = N := by rw [List.length_append, sumL_length, htl, hNm]
    rw [htl] at HTg
    obtain ⟨T, hT⟩ : ∃ T, l.take m ++ sumL (l.take m) = T := ⟨_, rfl⟩
    rw [hT] at HTg hiff hTl
    have hconv : ∀ W', Below wr.heap.size wr W' → (convert 22 9 (.slice (some ⟨b, o, none⟩) N cap)).run Tryz.prog W' = .ok (.string (strB l)) W' := fun W' h => conv_strB l N hN1 (by omega) W' _ cap (HS.out W' (HBw.trans (h.mono HBw.size)))
    have HRR := Lib.hid (And.intro hR (And.intro hiff (And.intro hTl hN1)))
    have HBW := Lib.hid HBw
    have hN0 : N ≠ 0 := by omega
    clear hE hR hm hlm htl hiff hT hTl hN1 hN2 hN3 hN4 hN5 hkn hlt hNm hm0 hmc HBw
    go_wp2_with fail
    ((have hS0 : (Below wr.heap.size wr wr.drew ∧ aggAt wr.drew 4 (bP) (0) = some (f.p.val)) := ⟨((Below.refl _ wr)).drew, pP⟩); (refine region_free (by kernel_rfl) [5, 6, 9] [0, 1, 2, 3, 4, 7, 8] true (by kernel_rfl) (by kernel_rfl) (fun W' => (Below wr.heap.size wr W' ∧ aggAt W' 4 (bP) (0) = some (f.p.val))) hS0 ?_); (have hSB : ∀ W' W'' : World, (Below wr.heap.size wr W' ∧ aggAt W' 4 (bP) (0) = some (f.p.val)) → Below W'.heap.size W' W'' → (Below wr.heap.size wr W'' ∧ aggAt W'' 4 (bP) (0) = some (f.p.val)) := fun W' W'' ⟨h0, h1⟩ hb => ⟨h0.trans (hb.mono h0.size), agg_keep h1 hb⟩); (clear pP); (iterate 7 (refine chainF_opL (by rfl) (by rfl) ?_ ?_ ?_; rotate_left; (focus (intro W' hS' K hK; (try simp only [put_some, List.set] at hK); (have hS'' := hS'); (obtain ⟨s0, s1⟩ := hS''); (have e_0 := hconv W' s0); go_simp; (exact hK); done)); (try simp only [put_some, List.set]))); (refine chainF_nil ?_))
    have HI1 := Lib.hid (HI.out.below (Below.refl _ wr).drew)
    clear hconv hcut HI
    generalize wr.drew = V1 at *
    refine spine_opL (by rfl) (by rfl) (fun K hK => ?_)
    (try simp only [put_some, List.set] at hK)
    go_simp
    refine Calls.mono (HTg.out _ HI1.out.B) ?_
    rintro e V2 ⟨v, rfl, hov, hbq⟩
    obtain ⟨A', c', rfl, hc', hsv, -⟩ := hov.open
    rw [HRR.out.2.2.1]
    have hS1 := hSB _ _ hS0 hbq
    refine hK _ _ hS1 ?_
    have q2 := conv_strB T N HRR.out.2.2.1 hN0 V2 A' c' hsv
    have HI2 := Lib.hid (HI1.out.below hbq)
    clear hK K hov hc' hsv hbq hS0 hSB HI1
    refine spine_opL (by rfl) (by rfl) (fun K hK => ?_)
    (try simp only [put_some, List.set] at hK)
    go_simp
    refine hK _ _ hS1 ?_
    clear hK K q2
    have HRE := Lib.hid HRR.out.1
    have HIF := Lib.hid HRR.out.2.1
    clear HRR HR HTg
    by_cases ht : T = l
    ·have HE := Lib.hid (show recE l = 0 from by rw [HRE.out, if_pos (HIF.out.1 ht)])
     have q3 : ((strB T).toList == (strB l).toList) = true := by rw [strB_inj]; simpa using ht
     clear ht
     (refine spine_lastL (by rfl) (by rfl) (fun K hK => ?_); go_simp)
     refine hK _ _ (fun _ => hS1) ?_
     (try simp only [put_some, List.set])
     clear hK K q3 hS1
     obtain ⟨Ap, cp, hpv, hcp, hsp, -⟩ := HI2.out.O.open
     subst hpv
     have HES := Lib.hid (show es.length = k from HI2.out.C)
     have gS := HI2.out.S
     have pS := aggSh_of_block gS rfl
     have pZ := aggSh_of_block HI2.out.Z rfl
     clear hcp hsp HIF HRE
     go_wp2_with fail
     have hO := fun cs => (HI2.out.O.putAgg (b := w.heap.size) (o := 0) (by have := HI2.out.T; omega) cs).base_le (base' := w.heap.size) (by have := HI2.out.T; omega)
     exact end_ct Tryz.results9 rfl (atSh (aggSh_of_block (vec_put HI2.out.Z rfl) rfl)) rfl ⟨⟨⟨h1, h2, h3, rl, es⟩, Ap, cp⟩, by rw [HE.out]; rfl, (fun _ => ⟨rfl, rfl, rfl, rfl, HES.out⟩), hO _, putAgg_below HI2.out.B (Nat.le_refl _)⟩
    ·have HE := Lib.hid (show recE l = 13 from by rw [HRE.out, if_neg (fun h => ht (HIF.out.2 h))])
     have q3 : ((strB T).toList == (strB l).toList) = false := by rw [strB_inj]; simpa using ht
     clear ht
     (refine spine_lastL (by rfl) (by rfl) (fun K hK => ?_); go_simp)
     refine hK _ _ (fun _ => hS1) ?_
     (try simp only [put_some, List.set])
     clear hK K q3 hS1
     have gZ := HI2.out.Z
     have bZ := HI2.out.B
     have pZ := aggSh_of_block gZ rfl
     clear HIF HRE
     go_wp2_with fail
     exact end_ct Tryz.results9 rfl (atSh (aggSh_of_block (vec_put gZ rfl) rfl)) rfl ⟨⟨⟨0, 0, 0, 0, []⟩, none, 0⟩, by rw [HE.out]; rfl, (fun h => absurd (HE.out.symm.trans h) (by decide)), ownE_nil _ _, putAgg_below bZ (Nat.le_refl _)⟩
 ·rw [HR.out, if_pos h0]
  obtain ⟨ee, hee⟩ : ∃ ee, headE l = ee := ⟨_, rfl⟩
  rw [hee] at HH h0 ⊢
  have hne : (ee != 0) = true := by simpa using h0
  have HN := Lib.hid h0
  clear hs hl hcap hee h0 HR
  generalize l.length = n at *
  go_enter Tryz.func9, Tryz.ntmps9
  go_wp2_with fail
  (obtain ⟨W0, hW0⟩ : ∃ W0 : World, W0 = (w).alloc (.cells #[.int .i64 0, .int .i64 0, .int .i64 0, .int .i64 0, .slice none 0 0] 26) := ⟨_, rfl⟩); (have gW0 : ∀ (j : Nat) (o : Obj), ([Obj.cells #[.int .i64 0, .int .i64 0, .int .i64 0, .int .i64 0, .slice none 0 0] 26] : List Obj)[j]? = some o → W0.heap[w.heap.size + j]? = some o := by rw [hW0]; exact allocs_get w _); (have zW0 : W0.heap.size = w.heap.size + 1 := by rw [hW0]; exact allocs_size w [Obj.cells #[.int .i64 0, .int .i64 0, .int .i64 0, .int .i64 0, .slice none 0 0] 26]); (have bW0 : Below w.heap.size w W0 := by rw [hW0]; exact allocs_below w [Obj.cells #[.int .i64 0, .int .i64 0, .int .i64 0, .int .i64 0, .slice none 0 0] 26]); (rw [← hW0]); (clear hW0)
  have g0 : W0.heap[w.heap.size]? = some (.cells #[.int .i64 0, .int .i64 0, .int .i64 0, .int .i64 0, .slice none 0 0] 26 (0, 0)) := gW0 0 _ rfl
  refine (HH.out _ bW0).mono ?_
  rintro e w1 ⟨rfl, hb⟩
  have gZ := blk_below g0 hb rfl
  have hB := bW0.trans (hb.mono bW0.size)
  have pZ := aggSh_of_block gZ rfl
  clear g0 gW0 bW0 zW0 hb HH
  go_wp2_with fail
  exact end_ct Tryz.results9 rfl (atSh (aggSh_of_block (vec_put gZ rfl) rfl)) rfl ⟨⟨⟨0, 0, 0, 0, []⟩, none, 0⟩, rfl, (fun h => absurd h HN.out), ownE_nil _ _, putAgg_below hB (Nat.le_refl _)⟩
end Go.Proofs.YtccgfladbibjbaaGreatDoor
