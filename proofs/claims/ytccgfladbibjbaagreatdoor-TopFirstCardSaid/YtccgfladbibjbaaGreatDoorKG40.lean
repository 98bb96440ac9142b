/- sharecoretop.shares: true. -/
import Derived.Test.YtccgfladbibjbaaGreatDoorKG39
import Derived.Test.YtccgfladbibjbaaGreatDoorKG38
import Derived.Test.YtccgfladbibjbaaGreatDoorKG16
import Derived.Test.YtccgfladbibjbaaGreatDoorKG35
namespace Go.Proofs.YtccgfladbibjbaaGreatDoor
open Go.RowKit
attribute [local go_sem ↓] add_UU sub_UU mul_UU add_UL add_LU sub_UL sub_LU mul_UL neg_at not_at and_UU or_UU xor_UU andNot_UU and_UL or_LU shr_UL shl_UL shr_UN shl_UN shl_LN quo_UL rem_UL quo_UU rem_UU
attribute [local go_sem] wrap64_N wrapi_mod wrap8_U wrap32_U wrap64_B wrap32_B wrap8_D wrapi_B wrap64_UU eq_UU ne_UU eq_UL ne_UL lt_UU le_UU
attribute [local simp] putAgg_size
attribute [local go_sem ↓] loadVar_F loadVar_E loadVar_V loadVar_B32 storeVar_F storeVar_E storeVar_V storeVar_B32 box_F box_E box_V box_B32
attribute [local go_sem ↓ high] V4.cells_val FP.cells_val
attribute [local go_sem] run_loadF run_loadE run_loadV run_loadB32 run_storeF run_storeE run_storeV run_storeB32 run_boxA aggAt_drew aggAt_drewN aggAt_alloc_new aggAt_alloc_past aggAt_setCell_other aggAt_putAgg_other aggAt_putAgg_new putAgg_drew putAgg_size putAgg_alloc_new putAgg_alloc_past putAgg_cell_other putAgg_frozen_other V4.agg_arr FP.agg_arr V4.size_arr FP.size_arr V4.fits FP.fits fitsA_agg4 lt_2 ne_2 en_2 lt_3 ne_3 en_3 lt_4 ne_4 en_4 lt_5 ne_5 en_5 lt_6 ne_6 en_6
theorem rand_vals : byteVals randS = List.replicate 64 (Value.int .u8 0) := by kernel_rfl
theorem five_vals : byteVals [5#8] = [Value.int .u8 5] := by kernel_rfl
theorem make64 (w : World) : (Instr.makeSlice 22 (.int .i64 64) (.int .i64 64)).run Tryz.prog w = .ok (.slice (some ⟨w.heap.size, 0, none⟩) 64 64) (w.alloc (.cells (List.replicate 64 (Value.int .u8 0)).toArray 5)) := by
 obtain ⟨i0, hi0, hz0, hz1, hz2⟩ := info_parts info_u8
 have := run_make (P := Tryz.prog) w 22 5 i0 _ Tryz.underlying22 hi0 hz0 .i64 .i64 64 64 (by omega) (Int.le_refl _) (by rw [hz2]; decide) (by omega)
 rw [this, hz1]
 show Result.ok _ (w.alloc (.cells (madeCells #[.int .u8 0] (64 * 1)) 5)) = _
 rw [made_bytes, show byteVals (List.replicate (64 * 1) 0#8) = List.replicate 64 (Value.int .u8 0) from rand_vals]
 rfl
theorem splitS (W : World) (L : Laid W) (A1 A2 : Option Addr) (h1 : Sees W A1 [Value.int .u8 5]) (h2 : Sees W A2 (List.replicate 64 (Value.int .u8 0))) :
  Calls Tryz.prog 23 #[.pointer none, .agg #[.int .i64 1, .int .i64 2, .int .i64 3, .int .i64 0], .slice A1 1 1, .slice A2 64 64] W fun e w' => ∃ b bs, e = .returned (.tuple #[.slice (some ⟨b, 0, none⟩) 3 3, .int .i64 0]) ∧ SeesR w' (some ⟨b, 0, none⟩) bs ∧ bs.map BA.l = [encR (shS 1), encR (shS 2), encR (shS 3)] ∧ Below W.heap.size W w' := by
 have h := splitBytes ⟨1, 2, 3, 0⟩ A1 1 [5#8] A2 64 randS W L (by decide +kernel) (by decide +kernel) (by decide) (by decide) (by rw [five_vals]; exact h1) (by rw [rand_vals]; exact h2) (by
   show ∀ x ∈ sharesV qS [5#8] randS, _
   rw [sharesS]
   exact okS.ok)
 refine Calls.mono h ?_
 rintro e w' ⟨b, bs, rfl, hS, hm, hb⟩
 have hm' : bs.map BA.l = [encR (shS 1), encR (shS 2), encR (shS 3)] := by
  rw [hm]
  show (sharesV qS [5#8] randS).map encR = _
  rw [sharesS]
  rfl
 have hl : bs.length = 3 := by have := congrArg List.length hm'; rwa [List.length_map] at this
 exact ⟨b, bs, by rw [hl], hS, hm', hb⟩
theorem combS (W : World) (L : Laid W) (b : Nat) (bs : List BA) (hS : SeesR W (some ⟨b, 0, none⟩) bs) (hm : bs.map BA.l = [encR (shS 1), encR (shS 2), encR (shS 3)]) :
  Calls Tryz.prog 15 #[.pointer none, .slice (some ⟨b, 0, none⟩) 3 3] W fun e w' => ∃ A c, e = .returned (.tuple #[.slice A 1 c, .int .i64 0]) ∧ 1 ≤ c ∧ Sees w' A (byteVals [5#8]) ∧ Below W.heap.size W w' := by
 have hl : bs.length = 3 := by have := congrArg List.length hm; rwa [List.length_map] at this
 have hmem : ∀ x ∈ bs, ∃ k : Int, (1 ≤ k ∧ k ≤ 255) ∧ x.l = encR (shS k) := fun x hx => by
  have h := List.mem_map_of_mem (f := BA.l) hx
  rw [hm] at h
  simp only [List.mem_cons, List.not_mem_nil, or_false] at h
  rcases h with h | h | h
  ·exact ⟨1, by decide, h⟩
  ·exact ⟨2, by decide, h⟩
  ·exact ⟨3, by decide, h⟩
 have hlen : ∀ x ∈ bs, x.l.length = 70 := fun x hx => by obtain ⟨k, _, h⟩ := hmem x hx; rw [h, encR_length]; rfl
 have hrv : recsV bs = [shS 1, shS 2, shS 3] := by
  have e : recsV bs = (bs.map BA.l).map recS := by unfold recsV; rw [List.map_map]; rfl
  rw [e, hm]
  simp only [List.map_cons, List.map_nil]
  rw [(rec_back _ (checkS 1 (by decide))).2, (rec_back _ (checkS 2 (by decide))).2, (rec_back _ (checkS 3 (by decide))).2]
 have h := combineBytes (some ⟨b, 0, none⟩) 3 bs (by omega) (fun x hx => by rw [hlen x hx]; decide) (fun x hx => by obtain ⟨k, hk, h⟩ := hmem x hx; rw [h]; exact (rec_back _ (checkS k hk)).1) (by rw [hrv]; exact okS) W L hS
  (fun b' o e => by
   have := Sees.lt (e ▸ hS.1) (by rw [baVals_length]; omega)
   exact this)
  (fun x hx b' o e => by
   have h1 := (hS.2 x hx).1
   rw [e] at h1
   exact Sees.lt h1 (by rw [byteVals_length, hlen x hx]; decide))
 rw [hl, hrv, joinS.1, joinS.2] at h
 refine Calls.mono h ?_
 rintro e w' ⟨v, rfl, hv, hb⟩
 obtain ⟨A, c, rfl, hc, hs, -⟩ := hv.open
 exact ⟨A, c, rfl, hc, hs, hb⟩
structure SI (W1 : World) (D : Nat → Prop) (x2 x3 x7 x8 x9 x10 x11 x12 x13 : Value) (b : Nat) (bs : List BA) (W : World) : Prop where
 B : Below W1.heap.size W1 W
 F0 : D 0 → x8 = .agg #[.int .i64 1, .int .i64 2, .int .i64 3, .int .i64 0]
 F1 : D 1 → ∃ A, x9 = .slice A 1 1 ∧ Sees W A [Value.int .u8 5]
 F2 : D 2 → ∃ A, x10 = .slice A 64 64 ∧ Sees W A (List.replicate 64 (Value.int .u8 0))
 F3 : D 3 → x11 = .tuple #[.slice (some ⟨b, 0, none⟩) 3 3, .int .i64 0] ∧ SeesR W (some ⟨b, 0, none⟩) bs ∧ bs.map BA.l = [encR (shS 1), encR (shS 2), encR (shS 3)]
 F4 : D 4 → x7 = .tuple #[.slice (some ⟨b, 0, none⟩) 3 3, .int .i64 0]
 F5 : D 5 → x12 = .slice (some ⟨b, 0, none⟩) 3 3
 F6 : D 6 → x13 = .int .i64 0
 F7 : D 7 → x2 = .slice (some ⟨b, 0, none⟩) 3 3
 F8 : D 8 → x3 = .int .i64 0
 C4 : D 4 → D 3
 C5 : D 5 → D 3
 C7 : D 7 → D 3
theorem SI.later {W1 : World} {D : Nat → Prop} {x2 x3 x7 x8 x9 x10 x11 x12 x13 : Value} {b : Nat} {bs : List BA} {W W' : World} (h : SI W1 D x2 x3 x7 x8 x9 x10 x11 x12 x13 b bs W) (hb : Below W.heap.size W W') : SI W1 D x2 x3 x7 x8 x9 x10 x11 x12 x13 b bs W' :=
 ⟨h.B.trans (hb.mono h.B.size), h.F0, fun d => by obtain ⟨A, e, hs⟩ := h.F1 d; exact ⟨A, e, hs.below hb⟩, fun d => by obtain ⟨A, e, hs⟩ := h.F2 d; exact ⟨A, e, hs.below hb⟩, fun d => ⟨(h.F3 d).1, (h.F3 d).2.1.below hb, (h.F3 d).2.2⟩, h.F4, h.F5, h.F6, h.F7, h.F8, h.C4, h.C5, h.C7⟩
set_option maxRecDepth 20000 in
set_option maxHeartbeats 4000000 in
theorem topShares (w : World) (L : Laid w) : Calls Tryz.prog 7 #[] w fun e w' => e = .returned (.bool true) ∧ Below w.heap.size w w' := by
 have HL := Lib.hid (fun W (hW : Below w.heap.size w W) => L.to hW)
 clear L
 have hmk := make64
 go_enter Tryz.func7, Tryz.ntmps7
 go_upto_region 2 with (fail)
 (obtain ⟨W1, hW1⟩ : ∃ W0 : World, W0 = (w).alloc (.cells #[.int .i64 1, .int .i64 2, .int .i64 3, .int .i64 0] 48) := ⟨_, rfl⟩); (have gW1 : ∀ (j : Nat) (o : Obj), ([Obj.cells #[.int .i64 1, .int .i64 2, .int .i64 3, .int .i64 0] 48] : List Obj)[j]? = some o → W1.heap[w.heap.size + j]? = some o := by rw [hW1]; exact allocs_get w _); (have zW1 : W1.heap.size = w.heap.size + 1 := by rw [hW1]; exact allocs_size w [Obj.cells #[.int .i64 1, .int .i64 2, .int .i64 3, .int .i64 0] 48]); (have bW1 : Below w.heap.size w W1 := by rw [hW1]; exact allocs_below w [Obj.cells #[.int .i64 1, .int .i64 2, .int .i64 3, .int .i64 0] 48]); (rw [← hW1]); (clear hW1)
 have gP1 : W1.heap[w.heap.size]? = some _ := gW1 0 _ rfl
 clear gW1 zW1
 have HP := Lib.hid (fun X (hX : Below W1.heap.size W1 X) => show (X.cell? ⟨w.heap.size, 0, none⟩ = some (.int .i64 1) ∧ X.cell? ⟨w.heap.size, 1, none⟩ = some (.int .i64 2) ∧ X.cell? ⟨w.heap.size, 2, none⟩ = some (.int .i64 3) ∧ X.cell? ⟨w.heap.size, 3, none⟩ = some (.int .i64 0)) ∧ Below w.heap.size w X from ⟨pa_cells (blk_below gP1 hX rfl), bW1.trans (hX.mono bW1.size)⟩)
 clear gP1 bW1
 have hsz : ∀ (ls : Array Bool), ls.size = 9 → ∀ k, k < 9 → k < ls.size := fun ls h k hk => by omega
 refine region_inv (by kernel_rfl) (by kernel_rfl) (fun ls a W => ∃ (x2 x3 x7 x8 x9 x10 x11 x12 x13 : Value) (b : Nat) (bs : List BA), a = { tmps := #[.bool false, .pointer (some ⟨w.heap.size, 0, none⟩), x2, x3, undef, undef, .agg #[.int .i64 1, .int .i64 2, .int .i64 3, .int .i64 0], x7, x8, x9, x10, x11, x12, x13, undef, undef, undef, undef, undef, undef, undef, undef, undef, undef, undef, undef, undef, undef, undef, undef, undef, undef, undef, undef, undef], defers := [] } ∧ SI W1 (fun j => ls.getD j false = true) x2 x3 x7 x8 x9 x10 x11 x12 x13 b bs W) ⟨undef, undef, undef, undef, undef, undef, undef, undef, undef, 0, [], rfl, ⟨(Below.refl _ W1).drew, fun q => absurd q (by rw [getD_replicate_false]; decide), fun q => absurd q (by rw [getD_replicate_false]; decide), fun q => absurd q (by rw [getD_replicate_false]; decide), fun q => absurd q (by rw [getD_replicate_false]; decide), fun q => absurd q (by rw [getD_replicate_false]; decide), fun q => absurd q (by rw [getD_replicate_false]; decide), fun q => absurd q (by rw [getD_replicate_false]; decide), fun q => absurd q (by rw [getD_replicate_false]; decide), fun q => absurd q (by rw [getD_replicate_false]; decide), fun q => absurd q (by rw [getD_replicate_false]; decide), fun q => absurd q (by rw [getD_replicate_false]; decide), fun q => absurd q (by rw [getD_replicate_false]; decide)⟩⟩ ?step ?done
 case step =>
  rintro ls a W i o ⟨x2, x3, x7, x8, x9, x10, x11, x12, x13, b, bs, rfl, h⟩ hls ho hil hw
  have hls' : ls.size = 9 := hls
  match i, ho with
  | 0, ho =>
   injection ho with ho
   subst ho
   obtain ⟨⟨c0, c1, c2, c3⟩, _⟩ := HP.out W h.B
   refine stepV_none rfl (fun K hK => ?_)
   go_simp
   exact hK _ _ ⟨_, _, _, _, _, _, _, _, _, b, bs, rfl, ⟨h.B, fun _ => rfl, fun q => h.F1 ((done_set q).resolve_left (by decide)), fun q => h.F2 ((done_set q).resolve_left (by decide)), fun q => h.F3 ((done_set q).resolve_left (by decide)), fun q => h.F4 ((done_set q).resolve_left (by decide)), fun q => h.F5 ((done_set q).resolve_left (by decide)), fun q => h.F6 ((done_set q).resolve_left (by decide)), fun q => h.F7 ((done_set q).resolve_left (by decide)), fun q => h.F8 ((done_set q).resolve_left (by decide)), fun q => getD_set_true (h.C4 ((done_set q).resolve_left (by decide))), fun q => getD_set_true (h.C5 ((done_set q).resolve_left (by decide))), fun q => getD_set_true (h.C7 ((done_set q).resolve_left (by decide)))⟩⟩
  | 1, ho =>
   injection ho with ho
   subst ho
   refine stepV_none rfl (fun K hK => ?_)
   go_simp
   have h := h.later ((Below.refl _ W).alloc (Nat.le_refl _) (.cells #[.int .u8 5] 5))
   exact hK _ _ ⟨_, _, _, _, _, _, _, _, _, b, bs, rfl, ⟨h.B, fun q => h.F0 ((done_set q).resolve_left (by decide)), fun _ => ⟨_, rfl, row_sees (cs := [.int .u8 5]) (heap_alloc_new W _)⟩, fun q => h.F2 ((done_set q).resolve_left (by decide)), fun q => h.F3 ((done_set q).resolve_left (by decide)), fun q => h.F4 ((done_set q).resolve_left (by decide)), fun q => h.F5 ((done_set q).resolve_left (by decide)), fun q => h.F6 ((done_set q).resolve_left (by decide)), fun q => h.F7 ((done_set q).resolve_left (by decide)), fun q => h.F8 ((done_set q).resolve_left (by decide)), fun q => getD_set_true (h.C4 ((done_set q).resolve_left (by decide))), fun q => getD_set_true (h.C5 ((done_set q).resolve_left (by decide))), fun q => getD_set_true (h.C7 ((done_set q).resolve_left (by decide)))⟩⟩
  | 2, ho =>
   injection ho with ho
   subst ho
   have hmk2 := hmk W
   refine stepV_none rfl (fun K hK => ?_)
   go_simp
   have h := h.later ((Below.refl _ W).alloc (Nat.le_refl _) (.cells (List.replicate 64 (Value.int .u8 0)).toArray 5))
   exact hK _ _ ⟨_, _, _, _, _, _, _, _, _, b, bs, rfl, ⟨h.B, fun q => h.F0 ((done_set q).resolve_left (by decide)), fun q => h.F1 ((done_set q).resolve_left (by decide)), fun _ => ⟨_, rfl, row_sees (heap_alloc_new W _)⟩, fun q => h.F3 ((done_set q).resolve_left (by decide)), fun q => h.F4 ((done_set q).resolve_left (by decide)), fun q => h.F5 ((done_set q).resolve_left (by decide)), fun q => h.F6 ((done_set q).resolve_left (by decide)), fun q => h.F7 ((done_set q).resolve_left (by decide)), fun q => h.F8 ((done_set q).resolve_left (by decide)), fun q => getD_set_true (h.C4 ((done_set q).resolve_left (by decide))), fun q => getD_set_true (h.C5 ((done_set q).resolve_left (by decide))), fun q => getD_set_true (h.C7 ((done_set q).resolve_left (by decide)))⟩⟩
  | 3, ho =>
   injection ho with ho
   subst ho
   have d0 := getD_ft (hw 0 (by kernel_rfl)) (hsz ls hls' 0 (by decide))
   have d1 := getD_ft (hw 1 (by kernel_rfl)) (hsz ls hls' 1 (by decide))
   have d2 := getD_ft (hw 2 (by kernel_rfl)) (hsz ls hls' 2 (by decide))
   have e8 := h.F0 d0
   obtain ⟨A1, e9, hs1⟩ := h.F1 d1
   obtain ⟨A2, e10, hs2⟩ := h.F2 d2
   subst e8 e9 e10
   refine stepV_none rfl (fun K hK => ?_)
   go_simp
   refine (splitS W (HL.out W (HP.out W h.B).2) A1 A2 hs1 hs2).mono ?_
   rintro e W' ⟨b5, bs5, rfl, hS, hm, hb⟩
   have h := h.later hb
   exact hK _ _ ⟨_, _, _, _, _, _, _, _, _, b5, bs5, rfl, ⟨h.B, fun q => h.F0 ((done_set q).resolve_left (by decide)), fun q => h.F1 ((done_set q).resolve_left (by decide)), fun q => h.F2 ((done_set q).resolve_left (by decide)), fun _ => ⟨rfl, hS, hm⟩, fun q => absurd (h.C4 ((done_set q).resolve_left (by decide))) (getD_tf hil), fun q => absurd (h.C5 ((done_set q).resolve_left (by decide))) (getD_tf hil), fun q => h.F6 ((done_set q).resolve_left (by decide)), fun q => absurd (h.C7 ((done_set q).resolve_left (by decide))) (getD_tf hil), fun q => h.F8 ((done_set q).resolve_left (by decide)), fun q => getD_set_true (h.C4 ((done_set q).resolve_left (by decide))), fun q => getD_set_true (h.C5 ((done_set q).resolve_left (by decide))), fun q => getD_set_true (h.C7 ((done_set q).resolve_left (by decide)))⟩⟩
  | 4, ho =>
   injection ho with ho
   subst ho
   have d3 := getD_ft (hw 3 (by kernel_rfl)) (hsz ls hls' 3 (by decide))
   have e11 := (h.F3 d3).1
   subst e11
   refine stepV_none rfl (fun K hK => ?_)
   go_simp
   exact hK _ _ ⟨_, _, _, _, _, _, _, _, _, b, bs, rfl, ⟨h.B, fun q => h.F0 ((done_set q).resolve_left (by decide)), fun q => h.F1 ((done_set q).resolve_left (by decide)), fun q => h.F2 ((done_set q).resolve_left (by decide)), fun q => h.F3 ((done_set q).resolve_left (by decide)), fun _ => rfl, fun q => h.F5 ((done_set q).resolve_left (by decide)), fun q => h.F6 ((done_set q).resolve_left (by decide)), fun q => h.F7 ((done_set q).resolve_left (by decide)), fun q => h.F8 ((done_set q).resolve_left (by decide)), fun _ => getD_set_true d3, fun q => getD_set_true (h.C5 ((done_set q).resolve_left (by decide))), fun q => getD_set_true (h.C7 ((done_set q).resolve_left (by decide)))⟩⟩
  | 5, ho =>
   injection ho with ho
   subst ho
   have d4 := getD_ft (hw 4 (by kernel_rfl)) (hsz ls hls' 4 (by decide))
   have e7 := h.F4 d4
   subst e7
   refine stepV_none rfl (fun K hK => ?_)
   go_simp
   exact hK _ _ ⟨_, _, _, _, _, _, _, _, _, b, bs, rfl, ⟨h.B, fun q => h.F0 ((done_set q).resolve_left (by decide)), fun q => h.F1 ((done_set q).resolve_left (by decide)), fun q => h.F2 ((done_set q).resolve_left (by decide)), fun q => h.F3 ((done_set q).resolve_left (by decide)), fun q => h.F4 ((done_set q).resolve_left (by decide)), fun _ => rfl, fun q => h.F6 ((done_set q).resolve_left (by decide)), fun q => h.F7 ((done_set q).resolve_left (by decide)), fun q => h.F8 ((done_set q).resolve_left (by decide)), fun q => getD_set_true (h.C4 ((done_set q).resolve_left (by decide))), fun _ => getD_set_true (h.C4 d4), fun q => getD_set_true (h.C7 ((done_set q).resolve_left (by decide)))⟩⟩
  | 6, ho =>
   injection ho with ho
   subst ho
   have d4 := getD_ft (hw 4 (by kernel_rfl)) (hsz ls hls' 4 (by decide))
   have e7 := h.F4 d4
   subst e7
   refine stepV_none rfl (fun K hK => ?_)
   go_simp
   exact hK _ _ ⟨_, _, _, _, _, _, _, _, _, b, bs, rfl, ⟨h.B, fun q => h.F0 ((done_set q).resolve_left (by decide)), fun q => h.F1 ((done_set q).resolve_left (by decide)), fun q => h.F2 ((done_set q).resolve_left (by decide)), fun q => h.F3 ((done_set q).resolve_left (by decide)), fun q => h.F4 ((done_set q).resolve_left (by decide)), fun q => h.F5 ((done_set q).resolve_left (by decide)), fun _ => rfl, fun q => h.F7 ((done_set q).resolve_left (by decide)), fun q => h.F8 ((done_set q).resolve_left (by decide)), fun q => getD_set_true (h.C4 ((done_set q).resolve_left (by decide))), fun q => getD_set_true (h.C5 ((done_set q).resolve_left (by decide))), fun q => getD_set_true (h.C7 ((done_set q).resolve_left (by decide)))⟩⟩
  | 7, ho =>
   injection ho with ho
   subst ho
   have d5 := getD_ft (hw 5 (by kernel_rfl)) (hsz ls hls' 5 (by decide))
   have e12 := h.F5 d5
   subst e12
   refine stepV_none rfl (fun K hK => ?_)
   go_simp
   exact hK _ _ ⟨_, _, _, _, _, _, _, _, _, b, bs, rfl, ⟨h.B, fun q => h.F0 ((done_set q).resolve_left (by decide)), fun q => h.F1 ((done_set q).resolve_left (by decide)), fun q => h.F2 ((done_set q).resolve_left (by decide)), fun q => h.F3 ((done_set q).resolve_left (by decide)), fun q => h.F4 ((done_set q).resolve_left (by decide)), fun q => h.F5 ((done_set q).resolve_left (by decide)), fun q => h.F6 ((done_set q).resolve_left (by decide)), fun _ => rfl, fun q => h.F8 ((done_set q).resolve_left (by decide)), fun q => getD_set_true (h.C4 ((done_set q).resolve_left (by decide))), fun q => getD_set_true (h.C5 ((done_set q).resolve_left (by decide))), fun _ => getD_set_true (h.C5 d5)⟩⟩
  | 8, ho =>
   injection ho with ho
   subst ho
   have d6 := getD_ft (hw 6 (by kernel_rfl)) (hsz ls hls' 6 (by decide))
   have e13 := h.F6 d6
   subst e13
   refine stepV_none rfl (fun K hK => ?_)
   go_simp
   exact hK _ _ ⟨_, _, _, _, _, _, _, _, _, b, bs, rfl, ⟨h.B, fun q => h.F0 ((done_set q).resolve_left (by decide)), fun q => h.F1 ((done_set q).resolve_left (by decide)), fun q => h.F2 ((done_set q).resolve_left (by decide)), fun q => h.F3 ((done_set q).resolve_left (by decide)), fun q => h.F4 ((done_set q).resolve_left (by decide)), fun q => h.F5 ((done_set q).resolve_left (by decide)), fun q => h.F6 ((done_set q).resolve_left (by decide)), fun q => h.F7 ((done_set q).resolve_left (by decide)), fun _ => rfl, fun q => getD_set_true (h.C4 ((done_set q).resolve_left (by decide))), fun q => getD_set_true (h.C5 ((done_set q).resolve_left (by decide))), fun q => getD_set_true (h.C7 ((done_set q).resolve_left (by decide)))⟩⟩
  | k + 9, ho => cases ho
 case done =>
  rintro ls a W hall ⟨x2, x3, x7, x8, x9, x10, x11, x12, x13, b, bs, rfl, h⟩
  have e2 := h.F7 (hall 7 (by decide))
  have e3 := h.F8 (hall 8 (by decide))
  obtain ⟨_, hS, hm⟩ := h.F3 (hall 3 (by decide))
  have hBW := (HP.out W h.B).2
  subst e2 e3
  have HC := Lib.hid (combS W (HL.out W hBW) b bs hS hm)
  clear h hS hm hall HP hsz hmk
  dsimp only
  go_wp2_with fail
  refine HC.out.mono ?_
  rintro e W2 ⟨A, c, rfl, hc, hs, hb2⟩
  have HB2 := Lib.hid (And.intro (hBW.trans (hb2.mono hBW.size)) hs)
  clear HC hb2 hs hBW
  obtain ⟨W3, hW3⟩ : ∃ W3, W3 = W2.alloc (.cells #[.int .u8 5] 5) := ⟨_, rfl⟩
  have bW3 : Below W2.heap.size W2 W3 := by rw [hW3]; exact (Below.refl _ W2).alloc (Nat.le_refl _) _
  have s3 : Sees W3 (some ⟨W2.heap.size, 0, none⟩) (byteVals [5#8]) := by
   rw [hW3, five_vals]
   exact row_sees (cs := [.int .u8 5]) (heap_alloc_new W2 _)
  have HE := Lib.hid (bytesEq [5#8] A (some ⟨W2.heap.size, 0, none⟩) c 1 W3 (HB2.out.2.below bW3) s3)
  have HB3 := Lib.hid (HB2.out.1.trans (bW3.mono HB2.out.1.size))
  have HW3 := Lib.hid hW3
  clear bW3 s3 hW3 HB2
  go_wp2_with fail
  rw [← HW3.out]
  refine HE.out.mono ?_
  rintro e W4 ⟨rfl, rfl⟩
  go_wp2
  go_ret
  exact ⟨rfl, HB3.out⟩
end Go.Proofs.YtccgfladbibjbaaGreatDoor
