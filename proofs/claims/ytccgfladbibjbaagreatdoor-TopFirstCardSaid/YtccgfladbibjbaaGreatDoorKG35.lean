/- join.Values, join.Combine. -/
import Derived.Test.YtccgfladbibjbaaGreatDoorKG33
import Derived.Test.YtccgfladbibjbaaGreatDoorKG32
import Derived.Test.YtccgfladbibjbaaGreatDoorKG25
import Derived.Test.YtccgfladbibjbaaGreatDoorKG27
import Derived.Test.YtccgfladbibjbaaGreatDoorKG04
namespace Go.Proofs.YtccgfladbibjbaaGreatDoor
open Go.RowKit
attribute [local go_sem ↓] add_UU sub_UU mul_UU add_UL add_LU sub_UL sub_LU mul_UL neg_at not_at and_UU or_UU xor_UU andNot_UU and_UL or_LU shr_UL shl_UL shr_UN shl_UN shl_LN quo_UL rem_UL quo_UU rem_UU
attribute [local go_sem] wrap64_N wrapi_mod wrap8_U wrap32_U wrap64_B wrap32_B wrap8_D wrapi_B wrap64_UU eq_UU ne_UU eq_UL ne_UL lt_UU le_UU
attribute [local simp] putAgg_size
attribute [local go_sem ↓] loadVar_F loadVar_E loadVar_V loadVar_B32 storeVar_F storeVar_E storeVar_V storeVar_B32 box_F box_E box_V box_B32
attribute [local go_sem ↓ high] V4.cells_val FP.cells_val
attribute [local go_sem] run_loadF run_loadE run_loadV run_loadB32 run_storeF run_storeE run_storeV run_storeB32 run_boxA aggAt_drew aggAt_drewN aggAt_alloc_new aggAt_alloc_past aggAt_setCell_other aggAt_putAgg_other aggAt_putAgg_new putAgg_drew putAgg_size putAgg_alloc_new putAgg_alloc_past putAgg_cell_other putAgg_frozen_other V4.agg_arr FP.agg_arr V4.size_arr FP.size_arr V4.fits FP.fits fitsA_agg4 lt_2 ne_2 en_2 lt_3 ne_3 en_3 lt_4 ne_4 en_4 lt_5 ne_5 en_5 lt_6 ne_6 en_6
theorem SeesS.take {w : World} {R : Option Addr} {l : List ShA} (h : SeesS w R l) (t : Nat) : SeesS w R (l.take t) := by
 refine ⟨?_, fun x hx => h.2 x (List.mem_of_mem_take hx)⟩
 have e : shVals l = shVals (l.take t) ++ shVals (l.drop t) := by rw [← shVals_append, List.take_append_drop]
 have := h.1.take ((shVals (l.take t)).length)
 rwa [e, List.take_left] at this
def joinVals (f : FP) (m : Nat) (l : List ShA) : List V4 := valsV f (zeroC f (idxs l)) l m
theorem okPts_idxs {l : List ShA} (hok : ∀ x ∈ l, checkE x.s = 0) (hnd : (l.map fun x => x.s.idx).Nodup) : okPts (idxs l) := by
 have hl : (idxs l).length = l.length := by simp [idxs]
 refine ⟨fun j hj => ?_, fun j k hj hk e => ?_⟩
 ·rw [hl] at hj
  rw [idxs_at l j hj]
  exact (checkE_ok (hok _ (List.getElem_mem hj))).2.2.1
 ·rw [hl] at hj hk
  rcases Nat.lt_trichotomy j k with h | h | h
  ·exact absurd e (idxs_ne hnd j k h hk)
  ·exact h
  ·exact absurd e.symm (idxs_ne hnd k j h hj)
structure VI (f : FP) (R : Option Addr) (t cap : Nat) (is : List Int) (zl : List V4) (W2 : World) (D : Nat → Prop) (x8 x18 x19 x20 x21 x22 x23 x24 x25 : Value) (bz b8 : Nat) (W : World) : Prop where
 B : Below W2.heap.size W2 W
 F0 : D 0 → x19 = .pointer none
 F1 : D 1 → x20 = f.val
 F2 : D 2 → x21 = .slice R t cap
 F3 : D 3 → ∃ Ai ci, x22 = .slice Ai t ci ∧ (¬ D 4 → Sees W Ai (iVals is))
 F4 : D 4 → x23 = .tuple #[.slice (some ⟨bz, 0, none⟩) t t, .int .i64 0] ∧ IsEs W bz zl
 F5 : D 5 → x18 = .tuple #[.slice (some ⟨bz, 0, none⟩) t t, .int .i64 0]
 F6 : D 6 → x24 = .slice (some ⟨bz, 0, none⟩) t t
 F7 : D 7 → x25 = .int .i64 0
 F8 : D 8 → x8 = .pointer (some ⟨b8, 0, none⟩) ∧ W2.heap.size ≤ b8
 F8n : D 8 → ¬ D 9 → W.heap[b8]? = some (.cells #[.slice none 0 0] 24 (0, 0))
 F9 : D 9 → W.heap[b8]? = some (.cells #[.slice (some ⟨bz, 0, none⟩) t t] 24 (0, 0))
 C5 : D 5 → D 4
 C6 : D 6 → D 4
 C9 : D 9 → D 4 ∧ D 8
theorem VI.later {f : FP} {R : Option Addr} {t cap : Nat} {is : List Int} {zl : List V4} {W2 : World} {D : Nat → Prop} {x8 x18 x19 x20 x21 x22 x23 x24 x25 : Value} {bz b8 : Nat} {W W' : World} (h : VI f R t cap is zl W2 D x8 x18 x19 x20 x21 x22 x23 x24 x25 bz b8 W) (hb : Below W.heap.size W W') : VI f R t cap is zl W2 D x8 x18 x19 x20 x21 x22 x23 x24 x25 bz b8 W' :=
 ⟨h.B.trans (hb.mono h.B.size), h.F0, h.F1, h.F2, fun d => by obtain ⟨A, c, e, hs⟩ := h.F3 d; exact ⟨A, c, e, fun n => (hs n).below hb⟩, fun d => ⟨(h.F4 d).1, (h.F4 d).2.below hb⟩, h.F5, h.F6, h.F7, h.F8, fun d n => blk_below (h.F8n d n) hb rfl, fun d => blk_below (h.F9 d) hb rfl, h.C5, h.C6, h.C9⟩
theorem done_self {ls : Array Bool} {i : Nat} (h : i < ls.size) : (ls.setIfInBounds i true).getD i false = true := by
 rw [Array.getD_eq_getD_getElem?, Array.getElem?_setIfInBounds_self]
 simp [h]
theorem getD_ft {ls : Array Bool} {k : Nat} (h : ls.getD k true = true) (hk : k < ls.size) : ls.getD k false = true := by
 rw [Array.getD_eq_getD_getElem?, Array.getElem?_eq_getElem hk] at h ⊢
 exact h
theorem getD_tf {ls : Array Bool} {k : Nat} (h : ls.getD k true = false) : ¬ ls.getD k false = true := by
 intro e
 rw [Array.getD_eq_getD_getElem?] at h e
 cases hq : ls[k]? with
 | none => rw [hq] at h; cases h
 | some b => rw [hq] at h e; simp at h e; rw [h] at e; cases e
set_option maxRecDepth 100000 in
set_option maxHeartbeats 4000000 in
theorem values (R : Option Addr) (cap : Nat) (x0 : ShA) (l : List ShA) (t : Nat) (hok : OkShs ((x0 :: l).map ShA.s)) (ht : x0.s.thr = t) (hn : (x0 :: l).length ≤ 1048576) (hcap : (x0 :: l).length ≤ cap) (w : World) (L : Laid w) (hS : SeesS w R (x0 :: l)) :
  Calls Tryz.prog 21 #[.pointer none, .slice R (x0 :: l).length cap] w fun e w' => ∃ v, e = .returned (.tuple #[v, .int .i64 0]) ∧ OwnE w' w.heap.size v (joinVals (getF x0.s.field) (cnt x0.s.len) ((x0 :: l).take t)) ∧ Below w.heap.size w w' := by
 have hck : ∀ x ∈ x0 :: l, checkE x.s = 0 := fun x hx => hok.ok _ (List.mem_map_of_mem hx)
 have hp : ∀ x ∈ x0 :: l, x.s.pay.length = cnt x0.s.len := fun x hx => by
  rw [(checkE_ok (hck x hx)).2.2.2.2.1]
  have := hok.same _ (List.mem_map_of_mem hx) x0.s (by simp)
  unfold Sh.head at this
  simp only [Prod.mk.injEq] at this
  rw [this.2.2]
 have hcl := cnt_le x0.s.len
 have hthr := (checkE_ok (hck x0 (by simp))).2.1
 have htl : t ≤ (x0 :: l).length := by have := hok.few x0.s (by simp); rw [ht, List.length_map] at this; omega
 have hnd : ((x0 :: l).map fun x => x.s.idx).Nodup := by have := hok.nodup; rwa [List.map_map] at this
 have HU := Lib.hid (fun W (hW : Below w.heap.size w W) => used R cap x0 l t hok ht (fun x hx => by rw [hp x hx]; omega) hn hcap W (L.to hW) (hS.below hW))
 obtain ⟨f, hf⟩ : ∃ f, getF x0.s.field = f := ⟨_, rfl⟩
 rw [hf] at HU ⊢
 obtain ⟨m, hm⟩ : ∃ m, cnt x0.s.len = m := ⟨_, rfl⟩
 rw [hm] at hcl hp ⊢
 obtain ⟨y, hy⟩ : ∃ y, (x0 :: l).take t = y := ⟨_, rfl⟩
 have hyl : y.length = t := by rw [← hy, List.length_take]; omega
 have hymem : ∀ x ∈ y, x ∈ x0 :: l := fun x hx => by rw [← hy] at hx; exact List.mem_of_mem_take hx
 have hynd : (y.map fun x => x.s.idx).Nodup := by
  rw [← hy, List.map_take]
  exact hnd.sublist (List.take_sublist _ _)
 have HS := Lib.hid (fun W (hW : Below w.heap.size w W) => show SeesS W R y from by rw [← hy]; exact (hS.below hW).take t)
 have hpt : okPts (idxs y) := okPts_idxs (fun x hx => hck x (hymem x hx)) hynd
 have hil : (idxs y).length = t := by simp [idxs, hyl]
 have HI := Lib.hid (fun W (hW : Below w.heap.size w W) => indices R cap y (by omega) W (HS.out W hW).1)
 rw [hyl] at HI
 have HZ := Lib.hid (fun W (A : Option Addr) (c : Nat) (hA : Sees W A (iVals (idxs y))) => lagZero f A c (idxs y) (by omega) (by omega) hpt W hA)
 rw [hil] at HZ
 have hzl : (zeroC f (idxs y)).length = t := by unfold zeroC; rw [zeT_length, weights_length, hil]
 obtain ⟨zl, hzz⟩ : ∃ zl, zeroC f (idxs y) = zl := ⟨_, rfl⟩
 rw [hzz] at HZ hzl
 have HE := Lib.hid (fun W (hW : Below w.heap.size w W) (bT bF bZ : Nat) (Z : Option Addr) (zc : Nat) h1 h2 h3 h4 => each f bT bF bZ Z R zc cap zl y m (by omega) (by rw [hzl, hyl]) (fun x hx => hp x (hymem x hx)) (by omega) (by omega) W h1 h2 h3 h4 (HS.out W hW))
 rw [hzl, hyl] at HE
 have HJ := Lib.hid (show joinVals f m y = valsV f zl y m from by unfold joinVals; rw [hzz])
 rw [hy, HJ.out]
 obtain ⟨vv, hvv⟩ : ∃ vv, valsV f zl y m = vv := ⟨_, rfl⟩
 rw [hvv] at HE ⊢
 clear hS L hok hck hp hnd hf hm hy hymem hynd hpt hil hzz HJ hvv hyl hzl ht hthr
 generalize (x0 :: l).length = n at *
 go_enter Tryz.func21, Tryz.ntmps21
 go_wp2_with fail
 (obtain ⟨W0, hW0⟩ : ∃ W0 : World, W0 = (w).alloc (.cells #[.pointer none] 82) := ⟨_, rfl⟩); (have gW0 : ∀ (j : Nat) (o : Obj), ([Obj.cells #[.pointer none] 82] : List Obj)[j]? = some o → W0.heap[w.heap.size + j]? = some o := by rw [hW0]; exact allocs_get w _); (have zW0 : W0.heap.size = w.heap.size + 1 := by rw [hW0]; exact allocs_size w [Obj.cells #[.pointer none] 82]); (have bW0 : Below w.heap.size w W0 := by rw [hW0]; exact allocs_below w [Obj.cells #[.pointer none] 82]); (rw [← hW0]); (clear hW0)
 have gT0 : W0.heap[w.heap.size]? = some _ := gW0 0 _ rfl
 clear gW0
 refine (HU.out W0 bW0).mono ?_
 rintro e w1 ⟨rfl, hb1⟩
 have gT1 := blk_below gT0 hb1 rfl
 have bW1 := bW0.trans (hb1.mono bW0.size)
 clear gT0 hb1 bW0 zW0 HU
 go_upto_region 4 with (fail)
 (obtain ⟨W2, hW2⟩ : ∃ W0 : World, W0 = (w1).alloc (.cells f.arr 67) := ⟨_, rfl⟩); (have gW2 : ∀ (j : Nat) (o : Obj), ([Obj.cells f.arr 67] : List Obj)[j]? = some o → W2.heap[w1.heap.size + j]? = some o := by rw [hW2]; exact allocs_get w1 _); (have zW2 : W2.heap.size = w1.heap.size + 1 := by rw [hW2]; exact allocs_size w1 [Obj.cells f.arr 67]); (have bW2 : Below w1.heap.size w1 W2 := by rw [hW2]; exact allocs_below w1 [Obj.cells f.arr 67]); (rw [← hW2]); (clear hW2)
 have gF2 : W2.heap[w1.heap.size]? = some _ := gW2 0 _ rfl
 have gT2 := blk_below gT1 bW2 rfl
 have bW2' := bW1.trans (bW2.mono bW1.size)
 have HW := Lib.hid (fun X (hX : Below W2.heap.size W2 X) => show X.cell? ⟨w.heap.size, 0, none⟩ = some (.pointer none) ∧ aggAt X 14 w1.heap.size 0 = some f.val ∧ Below w.heap.size w X from ⟨cell_of_block (blk_below gT2 hX rfl), aggF_of_block (blk_below gF2 hX rfl), bW2'.trans (hX.mono bW2'.size)⟩)
 -- the region
 have HG := Lib.hid (And.intro gT2 (And.intro gF2 bW2'))
 clear gW2 zW2 gT1 gT2 gF2 bW1 bW2 bW2'
 have hsz : ∀ (ls : Array Bool), ls.size = 11 → ∀ k, k < 11 → k < ls.size := fun ls h k hk => by omega
 refine region_inv (by kernel_rfl) (by kernel_rfl) (fun ls a W => ∃ (x8 x18 x19 x20 x21 x22 x23 x24 x25 : Value) (bz b8 : Nat), a = { tmps := #[.pointer none, .slice R t cap, .pointer (some ⟨w.heap.size, 0, none⟩), undef, .slice none 0 0, .int .i64 0, .pointer (some ⟨w1.heap.size, 0, none⟩), .int .i64 0, x8, .tuple #[f.val, .slice R t cap, .int .i64 0], .slice R n cap, .tuple #[f.val, .slice R t cap, .int .i64 0], f.val, .slice R t cap, .int .i64 0, .int .i64 0, .bool false, undef, x18, x19, x20, x21, x22, x23, x24, x25, undef, undef, undef, undef, undef, undef, undef, undef, undef], defers := [] } ∧ VI f R t cap (idxs y) zl W2 (fun j => ls.getD j false = true) x8 x18 x19 x20 x21 x22 x23 x24 x25 bz b8 W) ⟨undef, undef, undef, undef, undef, undef, undef, undef, undef, 0, 0, rfl, ⟨(Below.refl _ W2).drew, fun q => absurd q (by rw [getD_replicate_false]; decide), fun q => absurd q (by rw [getD_replicate_false]; decide), fun q => absurd q (by rw [getD_replicate_false]; decide), fun q => absurd q (by rw [getD_replicate_false]; decide), fun q => absurd q (by rw [getD_replicate_false]; decide), fun q => absurd q (by rw [getD_replicate_false]; decide), fun q => absurd q (by rw [getD_replicate_false]; decide), fun q => absurd q (by rw [getD_replicate_false]; decide), fun q => absurd q (by rw [getD_replicate_false]; decide), fun q _ => absurd q (by rw [getD_replicate_false]; decide), fun q => absurd q (by rw [getD_replicate_false]; decide), fun q => absurd q (by rw [getD_replicate_false]; decide), fun q => absurd q (by rw [getD_replicate_false]; decide), fun q => absurd q (by rw [getD_replicate_false]; decide)⟩⟩ ?step ?done
 case step =>
  rintro ls a W i o ⟨x8, x18, x19, x20, x21, x22, x23, x24, x25, bz, b8, rfl, h⟩ hls ho hil hw
  have hls' : ls.size = 11 := hls
  match i, ho with
  | 0, ho =>
   injection ho with ho
   subst ho
   have p := (HW.out W h.B).1
   refine stepV_none rfl (fun K hK => ?_)
   go_simp
   exact hK _ _ ⟨_, _, _, _, _, _, _, _, _, bz, b8, rfl, ⟨h.B, fun _ => rfl, fun q => h.F1 ((done_set q).resolve_left (by decide)), fun q => h.F2 ((done_set q).resolve_left (by decide)), fun q => by obtain ⟨A, c, e, hs⟩ := h.F3 ((done_set q).resolve_left (by decide)); exact ⟨A, c, e, fun n => hs fun m => n (getD_set_true m)⟩, fun q => h.F4 ((done_set q).resolve_left (by decide)), fun q => h.F5 ((done_set q).resolve_left (by decide)), fun q => h.F6 ((done_set q).resolve_left (by decide)), fun q => h.F7 ((done_set q).resolve_left (by decide)), fun q => h.F8 ((done_set q).resolve_left (by decide)), fun q n => h.F8n ((done_set q).resolve_left (by decide)) fun m => n (getD_set_true m), fun q => h.F9 ((done_set q).resolve_left (by decide)), fun q => getD_set_true (h.C5 ((done_set q).resolve_left (by decide))), fun q => getD_set_true (h.C6 ((done_set q).resolve_left (by decide))), fun q => by have c := h.C9 ((done_set q).resolve_left (by decide)); exact ⟨getD_set_true c.1, getD_set_true c.2⟩⟩⟩
  | 1, ho =>
   injection ho with ho
   subst ho
   have p := (HW.out W h.B).2.1
   refine stepV_none rfl (fun K hK => ?_)
   go_simp
   exact hK _ _ ⟨_, _, _, _, _, _, _, _, _, bz, b8, rfl, ⟨h.B, fun q => h.F0 ((done_set q).resolve_left (by decide)), fun _ => rfl, fun q => h.F2 ((done_set q).resolve_left (by decide)), fun q => by obtain ⟨A, c, e, hs⟩ := h.F3 ((done_set q).resolve_left (by decide)); exact ⟨A, c, e, fun n => hs fun m => n (getD_set_true m)⟩, fun q => h.F4 ((done_set q).resolve_left (by decide)), fun q => h.F5 ((done_set q).resolve_left (by decide)), fun q => h.F6 ((done_set q).resolve_left (by decide)), fun q => h.F7 ((done_set q).resolve_left (by decide)), fun q => h.F8 ((done_set q).resolve_left (by decide)), fun q n => h.F8n ((done_set q).resolve_left (by decide)) fun m => n (getD_set_true m), fun q => h.F9 ((done_set q).resolve_left (by decide)), fun q => getD_set_true (h.C5 ((done_set q).resolve_left (by decide))), fun q => getD_set_true (h.C6 ((done_set q).resolve_left (by decide))), fun q => by have c := h.C9 ((done_set q).resolve_left (by decide)); exact ⟨getD_set_true c.1, getD_set_true c.2⟩⟩⟩
  | 2, ho =>
   injection ho with ho
   subst ho
   refine stepV_none rfl (fun K hK => ?_)
   go_simp
   exact hK _ _ ⟨_, _, _, _, _, _, _, _, _, bz, b8, rfl, ⟨h.B, fun q => h.F0 ((done_set q).resolve_left (by decide)), fun q => h.F1 ((done_set q).resolve_left (by decide)), fun _ => rfl, fun q => by obtain ⟨A, c, e, hs⟩ := h.F3 ((done_set q).resolve_left (by decide)); exact ⟨A, c, e, fun n => hs fun m => n (getD_set_true m)⟩, fun q => h.F4 ((done_set q).resolve_left (by decide)), fun q => h.F5 ((done_set q).resolve_left (by decide)), fun q => h.F6 ((done_set q).resolve_left (by decide)), fun q => h.F7 ((done_set q).resolve_left (by decide)), fun q => h.F8 ((done_set q).resolve_left (by decide)), fun q n => h.F8n ((done_set q).resolve_left (by decide)) fun m => n (getD_set_true m), fun q => h.F9 ((done_set q).resolve_left (by decide)), fun q => getD_set_true (h.C5 ((done_set q).resolve_left (by decide))), fun q => getD_set_true (h.C6 ((done_set q).resolve_left (by decide))), fun q => by have c := h.C9 ((done_set q).resolve_left (by decide)); exact ⟨getD_set_true c.1, getD_set_true c.2⟩⟩⟩
  | 3, ho =>
   injection ho with ho
   subst ho
   have d2 := getD_ft (hw 2 (by kernel_rfl)) (hsz ls hls' 2 (by decide))
   have e21 := h.F2 d2
   subst e21
   refine stepV_none rfl (fun K hK => ?_)
   go_simp
   refine (HI.out W (HW.out W h.B).2.2).mono ?_
   rintro e W' ⟨v, rfl, hv, hb⟩
   obtain ⟨Ai, ci, rfl, _, hse, _⟩ := owns_open hv
   have h := h.later hb
   exact hK _ _ ⟨_, _, _, _, _, _, _, _, _, bz, b8, rfl, ⟨h.B, fun q => h.F0 ((done_set q).resolve_left (by decide)), fun q => h.F1 ((done_set q).resolve_left (by decide)), fun q => h.F2 ((done_set q).resolve_left (by decide)), fun _ => ⟨Ai, ci, rfl, fun _ => hse⟩, fun q => h.F4 ((done_set q).resolve_left (by decide)), fun q => h.F5 ((done_set q).resolve_left (by decide)), fun q => h.F6 ((done_set q).resolve_left (by decide)), fun q => h.F7 ((done_set q).resolve_left (by decide)), fun q => h.F8 ((done_set q).resolve_left (by decide)), fun q n => h.F8n ((done_set q).resolve_left (by decide)) fun m => n (getD_set_true m), fun q => h.F9 ((done_set q).resolve_left (by decide)), fun q => getD_set_true (h.C5 ((done_set q).resolve_left (by decide))), fun q => getD_set_true (h.C6 ((done_set q).resolve_left (by decide))), fun q => by have c := h.C9 ((done_set q).resolve_left (by decide)); exact ⟨getD_set_true c.1, getD_set_true c.2⟩⟩⟩
  | 4, ho =>
   injection ho with ho
   subst ho
   have d0 := getD_ft (hw 0 (by kernel_rfl)) (hsz ls hls' 0 (by decide))
   have d1 := getD_ft (hw 1 (by kernel_rfl)) (hsz ls hls' 1 (by decide))
   have d3 := getD_ft (hw 3 (by kernel_rfl)) (hsz ls hls' 3 (by decide))
   have e19 := h.F0 d0
   have e20 := h.F1 d1
   obtain ⟨Ai, ci, e22, hse⟩ := h.F3 d3
   have hse := hse (getD_tf hil)
   subst e19 e20 e22
   refine stepV_none rfl (fun K hK => ?_)
   go_simp
   refine (HZ.out W Ai ci hse).mono ?_
   rintro e W' ⟨b5, rfl, hb5, hE, hb⟩
   have h := h.later hb
   exact hK _ _ ⟨_, _, _, _, _, _, _, _, _, b5, b8, rfl, ⟨h.B, fun q => h.F0 ((done_set q).resolve_left (by decide)), fun q => h.F1 ((done_set q).resolve_left (by decide)), fun q => h.F2 ((done_set q).resolve_left (by decide)), fun _ => ⟨Ai, ci, rfl, fun n => absurd (done_self (hsz ls hls' 4 (by decide))) n⟩, fun _ => ⟨rfl, hE⟩, fun q => absurd (h.C5 ((done_set q).resolve_left (by decide))) (getD_tf hil), fun q => absurd (h.C6 ((done_set q).resolve_left (by decide))) (getD_tf hil), fun q => h.F7 ((done_set q).resolve_left (by decide)), fun q => h.F8 ((done_set q).resolve_left (by decide)), fun q n => h.F8n ((done_set q).resolve_left (by decide)) fun m => n (getD_set_true m), fun q => absurd (h.C9 ((done_set q).resolve_left (by decide))).1 (getD_tf hil), fun q => getD_set_true (h.C5 ((done_set q).resolve_left (by decide))), fun q => getD_set_true (h.C6 ((done_set q).resolve_left (by decide))), fun q => by have c := h.C9 ((done_set q).resolve_left (by decide)); exact ⟨getD_set_true c.1, getD_set_true c.2⟩⟩⟩
  | 5, ho =>
   injection ho with ho
   subst ho
   have d4 := getD_ft (hw 4 (by kernel_rfl)) (hsz ls hls' 4 (by decide))
   obtain ⟨e23, hE⟩ := h.F4 d4
   subst e23
   refine stepV_none rfl (fun K hK => ?_)
   go_simp
   exact hK _ _ ⟨_, _, _, _, _, _, _, _, _, bz, b8, rfl, ⟨h.B, fun q => h.F0 ((done_set q).resolve_left (by decide)), fun q => h.F1 ((done_set q).resolve_left (by decide)), fun q => h.F2 ((done_set q).resolve_left (by decide)), fun q => by obtain ⟨A, c, e, hs⟩ := h.F3 ((done_set q).resolve_left (by decide)); exact ⟨A, c, e, fun n => hs fun m => n (getD_set_true m)⟩, fun q => h.F4 ((done_set q).resolve_left (by decide)), fun _ => rfl, fun q => h.F6 ((done_set q).resolve_left (by decide)), fun q => h.F7 ((done_set q).resolve_left (by decide)), fun q => h.F8 ((done_set q).resolve_left (by decide)), fun q n => h.F8n ((done_set q).resolve_left (by decide)) fun m => n (getD_set_true m), fun q => h.F9 ((done_set q).resolve_left (by decide)), fun _ => getD_set_true d4, fun q => getD_set_true (h.C6 ((done_set q).resolve_left (by decide))), fun q => by have c := h.C9 ((done_set q).resolve_left (by decide)); exact ⟨getD_set_true c.1, getD_set_true c.2⟩⟩⟩
  | 6, ho =>
   injection ho with ho
   subst ho
   have d5 := getD_ft (hw 5 (by kernel_rfl)) (hsz ls hls' 5 (by decide))
   have e18 := h.F5 d5
   subst e18
   refine stepV_none rfl (fun K hK => ?_)
   go_simp
   exact hK _ _ ⟨_, _, _, _, _, _, _, _, _, bz, b8, rfl, ⟨h.B, fun q => h.F0 ((done_set q).resolve_left (by decide)), fun q => h.F1 ((done_set q).resolve_left (by decide)), fun q => h.F2 ((done_set q).resolve_left (by decide)), fun q => by obtain ⟨A, c, e, hs⟩ := h.F3 ((done_set q).resolve_left (by decide)); exact ⟨A, c, e, fun n => hs fun m => n (getD_set_true m)⟩, fun q => h.F4 ((done_set q).resolve_left (by decide)), fun q => h.F5 ((done_set q).resolve_left (by decide)), fun _ => rfl, fun q => h.F7 ((done_set q).resolve_left (by decide)), fun q => h.F8 ((done_set q).resolve_left (by decide)), fun q n => h.F8n ((done_set q).resolve_left (by decide)) fun m => n (getD_set_true m), fun q => h.F9 ((done_set q).resolve_left (by decide)), fun q => getD_set_true (h.C5 ((done_set q).resolve_left (by decide))), fun _ => getD_set_true (h.C5 d5), fun q => by have c := h.C9 ((done_set q).resolve_left (by decide)); exact ⟨getD_set_true c.1, getD_set_true c.2⟩⟩⟩
  | 7, ho =>
   injection ho with ho
   subst ho
   have d5 := getD_ft (hw 5 (by kernel_rfl)) (hsz ls hls' 5 (by decide))
   have e18 := h.F5 d5
   subst e18
   refine stepV_none rfl (fun K hK => ?_)
   go_simp
   exact hK _ _ ⟨_, _, _, _, _, _, _, _, _, bz, b8, rfl, ⟨h.B, fun q => h.F0 ((done_set q).resolve_left (by decide)), fun q => h.F1 ((done_set q).resolve_left (by decide)), fun q => h.F2 ((done_set q).resolve_left (by decide)), fun q => by obtain ⟨A, c, e, hs⟩ := h.F3 ((done_set q).resolve_left (by decide)); exact ⟨A, c, e, fun n => hs fun m => n (getD_set_true m)⟩, fun q => h.F4 ((done_set q).resolve_left (by decide)), fun q => h.F5 ((done_set q).resolve_left (by decide)), fun q => h.F6 ((done_set q).resolve_left (by decide)), fun _ => rfl, fun q => h.F8 ((done_set q).resolve_left (by decide)), fun q n => h.F8n ((done_set q).resolve_left (by decide)) fun m => n (getD_set_true m), fun q => h.F9 ((done_set q).resolve_left (by decide)), fun q => getD_set_true (h.C5 ((done_set q).resolve_left (by decide))), fun q => getD_set_true (h.C6 ((done_set q).resolve_left (by decide))), fun q => by have c := h.C9 ((done_set q).resolve_left (by decide)); exact ⟨getD_set_true c.1, getD_set_true c.2⟩⟩⟩
  | 8, ho =>
   injection ho with ho
   subst ho
   refine stepV_none rfl (fun K hK => ?_)
   go_simp
   have hB8 := h.B.size
   have h := h.later ((Below.refl _ W).alloc (Nat.le_refl _) (.cells #[.slice none 0 0] 24))
   exact hK _ _ ⟨_, _, _, _, _, _, _, _, _, bz, W.heap.size, rfl, ⟨h.B, fun q => h.F0 ((done_set q).resolve_left (by decide)), fun q => h.F1 ((done_set q).resolve_left (by decide)), fun q => h.F2 ((done_set q).resolve_left (by decide)), fun q => by obtain ⟨A, c, e, hs⟩ := h.F3 ((done_set q).resolve_left (by decide)); exact ⟨A, c, e, fun n => hs fun m => n (getD_set_true m)⟩, fun q => h.F4 ((done_set q).resolve_left (by decide)), fun q => h.F5 ((done_set q).resolve_left (by decide)), fun q => h.F6 ((done_set q).resolve_left (by decide)), fun q => h.F7 ((done_set q).resolve_left (by decide)), fun _ => ⟨rfl, hB8⟩, fun _ _ => heap_alloc_new W _, fun q => absurd (h.C9 ((done_set q).resolve_left (by decide))).2 (getD_tf hil), fun q => getD_set_true (h.C5 ((done_set q).resolve_left (by decide))), fun q => getD_set_true (h.C6 ((done_set q).resolve_left (by decide))), fun q => by have c := h.C9 ((done_set q).resolve_left (by decide)); exact ⟨getD_set_true c.1, getD_set_true c.2⟩⟩⟩
  | 9, ho =>
   injection ho with ho
   subst ho
   have d8 := getD_ft (hw 8 (by kernel_rfl)) (hsz ls hls' 8 (by decide))
   have d6 := getD_ft (hw 6 (by kernel_rfl)) (hsz ls hls' 6 (by decide))
   obtain ⟨e8, hB8⟩ := h.F8 d8
   have e24 := h.F6 d6
   have hblk := h.F8n d8 (getD_tf hil)
   have hE := (h.F4 (h.C6 d6)).2
   have hne : bz ≠ b8 := fun e => by
    subst e
    have := hE.symm.trans hblk
    injection this with this
    injection this with _ this
    cases this
   have p8 := cell_of_block hblk
   have f8 := Boxed.frozen hblk
   subst e8 e24
   refine stepV_none rfl (fun K hK => ?_)
   go_simp
   exact hK undef _ ⟨_, _, _, _, _, _, _, _, _, bz, b8, rfl, ⟨h.B.setCell hB8 _, fun q => h.F0 ((done_set q).resolve_left (by decide)), fun q => h.F1 ((done_set q).resolve_left (by decide)), fun q => h.F2 ((done_set q).resolve_left (by decide)), fun q => by obtain ⟨A, c, e, _⟩ := h.F3 ((done_set q).resolve_left (by decide)); exact ⟨A, c, e, fun n => absurd (getD_set_true (h.C6 d6)) n⟩, fun q => ⟨(h.F4 ((done_set q).resolve_left (by decide))).1, (Below.heap_setCell _ _ _ _ hne).trans hE⟩, fun q => h.F5 ((done_set q).resolve_left (by decide)), fun q => h.F6 ((done_set q).resolve_left (by decide)), fun q => h.F7 ((done_set q).resolve_left (by decide)), fun q => h.F8 ((done_set q).resolve_left (by decide)), fun _ n => absurd (done_self (hsz ls hls' 9 (by decide))) n, fun _ => Boxed.set _ hblk, fun q => getD_set_true (h.C5 ((done_set q).resolve_left (by decide))), fun q => getD_set_true (h.C6 ((done_set q).resolve_left (by decide))), fun _ => ⟨getD_set_true (h.C6 d6), getD_set_true d8⟩⟩⟩
  | 10, ho =>
   injection ho with ho
   subst ho
   have d7 := getD_ft (hw 7 (by kernel_rfl)) (hsz ls hls' 7 (by decide))
   have e25 := h.F7 d7
   subst e25
   refine stepV_none rfl (fun K hK => ?_)
   go_simp
   exact hK _ _ ⟨_, _, _, _, _, _, _, _, _, bz, b8, rfl, ⟨h.B, fun q => h.F0 ((done_set q).resolve_left (by decide)), fun q => h.F1 ((done_set q).resolve_left (by decide)), fun q => h.F2 ((done_set q).resolve_left (by decide)), fun q => by obtain ⟨A, c, e, hs⟩ := h.F3 ((done_set q).resolve_left (by decide)); exact ⟨A, c, e, fun n => hs fun m => n (getD_set_true m)⟩, fun q => h.F4 ((done_set q).resolve_left (by decide)), fun q => h.F5 ((done_set q).resolve_left (by decide)), fun q => h.F6 ((done_set q).resolve_left (by decide)), fun q => h.F7 ((done_set q).resolve_left (by decide)), fun q => h.F8 ((done_set q).resolve_left (by decide)), fun q n => h.F8n ((done_set q).resolve_left (by decide)) fun m => n (getD_set_true m), fun q => h.F9 ((done_set q).resolve_left (by decide)), fun q => getD_set_true (h.C5 ((done_set q).resolve_left (by decide))), fun q => getD_set_true (h.C6 ((done_set q).resolve_left (by decide))), fun q => by have c := h.C9 ((done_set q).resolve_left (by decide)); exact ⟨getD_set_true c.1, getD_set_true c.2⟩⟩⟩
  | k + 11, ho => cases ho
 case done =>
  rintro ls a W hall ⟨x8, x18, x19, x20, x21, x22, x23, x24, x25, bz, b8, rfl, h⟩
  have hd : ∀ j, j < 11 → ls.getD j false = true := hall
  obtain ⟨e8, hB8⟩ := h.F8 (hd 8 (by decide))
  subst e8
  have hblk := h.F9 (hd 9 (by decide))
  have hE := (h.F4 (hd 4 (by decide))).2
  have hW := HW.out W h.B
  have hT := blk_below HG.out.1 h.B rfl
  have hF := blk_below HG.out.2.1 h.B rfl
  have HX := Lib.hid (HE.out W hW.2.2 w.heap.size w1.heap.size b8 (some ⟨bz, 0, none⟩) t hT hF hblk hE.sees)
  have hB := hW.2.2
  have pT := cell_of_block hT
  clear hW hT hF hblk hE h hd HI HZ HE HW HG hall
  dsimp only
  go_wp2_with fail
  refine HX.out.mono ?_
  rintro e W' ⟨v, rfl, hv, hb⟩
  have HR := Lib.hid (show OwnE W' w.heap.size v vv ∧ Below w.heap.size w W' from ⟨hv.base_le hB.size, hB.trans (hb.mono hB.size)⟩)
  clear hv hb HX pT
  go_wp2
  go_ret2
  exact ⟨v, rfl, HR.out⟩
end Go.Proofs.YtccgfladbibjbaaGreatDoor
