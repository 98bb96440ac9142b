/- Package record: Encode. -/
import Derived.Test.YtccgfladbibjbaaGreatDoorKG19
import Derived.Test.YtccgfladbibjbaaGreatDoorKG29
import Derived.Test.YtccgfladbibjbaaGreatDoorKG13
import Derived.Test.YtccgfladbibjbaaGreatDoorKG18
import Derived.Test.YtccgfladbibjbaaGreatDoorKG32
import Derived.Test.YtccgfladbibjbaaGreatDoorKG30
import Derived.Test.YtccgfladbibjbaaGreatDoorKG28
import Derived.Test.YtccgfladbibjbaaGreatDoorKG25
namespace Go.Proofs.YtccgfladbibjbaaGreatDoor
open Go.RowKit
attribute [local go_sem ↓] add_UU sub_UU mul_UU add_UL add_LU sub_UL sub_LU mul_UL neg_at not_at and_UU or_UU xor_UU andNot_UU and_UL or_LU shr_UL shl_UL shr_UN shl_UN shl_LN quo_UL rem_UL quo_UU rem_UU
attribute [local go_sem] wrap64_N wrapi_mod wrap8_U wrap32_U wrap64_B wrap32_B wrap8_D wrapi_B wrap64_UU eq_UU ne_UU eq_UL ne_UL lt_UU le_UU
attribute [local simp] putAgg_size
attribute [local go_sem ↓] loadVar_F loadVar_E loadVar_V loadVar_B32 storeVar_F storeVar_E storeVar_V storeVar_B32 box_F box_E box_V box_B32
attribute [local go_sem ↓ high] V4.cells_val FP.cells_val
attribute [local go_sem] run_loadF run_loadE run_loadV run_loadB32 run_storeF run_storeE run_storeV run_storeB32 run_boxA aggAt_drew aggAt_drewN aggAt_alloc_new aggAt_alloc_past aggAt_setCell_other aggAt_putAgg_other aggAt_putAgg_new putAgg_drew putAgg_size putAgg_alloc_new putAgg_alloc_past putAgg_cell_other putAgg_frozen_other V4.agg_arr FP.agg_arr V4.size_arr FP.size_arr V4.fits FP.fits fitsA_agg4 lt_2 ne_2 en_2 lt_3 ne_3 en_3 lt_4 ne_4 en_4 lt_5 ne_5 en_5 lt_6 ne_6 en_6
theorem checkE_ok {s : Sh} (h : checkE s = 0) : getE s.field = 0 ∧ (1 ≤ s.thr ∧ s.thr ≤ 255) ∧ (1 ≤ s.idx ∧ s.idx ≤ 255) ∧ (0 ≤ s.len ∧ s.len ≤ 65535) ∧ s.pay.length = cnt s.len ∧ okPay (getF s.field) s.pay = true := by
 unfold checkE at h
 split at h
 ·rename_i h1; exact absurd h h1
 rename_i h1
 split at h
 ·cases h
 rename_i h2
 split at h
 ·cases h
 rename_i h3
 split at h
 ·cases h
 rename_i h4
 split at h
 ·cases h
 rename_i h5
 split at h
 ·rename_i h6
  exact ⟨Decidable.of_not_not h1, Decidable.of_not_not h2, Decidable.of_not_not h3, Decidable.of_not_not h4, Decidable.of_not_not h5, h6⟩
 ·cases h
def headL (s : Sh) : List (BitVec 8) := [1#8, BitVec.ofInt 8 s.field, BitVec.ofInt 8 s.thr, BitVec.ofInt 8 s.idx, BitVec.ofInt 8 s.len, BitVec.ofInt 8 (s.len / 256)]
def bodyL (f : FP) : List V4 → List (BitVec 8)
 | [] => []
 | v :: r => encL (mmul f v V4.unit) ++ bodyL f r
theorem bodyL_length (f : FP) : ∀ l, (bodyL f l).length = 32 * l.length
 | [] => rfl
 | v :: r => by rw [bodyL, List.length_append, encL_length, bodyL_length f r, List.length_cons]; omega
theorem bodyL_snoc (f : FP) (l : List V4) (k : Nat) (h : k < l.length) : bodyL f (l.take (k + 1)) = bodyL f (l.take k) ++ encL (mmul f l[k] V4.unit) := by
 have hap : ∀ (a b : List V4), bodyL f (a ++ b) = bodyL f a ++ bodyL f b := by
  intro a b
  induction a with
  | nil => rfl
  | cons v r ih => rw [List.cons_append, bodyL, bodyL, ih, List.append_assoc]
 rw [List.take_succ_eq_append_getElem h, hap, bodyL, bodyL, List.append_nil]
def encR (s : Sh) : List (BitVec 8) := headL s ++ bodyL (getF s.field) s.pay ++ sumL (headL s ++ bodyL (getF s.field) s.pay)
theorem ofInt_mod (x : Int) : x % 256 = B (BitVec.ofInt 8 x) := by unfold B; rw [BitVec.toNat_ofInt]; omega
set_option maxRecDepth 20000 in
set_option maxHeartbeats 2000000 in
theorem recEncode (s : Sh) (A : Option Addr) (cap : Nat) (w : World) (L : Laid w) (hs : Sees w A (eVals s.pay)) (hn : s.pay.length ≤ 1073741824) (hc : checkE s = 0) :
  Calls Tryz.prog 10 #[s.val A cap] w fun e w' => ∃ v, e = .returned (.tuple #[v, .int .i64 0]) ∧ OwnB w' w.heap.size v (encR s) ∧ Below w.heap.size w w' := by
 have hcc := checkE_ok hc
 have HL := Lib.hid (fun W (hW : Below w.heap.size w W) => L.to hW)
 have HS := Lib.hid (fun W (hW : Below w.heap.size w W) => hs.below hW)
 have HC := Lib.hid (fun W (hW : Below w.heap.size w W) => checkShare s A cap W (L.to hW) (hs.below hW) (by omega))
 rw [hc] at HC
 have HK := Lib.hid (show encR s = headL s ++ bodyL (getF s.field) s.pay ++ sumL (headL s ++ bodyL (getF s.field) s.pay) from rfl)
 have HH := Lib.hid (show byteVals (headL s) = [.int .u8 1, .int .u8 (s.field % 256), .int .u8 (s.thr % 256), .int .u8 (s.idx % 256), .int .u8 (s.len % 256), .int .u8 (s.len / 256 % 256)] from by
  unfold headL byteVals
  rw [ofInt_mod, ofInt_mod, ofInt_mod, ofInt_mod, ofInt_mod]; rfl)
 have HHl := Lib.hid (show (headL s).length = 6 from rfl)
 have HG := Lib.hid (fun W (hW : Below w.heap.size w W) => fieldGet s.field W (L.to hW))
 rw [hcc.1] at HG
 clear hs hc L
 obtain ⟨R, hR⟩ : ∃ R, encR s = R := ⟨_, rfl⟩
 obtain ⟨H, hH⟩ : ∃ H, headL s = H := ⟨_, rfl⟩
 obtain ⟨f, hf⟩ : ∃ f, getF s.field = f := ⟨_, rfl⟩
 rw [hR, hH, hf] at HK
 rw [hH] at HH HHl
 rw [hf] at HG
 rw [hR]
 clear hR hH hf
 obtain ⟨fd, th, ix, ln, P⟩ := s
 unfold Sh.val Sh.cells at *
 simp only [] at HC HG HH HK HS hn hcc ⊢
 have hln : 0 ≤ ln := hcc.2.2.2.1.1
 clear hcc
 go_enter Tryz.func10, Tryz.ntmps10
 go_wp2_with fail
 (obtain ⟨W0, hW0⟩ : ∃ W0 : World, W0 = (w).alloc (.cells #[.int .i64 fd, .int .i64 th, .int .i64 ix, .int .i64 ln, .slice A P.length cap] 26) := ⟨_, rfl⟩); (have gW0 : ∀ (j : Nat) (o : Obj), ([Obj.cells #[.int .i64 fd, .int .i64 th, .int .i64 ix, .int .i64 ln, .slice A P.length cap] 26] : List Obj)[j]? = some o → W0.heap[w.heap.size + j]? = some o := by rw [hW0]; exact allocs_get w _); (have zW0 : W0.heap.size = w.heap.size + 1 := by rw [hW0]; exact allocs_size w [Obj.cells #[.int .i64 fd, .int .i64 th, .int .i64 ix, .int .i64 ln, .slice A P.length cap] 26]); (have bW0 : Below w.heap.size w W0 := by rw [hW0]; exact allocs_below w [Obj.cells #[.int .i64 fd, .int .i64 th, .int .i64 ix, .int .i64 ln, .slice A P.length cap] 26]); (rw [← hW0]); (clear hW0)
 have gS0 : W0.heap[w.heap.size]? = some _ := gW0 0 _ rfl
 refine (HC.out W0 bW0).mono ?_
 rintro e w1 ⟨rfl, hb1⟩
 have gS1 := blk_below gS0 hb1 rfl
 have bW1 := bW0.trans (hb1.mono bW0.size)
 clear gS0 gW0 zW0 hb1 bW0 HC
 have hcells : ∀ W : World, W.heap[w.heap.size]? = some (.cells #[.int .i64 fd, .int .i64 th, .int .i64 ix, .int .i64 ln, .slice A P.length cap] 26 (0, 0)) → W.cell? ⟨w.heap.size, 0, none⟩ = some (.int .i64 fd) ∧ W.cell? ⟨w.heap.size, 1, none⟩ = some (.int .i64 th) ∧ W.cell? ⟨w.heap.size, 2, none⟩ = some (.int .i64 ix) ∧ W.cell? ⟨w.heap.size, 3, none⟩ = some (.int .i64 ln) ∧ W.cell? ⟨w.heap.size, 4, none⟩ = some (.slice A P.length cap) := fun W h => by
  unfold World.cell?; simp only [h]; exact ⟨rfl, rfl, rfl, rfl, rfl⟩
 have HCE := Lib.hid hcells
 clear hcells
 obtain ⟨c0, c1, c2, c3, c4⟩ := HCE.out w1 gS1
 go_wp2_with fail
 clear c0 c1 c2 c3 c4
 refine (HG.out w1 bW1).mono ?_
 rintro e w2 ⟨rfl, hb2⟩
 have gS2 := blk_below gS1 hb2 rfl
 have bW2 := bW1.trans (hb2.mono bW1.size)
 have hlt : w.heap.size < w2.heap.size := (Array.getElem?_eq_some_iff.1 gS2).1
 clear gS1 bW1 hb2 HG
 obtain ⟨d0, d1, d2, d3, d4⟩ := HCE.out w2 gS2
 go_upto_region 6 with (fail)
 (obtain ⟨W3, hW3⟩ : ∃ W0 : World, W0 = ((w2).alloc (.cells f.arr 67)).alloc (.cells #[.int .u8 1, .int .u8 (fd % 256), .int .u8 (th % 256), .int .u8 (ix % 256), .int .u8 (ln % 256), .int .u8 (ln / 256 % 256)] 5) := ⟨_, rfl⟩); (have gW3 : ∀ (j : Nat) (o : Obj), ([Obj.cells f.arr 67, Obj.cells #[.int .u8 1, .int .u8 (fd % 256), .int .u8 (th % 256), .int .u8 (ix % 256), .int .u8 (ln % 256), .int .u8 (ln / 256 % 256)] 5] : List Obj)[j]? = some o → W3.heap[w2.heap.size + j]? = some o := by rw [hW3]; exact allocs_get w2 _); (have zW3 : W3.heap.size = w2.heap.size + 2 := by rw [hW3]; exact allocs_size w2 [Obj.cells f.arr 67, Obj.cells #[.int .u8 1, .int .u8 (fd % 256), .int .u8 (th % 256), .int .u8 (ix % 256), .int .u8 (ln % 256), .int .u8 (ln / 256 % 256)] 5]); (have bW3 : Below w2.heap.size w2 W3 := by rw [hW3]; exact allocs_below w2 [Obj.cells f.arr 67, Obj.cells #[.int .u8 1, .int .u8 (fd % 256), .int .u8 (th % 256), .int .u8 (ix % 256), .int .u8 (ln % 256), .int .u8 (ln / 256 % 256)] 5]); (rw [← hW3]); (clear hW3)
 obtain ⟨i0, hi0, hz0, hz1, hz2⟩ := info_parts info_u8
 have gF3 : W3.heap[w2.heap.size]? = some _ := gW3 0 _ rfl
 have gH3 : W3.heap[w2.heap.size + 1]? = some _ := gW3 1 _ rfl
 have gS3 := blk_below gS2 bW3 rfl
 have hvO : OwnB W3 (w2.heap.size + 1) (.slice (some ⟨w2.heap.size + 1, 0, none⟩) 6 6) H := by
  unfold OwnB
  rw [HHl.out, HH.out]
  exact ⟨rfl, .inr ⟨_, 6, _, rfl, Nat.le_refl _, gH3, Nat.le_refl _, by decide, rfl, rfl⟩⟩
 have HV := Lib.hid (show OwnB W3 (w2.heap.size + 1) (.slice (some ⟨w2.heap.size + 1, 0, none⟩) 6 6) (H ++ bodyL f (P.take 0)) ∧ Below w.heap.size w W3 ∧ IsF W3 w2.heap.size f ∧ w2.heap.size + 1 ≤ W3.heap.size from
  ⟨by rw [List.take_zero, bodyL, List.append_nil]; exact hvO, bW2.trans (bW3.mono bW2.size), gF3, by omega⟩)
 have d4' := (HCE.out W3 gS3).2.2.2.2
 clear hvO HH d0 d1 d2 d3 d4 gF3 gH3 gS2 gS3 gW3 bW3 bW2 HCE
 go_wp2
 clear d4'
 go_loopw [7, 9, 41] (fun v x i W => ∃ t : Nat, t ≤ P.length ∧ i = .int .i64 t ∧ OwnB W (w2.heap.size + 1) v (H ++ bodyL f (P.take t)) ∧ Below w.heap.size w W ∧ IsF W w2.heap.size f ∧ w2.heap.size + 1 ≤ W.heap.size) (fun _ _ i _ => P.length - (intOf i).toNat)
 case atStart => exact ⟨0, by omega, rfl, HV.out⟩
 case round =>
  clear HV
  obtain ⟨t, ht, rfl, hO, hB, hF, hz⟩ := hrel
  by_cases htl : t < P.length
  ·have htl' : (t : Int) < (P.length : Int) := by omega
   have HT2 := Lib.hid (bodyL_snoc f P t htl)
   obtain ⟨b, o, rfl, hbl, hld⟩ := (HS.out wr hB).loadE t htl
   have hfa : aggAt wr 14 w2.heap.size 0 = some f.val := aggAt_whole hF (n := 14) rfl
   have hz' : w2.heap.size < wr.heap.size := hz
   have HX := Lib.hid (And.intro hO (And.intro hB hF))
   have HE := Lib.hid (bcEncode f P[t])
   have hl1 : (H ++ bodyL f (P.take t)).length = 6 + 32 * t := by rw [List.length_append, HHl.out, bodyL_length, List.length_take]; omega
   generalize mmul f P[t] V4.unit = y at *
   generalize P[t] = x at *
   generalize hC : H ++ bodyL f (P.take t) = C at *
   have HCe := Lib.hid hC
   clear hC
   clear hO hB hF
   go_wp2_with fail
   refine (HE.out _).mono ?_
   rintro e w4 ⟨v4, rfl, hO4, hb4⟩
   obtain ⟨A4, c4, rfl, hc4, hS4, _⟩ := owns_open hO4
   have hb4' : Below wr.heap.size wr w4 := ((Below.refl _ wr).alloc (Nat.le_refl _) _).trans (hb4.mono (by simp))
   have HY := Lib.hid (And.intro (HX.out.1.below hb4') (And.intro (HX.out.2.1.trans (hb4'.mono (by have := HX.out.2.1.size; omega))) (And.intro (HX.out.2.2.below hb4' (by omega)) hS4)))
   have hz4 : w2.heap.size + 1 ≤ w4.heap.size := Nat.le_trans hz hb4'.size
   clear hb4 hb4' hO4 hS4 HX HE hld hfa
   go_wp2_with (at_builtin; refine wpList_append_sees rfl (.tmp 45) (.tmp 48) 22 rfl (w2.heap.size + 1) 5 i0 (.int .u8 0) 1 1 Tryz.underlying22 hi0 hz0 hz1 hz2 rfl (by decide) u7 (6 + 32 * t) (byteVals C) rfl ?c0 A4 32 c4 (byteVals (encL y)) rfl ?c1 HY.out.2.2.2 (byteVals_one _) ?c4 ?c5 hz4 ?_)
   case c0 =>
    have := HY.out.1
    unfold OwnB at this
    rwa [hl1] at this
   case c1 => rw [byteVals_length, encL_length]
   case c4 => unfold maxLen; omega
   case c5 => omega
   intro v5 w5 hown5 hg5 _
   have H5 := Lib.hid (show OwnB w5 (w2.heap.size + 1) v5 (C ++ encL y) ∧ Below w.heap.size w w5 ∧ IsF w5 w2.heap.size f ∧ w2.heap.size + 1 ≤ w5.heap.size from
    ⟨by unfold OwnB; rw [List.length_append, encL_length, byteVals_append, hl1]; exact hown5, HY.out.2.1.grown hg5 (by omega) (fun k hk => by have := (HY.out.1.lt k hk).1; omega), (hg5.block w2.heap.size (by omega) (fun e => by have := (HY.out.1.lt _ e.symm).1; omega)).trans HY.out.2.2.1, Nat.le_trans hz4 hg5.size⟩)
   clear hown5 hg5 HY
   go_wp2
   go_roundw
   case rel => exact ⟨t + 1, by omega, by go_num, by rw [HT2.out, ← List.append_assoc, HCe.out]; exact H5.out⟩
   case measure => simp [intOf]; omega
  ·obtain rfl : t = P.length := by omega
   rw [List.take_length] at hO
   obtain ⟨A5, c5, rfl, hc5, hS5, _⟩ := hO.open
   have hl1 : (H ++ bodyL f P).length = 6 + 32 * P.length := by rw [List.length_append, HHl.out, bodyL_length]
   have HQ := Lib.hid (recTagged A5 c5 (H ++ bodyL f P) wr (HL.out wr hB) hS5 hc5 (by omega))
   have HB5 := Lib.hid hB
   have HK2 := HK.out
   rw [← HK2, hl1] at HQ
   have HL1 := Lib.hid hl1
   rw [hl1]
   clear hO hS5 hB hF hc5 HK2 hl1
   go_wp2_with fail
   refine HQ.out.mono ?_
   rintro e w6 ⟨v6, rfl, hO6, hb6⟩
   have H6 := Lib.hid (show OwnB w6 w.heap.size v6 R ∧ Below w.heap.size w w6 from ⟨hO6.base_le HB5.out.size, HB5.out.trans (hb6.mono HB5.out.size)⟩)
   clear hO6 hb6 HQ
   go_wp2
   go_ret2
   exact ⟨v6, rfl, H6.out⟩
end Go.Proofs.YtccgfladbibjbaaGreatDoor
namespace Go.Proofs.YtccgfladbibjbaaGreatDoor
open Go.RowKit Go.Maps
attribute [local go_sem ↓] add_UU sub_UU mul_UU add_UL add_LU sub_UL sub_LU mul_UL neg_at not_at and_UU or_UU xor_UU andNot_UU and_UL or_LU shr_UL shl_UL shr_UN shl_UN shl_LN quo_UL rem_UL quo_UU rem_UU
attribute [local go_sem] wrap64_N wrapi_mod wrap8_U wrap32_U wrap64_B wrap32_B wrap8_D wrapi_B wrap64_UU eq_UU ne_UU eq_UL ne_UL lt_UU le_UU
attribute [local simp] putAgg_size
attribute [local go_sem ↓] loadVar_F loadVar_E loadVar_V loadVar_B32 storeVar_F storeVar_E storeVar_V storeVar_B32 box_F box_E box_V box_B32
attribute [local go_sem ↓ high] V4.cells_val FP.cells_val
attribute [local go_sem] run_loadF run_loadE run_loadV run_loadB32 run_storeF run_storeE run_storeV run_storeB32 run_boxA aggAt_drew aggAt_drewN aggAt_alloc_new aggAt_alloc_past aggAt_setCell_other aggAt_putAgg_other aggAt_putAgg_new putAgg_drew putAgg_size putAgg_alloc_new putAgg_alloc_past putAgg_cell_other putAgg_frozen_other V4.agg_arr FP.agg_arr V4.size_arr FP.size_arr V4.fits FP.fits fitsA_agg4 lt_2 ne_2 en_2 lt_3 ne_3 en_3 lt_4 ne_4 en_4 lt_5 ne_5 en_5 lt_6 ne_6 en_6
def Sh.head (s : Sh) : Int × Int × Int := (s.field, s.thr, s.len)
structure OkShs (l : List Sh) : Prop where
 ne : 0 < l.length
 ok : ∀ x ∈ l, checkE x = 0
 same : ∀ x ∈ l, ∀ y ∈ l, x.head = y.head
 nodup : (l.map Sh.idx).Nodup
 few : ∀ x ∈ l, x.thr ≤ l.length
def cntT (xs : List Int) : Nat → DataW Unit
 | 0 => .map []
 | k + 1 => (cntT xs k).put (.int .i64 (atI xs k)) (.lit (.int .i64 1))
theorem cntT_has (xs : List Int) (x : Int) : ∀ k, (∀ j, j < k → atI xs j ≠ x) → Maps.has (cntT xs k) (.int .i64 x) = false
 | 0, _ => rfl
 | k + 1, h => by
  rw [cntT, has_put_other (fun e => h k (Nat.lt_succ_self k) (by injection e with _ e; exact e.symm))]
  exact cntT_has xs x k fun j hj => h j (by omega)
theorem idxs_at (l : List ShA) (k : Nat) (hk : k < l.length) : atI (idxs l) k = l[k].s.idx := by
 unfold atI idxs
 rw [List.getElem?_map, List.getElem?_eq_getElem hk]; rfl
theorem idxs_ne {l : List ShA} (h : (l.map fun x => x.s.idx).Nodup) (j k : Nat) (hj : j < k) (hk : k < l.length) : atI (idxs l) j ≠ atI (idxs l) k := by
 rw [idxs_at l j (by omega), idxs_at l k hk]
 intro e
 have := (List.nodup_iff_pairwise_ne.1 h)
 rw [List.pairwise_iff_getElem] at this
 exact this j k (by simp; omega) (by simp; omega) hj (by simpa using e)
structure CkI (w : World) (l : List ShA) (i : Nat) (W : World) : Prop where
 M : W.ownsMap Tryz.prog 3 (plainElem Tryz.prog 3) w.heap.size i (cntT (idxs l) i)
 Z : Maps.size (cntT (idxs l) i) = i
 B : Below w.heap.size w W
set_option maxRecDepth 100000 in
set_option maxHeartbeats 4000000 in
theorem checkShares (R : Option Addr) (cap : Nat) (l : List ShA) (hok : OkShs (l.map ShA.s)) (hp : ∀ x ∈ l, x.s.pay.length ≤ 1048576) (hn : l.length ≤ 1048576) (w : World) (L : Laid w) (hS : SeesS w R l) :
  Calls Tryz.prog 75 #[.slice R l.length cap] w fun e w' => e = .returned (.int .i64 0) ∧ Below w.heap.size w w' := by
 have hmm := @run_makeMap Tryz.prog
 have hl0 : 0 < l.length := by simpa using hok.ne
 have hnd : (l.map fun x => x.s.idx).Nodup := by have := hok.nodup; rwa [List.map_map] at this
 have HS := Lib.hid (fun W (hW : Below w.heap.size w W) => And.intro (L.to hW) (hS.below hW))
 have HOK := Lib.hid (show ∀ x ∈ l, checkE x.s = 0 ∧ x.s.pay.length ≤ 1048576 ∧ x.s.head = l[0].s.head ∧ 1 ≤ x.s.idx ∧ x.s.idx ≤ 255 from fun x hx => ⟨hok.ok _ (List.mem_map_of_mem hx), hp x hx, hok.same _ (List.mem_map_of_mem hx) _ (List.mem_map_of_mem (List.getElem_mem hl0)), (checkE_ok (hok.ok _ (List.mem_map_of_mem hx))).2.2.1⟩)
 have hthr : l[0].s.thr ≤ (l.length : Int) := by have := hok.few _ (List.mem_map_of_mem (f := ShA.s) (List.getElem_mem hl0)); rwa [List.length_map] at this
 have HN := Lib.hid hnd
 have HT := Lib.hid hthr
 clear hS L hok hp hnd hthr
 go_enter Tryz.func75, Tryz.ntmps75
 go_wp2
 clear hmm
 go_loopw [4, 11] (fun m iv W => ∃ i : Nat, i ≤ l.length ∧ iv = .int .i64 i ∧ m = .bool false ∧ CkI w l i W) (fun _ iv _ => l.length - (intOf iv).toNat)
 case atStart => exact ⟨0, by omega, rfl, rfl, World.ownsMap_made _ _ _ _, rfl, (Below.refl _ w).alloc (Nat.le_refl _) _⟩
 case round =>
  obtain ⟨i, hi, rfl, rfl, hI⟩ := hrel
  have HI := Lib.hid hI
  by_cases hlt : i < l.length
  ·have hlt' : (i : Int) < (l.length : Int) := by omega
   obtain ⟨Lw, hSw⟩ := HS.out wr hI.B
   obtain ⟨b, o, rfl, hb, c0, c1, c2, c3, c4⟩ := hSw.1.share i hlt
   have hSx := hSw.2 _ (List.getElem_mem hlt)
   obtain ⟨hx1, hx2, hx3, hx4⟩ := HOK.out l[i] (List.getElem_mem hlt)
   have HX := Lib.hid (And.intro (idxs_at l i hlt) (fun j hj => idxs_ne HN.out j i hj hlt))
   have hCk := checkShare l[i].s l[i].A l[i].cap
   generalize l[i] = x at *
   rw [hx1] at hCk
   have HC := Lib.hid (fun W (hW : Below wr.heap.size wr W) => hCk W (Lw.to hW) (hSx.below hW) (by omega))
   have HH := Lib.hid hx3
   unfold Sh.val Sh.cells at HC
   clear hI hSw hx1 hx2 hx3 hCk hSx Lw
   obtain ⟨⟨fd, th, ix, ln, pl⟩, xA, xcap⟩ := x
   simp only [] at c0 c1 c2 c3 c4 HC HH HX hx4
   go_wp2_with fail
   (obtain ⟨W0, hW0⟩ : ∃ W0 : World, W0 = (wr).alloc (.cells #[.int .i64 fd, .int .i64 th, .int .i64 ix, .int .i64 ln, .slice xA pl.length xcap] 26) := ⟨_, rfl⟩); (have gW0 : ∀ (j : Nat) (o : Obj), ([Obj.cells #[.int .i64 fd, .int .i64 th, .int .i64 ix, .int .i64 ln, .slice xA pl.length xcap] 26] : List Obj)[j]? = some o → W0.heap[wr.heap.size + j]? = some o := by rw [hW0]; exact allocs_get wr _); (have zW0 : W0.heap.size = wr.heap.size + 1 := by rw [hW0]; exact allocs_size wr [Obj.cells #[.int .i64 fd, .int .i64 th, .int .i64 ix, .int .i64 ln, .slice xA pl.length xcap] 26]); (have bW0 : Below wr.heap.size wr W0 := by rw [hW0]; exact allocs_below wr [Obj.cells #[.int .i64 fd, .int .i64 th, .int .i64 ix, .int .i64 ln, .slice xA pl.length xcap] 26]); (rw [← hW0]); (clear hW0)
   have gX0 : W0.heap[wr.heap.size]? = some _ := gW0 0 _ rfl
   refine (HC.out W0 bW0).mono ?_
   rintro e w1 ⟨rfl, hb1⟩
   have gX1 := blk_below gX0 hb1 rfl
   have bW1 := bW0.trans (hb1.mono bW0.size)
   have bW1' := HI.out.B.trans (bW1.mono HI.out.B.size)
   have HI1 := Lib.hid (And.intro HI.out bW1)
   obtain ⟨b', o', e', _, y0, y1, y2, y3, y4⟩ := (HS.out w1 bW1').2.1.share 0 hl0
   injection e' with e'
   injection e' with e1 e2
   subst e1 e2
   rw [Nat.zero_mul, Nat.add_zero] at y0 y1 y2 y3 y4
   generalize l[0] = y at *
   obtain ⟨⟨yf, yt, yi, yn, yp⟩, yA, yc⟩ := y
   simp only [] at y0 y1 y2 y3 y4 HH HT
   obtain ⟨hq1, hq2, hq3⟩ : fd = yf ∧ th = yt ∧ ln = yn := by
    have := HH.out
    unfold Sh.head at this
    simp only [Prod.mk.injEq] at this
    exact this
   subst hq1 hq2 hq3
   have h0 : w1.cell? ⟨wr.heap.size, 0, none⟩ = some (.int .i64 fd) ∧ w1.cell? ⟨wr.heap.size, 1, none⟩ = some (.int .i64 th) ∧ w1.cell? ⟨wr.heap.size, 2, none⟩ = some (.int .i64 ix) ∧ w1.cell? ⟨wr.heap.size, 3, none⟩ = some (.int .i64 ln) ∧ w1.cell? ⟨wr.heap.size, 4, none⟩ = some (.slice xA pl.length xcap) := by
    unfold World.cell?; simp only [gX1]; exact ⟨rfl, rfl, rfl, rfl, rfl⟩
   obtain ⟨x0, x1, x2, x3, x4⟩ := h0
   have HHd := Lib.hid (fun W => headerOf ⟨fd, th, ix, ln, pl⟩ xA xcap W)
   have HHe := Lib.hid (fun W => headerOf ⟨fd, th, yi, ln, yp⟩ yA yc W)
   unfold Sh.val Sh.cells at HHd HHe
   simp only [] at HHd HHe
   clear gW0 gX0 hb1 bW0 HC c0 c1 c2 c3 c4 zW0
   go_wp2_with fail
   ((have hS0 : (Below w1.heap.size w1 w1.drew ∧ w1.drew.cell? ⟨(wr.heap.size), (0), none⟩ = some (.int .i64 fd) ∧ w1.drew.cell? ⟨(wr.heap.size), (1), none⟩ = some (.int .i64 th) ∧ w1.drew.cell? ⟨(wr.heap.size), (2), none⟩ = some (.int .i64 ix) ∧ w1.drew.cell? ⟨(wr.heap.size), (3), none⟩ = some (.int .i64 ln) ∧ w1.drew.cell? ⟨(wr.heap.size), (4), none⟩ = some (.slice xA pl.length xcap) ∧ w1.drew.cell? ⟨(b), (o), none⟩ = some (.int .i64 fd) ∧ w1.drew.cell? ⟨(b), (o + 1), none⟩ = some (.int .i64 th) ∧ w1.drew.cell? ⟨(b), (o + 2), none⟩ = some (.int .i64 yi) ∧ w1.drew.cell? ⟨(b), (o + 3), none⟩ = some (.int .i64 ln) ∧ w1.drew.cell? ⟨(b), (o + 4), none⟩ = some (.slice yA yp.length yc)) := ⟨((Below.refl _ w1)).drew, x0, x1, x2, x3, x4, y0, y1, y2, y3, y4⟩); (refine region_later (by kernel_rfl) [10] [0, 1, 2, 3, 4, 5, 6, 7, 8, 9] true (by kernel_rfl) (by kernel_rfl) (fun W' => (Below w1.heap.size w1 W' ∧ W'.cell? ⟨(wr.heap.size), (0), none⟩ = some (.int .i64 fd) ∧ W'.cell? ⟨(wr.heap.size), (1), none⟩ = some (.int .i64 th) ∧ W'.cell? ⟨(wr.heap.size), (2), none⟩ = some (.int .i64 ix) ∧ W'.cell? ⟨(wr.heap.size), (3), none⟩ = some (.int .i64 ln) ∧ W'.cell? ⟨(wr.heap.size), (4), none⟩ = some (.slice xA pl.length xcap) ∧ W'.cell? ⟨(b), (o), none⟩ = some (.int .i64 fd) ∧ W'.cell? ⟨(b), (o + 1), none⟩ = some (.int .i64 th) ∧ W'.cell? ⟨(b), (o + 2), none⟩ = some (.int .i64 yi) ∧ W'.cell? ⟨(b), (o + 3), none⟩ = some (.int .i64 ln) ∧ W'.cell? ⟨(b), (o + 4), none⟩ = some (.slice yA yp.length yc))) hS0 ?_); (have hSB : ∀ W' W'' : World, (Below w1.heap.size w1 W' ∧ W'.cell? ⟨(wr.heap.size), (0), none⟩ = some (.int .i64 fd) ∧ W'.cell? ⟨(wr.heap.size), (1), none⟩ = some (.int .i64 th) ∧ W'.cell? ⟨(wr.heap.size), (2), none⟩ = some (.int .i64 ix) ∧ W'.cell? ⟨(wr.heap.size), (3), none⟩ = some (.int .i64 ln) ∧ W'.cell? ⟨(wr.heap.size), (4), none⟩ = some (.slice xA pl.length xcap) ∧ W'.cell? ⟨(b), (o), none⟩ = some (.int .i64 fd) ∧ W'.cell? ⟨(b), (o + 1), none⟩ = some (.int .i64 th) ∧ W'.cell? ⟨(b), (o + 2), none⟩ = some (.int .i64 yi) ∧ W'.cell? ⟨(b), (o + 3), none⟩ = some (.int .i64 ln) ∧ W'.cell? ⟨(b), (o + 4), none⟩ = some (.slice yA yp.length yc)) → Below W'.heap.size W' W'' → (Below w1.heap.size w1 W'' ∧ W''.cell? ⟨(wr.heap.size), (0), none⟩ = some (.int .i64 fd) ∧ W''.cell? ⟨(wr.heap.size), (1), none⟩ = some (.int .i64 th) ∧ W''.cell? ⟨(wr.heap.size), (2), none⟩ = some (.int .i64 ix) ∧ W''.cell? ⟨(wr.heap.size), (3), none⟩ = some (.int .i64 ln) ∧ W''.cell? ⟨(wr.heap.size), (4), none⟩ = some (.slice xA pl.length xcap) ∧ W''.cell? ⟨(b), (o), none⟩ = some (.int .i64 fd) ∧ W''.cell? ⟨(b), (o + 1), none⟩ = some (.int .i64 th) ∧ W''.cell? ⟨(b), (o + 2), none⟩ = some (.int .i64 yi) ∧ W''.cell? ⟨(b), (o + 3), none⟩ = some (.int .i64 ln) ∧ W''.cell? ⟨(b), (o + 4), none⟩ = some (.slice yA yp.length yc)) := fun W' W'' ⟨h0, h1, h2, h3, h4, h5, h6, h7, h8, h9, h10⟩ hb => ⟨h0.trans (hb.mono h0.size), cell_keep h1 hb, cell_keep h2 hb, cell_keep h3 hb, cell_keep h4 hb, cell_keep h5 hb, cell_keep h6 hb, cell_keep h7 hb, cell_keep h8 hb, cell_keep h9 hb, cell_keep h10 hb⟩); (clear x0 x1 x2 x3 x4 y0 y1 y2 y3 y4); (iterate 10 (first | ((first | (refine chainL_op (by rfl) (by rfl) ?_ ?_ ?_) | (refine chainL_opG (by rfl) (by rfl) ?_ ?_ ?_)); rotate_left; (focus (intro W' hS' K hK; (try simp only [put_some, List.set] at hK); (have hS'' := hS'); (obtain ⟨s0, s1, s2, s3, s4, s5, s6, s7, s8, s9, s10⟩ := hS''); go_simp; (first | exact hK _ hS' (Later.refl _) | (with_reducible refine Calls.mono (HHd.out _) ?_; rintro e W'' ⟨rfl, hb''⟩; exact hK _ (hSB _ _ hS' hb'') (Later.of hb'')) | (with_reducible refine Calls.mono (HHe.out _) ?_; rintro e W'' ⟨rfl, hb''⟩; exact hK _ (hSB _ _ hS' hb'') (Later.of hb''))); done)); (try simp only [put_some, List.set])) | ((refine chainL_opU (by rfl) (by rfl) ?_); (try simp only [put_some, List.set])))); (refine chainL_nil ?_))
   refine spineL_op (by rfl) (by rfl) (fun W1 hS1 hL1 K hK => ?_)
   go_simp
   refine hK _ _ (fun _ => hS1) ?_
   (try simp only [put_some, List.set])
   clear hK K hL1
   refine spineL_nil fun W3 hL3 hS3 => ?_
   obtain ⟨b3, -, -, x2, -⟩ := hS3 rfl
   have bW3 := HI1.out.2.trans (b3.mono HI1.out.2.size)
   have hgr : wr.grownBy W3 none := ⟨bW3.os, bW3.tape, bW3.output, bW3.size, fun k hk _ => bW3.block k hk⟩
   have HO := Lib.hid (And.intro (HI1.out.1.M.kept hgr (by simp)) (HI1.out.1.B.trans (bW3.mono HI1.out.1.B.size)))
   have hnh := cntT_has (idxs l) ix i (fun j hj e => HX.out.2 j hj (e.trans HX.out.1.symm))
   have HZ := Lib.hid (show Maps.size (cntT (idxs l) (i + 1)) = i + 1 from by
    rw [cntT, HX.out.1, size_put (HI1.out.1.M.tidy law3), hnh]
    simp [HI1.out.1.Z])
   have HD := Lib.hid (show cntT (idxs l) (i + 1) = (cntT (idxs l) i).put (.int .i64 ix) (.lit (.int .i64 1)) from by rw [cntT, HX.out.1])
   have HAt := Lib.hid (fun z => atKey_of_not_has hnh z)
   have hwf : (Lit.int .i64 ix).wf = true := WalkArith.wf_i64 (by omega)
   clear hS3 b3 bW3 hgr hnh hL3 hS1 hSB hS0 HHd HHe HI HI1
   go_wp2_with (at_lookup; refine wpList_lookup_own_int _ rfl (.tmp 30) (.tmp 32) 155 rfl 3 3 .i64 law3 Tryz.underlying155 Tryz.underlying3 (by kernel_rfl) w.heap.size i _ rfl HO.out.1 _ _ rfl (keyOf_int_mk Tryz.underlying3 hwf) ?_)
   intro c hat hwc
   have hc0 : c = 0 := by
    rw [HAt.out] at hat
    injection hat with hat
    injection hat with _ hat
    exact hat.symm
   subst hc0
   clear hat hwc
   go_wp2_with (at_mapUpdate; refine wpList_mapUpdate_own _ rfl _ _ _ 155 rfl 3 3 law3 Tryz.underlying155 _ w.heap.size i _ rfl HO.out.1 (by unfold maxLen; omega) _ _ _ rfl rfl (keyOf_int_mk Tryz.underlying3 hwf) _ [] (plainElem_int Tryz.underlying3 (by decide)) ?_; intro w5 hown1 hgrow1)
   have H1 := Lib.hid (And.intro hown1 (HO.out.2.grown hgrow1 HO.out.2.size (fun j hj => by cases hj; exact Nat.le_refl _)))
   clear hown1 hgrow1 HO
   go_wp2
   go_roundw
   case rel => exact ⟨i + 1, by omega, by go_num, rfl, by rw [HD.out]; exact H1.out.1, HZ.out, H1.out.2⟩
   case measure => (first | (simp [intOf]; done) | (simp [intOf]; omega))
  ·obtain rfl : i = l.length := by omega
   obtain ⟨Lw, hSw⟩ := HS.out wr hI.B
   obtain ⟨b, o, rfl, hb, c0, c1, c2, c3, c4⟩ := hSw.1.share 0 hl0
   rw [Nat.zero_mul, Nat.add_zero] at c0 c1 c2 c3 c4
   have hth := HT.out
   have hnl : ¬ ((Maps.size (cntT (idxs l) l.length) : Nat) : Int) < (l.length : Int) := by rw [hI.Z]; omega
   generalize l[0] = y at *
   have hq1 : ((l.length : Int) == 0) = false := by
    rw [beq_eq_false_iff_ne]; omega
   have hq2 : decide ((l.length : Int) < y.s.thr) = false := decide_eq_false (by omega)
   have hq3 : (0 : Int) < (l.length : Int) := by omega
   clear hI hSw Lw hth
   go_wp2_with (at_len; refine wpList_len_own _ rfl _ 155 rfl 3 3 Tryz.underlying155 _ w.heap.size _ _ rfl HI.out.M ?_)
   go_ret
   exact ⟨rfl, HI.out.B⟩
end Go.Proofs.YtccgfladbibjbaaGreatDoor
namespace Go.Proofs.YtccgfladbibjbaaGreatDoor
open Go.RowKit
attribute [local go_sem ↓] add_UU sub_UU mul_UU add_UL add_LU sub_UL sub_LU mul_UL neg_at not_at and_UU or_UU xor_UU andNot_UU and_UL or_LU shr_UL shl_UL shr_UN shl_UN shl_LN quo_UL rem_UL quo_UU rem_UU
attribute [local go_sem] wrap64_N wrapi_mod wrap8_U wrap32_U wrap64_B wrap32_B wrap8_D wrapi_B wrap64_UU eq_UU ne_UU eq_UL ne_UL lt_UU le_UU
attribute [local simp] putAgg_size
attribute [local go_sem ↓] loadVar_F loadVar_E loadVar_V loadVar_B32 storeVar_F storeVar_E storeVar_V storeVar_B32 box_F box_E box_V box_B32
attribute [local go_sem ↓ high] V4.cells_val FP.cells_val
attribute [local go_sem] run_loadF run_loadE run_loadV run_loadB32 run_storeF run_storeE run_storeV run_storeB32 run_boxA aggAt_drew aggAt_drewN aggAt_alloc_new aggAt_alloc_past aggAt_setCell_other aggAt_putAgg_other aggAt_putAgg_new putAgg_drew putAgg_size putAgg_alloc_new putAgg_alloc_past putAgg_cell_other putAgg_frozen_other V4.agg_arr FP.agg_arr V4.size_arr FP.size_arr V4.fits FP.fits fitsA_agg4 lt_2 ne_2 en_2 lt_3 ne_3 en_3 lt_4 ne_4 en_4 lt_5 ne_5 en_5 lt_6 ne_6 en_6
theorem elem_S : Tryz.prog.elem 39 = 26 := by kernel_rfl
theorem und_S : Tryz.prog.underlying 39 = some (.slice (Tryz.prog.elem 39)) := by rw [elem_S]; exact Tryz.underlying39
theorem size_S (w : World) : (sizeOf (Tryz.prog.elem 39)).run Tryz.prog w = .ok 5 w := by rw [elem_S]; kernel_rfl
theorem cutS_h (A : Option Addr) (n cap h : Nat) (h2 : h ≤ cap) (k' : IntKind) (w : World) :
  (Instr.sliceAt 39 (.slice A n cap) none (some (.int k' h)) none).run Tryz.prog w = .ok (.slice A h cap) w := by
 rw [run_sliceAt_slice w 39 _ _ _ _ und_S, run_slice_h w 39 A n cap und_S k' h (by omega) (by omega)]
 rw [size_S]
 have := cutA_zero A cap
 simp [Result.andThen, sliced]
 unfold cutA at this
 simpa using this
theorem ret_ctt {fn : Func} {s u u' : Tmp} {ty : TypeId} {tmps : Array Value} {w : World} {a : Addr} {v : Value} (h : fn.results = #[.cell s ty, .tmp u, .tmp u']) (hp : tmps.getD s undef = .pointer (some a)) (hv : (loadVar ty a).run Tryz.prog w = .ok v w) :
  (results fn tmps).run Tryz.prog w = .ok (.tuple #[v, tmps.getD u undef, tmps.getD u' undef]) w := by
 have q : tmps[s]?.getD undef = .pointer (some a) := by simpa using hp
 simp only [results, h]
 simp [q, hv, asAddr, Result.andThen]
set_option maxRecDepth 100000 in
set_option maxHeartbeats 4000000 in
theorem used (R : Option Addr) (cap : Nat) (x0 : ShA) (l : List ShA) (t : Nat) (hok : OkShs ((x0 :: l).map ShA.s)) (ht : x0.s.thr = t) (hp : ∀ x ∈ x0 :: l, x.s.pay.length ≤ 1048576) (hn : (x0 :: l).length ≤ 1048576) (hcap : (x0 :: l).length ≤ cap) (w : World) (L : Laid w) (hS : SeesS w R (x0 :: l)) :
  Calls Tryz.prog 52 #[.slice R (x0 :: l).length cap] w fun e w' => e = .returned (.tuple #[(getF x0.s.field).val, .slice R t cap, .int .i64 0]) ∧ Below w.heap.size w w' := by
 have HC := Lib.hid (fun W (hW : Below w.heap.size w W) => checkShares R cap (x0 :: l) hok hp hn W (L.to hW) (hS.below hW))
 have HF := Lib.hid (fun W (hW : Below w.heap.size w W) => fieldGet x0.s.field W (L.to hW))
 have hg : getE x0.s.field = 0 := (checkE_ok (hok.ok x0.s (by simp))).1
 rw [hg] at HF
 have hthr : t ≤ (x0 :: l).length := by have := hok.few x0.s (by simp); rw [ht, List.length_map] at this; omega
 have hcut := cutS_h R (x0 :: l).length cap t (by omega) .i64
 have HS := Lib.hid (fun W (hW : Below w.heap.size w W) => (hS.below hW).1.share 0 (by simp))
 obtain ⟨b, o, rfl, hb, c0, c1, c2, c3, c4⟩ := HS.out w (Below.refl _ w)
 rw [Nat.zero_mul, Nat.add_zero] at c0 c1
 rw [show (x0 :: l)[0].s.thr = (t : Int) from ht] at c1
 have HC0 := Lib.hid (And.intro c0 c1)
 have hpos : (0 : Int) < ((x0 :: l).length : Int) := by rw [List.length_cons]; omega
 have hpos' : 0 < (x0 :: l).length := by rw [List.length_cons]; omega
 rw [show (x0 :: l)[0].s.field = x0.s.field from rfl] at HC0
 clear hS L hok hp hg HS c0 c1 c2 c3 c4 ht
 obtain ⟨f, hf⟩ : ∃ f, getF x0.s.field = f := ⟨_, rfl⟩
 rw [hf] at HF ⊢
 generalize x0.s.field = fd at *
 generalize (x0 :: l).length = n at *
 clear hf
 go_enter Tryz.func52, Tryz.ntmps52
 go_wp2_with fail
 (obtain ⟨W0, hW0⟩ : ∃ W0 : World, W0 = (w).alloc (.cells #[.int .i64 0, .int .u64 0, .int .u64 0, .int .u64 0, .int .u64 0, .int .u64 0, .int .u64 0, .int .u64 0, .int .u64 0, .int .u64 0, .int .u64 0, .int .u64 0, .int .u64 0, .int .u64 0] 67) := ⟨_, rfl⟩); (have gW0 : ∀ (j : Nat) (o : Obj), ([Obj.cells #[.int .i64 0, .int .u64 0, .int .u64 0, .int .u64 0, .int .u64 0, .int .u64 0, .int .u64 0, .int .u64 0, .int .u64 0, .int .u64 0, .int .u64 0, .int .u64 0, .int .u64 0, .int .u64 0] 67] : List Obj)[j]? = some o → W0.heap[w.heap.size + j]? = some o := by rw [hW0]; exact allocs_get w _); (have zW0 : W0.heap.size = w.heap.size + 1 := by rw [hW0]; exact allocs_size w [Obj.cells #[.int .i64 0, .int .u64 0, .int .u64 0, .int .u64 0, .int .u64 0, .int .u64 0, .int .u64 0, .int .u64 0, .int .u64 0, .int .u64 0, .int .u64 0, .int .u64 0, .int .u64 0, .int .u64 0] 67]); (have bW0 : Below w.heap.size w W0 := by rw [hW0]; exact allocs_below w [Obj.cells #[.int .i64 0, .int .u64 0, .int .u64 0, .int .u64 0, .int .u64 0, .int .u64 0, .int .u64 0, .int .u64 0, .int .u64 0, .int .u64 0, .int .u64 0, .int .u64 0, .int .u64 0, .int .u64 0] 67]); (rw [← hW0]); (clear hW0)
 have gZ0 : W0.heap[w.heap.size]? = some (.cells fp0.arr 67 (0, 0)) := gW0 0 _ rfl
 clear gW0
 refine (HC.out W0 bW0).mono ?_
 rintro e w1 ⟨rfl, hb1⟩
 have gZ1 := blk_below gZ0 hb1 rfl
 have bW1 := bW0.trans (hb1.mono bW0.size)
 have d0 := (World.cell?_of_block (bW1.block _ hb)).trans HC0.out.1
 clear gZ0 hb1 bW0 zW0 HC
 go_wp2_with fail
 refine (HF.out w1 bW1).mono ?_
 rintro e w2 ⟨rfl, hb2⟩
 have gZ2 := blk_below gZ1 hb2 rfl
 have bW2 := bW1.trans (hb2.mono bW1.size)
 clear gZ1 hb2 bW1 HF d0
 go_upto_region 5 with (fail)
 (obtain ⟨W3, hW3⟩ : ∃ W0 : World, W0 = (w2).alloc (.cells f.arr 67) := ⟨_, rfl⟩); (have gW3 : ∀ (j : Nat) (o : Obj), ([Obj.cells f.arr 67] : List Obj)[j]? = some o → W3.heap[w2.heap.size + j]? = some o := by rw [hW3]; exact allocs_get w2 _); (have zW3 : W3.heap.size = w2.heap.size + 1 := by rw [hW3]; exact allocs_size w2 [Obj.cells f.arr 67]); (have bW3 : Below w2.heap.size w2 W3 := by rw [hW3]; exact allocs_below w2 [Obj.cells f.arr 67]); (rw [← hW3]); (clear hW3)
 have gF3 : W3.heap[w2.heap.size]? = some _ := gW3 0 _ rfl
 have gZ3 := blk_below gZ2 bW3 rfl
 have hz2 : w.heap.size < w2.heap.size := (Array.getElem?_eq_some_iff.1 gZ2).1
 have bW3' := bW2.trans (bW3.mono bW2.size)
 have d1 := (World.cell?_of_block (bW3'.block _ hb)).trans HC0.out.2
 have pF := aggF_of_block gF3
 have pZ := aggF_of_block gZ3
 clear gW3 bW3 gZ2 bW2 HC0 zW3
 have hS0 : aggAt W3.drew 14 w2.heap.size 0 = some f.val ∧ (∃ v, aggAt W3.drew 14 w.heap.size 0 = some v) ∧ W3.drew.cell? ⟨b, o + 1, none⟩ = some (.int .i64 t) ∧ Below w.heap.size w W3.drew := ⟨pF, ⟨_, pZ⟩, d1, bW3'.drew⟩
 refine region_free (by kernel_rfl) [8, 9, 10] [0, 1, 2, 3, 4, 5, 6, 7] false (by kernel_rfl) (by kernel_rfl) (fun W' => aggAt W' 14 w2.heap.size 0 = some f.val ∧ (∃ v, aggAt W' 14 w.heap.size 0 = some v) ∧ W'.cell? ⟨b, o + 1, none⟩ = some (.int .i64 t) ∧ Below w.heap.size w W') hS0 ?_
 clear pF pZ d1
 iterate 8 (refine chainF_opL (by rfl) (by rfl) ?_ ?_ ?_; rotate_left; (focus (intro W' hS' K hK; (try simp only [put_some, List.set] at hK); (have hS'' := hS'); (obtain ⟨s0, ⟨v1, s1⟩, s2, s3⟩ := hS''); go_simp; (exact hK); done)); (try simp only [put_some, List.set]))
 refine chainF_nil ?_
 obtain ⟨s0, ⟨v1, s1⟩, s2, s3⟩ := hS0
 (refine spine_opL (by rfl) (by rfl) (fun K hK => ?_); go_simp)
 have hne : b ≠ w.heap.size := by omega
 obtain ⟨V, hV⟩ : ∃ V, V = putAgg W3 w.heap.size 0 f.arr := ⟨_, rfl⟩
 rw [← hV] at ⊢
 have v0 : aggAt V 14 w2.heap.size 0 = some f.val := by rw [hV]; exact (aggAt_congr (putAgg_block _ _ _ _ _ (by omega))).trans s0
 have v1 : V.heap[w.heap.size]? = some (.cells f.arr 67 (0, 0)) := by rw [hV]; exact vec_put gZ3 rfl
 have v2 : V.cell? ⟨b, o + 1, none⟩ = some (.int .i64 t) := by rw [hV]; exact (World.cell?_of_block (putAgg_block _ _ _ _ _ (by show b ≠ _; omega))).trans s2
 have v3 : Below w.heap.size w V := by rw [hV]; exact putAgg_below bW3' (Nat.le_refl _)
 have w1' : V.drew.heap[w.heap.size]? = some (.cells f.arr 67 (0, 0)) := v1
 have w3' : Below w.heap.size w V.drew := v3.drew
 have hS1 : aggAt V.drew 14 w2.heap.size 0 = some f.val ∧ (∃ v, aggAt V.drew 14 w.heap.size 0 = some v) ∧ V.drew.cell? ⟨b, o + 1, none⟩ = some (.int .i64 t) ∧ Below w.heap.size w V.drew := ⟨v0, ⟨_, aggF_of_block w1'⟩, v2, w3'⟩
 clear hV v0 v1 v2 v3 s0 s1 s2 s3 gF3 gZ3
 generalize V.drew = X at *
 refine hK undef _ hS1 ?_
 rw [put_none]
 clear hK K
 (refine spine_opL (by rfl) (by rfl) (fun K hK => ?_); go_simp)
 refine hK _ _ hS1 ?_
 (try simp only [put_some, List.set])
 clear hK K
 (refine spine_lastL (by rfl) (by rfl) (fun K hK => ?_); go_simp)
 refine hK _ _ (fun h => by cases h) ?_
 (try simp only [put_some, List.set])
 clear hK K
 have pR := aggF_of_block w1'
 go_wp2_with fail
 exact bodyPost_ret (ret_ctt Tryz.results52 rfl (atF pR)) rfl ⟨rfl, w3'⟩
end Go.Proofs.YtccgfladbibjbaaGreatDoor
