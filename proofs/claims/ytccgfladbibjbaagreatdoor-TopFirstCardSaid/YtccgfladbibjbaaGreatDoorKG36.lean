/- record.Decode. -/
import Derived.Test.YtccgfladbibjbaaGreatDoorKG06
import Derived.Test.YtccgfladbibjbaaGreatDoorKG01
import Derived.Test.YtccgfladbibjbaaGreatDoorKG33
import Derived.Test.YtccgfladbibjbaaGreatDoorKG18
import Derived.Test.YtccgfladbibjbaaGreatDoorKG12
import Derived.Test.YtccgfladbibjbaaGreatDoorKG34
import Derived.Test.YtccgfladbibjbaaGreatDoorKG13
namespace Go.Proofs.YtccgfladbibjbaaGreatDoor
open Go.RowKit
attribute [local go_sem ↓] add_UU sub_UU mul_UU add_UL add_LU sub_UL sub_LU mul_UL neg_at not_at and_UU or_UU xor_UU andNot_UU and_UL or_LU shr_UL shl_UL shr_UN shl_UN shl_LN quo_UL rem_UL quo_UU rem_UU
attribute [local go_sem] wrap64_N wrapi_mod wrap8_U wrap32_U wrap64_B wrap32_B wrap8_D wrapi_B wrap64_UU eq_UU ne_UU eq_UL ne_UL lt_UU le_UU
attribute [local simp] putAgg_size
attribute [local go_sem ↓] loadVar_F loadVar_E loadVar_V loadVar_B32 storeVar_F storeVar_E storeVar_V storeVar_B32 box_F box_E box_V box_B32
attribute [local go_sem ↓ high] V4.cells_val FP.cells_val
attribute [local go_sem] run_loadF run_loadE run_loadV run_loadB32 run_storeF run_storeE run_storeV run_storeB32 run_boxA aggAt_drew aggAt_drewN aggAt_alloc_new aggAt_alloc_past aggAt_setCell_other aggAt_putAgg_other aggAt_putAgg_new putAgg_drew putAgg_size putAgg_alloc_new putAgg_alloc_past putAgg_cell_other putAgg_frozen_other V4.agg_arr FP.agg_arr V4.size_arr FP.size_arr V4.fits FP.fits fitsA_agg4 lt_2 ne_2 en_2 lt_3 ne_3 en_3 lt_4 ne_4 en_4 lt_5 ne_5 en_5 lt_6 ne_6 en_6
def hdr (l : List (BitVec 8)) (j : Nat) : Int := ((l[j]?.getD 0#8).toNat : Int)
def recLen (l : List (BitVec 8)) : Int := hdr l 4 + 256 * hdr l 5
def recChunk (l : List (BitVec 8)) (k : Nat) : List (BitVec 8) := (l.drop (6 + 32 * k)).take 32
def elsE (f : FP) (l : List (BitVec 8)) : Nat → Int
 | 0 => 0
 | k + 1 => if elsE f l k = 0 then decE f (recChunk l k) else elsE f l k
def els (f : FP) (l : List (BitVec 8)) (k : Nat) : List V4 := (List.range k).map fun j => decX f (recChunk l j)
theorem els_length (f : FP) (l : List (BitVec 8)) (k : Nat) : (els f l k).length = k := by simp [els]
theorem els_succ (f : FP) (l : List (BitVec 8)) (k : Nat) : els f l (k + 1) = els f l k ++ [decX f (recChunk l k)] := by simp [els, List.range_succ]
def recE (l : List (BitVec 8)) : Int :=
 if l.length < 38 then 8 else if hdr l 0 ≠ 1 then 11 else if getE (hdr l 1) ≠ 0 then getE (hdr l 1) else if hdr l 2 = 0 then 4 else if hdr l 3 = 0 then 12 else if l.length ≠ 38 + 32 * cnt (recLen l) then 8
 else if elsE (getF (hdr l 1)) l (cnt (recLen l)) ≠ 0 then elsE (getF (hdr l 1)) l (cnt (recLen l)) else if sumL (l.take (l.length - 32)) = l.drop (l.length - 32) then 0 else 13
def recS (l : List (BitVec 8)) : Sh := if recE l = 0 then ⟨hdr l 1, hdr l 2, hdr l 3, recLen l, els (getF (hdr l 1)) l (cnt (recLen l))⟩ else ⟨0, 0, 0, 0, []⟩
theorem loadVar_Sh (a : Addr) : loadVar 26 a = loadA 26 5 a := rfl
theorem storeVar_Sh (a : Addr) (v : Value) : storeVar 26 a v = storeA 26 5 a v := rfl
theorem run_loadSh (b o : Nat) (w : World) (h : (aggAt w 5 b o).isSome = true) : (loadA 26 5 ⟨b, o, none⟩).run Tryz.prog w = .ok ((aggAt w 5 b o).getD undef) w := run_loadA _ Tryz.underlying26 rfl (by kernel_rfl) b o w h
theorem run_storeSh (b o : Nat) (v : Value) (w : World) (h : (aggAt w 5 b o).isSome = true) (hf : fitsA 5 v = true) : (storeA 26 5 ⟨b, o, none⟩ v).run Tryz.prog w = .ok () (putAgg w b o v.cells) := run_storeA (by kernel_rfl) b o v w h hf
theorem fits_Sh (a b c d : Int) (A : Option Addr) (n k : Nat) : fitsA 5 (.agg #[.int .i64 a, .int .i64 b, .int .i64 c, .int .i64 d, .slice A n k]) = true := by simp [fitsA, Value.oneCell', Value.cells]
theorem atSh {b o : Nat} {w : World} {v : Value} (h : aggAt w 5 b o = some v) : (loadVar 26 ⟨b, o, none⟩).run Tryz.prog w = .ok v w := loadVar_at _ Tryz.underlying26 rfl (by kernel_rfl) h
theorem aggSh_of_block {w : World} {b : Nat} {cs : Array Value} (h : w.heap[b]? = some (.cells cs 26 (0, 0))) (hs : cs.size = 5) : aggAt w 5 b 0 = some (.agg cs) := aggAt_whole h hs
attribute [local go_sem ↓] loadVar_Sh storeVar_Sh
attribute [local go_sem] run_loadSh run_storeSh fits_Sh
theorem elsE_stick (f : FP) (l : List (BitVec 8)) (k : Nat) (h : elsE f l k ≠ 0) : ∀ m, elsE f l (k + m) = elsE f l k
 | 0 => rfl
 | m + 1 => by rw [← Nat.add_assoc, elsE, elsE_stick f l k h m, if_neg h]
theorem decE_or (f : FP) (l : List (BitVec 8)) : decE f l = 0 ∨ decE f l = 9 := by unfold decE; split <;> simp
theorem recChunk_length (l : List (BitVec 8)) (k : Nat) (h : 38 + 32 * k ≤ l.length) : (recChunk l k).length = 32 := by unfold recChunk; rw [List.length_take, List.length_drop]; omega
theorem recChunk_get (l : List (BitVec 8)) (k j : Nat) (hj : j < 32) : (recChunk l k)[j]? = l[6 + 32 * k + j]? := by
 unfold recChunk
 rw [List.getElem?_take, if_pos hj, List.getElem?_drop]
theorem grownBy_putAgg (W : World) (b o : Nat) (cs : Array Value) : W.grownBy (putAgg W b o cs) (some b) := by
 have h := putAgg_below (cs := cs) (o := o) (Below.refl 0 W) (Nat.zero_le b)
 exact ⟨h.os, h.tape, h.output, h.size, fun k _ hk => putAgg_block W b o cs k (fun e => hk (by rw [e]))⟩
theorem OwnE.putAgg {w : World} {base b o : Nat} {v : Value} {l : List V4} (h : OwnE w base v l) (hb : b < base) (cs : Array Value) : OwnE (putAgg w b o cs) base v l := by
 refine h.kept (grownBy_putAgg w b o cs) ?_
 cases hw : v.ownBlock with
 | none => exact .inl rfl
 | some j => exact .inr fun e => by injection e with e; have := (h.lt j hw).1; omega
structure DeI (w : World) (f : FP) (l : List (BitVec 8)) (h1 h2 h3 rl : Int) (n k : Nat) (pv : Value) (W : World) : Prop where
 K : k ≤ n
 N : l.length = 38 + 32 * n
 E : elsE f l k = 0
 R : recE l = (if elsE f l n ≠ 0 then elsE f l n else if sumL (l.take (l.length - 32)) = l.drop (l.length - 32) then 0 else 13)
 S : W.heap[w.heap.size + 1]? = some (.cells #[.int .i64 h1, .int .i64 h2, .int .i64 h3, .int .i64 rl, pv] 26 (0, 0))
 O : OwnE W (w.heap.size + 3) pv (els f l k)
 F : W.heap[w.heap.size + 1 + 1]? = some (.cells f.arr 67 (0, 0))
 Z : W.heap[w.heap.size]? = some (.cells #[.int .i64 0, .int .i64 0, .int .i64 0, .int .i64 0, .slice none 0 0] 26 (0, 0))
 B : Below w.heap.size w W
 T : w.heap.size + 3 ≤ W.heap.size
theorem DeI.below {w W W' : World} {f : FP} {l : List (BitVec 8)} {h1 h2 h3 rl : Int} {n k : Nat} {pv : Value} (h : DeI w f l h1 h2 h3 rl n k pv W) (hb : Below W.heap.size W W') : DeI w f l h1 h2 h3 rl n k pv W' :=
 ⟨h.K, h.N, h.E, h.R, blk_below h.S hb rfl, h.O.below hb, blk_below h.F hb rfl, blk_below h.Z hb rfl, h.B.trans (hb.mono h.B.size), Nat.le_trans h.T hb.size⟩
theorem DeI.step {w W W' : World} {f : FP} {l : List (BitVec 8)} {h1 h2 h3 rl : Int} {n k : Nat} {pv pv' : Value} (h : DeI w f l h1 h2 h3 rl n k pv W) (hk : k < n) (he : decE f (recChunk l k) = 0) (hg : W.grownBy W' pv.ownBlock) (ho : OwnE W' (w.heap.size + 3) pv' (els f l (k + 1))) : DeI w f l h1 h2 h3 rl n (k + 1) pv' (W'.setCell ⟨w.heap.size + 1, 4, none⟩ pv') := by
 obtain ⟨_, N, E, R, S, O, F, Z, B, T⟩ := h
 have hlo : ∀ j, pv.ownBlock = some j → w.heap.size + 3 ≤ j := fun j e => (O.lt j e).1
 have hne : ∀ j, j < w.heap.size + 3 → some j ≠ pv.ownBlock := fun j hj e => by have := hlo j e.symm; omega
 have g := grownBy_setC W' (w.heap.size + 1) 4 pv'
 have hs := hg.size
 refine ⟨by omega, N, by rw [elsE, if_pos E]; exact he, R, ?_, ho.kept g ?_, (g.block _ (by omega) (fun e => by injection e; omega)).trans ((hg.block _ (by omega) (hne _ (by omega))).trans F), (g.block _ (by omega) (fun e => by injection e; omega)).trans ((hg.block _ (by omega) (hne _ (by omega))).trans Z), (B.grown hg B.size (fun j e => by have := hlo j e; omega)).setCell (by simp) _, by simp; omega⟩
 ·exact row_set (cs := [.int .i64 h1, .int .i64 h2, .int .i64 h3, .int .i64 rl, pv]) ((hg.block _ (by omega) (hne _ (by omega))).trans S) 4 pv'
 ·cases hw : pv'.ownBlock with
  | none => exact .inl rfl
  | some j => exact .inr fun e => by injection e with e; have := (ho.lt j hw).1; omega
set_option maxRecDepth 100000 in
set_option maxHeartbeats 4000000 in
theorem recDecode (A : Option Addr) (cap : Nat) (l : List (BitVec 8)) (hl : l.length ≤ 1073741824) (hcap : l.length ≤ cap) (w : World) (L : Laid w) (hS : Sees w A (byteVals l)) :
  Calls Tryz.prog 8 #[.slice A l.length cap] w fun e w' => ∃ X : ShA, e = .returned (.tuple #[X.s.val X.A X.cap, .int .i64 (recE l)]) ∧ X.s = recS l ∧ OwnE w' w.heap.size X.pv X.s.pay ∧ Below w.heap.size w w' := by
 obtain ⟨e0, he0, ea0, ea1, ea2⟩ := info_parts info_E
 have HS := Lib.hid (fun W (hW : Below w.heap.size w W) => And.intro (L.to hW) (hS.below hW))
 clear hS L
 have HRS := Lib.hid (show recS l = if recE l = 0 then ⟨hdr l 1, hdr l 2, hdr l 3, recLen l, els (getF (hdr l 1)) l (cnt (recLen l))⟩ else ⟨0, 0, 0, 0, []⟩ from rfl)
 go_enter Tryz.func8, Tryz.ntmps8
 go_wp2
 (obtain ⟨Wa, hWa⟩ : ∃ W0 : World, W0 = (w).alloc (.cells #[.int .i64 0, .int .i64 0, .int .i64 0, .int .i64 0, .slice none 0 0] 26) := ⟨_, rfl⟩); (have gWa : ∀ (j : Nat) (o : Obj), ([Obj.cells #[.int .i64 0, .int .i64 0, .int .i64 0, .int .i64 0, .slice none 0 0] 26] : List Obj)[j]? = some o → Wa.heap[w.heap.size + j]? = some o := by rw [hWa]; exact allocs_get w _); (have zWa : Wa.heap.size = w.heap.size + 1 := by rw [hWa]; exact allocs_size w [Obj.cells #[.int .i64 0, .int .i64 0, .int .i64 0, .int .i64 0, .slice none 0 0] 26]); (have bWa : Below w.heap.size w Wa := by rw [hWa]; exact allocs_below w [Obj.cells #[.int .i64 0, .int .i64 0, .int .i64 0, .int .i64 0, .slice none 0 0] 26]); (rw [← hWa]); (clear hWa)
 have gR0 : Wa.heap[w.heap.size]? = some _ := gWa 0 _ rfl
 clear gWa
 by_cases h38 : l.length < 38
 ·refine wp_scope_loop (fun _ _ => False) (fun _ _ => 0) rfl rfl (fun _ _ h => h.elim) ?_
  intro HP
  have HE := Lib.hid (show recE l = 8 from by unfold recE; rw [if_pos h38])
  go_wp2
  go_step3
  (obtain ⟨W1, hW1⟩ : ∃ W0 : World, W0 = ((Wa).alloc (.cells #[.int .i64 0, .int .i64 0, .int .i64 0, .int .i64 0, .slice none 0 0] 26)).alloc (.cells #[.int .i64 0, .int .u64 0, .int .u64 0, .int .u64 0, .int .u64 0, .int .u64 0, .int .u64 0, .int .u64 0, .int .u64 0, .int .u64 0, .int .u64 0, .int .u64 0, .int .u64 0, .int .u64 0] 67) := ⟨_, rfl⟩); (have gW1 : ∀ (j : Nat) (o : Obj), ([Obj.cells #[.int .i64 0, .int .i64 0, .int .i64 0, .int .i64 0, .slice none 0 0] 26, Obj.cells #[.int .i64 0, .int .u64 0, .int .u64 0, .int .u64 0, .int .u64 0, .int .u64 0, .int .u64 0, .int .u64 0, .int .u64 0, .int .u64 0, .int .u64 0, .int .u64 0, .int .u64 0, .int .u64 0] 67] : List Obj)[j]? = some o → W1.heap[Wa.heap.size + j]? = some o := by rw [hW1]; exact allocs_get Wa _); (have zW1 : W1.heap.size = Wa.heap.size + 2 := by rw [hW1]; exact allocs_size Wa [Obj.cells #[.int .i64 0, .int .i64 0, .int .i64 0, .int .i64 0, .slice none 0 0] 26, Obj.cells #[.int .i64 0, .int .u64 0, .int .u64 0, .int .u64 0, .int .u64 0, .int .u64 0, .int .u64 0, .int .u64 0, .int .u64 0, .int .u64 0, .int .u64 0, .int .u64 0, .int .u64 0, .int .u64 0] 67]); (have bW1 : Below Wa.heap.size Wa W1 := by rw [hW1]; exact allocs_below Wa [Obj.cells #[.int .i64 0, .int .i64 0, .int .i64 0, .int .i64 0, .slice none 0 0] 26, Obj.cells #[.int .i64 0, .int .u64 0, .int .u64 0, .int .u64 0, .int .u64 0, .int .u64 0, .int .u64 0, .int .u64 0, .int .u64 0, .int .u64 0, .int .u64 0, .int .u64 0, .int .u64 0, .int .u64 0] 67]); (rw [← hW1]); (clear hW1)
  have hR1 := blk_below gR0 bW1 rfl
  have hB1 := bWa.trans (bW1.mono bWa.size)
  clear gW1
  have pRR := aggSh_of_block hR1 rfl
  show Code.wp _ _ _ _ _
  go_wp2
  rw [jumps_ret]
  exact end_ct Tryz.results8 rfl (atSh (aggSh_of_block (vec_put hR1 rfl) rfl)) rfl ⟨⟨⟨0, 0, 0, 0, []⟩, none, 0⟩, by rw [HE.out]; rfl, by rw [HRS.out, HE.out]; rfl, ownE_nil _ _, putAgg_below hB1 (Nat.le_refl _)⟩
 ·have h38' : ¬ ((l.length : Int) < 38) := by omega
  have HRE := Lib.hid (show recE l = (if hdr l 0 ≠ 1 then 11 else if getE (hdr l 1) ≠ 0 then getE (hdr l 1) else if hdr l 2 = 0 then 4 else if hdr l 3 = 0 then 12 else if l.length ≠ 38 + 32 * cnt (recLen l) then 8
 else if elsE (getF (hdr l 1)) l (cnt (recLen l)) ≠ 0 then elsE (getF (hdr l 1)) l (cnt (recLen l)) else if sumL (l.take (l.length - 32)) = l.drop (l.length - 32) then 0 else 13) from by
   unfold recE; rw [if_neg h38])
  obtain ⟨b, o, rfl, hc⟩ := (HS.out w (Below.refl _ w)).2 (by rw [byteVals_length]; omega)
  have hbb : b < w.heap.size := Sees.lt (HS.out w (Below.refl _ w)).2 (by rw [byteVals_length]; omega)
  have HC := Lib.hid (fun W (hW : Below w.heap.size w W) j (hj : j < l.length) => show W.cell? ⟨b, o + j, none⟩ = some (.int .u8 (hdr l j)) from by
   rw [World.cell?_of_block (hW.block b hbb), hc j (by rw [byteVals_length]; exact hj), byteVals_get l j hj]
   rfl)
  have hr : ∀ j, 0 ≤ hdr l j ∧ hdr l j < 256 := fun j => by unfold hdr; omega
  have hrl : 0 ≤ recLen l ∧ recLen l ≤ 65535 := by have := hr 4; have := hr 5; unfold recLen; omega
  have HRL := Lib.hid (show recLen l = hdr l 4 + 256 * hdr l 5 from rfl)
  have HR := Lib.hid hr
  have hC0 := fun W (hW : Below w.heap.size w W) => HC.out W hW 0 (by omega)
  have hC1 := fun W (hW : Below w.heap.size w W) => HC.out W hW 1 (by omega)
  have hC2 := fun W (hW : Below w.heap.size w W) => HC.out W hW 2 (by omega)
  have hC3 := fun W (hW : Below w.heap.size w W) => HC.out W hW 3 (by omega)
  have hC4 := fun W (hW : Below w.heap.size w W) => HC.out W hW 4 (by omega)
  have hC5 := fun W (hW : Below w.heap.size w W) => HC.out W hW 5 (by omega)
  have hr0 := hr 0
  have hr1 := hr 1
  have hr2 := hr 2
  have hr3 := hr 3
  have hr4 := hr 4
  have hr5 := hr 5
  generalize hdr l 0 = h0 at *
  generalize hdr l 1 = h1 at *
  generalize hdr l 2 = h2 at *
  generalize hdr l 3 = h3 at *
  generalize hdr l 4 = h4 at *
  generalize hdr l 5 = h5 at *
  generalize recLen l = rl at *
  obtain ⟨f, hf⟩ : ∃ f, getF h1 = f := ⟨_, rfl⟩
  obtain ⟨n, hn⟩ : ∃ n, cnt rl = n := ⟨_, rfl⟩
  rw [hf, hn] at HRE HRS
  have HF := Lib.hid (And.intro hf hn)
  have HCC := Lib.hid (And.intro hC0 (And.intro hC1 (And.intro hC2 (And.intro hC3 (And.intro hC4 hC5)))))
  clear hC0 hC1 hC2 hC3 hC4 hC5 hf hn hr hc
  refine wp_scope_loop (fun a W => ∃ (k : Nat) (pv x7 x8 u64 u65 u66 u67 u68 u69 u70 u71 u72 u73 u74 u75 u76 u77 u78 u79 u80 u81 u82 u83 u84 u85 u86 u87 u88 : Value), x7 = .int .i64 ((6 + 32 * k : Nat) : Int) ∧ a = { tmps := #[.slice (some ⟨b, o, none⟩) l.length cap, undef, .pointer (some ⟨w.heap.size, 0, none⟩), .int .i64 0, .pointer (some ⟨w.heap.size + 1, 0, none⟩), .int .i64 0, .pointer (some ⟨w.heap.size + 1 + 1, 0, none⟩), x7, x8, .slice (some ⟨b, o, none⟩) l.length cap, .int .i64 l.length, .bool false, .slice (some ⟨b, o, none⟩) l.length cap, .pointer (some ⟨b, o + 1, none⟩), .int .u8 h1, .int .i64 h1, .slice (some ⟨b, o, none⟩) l.length cap, .pointer (some ⟨b, o + 2, none⟩), .int .u8 h2, .int .i64 h2, .slice (some ⟨b, o, none⟩) l.length cap, .pointer (some ⟨b, o + 3, none⟩), .int .u8 h3, .int .i64 h3, .slice (some ⟨b, o, none⟩) l.length cap, .pointer (some ⟨b, o + 4, none⟩), .int .u8 h4, .int .i64 h4, .slice (some ⟨b, o, none⟩) l.length cap, .pointer (some ⟨b, o + 5, none⟩), .int .u8 h5, .int .i64 h5, .int .i64 (h5 * 256), .int .i64 rl, .agg #[.int .i64 h1, .int .i64 h2, .int .i64 h3, .int .i64 rl, .slice none 0 0], .slice (some ⟨b, o, none⟩) l.length cap, .pointer (some ⟨b, o, none⟩), .int .u8 1, .bool false, .tuple #[f.val, .int .i64 0], .pointer (some ⟨w.heap.size + 1, 0, none⟩), .int .i64 h1, .tuple #[f.val, .int .i64 0], f.val, .int .i64 0, .int .i64 0, .bool false, .bool false, .pointer (some ⟨w.heap.size + 1, 1, none⟩), .int .i64 h2, .bool false, .bool false, .pointer (some ⟨w.heap.size + 1, 2, none⟩), .int .i64 h3, .bool false, .bool false, .slice (some ⟨b, o, none⟩) l.length cap, .int .i64 (38 + 32 * (n : Int)), .pointer (some ⟨w.heap.size + 1, 3, none⟩), .int .i64 rl, .int .i64 (38 + 32 * (n : Int)), .bool false, .int .i64 0, .bool false, u64, u65, u66, u67, u68, u69, u70, u71, u72, u73, u74, u75, u76, u77, u78, u79, u80, u81, u82, u83, u84, u85, u86, u87, u88, undef, undef, undef, undef, undef], defers := [] } ∧ DeI w f l h1 h2 h3 rl n k pv W) (fun a _ => l.length - (intOf (a.tmps.getD 7 undef)).toNat) rfl rfl ?passB ?firstB
  case passB =>
   rintro a W ⟨k, pv, x7, x8, u64, u65, u66, u67, u68, u69, u70, u71, u72, u73, u74, u75, u76, u77, u78, u79, u80, u81, u82, u83, u84, u85, u86, u87, u88, rfl, rfl, hI⟩
   have HI := Lib.hid hI
   have hkn := hI.K
   have hnb : n ≤ 2115 := by rw [← HF.out.2]; exact cnt_le _
   have hln := hI.N
   have hw32 : IntKind.i64.wrap ((l.length : Int) - 32) = (l.length : Int) - 32 := by rw [IntKind.wrap_i64]; omega
   by_cases hlt : k < n
   ·have hcmp : (((6 + 32 * k : Nat) : Int) < (l.length : Int) - 32) := by omega
    have hch := recChunk_length l k (by omega)
    have hc0 : 0 ≤ ((6 + 32 * k : Nat) : Int) + 32 := by omega
    have hc1 : ((6 + 32 * k : Nat) : Int) + 32 ≤ (cap : Int) := by omega
    have hc2 : (((6 + 32 * k : Nat) : Int) + 32).toNat = 6 + 32 * k + 32 := by omega
    have hc3 : ¬ cap = 6 + 32 * k := by omega
    have hD := fun W (hW : Below w.heap.size w W) => bcDecode f b (o + (6 + 32 * k)) (cap - (6 + 32 * k)) (recChunk l k) hch W (fun j hj => by
     rw [Nat.add_assoc, HC.out W hW (6 + 32 * k + j) (by omega), recChunk_get l k j hj]
     rfl)
    have HD := Lib.hid hD
    have hel : elsE f l (k + 1) = decE f (recChunk l k) := by rw [elsE, if_pos hI.E]
    have hes := els_succ f l k
    have HEL := Lib.hid (And.intro hel hes)
    obtain ⟨x, hx⟩ : ∃ x, decX f (recChunk l k) = x := ⟨_, rfl⟩
    obtain ⟨ee, hee⟩ : ∃ ee, decE f (recChunk l k) = ee := ⟨_, rfl⟩
    rw [hx, hee] at HD HEL
    have hor : ee = 0 ∨ ee = 9 := by rw [← hee]; exact decE_or f (recChunk l k)
    have HEE := Lib.hid (And.intro hee hor)
    clear hor
    have hw2 : IntKind.i64.wrap (((6 + 32 * k : Nat) : Int) + 32) = ((6 + 32 * k : Nat) : Int) + 32 := by rw [IntKind.wrap_i64]; omega
    clear hI hD hel hes hx hee hch
    generalize hat : 6 + 32 * k = at0 at *
    have HLN := Lib.hid (And.intro hln hat)
    clear hln hat hkn
    go_wp2_with fail
    (obtain ⟨W1, hW1⟩ : ∃ W0 : World, W0 = (W).alloc (.cells #[.int .u64 0, .int .u64 0, .int .u64 0, .int .u64 0] 50) := ⟨_, rfl⟩); (have gW1 : ∀ (j : Nat) (o : Obj), ([Obj.cells #[.int .u64 0, .int .u64 0, .int .u64 0, .int .u64 0] 50] : List Obj)[j]? = some o → W1.heap[W.heap.size + j]? = some o := by rw [hW1]; exact allocs_get W _); (have zW1 : W1.heap.size = W.heap.size + 1 := by rw [hW1]; exact allocs_size W [Obj.cells #[.int .u64 0, .int .u64 0, .int .u64 0, .int .u64 0] 50]); (have bW1 : Below W.heap.size W W1 := by rw [hW1]; exact allocs_below W [Obj.cells #[.int .u64 0, .int .u64 0, .int .u64 0, .int .u64 0] 50]); (rw [← hW1]); (clear hW1)
    have gX1 : W1.heap[W.heap.size]? = some (.cells V4.zero.arr 50 (0, 0)) := gW1 0 _ rfl
    have HI1 := Lib.hid (HI.out.below bW1)
    have pF := aggF_of_block HI1.out.F
    have hzW := HI.out.T
    have hS0 : Below W.heap.size W W1.drew ∧ aggAt W1.drew 14 (w.heap.size + 1 + 1) 0 = some f.val ∧ (∃ v : V4, W1.drew.heap[W.heap.size]? = some (.cells v.arr 50 (0, 0))) := ⟨bW1.drew, pF, ⟨_, gX1⟩⟩
    have hSB : ∀ X Y : World, (Below W.heap.size W X ∧ aggAt X 14 (w.heap.size + 1 + 1) 0 = some f.val ∧ (∃ v : V4, X.heap[W.heap.size]? = some (.cells v.arr 50 (0, 0)))) → Below X.heap.size X Y → (Below W.heap.size W Y ∧ aggAt Y 14 (w.heap.size + 1 + 1) 0 = some f.val ∧ (∃ v : V4, Y.heap[W.heap.size]? = some (.cells v.arr 50 (0, 0)))) := fun X Y h hb => ⟨h.1.trans (hb.mono h.1.size), agg_keep h.2.1 hb, by obtain ⟨v, hv⟩ := h.2.2; exact ⟨v, blk_below hv hb rfl⟩⟩
    have HBw := HI.out.B
    refine region_later (by kernel_rfl) [10, 11] [0, 1, 2, 3, 4, 5, 6, 7, 8, 9] true (by kernel_rfl) (by kernel_rfl) (fun X => Below W.heap.size W X ∧ aggAt X 14 (w.heap.size + 1 + 1) 0 = some f.val ∧ (∃ v : V4, X.heap[W.heap.size]? = some (.cells v.arr 50 (0, 0)))) hS0 ?_
    clear pF gX1 gW1
    iterate 10 (refine chainL_op (by rfl) (by rfl) ?_ ?_ ?_; rotate_left; (focus (intro W' hS' K hK; (try simp only [put_some, List.set] at hK); (have hS'' := hS'); (obtain ⟨s0, s1, v1, s2⟩ := hS''); go_simp; (first | exact hK _ hS' (Later.refl _) | (with_reducible refine Calls.mono (HD.out W' (HBw.trans (s0.mono HBw.size))) ?_; rintro e W'' ⟨rfl, hb''⟩; exact hK _ (hSB _ _ hS' hb'') (Later.of hb''))); done)); (try simp only [put_some, List.set]))
    refine chainL_nil ?_
    refine spineL_op (by rfl) (by rfl) (fun X hS1 hL1 K hK => ?_)
    obtain ⟨s0, s1, v1, s2⟩ := hS1
    have pX := agg_of_block s2
    go_simp
    obtain ⟨V, hV⟩ : ∃ V, V = putAgg X W.heap.size 0 x.arr := ⟨_, rfl⟩
    have bV : Below W.heap.size W V := by rw [hV]; exact putAgg_below s0 (Nat.le_refl _)
    have gXV : V.heap[W.heap.size]? = some (.cells x.arr 50 (0, 0)) := by rw [hV]; exact vec_put s2 rfl
    have HIV := Lib.hid (HI.out.below bV)
    have pFV := aggF_of_block HIV.out.F
    rw [← hV]
    refine hK undef _ (fun _ => ⟨bV, pFV, ⟨_, gXV⟩⟩) ?_
    rw [put_none]
    clear hK K hV s0 s1 s2 pX hL1
    refine spineL_op (by rfl) (by rfl) (fun X2 hS2 hL2 K hK => ?_)
    go_simp
    refine hK _ _ (fun _ => hS2) ?_
    (try simp only [put_some, List.set])
    clear hK K hS2
    refine spineL_nil fun X3 hL3 hS3 => ?_
    have HI3 := Lib.hid ((HIV.out.below hL2).below hL3)
    have gX3 := blk_below (blk_below gXV hL2 rfl) hL3 rfl
    clear hL2 hL3 hS3 HIV pFV gXV bV hSB hS0 HI1 HI
    by_cases h9 : ee = 0
    ·subst h9
     obtain ⟨Ap, cp, hpv, hcp, hsp, -⟩ := HI3.out.O.open
     have d4 : X3.cell? ⟨w.heap.size + 1, 4, none⟩ = some pv := row_cell (cs := [.int .i64 h1, .int .i64 h2, .int .i64 h3, .int .i64 rl, pv]) HI3.out.S 4 rfl
     have px := agg_of_block gX3
     clear hpv hcp hsp
     obtain ⟨Y, hY⟩ : ∃ Y, Y = X3.alloc (.cells (eVals [x]).toArray 50) := ⟨_, rfl⟩
     have bY : Below X3.heap.size X3 Y := by rw [hY]; exact (Below.refl _ X3).alloc (Nat.le_refl _) _
     have sY : Sees Y (some ⟨X3.heap.size, 0, none⟩) (eVals [x]) := by rw [hY]; exact (IsEsT.new (t := 50) X3 [x] _ rfl).sees
     have HIY := Lib.hid (And.intro (HI3.out.below bY) sY)
     have hzY := HIY.out.1.T
     clear bY sY
     go_wp2_with (at_builtin; rw [fold1]; rw [← hY]; refine wpList_append_sees rfl (.tmp 82) (.tmp 84) 24 rfl (w.heap.size + 3) 50 e0 _ 4 32 Tryz.underlying24 he0 ea0 ea1 ea2 rfl (by decide) pv k (eVals (els f l k)) rfl ?c1 (some ⟨X3.heap.size, 0, none⟩) 1 1 (eVals [x]) rfl (by rw [eVals_length]; rfl) HIY.out.2 (eVals_one _) (by unfold maxLen; omega) (by omega) hzY ?_)
     case c1 =>
      rw [← hY]
      have := HIY.out.1.O
      unfold OwnE at this
      rwa [els_length] at this
     intro v' w4 hown hg _
     rw [← hY] at hg
     have hov : OwnE w4 (w.heap.size + 3) v' (els f l (k + 1)) := by rw [HEL.out.2]; exact OwnE.grew (els_length f l k) hown
     have hlo : ∀ j, pv.ownBlock = some j → w.heap.size + 3 ≤ j := fun j e => (HIY.out.1.O.lt j e).1
     have gS4 : w4.heap[w.heap.size + 1]? = some (.cells #[.int .i64 h1, .int .i64 h2, .int .i64 h3, .int .i64 rl, pv] 26 (0, 0)) := (hg.block _ (by omega) (fun e => by have := hlo _ e.symm; omega)).trans HIY.out.1.S
     have p4 : w4.cell? ⟨w.heap.size + 1, 4, none⟩ = some pv := row_cell (cs := [.int .i64 h1, .int .i64 h2, .int .i64 h3, .int .i64 rl, pv]) gS4 4 rfl
     have f4 := row_frozen gS4 4
     have HR := Lib.hid (HIY.out.1.step hlt HEE.out.1 hg hov)
     obtain ⟨Av, cv, rfl, -⟩ := hov.open
     clear hov hown hg gS4 HIY HI3 hY px d4
     go_wp2
     go_step3
     refine And.intro ⟨k + 1, .slice Av (els f l (k + 1)).length cv, _, _, _, _, _, _, _, _, _, _, _, _, _, _, _, _, _, _, _, _, _, _, _, _, _, _, _, ?_, rfl, HR.out⟩ ?_
     ·have := HLN.out.2
      congr 1
      omega
     ·have := HLN.out
      simp [intOf]
      omega
    ·have hee9 : (ee != 0) = true := by simpa using h9
     have HE := Lib.hid (show recE l = ee from by
      rw [HI3.out.R]
      have h1 : elsE f l (k + 1) ≠ 0 := by rw [HEL.out.1]; exact h9
      have h2 := elsE_stick f l (k + 1) h1 (n - (k + 1))
      rw [show k + 1 + (n - (k + 1)) = n from by omega, HEL.out.1] at h2
      rw [h2, if_pos h9])
     have HN9 := Lib.hid h9
     have gZ := HI3.out.Z
     have bZ := HI3.out.B
     go_wp2
     go_step3
     have pRR := aggSh_of_block gZ rfl
     show Code.wp _ _ _ _ _
     go_wp2
     rw [jumps_ret]
     exact end_ct Tryz.results8 rfl (atSh (aggSh_of_block (vec_put gZ rfl) rfl)) rfl ⟨⟨⟨0, 0, 0, 0, []⟩, none, 0⟩, by rw [HE.out]; rfl, by rw [HRS.out, HE.out, if_neg HN9.out], ownE_nil _ _, putAgg_below bZ (Nat.le_refl _)⟩
   ·obtain rfl : k = n := by omega
    have hcmp : ¬ (((6 + 32 * k : Nat) : Int) < (l.length : Int) - 32) := by omega
    have hS := HS.out W hI.B
    have hT := recSame (some ⟨b, o, none⟩) cap l (6 + 32 * k) W hS.1 hS.2 hcap (by omega) (by omega)
    have hl6 : 6 + 32 * k = l.length - 32 := by omega
    rw [hl6] at hT
    have hRE := hI.R
    rw [if_neg (fun h => h hI.E)] at hRE
    have HTT := Lib.hid hT
    clear hI hS hT hln hl6
    go_wp2_with fail
    refine HTT.out.mono ?_
    rintro e W2 ⟨rfl, hb2⟩
    have HI2 := Lib.hid (HI.out.below hb2)
    clear hb2 HTT HI
    by_cases ht : sumL (l.take (l.length - 32)) = l.drop (l.length - 32)
    ·have HE := Lib.hid (show recE l = 0 from by rw [hRE, if_pos ht])
     rw [decide_eq_true ht]
     obtain ⟨Ap, cp, hpv, hcp, hsp, -⟩ := HI2.out.O.open
     subst hpv
     have gS := HI2.out.S
     have pS := aggSh_of_block gS rfl
     have pZ := aggSh_of_block HI2.out.Z rfl
     have HT := Lib.hid ht
     clear ht hRE hcp hsp
     go_wp2
     rw [jumps_ret]
     have hO := fun cs => (HI2.out.O.putAgg (b := w.heap.size) (o := 0) (by omega) cs).base_le (base' := w.heap.size) (by omega)
     exact end_ct Tryz.results8 rfl (atSh (aggSh_of_block (vec_put HI2.out.Z rfl) rfl)) rfl ⟨⟨⟨h1, h2, h3, rl, els f l k⟩, Ap, cp⟩, by rw [HE.out]; rfl, by rw [HRS.out, HE.out, if_pos rfl], hO _, putAgg_below HI2.out.B (Nat.le_refl _)⟩
    ·have HE := Lib.hid (show recE l = 13 from by rw [hRE, if_neg ht])
     rw [decide_eq_false ht]
     have gZ := HI2.out.Z
     have bZ := HI2.out.B
     clear ht hRE
     go_wp2_with fail
     go_step3
     have pRR := aggSh_of_block gZ rfl
     go_wp2
     rw [jumps_ret]
     exact end_ct Tryz.results8 rfl (atSh (aggSh_of_block (vec_put gZ rfl) rfl)) rfl ⟨⟨⟨0, 0, 0, 0, []⟩, none, 0⟩, by rw [HE.out]; rfl, by rw [HRS.out, HE.out]; rfl, ownE_nil _ _, putAgg_below bZ (Nat.le_refl _)⟩
  case firstB =>
   intro HP
   have HPP := Lib.hid HP
   clear HP
   go_wp2
   (obtain ⟨W1, hW1⟩ : ∃ W0 : World, W0 = ((Wa).alloc (.cells #[.int .i64 0, .int .i64 0, .int .i64 0, .int .i64 0, .slice none 0 0] 26)).alloc (.cells #[.int .i64 0, .int .u64 0, .int .u64 0, .int .u64 0, .int .u64 0, .int .u64 0, .int .u64 0, .int .u64 0, .int .u64 0, .int .u64 0, .int .u64 0, .int .u64 0, .int .u64 0, .int .u64 0] 67) := ⟨_, rfl⟩); (have gW1 : ∀ (j : Nat) (o : Obj), ([Obj.cells #[.int .i64 0, .int .i64 0, .int .i64 0, .int .i64 0, .slice none 0 0] 26, Obj.cells #[.int .i64 0, .int .u64 0, .int .u64 0, .int .u64 0, .int .u64 0, .int .u64 0, .int .u64 0, .int .u64 0, .int .u64 0, .int .u64 0, .int .u64 0, .int .u64 0, .int .u64 0, .int .u64 0] 67] : List Obj)[j]? = some o → W1.heap[Wa.heap.size + j]? = some o := by rw [hW1]; exact allocs_get Wa _); (have zW1 : W1.heap.size = Wa.heap.size + 2 := by rw [hW1]; exact allocs_size Wa [Obj.cells #[.int .i64 0, .int .i64 0, .int .i64 0, .int .i64 0, .slice none 0 0] 26, Obj.cells #[.int .i64 0, .int .u64 0, .int .u64 0, .int .u64 0, .int .u64 0, .int .u64 0, .int .u64 0, .int .u64 0, .int .u64 0, .int .u64 0, .int .u64 0, .int .u64 0, .int .u64 0, .int .u64 0] 67]); (have bW1 : Below Wa.heap.size Wa W1 := by rw [hW1]; exact allocs_below Wa [Obj.cells #[.int .i64 0, .int .i64 0, .int .i64 0, .int .i64 0, .slice none 0 0] 26, Obj.cells #[.int .i64 0, .int .u64 0, .int .u64 0, .int .u64 0, .int .u64 0, .int .u64 0, .int .u64 0, .int .u64 0, .int .u64 0, .int .u64 0, .int .u64 0, .int .u64 0, .int .u64 0, .int .u64 0] 67]); (rw [← hW1]); (clear hW1)
   have gS1 : W1.heap[w.heap.size + 1]? = some (.cells #[.int .i64 0, .int .i64 0, .int .i64 0, .int .i64 0, .slice none 0 0] 26 (0, 0)) := by have h := gW1 0 _ rfl; rw [zWa] at h; exact h
   have gF1 : W1.heap[w.heap.size + 1 + 1]? = some (.cells fp0.arr 67 (0, 0)) := by have h := gW1 1 _ rfl; rw [zWa] at h; exact h
   have gR1 := blk_below gR0 bW1 rfl
   have bW1' := bWa.trans (bW1.mono bWa.size)
   have zW1' : W1.heap.size = w.heap.size + 3 := by rw [zW1, zWa]
   have x1 := HCC.out.2.1 W1 bW1'
   have x2 := HCC.out.2.2.1 W1 bW1'
   have x3 := HCC.out.2.2.2.1 W1 bW1'
   have x4 := HCC.out.2.2.2.2.1 W1 bW1'
   have x5 := HCC.out.2.2.2.2.2 W1 bW1'
   have pS := aggSh_of_block gS1 rfl
   have HX := Lib.hid (And.intro gS1 (And.intro gF1 (And.intro gR1 bW1')))
   have hl0 : (0 : Int) < (l.length : Int) := by omega
   have hl1 : (1 : Int) < (l.length : Int) := by omega
   have hl2 : (2 : Int) < (l.length : Int) := by omega
   have hl3 : (3 : Int) < (l.length : Int) := by omega
   have hl4 : (4 : Int) < (l.length : Int) := by omega
   have hl5 : (5 : Int) < (l.length : Int) := by omega
   have ww1 : IntKind.i64.wrap h1 = h1 := by rw [IntKind.wrap_i64]; omega
   have ww2 : IntKind.i64.wrap h2 = h2 := by rw [IntKind.wrap_i64]; omega
   have ww3 : IntKind.i64.wrap h3 = h3 := by rw [IntKind.wrap_i64]; omega
   have ww4 : IntKind.i64.wrap h4 = h4 := by rw [IntKind.wrap_i64]; omega
   have ww5 : IntKind.i64.wrap h5 = h5 := by rw [IntKind.wrap_i64]; omega
   have ww6 : IntKind.i64.wrap (h5 * 256) = h5 * 256 := by rw [IntKind.wrap_i64]; omega
   have hor := or_head h4 h5 hr4 hr5
   rw [← HRL.out] at hor
   clear gS1 gF1 gR1 bW1 bW1' gW1 zW1 gR0 bWa zWa
   ((have hS0 : (Below W1.heap.size W1 W1.drew ∧ aggAt W1.drew 5 (w.heap.size + 1) (0) = some (.agg #[.int .i64 0, .int .i64 0, .int .i64 0, .int .i64 0, .slice none 0 0]) ∧ W1.drew.cell? ⟨(b), (o + 1), none⟩ = some (.int .u8 h1) ∧ W1.drew.cell? ⟨(b), (o + 2), none⟩ = some (.int .u8 h2) ∧ W1.drew.cell? ⟨(b), (o + 3), none⟩ = some (.int .u8 h3) ∧ W1.drew.cell? ⟨(b), (o + 4), none⟩ = some (.int .u8 h4) ∧ W1.drew.cell? ⟨(b), (o + 5), none⟩ = some (.int .u8 h5)) := ⟨((Below.refl _ W1)).drew, pS, x1, x2, x3, x4, x5⟩); (refine region_free (by kernel_rfl) [23] [0, 1, 2, 3, 4, 5, 6, 7, 8, 9, 10, 11, 12, 13, 14, 15, 16, 17, 18, 19, 20, 21, 22] false (by kernel_rfl) (by kernel_rfl) (fun W' => (Below W1.heap.size W1 W' ∧ aggAt W' 5 (w.heap.size + 1) (0) = some (.agg #[.int .i64 0, .int .i64 0, .int .i64 0, .int .i64 0, .slice none 0 0]) ∧ W'.cell? ⟨(b), (o + 1), none⟩ = some (.int .u8 h1) ∧ W'.cell? ⟨(b), (o + 2), none⟩ = some (.int .u8 h2) ∧ W'.cell? ⟨(b), (o + 3), none⟩ = some (.int .u8 h3) ∧ W'.cell? ⟨(b), (o + 4), none⟩ = some (.int .u8 h4) ∧ W'.cell? ⟨(b), (o + 5), none⟩ = some (.int .u8 h5))) hS0 ?_); (have hSB : ∀ W' W'' : World, (Below W1.heap.size W1 W' ∧ aggAt W' 5 (w.heap.size + 1) (0) = some (.agg #[.int .i64 0, .int .i64 0, .int .i64 0, .int .i64 0, .slice none 0 0]) ∧ W'.cell? ⟨(b), (o + 1), none⟩ = some (.int .u8 h1) ∧ W'.cell? ⟨(b), (o + 2), none⟩ = some (.int .u8 h2) ∧ W'.cell? ⟨(b), (o + 3), none⟩ = some (.int .u8 h3) ∧ W'.cell? ⟨(b), (o + 4), none⟩ = some (.int .u8 h4) ∧ W'.cell? ⟨(b), (o + 5), none⟩ = some (.int .u8 h5)) → Below W'.heap.size W' W'' → (Below W1.heap.size W1 W'' ∧ aggAt W'' 5 (w.heap.size + 1) (0) = some (.agg #[.int .i64 0, .int .i64 0, .int .i64 0, .int .i64 0, .slice none 0 0]) ∧ W''.cell? ⟨(b), (o + 1), none⟩ = some (.int .u8 h1) ∧ W''.cell? ⟨(b), (o + 2), none⟩ = some (.int .u8 h2) ∧ W''.cell? ⟨(b), (o + 3), none⟩ = some (.int .u8 h3) ∧ W''.cell? ⟨(b), (o + 4), none⟩ = some (.int .u8 h4) ∧ W''.cell? ⟨(b), (o + 5), none⟩ = some (.int .u8 h5)) := fun W' W'' ⟨h0, h1, h2, h3, h4, h5, h6⟩ hb => ⟨h0.trans (hb.mono h0.size), agg_keep h1 hb, cell_keep h2 hb, cell_keep h3 hb, cell_keep h4 hb, cell_keep h5 hb, cell_keep h6 hb⟩); (clear pS x1 x2 x3 x4 x5); (iterate 23 (refine chainF_opL (by rfl) (by rfl) ?_ ?_ ?_; rotate_left; (focus (intro W' hS' K hK; (try simp only [put_some, List.set] at hK); (have hS'' := hS'); (obtain ⟨s0, s1, s2, s3, s4, s5, s6⟩ := hS''); go_simp; (exact hK); done)); (try simp only [put_some, List.set]))); (refine chainF_nil ?_))
   (refine spine_lastL (by rfl) (by rfl) (fun K hK => ?_); go_simp)
   clear ww1 ww2 ww3 ww4 ww5 ww6 hor hl1 hl2 hl3 hl4 hl5
   obtain ⟨V, hV⟩ : ∃ V, V = putAgg W1 (w.heap.size + 1) 0 #[.int .i64 h1, .int .i64 h2, .int .i64 h3, .int .i64 rl, .slice none 0 0] := ⟨_, rfl⟩
   have hnb : ∀ k, k ≠ w.heap.size + 1 → V.heap[k]? = W1.heap[k]? := fun k hk => by rw [hV]; exact putAgg_block _ _ _ _ _ hk
   have gS2 : V.drew.heap[w.heap.size + 1]? = some (.cells #[.int .i64 h1, .int .i64 h2, .int .i64 h3, .int .i64 rl, .slice none 0 0] 26 (0, 0)) := by rw [hV]; exact vec_put HX.out.1 rfl
   have gF2 : V.drew.heap[w.heap.size + 1 + 1]? = some (.cells fp0.arr 67 (0, 0)) := (hnb _ (by omega)).trans HX.out.2.1
   have gR2 : V.drew.heap[w.heap.size]? = some (.cells #[.int .i64 0, .int .i64 0, .int .i64 0, .int .i64 0, .slice none 0 0] 26 (0, 0)) := (hnb _ (by omega)).trans HX.out.2.2.1
   have bW2 : Below w.heap.size w V.drew := by rw [hV]; exact (putAgg_below HX.out.2.2.2 (by omega)).drew
   have zW2 : w.heap.size + 3 ≤ V.drew.heap.size := by rw [← zW1']; rw [hV]; exact Nat.le_of_eq (putAgg_size _ _ _ _).symm
   rw [← hV]
   refine hK undef _ (fun h => by cases h) ?_
   rw [put_none]
   clear hK K hS0 hV hnb HX zW1'
   generalize V.drew = X at *
   have x0 := HCC.out.1 X bW2
   rw [Nat.add_zero] at x0
   by_cases hv1 : h0 = 1
   ·subst hv1
    rw [if_neg (by decide)] at HRE
    have HSC := Lib.hid (fun (W : World) (pv : Value) (h : W.heap[w.heap.size + 1]? = some (.cells #[.int .i64 h1, .int .i64 h2, .int .i64 h3, .int .i64 rl, pv] 26 (0, 0))) => show W.cell? ⟨w.heap.size + 1, 0, none⟩ = some (.int .i64 h1) ∧ W.cell? ⟨w.heap.size + 1, 1, none⟩ = some (.int .i64 h2) ∧ W.cell? ⟨w.heap.size + 1, 2, none⟩ = some (.int .i64 h3) ∧ W.cell? ⟨w.heap.size + 1, 3, none⟩ = some (.int .i64 rl) from by
     unfold World.cell?; simp only [h]; exact ⟨rfl, rfl, rfl, rfl⟩)
    obtain ⟨d0, d1, d2, d3⟩ := HSC.out X _ gS2
    go_wp2_with fail
    have hG := fieldGet h1 X (HS.out X bW2).1
    rw [HF.out.1] at hG
    refine hG.mono ?_
    rintro e X2 ⟨rfl, hb2⟩
    have gS3 := blk_below gS2 hb2 rfl
    have gF3 := blk_below gF2 hb2 rfl
    have gR3 := blk_below gR2 hb2 rfl
    have bW3 := bW2.trans (hb2.mono bW2.size)
    have zW3 := Nat.le_trans zW2 hb2.size
    obtain ⟨Y, hY⟩ : ∃ Y, Y = putAgg X2 (w.heap.size + 1 + 1) 0 f.arr := ⟨_, rfl⟩
    have hnb : ∀ k, k ≠ w.heap.size + 1 + 1 → Y.heap[k]? = X2.heap[k]? := fun k hk => by rw [hY]; exact putAgg_block _ _ _ _ _ hk
    have gF4 : Y.heap[w.heap.size + 1 + 1]? = some (.cells f.arr 67 (0, 0)) := by rw [hY]; exact vec_put gF3 rfl
    have gS4 := (hnb (w.heap.size + 1) (by omega)).trans gS3
    have gR4 := (hnb w.heap.size (by omega)).trans gR3
    have bW4 : Below w.heap.size w Y := by rw [hY]; exact putAgg_below bW3 (by omega)
    have zW4 : w.heap.size + 3 ≤ Y.heap.size := by rw [hY, putAgg_size]; exact zW3
    have pF3 := aggF_of_block gF3
    have HY := Lib.hid (And.intro gS4 (And.intro gF4 (And.intro gR4 (And.intro bW4 zW4))))
    have hYd := HSC.out Y _ gS4
    have HYe := Lib.hid hY
    clear hY hG hb2 gS2 gF2 gR2 bW2 zW2 gS3 gR3 bW3 zW3 d0 d1 d2 d3 x0 hnb gF4 gS4 gR4 bW4 zW4 gF3
    have HYd := Lib.hid hYd
    clear hYd
    go_upto_region 10 with (fail)
    rw [← HYe.out]
    clear pF3 HYe
    by_cases hg : getE h1 = 0
    ·rw [if_neg (fun h => h hg)] at HRE
     rw [hg]
     obtain ⟨d0, d1, d2, d3⟩ := HYd.out
     by_cases q2 : h2 = 0
     ·have HE := Lib.hid (show recE l = 4 from by rw [HRE.out, if_pos q2])
      subst q2
      go_wp2_with fail
      go_step3
      have pRR := aggSh_of_block HY.out.2.2.1 rfl
      show Code.wp _ _ _ _ _
      go_wp2
      rw [jumps_ret]
      exact end_ct Tryz.results8 rfl (atSh (aggSh_of_block (vec_put HY.out.2.2.1 rfl) rfl)) rfl ⟨⟨⟨0, 0, 0, 0, []⟩, none, 0⟩, by rw [HE.out]; rfl, by rw [HRS.out, HE.out]; rfl, ownE_nil _ _, putAgg_below HY.out.2.2.2.1 (Nat.le_refl _)⟩
     ·rw [if_neg q2] at HRE
      have hq2 : (h2 == 0) = false := by simpa using q2
      by_cases q3 : h3 = 0
      ·have HE := Lib.hid (show recE l = 12 from by rw [HRE.out, if_pos q3])
       have hq3 : (h3 == 0) = true := by simpa using q3
       go_wp2_with fail
       go_step3
       have pRR := aggSh_of_block HY.out.2.2.1 rfl
       show Code.wp _ _ _ _ _
       go_wp2
       rw [jumps_ret]
       exact end_ct Tryz.results8 rfl (atSh (aggSh_of_block (vec_put HY.out.2.2.1 rfl) rfl)) rfl ⟨⟨⟨0, 0, 0, 0, []⟩, none, 0⟩, by rw [HE.out]; rfl, by rw [HRS.out, HE.out]; rfl, ownE_nil _ _, putAgg_below HY.out.2.2.2.1 (Nat.le_refl _)⟩
      ·rw [if_neg q3] at HRE
       have hq3 : (h3 == 0) = false := by simpa using q3
       have hsz : ∀ W, Calls Tryz.prog 27 #[.int .i64 rl] W fun e w' => e = .returned (.int .i64 ((38 + 32 * n : Nat) : Int)) ∧ W = w' := fun W => by
        obtain ⟨m, hm⟩ : ∃ m : Nat, rl = (m : Int) := ⟨rl.toNat, by omega⟩
        have hn := HF.out.2
        have hm2 : m ≤ 65535 := by omega
        have hcn := cnt_nat m hm2
        rw [hm, hcn] at hn
        rw [hm, ← hn]
        exact recordSize m hm2 W
       have HSZ := Lib.hid hsz
       clear hsz
       by_cases q4 : l.length = 38 + 32 * n
       ·rw [if_neg (fun h => h q4)] at HRE
        have hq4 : ((l.length : Int) != ((38 + 32 * n : Nat) : Int)) = false := by rw [q4]; simp
        have HQ4 := Lib.hid q4
        go_wp2_with fail
        refine (HSZ.out _).mono ?_
        rintro e Y' ⟨rfl, rfl⟩
        clear q4
        go_wp2_with fail
        go_step3
        refine ‹∀ (a : Act) (w : World), Code.wp Tryz.prog _ _ a w → _› _ _ ?_
        refine HPP.out _ _ ⟨0, .slice none 0 0, .int .i64 6, _, _, _, _, _, _, _, _, _, _, _, _, _, _, _, _, _, _, _, _, _, _, _, _, _, _, by rfl, rfl, ⟨Nat.zero_le _, HQ4.out, rfl, HRE.out, HY.out.1, ownE_nil _ _, HY.out.2.1, HY.out.2.2.1, HY.out.2.2.2.1, HY.out.2.2.2.2⟩⟩
       ·have HE := Lib.hid (show recE l = 8 from by rw [HRE.out, if_pos q4])
        have hq4 : ((l.length : Int) != ((38 + 32 * n : Nat) : Int)) = true := by rw [bne_iff_ne]; omega
        go_wp2_with fail
        refine (HSZ.out _).mono ?_
        rintro e Y' ⟨rfl, rfl⟩
        go_wp2_with fail
        go_step3
        have pRR := aggSh_of_block HY.out.2.2.1 rfl
        show Code.wp _ _ _ _ _
        go_wp2
        rw [jumps_ret]
        exact end_ct Tryz.results8 rfl (atSh (aggSh_of_block (vec_put HY.out.2.2.1 rfl) rfl)) rfl ⟨⟨⟨0, 0, 0, 0, []⟩, none, 0⟩, by rw [HE.out]; rfl, by rw [HRS.out, HE.out]; rfl, ownE_nil _ _, putAgg_below HY.out.2.2.2.1 (Nat.le_refl _)⟩
    ·have HE := Lib.hid (show recE l = getE h1 from by rw [HRE.out, if_pos hg])
     have hgq : (getE h1 != 0) = true := by simpa using hg
     have HG := Lib.hid hg
     go_wp2
     go_step3
     have pRR := aggSh_of_block HY.out.2.2.1 rfl
     show Code.wp _ _ _ _ _
     go_wp2
     rw [jumps_ret]
     exact end_ct Tryz.results8 rfl (atSh (aggSh_of_block (vec_put HY.out.2.2.1 rfl) rfl)) rfl ⟨⟨⟨0, 0, 0, 0, []⟩, none, 0⟩, by rw [HE.out]; rfl, by rw [HRS.out, HE.out, if_neg HG.out], ownE_nil _ _, putAgg_below HY.out.2.2.2.1 (Nat.le_refl _)⟩
   ·have hq : (h0 != 1) = true := by simpa using hv1
    have HE := Lib.hid (show recE l = 11 from by rw [HRE.out, if_pos hv1])
    go_wp2
    go_step3
    have pRR := aggSh_of_block gR2 rfl
    show Code.wp _ _ _ _ _
    go_wp2
    rw [jumps_ret]
    exact end_ct Tryz.results8 rfl (atSh (aggSh_of_block (vec_put gR2 rfl) rfl)) rfl ⟨⟨⟨0, 0, 0, 0, []⟩, none, 0⟩, by rw [HE.out]; rfl, by rw [HRS.out, HE.out]; rfl, ownE_nil _ _, putAgg_below bW2 (Nat.le_refl _)⟩
end Go.Proofs.YtccgfladbibjbaaGreatDoor
