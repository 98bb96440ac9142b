/- Package sha: Hash.Sum, Sum. -/
import Derived.Test.YtccgfladbibjbaaGreatDoorKG17
import Derived.Deep.OwnRows
import Derived.Test.YtccgfladbibjbaaGreatDoorKG10
import Derived.Test.YtccgfladbibjbaaGreatDoorKG16
import Derived.Test.YtccgfladbibjbaaGreatDoorKG15
namespace Go.Proofs.YtccgfladbibjbaaGreatDoor
open Go.RowKit
attribute [local go_sem ↓] add_UU sub_UU mul_UU add_UL add_LU sub_UL sub_LU mul_UL neg_at not_at and_UU or_UU xor_UU andNot_UU and_UL or_LU shr_UL shl_UL shr_UN shl_UN shl_LN quo_UL rem_UL quo_UU rem_UU
attribute [local go_sem] wrap64_N wrapi_mod wrap8_U wrap32_U wrap64_B wrap32_B wrap8_D wrapi_B wrap64_UU eq_UU ne_UU eq_UL ne_UL lt_UU le_UU
attribute [local go_sem ↓] add_DD mul_DD mul_DL and_DD or_DD xor_DD notD_at shr_DL shl_DL shr_DN shl_DN quo_DL rem_DL
attribute [local go_sem] wrap32_B wrap8_D
attribute [local simp] putAgg_size
attribute [local go_sem ↓] loadVar_F loadVar_E loadVar_V loadVar_B32 storeVar_F storeVar_E storeVar_V storeVar_B32 box_F box_E box_V box_B32
attribute [local go_sem ↓ high] V4.cells_val FP.cells_val
attribute [local go_sem] run_loadF run_loadE run_loadV run_loadB32 run_storeF run_storeE run_storeV run_storeB32 run_boxA aggAt_drew aggAt_drewN aggAt_alloc_new aggAt_alloc_past aggAt_setCell_other aggAt_putAgg_other aggAt_putAgg_new putAgg_drew putAgg_size putAgg_alloc_new putAgg_alloc_past putAgg_cell_other putAgg_frozen_other V4.agg_arr FP.agg_arr V4.size_arr FP.size_arr V4.fits FP.fits fitsA_agg4 lt_2 ne_2 en_2 lt_3 ne_3 en_3 lt_4 ne_4 en_4 lt_5 ne_5 en_5 lt_6 ne_6 en_6
attribute [local go_sem ↓] loadVar_W loadVar_S storeVar_W storeVar_S box_S
attribute [local go_sem ↓ high] dval_cells
attribute [local go_sem] run_loadW run_loadS run_storeW run_storeS agg_words dVals_size dVals_length
attribute [local go_sem ↓ high] bval_cells
attribute [local go_sem ↓] shr8
attribute [local go_sem] agg_bytes byteVals_size byteVals_length
def IsBs (w : World) (b : Nat) (t : TypeId) (l : List (BitVec 8)) : Prop := w.heap[b]? = some (.cells (byteVals l).toArray t (0, 0))
theorem IsBs.cell {w : World} {b : Nat} {t : TypeId} {l : List (BitVec 8)} (h : IsBs w b t l) (k : Nat) (hk : k < l.length) : w.cell? ⟨b, k, none⟩ = some (.int .u8 (B (l[k]?.getD 0#8))) := by
 rw [← byteVals_get l k hk]
 exact IsBlk.cell (t := t) h k
theorem IsBs.frozen {w : World} {b : Nat} {t : TypeId} {l : List (BitVec 8)} (h : IsBs w b t l) (k : Nat) : w.frozen? ⟨b, k, none⟩ = false := IsBlk.frozen (t := t) (vs := byteVals l) h k
theorem IsBs.set {w : World} {b : Nat} {t : TypeId} {l : List (BitVec 8)} (h : IsBs w b t l) (k : Nat) (x : BitVec 8) : IsBs (w.setCell ⟨b, k, none⟩ (.int .u8 (B x))) b t (l.set k x) := by
 have := IsBlk.set (t := t) (vs := byteVals l) h k (.int .u8 (B x))
 rwa [show (byteVals l).set k (.int .u8 (B x)) = byteVals (l.set k x) from by unfold byteVals; rw [List.map_set]] at this
theorem IsBs.lt {w : World} {b : Nat} {t : TypeId} {l : List (BitVec 8)} (h : IsBs w b t l) : b < w.heap.size := (Array.getElem?_eq_some_iff.1 h).1
theorem IsBs.below {w w' : World} {b B : Nat} {t : TypeId} {l : List (BitVec 8)} (h : IsBs w b t l) (hb : Below B w w') (hB : b < B) : IsBs w' b t l := (hb.block b hB).trans h
theorem IsBs.call {w w' : World} {b : Nat} {t : TypeId} {l : List (BitVec 8)} (h : IsBs w b t l) (hb : Below w.heap.size w w') : IsBs w' b t l := h.below hb h.lt
theorem IsBs.agg {w : World} {b : Nat} {t : TypeId} {l : List (BitVec 8)} {n : Nat} (h : IsBs w b t l) (hl : l.length = n) : aggAt w n b 0 = some (bval l) := aggAt_whole h (by rw [byteVals_size, hl])
theorem IsBs.sees {w : World} {b : Nat} {t : TypeId} {l : List (BitVec 8)} (h : IsBs w b t l) : Sees w (some ⟨b, 0, none⟩) (byteVals l) := by
 intro _
 refine ⟨b, 0, rfl, fun j _ => ?_⟩
 rw [Nat.zero_add]
 exact IsBlk.cell (t := t) h j
theorem fits_bytes (n : Nat) (l : List (BitVec 8)) (h : l.length = n) : fitsA n (bval l) = true := by
 unfold fitsA
 rw [bval_cells, Bool.and_eq_true]
 refine ⟨by rw [byteVals_size, h]; simp, ?_⟩
 rw [Array.all_eq_true_iff_forall_mem]
 intro v hv
 simp only [byteVals, List.mem_toArray, List.mem_map] at hv
 obtain ⟨x, _, rfl⟩ := hv
 rfl
theorem made_bytes (n : Nat) : madeCells #[Value.int .u8 0] n = (byteVals (List.replicate n 0#8)).toArray := by
 unfold madeCells byteVals
 apply Array.ext
 ·simp
 ·intro i h1 h2
  simp [Nat.mod_one]
  rfl
def tailT (m z : Nat) : Nat → List (BitVec 8)
 | 0 => (List.replicate (1 + z + 8) 0#8).set 0 128#8
 | i + 1 => (tailT m z i).set (z + 8 - i) ((BitVec.ofNat 64 m <<< 3 >>> (8 * i)).setWidth 8)
theorem tailT_length (m z : Nat) : ∀ i, (tailT m z i).length = 1 + z + 8
 | 0 => by simp [tailT]
 | i + 1 => by rw [tailT, List.length_set, tailT_length]
def tailL (m r : Nat) : List (BitVec 8) := tailT m ((119 - r) % 64) 8
def outB (s : S8) (i : Nat) : BitVec 8 := (dw s.list (i / 4) >>> (24 - 8 * (i % 4))).setWidth 8
def outT (s : S8) : Nat → List (BitVec 8)
 | 0 => List.replicate 32 0#8
 | i + 1 => (outT s i).set i (outB s i)
theorem outT_length (s : S8) : ∀ i, (outT s i).length = 32
 | 0 => List.length_replicate
 | i + 1 => by rw [outT, List.length_set, outT_length]
def outL (s : S8) : List (BitVec 8) := outT s 32
def sumH (s : S8) (rest : List (BitVec 8)) (m : Nat) : List (BitVec 8) := outL (feedS s (rest ++ tailL m rest.length) ((rest ++ tailL m rest.length).length / 64))
set_option maxRecDepth 20000 in
set_option maxHeartbeats 1000000 in
theorem hashSum (N g : Nat) (s : S8) (rv : Value) (rest : List (BitVec 8)) (m : Nat) (w : World) (L : Laid w) (hH : IsH w g s rv (m : Int)) (hR : OwnB w N rv rest) (hlen : rest.length < 64) (hm : m ≤ 1099511627776) :
  Calls Tryz.prog 63 #[.pointer (some ⟨g, 0, none⟩)] w fun e w' => e = .returned (bval (sumH s rest m)) ∧ Below w.heap.size w w' := by
 have hbA : Below w.heap.size w (w.alloc (.cells (byteVals (List.replicate 32 0#8)).toArray 64)) := (by repeat (first | with_reducible assumption | with_reducible exact Below.refl _ _ | (with_reducible refine putAgg_below ?_ (by first | omega | (simp; done) | (simp; omega))) | (with_reducible refine Below.alloc ?_ (by first | omega | (simp; done) | (simp; omega)) _) | (with_reducible refine Below.setCell ?_ (by first | omega | (simp; done) | (simp; omega)) _) | (with_reducible refine Below.drew ?_) | (with_reducible refine Below.trans ?_ (Below.mono (by with_reducible assumption) (by first | omega | (simp; done) | (simp; omega))))))
 have HC := Lib.hid (hashClone N g s rv rest m _ (hH.call hbA) (hR.below hbA) (by omega))
 have HB := Lib.hid (And.intro hbA (show IsBs (w.alloc (.cells (byteVals (List.replicate 32 0#8)).toArray 64)) w.heap.size 64 (outT s 0) from heap_alloc_new w _))
 have HL := Lib.hid L
 have HH := Lib.hid (hH.call hbA)
 clear hH hR hbA L
 go_enter Tryz.func63, Tryz.ntmps63
 go_wp2_with fail
 refine HC.out.mono ?_
 rintro e w1 ⟨g1, rv1, rfl, hg1, hI1, hO1, hn1, hb1⟩
 obtain ⟨A1, c1, rfl, _, _, _⟩ := hO1.open
 have hz1 := hb1.size
 simp only [World.size_alloc] at hz1 hg1 hO1
 have HI1 := Lib.hid (And.intro hI1 (And.intro hO1 (And.intro hn1 (And.intro (HB.out.1.trans (hb1.mono (by simp))) (And.intro (HB.out.2.call hb1) (HH.out.call hb1))))))
 have hrc := hI1.rvc
 have hw1 : IntKind.i64.wrap (119 - (rest.length : Int)) = ((119 - rest.length : Nat) : Int) := by rw [IntKind.wrap_i64]; omega
 clear HC HB HH hb1 hI1 hO1 hn1
 generalize hr : rest.length = r at *
 have hw2 : (((119 - r : Nat) : Int)) % 64 = (((119 - r) % 64 : Nat) : Int) := by omega
 have hw2' : (((119 - r : Nat) : Int)).tmod 64 = (((119 - r) % 64 : Nat) : Int) := by rw [Int.tmod_eq_emod_of_nonneg (by omega)]; omega
 have hzz : (119 - r) % 64 < 64 := Nat.mod_lt _ (by decide)
 have hw5 : IntKind.i64.wrap (((119 - r) % 64 : Nat) : Int) = (((119 - r) % 64 : Nat) : Int) := by rw [IntKind.wrap_i64]; omega
 have hTL := Lib.hid (show tailL m r = tailT m ((119 - r) % 64) 8 from rfl)
 generalize hz : (119 - r) % 64 = z at *
 have hw3 : IntKind.i64.wrap (1 + (z : Int)) = ((1 + z : Nat) : Int) := by rw [IntKind.wrap_i64]; omega
 have hw4 : IntKind.i64.wrap (((1 + z : Nat) : Int) + 8) = ((1 + z + 8 : Nat) : Int) := by rw [IntKind.wrap_i64]; omega
 have hmk := run_make_row' (P := Tryz.prog) 22 5 (.int .u8 0) 1 Tryz.underlying22 info_u8 rfl .i64 .i64 (1 + z + 8) (by omega) (by omega) w1
 rw [made_bytes] at hmk
 simp only [Int.natCast_add, Int.cast_ofNat_Int] at hmk
 have HT := Lib.hid (show IsBs (w1.alloc (.cells (byteVals (List.replicate (1 + z + 8) 0#8)).toArray 5)) w1.heap.size 5 (List.replicate (1 + z + 8) 0#8) from heap_alloc_new w1 _)
 have hc0 := HT.out.cell 0 (by simp)
 have hf0 := HT.out.frozen 0
 have HT1 := Lib.hid (HT.out.set 0 128#8)
 have HB1 := Lib.hid (show Below w1.heap.size w1 ((w1.alloc (.cells (byteVals (List.replicate (1 + z + 8) 0#8)).toArray 5)).setCell ⟨w1.heap.size, 0, none⟩ (.int .u8 (B 128#8))) from ((Below.refl _ w1).alloc (Nat.le_refl _) _).setCell (p := ⟨w1.heap.size, 0, none⟩) (Nat.le_refl _) _)
 clear HT
 go_wp2
 go_loopw [6, 26] (fun x i W => ∃ t : Nat, t ≤ 8 ∧ i = .int .i64 t ∧ IsBs W w1.heap.size 5 (tailT m z t) ∧ Below w1.heap.size w1 W) (fun _ i _ => 8 - (intOf i).toNat)
 case atStart =>
  refine ⟨0, by omega, rfl, ?_, (by repeat (first | with_reducible assumption | with_reducible exact Below.refl _ _ | (with_reducible refine putAgg_below ?_ (by first | omega | (simp; done) | (simp; omega))) | (with_reducible refine Below.alloc ?_ (by first | omega | (simp; done) | (simp; omega)) _) | (with_reducible refine Below.setCell ?_ (by first | omega | (simp; done) | (simp; omega)) _) | (with_reducible refine Below.drew ?_) | (with_reducible refine Below.trans ?_ (Below.mono (by with_reducible assumption) (by first | omega | (simp; done) | (simp; omega))))))⟩
  rw [show (byteVals (List.replicate (1 + z + 8) 0#8)).set 0 (Value.int .u8 128) = byteVals (tailT m z 0) from by unfold byteVals tailT; rw [List.map_set]; rfl]
  exact heap_alloc_new w1 _
 case round =>
  clear HT1 HB1 hc0 hf0 hw1 hw2 hw2' hw3 hw4 hw5 hmk hrc
  obtain ⟨t, ht, rfl, hT, hB⟩ := hrel
  by_cases h8 : t < 8
  ·have h8' : (t : Int) < 8 := by omega
   have hgl : g < w1.heap.size := HI1.out.2.2.2.2.2.lt
   have hnc := (hB.cell (p := ⟨g, 9, none⟩) hgl).trans HI1.out.2.2.2.2.2.nc
   have hx1 : IntKind.i64.wrap (1 + (z : Int) + 8 - 1) = ((z + 8 : Nat) : Int) := by rw [IntKind.wrap_i64]; omega
   have hx2 : IntKind.i64.wrap (((z + 8 : Nat) : Int) - (t : Int)) = ((z + 8 - t : Nat) : Int) := by rw [IntKind.wrap_i64]; omega
   have hx3 : IntKind.i64.wrap (8 * (t : Int)) = 8 * (t : Int) := by rw [IntKind.wrap_i64]; omega
   have hlt : z + 8 - t < 1 + z + 8 := by omega
   have hct := hT.cell (z + 8 - t) (by rw [tailT_length]; omega)
   have hft := hT.frozen (z + 8 - t)
   have HS := Lib.hid (hT.set (z + 8 - t) ((BitVec.ofNat 64 m <<< 3 >>> (8 * t)).setWidth 8))
   have HB := Lib.hid hB
   clear hT hB
   go_wp2
   go_roundw
   case rel =>
    exact ⟨t + 1, by omega, by go_num, HS.out, HB.out.setCell (p := ⟨w1.heap.size, z + 8 - t, none⟩) (Nat.le_refl _) _⟩
   case measure => simp [intOf]; omega
  ·obtain rfl : t = 8 := by omega
   have hgl1 : g1 < w1.heap.size := HI1.out.1.lt
   rw [show ((8 : Nat) : Int) = 8 from rfl]
   have HW := Lib.hid (hashWrite (w.heap.size + 1) g1 s (.slice A1 r c1) rest m (some ⟨w1.heap.size, 0, none⟩) (1 + z + 8) (tailT m z 8) wr (HL.out.below (HI1.out.2.2.2.1.trans (hB.mono (by omega))) HL.out.size) (HI1.out.1.call hB) (HI1.out.2.1.below hB) (by omega) (by have := HL.out.size; omega) HI1.out.2.2.1 hT.sees (fun _ a e => by injection e with e; subst e; show w1.heap.size ≠ g1; omega) (by rw [tailT_length]; omega) (by rw [tailT_length]; omega) (by omega) (by rw [tailT_length]; omega))
   rw [tailT_length] at HW
   have HX := Lib.hid (And.intro (HI1.out.2.2.2.1.trans (hB.mono (by omega))) (HI1.out.2.2.2.2.1.call hB))
   clear hT hB
   go_wp2_with fail
   refine HW.out.mono ?_
   rintro e w2 ⟨rfl, rv2, hI2, _, _, hb2⟩
   have HS2 := Lib.hid (show sumH s rest m = outL (feedS s (rest ++ tailT m z 8) ((rest ++ tailT m z 8).length / 64)) from by unfold sumH; rw [hr, hTL.out])
   generalize feedS s (rest ++ tailT m z 8) ((rest ++ tailT m z 8).length / 64) = S2 at *
   generalize ((m : Int) + ((1 + z + 8 : Nat) : Int)) = n2 at *
   have HX2 := Lib.hid (And.intro (HX.out.2.below hb2 (Nat.lt_succ_self _)) (And.intro hI2 (HX.out.1.trans (hb2.mono (Nat.le_succ _)))))
   have hglt : w.heap.size < g1 := by omega
   clear HX HW hI2 hb2 HI1 hgl1 hTL
   go_wp2
   go_loopw [7, 50] (fun x i W => ∃ t : Nat, t ≤ 32 ∧ i = .int .i64 t ∧ IsBs W w.heap.size 64 (outT S2 t) ∧ IsH W g1 S2 rv2 n2 ∧ Below w.heap.size w W) (fun _ i _ => 32 - (intOf i).toNat)
   case atStart => exact ⟨0, by omega, rfl, HX2.out⟩
   case round =>
    clear HX2
    obtain ⟨t, ht, rfl, hO, hI, hB⟩ := hrel
    by_cases h32 : t < 32
    ·have h32' : (t : Int) < 32 := by omega
     have hcs := hI.sc (t / 4) (by omega)
     have hco := hO.cell t (by rw [outT_length]; exact h32)
     have hfo := hO.frozen t
     have HO := Lib.hid (show IsBs (wr.setCell ⟨w.heap.size, t, none⟩ (.int .u8 (B (outB S2 t)))) w.heap.size 64 (outT S2 (t + 1)) from hO.set t (outB S2 t))
     have HI := Lib.hid (show IsH (wr.setCell ⟨w.heap.size, t, none⟩ (.int .u8 (B (outB S2 t)))) g1 S2 rv2 n2 ∧ Below w.heap.size w (wr.setCell ⟨w.heap.size, t, none⟩ (.int .u8 (B (outB S2 t)))) from
      ⟨(Below.heap_setCell wr _ _ _ (by show g1 ≠ w.heap.size; omega)).trans hI, hB.setCell (p := ⟨w.heap.size, t, none⟩) (Nat.le_refl _) _⟩)
     have HU := Lib.hid (show outB S2 t = (dw S2.list (t / 4) >>> (24 - 8 * (t % 4))).setWidth 8 from rfl)
     rw [HU.out] at HO HI
     have hq1 : ((t : Int)).tdiv 4 = ((t / 4 : Nat) : Int) := by rw [Int.tdiv_eq_ediv_of_nonneg (by omega)]; omega
     have hq2 : ((t : Int)) / 4 = ((t / 4 : Nat) : Int) := by omega
     have hr1 : ((t : Int)).tmod 4 = ((t % 4 : Nat) : Int) := by rw [Int.tmod_eq_emod_of_nonneg (by omega)]; omega
     have hr2 : ((t : Int)) % 4 = ((t % 4 : Nat) : Int) := by omega
     have hq8 : t / 4 < 8 := by omega
     have hm4 : t % 4 < 4 := Nat.mod_lt _ (by decide)
     have hwq : IntKind.i64.wrap ((t / 4 : Nat) : Int) = ((t / 4 : Nat) : Int) := by rw [IntKind.wrap_i64]; omega
     have hwr : IntKind.i64.wrap ((t % 4 : Nat) : Int) = ((t % 4 : Nat) : Int) := by rw [IntKind.wrap_i64]; omega
     clear hO hI hB HU
     generalize t / 4 = q at *
     generalize dw S2.list q = xw at *
     have hm1 : IntKind.i64.wrap (8 * ((t % 4 : Nat) : Int)) = 8 * ((t % 4 : Nat) : Int) := by rw [IntKind.wrap_i64]; omega
     have hm2 : IntKind.i64.wrap (24 - 8 * ((t % 4 : Nat) : Int)) = ((24 - 8 * (t % 4) : Nat) : Int) := by rw [IntKind.wrap_i64]; omega
     generalize t % 4 = r4 at *
     generalize hsh : 24 - 8 * r4 = sh at *
     have hq8' : (q : Int) < 8 := by omega
     go_wp2
     go_roundw
     case rel => exact ⟨t + 1, by omega, by go_num, HO.out, HI.out⟩
     case measure => simp [intOf]; omega
    ·obtain rfl : t = 32 := by omega
     have h1 := hO.agg (n := 32) (outT_length S2 32)
     have hle := outT_length S2 32
     have hf : fitsA 32 (bval (outT S2 32)) = true := fits_bytes 32 _ hle
     have HS3 := Lib.hid (show outL S2 = outT S2 32 from rfl)
     generalize outT S2 32 = R at *
     clear hO hI
     go_wp2_with ((with_reducible show bodyPost _ _ _ _ _ _); exact end_c Tryz.results63 rfl (atB32 (v := bval R) (by go_simp)) rfl ⟨by rw [HS2.out, HS3.out], (by repeat (first | with_reducible assumption | with_reducible exact Below.refl _ _ | (with_reducible refine putAgg_below ?_ (by first | omega | (simp; done) | (simp; omega))) | (with_reducible refine Below.alloc ?_ (by first | omega | (simp; done) | (simp; omega)) _) | (with_reducible refine Below.setCell ?_ (by first | omega | (simp; done) | (simp; omega)) _) | (with_reducible refine Below.drew ?_) | (with_reducible refine Below.trans ?_ (Below.mono (by with_reducible assumption) (by first | omega | (simp; done) | (simp; omega))))))⟩)
theorem sumH_length (s : S8) (rest : List (BitVec 8)) (m : Nat) : (sumH s rest m).length = 32 := by unfold sumH outL; rw [outT_length]
def sumL (l : List (BitVec 8)) : List (BitVec 8) := sumH (feedS s0 l (l.length / 64)) (l.drop (64 * (l.length / 64))) l.length
set_option maxRecDepth 20000 in
set_option maxHeartbeats 1000000 in
theorem shaSum (A : Option Addr) (cap : Nat) (l : List (BitVec 8)) (w : World) (L : Laid w) (hs : Sees w A (byteVals l)) (hcap : l.length ≤ cap) (hlen : l.length ≤ 1099511627776) :
  Calls Tryz.prog 24 #[.slice A l.length cap] w fun e w' => e = .returned (bval (sumL l)) ∧ Below w.heap.size w w' := by
 have hbA : Below w.heap.size w (w.alloc (.cells (byteVals (List.replicate 32 0#8)).toArray 64)) := (by repeat (first | with_reducible assumption | with_reducible exact Below.refl _ _ | (with_reducible refine putAgg_below ?_ (by first | omega | (simp; done) | (simp; omega))) | (with_reducible refine Below.alloc ?_ (by first | omega | (simp; done) | (simp; omega)) _) | (with_reducible refine Below.setCell ?_ (by first | omega | (simp; done) | (simp; omega)) _) | (with_reducible refine Below.drew ?_) | (with_reducible refine Below.trans ?_ (Below.mono (by with_reducible assumption) (by first | omega | (simp; done) | (simp; omega))))))
 have HL := Lib.hid L
 have HN := Lib.hid (shaNew _ (L.to hbA))
 have HB := Lib.hid (And.intro hbA (And.intro (hs.below hbA) (show IsBs (w.alloc (.cells (byteVals (List.replicate 32 0#8)).toArray 64)) w.heap.size 64 (List.replicate 32 0#8) from heap_alloc_new w _)))
 have HS := Lib.hid hs
 clear L hbA hs
 go_enter Tryz.func24, Tryz.ntmps24
 go_wp2_with fail
 refine HN.out.mono ?_
 rintro e w1 ⟨g1, rfl, hg1, hI1, hb1⟩
 simp only [World.size_alloc] at hg1
 have hgl := hI1.lt
 have hsz := hb1.size
 simp only [World.size_alloc] at hsz
 have HB1 := Lib.hid (And.intro (HB.out.1.trans (hb1.mono (by simp))) (And.intro (HB.out.2.1.below hb1) (HB.out.2.2.call hb1)))
 have HW := Lib.hid (hashWrite (w.heap.size + 1) g1 s0 (.slice none 0 0) [] 0 A cap l w1 (HL.out.to HB1.out.1) hI1 (ownB_nil _ _) hg1 (by have := HL.out.size; omega) (by simp [Value.ownBlock]) HB1.out.2.1 (fun hl a e => by
  obtain ⟨b, o, e2, hc⟩ := HS.out (by rw [byteVals_length]; exact List.length_pos_iff.2 hl)
  have := (e2 ▸ HS.out : Sees w (some ⟨b, o, none⟩) (byteVals l)).lt (by rw [byteVals_length]; exact List.length_pos_iff.2 hl)
  rw [e] at e2
  injection e2 with e2
  subst e2
  show b ≠ g1
  omega) hcap (by simpa using hlen) (Int.le_refl 0) (by omega))
 clear HN hb1 hI1
 go_wp2_with fail
 refine HW.out.mono ?_
 rintro e w2 ⟨rfl, rv2, hI2, hO2, hn2, hb2⟩
 rw [List.nil_append, Int.zero_add] at hI2
 rw [List.nil_append] at hO2
 have hBS := HB1.out.2.2.below hb2 (Nat.lt_succ_self _)
 have HB2 := Lib.hid (And.intro (HB1.out.1.trans (hb2.mono (Nat.le_succ _))) hBS)
 have HQ := Lib.hid (hashSum (w.heap.size + 1) g1 (feedS s0 l (l.length / 64)) rv2 (l.drop (64 * (l.length / 64))) l.length w2 (HL.out.to HB2.out.1) hI2 hO2 (by rw [List.length_drop]; omega) hlen)
 have HR := Lib.hid (show sumL l = sumH (feedS s0 l (l.length / 64)) (l.drop (64 * (l.length / 64))) l.length from rfl)
 generalize hR : sumH (feedS s0 l (l.length / 64)) (l.drop (64 * (l.length / 64))) l.length = R at *
 have hz2 : w.heap.size < w2.heap.size := hBS.lt
 have ha2 := hBS.agg (n := 32) (by simp)
 clear HW hI2 hO2 hn2 hb2 hBS
 go_wp2_with fail
 refine HQ.out.mono ?_
 rintro e w3 ⟨rfl, hb3⟩
 have ha3 := (aggAt_congr (hb3.block w.heap.size hz2)).trans ha2
 have hB3 : Below w.heap.size w w3 := HB2.out.1.trans (hb3.mono (Nat.le_of_lt hz2))
 have hle : R.length = 32 := by rw [← hR, sumH_length]
 have hf : fitsA 32 (bval R) = true := fits_bytes 32 _ hle
 generalize bval (List.replicate 32 0#8) = z32 at *
 clear ha2 hR HQ
 go_wp2_with ((with_reducible show bodyPost _ _ _ _ _ _); exact end_c Tryz.results24 rfl (atB32 (v := bval R) (by go_simp)) rfl ⟨by rw [HR.out], (by repeat (first | with_reducible assumption | with_reducible exact Below.refl _ _ | (with_reducible refine putAgg_below ?_ (by first | omega | (simp; done) | (simp; omega))) | (with_reducible refine Below.alloc ?_ (by first | omega | (simp; done) | (simp; omega)) _) | (with_reducible refine Below.setCell ?_ (by first | omega | (simp; done) | (simp; omega)) _) | (with_reducible refine Below.drew ?_) | (with_reducible refine Below.trans ?_ (Below.mono (by with_reducible assumption) (by first | omega | (simp; done) | (simp; omega))))))⟩)
theorem sumL_length (l : List (BitVec 8)) : (sumL l).length = 32 := sumH_length _ _ _
end Go.Proofs.YtccgfladbibjbaaGreatDoor
namespace Go.Proofs.YtccgfladbibjbaaGreatDoor
open Go.RowKit
theorem chunksValid (n : Int) (w : World) :
  Calls Tryz.prog 71 #[.int .i64 n] w fun e w' => e = .returned (.bool (decide (0 ≤ n ∧ n ≤ 65535))) ∧ w = w' := by
 by_cases h1 : 0 ≤ n
 ·by_cases h2 : n ≤ 65535
  ·rw [decide_eq_true ⟨h1, h2⟩]
   go_enter Tryz.func71, Tryz.ntmps71
   go_wp2
   go_ret
   exact ⟨rfl, rfl⟩
  ·rw [decide_eq_false (fun h => h2 h.2)]
   go_enter Tryz.func71, Tryz.ntmps71
   go_wp2
   go_ret
   exact ⟨rfl, rfl⟩
 ·rw [decide_eq_false (fun h => h1 h.1)]
  go_enter Tryz.func71, Tryz.ntmps71
  go_wp2
  go_ret
  exact ⟨rfl, rfl⟩
def cnt (n : Int) : Nat := if 0 ≤ n ∧ n ≤ 65535 then (n.toNat + 30) / 31 else 0
theorem cnt_nat (n : Nat) (h : n ≤ 65535) : cnt n = (n + 30) / 31 := by
 unfold cnt
 rw [if_pos ⟨by omega, by omega⟩]
 rfl
theorem chunksCount (n : Int) (w : World) :
  Calls Tryz.prog 36 #[.int .i64 n] w fun e w' => e = .returned (.int .i64 (cnt n)) ∧ w = w' := by
 have HV := Lib.hid (chunksValid n)
 unfold cnt
 by_cases h : 0 ≤ n ∧ n ≤ 65535
 ·rw [if_pos h]
  rw [decide_eq_true h] at HV
  obtain ⟨k, rfl⟩ : ∃ k : Nat, n = k := ⟨n.toNat, by omega⟩
  have hw1 : IntKind.i64.wrap ((k : Int) + 31) = (k : Int) + 31 := by rw [IntKind.wrap_i64]; omega
  have hw2 : IntKind.i64.wrap ((k : Int) + 31 - 1) = ((k + 30 : Nat) : Int) := by rw [IntKind.wrap_i64]; omega
  have ht : Int.tdiv (((k + 30 : Nat) : Int)) 31 = (((k + 30) / 31 : Nat) : Int) := by rw [Int.tdiv_eq_ediv_of_nonneg (by omega)]; omega
  have hw3 : IntKind.i64.wrap (((k + 30) / 31 : Nat) : Int) = (((k + 30) / 31 : Nat) : Int) := by rw [IntKind.wrap_i64]; omega
  go_enter Tryz.func36, Tryz.ntmps36
  go_wp2_with fail
  refine (HV.out _).mono ?_
  rintro e w1 ⟨rfl, rfl⟩
  go_wp2
  go_ret
  exact ⟨rfl, rfl⟩
 ·rw [if_neg h]
  rw [decide_eq_false h] at HV
  go_enter Tryz.func36, Tryz.ntmps36
  go_wp2_with fail
  refine (HV.out _).mono ?_
  rintro e w1 ⟨rfl, rfl⟩
  go_wp2
  go_ret
  exact ⟨rfl, rfl⟩
theorem paramsBetween (x l m : Int) (w : World) :
  Calls Tryz.prog 35 #[.int .i64 x, .int .i64 l, .int .i64 m] w fun e w' => e = .returned (.bool (decide (l ≤ x ∧ x ≤ m))) ∧ w = w' := by
 by_cases h1 : l ≤ x
 ·by_cases h2 : x ≤ m
  ·rw [decide_eq_true ⟨h1, h2⟩]
   go_enter Tryz.func35, Tryz.ntmps35
   go_wp2
   go_ret
   exact ⟨rfl, rfl⟩
  ·rw [decide_eq_false (fun h => h2 h.2)]
   go_enter Tryz.func35, Tryz.ntmps35
   go_wp2
   go_ret
   exact ⟨rfl, rfl⟩
 ·rw [decide_eq_false (fun h => h1 h.1)]
  go_enter Tryz.func35, Tryz.ntmps35
  go_wp2
  go_ret
  exact ⟨rfl, rfl⟩
theorem recordSize (n : Nat) (hn : n ≤ 65535) (w : World) :
  Calls Tryz.prog 27 #[.int .i64 n] w fun e w' => e = .returned (.int .i64 (38 + 32 * ((n + 30) / 31) : Nat)) ∧ w = w' := by
 have HC := Lib.hid (chunksCount n)
 rw [cnt_nat n hn] at HC
 obtain ⟨c, hc⟩ : ∃ c, c = (n + 30) / 31 := ⟨_, rfl⟩
 have hc1 : c ≤ 3000 := by omega
 rw [← hc] at HC ⊢
 clear hc
 have h2 : ¬ (65535 : Int) < n := by omega
 have hw1 : IntKind.i64.wrap ((c : Int) * 32) = ((c * 32 : Nat) : Int) := by rw [IntKind.wrap_i64]; omega
 have hw2 : IntKind.i64.wrap (6 + ((c * 32 : Nat) : Int)) = ((6 + c * 32 : Nat) : Int) := by rw [IntKind.wrap_i64]; omega
 have hw3 : IntKind.i64.wrap (((6 + c * 32 : Nat) : Int) + 32) = ((38 + 32 * c : Nat) : Int) := by rw [IntKind.wrap_i64]; omega
 go_enter Tryz.func27, Tryz.ntmps27
 go_wp2_with fail
 refine (HC.out _).mono ?_
 rintro e w1 ⟨rfl, rfl⟩
 go_wp2
 go_ret
 refine ⟨?_, rfl⟩
 show Ending.returned (.int .i64 (6 + (c : Int) * 32 + 32)) = Ending.returned (.int .i64 ((38 + 32 * c : Nat) : Int))
 congr 2
 omega
end Go.Proofs.YtccgfladbibjbaaGreatDoor
namespace Go.Proofs.YtccgfladbibjbaaGreatDoor
open Go.RowKit
attribute [local go_sem ↓] add_UU sub_UU mul_UU add_UL add_LU sub_UL sub_LU mul_UL neg_at not_at and_UU or_UU xor_UU andNot_UU and_UL or_LU shr_UL shl_UL shr_UN shl_UN shl_LN quo_UL rem_UL quo_UU rem_UU
attribute [local go_sem] wrap64_N wrapi_mod wrap8_U wrap32_U wrap64_B wrap32_B wrap8_D wrapi_B wrap64_UU eq_UU ne_UU eq_UL ne_UL lt_UU le_UU
attribute [local simp] putAgg_size
attribute [local go_sem ↓] loadVar_F loadVar_E loadVar_V loadVar_B32 storeVar_F storeVar_E storeVar_V storeVar_B32 box_F box_E box_V box_B32
attribute [local go_sem ↓ high] V4.cells_val FP.cells_val
attribute [local go_sem] run_loadF run_loadE run_loadV run_loadB32 run_storeF run_storeE run_storeV run_storeB32 run_boxA aggAt_drew aggAt_drewN aggAt_alloc_new aggAt_alloc_past aggAt_setCell_other aggAt_putAgg_other aggAt_putAgg_new putAgg_drew putAgg_size putAgg_alloc_new putAgg_alloc_past putAgg_cell_other putAgg_frozen_other V4.agg_arr FP.agg_arr V4.size_arr FP.size_arr V4.fits FP.fits fitsA_agg4 lt_2 ne_2 en_2 lt_3 ne_3 en_3 lt_4 ne_4 en_4 lt_5 ne_5 en_5 lt_6 ne_6 en_6
attribute [local go_sem ↓ high] bval_cells
attribute [local go_sem] agg_bytes byteVals_size byteVals_length
theorem slice_all32 (g : Nat) (w : World) : (Instr.sliceAt 64 (.pointer (some ⟨g, 0, none⟩)) none none none).run Tryz.prog w = .ok (.slice (some ⟨g, 0, none⟩) 32 32) w := by kernel_rfl
set_option maxRecDepth 20000 in
set_option maxHeartbeats 1000000 in
theorem recTagged (A : Option Addr) (cap : Nat) (l : List (BitVec 8)) (w : World) (L : Laid w) (hs : Sees w A (byteVals l)) (hcap : l.length ≤ cap) (hlen : l.length ≤ 549755813888) :
  Calls Tryz.prog 34 #[.slice A l.length cap] w fun e w' => ∃ v, e = .returned v ∧ OwnB w' w.heap.size v (l ++ sumL l) ∧ Below w.heap.size w w' := by
 have HS := Lib.hid (shaSum A cap l w L hs hcap (by omega))
 have HR := Lib.hid (sumL_length l)
 have HA := Lib.hid hs
 clear hs L
 generalize sumL l = R at *
 go_enter Tryz.func34, Tryz.ntmps34
 go_wp2_with fail
 refine HS.out.mono ?_
 rintro e w1 ⟨rfl, hb1⟩
 have hr := HR.out
 have hsl := slice_all32 w1.heap.size
 have hf := fits_bytes 32 R hr
 have HB := Lib.hid hb1
 have hbA : Below w1.heap.size w1 (w1.alloc (.cells (byteVals R).toArray 64)) := (by repeat (first | with_reducible assumption | with_reducible exact Below.refl _ _ | (with_reducible refine putAgg_below ?_ (by first | omega | (simp; done) | (simp; omega))) | (with_reducible refine Below.alloc ?_ (by first | omega | (simp; done) | (simp; omega)) _) | (with_reducible refine Below.setCell ?_ (by first | omega | (simp; done) | (simp; omega)) _) | (with_reducible refine Below.drew ?_) | (with_reducible refine Below.trans ?_ (Below.mono (by with_reducible assumption) (by first | omega | (simp; done) | (simp; omega))))))
 have hI : IsBs (w1.alloc (.cells (byteVals R).toArray 64)) w1.heap.size 64 R := heap_alloc_new w1 _
 have HW := Lib.hid (show ∀ ob, Below w1.heap.size w1 ((w1.alloc (.cells (byteVals R).toArray 64)).alloc ob) ∧ Sees ((w1.alloc (.cells (byteVals R).toArray 64)).alloc ob) A (byteVals l) ∧ Sees ((w1.alloc (.cells (byteVals R).toArray 64)).alloc ob) (some ⟨w1.heap.size, 0, none⟩) (byteVals R) from
  fun ob => ⟨hbA.alloc (by simp) ob, ((HA.out.below hb1).alloc _).alloc ob, hI.sees.alloc ob⟩)
 clear hb1 hbA hI HS HA
 go_wp2_with fail
 have hq := HW.out (Obj.cells #[Value.slice A l.length cap, Value.slice (some ⟨w1.heap.size, 0, none⟩) 32 32] 22)
 have HC := concat2 (w1.heap.size + 1) A (some ⟨w1.heap.size, 0, none⟩) cap 32 l R _ (by simp) (by rw [hr]; simp) hq.2.1 hq.2.2 (by omega)
 refine HC.mono ?_
 rintro e w2 ⟨v, rfl, hO, hb2⟩
 have H2 := Lib.hid (show OwnB w2 w.heap.size v (l ++ R) ∧ Below w.heap.size w w2 from ⟨hO.base_le (by simp only [World.size_alloc]; have := HB.out.size; omega), HB.out.trans ((hq.1.trans (hb2.mono (by simp; omega))).mono HB.out.size)⟩)
 clear hO hb2 HC hq
 go_wp2
 go_ret
 exact ⟨v, rfl, H2.out⟩
end Go.Proofs.YtccgfladbibjbaaGreatDoor
namespace Go.Proofs.YtccgfladbibjbaaGreatDoor
open Go.RowKit
attribute [local go_sem ↓] add_UU sub_UU mul_UU add_UL add_LU sub_UL sub_LU mul_UL neg_at not_at and_UU or_UU xor_UU andNot_UU and_UL or_LU shr_UL shl_UL shr_UN shl_UN shl_LN quo_UL rem_UL quo_UU rem_UU
attribute [local go_sem] wrap64_N wrapi_mod wrap8_U wrap32_U wrap64_B wrap32_B wrap8_D wrapi_B wrap64_UU eq_UU ne_UU eq_UL ne_UL lt_UU le_UU
attribute [local simp] putAgg_size
attribute [local go_sem ↓] loadVar_F loadVar_E loadVar_V loadVar_B32 storeVar_F storeVar_E storeVar_V storeVar_B32 box_F box_E box_V box_B32
attribute [local go_sem ↓ high] V4.cells_val FP.cells_val
attribute [local go_sem] run_loadF run_loadE run_loadV run_loadB32 run_storeF run_storeE run_storeV run_storeB32 run_boxA aggAt_drew aggAt_drewN aggAt_alloc_new aggAt_alloc_past aggAt_setCell_other aggAt_putAgg_other aggAt_putAgg_new putAgg_drew putAgg_size putAgg_alloc_new putAgg_alloc_past putAgg_cell_other putAgg_frozen_other V4.agg_arr FP.agg_arr V4.size_arr FP.size_arr V4.fits FP.fits fitsA_agg4 lt_2 ne_2 en_2 lt_3 ne_3 en_3 lt_4 ne_4 en_4 lt_5 ne_5 en_5 lt_6 ne_6 en_6
attribute [local go_sem ↓ high] bval_cells
attribute [local go_sem] agg_bytes byteVals_size byteVals_length
theorem bits_back8 (x : BitVec 8) : IntKind.u8.wrap (x.toNat : Int) = B x := by
 rw [IntKind.wrap_u8']; unfold B; have := x.isLt; omega
theorem or_BB (x y : BitVec 8) : Op.intBits .or .u8 (B x) (B y) = pure (.int .u8 (B (x ||| y))) := by
 show pure (Value.int .u8 (IntKind.u8.wrap ((BitVec.ofInt 8 (B x) ||| BitVec.ofInt 8 (B y)).toNat : Int))) = _
 rw [bits_back8, ofInt_B, ofInt_B]
theorem xor_BB (x y : BitVec 8) : Op.intBits .xor .u8 (B x) (B y) = pure (.int .u8 (B (x ^^^ y))) := by
 show pure (Value.int .u8 (IntKind.u8.wrap ((BitVec.ofInt 8 (B x) ^^^ BitVec.ofInt 8 (B y)).toNat : Int))) = _
 rw [bits_back8, ofInt_B, ofInt_B]
theorem eq_B0 (x : BitVec 8) : (B x == (0 : Int)) = (x == 0#8) := by
 rw [show (0 : Int) = B 0#8 from rfl, Bool.eq_iff_iff]; simp only [beq_iff_eq, B, Int.natCast_inj, BitVec.toNat_inj]
attribute [local go_sem ↓] or_BB xor_BB
attribute [local go_sem] eq_B0
def diffT (a b : List (BitVec 8)) : Nat → BitVec 8
 | 0 => 0#8
 | t + 1 => diffT a b t ||| (a[t]?.getD 0#8 ^^^ b[t]?.getD 0#8)
theorem diffT_zero (a b : List (BitVec 8)) : ∀ t, diffT a b t = 0#8 ↔ ∀ j, j < t → a[j]?.getD 0#8 = b[j]?.getD 0#8
 | 0 => ⟨fun _ j h => absurd h (by omega), fun _ => rfl⟩
 | t + 1 => by
  have ih := diffT_zero a b t
  rw [diffT]
  have hor : ∀ x y : BitVec 8, (x ||| y = 0#8) ↔ (x = 0#8 ∧ y = 0#8) := fun x y => BitVec.or_eq_zero_iff
  have hxor : ∀ x y : BitVec 8, (x ^^^ y = 0#8) ↔ x = y := fun x y => BitVec.xor_eq_zero_iff
  rw [hor, hxor, ih]
  constructor
  ·rintro ⟨h1, h2⟩ j hj
   rcases Nat.lt_or_ge j t with h | h
   ·exact h1 j h
   ·obtain rfl : j = t := by omega
    exact h2
  ·intro h
   exact ⟨fun j hj => h j (by omega), h t (by omega)⟩
theorem diff_eq (a b : List (BitVec 8)) (ha : a.length = 32) (hb : b.length = 32) : (diffT a b 32 == 0#8) = decide (a = b) := by
 rw [Bool.eq_iff_iff, beq_iff_eq, decide_eq_true_eq, diffT_zero]
 constructor
 ·intro h
  apply List.ext_getElem (by omega)
  intro i h1 h2
  have := h i (by omega)
  rwa [List.getElem?_eq_getElem h1, List.getElem?_eq_getElem h2] at this
 ·rintro rfl j _
  rfl
theorem index_B (R : List (BitVec 8)) (hR : R.length = 32) (t : Nat) (ht : t < 32) (w : World) : (Instr.index 64 (bval R) (.int .i64 t)).run Tryz.prog w = .ok (.int .u8 (B (R[t]?.getD 0#8))) w := by
 have hp : ∀ (cs : Array Value) (o : Nat) (v : Value), cs[o]? = some v → (part 5 cs o).run Tryz.prog w = .ok v w := by
  intro cs o v h
  unfold part
  rw [Sem.run_bind, show (isAgg 5).run Tryz.prog w = .ok false w from by kernel_rfl]
  simp [Result.andThen, h]
 have hz : (sizeOf 5).run Tryz.prog w = .ok 1 w := by kernel_rfl
 have hc : (byteVals R).toArray[t]? = some (.int .u8 (B (R[t]?.getD 0#8))) := by
  rw [List.getElem?_toArray]
  exact byteVals_get R t (by omega)
 unfold Instr.index bval
 simp only [asIntOf, Sem.run_bind, Sem.run_pure, Result.andThen, run_underlying Tryz.underlying64]
 rw [if_pos (by omega), Sem.run_bind, hz]
 simp only [Result.andThen, Int.toNat_natCast, Nat.mul_one]
 exact hp _ _ _ hc
set_option maxRecDepth 20000 in
set_option maxHeartbeats 1000000 in
theorem recSame (A : Option Addr) (cap : Nat) (l : List (BitVec 8)) (n : Nat) (w : World) (L : Laid w) (hs : Sees w A (byteVals l)) (hcap : l.length ≤ cap) (hlen : l.length ≤ 549755813888) (hn : l.length = n + 32) :
  Calls Tryz.prog 29 #[.slice A l.length cap] w fun e w' => e = .returned (.bool (decide (sumL (l.take n) = l.drop n))) ∧ Below w.heap.size w w' := by
 obtain ⟨b, o, hA, hr⟩ := hs.range (by rw [byteVals_length]; omega)
 subst hA
 have hr2 := rangeAt_drop hr n
 have hd : (l.drop n).length = 32 := by rw [List.length_drop]; omega
 have hw1 : IntKind.i64.wrap ((l.length : Int) - 32) = (n : Int) := by rw [IntKind.wrap_i64]; omega
 have hct := cut_l (some ⟨b, o, none⟩) l.length cap n (by omega) .i64
 have hch := cut_h (some ⟨b, o, none⟩) l.length cap n (by omega) .i64
 have hca := cutA_some b o n cap (by omega)
 rw [hca, show l.length - n = 32 from by omega] at hct
 have har := arrayAt32' (some ⟨b, o + n, none⟩) 32 (cap - n) (by omega)
 have hb32 : b < w.heap.size := Sees.lt (o := o) (xs := byteVals l) hs (by rw [byteVals_length]; omega)
 have hld := load_range b (o + n) (l.drop n) hd hr2
 have HS := Lib.hid (fun W (hW : Below w.heap.size w W) => shaSum (some ⟨b, o, none⟩) cap (l.take n) W (L.to hW) (by
  rw [show byteVals (l.take n) = (byteVals l).take n from by unfold byteVals; rw [List.map_take]]
  exact (hs.below hW).take n) (by rw [List.length_take]; omega) (by rw [List.length_take]; omega))
 have HR := Lib.hid (sumL_length (l.take n))
 have hf := fits_bytes 32 _ hd
 have hlt : (l.take n).length = n := by rw [List.length_take]; omega
 generalize hR : sumL (l.take n) = R at *
 generalize hT : l.drop n = T at *
 rw [hlt] at HS
 clear hr hr2 hR hs L hca hlt hT
 go_enter Tryz.func29, Tryz.ntmps29
 go_wp2_with fail
 have hbA : Below w.heap.size w (w.alloc (.cells (byteVals T).toArray 64)) := (by repeat (first | with_reducible assumption | with_reducible exact Below.refl _ _ | (with_reducible refine putAgg_below ?_ (by first | omega | (simp; done) | (simp; omega))) | (with_reducible refine Below.alloc ?_ (by first | omega | (simp; done) | (simp; omega)) _) | (with_reducible refine Below.setCell ?_ (by first | omega | (simp; done) | (simp; omega)) _) | (with_reducible refine Below.drew ?_) | (with_reducible refine Below.trans ?_ (Below.mono (by with_reducible assumption) (by first | omega | (simp; done) | (simp; omega))))))
 have hIT : IsBs (w.alloc (.cells (byteVals T).toArray 64)) w.heap.size 64 T := heap_alloc_new w _
 refine (HS.out _ hbA).mono ?_
 rintro e w1 ⟨rfl, hb1⟩
 have HI := Lib.hid (And.intro (hIT.call hb1) (hbA.trans (hb1.mono (by simp))))
 have hRl := HR.out
 clear hbA hIT hb1 HS hld har hch hct
 go_wp2
 go_loop [5, 6, 7, 20] (fun d x c i => ∃ t : Nat, t ≤ 32 ∧ i = .int .i64 t ∧ d = .int .u8 (B (diffT R T t))) (fun _ _ _ i => 32 - (intOf i).toNat)
 case atStart => exact ⟨0, by omega, rfl, rfl⟩
 case round =>
  obtain ⟨t, ht, rfl, rfl⟩ := hrel
  by_cases h32 : t < 32
  ·have h32' : (t : Int) < 32 := by omega
   have hx := index_B R hRl t h32
   have hc := HI.out.1.cell t (by omega)
   have HD := Lib.hid (show diffT R T (t + 1) = diffT R T t ||| (R[t]?.getD 0#8 ^^^ T[t]?.getD 0#8) from rfl)
   generalize R[t]?.getD 0#8 = rx at *
   generalize T[t]?.getD 0#8 = ry at *
   go_wp2
   go_round
   case rel => exact ⟨t + 1, by omega, by go_num, by rw [HD.out]⟩
   case measure => simp [intOf]; omega
  ·obtain rfl : t = 32 := by omega
   have HD := Lib.hid (diff_eq R T hRl hd)
   go_wp2
   go_ret
   refine ⟨?_, HI.out.2⟩
   rw [← HD.out]
   rfl
end Go.Proofs.YtccgfladbibjbaaGreatDoor
