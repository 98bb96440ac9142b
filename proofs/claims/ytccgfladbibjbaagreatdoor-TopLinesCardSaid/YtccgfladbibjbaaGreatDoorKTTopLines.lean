/- sharecoretop.TopLines: true. -/
import Derived.Test.YtccgfladbibjbaaGreatDoorKT19D
import Derived.Test.YtccgfladbibjbaaGreatDoorKG42
import Derived.Test.YtccgfladbibjbaaGreatDoorKG40
import Derived.Test.YtccgfladbibjbaaGreatDoorKG16
namespace Go.Proofs.YtccgfladbibjbaaGreatDoor
open Go.RowKit Go.Shelf
attribute [local go_sem ↓] add_UU sub_UU mul_UU add_UL add_LU sub_UL sub_LU mul_UL neg_at not_at and_UU or_UU xor_UU andNot_UU and_UL or_LU shr_UL shl_UL shr_UN shl_UN shl_LN quo_UL rem_UL quo_UU rem_UU
attribute [local go_sem] wrap64_N wrapi_mod wrap8_U wrap32_U wrap64_B wrap32_B wrap8_D wrapi_B wrap64_UU eq_UU ne_UU eq_UL ne_UL lt_UU le_UU
attribute [local simp] putAgg_size
attribute [local go_sem ↓] loadVar_F loadVar_E loadVar_V loadVar_B32 storeVar_F storeVar_E storeVar_V storeVar_B32 box_F box_E box_V box_B32
attribute [local go_sem ↓ high] V4.cells_val FP.cells_val
attribute [local go_sem] run_loadF run_loadE run_loadV run_loadB32 run_storeF run_storeE run_storeV run_storeB32 run_boxA aggAt_drew aggAt_drewN aggAt_alloc_new aggAt_alloc_past aggAt_setCell_other aggAt_putAgg_other aggAt_putAgg_new putAgg_drew putAgg_size putAgg_alloc_new putAgg_alloc_past putAgg_cell_other putAgg_frozen_other V4.agg_arr FP.agg_arr V4.size_arr FP.size_arr V4.fits FP.fits fitsA_agg4 lt_2 ne_2 en_2 lt_3 ne_3 en_3 lt_4 ne_4 en_4 lt_5 ne_5 en_5 lt_6 ne_6 en_6
attribute [local go_sem ↓] loadVar_Sh storeVar_Sh
attribute [local go_sem] run_loadSh run_storeSh fits_Sh
set_option maxRecDepth 100000 in
set_option maxHeartbeats 4000000 in
theorem topLines (A : Option Addr) (cap : Nat) (l : List (BitVec 8)) (hcap : l.length ≤ cap) (w : World) (L : Laid w) (hs : Sees w A (byteVals l)) :
  Calls Tryz.prog 3 #[.slice A l.length cap] w fun e w' => e = .returned (.bool true) ∧ Below w.heap.size w w' := by
 have HT := Lib.hid (fun W (hW : Below w.heap.size w W) => topShares W (L.to hW))
 by_cases h1000 : (1000 : Int) < (l.length : Int)
 ·clear hs L
  generalize l.length = n at *
  go_enter Tryz.func3, Tryz.ntmps3
  go_wp2_with fail
  refine (HT.out _ (Below.refl _ _)).mono ?_
  rintro e w1 ⟨rfl, hb⟩
  have HB := Lib.hid hb
  clear hb
  go_wp2
  go_ret
  exact ⟨rfl, HB.out⟩
 ·have hl : l.length ≤ 1000 := by omega
  have HS := Lib.hid (fun W (hW : Below w.heap.size w W) => And.intro (L.to hW) (hs.below hW))
  have HD := Lib.hid (recDecode A cap l (by omega) hcap w L hs)
  have HRD := Lib.hid (fun W (hW : Below w.heap.size w W) => refDec19 A cap l (by omega) hcap W (hs.below hW))
  have HRS := Lib.hid (rec_forth l)
  have HRZ := Lib.hid (show recE l ≠ 0 → recS l = ⟨0, 0, 0, 0, []⟩ from fun h => by unfold recS; rw [if_neg h])
  have HEq := Lib.hid (fun W A2 c2 (h1 : Sees W A (byteVals l)) (h2 : Sees W A2 (byteVals l)) => bytesEq l A A2 cap c2 W h1 h2)
  obtain ⟨n, hn⟩ : ∃ n, l.length = n := ⟨_, rfl⟩
  have HN := Lib.hid (And.intro hn hl)
  rw [hn] at h1000 HD HRD HEq ⊢
  clear hs L hn hl hcap
  go_enter Tryz.func3, Tryz.ntmps3
  go_wp2_with fail
  refine HD.out.mono ?_
  rintro e w1 ⟨X, rfl, hX, hO, hb⟩
  have HX := Lib.hid (And.intro hX (And.intro hO hb))
  clear hX hO hb HD h1000
  by_cases hz : recE l = 0
  ·obtain ⟨hck, henc⟩ := HRS.out hz
   rw [← HX.out.1] at hck henc
   have hsp : Sees w1 X.A (eVals X.s.pay) := by
    obtain ⟨A', c', e, -, hsp, -⟩ := HX.out.2.1.open
    unfold ShA.pv at e
    injection e with e1 _ e3
    rw [e1]; exact hsp
   have hpl : X.s.pay.length ≤ 2115 := by rw [(checkE_ok hck).2.2.2.2.1]; exact cnt_le _
   have HB1 := Lib.hid HX.out.2.2
   have HSP := Lib.hid (And.intro hsp (And.intro hpl (And.intro hck henc)))
   rw [hz]
   clear hz HX HRZ HRS HRD hsp hpl hck henc
   obtain ⟨⟨fd, th, ix, ln, P⟩, XA, Xc⟩ := X
   unfold Sh.val Sh.cells
   simp only [] at HSP ⊢
   have HEnc := Lib.hid (fun W L hs => recEncode ⟨fd, th, ix, ln, P⟩ XA Xc W L hs (Nat.le_trans HSP.out.2.1 (by decide)) HSP.out.2.2.1)
   have HCk := Lib.hid (fun W L hs => checkShare ⟨fd, th, ix, ln, P⟩ XA Xc W L hs (Nat.le_trans HSP.out.2.1 (by decide)))
   rw [HSP.out.2.2.1] at HCk
   rw [HSP.out.2.2.2] at HEnc
   unfold Sh.val Sh.cells at HEnc HCk
   simp only [] at HEnc HCk
   go_upto_region 7 with (fail)
   (obtain ⟨W1, hW1⟩ : ∃ W0 : World, W0 = (w1).alloc (.cells #[.int .i64 fd, .int .i64 th, .int .i64 ix, .int .i64 ln, .slice XA P.length Xc] 26) := ⟨_, rfl⟩); (have gW1 : ∀ (j : Nat) (o : Obj), ([Obj.cells #[.int .i64 fd, .int .i64 th, .int .i64 ix, .int .i64 ln, .slice XA P.length Xc] 26] : List Obj)[j]? = some o → W1.heap[w1.heap.size + j]? = some o := by rw [hW1]; exact allocs_get w1 _); (have zW1 : W1.heap.size = w1.heap.size + 1 := by rw [hW1]; exact allocs_size w1 [Obj.cells #[.int .i64 fd, .int .i64 th, .int .i64 ix, .int .i64 ln, .slice XA P.length Xc] 26]); (have bW1 : Below w1.heap.size w1 W1 := by rw [hW1]; exact allocs_below w1 [Obj.cells #[.int .i64 fd, .int .i64 th, .int .i64 ix, .int .i64 ln, .slice XA P.length Xc] 26]); (rw [← hW1]); (clear hW1)
   have g1 : W1.heap[w1.heap.size]? = some (.cells #[.int .i64 fd, .int .i64 th, .int .i64 ix, .int .i64 ln, .slice XA P.length Xc] 26 (0, 0)) := gW1 0 _ rfl
   have HG1 := Lib.hid (And.intro g1 (And.intro (HSP.out.1.below bW1) (HB1.out.trans (bW1.mono HB1.out.size))))
   have p1 := aggSh_of_block g1 rfl
   clear g1 gW1 zW1 bW1
   go_wp2_with fail
   refine (HEnc.out W1 (HS.out _ HG1.out.2.2).1 HG1.out.2.1).mono ?_
   rintro e w2 ⟨v, rfl, hv, hb⟩
   obtain ⟨A2, c2, rfl, -, hs2, -⟩ := hv.open
   rw [HN.out.1]
   have HG2 := Lib.hid (And.intro (blk_below HG1.out.1 hb rfl) (And.intro (HG1.out.2.1.below hb) (And.intro (HG1.out.2.2.trans (hb.mono HG1.out.2.2.size)) hs2)))
   clear hv hb hs2 p1 HG1 HEnc
   go_wp2_with fail
   refine (HT.out w2 HG2.out.2.2.1).mono ?_
   rintro e w3 ⟨rfl, hb⟩
   have HG3 := Lib.hid (And.intro (blk_below HG2.out.1 hb rfl) (And.intro (HG2.out.2.1.below hb) (And.intro (HG2.out.2.2.1.trans (hb.mono HG2.out.2.2.1.size)) (HG2.out.2.2.2.below hb))))
   clear hb HG2
   go_wp2_with fail
   refine (HEq.out w3 A2 c2 (HS.out _ HG3.out.2.2.1).2 HG3.out.2.2.2).mono ?_
   rintro e w4 ⟨rfl, rfl⟩
   have p3 := aggSh_of_block HG3.out.1 rfl
   go_wp2_with fail
   refine (HCk.out _ (HS.out _ HG3.out.2.2.1).1 HG3.out.2.1).mono ?_
   rintro e w5 ⟨rfl, hb⟩
   have HB5 := Lib.hid (HG3.out.2.2.1.trans (hb.mono HG3.out.2.2.1.size))
   clear hb p3 HG3
   go_wp2
   go_ret
   exact ⟨rfl, HB5.out⟩
  ·have hZ := HRZ.out hz
   rw [← HX.out.1] at hZ
   obtain ⟨s, XA, Xc⟩ := X
   simp only [] at hZ
   subst hZ
   have HB1 := Lib.hid (HX.out.2.2)
   obtain ⟨ee, hee⟩ : ∃ ee, recE l = ee := ⟨_, rfl⟩
   rw [hee] at HRD hz ⊢
   have hne : (ee != 0) = true := by simpa using hz
   have hee2 : (ee == ee) = true := by simp
   clear hz HX HRZ HRS hee
   unfold Sh.val Sh.cells
   simp only [List.length_nil]
   go_upto_region 5 with (fail)
   (obtain ⟨W1, hW1⟩ : ∃ W0 : World, W0 = (w1).alloc (.cells #[.int .i64 0, .int .i64 0, .int .i64 0, .int .i64 0, .slice XA 0 Xc] 26) := ⟨_, rfl⟩); (have gW1 : ∀ (j : Nat) (o : Obj), ([Obj.cells #[.int .i64 0, .int .i64 0, .int .i64 0, .int .i64 0, .slice XA 0 Xc] 26] : List Obj)[j]? = some o → W1.heap[w1.heap.size + j]? = some o := by rw [hW1]; exact allocs_get w1 _); (have zW1 : W1.heap.size = w1.heap.size + 1 := by rw [hW1]; exact allocs_size w1 [Obj.cells #[.int .i64 0, .int .i64 0, .int .i64 0, .int .i64 0, .slice XA 0 Xc] 26]); (have bW1 : Below w1.heap.size w1 W1 := by rw [hW1]; exact allocs_below w1 [Obj.cells #[.int .i64 0, .int .i64 0, .int .i64 0, .int .i64 0, .slice XA 0 Xc] 26]); (rw [← hW1]); (clear hW1)
   have g1 : W1.heap[w1.heap.size]? = some (.cells #[.int .i64 0, .int .i64 0, .int .i64 0, .int .i64 0, .slice XA 0 Xc] 26 (0, 0)) := gW1 0 _ rfl
   have HG1 := Lib.hid (And.intro g1 (HB1.out.trans (bW1.mono HB1.out.size)))
   clear g1 gW1 zW1 bW1
   go_wp2_with fail
   refine (HRD.out _ HG1.out.2).mono ?_
   rintro e w2 ⟨Y, rfl, -, -, hb⟩
   have HG2 := Lib.hid (And.intro (blk_below HG1.out.1 hb rfl) (HG1.out.2.trans (hb.mono HG1.out.2.size)))
   obtain ⟨⟨yf, yt, yi, yn, yp⟩, yA, yc⟩ := Y
   unfold Sh.val Sh.cells
   simp only []
   clear hb HG1 HRD
   go_upto_region 6 with (fail)
   (obtain ⟨W3, hW3⟩ : ∃ W0 : World, W0 = (w2).alloc (.cells #[.int .i64 yf, .int .i64 yt, .int .i64 yi, .int .i64 yn, .slice yA yp.length yc] 26) := ⟨_, rfl⟩); (have gW3 : ∀ (j : Nat) (o : Obj), ([Obj.cells #[.int .i64 yf, .int .i64 yt, .int .i64 yi, .int .i64 yn, .slice yA yp.length yc] 26] : List Obj)[j]? = some o → W3.heap[w2.heap.size + j]? = some o := by rw [hW3]; exact allocs_get w2 _); (have zW3 : W3.heap.size = w2.heap.size + 1 := by rw [hW3]; exact allocs_size w2 [Obj.cells #[.int .i64 yf, .int .i64 yt, .int .i64 yi, .int .i64 yn, .slice yA yp.length yc] 26]); (have bW3 : Below w2.heap.size w2 W3 := by rw [hW3]; exact allocs_below w2 [Obj.cells #[.int .i64 yf, .int .i64 yt, .int .i64 yi, .int .i64 yn, .slice yA yp.length yc] 26]); (rw [← hW3]); (clear hW3)
   have HG3 := Lib.hid (And.intro (blk_below HG2.out.1 bW3 rfl) (HG2.out.2.trans (bW3.mono HG2.out.2.size)))
   clear gW3 zW3 bW3 HG2
   go_wp2_with fail
   refine (HT.out _ HG3.out.2).mono ?_
   rintro e w4 ⟨rfl, hb⟩
   have HG4 := Lib.hid (And.intro (blk_below HG3.out.1 hb rfl) (HG3.out.2.trans (hb.mono HG3.out.2.size)))
   have x4 := row_cell (cs := [_, _, _, _, _]) HG4.out.1 4 rfl
   clear hb HG3
   go_wp2
   go_ret
   exact ⟨rfl, HG4.out.2⟩
end Go.Proofs.YtccgfladbibjbaaGreatDoor
