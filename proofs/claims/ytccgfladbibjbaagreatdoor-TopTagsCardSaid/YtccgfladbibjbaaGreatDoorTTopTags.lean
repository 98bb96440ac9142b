/- sharecoretop.TopTags: true. -/
import Derived.Test.YtccgfladbibjbaaGreatDoorTNeqB
import Derived.Test.YtccgfladbibjbaaGreatDoorG41
import Derived.Test.YtccgfladbibjbaaGreatDoorT15R
import Derived.Test.YtccgfladbibjbaaGreatDoorG40
import Derived.Test.YtccgfladbibjbaaGreatDoorG37
namespace Go.Proofs.YtccgfladbibjbaaGreatDoor
open Go.RowKit Go.Shelf
attribute [local go_sem ↓] add_UU sub_UU mul_UU add_UL add_LU sub_UL sub_LU mul_UL neg_at not_at and_UU or_UU xor_UU andNot_UU and_UL or_LU shr_UL shl_UL shr_UN shl_UN shl_LN quo_UL rem_UL quo_UU rem_UU
attribute [local go_sem] wrap64_N wrapi_mod wrap8_U wrap32_U wrap64_B wrap32_B wrap8_D wrapi_B wrap64_UU eq_UU ne_UU eq_UL ne_UL lt_UU le_UU
attribute [local simp] putAgg_size
attribute [local go_sem ↓] loadVar_F loadVar_E loadVar_V loadVar_B32 storeVar_F storeVar_E storeVar_V storeVar_B32 box_F box_E box_V box_B32
attribute [local go_sem ↓ high] V4.cells_val FP.cells_val
attribute [local go_sem] run_loadF run_loadE run_loadV run_loadB32 run_storeF run_storeE run_storeV run_storeB32 run_boxA aggAt_drew aggAt_drewN aggAt_alloc_new aggAt_alloc_past aggAt_setCell_other aggAt_putAgg_other aggAt_putAgg_new putAgg_drew putAgg_size putAgg_alloc_new putAgg_alloc_past putAgg_cell_other putAgg_frozen_other V4.agg_arr FP.agg_arr V4.size_arr FP.size_arr V4.fits FP.fits fitsA_agg4 lt_2 ne_2 en_2 lt_3 ne_3 en_3 lt_4 ne_4 en_4 lt_5 ne_5 en_5 lt_6 ne_6 en_6
attribute [local go_sem ↓ high] bval_cells
attribute [local go_sem] agg_bytes byteVals_size byteVals_length

/-- A record is its body and the body's sum. -/
theorem encR_body (s : Sh) : ∃ b, encR s = b ++ sumL b ∧ b.length = 6 + 32 * s.pay.length := by
  refine ⟨headL s ++ bodyL (getF s.field) s.pay, rfl, ?_⟩
  have := encR_length s
  unfold encR at this
  rw [List.length_append, sumL_length] at this
  omega

set_option maxRecDepth 100000 in
set_option maxHeartbeats 4000000 in
theorem topTags (p : Pa) (A1 A2 : Option Addr) (c1 c2 : Nat) (sec rnd : List (BitVec 8)) (hc1 : sec.length ≤ c1) (w : World) (L : Laid w) (h1 : Sees w A1 (byteVals sec)) (h2 : Sees w A2 (byteVals rnd)) :
    Calls Tryz.prog 6 #[.agg #[.int .i64 p.field, .int .i64 p.thr, .int .i64 p.shr, .int .i64 p.len, .slice A1 sec.length c1, .slice A2 rnd.length c2]] w fun e w' => e = .returned (.bool true) ∧ Below w.heap.size w w' := by
  have HL := Lib.hid (fun W (hW : Below w.heap.size w W) => L.to hW)
  have HS1 := Lib.hid (fun W (hW : Below w.heap.size w W) => h1.below hW)
  have HS2 := Lib.hid (fun W (hW : Below w.heap.size w W) => h2.below hW)
  obtain ⟨n, hn⟩ : ∃ n, sec.length = n := ⟨_, rfl⟩
  obtain ⟨m, hm⟩ : ∃ m, rnd.length = m := ⟨_, rfl⟩
  have HR := Lib.hid (topRight p A1 A2 n c1 m c2)
  have HN := Lib.hid (And.intro hn (And.intro hm hc1))
  rw [hn, hm]
  have HP := Lib.hid (rfl : p = ⟨p.field, p.thr, p.shr, p.len⟩)
  clear hn hm hc1 L h1 h2
  obtain ⟨f, t, s, l⟩ := p
  simp only [] at HR ⊢
  clear HP
  go_enter Tryz.func6, Tryz.ntmps6
  go_wp2_with fail
  (obtain ⟨W0, hW0⟩ : ∃ W0 : World, W0 = (w).alloc (.cells #[.int .i64 f, .int .i64 t, .int .i64 s, .int .i64 l, .slice A1 n c1, .slice A2 m c2] 60) := ⟨_, rfl⟩); (have gW0 : ∀ (j : Nat) (o : Obj), ([Obj.cells #[.int .i64 f, .int .i64 t, .int .i64 s, .int .i64 l, .slice A1 n c1, .slice A2 m c2] 60] : List Obj)[j]? = some o → W0.heap[w.heap.size + j]? = some o := by rw [hW0]; exact allocs_get w _); (have zW0 : W0.heap.size = w.heap.size + 1 := by rw [hW0]; exact allocs_size w [Obj.cells #[.int .i64 f, .int .i64 t, .int .i64 s, .int .i64 l, .slice A1 n c1, .slice A2 m c2] 60]); (have bW0 : Below w.heap.size w W0 := by rw [hW0]; exact allocs_below w [Obj.cells #[.int .i64 f, .int .i64 t, .int .i64 s, .int .i64 l, .slice A1 n c1, .slice A2 m c2] 60]); (rw [← hW0]); (clear hW0)
  have g0 : W0.heap[w.heap.size]? = some (.cells #[.int .i64 f, .int .i64 t, .int .i64 s, .int .i64 l, .slice A1 n c1, .slice A2 m c2] 60 (0, 0)) := gW0 0 _ rfl
  refine (HR.out _).mono ?_
  rintro e w1 ⟨r, rfl, hr, hb⟩
  have g1 := blk_below g0 hb rfl
  have HB1 := Lib.hid (bW0.trans (hb.mono bW0.size))
  clear g0 gW0 bW0 zW0 hb HR
  cases r with
  | false =>
    clear hr g1
    go_wp2_with fail
    refine (topShares _ (HL.out _ HB1.out)).mono ?_
    rintro e w2 ⟨rfl, hb⟩
    have HB2 := Lib.hid (HB1.out.trans (hb.mono HB1.out.size))
    clear hb
    go_wp2
    go_ret
    exact ⟨rfl, HB2.out⟩
  | true =>
    obtain ⟨hl, hq, hrd, hs8, hn70, hm5⟩ := hr rfl
    (try simp only [] at hl hs8)
    subst hl
    obtain ⟨_, z2, _, _⟩ := Pa.checkE_zero hq
    (try simp only [] at z2)
    obtain ⟨ns, rfl⟩ : ∃ ns : Nat, s = (ns : Int) := ⟨s.toNat, by omega⟩
    have hq' : ((⟨f, t, ns, (n : Int)⟩ : Pa).at sec.length).checkE = 0 := by rw [HN.out.1]; exact hq
    have HSp := Lib.hid (splitBytes ⟨f, t, ns, (n : Int)⟩ A1 c1 sec A2 c2 rnd w1 (HL.out _ HB1.out) hq' (by rw [HN.out.1, HN.out.2.1]; exact hrd) (by rw [HN.out.2.1]; omega) HN.out.2.2 (HS1.out _ HB1.out) (HS2.out _ HB1.out) (sharesV_ok _ _ _ hq'))
    have HOk := Lib.hid (sharesV_ok _ sec rnd hq')
    have HLen := Lib.hid (show (sharesV ((⟨f, t, ns, (n : Int)⟩ : Pa).at sec.length) sec rnd).length = ns from by unfold sharesV dealV; simp [Pa.at])
    generalize sharesV ((⟨f, t, ns, (n : Int)⟩ : Pa).at sec.length) sec rnd = shs at *
    rw [HN.out.1, HN.out.2.1] at HSp
    unfold Pa.val Pa.cells at HSp
    have x0 : w1.cell? ⟨w.heap.size, 0, none⟩ = some (.int .i64 f) := row_cell (cs := [_, _, _, _, _, _]) g1 0 rfl
    have x1 : w1.cell? ⟨w.heap.size, 1, none⟩ = some (.int .i64 t) := row_cell (cs := [_, _, _, _, _, _]) g1 1 rfl
    have x2 : w1.cell? ⟨w.heap.size, 2, none⟩ = some (.int .i64 ns) := row_cell (cs := [_, _, _, _, _, _]) g1 2 rfl
    have x3 : w1.cell? ⟨w.heap.size, 3, none⟩ = some (.int .i64 n) := row_cell (cs := [_, _, _, _, _, _]) g1 3 rfl
    have x4 : w1.cell? ⟨w.heap.size, 4, none⟩ = some (.slice A1 n c1) := row_cell (cs := [_, _, _, _, _, _]) g1 4 rfl
    have x5 : w1.cell? ⟨w.heap.size, 5, none⟩ = some (.slice A2 m c2) := row_cell (cs := [_, _, _, _, _, _]) g1 5 rfl
    have HG := Lib.hid g1
    have HNS := Lib.hid z2
    clear hr hq hq' hrd hs8 hn70 hm5 z2 g1
    go_wp2_with fail
    refine HSp.out.mono ?_
    rintro e w2 ⟨b, bs, rfl, hSR, hmap, hb⟩
    have hbl : bs.length = ns := by have := congrArg List.length hmap; rw [List.length_map, List.length_map, HLen.out] at this; exact this
    have hg2 := blk_below HG.out hb rfl
    have x2 : w2.cell? ⟨w.heap.size, 2, none⟩ = some (.int .i64 ns) := row_cell (cs := [_, _, _, _, _, _]) hg2 2 rfl
    have HB2 := Lib.hid (HB1.out.trans (hb.mono HB1.out.size))
    have HSR := Lib.hid (fun W (hW : Below w2.heap.size w2 W) => hSR.below hW)
    rw [hbl]
    have HM := Lib.hid (And.intro hmap hbl)
    clear hSR hmap hb hg2 hbl x0 x1 x3 x4 x5 HSp HG HB1
    have hne : ((ns : Int) != (ns : Int)) = false := by simp
    go_wp2
    go_loopw [35] (fun iv W => ∃ k : Nat, k ≤ ns ∧ iv = .int .i64 k ∧ Below w2.heap.size w2 W) (fun iv _ => ns - (intOf iv).toNat)
    case atStart => exact ⟨0, by omega, rfl, Below.refl _ _⟩
    case round =>
      obtain ⟨k, hk, rfl, hI⟩ := hrel
      by_cases hlt : k < ns
      · have hlt' : (k : Int) < (ns : Int) := by omega
        have hkb : k < bs.length := by rw [HM.out.2]; exact hlt
        obtain ⟨b', o', e, hbz, hcell, hsee, hcap⟩ := (HSR.out wr hI).at k hkb
        injection e with e
        injection e with e1 e2
        subst e1 e2
        obtain ⟨body, hbody⟩ : ∃ body, bs[k].l = body ++ sumL body ∧ body.length ≤ 1099511627776 := by
          have := congrArg (fun q => q[k]?) HM.out.1
          simp only [List.getElem?_map, List.getElem?_eq_getElem hkb, Option.map_some] at this
          cases hq : shs[k]? with
          | none => rw [hq] at this; cases this
          | some sh =>
            rw [hq, Option.map_some, Option.some.injEq] at this
            obtain ⟨bd, e1, e2⟩ := encR_body sh
            have h5 := (checkE_ok (HOk.out sh (List.mem_of_getElem? hq))).2.2.2.2.1
            have h6 := cnt_le sh.len
            exact ⟨bd, this.trans e1, by omega⟩
        generalize bs[k] = x at *
        obtain ⟨xA, xc, xl⟩ := x
        unfold BA.val at hcell
        simp only [] at hcell hsee hcap hbody
        obtain ⟨rfl, hbl⟩ := hbody
        obtain ⟨nb, hnb⟩ : ∃ nb, body.length = nb := ⟨_, rfl⟩
        obtain ⟨N, hN⟩ : ∃ N, (body ++ sumL body).length = N := ⟨_, rfl⟩
        have hNn : N = nb + 32 := by rw [← hN, List.length_append, sumL_length, hnb]
        rw [hN] at hcell hcap
        rw [Nat.zero_add] at hcell
        have hsub : IntKind.i64.wrap ((N : Int) - 32) = (nb : Int) := by rw [IntKind.wrap_i64]; omega
        have hnb0 : ¬ (nb : Int) < 0 := by omega
        have hcut1 := cut_h xA N xc nb (by omega) .i64
        have hcut2 := cut_l xA N xc nb (by omega) .i64
        rw [show N - nb = 32 by omega] at hcut2
        have hs1 : Sees wr xA (byteVals body) := by
          have := hsee.take nb
          unfold byteVals at this ⊢
          rw [← List.map_take, ← hnb, List.take_left] at this
          exact this
        have hs2 : Sees wr (cutA xA nb xc) (byteVals (sumL body)) := by
          have := hsee.cut nb xc (by rw [byteVals_length, hN]; exact hcap)
          unfold byteVals at this ⊢
          rw [← List.map_drop, ← hnb, List.drop_left] at this
          rw [hnb] at this
          exact this
        have HSm := Lib.hid (shaSum xA xc body wr (HL.out _ (HB2.out.trans (hI.mono HB2.out.size))) hs1 (by omega) hbl)
        have HSee := Lib.hid (fun W (hW : Below wr.heap.size wr W) => And.intro (hs1.below hW) (hs2.below hW))
        have HI := Lib.hid hI
        have HNB := Lib.hid (And.intro hnb hbl)
        have HNl := Lib.hid (And.intro hNn (show k + 1 ≤ ns from hlt))
        rw [hnb] at HSm
        clear hsee hcap hbz hs1 hs2 hI hbl hnb hN hNn hk hlt hkb
        go_wp2_with fail
        refine HSm.out.mono ?_
        rintro e w3 ⟨rfl, hb3⟩
        obtain ⟨S, hS⟩ : ∃ S, sumL body = S := ⟨_, rfl⟩
        have hSl : S.length = 32 := by rw [← hS, sumL_length]
        have HSS := Lib.hid hS
        rw [hS]
        clear hS
        have hf : fitsA 32 (bval S) = true := fits_bytes 32 _ hSl
        have hz3 : w2.heap.size ≤ w3.heap.size := by have := HI.out.size; have := hb3.size; omega
        have HB3 := Lib.hid hb3
        clear hb3
        have HC2 := Lib.hid hcut2
        clear hcut2
        go_wp2_with fail
        have hcut2 := HC2.out
        (obtain ⟨w4, hw4⟩ : ∃ W0 : World, W0 = (w3).alloc (.cells (byteVals S).toArray 64) := ⟨_, rfl⟩); (have gw4 : ∀ (j : Nat) (o : Obj), ([Obj.cells (byteVals S).toArray 64] : List Obj)[j]? = some o → w4.heap[w3.heap.size + j]? = some o := by rw [hw4]; exact allocs_get w3 _); (have zw4 : w4.heap.size = w3.heap.size + 1 := by rw [hw4]; exact allocs_size w3 [Obj.cells (byteVals S).toArray 64]); (have bw4 : Below w3.heap.size w3 w4 := by rw [hw4]; exact allocs_below w3 [Obj.cells (byteVals S).toArray 64]); (rw [← hw4]); (clear hw4)
        have gS : w4.heap[w3.heap.size]? = some (.cells (byteVals S).toArray 64 (0, 0)) := gw4 0 _ rfl
        have pS : aggAt w4 32 w3.heap.size 0 = some (bval S) := IsBs.agg (t := 64) gS hSl
        have hsl := slice_all32 w3.heap.size
        have hneq := neqB S hSl
        have hB4 : Below wr.heap.size wr w4 := HB3.out.trans (bw4.mono HB3.out.size)
        have HEq := Lib.hid (show ∀ W, Below w4.heap.size w4 W → Calls Tryz.prog 11 #[.slice (cutA xA nb xc) 32 (xc - nb), .slice (some ⟨w3.heap.size, 0, none⟩) 32 32] W fun e w' => e = .returned (.bool true) ∧ Below W.heap.size W w' from fun W hW => by
          have h1 := (HSee.out W (hB4.trans (hW.mono hB4.size))).2
          rw [HSS.out] at h1
          have h2 : Sees W (some ⟨w3.heap.size, 0, none⟩) (byteVals S) := (seesB_of (t := 64) gS).below hW
          have := bytesEq S (cutA xA nb xc) (some ⟨w3.heap.size, 0, none⟩) (xc - nb) 32 W h1 h2
          rw [hSl] at this
          exact this.mono fun _ _ h => ⟨h.1, by rw [h.2]; exact Below.refl _ _⟩)
        have HSm2 := Lib.hid (show ∀ W, Below w4.heap.size w4 W → Calls Tryz.prog 25 #[.slice xA nb xc] W fun e w' => e = .returned (bval S) ∧ Below W.heap.size W w' from fun W hW => by
          have := refSum12 xA xc body W (HSee.out W (hB4.trans (hW.mono hB4.size))).1 HNB.out.2
          rw [HNB.out.1, HSS.out] at this
          exact this)
        have HB4 := Lib.hid (HI.out.trans (hB4.mono HI.out.size))
        clear gS gw4 zw4 bw4 hB4 HB3 HSee HC2 hf
        ((have hS0 : (Below w4.heap.size w4 w4.drew ∧ aggAt w4.drew 32 (w3.heap.size) (0) = some (bval S)) := ⟨((Below.refl _ w4)).drew, pS⟩); (refine region_later (by kernel_rfl) [13] [0, 1, 2, 3, 4, 5, 6, 7, 8, 9, 10, 11, 12] true (by kernel_rfl) (by kernel_rfl) (fun W' => (Below w4.heap.size w4 W' ∧ aggAt W' 32 (w3.heap.size) (0) = some (bval S))) hS0 ?_); (have hSB : ∀ W' W'' : World, (Below w4.heap.size w4 W' ∧ aggAt W' 32 (w3.heap.size) (0) = some (bval S)) → Below W'.heap.size W' W'' → (Below w4.heap.size w4 W'' ∧ aggAt W'' 32 (w3.heap.size) (0) = some (bval S)) := fun W' W'' ⟨h0, h1⟩ hb => ⟨h0.trans (hb.mono h0.size), agg_keep h1 hb⟩); (clear pS); (iterate 13 (first | ((first | (refine chainL_op (by rfl) (by rfl) ?_ ?_ ?_) | (refine chainL_opG (by rfl) (by rfl) ?_ ?_ ?_)); rotate_left; (focus (intro W' hS' K hK; (try simp only [put_some, List.set] at hK); (have hS'' := hS'); (obtain ⟨s0, s1⟩ := hS''); go_simp; (first | exact hK _ hS' (Later.refl _) | (with_reducible refine Calls.mono (HEq.out _ s0) ?_; rintro e W'' ⟨rfl, hb''⟩; exact hK _ (hSB _ _ hS' hb'') (Later.of hb'')) | (with_reducible refine Calls.mono (HSm2.out _ s0) ?_; rintro e W'' ⟨rfl, hb''⟩; exact hK _ (hSB _ _ hS' hb'') (Later.of hb''))); done)); (try simp only [put_some, List.set])) | ((refine chainL_opU (by rfl) (by rfl) ?_); (try simp only [put_some, List.set])))); (refine chainL_nil ?_))
        refine spineL_op (by rfl) (by rfl) (fun X1 hS1 hL1 K hK => ?_)
        go_simp
        refine hK _ _ (fun _ => hS1) ?_
        (try simp only [put_some, List.set])
        refine spineL_nil fun X2 hL2 hS2 => ?_
        have HB5 := Lib.hid (HB4.out.trans ((hS2 rfl).1.mono HB4.out.size))
        clear hS1 hS2 hL1 hL2 hSB hS0 K hK hneq hsl hcut1 hcut2
        have hk255 : k < 255 := by have h1 := HNS.out; have h2 := HNl.out.2; omega
        have hkns : k < ns := HNl.out.2
        go_wp2
        go_roundw
        case rel => exact ⟨k + 1, HNl.out.2, by go_num, HB5.out⟩
        case measure => (first | (simp [intOf]; done) | (simp [intOf]; omega))
      · obtain rfl : k = ns := by omega
        have hlt' : ¬ (k : Int) < (k : Int) := by omega
        have HB3 := Lib.hid (HB2.out.trans (hI.mono HB2.out.size))
        clear hI
        go_wp2_with fail
        refine (topShares _ (HL.out _ HB3.out)).mono ?_
        rintro e w4 ⟨rfl, hb⟩
        have HB4 := Lib.hid (HB3.out.trans (hb.mono HB3.out.size))
        clear hb
        go_wp2
        go_ret
        exact ⟨rfl, HB4.out⟩
end Go.Proofs.YtccgfladbibjbaaGreatDoor
