/- sharecoretop.TopAdds with the second field: true. Printed by gentopadds2.py. -/
import Derived.Test.YtccgfladbibjbaaGreatDoorTTopAdds
namespace Go.Proofs.YtccgfladbibjbaaGreatDoor
open Go.RowKit Go.Shelf
attribute [local go_sem ↓] add_UU sub_UU mul_UU add_UL add_LU sub_UL sub_LU mul_UL neg_at not_at and_UU or_UU xor_UU andNot_UU and_UL or_LU shr_UL shl_UL shr_UN shl_UN shl_LN quo_UL rem_UL quo_UU rem_UU
attribute [local go_sem] wrap64_N wrapi_mod wrap8_U wrap32_U wrap64_B wrap32_B wrap8_D wrapi_B wrap64_UU eq_UU ne_UU eq_UL ne_UL lt_UU le_UU
attribute [local simp] putAgg_size
attribute [local go_sem ↓] loadVar_F loadVar_E loadVar_V loadVar_B32 storeVar_F storeVar_E storeVar_V storeVar_B32 box_F box_E box_V box_B32
attribute [local go_sem ↓ high] V4.cells_val FP.cells_val
attribute [local go_sem] run_loadF run_loadE run_loadV run_loadB32 run_storeF run_storeE run_storeV run_storeB32 run_boxA aggAt_drew aggAt_drewN aggAt_alloc_new aggAt_alloc_past aggAt_setCell_other aggAt_putAgg_other aggAt_putAgg_new putAgg_drew putAgg_size putAgg_alloc_new putAgg_alloc_past putAgg_cell_other putAgg_frozen_other V4.agg_arr FP.agg_arr V4.size_arr FP.size_arr V4.fits FP.fits fitsA_agg4 lt_2 ne_2 en_2 lt_3 ne_3 en_3 lt_4 ne_4 en_4 lt_5 ne_5 en_5 lt_6 ne_6 en_6
attribute [local go_sem ↓] run_eqv

set_option maxRecDepth 100000 in
set_option maxHeartbeats 4000000 in
theorem topAdds_2 (al bl : List V4) (ha : al.length = 3) (hb : bl.length = 3) (w : World) (L : Laid w) :
    Calls Tryz.prog 5 #[.bool true, .agg (eVals al).toArray, .agg (eVals bl).toArray] w fun e w' => e = .returned (.bool true) ∧ Below w.heap.size w w' := by
  obtain ⟨e0, he0, ea0, ea1, ea2⟩ := info_parts info_E
  obtain ⟨i0, hi0, ia0, ia1, ia2⟩ := info_parts info_S
  have HLa := Lib.hid (fun W (hW : Below w.heap.size w W) => L.to hW)
  have HLn := Lib.hid (And.intro ha hb)
  obtain ⟨f, Ri, hf, hlag, hx4, hp3⟩ : ∃ f Ri, f = fp2 ∧ Lag f Ri ∧ (ptE f 4).num * Ri % f.p.num = 4 ∧ 3 ≤ f.p.num := ⟨_, _, rfl, lag2, by decide +kernel, by decide +kernel⟩
  have HX4 := Lib.hid (And.intro hx4 hp3)
  clear hx4 hp3
  have HM := Lib.hid (show ∀ W, Calls Tryz.prog 16 #[.int .i64 2] W fun e w' => e = .returned f.p.val ∧ Below W.heap.size W w' from fun W => by rw [hf]; exact refModulus 2 W)
  have HG := Lib.hid (And.intro hf hlag)
  clear ha hb L hf hlag
  go_enter Tryz.func5, Tryz.ntmps5
  go_wp2_with fail
  (obtain ⟨W1, hW1⟩ : ∃ W0 : World, W0 = (((w).alloc (.cells (eVals al).toArray 46)).alloc (.cells (eVals bl).toArray 46)).alloc (.cells #[.int .i64 2, .int .i64 3, .int .i64 4, .int .i64 31] 48) := ⟨_, rfl⟩); (have gW1 : ∀ (j : Nat) (o : Obj), ([Obj.cells (eVals al).toArray 46, Obj.cells (eVals bl).toArray 46, Obj.cells #[.int .i64 2, .int .i64 3, .int .i64 4, .int .i64 31] 48] : List Obj)[j]? = some o → W1.heap[w.heap.size + j]? = some o := by rw [hW1]; exact allocs_get w _); (have zW1 : W1.heap.size = w.heap.size + 3 := by rw [hW1]; exact allocs_size w [Obj.cells (eVals al).toArray 46, Obj.cells (eVals bl).toArray 46, Obj.cells #[.int .i64 2, .int .i64 3, .int .i64 4, .int .i64 31] 48]); (have bW1 : Below w.heap.size w W1 := by rw [hW1]; exact allocs_below w [Obj.cells (eVals al).toArray 46, Obj.cells (eVals bl).toArray 46, Obj.cells #[.int .i64 2, .int .i64 3, .int .i64 4, .int .i64 31] 48]); (rw [← hW1]); (clear hW1)
  have g0 : W1.heap[w.heap.size]? = some (.cells (eVals al).toArray 46 (0, 0)) := gW1 0 _ rfl
  have g1 : W1.heap[w.heap.size + 1]? = some (.cells (eVals bl).toArray 46 (0, 0)) := gW1 1 _ rfl
  have g2 : W1.heap[w.heap.size + 1 + 1]? = some (.cells #[.int .i64 2, .int .i64 3, .int .i64 4, .int .i64 31] 48 (0, 0)) := gW1 2 _ rfl
  refine (HM.out _).mono ?_
  rintro e W2 ⟨rfl, hb⟩
  have hz2 : w.heap.size + 1 + 1 < W2.heap.size := by have := hb.size; omega
  obtain ⟨p, hp⟩ : ∃ p, p = f.p := ⟨_, rfl⟩
  have hn : (W2.alloc (.cells p.arr 45)).heap[W2.heap.size]? = some (.cells p.arr 45 (0, 0)) := heap_alloc_new _ _
  have ha := (Below.refl _ W2).alloc (Nat.le_refl _) (.cells p.arr 45)
  have H0 := Lib.hid (show AdI w W2.heap.size p 2 al bl (.slice none 0 0) (.slice none 0 0) 0 0 (W2.alloc (.cells p.arr 45)) from
    ⟨blk_below (blk_below g0 hb rfl) ha rfl, blk_below (blk_below g1 hb rfl) ha rfl, blk_below (blk_below g2 hb rfl) ha rfl, hn, ⟨[], ownE_nil _ _, rfl, by simp⟩, ⟨[], ownE_nil _ _, rfl, by simp⟩, by simp [Value.ownBlock], (bW1.trans (hb.mono bW1.size)).trans (ha.mono (by omega)), hz2⟩)
  have HP := Lib.hid hp
  rw [← hp]
  clear g0 g1 g2 gW1 zW1 bW1 hb hn ha HM hp
  obtain ⟨c, hc⟩ : ∃ c, W2.heap.size = c := ⟨_, rfl⟩
  rw [hc] at H0
  go_wp2
  clear hz2
  have HMd := Lib.hid (fun x W => refMd p x (by rw [HP.out]; exact HG.out.2.g.big) W)
  have HAd := Lib.hid (fun a b W => refAdd p a b W)
  have HFm := Lib.hid (fun x W => refForm p x (by rw [HP.out]; exact HG.out.2.g.big) W)
  go_loopw [9, 10, 27] (fun vx vy iv W => ∃ k : Nat, k ≤ 3 ∧ iv = .int .i64 k ∧ AdI w c p 2 al bl vx vy k k W) (fun _ _ iv _ => 3 - (intOf iv).toNat)
  case atStart => exact ⟨0, by omega, rfl, H0.out⟩
  case round =>
    clear H0
    obtain ⟨k, hk, rfl, hI⟩ := hrel
    have HI := Lib.hid hI
    clear hI
    by_cases hlt : k < 3
    · have hlt' : (k : Int) < 3 := by omega
      have hX := HI.out.X
      obtain ⟨Z, hZo, hZl, hZp⟩ := hX
      have pM := agg_of_block HI.out.M
      have hkl : k < al.length := by rw [HLn.out.1]; exact hlt
      have pA := HI.out.A.agg k hkl
      generalize al[k] = x at pA
      have HO := Lib.hid (And.intro hZo (And.intro hZl hZp))
      clear hZo hZl hZp hkl
      go_wp2_with fail
      ((have hS0 : (Below w.heap.size w wr.drew ∧ aggAt wr.drew 4 (c) (0) = some (p.val) ∧ aggAt wr.drew 4 (w.heap.size) (k * 4) = some (x.val)) := ⟨(HI.out.L).drew, pM, pA⟩); (refine region_free (by kernel_rfl) [6, 7, 8, 9, 10] [0, 1, 2, 3, 4, 5] false (by kernel_rfl) (by kernel_rfl) (fun W' => (Below w.heap.size w W' ∧ aggAt W' 4 (c) (0) = some (p.val) ∧ aggAt W' 4 (w.heap.size) (k * 4) = some (x.val))) hS0 ?_); (have hSB : ∀ W' W'' : World, (Below w.heap.size w W' ∧ aggAt W' 4 (c) (0) = some (p.val) ∧ aggAt W' 4 (w.heap.size) (k * 4) = some (x.val)) → Below W'.heap.size W' W'' → (Below w.heap.size w W'' ∧ aggAt W'' 4 (c) (0) = some (p.val) ∧ aggAt W'' 4 (w.heap.size) (k * 4) = some (x.val)) := fun W' W'' ⟨h0, h1, h2⟩ hb => ⟨h0.trans (hb.mono h0.size), agg_keep h1 hb, agg_keep h2 hb⟩); (clear pM pA); (iterate 6 (refine chainF_opL (by rfl) (by rfl) ?_ ?_ ?_; rotate_left; (focus (intro W' hS' K hK; (try simp only [put_some, List.set] at hK); (have hS'' := hS'); (obtain ⟨s0, s1, s2⟩ := hS''); go_simp; (exact hK); done)); (try simp only [put_some, List.set]))); (refine chainF_nil ?_))
      have HI1 := Lib.hid (And.intro (HI.out.below (Below.refl _ wr).drew) (HO.out.1.below (Below.refl _ wr).drew))
      have HO1 := Lib.hid HO.out.2
      clear HI HO
      generalize wr.drew = Y1 at *
      refine spine_opL (by rfl) (by rfl) (fun K hK => ?_)
      (try simp only [put_some, List.set] at hK)
      go_simp
      refine Calls.mono (HMd.out x _) ?_
      rintro e Y2 ⟨v1, rfl, hv1, hb⟩
      have HI2 := Lib.hid (And.intro (HI1.out.1.below hb) (HI1.out.2.below hb))
      have hS1 := hSB _ _ hS0 hb
      refine hK _ _ hS1 ?_
      clear hK K hb hS0 HI1
      refine spine_opL (by rfl) (by rfl) (fun K hK => ?_)
      (try simp only [put_some, List.set] at hK)
      go_simp
      refine Calls.mono (HFm.out v1 _) ?_
      rintro e Y3 ⟨u, rfl, hu, hb⟩
      have HI3 := Lib.hid (And.intro (HI2.out.1.below hb) (HI2.out.2.below hb))
      have hS2 := hSB _ _ hS1 hb
      refine hK _ _ hS2 ?_
      clear hK K hb hS1 HI2
      refine spine_opL (by rfl) (by rfl) (fun K hK => ?_)
      (try simp only [put_some, List.set] at hK)
      refine wp_build1 (.tmp 37) u rfl rfl ?_
      have hb := (Below.refl _ Y3).alloc (Nat.le_refl _) (.cells (eVals [u]).toArray 50)
      have HI4 := Lib.hid (And.intro (HI3.out.1.below hb) (And.intro (HI3.out.2.below hb) (IsEsT.new (t := 50) Y3 [u] _ rfl).sees))
      have hS3 := hSB _ _ hS2 hb
      have hsz : c + 1 ≤ (Y3.alloc (.cells (eVals [u]).toArray 50)).heap.size := (Array.getElem?_eq_some_iff.1 HI4.out.1.M).1
      refine hK _ _ hS3 ?_
      clear hK K hb hS2 HI3
      generalize Y3.heap.size = bq at *
      generalize Y3.alloc (.cells (eVals [u]).toArray 50) = Y4 at *
      refine spine_opL (by rfl) (by rfl) (fun K hK => ?_)
      (try simp only [put_some, List.set] at hK)
      refine wp_append_sees (.tmp 30) (.tmp 38) 24 rfl (c + 1) 50 e0 _ 4 32 Tryz.underlying24 he0 ea0 ea1 ea2 rfl (by decide) u9 k (eVals Z) rfl ?c1 (some ⟨bq, 0, none⟩) 1 1 (eVals [u]) rfl rfl HI4.out.2.2 (eVals_one _) (by unfold maxLen; omega) (by omega) hsz (fun v' Y5 hown hg hvn => ?_)
      case c1 =>
        have := HI4.out.2.1
        unfold OwnE at this
        rwa [HO1.out.1] at this
      have HI5 := Lib.hid (HI4.out.1.growX HO1.out.1 HO1.out.2 HI4.out.2.1 hu hg hown hvn)
      refine hK _ _ ⟨HI5.out.L, agg_of_block HI5.out.M, ?cA⟩ ?_
      case cA => exact (aggAt_congr (hg.block w.heap.size (by have := HI4.out.1.C; omega) (fun e => by have := (HI4.out.2.1.lt _ e.symm).1; have := HI4.out.1.C; omega))).trans hS3.2.2
      clear hK K hown hg hvn HI4 hS3 HO1
      (refine spine_lastL (by rfl) (by rfl) (fun K hK => ?_); go_simp)
      refine hK _ _ (fun h => by cases h) ?_
      (try simp only [put_some, List.set])
      clear hK K hv1 hu hsz hSB
      have HI := Lib.hid HI5.out
      clear HI5
      generalize Y5 = w5 at *
      have hX := HI.out.Y
      obtain ⟨Z, hZo, hZl, hZp⟩ := hX
      have pM := agg_of_block HI.out.M
      have hkl : k < bl.length := by rw [HLn.out.2]; exact hlt
      have pA := HI.out.B.agg k hkl
      generalize bl[k] = x at pA
      have HO := Lib.hid (And.intro hZo (And.intro hZl hZp))
      clear hZo hZl hZp hkl
      go_wp2_with fail
      ((have hS0 : (Below w.heap.size w w5.drew ∧ aggAt w5.drew 4 (c) (0) = some (p.val) ∧ aggAt w5.drew 4 (w.heap.size + 1) (k * 4) = some (x.val)) := ⟨(HI.out.L).drew, pM, pA⟩); (refine region_free (by kernel_rfl) [6, 7, 8, 9, 10] [0, 1, 2, 3, 4, 5] false (by kernel_rfl) (by kernel_rfl) (fun W' => (Below w.heap.size w W' ∧ aggAt W' 4 (c) (0) = some (p.val) ∧ aggAt W' 4 (w.heap.size + 1) (k * 4) = some (x.val))) hS0 ?_); (have hSB : ∀ W' W'' : World, (Below w.heap.size w W' ∧ aggAt W' 4 (c) (0) = some (p.val) ∧ aggAt W' 4 (w.heap.size + 1) (k * 4) = some (x.val)) → Below W'.heap.size W' W'' → (Below w.heap.size w W'' ∧ aggAt W'' 4 (c) (0) = some (p.val) ∧ aggAt W'' 4 (w.heap.size + 1) (k * 4) = some (x.val)) := fun W' W'' ⟨h0, h1, h2⟩ hb => ⟨h0.trans (hb.mono h0.size), agg_keep h1 hb, agg_keep h2 hb⟩); (clear pM pA); (iterate 6 (refine chainF_opL (by rfl) (by rfl) ?_ ?_ ?_; rotate_left; (focus (intro W' hS' K hK; (try simp only [put_some, List.set] at hK); (have hS'' := hS'); (obtain ⟨s0, s1, s2⟩ := hS''); go_simp; (exact hK); done)); (try simp only [put_some, List.set]))); (refine chainF_nil ?_))
      have HI1 := Lib.hid (And.intro (HI.out.below (Below.refl _ w5).drew) (HO.out.1.below (Below.refl _ w5).drew))
      have HO1 := Lib.hid HO.out.2
      clear HI HO
      generalize w5.drew = Y1 at *
      refine spine_opL (by rfl) (by rfl) (fun K hK => ?_)
      (try simp only [put_some, List.set] at hK)
      go_simp
      refine Calls.mono (HMd.out x _) ?_
      rintro e Y2 ⟨v1, rfl, hv1, hb⟩
      have HI2 := Lib.hid (And.intro (HI1.out.1.below hb) (HI1.out.2.below hb))
      have hS1 := hSB _ _ hS0 hb
      refine hK _ _ hS1 ?_
      clear hK K hb hS0 HI1
      refine spine_opL (by rfl) (by rfl) (fun K hK => ?_)
      (try simp only [put_some, List.set] at hK)
      go_simp
      refine Calls.mono (HFm.out v1 _) ?_
      rintro e Y3 ⟨u, rfl, hu, hb⟩
      have HI3 := Lib.hid (And.intro (HI2.out.1.below hb) (HI2.out.2.below hb))
      have hS2 := hSB _ _ hS1 hb
      refine hK _ _ hS2 ?_
      clear hK K hb hS1 HI2
      refine spine_opL (by rfl) (by rfl) (fun K hK => ?_)
      (try simp only [put_some, List.set] at hK)
      refine wp_build1 (.tmp 47) u rfl rfl ?_
      have hb := (Below.refl _ Y3).alloc (Nat.le_refl _) (.cells (eVals [u]).toArray 50)
      have HI4 := Lib.hid (And.intro (HI3.out.1.below hb) (And.intro (HI3.out.2.below hb) (IsEsT.new (t := 50) Y3 [u] _ rfl).sees))
      have hS3 := hSB _ _ hS2 hb
      have hsz : c + 1 ≤ (Y3.alloc (.cells (eVals [u]).toArray 50)).heap.size := (Array.getElem?_eq_some_iff.1 HI4.out.1.M).1
      refine hK _ _ hS3 ?_
      clear hK K hb hS2 HI3
      generalize Y3.heap.size = bq at *
      generalize Y3.alloc (.cells (eVals [u]).toArray 50) = Y4 at *
      refine spine_opL (by rfl) (by rfl) (fun K hK => ?_)
      (try simp only [put_some, List.set] at hK)
      refine wp_append_sees (.tmp 40) (.tmp 48) 24 rfl (c + 1) 50 e0 _ 4 32 Tryz.underlying24 he0 ea0 ea1 ea2 rfl (by decide) u10 k (eVals Z) rfl ?c1 (some ⟨bq, 0, none⟩) 1 1 (eVals [u]) rfl rfl HI4.out.2.2 (eVals_one _) (by unfold maxLen; omega) (by omega) hsz (fun v' Y5 hown hg hvn => ?_)
      case c1 =>
        have := HI4.out.2.1
        unfold OwnE at this
        rwa [HO1.out.1] at this
      have HI5 := Lib.hid (HI4.out.1.growY HO1.out.1 HO1.out.2 HI4.out.2.1 hu hg hown hvn)
      refine hK _ _ ⟨HI5.out.L, agg_of_block HI5.out.M, ?cA⟩ ?_
      case cA => exact (aggAt_congr (hg.block (w.heap.size + 1) (by have := HI4.out.1.C; omega) (fun e => by have := (HI4.out.2.1.lt _ e.symm).1; have := HI4.out.1.C; omega))).trans hS3.2.2
      clear hK K hown hg hvn HI4 hS3 HO1
      (refine spine_lastL (by rfl) (by rfl) (fun K hK => ?_); go_simp)
      refine hK _ _ (fun h => by cases h) ?_
      (try simp only [put_some, List.set])
      clear hK K hv1 hu hsz hSB
      have HI := Lib.hid HI5.out
      clear HI5
      generalize Y5 = w6 at *
      go_wp2
      go_roundw
      case rel => exact ⟨k + 1, by omega, by go_num, HI.out⟩
      case measure => (first | (simp [intOf]; done) | (simp [intOf]; omega))
    · obtain rfl : k = 3 := by omega
      obtain ⟨h1, h2, h3, h4, ⟨X, hX, hXl, hXp⟩, ⟨Y, hY, hYl, hYp⟩, h7, h8, h9⟩ := HI.out
      obtain ⟨AX, cX, rfl, hcX, hSX, -⟩ := hX.open
      obtain ⟨AY, cY, rfl, hcY, hSY, -⟩ := hY.open
      rw [hXl, hYl]
      have HQ := Lib.hid (fun W (hW : Below wr.heap.size wr W) => show W.heap[c]? = some (.cells p.arr 45 (0, 0)) ∧ W.heap[w.heap.size + 1 + 1]? = some (.cells #[.int .i64 2, .int .i64 3, .int .i64 4, .int .i64 31] 48 (0, 0)) ∧ Sees W AX (eVals X) ∧ Sees W AY (eVals Y) ∧ Below w.heap.size w W from
        ⟨blk_below h4 hW rfl, blk_below h3 hW rfl, hSX.below hW, hSY.below hW, h8.trans (hW.mono h8.size)⟩)
      have HXY := Lib.hid (And.intro hXl (And.intro hYl (And.intro hXp hYp)))
      obtain ⟨c0, c1, c2, c3⟩ := pa_cells h3
      clear h1 h2 h3 h4 hX hY h7 h8 hcX hcY hSX hSY HI HMd HFm hXl hYl hXp hYp
      go_wp2_with fail
      (obtain ⟨V1, hV1⟩ : ∃ W0 : World, W0 = (wr).alloc (.cells #[.slice AX 3 cX] 24) := ⟨_, rfl⟩); (have gV1 : ∀ (j : Nat) (o : Obj), ([Obj.cells #[.slice AX 3 cX] 24] : List Obj)[j]? = some o → V1.heap[wr.heap.size + j]? = some o := by rw [hV1]; exact allocs_get wr _); (have zV1 : V1.heap.size = wr.heap.size + 1 := by rw [hV1]; exact allocs_size wr [Obj.cells #[.slice AX 3 cX] 24]); (have bV1 : Below wr.heap.size wr V1 := by rw [hV1]; exact allocs_below wr [Obj.cells #[.slice AX 3 cX] 24]); (rw [← hV1]); (clear hV1)
      have gb : V1.heap[wr.heap.size]? = some _ := gV1 0 _ rfl
      refine (evalS 2 (.inr rfl) AX cX X HXY.out.1 V1 (HLa.out V1 (HQ.out V1 bV1).2.2.2.2) _ gb (HQ.out V1 bV1).2.2.1).mono ?_
      rintro e V2 ⟨b1, o1, q1, l1, rfl, hs1, hm1, hb⟩
      have hB2 := bV1.trans (hb.mono bV1.size)
      have HS1 := Lib.hid (fun W (hW : Below V2.heap.size V2 W) => hs1.below hW)
      obtain ⟨c0, c1, c2, c3⟩ := pa_cells (HQ.out V2 hB2).2.1
      clear gV1 zV1 bV1 gb hb hs1
      go_wp2_with fail
      (obtain ⟨V3, hV3⟩ : ∃ W0 : World, W0 = (V2).alloc (.cells #[.slice AY 3 cY] 24) := ⟨_, rfl⟩); (have gV3 : ∀ (j : Nat) (o : Obj), ([Obj.cells #[.slice AY 3 cY] 24] : List Obj)[j]? = some o → V3.heap[V2.heap.size + j]? = some o := by rw [hV3]; exact allocs_get V2 _); (have zV3 : V3.heap.size = V2.heap.size + 1 := by rw [hV3]; exact allocs_size V2 [Obj.cells #[.slice AY 3 cY] 24]); (have bV3 : Below V2.heap.size V2 V3 := by rw [hV3]; exact allocs_below V2 [Obj.cells #[.slice AY 3 cY] 24]); (rw [← hV3]); (clear hV3)
      have gb : V3.heap[V2.heap.size]? = some _ := gV3 0 _ rfl
      have hB3 := hB2.trans (bV3.mono hB2.size)
      refine (evalS 2 (.inr rfl) AY cY Y HXY.out.2.1 V3 (HLa.out V3 (HQ.out V3 hB3).2.2.2.2) _ gb (HQ.out V3 hB3).2.2.2.1).mono ?_
      rintro e V4 ⟨b2, o2, q2, l2, rfl, hs2, hm2, hb⟩
      have hB4 := Lib.hid (hB3.trans (hb.mono hB3.size))
      have HS := Lib.hid (fun W (hW : Below V4.heap.size V4 W) => And.intro ((HS1.out V4 (bV3.trans (hb.mono bV3.size))).below hW) (hs2.below hW))
      have HM := Lib.hid (And.intro hm1 hm2)
      clear c0 c1 c2 c3 gV3 zV3 bV3 gb hb hs2 HS1 hB2 hB3 hm1 hm2
      go_wp2
      go_loopw [16, 83] (fun vs iv W => ∃ k : Nat, k ≤ 4 ∧ iv = .int .i64 k ∧ LpI V4.heap.size 2 f X Y vs k V4 W) (fun _ iv _ => 4 - (intOf iv).toNat)
      case atStart => exact ⟨0, by omega, rfl, ⟨Below.refl _ _, [], ownS_nil _ _, rfl⟩⟩
      case round =>
        obtain ⟨k, hk, rfl, hI⟩ := hrel
        have HI := Lib.hid hI
        by_cases hlt : k < 4
        · have hlt' : (k : Int) < 4 := by omega
          obtain ⟨hs1, hs2⟩ := HS.out wr hI.B
          have hk1 : k < l1.length := by rw [deal_len HM.out.1]; exact hlt
          have hk2 : k < l2.length := by rw [deal_len HM.out.2]; exact hlt
          obtain ⟨b1', o1', eq1, hz1, x0, x1, x2, x3, x4⟩ := hs1.1.share k hk1
          obtain ⟨b2', o2', eq2, hz2, y0, y1, y2, y3, y4⟩ := hs2.1.share k hk2
          injection eq1 with eq1
          injection eq1 with e1 e2
          injection eq2 with eq2
          injection eq2 with e3 e4
          subst e1 e2 e3 e4
          have hp1 := hs1.2 l1[k] (List.getElem_mem hk1)
          have hp2 := hs2.2 l2[k] (List.getElem_mem hk2)
          rw [deal_at HM.out.1 k hk1 hlt] at x0 x1 x2 x3 x4 hp1
          rw [deal_at HM.out.2 k hk2 hlt] at y0 y1 y2 y3 y4 hp2
          generalize l1[k].A = A1 at *
          generalize l1[k].cap = d1 at *
          generalize l2[k].A = A2 at *
          generalize l2[k].cap = d2 at *
          have HSM := Lib.hid (show sumAt 2 f X Y k = ⟨2, 3, (k : Int) + 1, 31, [radd p (evalAt f ((k : Int) + 1) X) (evalAt f ((k : Int) + 1) Y)]⟩ from by rw [HP.out]; rfl)
          have hf1 : getF 2 = f := by rw [HG.out.1]; rfl
          rw [hf1] at x4 y4 hp1 hp2
          generalize evalAt f ((k : Int) + 1) X = u1 at *
          generalize evalAt f ((k : Int) + 1) Y = u2 at *
          simp only [List.length_singleton] at x0 x1 x2 x3 x4 y0 y1 y2 y3 y4
          obtain ⟨a1, r1, rfl, -⟩ := hp1 (by simp [eVals_length])
          obtain ⟨a2, r2, rfl, -⟩ := hp2 (by simp [eVals_length])
          obtain ⟨L0, hO0, hm0⟩ := hI.S
          have hlv : ∀ j, u16.ownBlock = some j → j < wr.heap.size := fun j e => (hO0.lt j e).2
          have hlx : ∀ x ∈ L0, ∀ j, x.pv.ownBlock = some j → j < wr.heap.size := fun x hx j e => ((hO0.P x hx).lt j e).2
          have HM0 := Lib.hid (And.intro hm0 (And.intro hlv hlx))
          have hl0 : L0.length = k := by have := congrArg List.length hm0; rw [List.length_map, sumsV_length] at this; exact this
          have HP1 := Lib.hid (And.intro hp1 hp2)
          have HO := Lib.hid hO0
          have hVb : V4.heap.size ≤ wr.heap.size := hI.B.size
          clear hs1 hs2 hk1 hk2 hp1 hp2 hm0 hlv hlx hO0 hI
          go_wp2_with fail
          (obtain ⟨Z1, hZ1⟩ : ∃ W0 : World, W0 = (wr).alloc (.cells #[.int .i64 2, .int .i64 3, .int .i64 ((k : Int) + 1), .int .i64 31, .slice (some ⟨a1, r1, none⟩) 1 d1] 26) := ⟨_, rfl⟩); (have gZ1 : ∀ (j : Nat) (o : Obj), ([Obj.cells #[.int .i64 2, .int .i64 3, .int .i64 ((k : Int) + 1), .int .i64 31, .slice (some ⟨a1, r1, none⟩) 1 d1] 26] : List Obj)[j]? = some o → Z1.heap[wr.heap.size + j]? = some o := by rw [hZ1]; exact allocs_get wr _); (have zZ1 : Z1.heap.size = wr.heap.size + 1 := by rw [hZ1]; exact allocs_size wr [Obj.cells #[.int .i64 2, .int .i64 3, .int .i64 ((k : Int) + 1), .int .i64 31, .slice (some ⟨a1, r1, none⟩) 1 d1] 26]); (have bZ1 : Below wr.heap.size wr Z1 := by rw [hZ1]; exact allocs_below wr [Obj.cells #[.int .i64 2, .int .i64 3, .int .i64 ((k : Int) + 1), .int .i64 31, .slice (some ⟨a1, r1, none⟩) 1 d1] 26]); (rw [← hZ1]); (clear hZ1)
          have gt : Z1.heap[wr.heap.size]? = some (.cells #[.int .i64 2, .int .i64 3, .int .i64 ((k : Int) + 1), .int .i64 31, .slice (some ⟨a1, r1, none⟩) 1 d1] 26 (0, 0)) := gZ1 0 _ rfl
          have hbz : wr.heap.size < Z1.heap.size := by omega
          have hBZ : Below V4.heap.size V4 Z1 := HI.out.B.trans (bZ1.mono HI.out.B.size)
          have hld1 : ∀ W', Below Z1.heap.size Z1 W' → (loadA 50 4 ⟨a1, r1, none⟩).run Tryz.prog W' = .ok u1.val W' := fun W' h => (HP1.out.1.below bZ1).ld' 0 (by simp) W' h
          have hld2 : ∀ W', Below Z1.heap.size Z1 W' → (loadA 50 4 ⟨a2, r2, none⟩).run Tryz.prog W' = .ok u2.val W' := fun W' h => (HP1.out.2.below bZ1).ld' 0 (by simp) W' h
          have pM := agg_of_block (HQ.out Z1 (hB4.out.trans (hBZ.mono hB4.out.size))).1
          have x4' : Z1.cell? ⟨wr.heap.size, 4, none⟩ = some (.slice (some ⟨a1, r1, none⟩) 1 d1) := row_cell (cs := [_, _, _, _, _]) gt 4 rfl
          have y4' := cell_keep y4 bZ1
          have HO1 := Lib.hid (And.intro (HO.out.below bZ1) (And.intro gt hBZ))
          clear x0 x1 x2 x3 x4 y0 y1 y2 y3 y4 gZ1 zZ1 bZ1 gt hBZ HO HP1 HI
          ((have hS0 : (Below Z1.heap.size Z1 Z1.drew ∧ aggAt Z1.drew 4 (c) (0) = some (p.val) ∧ Z1.drew.cell? ⟨(wr.heap.size), (4), none⟩ = some (.slice (some ⟨a1, r1, none⟩) 1 d1) ∧ Z1.drew.cell? ⟨(b2), (o2 + k * 5 + 4), none⟩ = some (.slice (some ⟨a2, r2, none⟩) 1 d2)) := ⟨((Below.refl _ Z1)).drew, pM, x4', y4'⟩); (refine region_free (by kernel_rfl) [12, 13, 15] [0, 1, 2, 3, 4, 5, 6, 7, 8, 9, 10, 11, 14] false (by kernel_rfl) (by kernel_rfl) (fun W' => (Below Z1.heap.size Z1 W' ∧ aggAt W' 4 (c) (0) = some (p.val) ∧ W'.cell? ⟨(wr.heap.size), (4), none⟩ = some (.slice (some ⟨a1, r1, none⟩) 1 d1) ∧ W'.cell? ⟨(b2), (o2 + k * 5 + 4), none⟩ = some (.slice (some ⟨a2, r2, none⟩) 1 d2))) hS0 ?_); (have hSB : ∀ W' W'' : World, (Below Z1.heap.size Z1 W' ∧ aggAt W' 4 (c) (0) = some (p.val) ∧ W'.cell? ⟨(wr.heap.size), (4), none⟩ = some (.slice (some ⟨a1, r1, none⟩) 1 d1) ∧ W'.cell? ⟨(b2), (o2 + k * 5 + 4), none⟩ = some (.slice (some ⟨a2, r2, none⟩) 1 d2)) → Below W'.heap.size W' W'' → (Below Z1.heap.size Z1 W'' ∧ aggAt W'' 4 (c) (0) = some (p.val) ∧ W''.cell? ⟨(wr.heap.size), (4), none⟩ = some (.slice (some ⟨a1, r1, none⟩) 1 d1) ∧ W''.cell? ⟨(b2), (o2 + k * 5 + 4), none⟩ = some (.slice (some ⟨a2, r2, none⟩) 1 d2)) := fun W' W'' ⟨h0, h1, h2, h3⟩ hb => ⟨h0.trans (hb.mono h0.size), agg_keep h1 hb, cell_keep h2 hb, cell_keep h3 hb⟩); (clear pM x4' y4'); (iterate 13 (refine chainF_opL (by rfl) (by rfl) ?_ ?_ ?_; rotate_left; (focus (intro W' hS' K hK; (try simp only [put_some, List.set] at hK); (have hS'' := hS'); (obtain ⟨s0, s1, s2, s3⟩ := hS''); (have e_0 := hld1 W' s0); (have e_1 := hld2 W' s0); go_simp; (exact hK); done)); (try simp only [put_some, List.set]))); (refine chainF_nil ?_))
          have HO2 := Lib.hid (And.intro (HO1.out.1.below (Below.refl _ Z1).drew) (And.intro (blk_below HO1.out.2.1 (Below.refl _ Z1).drew rfl) (HO1.out.2.2.trans ((Below.refl _ Z1).drew.mono HO1.out.2.2.size))))
          clear HO1 hld1 hld2
          generalize wr.heap.size = bt at *
          generalize Z1.drew = Y1 at *
          refine spine_opL (by rfl) (by rfl) (fun K hK => ?_)
          (try simp only [put_some, List.set] at hK)
          go_simp
          refine Calls.mono (HAd.out u1 u2 _) ?_
          rintro e Y2 ⟨rfl, hb⟩
          have HO3 := Lib.hid (And.intro (HO2.out.1.below hb) (And.intro (blk_below HO2.out.2.1 hb rfl) (HO2.out.2.2.trans (hb.mono HO2.out.2.2.size))))
          have hS1 := hSB _ _ hS0 hb
          refine hK _ _ hS1 ?_
          clear hK K hb hS0 HO2
          generalize radd p u1 u2 = r at *
          refine spine_opL (by rfl) (by rfl) (fun K hK => ?_)
          (try simp only [put_some, List.set] at hK)
          refine wp_build1 (.tmp 113) r rfl rfl ?_
          have hb := (Below.refl _ Y2).alloc (Nat.le_refl _) (.cells (eVals [r]).toArray 50)
          have hrow := World.ownsRow_lit (base := V4.heap.size) (e := 50) (size := 4) Y2 (eVals [r]).toArray 1 HO3.out.2.2.size (by unfold maxLen; omega) rfl
          have HO4 := Lib.hid (And.intro (HO3.out.1.below hb) (And.intro (blk_below HO3.out.2.1 hb rfl) (And.intro (HO3.out.2.2.trans (hb.mono HO3.out.2.2.size)) (show OwnE _ V4.heap.size (.slice (some ⟨Y2.heap.size, 0, none⟩) 1 1) [r] from hrow))))
          have hS2 := hSB _ _ hS1 hb
          have hbt : bt < Y2.heap.size := (Array.getElem?_eq_some_iff.1 HO3.out.2.1).1
          refine hK _ _ hS2 ?_
          clear hK K hb hS1 HO3 hrow
          generalize Y2.heap.size = bp at *
          generalize Y2.alloc (.cells (eVals [r]).toArray 50) = Y3 at *
          have x4 := hS2.2.2.1
          have fr := row_frozen HO4.out.2.1 4
          clear hSB hS2
          refine spine_lastL (by rfl) (by rfl) (fun K hK => ?_)
          go_simp
          refine hK undef _ (fun h => by cases h) ?_
          rw [put_none]
          clear hK K x4 fr
          have hbne : bp ≠ bt := by omega
          have g2 := grownBy_setC Y3 bt 4 (.slice (some ⟨bp, 0, none⟩) 1 1)
          have hS4 := HO4.out.1.keptU g2 HM0.out.2.1 HM0.out.2.2
          have hE4 := HO4.out.2.2.2.kept g2 (.inr (fun e => hbne (Option.some.inj e)))
          have gt4 : (Y3.setCell ⟨bt, 4, none⟩ (.slice (some ⟨bp, 0, none⟩) 1 1)).heap[bt]? = some (.cells #[.int .i64 2, .int .i64 3, .int .i64 ((k : Int) + 1), .int .i64 31, .slice (some ⟨bp, 0, none⟩) 1 1] 26 (0, 0)) := row_set (cs := [_, _, _, _, _]) HO4.out.2.1 4 _
          have hB5 := HO4.out.2.2.1.setCell (p := ⟨bt, 4, none⟩) hVb (.slice (some ⟨bp, 0, none⟩) 1 1)
          clear g2 HO4
          generalize Y3.setCell ⟨bt, 4, none⟩ (.slice (some ⟨bp, 0, none⟩) 1 1) = Y4 at *
          have d0 := row_cell (cs := [_, _, _, _, _]) gt4 0 rfl
          have d1 := row_cell (cs := [_, _, _, _, _]) gt4 1 rfl
          have d2 := row_cell (cs := [_, _, _, _, _]) gt4 2 rfl
          have d3 := row_cell (cs := [_, _, _, _, _]) gt4 3 rfl
          have d4 := row_cell (cs := [_, _, _, _, _]) gt4 4 rfl
          obtain ⟨x, hx⟩ : ∃ x : ShA, x = ⟨⟨2, 3, (k : Int) + 1, 31, [r]⟩, some ⟨bp, 0, none⟩, 1⟩ := ⟨_, rfl⟩
          have hxc : x.cells = #[.int .i64 2, .int .i64 3, .int .i64 ((k : Int) + 1), .int .i64 31, .slice (some ⟨bp, 0, none⟩) 1 1] := by rw [hx]; rfl
          obtain ⟨wx, hwx⟩ : ∃ wx, wx = Y4.alloc (.cells #[.int .i64 2, .int .i64 3, .int .i64 ((k : Int) + 1), .int .i64 31, .slice (some ⟨bp, 0, none⟩) 1 1] 26) := ⟨_, rfl⟩
          have hbx : Below Y4.heap.size Y4 wx := by rw [hwx]; exact (Below.refl _ _).alloc (Nat.le_refl _) _
          have hNx : Sees wx (some ⟨Y4.heap.size, 0, none⟩) x.cells.toList := by
            rw [hxc, hwx]
            exact row_sees (cs := [_, _, _, _, _]) (heap_alloc_new Y4 _)
          have hEx : OwnE wx V4.heap.size x.pv x.s.pay := by rw [hx]; exact hE4.below hbx
          have hBx := hB5.trans (hbx.mono hB5.size)
          have hzx : V4.heap.size ≤ wx.heap.size := hBx.size
          have h1x : ∀ u ∈ x.cells.toList, u.oneCell' = true := by
            have := shVals_one [x]
            rwa [shVals, shVals, List.append_nil] at this
          have HX := Lib.hid (And.intro (hS4.below hbx) (And.intro hEx (And.intro hNx (And.intro hBx hx))))
          clear hS4 hE4 gt4 hB5 hbx hNx hEx hBx hx
          go_wp2_with (at_builtin; rw [← hwx]; refine wpList_append_sees rfl (.tmp 116) (.tmp 118) 39 rfl V4.heap.size 26 i0 _ 5 56 Tryz.underlying39 hi0 ia0 ia1 ia2 rfl (by decide) u16 L0.length (shVals L0) rfl HX.out.1.R (some ⟨Y4.heap.size, 0, none⟩) 1 1 x.cells.toList rfl (by rw [hxc]; rfl) HX.out.2.2.1 h1x (by unfold maxLen; omega) (by omega) hzx ?_)
          intro v' w4 hown hg _
          rw [← hwx] at hg
          have hown : w4.ownsRow V4.heap.size 26 5 v' (L0.length + 1) (shVals L0 ++ x.cells.toList) := by rw [hl0, hxc]; exact hown
          have HN := Lib.hid (show LpI V4.heap.size 2 f X Y v' (k + 1) V4 w4 from ⟨HX.out.2.2.2.1.grown hg HX.out.2.2.2.1.size (fun j e => by have := (HX.out.1.lt j e).1; omega), L0 ++ [x], HX.out.1.grew HX.out.2.1 hg hown, by rw [List.map_append, HM0.out.1, sumsV_succ, HSM.out, List.map_singleton, HX.out.2.2.2.2]⟩)
          clear hown hg HX hwx d0 d1 d2 d3 d4
          go_wp2
          go_roundw
          case rel => exact ⟨k + 1, by omega, by go_num, HN.out⟩
          case measure => (first | (simp [intOf]; done) | (simp [intOf]; omega))
        · obtain rfl : k = 4 := by omega
          obtain ⟨L0, hO0, hm0⟩ := hI.S
          obtain ⟨A, cA, rfl, hcA, hSA⟩ := hO0.open
          have hl0 : L0.length = 4 := by have := congrArg List.length hm0; rw [List.length_map, sumsV_length] at this; exact this
          rw [hl0] at hcA ⊢
          have hf1 : getF 2 = f := by rw [HG.out.1]; rfl
          have hpp := HP.out
          have hadd := adds_law HG.out.2 (id := 2) rfl hf1 HX4.out.2 HX4.out.1 X Y HXY.out.1 HXY.out.2.1 (by rw [← hpp]; exact HXY.out.2.2.1) (by rw [← hpp]; exact HXY.out.2.2.2)
          have hBW := hB4.out.trans (hI.B.mono hB4.out.size)
          have HV := Lib.hid (valuesS 2 f hf1 A cA hcA X Y L0 hm0 hadd.1 wr (HLa.out wr (HQ.out wr hBW).2.2.2.2) hSA)
          rw [hadd.2 L0 hm0 1 rfl, ← hpp] at HV
          have HBW := Lib.hid hBW
          clear hO0 hm0 hSA hadd hBW hI HI hpp
          go_wp2_with fail
          refine HV.out.mono ?_
          rintro e w6 ⟨v, rfl, hv, hb⟩
          obtain ⟨Av, cv, rfl, hcv, hsv, -⟩ := hv.open
          obtain ⟨bv, ov, rfl, -⟩ := hsv (by simp [eVals_length])
          have hB6 := HBW.out.trans (hb.mono HBW.out.size)
          obtain ⟨hM6, hP6, hX6, hY6, hL6⟩ := HQ.out w6 hB6
          obtain ⟨bx, ox, rfl, -⟩ := hX6 (by rw [eVals_length, HXY.out.1]; decide)
          obtain ⟨by', oy, rfl, -⟩ := hY6 (by rw [eVals_length, HXY.out.2.1]; decide)
          have hld1 : ∀ W', Below w6.heap.size w6 W' → (loadA 50 4 ⟨bv, ov, none⟩).run Tryz.prog W' = .ok (radd p (at4 X 0) (at4 Y 0)).val W' := fun W' h => hsv.ld' 0 (by simp) W' h
          have hld2 : ∀ W', Below w6.heap.size w6 W' → (loadA 50 4 ⟨bx, ox, none⟩).run Tryz.prog W' = .ok (at4 X 0).val W' := fun W' h => hX6.ld' 0 (by rw [HXY.out.1]; decide) W' h
          have hld3 : ∀ W', Below w6.heap.size w6 W' → (loadA 50 4 ⟨by', oy, none⟩).run Tryz.prog W' = .ok (at4 Y 0).val W' := fun W' h => hY6.ld' 0 (by rw [HXY.out.2.1]; decide) W' h
          have pM := agg_of_block hM6
          have HTS := Lib.hid (fun W (hW : Below w6.heap.size w6 W) => topShares W (HLa.out W (hL6.trans (hW.mono hL6.size))))
          have HL6 := Lib.hid hL6
          clear hM6 hP6 hX6 hY6 hL6 hsv hv hb hB6 hcv HV HQ
          generalize at4 X 0 = x0 at *
          generalize at4 Y 0 = y0 at *
          go_wp2_with fail
          ((have hS0 : (Below w6.heap.size w6 w6.drew ∧ aggAt w6.drew 4 (c) (0) = some (p.val)) := ⟨((Below.refl _ w6)).drew, pM⟩); (refine region_later (by kernel_rfl) [24] [0, 1, 2, 3, 4, 5, 6, 7, 8, 9, 10, 11, 12, 13, 14, 15, 16, 17, 18, 19, 20, 21, 22, 23] true (by kernel_rfl) (by kernel_rfl) (fun W' => (Below w6.heap.size w6 W' ∧ aggAt W' 4 (c) (0) = some (p.val))) hS0 ?_); (have hSB : ∀ W' W'' : World, (Below w6.heap.size w6 W' ∧ aggAt W' 4 (c) (0) = some (p.val)) → Below W'.heap.size W' W'' → (Below w6.heap.size w6 W'' ∧ aggAt W'' 4 (c) (0) = some (p.val)) := fun W' W'' ⟨h0, h1⟩ hb => ⟨h0.trans (hb.mono h0.size), agg_keep h1 hb⟩); (clear pM); (iterate 24 (first | ((first | (refine chainL_op (by rfl) (by rfl) ?_ ?_ ?_) | (refine chainL_opG (by rfl) (by rfl) ?_ ?_ ?_)); rotate_left; (focus (intro W' hS' K hK; (try simp only [put_some, List.set] at hK); (have hS'' := hS'); (obtain ⟨s0, s1⟩ := hS''); (have e_0 := hld1 W' s0); (have e_1 := hld2 W' s0); (have e_2 := hld3 W' s0); go_simp; (first | exact hK _ hS' (Later.refl _) | (with_reducible refine Calls.mono (HTS.out _ s0) ?_; rintro e W'' ⟨rfl, hb''⟩; exact hK _ (hSB _ _ hS' hb'') (Later.of hb'')) | (with_reducible refine Calls.mono (HAd.out _ _ _) ?_; rintro e W'' ⟨rfl, hb''⟩; exact hK _ (hSB _ _ hS' hb'') (Later.of hb''))); done)); (try simp only [put_some, List.set])) | ((refine chainL_opU (by rfl) (by rfl) ?_); (try simp only [put_some, List.set])))); (refine chainL_nil ?_))
          refine spineL_op (by rfl) (by rfl) (fun X1 hS1 hL1 K hK => ?_)
          go_simp
          refine hK _ _ (fun _ => hS1) ?_
          (try simp only [put_some, List.set])
          refine spineL_nil fun X2 hL2 hS2 => ?_
          have hb2 := (hS2 rfl).1
          have HE := Lib.hid (HL6.out.trans (hb2.mono HL6.out.size))
          clear hS1 hS2 hL1 hL2 hSB hS0 K hK hb2 hld1 hld2 hld3
          go_wp2
          go_ret
          exact ⟨rfl, HE.out⟩
theorem topAdds (second : Bool) (al bl : List V4) (ha : al.length = 3) (hb : bl.length = 3) (w : World) (L : Laid w) :
    Calls Tryz.prog 5 #[.bool second, .agg (eVals al).toArray, .agg (eVals bl).toArray] w fun e w' => e = .returned (.bool true) ∧ Below w.heap.size w w' := by
  cases second with
  | false => exact topAdds_1 al bl ha hb w L
  | true => exact topAdds_2 al bl ha hb w L
end Go.Proofs.YtccgfladbibjbaaGreatDoor
