/- sharecoretop.TopFirst: true. -/
import Derived.Test.YtccgfladbibjbaaGreatDoorKG43
import Derived.Test.YtccgfladbibjbaaGreatDoorKG40
import Derived.Test.YtccgfladbibjbaaGreatDoorKG16
namespace Go.Proofs.YtccgfladbibjbaaGreatDoor
open Go.RowKit Go.Shelf
attribute [local go_sem ↓] add_UU sub_UU mul_UU add_UL add_LU sub_UL sub_LU mul_UL neg_at not_at and_UU or_UU xor_UU andNot_UU and_UL or_LU shr_UL shl_UL shr_UN shl_UN shl_LN quo_UL rem_UL quo_UU rem_UU
attribute [local go_sem] wrap64_N wrapi_mod wrap8_U wrap32_U wrap64_B wrap32_B wrap8_D wrapi_B wrap64_UU eq_UU ne_UU eq_UL ne_UL lt_UU le_UU
attribute [local simp] putAgg_size
attribute [local go_sem ↓] loadVar_F loadVar_E loadVar_V loadVar_B32 storeVar_F storeVar_E storeVar_V storeVar_B32 box_F box_E box_V box_B32
attribute [local go_sem ↓ high] V4.cells_val FP.cells_val
attribute [local go_sem] run_loadF run_loadE run_loadV run_loadB32 run_storeF run_storeE run_storeV run_storeB32 run_boxA aggAt_drew aggAt_drewN aggAt_alloc_new aggAt_alloc_past aggAt_setCell_other aggAt_putAgg_other aggAt_putAgg_new putAgg_drew putAgg_size putAgg_alloc_new putAgg_alloc_past putAgg_cell_other putAgg_frozen_other V4.agg_arr FP.agg_arr V4.size_arr FP.size_arr V4.fits FP.fits fitsA_agg4 lt_2 ne_2 en_2 lt_3 ne_3 en_3 lt_4 ne_4 en_4 lt_5 ne_5 en_5 lt_6 ne_6 en_6
theorem elem_rows : Tryz.prog.elem 37 = 22 := by kernel_rfl
theorem und_rows : Tryz.prog.underlying 37 = some (.slice (Tryz.prog.elem 37)) := by rw [elem_rows]; exact Tryz.underlying37
theorem size_rows (w : World) : (sizeOf (Tryz.prog.elem 37)).run Tryz.prog w = .ok 1 w := by rw [elem_rows]; kernel_rfl
theorem cut_rows (A : Option Addr) (n cap h : Nat) (h2 : h ≤ cap) (k' : IntKind) (w : World) :
  (Instr.sliceAt 37 (.slice A n cap) none (some (.int k' h)) none).run Tryz.prog w = .ok (.slice A h cap) w := by
 rw [run_sliceAt_slice w 37 _ _ _ _ und_rows, run_slice_h w 37 A n cap und_rows k' h (by omega) (by omega)]
 rw [size_rows]
 have := cutA_zero A cap
 simp [Result.andThen, sliced]
 unfold cutA at this
 simpa using this
theorem SeesR.take {w : World} {R : Option Addr} {bs : List BA} (h : SeesR w R bs) (t : Nat) : SeesR w R (bs.take t) := by
 refine ⟨?_, fun x hx => h.2 x (List.mem_of_mem_take hx)⟩
 have := h.1.take t
 unfold baVals at this ⊢
 rwa [← List.map_take] at this
theorem rows_lie {w : World} {R : Option Addr} {bs : List BA} (h : SeesR w R bs) (hne : 0 < bs.length) (hz : ∀ x ∈ bs, recE x.l = 0) : (∀ b o, R = some ⟨b, o, none⟩ → b < w.heap.size) ∧ ∀ x ∈ bs, ∀ b o, x.A = some ⟨b, o, none⟩ → b < w.heap.size := by
 refine ⟨fun b o e => ?_, fun x hx b o e => ?_⟩
 ·have := h.1
  rw [e] at this
  exact this.lt (by rw [baVals_length]; exact hne)
 ·have := (h.2 x hx).1
  rw [e] at this
  exact this.lt (by rw [byteVals_length]; have := (recE_zero (hz x hx)).1; omega)
set_option maxRecDepth 100000 in
set_option maxHeartbeats 4000000 in
theorem topFirst (R : Option Addr) (cap : Nat) (bs : List BA) (hcap : bs.length ≤ cap) (w : World) (L : Laid w) (hS : SeesR w R bs) :
  Calls Tryz.prog 4 #[.slice R bs.length cap] w fun e w' => e = .returned (.bool true) ∧ Below w.heap.size w w' := by
 have HT := Lib.hid (fun W (hW : Below w.heap.size w W) => topShares W (L.to hW))
 have HLg := Lib.hid (topLarge R cap bs w hS)
 have HDc := Lib.hid (fun (h1 : bs.length ≤ 8) (h2 : ∀ x ∈ bs, x.l.length ≤ 166) W (hW : Below w.heap.size w W) => refDec20 R cap bs (by omega) (fun x hx => by have := h2 x hx; omega) W (hS.below hW))
 have HCb := Lib.hid (fun (h1 : bs.length ≤ 8) (h2 : ∀ x ∈ bs, x.l.length ≤ 166) (hz : ∀ x ∈ bs, recE x.l = 0) (hsh : OkShs (recsV bs)) W (hW : Below w.heap.size w W) => combineBytes R cap bs (by omega) (fun x hx => by have := h2 x hx; omega) hz hsh W (L.to hW) (hS.below hW)
  (rows_lie (hS.below hW) (by have := hsh.ne; unfold recsV at this; rwa [List.length_map] at this) hz).1 (rows_lie (hS.below hW) (by have := hsh.ne; unfold recsV at this; rwa [List.length_map] at this) hz).2)
 have HCt := Lib.hid (fun (t : Nat) (h1 : bs.length ≤ 8) (h2 : ∀ x ∈ bs, x.l.length ≤ 166) (hz : ∀ x ∈ bs, recE x.l = 0) (hsh : OkShs (recsV (bs.take t))) W (hW : Below w.heap.size w W) => combineBytes R cap (bs.take t) (by rw [List.length_take]; omega) (fun x hx => by have := h2 x (List.mem_of_mem_take hx); omega) (fun x hx => hz x (List.mem_of_mem_take hx)) hsh W (L.to hW) ((hS.below hW).take t)
  (rows_lie ((hS.below hW).take t) (by have := hsh.ne; unfold recsV at this; rwa [List.length_map] at this) (fun x hx => hz x (List.mem_of_mem_take hx))).1 (rows_lie ((hS.below hW).take t) (by have := hsh.ne; unfold recsV at this; rwa [List.length_map] at this) (fun x hx => hz x (List.mem_of_mem_take hx))).2)
 obtain ⟨n, hn⟩ : ∃ n, bs.length = n := ⟨_, rfl⟩
 have HN := Lib.hid (And.intro hn hcap)
 rw [hn] at HLg HDc HCb HCt ⊢
 clear hn hcap L hS
 go_enter Tryz.func4, Tryz.ntmps4
 go_wp2_with fail
 refine HLg.out.mono ?_
 rintro e w1 ⟨r, rfl, h01, hr, hb⟩
 have HB1 := Lib.hid hb
 clear hb HLg
 rcases h01 with rfl | rfl
 ·obtain ⟨h8, h166⟩ := hr rfl
  have HD := Lib.hid (HDc.out h8 h166 w1 HB1.out)
  have HC1 := Lib.hid (HCb.out h8 h166)
  have HC2 := Lib.hid (fun t => HCt.out t h8 h166)
  clear hr HDc HCb HCt h166
  go_wp2_with fail
  refine HD.out.mono ?_
  rintro e w2 ⟨v, r, rfl, hr, hb⟩
  have HB2 := Lib.hid (HB1.out.trans (hb.mono HB1.out.size))
  clear hb HD HB1
  by_cases hr0 : r = 0
  ·obtain ⟨hok, hz, A', c', Ls, rfl, hSS, hm⟩ := hr hr0
   subst hr0
   have hll : Ls.length = n := by
    have h1 := congrArg List.length hm
    unfold recsV at h1
    simp only [List.length_map] at h1
    have := HN.out.1
    omega
   have hne : 0 < n := by have := hok.ne; unfold recsV at this; rw [List.length_map] at this; have := HN.out.1; omega
   obtain ⟨b, o, rfl, -, -, x1, -, -, -⟩ := hSS.1.share 0 (by omega)
   rw [Nat.zero_mul, Nat.add_zero] at x1
   have hthr : ∃ t : Nat, Ls[0].s.thr = (t : Int) ∧ (∀ x ∈ recsV bs, x.thr = (t : Int)) ∧ t ≤ n := by
    have h0 : 0 < (recsV bs).length := hok.ne
    have e0 : Ls[0].s.thr = (recsV bs)[0].thr := by
     have := congrArg (fun q => q[0]?) hm
     simp only [List.getElem?_map, List.getElem?_eq_getElem (show 0 < Ls.length by omega), List.getElem?_eq_getElem h0, Option.map_some, Option.some.injEq] at this
     unfold Sh.hd4 at this
     simp only [Prod.mk.injEq] at this
     exact this.2.1
    have hm0 := List.getElem_mem h0
    have h1 := (checkE_ok (hok.ok _ hm0)).2.1
    have h2 := hok.few _ hm0
    have h3 : (recsV bs).length = n := by unfold recsV; rw [List.length_map]; exact HN.out.1
    refine ⟨((recsV bs)[0].thr).toNat, by rw [e0]; omega, fun x hx => ?_, by omega⟩
    have := hok.same x hx _ hm0
    unfold Sh.head at this
    simp only [Prod.mk.injEq] at this
    rw [this.2.1]
    omega
   obtain ⟨t, ht, hall, htn⟩ := hthr
   rw [ht] at x1
   obtain ⟨ho2, hE2, hB2⟩ := first_ones bs hok t hall
   have HCA := Lib.hid (HC1.out hz hok w2 HB2.out)
   have HCB := Lib.hid (HC2.out t hz ho2)
   have htl : (bs.take t).length = t := by rw [List.length_take]; have := HN.out.1; omega
   rw [hE2, hB2, htl] at HCB
   obtain ⟨ee, hee⟩ : ∃ ee, shsE (recsV bs) = ee := ⟨_, rfl⟩
   obtain ⟨q, hq⟩ : ∃ q, shsB (recsV bs) = q := ⟨_, rfl⟩
   rw [hee, hq] at HCA HCB
   have hcut := cut_rows R n cap t (by have := HN.out; omega) .i64
   have hnb0 : ¬ (t : Int) < 0 := by omega
   have X1 := Lib.hid x1
   clear hr hok hz hSS hm hll x1 ht hall htn ho2 hE2 hB2 htl hee hq HC1 HC2 h8
   go_wp2_with fail
   refine HCA.out.mono ?_
   rintro e w3 ⟨v1, rfl, hv1, hb⟩
   have HB3 := Lib.hid (HB2.out.trans (hb.mono HB2.out.size))
   have x1 := cell_keep X1.out hb
   have HV1 := Lib.hid hv1
   clear hb hv1 HCA X1
   go_wp2_with fail
   refine (HCB.out w3 HB3.out).mono ?_
   rintro e w4 ⟨v2, rfl, hv2, hb⟩
   have HB4 := Lib.hid (HB3.out.trans (hb.mono HB3.out.size))
   obtain ⟨A1, c1, rfl, -, s1, -⟩ := (HV1.out.below hb).open
   obtain ⟨A2, c2, rfl, -, s2, -⟩ := hv2.open
   have HSB := Lib.hid (fun W (hW : Below w4.heap.size w4 W) => And.intro (s1.below hW) (s2.below hW))
   clear hb hv2 s1 s2 x1 HCB HV1 hcut hnb0
   go_wp2_with fail
   refine (HT.out w4 HB4.out).mono ?_
   rintro e w5 ⟨rfl, hb⟩
   have HEq := Lib.hid (bytesEq q A1 A2 c1 c2 w5 (HSB.out _ hb).1 (HSB.out _ hb).2)
   have HB5 := Lib.hid (HB4.out.trans (hb.mono HB4.out.size))
   clear hb HSB
   generalize q.length = qn at *
   go_wp2_with fail
   refine HEq.out.mono ?_
   rintro e w6 ⟨rfl, rfl⟩
   go_wp2
   go_ret
   exact ⟨rfl, HB5.out⟩
  ·have hr' : (r != 0) = true := by simpa using hr0
   clear hr hr0 HC1 HC2
   go_wp2_with fail
   refine (HT.out _ HB2.out).mono ?_
   rintro e w3 ⟨rfl, hb⟩
   have HB3 := Lib.hid (HB2.out.trans (hb.mono HB2.out.size))
   clear hb
   go_wp2
   go_ret
   exact ⟨rfl, HB3.out⟩
 ·clear hr HDc HCb HCt
  go_wp2_with fail
  refine (HT.out _ HB1.out).mono ?_
  rintro e w2 ⟨rfl, hb⟩
  have HB2 := Lib.hid (HB1.out.trans (hb.mono HB1.out.size))
  clear hb
  go_wp2
  go_ret
  exact ⟨rfl, HB2.out⟩
end Go.Proofs.YtccgfladbibjbaaGreatDoor
