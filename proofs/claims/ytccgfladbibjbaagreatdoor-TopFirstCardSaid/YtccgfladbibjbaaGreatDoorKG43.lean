/- sharecoreref15.CheckShare of a share with a fit head: some number; CheckShares: 0 only if the heads agree, the indices differ and the shares are enough. Printed by gen15c.py. -/
import Derived.Test.YtccgfladbibjbaaGreatDoorKG42
import Derived.Test.YtccgfladbibjbaaGreatDoorKG24
import Derived.Test.YtccgfladbibjbaaGreatDoorKG30
import Derived.Test.YtccgfladbibjbaaGreatDoorKG12
import Derived.Test.YtccgfladbibjbaaGreatDoorKG32
import Derived.Test.YtccgfladbibjbaaGreatDoorKG33
import Derived.Test.YtccgfladbibjbaaGreatDoorKG39
import Derived.Test.YtccgfladbibjbaaGreatDoorKT19D
namespace Go.Proofs.YtccgfladbibjbaaGreatDoor
open Go.RowKit Go.Shelf
attribute [local go_sem ↓] add_UU sub_UU mul_UU add_UL add_LU sub_UL sub_LU mul_UL neg_at not_at and_UU or_UU xor_UU andNot_UU and_UL or_LU shr_UL shl_UL shr_UN shl_UN shl_LN quo_UL rem_UL quo_UU rem_UU
attribute [local go_sem] wrap64_N wrapi_mod wrap8_U wrap32_U wrap64_B wrap32_B wrap8_D wrapi_B wrap64_UU eq_UU ne_UU eq_UL ne_UL lt_UU le_UU
attribute [local simp] putAgg_size
attribute [local go_sem ↓] loadVar_F loadVar_E loadVar_V loadVar_B32 storeVar_F storeVar_E storeVar_V storeVar_B32 box_F box_E box_V box_B32
attribute [local go_sem ↓ high] V4.cells_val FP.cells_val
attribute [local go_sem] run_loadF run_loadE run_loadV run_loadB32 run_storeF run_storeE run_storeV run_storeB32 run_boxA aggAt_drew aggAt_drewN aggAt_alloc_new aggAt_alloc_past aggAt_setCell_other aggAt_putAgg_other aggAt_putAgg_new putAgg_drew putAgg_size putAgg_alloc_new putAgg_alloc_past putAgg_cell_other putAgg_frozen_other V4.agg_arr FP.agg_arr V4.size_arr FP.size_arr V4.fits FP.fits fitsA_agg4 lt_2 ne_2 en_2 lt_3 ne_3 en_3 lt_4 ne_4 en_4 lt_5 ne_5 en_5 lt_6 ne_6 en_6
attribute [local go_sem ↓] run_neqv
structure FitH (s : Sh) : Prop where
 f : getE s.field = 0
 t : 1 ≤ s.thr ∧ s.thr ≤ 255
 i : 1 ≤ s.idx ∧ s.idx ≤ 255
 n : 0 ≤ s.len ∧ s.len ≤ 65535
 p : s.pay.length = cnt s.len
set_option maxRecDepth 20000 in
set_option maxHeartbeats 2000000 in
theorem refCheckShare (s : Sh) (A : Option Addr) (cap : Nat) (hf : FitH s) (w : World) (hs : Sees w A (eVals s.pay)) :
  Calls Tryz.prog 73 #[s.val A cap] w fun e w' => ∃ r : Int, e = .returned (.int .i64 r) ∧ Below w.heap.size w w' := by
 obtain ⟨k1, k2, k3, k4, k5⟩ := hf
 obtain ⟨fd, th, ix, ln, P⟩ := s
 unfold Sh.val Sh.cells
 simp only [] at *
 have HK := Lib.hid (refKnown fd)
 rw [show decide (getE fd = 0) = true from by simpa using k1] at HK
 have HC := Lib.hid (refCount ln k4.1 k4.2)
 have hcl := cnt_le ln
 rw [← k5] at HC hcl
 have HM := Lib.hid (refModulus fd)
 generalize refMod fd = p at *
 have HSub := Lib.hid (show ∀ (x : V4) W, Calls Tryz.prog 51 #[p.val, x.val, .int .u64 0] W fun e w' => e = .returned (rsub p x 0#64).val ∧ Below W.heap.size W w' from fun x W => refSubtract p x 0#64 W)
 have HS := Lib.hid (fun W (hW : Below w.heap.size w W) => hs.below hW)
 obtain ⟨m, hm⟩ : ∃ m, P.length = m := ⟨_, rfl⟩
 have HMM := Lib.hid hm
 rw [hm] at HC hcl ⊢
 have n1 : ¬ th < 1 := by omega
 have n2 : ¬ 255 < th := by omega
 have n3 : ¬ ix < 1 := by omega
 have n4 : ¬ 255 < ix := by omega
 have n5 : ¬ ln < 0 := by omega
 have n6 : ¬ 65535 < ln := by omega
 clear hs hm k1 k2 k3 k4 k5
 go_enter Tryz.func73, Tryz.ntmps73
 go_wp2_with fail
 (obtain ⟨W0, hW0⟩ : ∃ W0 : World, W0 = (w).alloc (.cells #[.int .i64 fd, .int .i64 th, .int .i64 ix, .int .i64 ln, .slice A m cap] 26) := ⟨_, rfl⟩); (have gW0 : ∀ (j : Nat) (o : Obj), ([Obj.cells #[.int .i64 fd, .int .i64 th, .int .i64 ix, .int .i64 ln, .slice A m cap] 26] : List Obj)[j]? = some o → W0.heap[w.heap.size + j]? = some o := by rw [hW0]; exact allocs_get w _); (have zW0 : W0.heap.size = w.heap.size + 1 := by rw [hW0]; exact allocs_size w [Obj.cells #[.int .i64 fd, .int .i64 th, .int .i64 ix, .int .i64 ln, .slice A m cap] 26]); (have bW0 : Below w.heap.size w W0 := by rw [hW0]; exact allocs_below w [Obj.cells #[.int .i64 fd, .int .i64 th, .int .i64 ix, .int .i64 ln, .slice A m cap] 26]); (rw [← hW0]); (clear hW0)
 have g0 : W0.heap[w.heap.size]? = some (.cells #[.int .i64 fd, .int .i64 th, .int .i64 ix, .int .i64 ln, .slice A m cap] 26 (0, 0)) := gW0 0 _ rfl
 have x1 := row_cell (cs := [_, _, _, _, _]) g0 1 rfl
 have x2 := row_cell (cs := [_, _, _, _, _]) g0 2 rfl
 have x3 := row_cell (cs := [_, _, _, _, _]) g0 3 rfl
 have x4 := row_cell (cs := [_, _, _, _, _]) g0 4 rfl
 have HG := Lib.hid (And.intro g0 bW0)
 clear gW0 zW0 g0 bW0
 refine (HK.out _).mono ?_
 rintro e w1 ⟨rfl, rfl⟩
 clear HK
 go_upto_region 9 with (fail)
 clear n1 n2 n3 n4 n5 n6 x1 x2
 ((have hS0 : (Below w1.heap.size w1 w1.drew ∧ w1.drew.cell? ⟨(w.heap.size), (3), none⟩ = some (.int .i64 ln) ∧ w1.drew.cell? ⟨(w.heap.size), (4), none⟩ = some (.slice A m cap)) := ⟨((Below.refl _ w1)).drew, x3, x4⟩); (refine region_later (by kernel_rfl) [7] [0, 1, 2, 3, 4, 5, 6] true (by kernel_rfl) (by kernel_rfl) (fun W' => (Below w1.heap.size w1 W' ∧ W'.cell? ⟨(w.heap.size), (3), none⟩ = some (.int .i64 ln) ∧ W'.cell? ⟨(w.heap.size), (4), none⟩ = some (.slice A m cap))) hS0 ?_); (have hSB : ∀ W' W'' : World, (Below w1.heap.size w1 W' ∧ W'.cell? ⟨(w.heap.size), (3), none⟩ = some (.int .i64 ln) ∧ W'.cell? ⟨(w.heap.size), (4), none⟩ = some (.slice A m cap)) → Below W'.heap.size W' W'' → (Below w1.heap.size w1 W'' ∧ W''.cell? ⟨(w.heap.size), (3), none⟩ = some (.int .i64 ln) ∧ W''.cell? ⟨(w.heap.size), (4), none⟩ = some (.slice A m cap)) := fun W' W'' ⟨h0, h1, h2⟩ hb => ⟨h0.trans (hb.mono h0.size), cell_keep h1 hb, cell_keep h2 hb⟩); (clear x3 x4); (iterate 7 (refine chainL_op (by rfl) (by rfl) ?_ ?_ ?_; rotate_left; (focus (intro W' hS' K hK; (try simp only [put_some, List.set] at hK); (have hS'' := hS'); (obtain ⟨s0, s1, s2⟩ := hS''); go_simp; (first | exact hK _ hS' (Later.refl _) | (with_reducible refine Calls.mono (HC.out _) ?_; rintro e W'' ⟨rfl, hb''⟩; exact hK _ (hSB _ _ hS' hb'') (Later.of hb''))); done)); (try simp only [put_some, List.set]))); (refine chainL_nil ?_))
 refine spineL_op (by rfl) (by rfl) (fun X1 hS1 hL1 K hK => ?_)
 go_simp
 refine hK _ _ (fun _ => hS1) ?_
 (try simp only [put_some, List.set])
 refine spineL_nil fun X2 hL2 hS2 => ?_
 have hb2 := (hS2 rfl).1
 have HG2 := Lib.hid (And.intro (blk_below HG.out.1 hb2 rfl) (HG.out.2.trans (hb2.mono HG.out.2.size)))
 clear hS1 hS2 hL1 hL2 hSB hS0 K hK hb2 HG HC
 have hne : ((m : Int) != (m : Int)) = false := by simp
 have x0 := row_cell (cs := [_, _, _, _, _]) HG2.out.1 0 rfl
 go_wp2_with fail
 refine (HM.out _).mono ?_
 rintro e w3 ⟨rfl, hb3⟩
 have HG3 := Lib.hid (And.intro (blk_below HG2.out.1 hb3 rfl) (HG2.out.2.trans (hb3.mono HG2.out.2.size)))
 have hz3 : w.heap.size < w3.heap.size := (Array.getElem?_eq_some_iff.1 HG3.out.1).1
 clear HG2 HM hb3 hne x0
 go_upto_region 12 with (fail)
 (obtain ⟨W5, hW5⟩ : ∃ W0 : World, W0 = (w3).alloc (.cells p.arr 45) := ⟨_, rfl⟩); (have gW5 : ∀ (j : Nat) (o : Obj), ([Obj.cells p.arr 45] : List Obj)[j]? = some o → W5.heap[w3.heap.size + j]? = some o := by rw [hW5]; exact allocs_get w3 _); (have zW5 : W5.heap.size = w3.heap.size + 1 := by rw [hW5]; exact allocs_size w3 [Obj.cells p.arr 45]); (have bW5 : Below w3.heap.size w3 W5 := by rw [hW5]; exact allocs_below w3 [Obj.cells p.arr 45]); (rw [← hW5]); (clear hW5)
 have gP : W5.heap[w3.heap.size]? = some (.cells p.arr 45 (0, 0)) := gW5 0 _ rfl
 have H0 := Lib.hid (show W5.heap[w.heap.size]? = some (.cells #[.int .i64 fd, .int .i64 th, .int .i64 ix, .int .i64 ln, .slice A m cap] 26 (0, 0)) ∧ W5.heap[w3.heap.size]? = some (.cells p.arr 45 (0, 0)) ∧ Below w.heap.size w W5 from ⟨blk_below HG3.out.1 bW5 rfl, gP, HG3.out.2.trans (bW5.mono HG3.out.2.size)⟩)
 clear gW5 zW5 bW5 gP HG3
 generalize w3.heap.size = bP at *
 go_wp2
 go_loopw [4] (fun iv W => ∃ k : Nat, k ≤ m ∧ iv = .int .i64 k ∧ W.heap[w.heap.size]? = some (.cells #[.int .i64 fd, .int .i64 th, .int .i64 ix, .int .i64 ln, .slice A m cap] 26 (0, 0)) ∧ W.heap[bP]? = some (.cells p.arr 45 (0, 0)) ∧ Below w.heap.size w W) (fun iv _ => m - (intOf iv).toNat)
 case atStart => exact ⟨0, Nat.zero_le _, rfl, H0.out⟩
 case round =>
  clear H0
  obtain ⟨k, hk, rfl, hI⟩ := hrel
  have HI := Lib.hid hI
  have x4 := row_cell (cs := [_, _, _, _, _]) hI.1 4 rfl
  clear hI
  by_cases hlt : k < m
  ·have hlt' : (k : Int) < (m : Int) := by omega
   obtain ⟨b, o, rfl, -, hld⟩ := (HS.out wr HI.out.2.2).ld k (by rw [HMM.out]; exact hlt)
   have pP := agg_of_block HI.out.2.1
   generalize at4 P k = x at *
   have HKM := Lib.hid (show k + 1 ≤ m ∧ m ≤ 2115 from ⟨hlt, hcl⟩)
   clear hk hlt
   go_wp2_with fail
   ((have hS0 : (Below wr.heap.size wr wr.drew ∧ aggAt wr.drew 4 (bP) (0) = some (p.val) ∧ wr.drew.cell? ⟨(w.heap.size), (4), none⟩ = some (.slice (some ⟨b, o, none⟩) m cap)) := ⟨((Below.refl _ wr)).drew, pP, x4⟩); (refine region_later (by kernel_rfl) [12] [0, 1, 2, 3, 4, 5, 6, 7, 8, 9, 10, 11] true (by kernel_rfl) (by kernel_rfl) (fun W' => (Below wr.heap.size wr W' ∧ aggAt W' 4 (bP) (0) = some (p.val) ∧ W'.cell? ⟨(w.heap.size), (4), none⟩ = some (.slice (some ⟨b, o, none⟩) m cap))) hS0 ?_); (have hSB : ∀ W' W'' : World, (Below wr.heap.size wr W' ∧ aggAt W' 4 (bP) (0) = some (p.val) ∧ W'.cell? ⟨(w.heap.size), (4), none⟩ = some (.slice (some ⟨b, o, none⟩) m cap)) → Below W'.heap.size W' W'' → (Below wr.heap.size wr W'' ∧ aggAt W'' 4 (bP) (0) = some (p.val) ∧ W''.cell? ⟨(w.heap.size), (4), none⟩ = some (.slice (some ⟨b, o, none⟩) m cap)) := fun W' W'' ⟨h0, h1, h2⟩ hb => ⟨h0.trans (hb.mono h0.size), agg_keep h1 hb, cell_keep h2 hb⟩); (clear pP x4); (iterate 12 (refine chainL_op (by rfl) (by rfl) ?_ ?_ ?_; rotate_left; (focus (intro W' hS' K hK; (try simp only [put_some, List.set] at hK); (have hS'' := hS'); (obtain ⟨s0, s1, s2⟩ := hS''); (have e_0 := hld W' s0); go_simp; (first | exact hK _ hS' (Later.refl _) | (with_reducible refine Calls.mono (HSub.out _ _) ?_; rintro e W'' ⟨rfl, hb''⟩; exact hK _ (hSB _ _ hS' hb'') (Later.of hb''))); done)); (try simp only [put_some, List.set]))); (refine chainL_nil ?_))
   refine spineL_op (by rfl) (by rfl) (fun X1 hS1 hL1 K hK => ?_)
   go_simp
   refine hK _ _ (fun _ => hS1) ?_
   (try simp only [put_some, List.set])
   refine spineL_nil fun X2 hL2 hS2 => ?_
   have hb2 := (hS2 rfl).1
   have HI2 := Lib.hid (And.intro (blk_below HI.out.1 hb2 rfl) (And.intro (blk_below HI.out.2.1 hb2 rfl) (HI.out.2.2.trans (hb2.mono HI.out.2.2.size))))
   clear hS1 hS2 hL1 hL2 hSB hS0 K hK hb2 HI hld
   generalize rsub p x 0#64 = s at *
   by_cases hsx : s = x
   ·have hx : (!decide (s = x)) = false := by simpa using hsx
    rw [hx]
    clear hx hsx
    go_wp2
    go_roundw
    case rel => exact ⟨k + 1, HKM.out.1, by go_num, HI2.out⟩
    case measure => (first | (simp [intOf]; done) | (simp [intOf]; omega))
   ·have hx : (!decide (s = x)) = true := by simpa using hsx
    rw [hx]
    clear hx hsx
    go_wp2
    go_ret
    first | exact ⟨⟨9, rfl⟩, HI2.out.2.2⟩ | exact ⟨9, rfl, HI2.out.2.2⟩
  ·obtain rfl : k = m := by omega
   have hlt' : ¬ (k : Int) < (k : Int) := by omega
   clear hk hlt
   go_wp2
   go_ret
   first | exact ⟨⟨0, rfl⟩, HI.out.2.2⟩ | exact ⟨0, rfl, HI.out.2.2⟩
def Sh.hd4 (s : Sh) : Int × Int × Int × Int := (s.field, s.thr, s.idx, s.len)
structure FitL (l : List Sh) : Prop where
 ne : 0 < l.length
 same : ∀ i (h : i < l.length), l[i].head = l[0].head
 dif : ∀ i j (hi : i < l.length) (hj : j < l.length), j < i → l[i].idx ≠ l[j].idx
 few : l[0].thr ≤ (l.length : Int)
set_option maxRecDepth 20000 in
set_option maxHeartbeats 4000000 in
theorem refCheckShares (R : Option Addr) (cap : Nat) (l : List ShA) (hn : l.length ≤ 1048576) (hf : ∀ x ∈ l, FitH x.s) (w : World) (hS : SeesS w R l) :
    Calls Tryz.prog 38 #[.slice R l.length cap] w fun e w' => ∃ r : Int, e = .returned (.int .i64 r) ∧ (r = 0 → FitL (l.map ShA.s)) ∧ Below w.heap.size w w' := by
  have HS := Lib.hid (fun W (hW : Below w.heap.size w W) => hS.below hW)
  have HF := Lib.hid hf
  obtain ⟨m, hm⟩ : ∃ m, l.length = m := ⟨_, rfl⟩
  have HM := Lib.hid (And.intro hm hn)
  have HQ := Lib.hid (show (0 < m) → (∀ i (h : i < l.length) (h0 : 0 < l.length), l[i].s.head = l[0].s.head) → (∀ i j (hi : i < l.length) (hj : j < l.length), j < i → l[i].s.idx ≠ l[j].s.idx) → (∀ h : 0 < l.length, l[0].s.thr ≤ (m : Int)) → FitL (l.map ShA.s) from fun a b c d =>
    ⟨by rw [List.length_map, hm]; exact a, fun i h => by rw [List.getElem_map, List.getElem_map]; exact b i (by rw [List.length_map] at h; exact h) (by omega), fun i j hi hj hij => by rw [List.getElem_map, List.getElem_map]; rw [List.length_map] at hi hj; exact c i j hi hj hij, by
      have h1 := d (by omega)
      have h2 : (l.map ShA.s).length = m := by rw [List.length_map, hm]
      rw [List.getElem_map]
      refine Int.le_trans h1 ?_
      rw [h2]
      exact Int.le_refl _⟩)
  rw [hm]
  clear hS hf hm hn
  go_enter Tryz.func38, Tryz.ntmps38
  go_wp2
  go_loopw [3] (fun iv W => ∃ k : Nat, k ≤ m ∧ iv = .int .i64 k ∧ Below w.heap.size w W) (fun iv _ => m - (intOf iv).toNat)
  case atStart => exact ⟨0, Nat.zero_le _, rfl, Below.refl _ _⟩
  case round =>
    obtain ⟨k, hk, rfl, hI⟩ := hrel
    by_cases hlt : k < m
    · have hlt' : (k : Int) < (m : Int) := by omega
      have hkl : k < l.length := by rw [HM.out.1]; exact hlt
      obtain ⟨b, o, rfl, hb, c0, c1, c2, c3, c4⟩ := (HS.out wr hI).1.share k hkl
      have HC := Lib.hid (refCheckShare l[k].s l[k].A l[k].cap (HF.out _ (List.getElem_mem hkl)) wr ((HS.out wr hI).2 _ (List.getElem_mem hkl)))
      have HKM := Lib.hid (show k + 1 ≤ m ∧ m ≤ 1048576 from ⟨hlt, by rw [← HM.out.1]; exact HM.out.2⟩)
      have HI := Lib.hid hI
      generalize l[k] = x at *
      unfold Sh.val Sh.cells at HC
      obtain ⟨⟨fd, th, ix, ln, pl⟩, xA, xcap⟩ := x
      simp only [] at c0 c1 c2 c3 c4 HC
      have hm48 : m ≤ 1048576 := HKM.out.2
      clear hI hk hkl hlt
      go_wp2_with fail
      refine HC.out.mono ?_
      rintro e w1 ⟨r, rfl, hb1⟩
      have HI1 := Lib.hid (HI.out.trans (hb1.mono HI.out.size))
      clear c0 c1 c2 c3 c4 HC HI hb1 hb
      by_cases hr : r = 0
      · subst hr
        go_wp2
        go_roundw
        case rel => exact ⟨k + 1, HKM.out.1, by go_num, HI1.out⟩
        case measure => (first | (simp [intOf]; done) | (simp [intOf]; omega))
      · have hr' : (r != 0) = true := by simpa using hr
        have HR := Lib.hid hr
        clear hr
        go_wp2
        go_ret
        exact ⟨r, rfl, (fun h => absurd h HR.out), HI1.out⟩
    · have HI := Lib.hid hI
      obtain rfl : k = m := by omega
      have hlt' : ¬ (k : Int) < (k : Int) := by omega
      clear hk hlt hI
      go_wp2
      have H1 := Lib.hid (HI.out)
      clear HI hlt'
      go_loopw [5] (fun iv W => ∃ i : Nat, 1 ≤ i ∧ (i ≤ k ∨ i = 1) ∧ iv = .int .i64 i ∧ (∀ j (hj : j < l.length) (h0 : 0 < l.length), j < i → l[j].s.head = l[0].s.head) ∧ Below w.heap.size w W) (fun iv _ => k + 1 - (intOf iv).toNat)
      case atStart => exact ⟨1, Nat.le_refl _, .inr rfl, rfl, (fun j hj h0 h => by obtain rfl : j = 0 := by omega
                                                                                   rfl), H1.out⟩
      case round =>
        clear H1
        obtain ⟨i, hi1, hi, rfl, hh, hI⟩ := hrel
        have HI := Lib.hid (And.intro hh hI)
        by_cases hlt : i < k
        · have hlt' : (i : Int) < (k : Int) := by omega
          have hil : i < l.length := by rw [HM.out.1]; exact hlt
          have h0l : 0 < l.length := by omega
          obtain ⟨b, o, rfl, hb, x0, x1, -, x3, -⟩ := (HS.out wr hI).1.share i hil
          obtain ⟨b', o', e', -, y0, y1, -, y3, -⟩ := (HS.out wr hI).1.share 0 h0l
          injection e' with e'
          injection e' with e1 e2
          subst e1 e2
          rw [Nat.zero_mul, Nat.add_zero] at y0 y1 y3
          have HX := Lib.hid (show l[i].s.head = (l[i].s.field, l[i].s.thr, l[i].s.len) ∧ l[0].s.head = (l[0].s.field, l[0].s.thr, l[0].s.len) from ⟨rfl, rfl⟩)
          have HN := Lib.hid (fun (q : l[i].s.head = l[0].s.head) j (hj : j < l.length) (h0 : 0 < l.length) (hji : j < i + 1) => show l[j].s.head = l[0].s.head from by
            by_cases hj2 : j < i
            · exact HI.out.1 j hj h0 hj2
            · obtain rfl : j = i := by omega
              exact q)
          have HKM := Lib.hid (show i + 1 ≤ k ∧ k ≤ 1048576 from ⟨hlt, by rw [← HM.out.1]; exact HM.out.2⟩)
          have hk48 : k ≤ 1048576 := HKM.out.2
          have hk0 : 0 < k := by omega
          generalize l[i].s.field = f1 at *
          generalize l[i].s.thr = t1 at *
          generalize l[i].s.len = n1 at *
          generalize l[0].s.field = f2 at *
          generalize l[0].s.thr = t2 at *
          generalize l[0].s.len = n2 at *
          clear hI hh hi hlt hb
          by_cases q1 : f1 = f2
          · by_cases q2 : t1 = t2
            · by_cases q3 : n1 = n2
              · have HSame := Lib.hid (HN.out (by rw [HX.out.1, HX.out.2, q1, q2, q3]))
                subst q1 q2 q3
                have E1 := Lib.hid (show (f1 != f1) = false by simp)
                have E2 := Lib.hid (show (t1 != t1) = false by simp)
                have E3 := Lib.hid (show (n1 != n1) = false by simp)
                clear HX HN
                go_wp2_with fail
                ((have hS0 : (Below wr.heap.size wr wr.drew ∧ wr.drew.cell? ⟨(b), (o + i * 5), none⟩ = some (.int .i64 f1) ∧ wr.drew.cell? ⟨(b), (o + i * 5 + 1), none⟩ = some (.int .i64 t1) ∧ wr.drew.cell? ⟨(b), (o + i * 5 + 3), none⟩ = some (.int .i64 n1) ∧ wr.drew.cell? ⟨(b), (o), none⟩ = some (.int .i64 f1) ∧ wr.drew.cell? ⟨(b), (o + 1), none⟩ = some (.int .i64 t1) ∧ wr.drew.cell? ⟨(b), (o + 3), none⟩ = some (.int .i64 n1)) := ⟨((Below.refl _ wr)).drew, x0, x1, x3, y0, y1, y3⟩); (refine region_later (by kernel_rfl) [33] [0, 1, 2, 3, 4, 5, 6, 7, 8, 9, 10, 11, 12, 13, 14, 15, 16, 17, 18, 19, 20, 21, 22, 23, 24, 25, 26, 27, 28, 29, 30, 31, 32] true (by kernel_rfl) (by kernel_rfl) (fun W' => (Below wr.heap.size wr W' ∧ W'.cell? ⟨(b), (o + i * 5), none⟩ = some (.int .i64 f1) ∧ W'.cell? ⟨(b), (o + i * 5 + 1), none⟩ = some (.int .i64 t1) ∧ W'.cell? ⟨(b), (o + i * 5 + 3), none⟩ = some (.int .i64 n1) ∧ W'.cell? ⟨(b), (o), none⟩ = some (.int .i64 f1) ∧ W'.cell? ⟨(b), (o + 1), none⟩ = some (.int .i64 t1) ∧ W'.cell? ⟨(b), (o + 3), none⟩ = some (.int .i64 n1))) hS0 ?_); (have hSB : ∀ W' W'' : World, (Below wr.heap.size wr W' ∧ W'.cell? ⟨(b), (o + i * 5), none⟩ = some (.int .i64 f1) ∧ W'.cell? ⟨(b), (o + i * 5 + 1), none⟩ = some (.int .i64 t1) ∧ W'.cell? ⟨(b), (o + i * 5 + 3), none⟩ = some (.int .i64 n1) ∧ W'.cell? ⟨(b), (o), none⟩ = some (.int .i64 f1) ∧ W'.cell? ⟨(b), (o + 1), none⟩ = some (.int .i64 t1) ∧ W'.cell? ⟨(b), (o + 3), none⟩ = some (.int .i64 n1)) → Below W'.heap.size W' W'' → (Below wr.heap.size wr W'' ∧ W''.cell? ⟨(b), (o + i * 5), none⟩ = some (.int .i64 f1) ∧ W''.cell? ⟨(b), (o + i * 5 + 1), none⟩ = some (.int .i64 t1) ∧ W''.cell? ⟨(b), (o + i * 5 + 3), none⟩ = some (.int .i64 n1) ∧ W''.cell? ⟨(b), (o), none⟩ = some (.int .i64 f1) ∧ W''.cell? ⟨(b), (o + 1), none⟩ = some (.int .i64 t1) ∧ W''.cell? ⟨(b), (o + 3), none⟩ = some (.int .i64 n1)) := fun W' W'' ⟨h0, h1, h2, h3, h4, h5, h6⟩ hb => ⟨h0.trans (hb.mono h0.size), cell_keep h1 hb, cell_keep h2 hb, cell_keep h3 hb, cell_keep h4 hb, cell_keep h5 hb, cell_keep h6 hb⟩); (clear x0 x1 x3 y0 y1 y3); (iterate 33 (first | ((first | (refine chainL_op (by rfl) (by rfl) ?_ ?_ ?_) | (refine chainL_opG (by rfl) (by rfl) ?_ ?_ ?_)); rotate_left; (focus (intro W' hS' K hK; (try simp only [put_some, List.set] at hK); (have hS'' := hS'); (obtain ⟨s0, s1, s2, s3, s4, s5, s6⟩ := hS''); go_simp; (first | exact hK _ hS' (Later.refl _)); done)); (try simp only [put_some, List.set])) | ((refine chainL_opU (by rfl) (by rfl) ?_); (try simp only [put_some, List.set])))); (refine chainL_nil ?_))
                refine spineL_op (by rfl) (by rfl) (fun X1 hS1 hL1 K hK => ?_)
                go_simp
                refine hK _ _ (fun _ => hS1) ?_
                (try simp only [put_some, List.set])
                refine spineL_nil fun X2 hL2 hS2 => ?_
                have HI2 := Lib.hid (HI.out.2.trans ((hS2 rfl).1.mono HI.out.2.size))
                clear hS1 hS2 hL1 hL2 hSB hS0 K hK
                go_wp2
                go_roundw
                case rel => exact ⟨i + 1, by omega, .inl HKM.out.1, by go_num, HSame.out, HI2.out⟩
                case measure => (first | (simp [intOf]; done) | (simp [intOf]; omega))
              · have E1 := Lib.hid (show (f1 != f2) = false by simpa using q1)
                have E2 := Lib.hid (show (t1 != t2) = false by simpa using q2)
                have E3 := Lib.hid (show (n1 != n2) = true by simpa using q3)
                clear HX HN
                go_wp2_with fail
                ((have hS0 : (Below wr.heap.size wr wr.drew ∧ wr.drew.cell? ⟨(b), (o + i * 5), none⟩ = some (.int .i64 f1) ∧ wr.drew.cell? ⟨(b), (o + i * 5 + 1), none⟩ = some (.int .i64 t1) ∧ wr.drew.cell? ⟨(b), (o + i * 5 + 3), none⟩ = some (.int .i64 n1) ∧ wr.drew.cell? ⟨(b), (o), none⟩ = some (.int .i64 f2) ∧ wr.drew.cell? ⟨(b), (o + 1), none⟩ = some (.int .i64 t2) ∧ wr.drew.cell? ⟨(b), (o + 3), none⟩ = some (.int .i64 n2)) := ⟨((Below.refl _ wr)).drew, x0, x1, x3, y0, y1, y3⟩); (refine region_later (by kernel_rfl) [33] [0, 1, 2, 3, 4, 5, 6, 7, 8, 9, 10, 11, 12, 13, 14, 15, 16, 17, 18, 19, 20, 21, 22, 23, 24, 25, 26, 27, 28, 29, 30, 31, 32] true (by kernel_rfl) (by kernel_rfl) (fun W' => (Below wr.heap.size wr W' ∧ W'.cell? ⟨(b), (o + i * 5), none⟩ = some (.int .i64 f1) ∧ W'.cell? ⟨(b), (o + i * 5 + 1), none⟩ = some (.int .i64 t1) ∧ W'.cell? ⟨(b), (o + i * 5 + 3), none⟩ = some (.int .i64 n1) ∧ W'.cell? ⟨(b), (o), none⟩ = some (.int .i64 f2) ∧ W'.cell? ⟨(b), (o + 1), none⟩ = some (.int .i64 t2) ∧ W'.cell? ⟨(b), (o + 3), none⟩ = some (.int .i64 n2))) hS0 ?_); (have hSB : ∀ W' W'' : World, (Below wr.heap.size wr W' ∧ W'.cell? ⟨(b), (o + i * 5), none⟩ = some (.int .i64 f1) ∧ W'.cell? ⟨(b), (o + i * 5 + 1), none⟩ = some (.int .i64 t1) ∧ W'.cell? ⟨(b), (o + i * 5 + 3), none⟩ = some (.int .i64 n1) ∧ W'.cell? ⟨(b), (o), none⟩ = some (.int .i64 f2) ∧ W'.cell? ⟨(b), (o + 1), none⟩ = some (.int .i64 t2) ∧ W'.cell? ⟨(b), (o + 3), none⟩ = some (.int .i64 n2)) → Below W'.heap.size W' W'' → (Below wr.heap.size wr W'' ∧ W''.cell? ⟨(b), (o + i * 5), none⟩ = some (.int .i64 f1) ∧ W''.cell? ⟨(b), (o + i * 5 + 1), none⟩ = some (.int .i64 t1) ∧ W''.cell? ⟨(b), (o + i * 5 + 3), none⟩ = some (.int .i64 n1) ∧ W''.cell? ⟨(b), (o), none⟩ = some (.int .i64 f2) ∧ W''.cell? ⟨(b), (o + 1), none⟩ = some (.int .i64 t2) ∧ W''.cell? ⟨(b), (o + 3), none⟩ = some (.int .i64 n2)) := fun W' W'' ⟨h0, h1, h2, h3, h4, h5, h6⟩ hb => ⟨h0.trans (hb.mono h0.size), cell_keep h1 hb, cell_keep h2 hb, cell_keep h3 hb, cell_keep h4 hb, cell_keep h5 hb, cell_keep h6 hb⟩); (clear x0 x1 x3 y0 y1 y3); (iterate 33 (first | ((first | (refine chainL_op (by rfl) (by rfl) ?_ ?_ ?_) | (refine chainL_opG (by rfl) (by rfl) ?_ ?_ ?_)); rotate_left; (focus (intro W' hS' K hK; (try simp only [put_some, List.set] at hK); (have hS'' := hS'); (obtain ⟨s0, s1, s2, s3, s4, s5, s6⟩ := hS''); go_simp; (first | exact hK _ hS' (Later.refl _)); done)); (try simp only [put_some, List.set, E3.out])) | ((refine chainL_opU (by rfl) (by rfl) ?_); (try simp only [put_some, List.set])))); (refine chainL_nil ?_))
                refine spineL_op (by rfl) (by rfl) (fun X1 hS1 hL1 K hK => ?_)
                go_simp
                refine hK _ _ (fun _ => hS1) ?_
                (try simp only [put_some, List.set])
                refine spineL_nil fun X2 hL2 hS2 => ?_
                have HI2 := Lib.hid (HI.out.2.trans ((hS2 rfl).1.mono HI.out.2.size))
                clear hS1 hS2 hL1 hL2 hSB hS0 K hK
                go_wp2
                go_ret
                exact ⟨14, rfl, (fun h => by cases h), HI2.out⟩
            · have E1 := Lib.hid (show (f1 != f2) = false by simpa using q1)
              have E2 := Lib.hid (show (t1 != t2) = true by simpa using q2)
              have E3 := Lib.hid (show True from trivial)
              clear HX HN
              go_wp2_with fail
              ((have hS0 : (Below wr.heap.size wr wr.drew ∧ wr.drew.cell? ⟨(b), (o + i * 5), none⟩ = some (.int .i64 f1) ∧ wr.drew.cell? ⟨(b), (o + i * 5 + 1), none⟩ = some (.int .i64 t1) ∧ wr.drew.cell? ⟨(b), (o + i * 5 + 3), none⟩ = some (.int .i64 n1) ∧ wr.drew.cell? ⟨(b), (o), none⟩ = some (.int .i64 f2) ∧ wr.drew.cell? ⟨(b), (o + 1), none⟩ = some (.int .i64 t2) ∧ wr.drew.cell? ⟨(b), (o + 3), none⟩ = some (.int .i64 n2)) := ⟨((Below.refl _ wr)).drew, x0, x1, x3, y0, y1, y3⟩); (refine region_later (by kernel_rfl) [33] [0, 1, 2, 3, 4, 5, 6, 7, 8, 9, 10, 11, 12, 13, 14, 15, 16, 17, 18, 19, 20, 21, 22, 23, 24, 25, 26, 27, 28, 29, 30, 31, 32] true (by kernel_rfl) (by kernel_rfl) (fun W' => (Below wr.heap.size wr W' ∧ W'.cell? ⟨(b), (o + i * 5), none⟩ = some (.int .i64 f1) ∧ W'.cell? ⟨(b), (o + i * 5 + 1), none⟩ = some (.int .i64 t1) ∧ W'.cell? ⟨(b), (o + i * 5 + 3), none⟩ = some (.int .i64 n1) ∧ W'.cell? ⟨(b), (o), none⟩ = some (.int .i64 f2) ∧ W'.cell? ⟨(b), (o + 1), none⟩ = some (.int .i64 t2) ∧ W'.cell? ⟨(b), (o + 3), none⟩ = some (.int .i64 n2))) hS0 ?_); (have hSB : ∀ W' W'' : World, (Below wr.heap.size wr W' ∧ W'.cell? ⟨(b), (o + i * 5), none⟩ = some (.int .i64 f1) ∧ W'.cell? ⟨(b), (o + i * 5 + 1), none⟩ = some (.int .i64 t1) ∧ W'.cell? ⟨(b), (o + i * 5 + 3), none⟩ = some (.int .i64 n1) ∧ W'.cell? ⟨(b), (o), none⟩ = some (.int .i64 f2) ∧ W'.cell? ⟨(b), (o + 1), none⟩ = some (.int .i64 t2) ∧ W'.cell? ⟨(b), (o + 3), none⟩ = some (.int .i64 n2)) → Below W'.heap.size W' W'' → (Below wr.heap.size wr W'' ∧ W''.cell? ⟨(b), (o + i * 5), none⟩ = some (.int .i64 f1) ∧ W''.cell? ⟨(b), (o + i * 5 + 1), none⟩ = some (.int .i64 t1) ∧ W''.cell? ⟨(b), (o + i * 5 + 3), none⟩ = some (.int .i64 n1) ∧ W''.cell? ⟨(b), (o), none⟩ = some (.int .i64 f2) ∧ W''.cell? ⟨(b), (o + 1), none⟩ = some (.int .i64 t2) ∧ W''.cell? ⟨(b), (o + 3), none⟩ = some (.int .i64 n2)) := fun W' W'' ⟨h0, h1, h2, h3, h4, h5, h6⟩ hb => ⟨h0.trans (hb.mono h0.size), cell_keep h1 hb, cell_keep h2 hb, cell_keep h3 hb, cell_keep h4 hb, cell_keep h5 hb, cell_keep h6 hb⟩); (clear x0 x1 x3 y0 y1 y3); (iterate 33 (first | ((first | (refine chainL_op (by rfl) (by rfl) ?_ ?_ ?_) | (refine chainL_opG (by rfl) (by rfl) ?_ ?_ ?_)); rotate_left; (focus (intro W' hS' K hK; (try simp only [put_some, List.set] at hK); (have hS'' := hS'); (obtain ⟨s0, s1, s2, s3, s4, s5, s6⟩ := hS''); go_simp; (first | exact hK _ hS' (Later.refl _)); done)); (try simp only [put_some, List.set, E2.out])) | ((refine chainL_opU (by rfl) (by rfl) ?_); (try simp only [put_some, List.set])))); (refine chainL_nil ?_))
              refine spineL_op (by rfl) (by rfl) (fun X1 hS1 hL1 K hK => ?_)
              go_simp
              refine hK _ _ (fun _ => hS1) ?_
              (try simp only [put_some, List.set])
              refine spineL_nil fun X2 hL2 hS2 => ?_
              have HI2 := Lib.hid (HI.out.2.trans ((hS2 rfl).1.mono HI.out.2.size))
              clear hS1 hS2 hL1 hL2 hSB hS0 K hK
              go_wp2
              go_ret
              exact ⟨14, rfl, (fun h => by cases h), HI2.out⟩
          · have E1 := Lib.hid (show (f1 != f2) = true by simpa using q1)
            have E2 := Lib.hid (show True from trivial)
            have E3 := Lib.hid (show True from trivial)
            clear HX HN
            go_wp2_with fail
            ((have hS0 : (Below wr.heap.size wr wr.drew ∧ wr.drew.cell? ⟨(b), (o + i * 5), none⟩ = some (.int .i64 f1) ∧ wr.drew.cell? ⟨(b), (o + i * 5 + 1), none⟩ = some (.int .i64 t1) ∧ wr.drew.cell? ⟨(b), (o + i * 5 + 3), none⟩ = some (.int .i64 n1) ∧ wr.drew.cell? ⟨(b), (o), none⟩ = some (.int .i64 f2) ∧ wr.drew.cell? ⟨(b), (o + 1), none⟩ = some (.int .i64 t2) ∧ wr.drew.cell? ⟨(b), (o + 3), none⟩ = some (.int .i64 n2)) := ⟨((Below.refl _ wr)).drew, x0, x1, x3, y0, y1, y3⟩); (refine region_later (by kernel_rfl) [33] [0, 1, 2, 3, 4, 5, 6, 7, 8, 9, 10, 11, 12, 13, 14, 15, 16, 17, 18, 19, 20, 21, 22, 23, 24, 25, 26, 27, 28, 29, 30, 31, 32] true (by kernel_rfl) (by kernel_rfl) (fun W' => (Below wr.heap.size wr W' ∧ W'.cell? ⟨(b), (o + i * 5), none⟩ = some (.int .i64 f1) ∧ W'.cell? ⟨(b), (o + i * 5 + 1), none⟩ = some (.int .i64 t1) ∧ W'.cell? ⟨(b), (o + i * 5 + 3), none⟩ = some (.int .i64 n1) ∧ W'.cell? ⟨(b), (o), none⟩ = some (.int .i64 f2) ∧ W'.cell? ⟨(b), (o + 1), none⟩ = some (.int .i64 t2) ∧ W'.cell? ⟨(b), (o + 3), none⟩ = some (.int .i64 n2))) hS0 ?_); (have hSB : ∀ W' W'' : World, (Below wr.heap.size wr W' ∧ W'.cell? ⟨(b), (o + i * 5), none⟩ = some (.int .i64 f1) ∧ W'.cell? ⟨(b), (o + i * 5 + 1), none⟩ = some (.int .i64 t1) ∧ W'.cell? ⟨(b), (o + i * 5 + 3), none⟩ = some (.int .i64 n1) ∧ W'.cell? ⟨(b), (o), none⟩ = some (.int .i64 f2) ∧ W'.cell? ⟨(b), (o + 1), none⟩ = some (.int .i64 t2) ∧ W'.cell? ⟨(b), (o + 3), none⟩ = some (.int .i64 n2)) → Below W'.heap.size W' W'' → (Below wr.heap.size wr W'' ∧ W''.cell? ⟨(b), (o + i * 5), none⟩ = some (.int .i64 f1) ∧ W''.cell? ⟨(b), (o + i * 5 + 1), none⟩ = some (.int .i64 t1) ∧ W''.cell? ⟨(b), (o + i * 5 + 3), none⟩ = some (.int .i64 n1) ∧ W''.cell? ⟨(b), (o), none⟩ = some (.int .i64 f2) ∧ W''.cell? ⟨(b), (o + 1), none⟩ = some (.int .i64 t2) ∧ W''.cell? ⟨(b), (o + 3), none⟩ = some (.int .i64 n2)) := fun W' W'' ⟨h0, h1, h2, h3, h4, h5, h6⟩ hb => ⟨h0.trans (hb.mono h0.size), cell_keep h1 hb, cell_keep h2 hb, cell_keep h3 hb, cell_keep h4 hb, cell_keep h5 hb, cell_keep h6 hb⟩); (clear x0 x1 x3 y0 y1 y3); (iterate 33 (first | ((first | (refine chainL_op (by rfl) (by rfl) ?_ ?_ ?_) | (refine chainL_opG (by rfl) (by rfl) ?_ ?_ ?_)); rotate_left; (focus (intro W' hS' K hK; (try simp only [put_some, List.set] at hK); (have hS'' := hS'); (obtain ⟨s0, s1, s2, s3, s4, s5, s6⟩ := hS''); go_simp; (first | exact hK _ hS' (Later.refl _)); done)); (try simp only [put_some, List.set, E1.out])) | ((refine chainL_opU (by rfl) (by rfl) ?_); (try simp only [put_some, List.set])))); (refine chainL_nil ?_))
            refine spineL_op (by rfl) (by rfl) (fun X1 hS1 hL1 K hK => ?_)
            go_simp
            refine hK _ _ (fun _ => hS1) ?_
            (try simp only [put_some, List.set])
            refine spineL_nil fun X2 hL2 hS2 => ?_
            have HI2 := Lib.hid (HI.out.2.trans ((hS2 rfl).1.mono HI.out.2.size))
            clear hS1 hS2 hL1 hL2 hSB hS0 K hK
            go_wp2
            go_ret
            exact ⟨14, rfl, (fun h => by cases h), HI2.out⟩
        · have HNE := Lib.hid (show ∀ j (hj : j < l.length), ∀ h0 : 0 < l.length, l[j].s.head = l[0].s.head from fun j hj h0 => hh j hj h0 (by have := HM.out.1; omega))
          have H1 := Lib.hid hI
          have hlt' : ¬ (i : Int) < (k : Int) := by omega
          clear hi1 hi hh hI HI hlt
          go_wp2
          clear hlt'
          go_loopw [6] (fun iv W => ∃ i : Nat, i ≤ k ∧ iv = .int .i64 i ∧ (∀ a c (ha : a < l.length) (hc : c < l.length), c < a → a < i → l[a].s.idx ≠ l[c].s.idx) ∧ Below w.heap.size w W) (fun iv _ => k - (intOf iv).toNat)
          case atStart => exact ⟨0, Nat.zero_le _, rfl, (fun a c _ _ _ h => absurd h (Nat.not_lt_zero _)), H1.out⟩
          case round =>
            clear H1
            obtain ⟨i, hi, rfl, hd, hI⟩ := hrel
            by_cases hlt : i < k
            · have hlt' : (i : Int) < (k : Int) := by omega
              have hil : i < l.length := by rw [HM.out.1]; exact hlt
              have HD := Lib.hid hd
              have HIW := Lib.hid hI
              have HKM := Lib.hid (show i + 1 ≤ k ∧ k ≤ 1048576 from ⟨hlt, by rw [← HM.out.1]; exact HM.out.2⟩)
              have hk48 : k ≤ 1048576 := HKM.out.2
              have hi48 : i < 1048576 := by omega
              have HIL := Lib.hid hil
              clear hd hI hi hlt hil
              go_wp2
              go_loopw [7] (fun iv W => ∃ c : Nat, c ≤ i ∧ iv = .int .i64 c ∧ (∀ d (hd : d < l.length) (hi : i < l.length), d < c → l[i].s.idx ≠ l[d].s.idx) ∧ Below w.heap.size w W) (fun iv _ => i - (intOf iv).toNat)
              case atStart => exact ⟨0, Nat.zero_le _, rfl, (fun d _ _ h => absurd h (Nat.not_lt_zero _)), HIW.out⟩
              case round =>
                rename_i wq
                obtain ⟨c, hc, rfl, hd, hI⟩ := hrel
                by_cases hlc : c < i
                · have hlc' : (c : Int) < (i : Int) := by omega
                  have hlck : (c : Int) < (k : Int) := by omega
                  have hcl : c < l.length := by have := HIL.out; omega
                  obtain ⟨b, o, rfl, hb, -, -, x2, -, -⟩ := (HS.out wr hI).1.share i HIL.out
                  obtain ⟨b', o', e', -, -, -, y2, -, -⟩ := (HS.out wr hI).1.share c hcl
                  injection e' with e'
                  injection e' with e1 e2
                  subst e1 e2
                  have HDN := Lib.hid (fun (q : l[i].s.idx ≠ l[c].s.idx) d (hdl : d < l.length) (hi : i < l.length) (hdc : d < c + 1) => show l[i].s.idx ≠ l[d].s.idx from by
                    by_cases hd2 : d < c
                    · exact hd d hdl hi hd2
                    · obtain rfl : d = c := by omega
                      exact q)
                  have HI := Lib.hid hI
                  have HCI := Lib.hid (show c + 1 ≤ i from hlc)
                  generalize l[i].s.idx = i1 at *
                  generalize l[c].s.idx = i2 at *
                  clear hI hd hc hlc hb hcl
                  go_wp2_with fail
                  ((have hS0 : (Below wr.heap.size wr wr.drew ∧ wr.drew.cell? ⟨(b), (o + i * 5 + 2), none⟩ = some (.int .i64 i1) ∧ wr.drew.cell? ⟨(b), (o + c * 5 + 2), none⟩ = some (.int .i64 i2)) := ⟨((Below.refl _ wr)).drew, x2, y2⟩); (refine region_later (by kernel_rfl) [10] [0, 1, 2, 3, 4, 5, 6, 7, 8, 9] true (by kernel_rfl) (by kernel_rfl) (fun W' => (Below wr.heap.size wr W' ∧ W'.cell? ⟨(b), (o + i * 5 + 2), none⟩ = some (.int .i64 i1) ∧ W'.cell? ⟨(b), (o + c * 5 + 2), none⟩ = some (.int .i64 i2))) hS0 ?_); (have hSB : ∀ W' W'' : World, (Below wr.heap.size wr W' ∧ W'.cell? ⟨(b), (o + i * 5 + 2), none⟩ = some (.int .i64 i1) ∧ W'.cell? ⟨(b), (o + c * 5 + 2), none⟩ = some (.int .i64 i2)) → Below W'.heap.size W' W'' → (Below wr.heap.size wr W'' ∧ W''.cell? ⟨(b), (o + i * 5 + 2), none⟩ = some (.int .i64 i1) ∧ W''.cell? ⟨(b), (o + c * 5 + 2), none⟩ = some (.int .i64 i2)) := fun W' W'' ⟨h0, h1, h2⟩ hb => ⟨h0.trans (hb.mono h0.size), cell_keep h1 hb, cell_keep h2 hb⟩); (clear x2 y2); (iterate 10 (refine chainL_op (by rfl) (by rfl) ?_ ?_ ?_; rotate_left; (focus (intro W' hS' K hK; (try simp only [put_some, List.set] at hK); (have hS'' := hS'); (obtain ⟨s0, s1, s2⟩ := hS''); go_simp; (first | exact hK _ hS' (Later.refl _)); done)); (try simp only [put_some, List.set]))); (refine chainL_nil ?_))
                  refine spineL_op (by rfl) (by rfl) (fun X1 hS1 hL1 K hK => ?_)
                  go_simp
                  refine hK _ _ (fun _ => hS1) ?_
                  (try simp only [put_some, List.set])
                  refine spineL_nil fun X2 hL2 hS2 => ?_
                  have HI2 := Lib.hid (HI.out.trans ((hS2 rfl).1.mono HI.out.size))
                  clear hS1 hS2 hL1 hL2 hSB hS0 K hK
                  by_cases hq : i1 = i2
                  · have hq' : (i1 == i2) = true := by simpa using hq
                    clear hq
                    go_wp2
                    go_ret
                    exact ⟨15, rfl, (fun h => by cases h), HI2.out⟩
                  · have hq' : (i1 == i2) = false := by simpa using hq
                    have HDD := Lib.hid (HDN.out hq)
                    clear hq
                    go_wp2
                    go_roundw
                    case rel => exact ⟨c + 1, HCI.out, by go_num, HDD.out, HI2.out⟩
                    case measure => (first | (simp [intOf]; done) | (simp [intOf]; omega))
                · obtain rfl : c = i := by omega
                  have hlc' : ¬ (c : Int) < (c : Int) := by omega
                  have HDD := Lib.hid (show ∀ a d (ha : a < l.length) (hd : d < l.length), d < a → a < c + 1 → l[a].s.idx ≠ l[d].s.idx from fun a d ha hdl hda hac => by
                    by_cases h2 : a < c
                    · exact HD.out a d ha hdl hda h2
                    · obtain rfl : a = c := by omega
                      exact hd d hdl ha hda)
                  have HI := Lib.hid hI
                  clear hc hlc hd hI
                  go_wp2
                  go_roundw
                  case rel => exact ⟨c + 1, HKM.out.1, by go_num, HDD.out, HI.out⟩
                  case measure => (first | (simp [intOf]; done) | (simp [intOf]; omega))
            · obtain rfl : i = k := by omega
              have hlt' : ¬ (i : Int) < (i : Int) := by omega
              have HD := Lib.hid (show ∀ a c (ha : a < l.length) (hc : c < l.length), c < a → l[a].s.idx ≠ l[c].s.idx from fun a c ha hc hca => hd a c ha hc hca (by rw [← HM.out.1]; exact ha))
              have HI := Lib.hid hI
              clear hd hI hi hlt
              by_cases h0 : i = 0
              · have h0' : ((i : Int) == 0) = true := by simp [h0]
                clear h0
                go_wp2
                go_ret
                exact ⟨16, rfl, (fun h => by cases h), HI.out⟩
              · have h0' : ((i : Int) == 0) = false := by simpa using h0
                have hpos : 0 < i := by omega
                have h0l : 0 < l.length := by rw [HM.out.1]; omega
                obtain ⟨b, o, rfl, -, -, y1, -, -, -⟩ := (HS.out wr HI.out).1.share 0 h0l
                rw [Nat.zero_mul, Nat.add_zero] at y1
                have HFF := Lib.hid (fun (q : l[0].s.thr ≤ (i : Int)) => HQ.out (by omega) (fun j hj h0 => HNE.out j hj h0) (fun a c ha hc hca => HD.out a c ha hc hca) (fun _ => q))
                generalize l[0].s.thr = t2 at *
                clear h0 h0l
                by_cases hq : t2 ≤ (i : Int)
                · have hq' : ¬ ((i : Int) < t2) := by omega
                  have HFL := Lib.hid (HFF.out hq)
                  clear hq
                  go_wp2
                  go_ret
                  exact ⟨0, rfl, (fun _ => HFL.out), HI.out⟩
                · have hq' : ((i : Int) < t2) := by omega
                  clear hq
                  go_wp2
                  go_ret
                  exact ⟨16, rfl, (fun h => by cases h), HI.out⟩
end Go.Proofs.YtccgfladbibjbaaGreatDoor
namespace Go.Proofs.YtccgfladbibjbaaGreatDoor
open Go.RowKit
theorem shsV_take (s : Sh) (r : List Sh) (t : Nat) (h0 : 0 < t) (ht : s.thr.toNat ≤ t) : shsV ((s :: r).take t) = shsV (s :: r) := by
 obtain ⟨k, rfl⟩ : ∃ k, t = k + 1 := ⟨t - 1, by omega⟩
 rw [List.take_succ_cons]
 unfold shsV
 simp only []
 rw [← List.take_succ_cons, List.take_take, Nat.min_eq_left ht]
theorem shsE_take (s : Sh) (r : List Sh) (t : Nat) (h0 : 0 < t) (ht : s.thr.toNat ≤ t) : shsE ((s :: r).take t) = shsE (s :: r) ∧ shsB ((s :: r).take t) = shsB (s :: r) := by
 have h := shsV_take s r t h0 ht
 obtain ⟨k, rfl⟩ : ∃ k, t = k + 1 := ⟨t - 1, by omega⟩
 rw [List.take_succ_cons] at h ⊢
 unfold shsE shsB
 simp only []
 rw [h]
 exact ⟨rfl, rfl⟩
theorem OkShs.take {ss : List Sh} (h : OkShs ss) (t : Nat) (ht : ∀ x ∈ ss, x.thr = (t : Int)) : OkShs (ss.take t) := by
 have hne := h.ne
 obtain ⟨x, hx⟩ : ∃ x, x ∈ ss := List.exists_mem_of_length_pos hne
 have h1 := (checkE_ok (h.ok x hx)).2.1
 have h2 := h.few x hx
 have h3 := ht x hx
 have hl : (ss.take t).length = t := by rw [List.length_take]; omega
 refine ⟨by omega, fun y hy => h.ok y (List.mem_of_mem_take hy), fun y hy z hz => h.same y (List.mem_of_mem_take hy) z (List.mem_of_mem_take hz), ?_, fun y hy => ?_⟩
 ·rw [List.map_take]
  exact List.Pairwise.sublist (List.take_sublist _ _) h.nodup
 ·rw [hl, ht y (List.mem_of_mem_take hy)]
  exact Int.le_refl _
theorem ok_recs (bs : List BA) (hne : 0 < bs.length) (h0 : ∀ x ∈ bs, recE x.l = 0) (hs : ∀ x ∈ recsV bs, ∀ y ∈ recsV bs, x.head = y.head) (hd : ((recsV bs).map Sh.idx).Nodup) (hf : ∀ x ∈ recsV bs, x.thr ≤ bs.length) : OkShs (recsV bs) := by
 have hl : (recsV bs).length = bs.length := by unfold recsV; rw [List.length_map]
 refine ⟨by omega, fun x hx => ?_, hs, hd, fun x hx => by rw [hl]; exact hf x hx⟩
 unfold recsV at hx
 obtain ⟨y, hy, rfl⟩ := List.mem_map.1 hx
 exact (rec_forth y.l (h0 y hy)).1
theorem first_ones (bs : List BA) (hok : OkShs (recsV bs)) (t : Nat) (ht : ∀ x ∈ recsV bs, x.thr = (t : Int)) : OkShs (recsV (bs.take t)) ∧ shsE (recsV (bs.take t)) = shsE (recsV bs) ∧ shsB (recsV (bs.take t)) = shsB (recsV bs) := by
 have e : recsV (bs.take t) = (recsV bs).take t := by unfold recsV; rw [List.map_take]
 rw [e]
 refine ⟨hok.take t ht, ?_⟩
 have hne := hok.ne
 obtain ⟨x, hx⟩ : ∃ x, x ∈ recsV bs := List.exists_mem_of_length_pos hne
 have h1 := (checkE_ok (hok.ok x hx)).2.1
 have h2 := ht x hx
 cases hq : recsV bs with
 | nil => rw [hq] at hne; simp at hne
 | cons s r =>
  have h3 := ht s (by rw [hq]; simp)
  exact shsE_take s r t (by omega) (by omega)
end Go.Proofs.YtccgfladbibjbaaGreatDoor
namespace Go.Proofs.YtccgfladbibjbaaGreatDoor
open Go.RowKit Go.Shelf
attribute [local go_sem ↓] add_UU sub_UU mul_UU add_UL add_LU sub_UL sub_LU mul_UL neg_at not_at and_UU or_UU xor_UU andNot_UU and_UL or_LU shr_UL shl_UL shr_UN shl_UN shl_LN quo_UL rem_UL quo_UU rem_UU
attribute [local go_sem] wrap64_N wrapi_mod wrap8_U wrap32_U wrap64_B wrap32_B wrap8_D wrapi_B wrap64_UU eq_UU ne_UU eq_UL ne_UL lt_UU le_UU
attribute [local simp] putAgg_size
attribute [local go_sem ↓] loadVar_F loadVar_E loadVar_V loadVar_B32 storeVar_F storeVar_E storeVar_V storeVar_B32 box_F box_E box_V box_B32
attribute [local go_sem ↓ high] V4.cells_val FP.cells_val
attribute [local go_sem] run_loadF run_loadE run_loadV run_loadB32 run_storeF run_storeE run_storeV run_storeB32 run_boxA aggAt_drew aggAt_drewN aggAt_alloc_new aggAt_alloc_past aggAt_setCell_other aggAt_putAgg_other aggAt_putAgg_new putAgg_drew putAgg_size putAgg_alloc_new putAgg_alloc_past putAgg_cell_other putAgg_frozen_other V4.agg_arr FP.agg_arr V4.size_arr FP.size_arr V4.fits FP.fits fitsA_agg4 lt_2 ne_2 en_2 lt_3 ne_3 en_3 lt_4 ne_4 en_4 lt_5 ne_5 en_5 lt_6 ne_6 en_6
set_option maxRecDepth 20000 in
set_option maxHeartbeats 1000000 in
theorem topLarge (R : Option Addr) (cap : Nat) (bs : List BA) (w : World) (hS : SeesR w R bs) :
  Calls Tryz.prog 13 #[.slice R bs.length cap] w fun e w' => ∃ r : Int, e = .returned (.int .i64 r) ∧ (r = 0 ∨ r = 1) ∧ (r = 0 → bs.length ≤ 8 ∧ ∀ x ∈ bs, x.l.length ≤ 166) ∧ Below w.heap.size w w' := by
 obtain ⟨n, hn⟩ : ∃ n, bs.length = n := ⟨_, rfl⟩
 have HN := Lib.hid hn
 have HS := Lib.hid (fun W (hW : Below w.heap.size w W) => hS.below hW)
 rw [hn]
 clear hn hS
 by_cases h8 : (8 : Int) < (n : Int)
 ·go_enter Tryz.func13, Tryz.ntmps13
  go_wp2
  go_ret
  exact ⟨1, rfl, .inr rfl, (fun h => by cases h), Below.refl _ _⟩
 ·have h8n : n ≤ 8 := by omega
  go_enter Tryz.func13, Tryz.ntmps13
  go_wp2
  go_loopw [10] (fun iv W => ∃ k : Nat, k ≤ n ∧ iv = .int .i64 k ∧ (∀ j (hj : j < bs.length), j < k → bs[j].l.length ≤ 166) ∧ W = w) (fun iv _ => n - (intOf iv).toNat)
  case atStart => exact ⟨0, Nat.zero_le _, rfl, (fun j _ h => absurd h (Nat.not_lt_zero _)), rfl⟩
  case round =>
   obtain ⟨k, hk, rfl, hd, rfl⟩ := hrel
   by_cases hlt : k < n
   ·have hlt' : (k : Int) < (n : Int) := by omega
    have hkb : k < bs.length := by rw [HN.out]; exact hlt
    obtain ⟨b, o, rfl, -, hc, -, -⟩ := (HS.out _ (Below.refl _ _)).at k hkb
    have HX := Lib.hid (fun (q : bs[k].l.length ≤ 166) j (hj : j < bs.length) (hji : j < k + 1) => show bs[j].l.length ≤ 166 from by
     by_cases hj2 : j < k
     ·exact hd j hj hj2
     ·obtain rfl : j = k := by omega
      exact q)
    unfold BA.val at hc
    have HK := Lib.hid (show k + 1 ≤ n from hlt)
    generalize bs[k].l.length = z at *
    generalize bs[k].A = A at *
    generalize bs[k].cap = c at *
    have hk8 : k < 8 := by omega
    clear hd hk hlt hkb
    by_cases hz : (166 : Int) < (z : Int)
    ·go_wp2
     go_ret
     exact ⟨1, rfl, .inr rfl, (fun h => by cases h), Below.refl _ _⟩
    ·have HXX := Lib.hid (HX.out (by omega))
     go_wp2
     go_roundw
     case rel => exact ⟨k + 1, HK.out, by go_num, HXX.out, trivial⟩
     case measure => (first | (simp [intOf]; done) | (simp [intOf]; omega))
   ·obtain rfl : k = n := by omega
    have hlt' : ¬ (k : Int) < (k : Int) := by omega
    have HD := Lib.hid (show ∀ x ∈ bs, x.l.length ≤ 166 from fun x hx => by
     obtain ⟨j, hj, rfl⟩ := List.getElem_of_mem hx
     exact hd j hj (by rw [← HN.out]; exact hj))
    clear hd hk hlt
    go_wp2
    go_ret
    first | exact ⟨0, rfl, .inl rfl, (fun _ => ⟨h8n, HD.out⟩), Below.refl _ _⟩ | exact ⟨0, rfl, .inl rfl, (fun _ => HD.out), Below.refl _ _⟩
theorem FitL.of {a b : List Sh} (h : a.map Sh.hd4 = b.map Sh.hd4) (hf : FitL a) : 0 < b.length ∧ (∀ x ∈ b, ∀ y ∈ b, x.head = y.head) ∧ (b.map Sh.idx).Nodup ∧ ∀ x ∈ b, x.thr ≤ b.length := by
 have hl : a.length = b.length := by have := congrArg List.length h; rwa [List.length_map, List.length_map] at this
 have hg : ∀ i (ha : i < a.length) (hb : i < b.length), b[i].head = a[i].head ∧ b[i].idx = a[i].idx ∧ b[i].thr = a[i].thr := fun i ha hb => by
  have := congrArg (fun q => q[i]?) h
  simp only [List.getElem?_map, List.getElem?_eq_getElem ha, List.getElem?_eq_getElem hb, Option.map_some, Option.some.injEq] at this
  unfold Sh.hd4 at this
  simp only [Prod.mk.injEq] at this
  unfold Sh.head
  rw [this.1, this.2.1, this.2.2.1, this.2.2.2]
  exact ⟨rfl, rfl, rfl⟩
 have hne := hf.ne
 have h0 : ∀ x ∈ b, x.head = a[0].head := fun x hx => by
  obtain ⟨i, hi, rfl⟩ := List.getElem_of_mem hx
  rw [(hg i (by omega) hi).1]
  exact hf.same i (by omega)
 refine ⟨by omega, fun x hx y hy => (h0 x hx).trans (h0 y hy).symm, ?_, fun x hx => ?_⟩
 ·refine List.nodup_iff_pairwise_ne.2 (List.pairwise_iff_getElem.2 fun i j hi hj hij => ?_)
  rw [List.length_map] at hi hj
  rw [List.getElem_map, List.getElem_map, (hg i (by omega) hi).2.1, (hg j (by omega) hj).2.1]
  exact fun e => hf.dif j i (by omega) (by omega) hij e.symm
 ·have h1 := h0 x hx
  unfold Sh.head at h1
  simp only [Prod.mk.injEq] at h1
  rw [h1.2.1, ← hl]
  exact hf.few
structure RdA (w : World) (bs : List BA) (k : Nat) (v : Value) (W : World) : Prop where
 L : ∃ L : List ShA, OwnS W w.heap.size v L ∧ (L.map ShA.s).map Sh.hd4 = (recsV (bs.take k)).map Sh.hd4 ∧ ∀ x ∈ L, FitH x.s
 Z : ∀ x ∈ bs.take k, recE x.l = 0
 B : Below w.heap.size w W
theorem recs_succ (bs : List BA) (k : Nat) (h : k < bs.length) : recsV (bs.take (k + 1)) = recsV (bs.take k) ++ [recS bs[k].l] := by
 unfold recsV
 rw [List.take_add_one, List.getElem?_eq_getElem h, List.map_append]
 rfl
set_option maxRecDepth 100000 in
set_option maxHeartbeats 4000000 in
theorem refDec20 (R : Option Addr) (cap : Nat) (bs : List BA) (hn : bs.length ≤ 1048576) (hlen : ∀ x ∈ bs, x.l.length ≤ 1073741824) (w : World) (hS : SeesR w R bs) :
  Calls Tryz.prog 14 #[.slice R bs.length cap] w fun e w' => ∃ (v : Value) (r : Int), e = .returned (.tuple #[v, .int .i64 r]) ∧ (r = 0 → OkShs (recsV bs) ∧ (∀ x ∈ bs, recE x.l = 0) ∧ ∃ A c L, v = .slice A bs.length c ∧ SeesS w' A L ∧ (L.map ShA.s).map Sh.hd4 = (recsV bs).map Sh.hd4) ∧ Below w.heap.size w w' := by
 obtain ⟨i0, hi0, ia0, ia1, ia2⟩ := info_parts info_S
 obtain ⟨n, hnn⟩ : ∃ n, bs.length = n := ⟨_, rfl⟩
 have HN := Lib.hid (And.intro hnn hn)
 have HS := Lib.hid (fun W (hW : Below w.heap.size w W) => hS.below hW)
 have HL := Lib.hid hlen
 rw [hnn] at hn ⊢
 clear hnn hS hlen
 go_enter Tryz.func14, Tryz.ntmps14
 go_wp2
 go_loopw [4, 5] (fun v iv W => ∃ k : Nat, k ≤ n ∧ iv = .int .i64 k ∧ RdA w bs k v W) (fun _ iv _ => n - (intOf iv).toNat)
 case atStart => exact ⟨0, Nat.zero_le _, rfl, ⟨[], ownS_nil _ _, rfl, by simp⟩, by simp, Below.refl _ _⟩
 case round =>
  obtain ⟨k, hk, rfl, hI⟩ := hrel
  have HI := Lib.hid hI
  by_cases hlt : k < n
  ·have hlt' : (k : Int) < (n : Int) := by omega
   have hkb : k < bs.length := by rw [HN.out.1]; exact hlt
   obtain ⟨b, o, rfl, -, hc, hsx, hcx⟩ := (HS.out _ hI.B).at k hkb
   have hm := List.getElem_mem hkb
   have HD := Lib.hid (refDec19 bs[k].A bs[k].cap bs[k].l (HL.out _ hm) hcx wr hsx)
   have HZ := Lib.hid (fun (q : recE bs[k].l = 0) => show ∀ x ∈ bs.take (k + 1), recE x.l = 0 from fun x hx => by
    rw [List.take_add_one, List.getElem?_eq_getElem hkb] at hx
    rcases List.mem_append.1 hx with hx | hx
    ·exact HI.out.Z x hx
    ·simp at hx
     rw [hx]; exact q)
   have HF := Lib.hid (fun (q : recE bs[k].l = 0) => And.intro (rec_forth bs[k].l q).1 (show (recS bs[k].l).hd4 = (hdr bs[k].l 1, hdr bs[k].l 2, hdr bs[k].l 3, recLen bs[k].l) from by unfold recS; rw [if_pos q]; rfl))
   have HRS := Lib.hid (recs_succ bs k hkb)
   have HK := Lib.hid (show k + 1 ≤ n from hlt)
   unfold BA.val at hc
   generalize bs[k] = x at *
   obtain ⟨xA, xc, xl⟩ := x
   simp only [] at hc HD HZ HF HRS
   clear hI hsx hcx hm hkb hk hlt
   go_wp2_with fail
   refine HD.out.mono ?_
   rintro e w1 ⟨X, rfl, hX, hO, hb⟩
   have HX := Lib.hid hX
   have HO := Lib.hid hO
   have HB := Lib.hid hb
   clear hX hO hb hc HD
   by_cases hz : recE xl = 0
   ·have HXX := Lib.hid (HX.out hz)
    have HZZ := Lib.hid (HZ.out hz)
    have HFF := Lib.hid (HF.out hz)
    rw [hz]
    clear HX HZ HF hz
    obtain ⟨⟨fd, th, ix, ln, P⟩, XA, Xc⟩ := X
    unfold Sh.val Sh.cells
    simp only [] at *
    go_upto_region 8 with (fail)
    (obtain ⟨W2, hW2⟩ : ∃ W0 : World, W0 = (w1).alloc (.cells #[.int .i64 fd, .int .i64 th, .int .i64 ix, .int .i64 ln, .slice XA P.length Xc] 26) := ⟨_, rfl⟩); (have gW2 : ∀ (j : Nat) (o : Obj), ([Obj.cells #[.int .i64 fd, .int .i64 th, .int .i64 ix, .int .i64 ln, .slice XA P.length Xc] 26] : List Obj)[j]? = some o → W2.heap[w1.heap.size + j]? = some o := by rw [hW2]; exact allocs_get w1 _); (have zW2 : W2.heap.size = w1.heap.size + 1 := by rw [hW2]; exact allocs_size w1 [Obj.cells #[.int .i64 fd, .int .i64 th, .int .i64 ix, .int .i64 ln, .slice XA P.length Xc] 26]); (have bW2 : Below w1.heap.size w1 W2 := by rw [hW2]; exact allocs_below w1 [Obj.cells #[.int .i64 fd, .int .i64 th, .int .i64 ix, .int .i64 ln, .slice XA P.length Xc] 26]); (rw [← hW2]); (clear hW2)
    have g2 : W2.heap[w1.heap.size]? = some (.cells #[.int .i64 fd, .int .i64 th, .int .i64 ix, .int .i64 ln, .slice XA P.length Xc] 26 (0, 0)) := gW2 0 _ rfl
    obtain ⟨L, hLo, hLm, hLf⟩ := HI.out.L
    have hBw := HI.out.B
    have hB1 := hBw.trans (HB.out.mono hBw.size)
    have hB2 := hB1.trans (bW2.mono hB1.size)
    have hL2 := (hLo.below HB.out).below bW2
    have hX2 := (HO.out.base_le hBw.size).below bW2
    have hl0 : L.length = k := by
     have h1 := congrArg List.length hLm
     unfold recsV at h1
     simp only [List.length_map, List.length_take] at h1
     have := HN.out.1
     have := HK.out
     omega
    obtain ⟨d0, d1, d2, d3, d4⟩ : W2.cell? ⟨w1.heap.size, 0, none⟩ = some (.int .i64 fd) ∧ W2.cell? ⟨w1.heap.size, 1, none⟩ = some (.int .i64 th) ∧ W2.cell? ⟨w1.heap.size, 2, none⟩ = some (.int .i64 ix) ∧ W2.cell? ⟨w1.heap.size, 3, none⟩ = some (.int .i64 ln) ∧ W2.cell? ⟨w1.heap.size, 4, none⟩ = some (.slice XA P.length Xc) :=
     ⟨row_cell (cs := [_, _, _, _, _]) g2 0 rfl, row_cell (cs := [_, _, _, _, _]) g2 1 rfl, row_cell (cs := [_, _, _, _, _]) g2 2 rfl, row_cell (cs := [_, _, _, _, _]) g2 3 rfl, row_cell (cs := [_, _, _, _, _]) g2 4 rfl⟩
    obtain ⟨x, hx⟩ : ∃ x : ShA, x = ⟨⟨fd, th, ix, ln, P⟩, XA, Xc⟩ := ⟨_, rfl⟩
    have hxc : x.cells = #[.int .i64 fd, .int .i64 th, .int .i64 ix, .int .i64 ln, .slice XA P.length Xc] := by rw [hx]; rfl
    obtain ⟨wx, hwx⟩ : ∃ wx, wx = W2.alloc (.cells #[.int .i64 fd, .int .i64 th, .int .i64 ix, .int .i64 ln, .slice XA P.length Xc] 26) := ⟨_, rfl⟩
    have hbx : Below W2.heap.size W2 wx := by rw [hwx]; exact (Below.refl _ _).alloc (Nat.le_refl _) _
    have hNx : Sees wx (some ⟨W2.heap.size, 0, none⟩) x.cells.toList := by
     rw [hxc, hwx]
     exact row_sees (cs := [_, _, _, _, _]) (heap_alloc_new W2 _)
    have hEx : OwnE wx w.heap.size x.pv x.s.pay := by rw [hx]; exact hX2.below hbx
    have hBx := hB2.trans (hbx.mono hB2.size)
    have hzx : w.heap.size ≤ wx.heap.size := hBx.size
    have h1x : ∀ u ∈ x.cells.toList, u.oneCell' = true := by
     have := shVals_one [x]
     rwa [shVals, shVals, List.append_nil] at this
    have HQ := Lib.hid (And.intro (hL2.below hbx) (And.intro hEx (And.intro hNx (And.intro hBx (And.intro hx (And.intro hLm hLf))))))
    have hkk : k < 1048576 := by have := HK.out; omega
    clear g2 hLo hLm hLf hBw hB1 hB2 hL2 hX2 hbx hNx hEx hBx hx gW2 zW2 bW2 HI HB HO
    go_wp2_with (at_builtin; rw [← hwx]; refine wpList_append_sees rfl (.tmp 26) (.tmp 28) 39 rfl w.heap.size 26 i0 _ 5 56 Tryz.underlying39 hi0 ia0 ia1 ia2 rfl (by decide) u4 L.length (shVals L) rfl HQ.out.1.R (some ⟨W2.heap.size, 0, none⟩) 1 1 x.cells.toList rfl (by rw [hxc]; rfl) HQ.out.2.2.1 h1x (by unfold maxLen; omega) (by omega) hzx ?_)
    intro v' w4 hown hg _
    rw [← hwx] at hg
    have hown : w4.ownsRow w.heap.size 26 5 v' (L.length + 1) (shVals L ++ x.cells.toList) := by rw [hl0, hxc]; exact hown
    have HN2 := Lib.hid (show RdA w bs (k + 1) v' w4 from ⟨⟨L ++ [x], HQ.out.1.grew HQ.out.2.1 hg hown, by
     rw [HRS.out, List.map_append, List.map_append, List.map_append, HQ.out.2.2.2.2.2.1, HQ.out.2.2.2.2.1]
     congr 1
     simp only [List.map_cons, List.map_nil]
     rw [HFF.out.2]
     unfold Sh.hd4
     simp only []
     rw [HXX.out.1, HXX.out.2.1, HXX.out.2.2.1, HXX.out.2.2.2.1], fun y hy => by
     rcases List.mem_append.1 hy with hy | hy
     ·exact HQ.out.2.2.2.2.2.2 y hy
     ·simp at hy
      rw [hy, HQ.out.2.2.2.2.1]
      obtain ⟨c1, c2, c3, c4, c5, c6⟩ := checkE_ok HFF.out.1
      have hd := HFF.out.2
      unfold Sh.hd4 at hd
      simp only [Prod.mk.injEq] at hd
      rw [hd.1] at c1
      rw [hd.2.1] at c2
      rw [hd.2.2.1] at c3
      rw [hd.2.2.2] at c4
      exact ⟨by rw [HXX.out.1]; exact c1, by rw [HXX.out.2.1]; exact c2, by rw [HXX.out.2.2.1]; exact c3, by rw [HXX.out.2.2.2.1]; exact c4, by rw [HXX.out.2.2.2.1]; exact HXX.out.2.2.2.2⟩⟩, HZZ.out, HQ.out.2.2.2.1.grown hg HQ.out.2.2.2.1.size (fun j e => (HQ.out.1.lt j e).1)⟩)
    clear hown hg HQ hwx d0 d1 d2 d3 d4
    go_wp2
    go_roundw
    case rel => exact ⟨k + 1, HK.out, by go_num, HN2.out⟩
    case measure => (first | (simp [intOf]; done) | (simp [intOf]; omega))
   ·have HNZ := Lib.hid hz
    obtain ⟨ee, hee⟩ : ∃ ee, recE xl = ee := ⟨_, rfl⟩
    rw [hee] at HNZ ⊢
    have hne : (ee != 0) = true := by simpa using HNZ.out
    have HB1 := Lib.hid (HI.out.B.trans (HB.out.mono HI.out.B.size))
    clear hz hee HX HZ HF HI HB HO
    obtain ⟨⟨fd, th, ix, ln, P⟩, XA, Xc⟩ := X
    unfold Sh.val Sh.cells
    simp only []
    go_upto_region 7 with (fail)
    (obtain ⟨W2, hW2⟩ : ∃ W0 : World, W0 = (w1).alloc (.cells #[.int .i64 fd, .int .i64 th, .int .i64 ix, .int .i64 ln, .slice XA P.length Xc] 26) := ⟨_, rfl⟩); (have gW2 : ∀ (j : Nat) (o : Obj), ([Obj.cells #[.int .i64 fd, .int .i64 th, .int .i64 ix, .int .i64 ln, .slice XA P.length Xc] 26] : List Obj)[j]? = some o → W2.heap[w1.heap.size + j]? = some o := by rw [hW2]; exact allocs_get w1 _); (have zW2 : W2.heap.size = w1.heap.size + 1 := by rw [hW2]; exact allocs_size w1 [Obj.cells #[.int .i64 fd, .int .i64 th, .int .i64 ix, .int .i64 ln, .slice XA P.length Xc] 26]); (have bW2 : Below w1.heap.size w1 W2 := by rw [hW2]; exact allocs_below w1 [Obj.cells #[.int .i64 fd, .int .i64 th, .int .i64 ix, .int .i64 ln, .slice XA P.length Xc] 26]); (rw [← hW2]); (clear hW2)
    have HB2 := Lib.hid (HB1.out.trans (bW2.mono HB1.out.size))
    clear gW2 zW2 bW2
    go_wp2
    go_ret2
    exact ⟨_, ee, rfl, (fun h => absurd h HNZ.out), HB2.out⟩
  ·obtain rfl : k = n := by omega
   have hlt' : ¬ (k : Int) < (k : Int) := by omega
   obtain ⟨L, hLo, hLm, hLf⟩ := HI.out.L
   have htk : bs.take k = bs := by rw [← HN.out.1]; exact List.take_length
   rw [htk] at hLm
   obtain ⟨A', c', hv, hcc, hSS⟩ := hLo.open
   have hl0 : L.length = k := by
    have h1 := congrArg List.length hLm
    unfold recsV at h1
    simp only [List.length_map] at h1
    have := HN.out.1
    omega
   have HCS := Lib.hid (refCheckShares A' c' L (by omega) hLf wr hSS)
   rw [hl0] at HCS hv
   have HZ := Lib.hid (show ∀ x ∈ bs, recE x.l = 0 from by have := HI.out.Z; rwa [htk] at this)
   have HB := Lib.hid HI.out.B
   have HLL := Lib.hid (fun W (hW : Below wr.heap.size wr W) => And.intro (hSS.below hW) hLm)
   subst hv
   clear hI HI hLo hLm hLf htk hcc hSS hl0 hk hlt
   go_wp2_with fail
   refine HCS.out.mono ?_
   rintro e w2 ⟨r, rfl, hfit, hb⟩
   have HB2 := Lib.hid (HB.out.trans (hb.mono HB.out.size))
   have HL2 := Lib.hid (HLL.out _ hb)
   have HFit := Lib.hid hfit
   clear hb hfit HB HLL HCS hlt'
   by_cases hr : r = 0
   ·have HOk := Lib.hid (show OkShs (recsV bs) from by
     obtain ⟨f1, f2, f3, f4⟩ := FitL.of HL2.out.2 (HFit.out hr)
     have hl : (recsV bs).length = bs.length := by unfold recsV; rw [List.length_map]
     exact ok_recs bs (by omega) HZ.out f2 f3 (fun x hx => by rw [← hl]; exact f4 x hx))
    subst hr
    clear HFit
    go_wp2
    go_ret2
    exact ⟨_, 0, rfl, (fun _ => ⟨HOk.out, HZ.out, A', c', L, rfl, HL2.out⟩), HB2.out⟩
   ·have hr' : (r != 0) = true := by simpa using hr
    have HR := Lib.hid hr
    clear hr
    go_wp2
    go_ret2
    exact ⟨_, r, rfl, (fun h => absurd h HR.out), HB2.out⟩
end Go.Proofs.YtccgfladbibjbaaGreatDoor
