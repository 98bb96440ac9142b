/- Shares, and params.CheckShare. -/
import Derived.Test.YtccgfladbibjbaaGreatDoorKG18
import Derived.Test.YtccgfladbibjbaaGreatDoorKG02
import Derived.Laws.OwnMore
namespace Go.Proofs.YtccgfladbibjbaaGreatDoor
open Go.RowKit
attribute [local go_sem ↓] add_UU sub_UU mul_UU add_UL add_LU sub_UL sub_LU mul_UL neg_at not_at and_UU or_UU xor_UU andNot_UU and_UL or_LU shr_UL shl_UL shr_UN shl_UN shl_LN quo_UL rem_UL quo_UU rem_UU
attribute [local go_sem] wrap64_N wrapi_mod wrap8_U wrap32_U wrap64_B wrap32_B wrap8_D wrapi_B wrap64_UU eq_UU ne_UU eq_UL ne_UL lt_UU le_UU
attribute [local simp] putAgg_size
attribute [local go_sem ↓] loadVar_F loadVar_E loadVar_V loadVar_B32 storeVar_F storeVar_E storeVar_V storeVar_B32 box_F box_E box_V box_B32
attribute [local go_sem ↓ high] V4.cells_val FP.cells_val
attribute [local go_sem] run_loadF run_loadE run_loadV run_loadB32 run_storeF run_storeE run_storeV run_storeB32 run_boxA aggAt_drew aggAt_drewN aggAt_alloc_new aggAt_alloc_past aggAt_setCell_other aggAt_putAgg_other aggAt_putAgg_new putAgg_drew putAgg_size putAgg_alloc_new putAgg_alloc_past putAgg_cell_other putAgg_frozen_other V4.agg_arr FP.agg_arr V4.size_arr FP.size_arr V4.fits FP.fits fitsA_agg4 lt_2 ne_2 en_2 lt_3 ne_3 en_3 lt_4 ne_4 en_4 lt_5 ne_5 en_5 lt_6 ne_6 en_6
def eVals : List V4 → List Value
 | [] => []
 | v :: r => .int .u64 (U v.x0) :: .int .u64 (U v.x1) :: .int .u64 (U v.x2) :: .int .u64 (U v.x3) :: eVals r
theorem eVals_length : ∀ l : List V4, (eVals l).length = l.length * 4
 | [] => rfl
 | v :: r => by simp only [eVals, List.length_cons, eVals_length r]; omega
theorem eVals_append : ∀ a b : List V4, eVals (a ++ b) = eVals a ++ eVals b
 | [], b => rfl
 | v :: r, b => by simp only [List.cons_append, eVals, eVals_append r b]
theorem eVals_one : ∀ (l : List V4), ∀ u ∈ eVals l, u.oneCell' = true
 | [], u, h => by cases h
 | v :: r, u, h => by
  simp only [eVals, List.mem_cons] at h
  rcases h with rfl | rfl | rfl | rfl | h
  ·rfl
  ·rfl
  ·rfl
  ·rfl
  ·exact eVals_one r u h
theorem eVals_get : ∀ (l : List V4) (k j : Nat) (h : k < l.length), j < 4 → (eVals l)[k * 4 + j]? = (l[k]).arr[j]?
 | v :: r, 0, j, _, hj => by
  match j, hj with
  | 0, _ => rfl
  | 1, _ => rfl
  | 2, _ => rfl
  | 3, _ => rfl
 | v :: r, k + 1, j, h, hj => by
  rw [show (k + 1) * 4 + j = (k * 4 + j) + 1 + 1 + 1 + 1 from by omega, eVals]
  simp only [List.getElem?_cons_succ, List.getElem_cons_succ]
  exact eVals_get r k j (by simpa using h) hj
theorem range_E (b o : Nat) (v : V4) {w : World} (hc : w.rangeAt b o v.arr.toList) : (loadA 50 4 ⟨b, o, none⟩).run Tryz.prog w = .ok v.val w :=
 run_loadVar_mid (P := Tryz.prog) w b o 50 v.arr.toList _ hc Tryz.underlying50 rfl (by kernel_rfl)
theorem Sees.loadE {w : World} {A : Option Addr} {l : List V4} (h : Sees w A (eVals l)) (k : Nat) (hk : k < l.length) : ∃ b o, A = some ⟨b, o, none⟩ ∧ b < w.heap.size ∧ (loadA 50 4 ⟨b, o + k * 4, none⟩).run Tryz.prog w = .ok (l[k]).val w := by
 obtain ⟨b, o, rfl, hr⟩ := h.range (by rw [eVals_length]; omega)
 refine ⟨b, o, rfl, h.lt (by rw [eVals_length]; omega), range_E b (o + k * 4) l[k] fun j v hj => ?_⟩
 have h4 : j < 4 := (List.getElem?_eq_some_iff.1 hj).1
 rw [Nat.add_assoc]
 exact hr _ _ ((eVals_get l k j hk h4).trans (by rwa [Array.getElem?_toList] at hj))
structure Sh where
 field : Int
 thr : Int
 idx : Int
 len : Int
 pay : List V4
def Sh.cells (s : Sh) (A : Option Addr) (cap : Nat) : Array Value := #[.int .i64 s.field, .int .i64 s.thr, .int .i64 s.idx, .int .i64 s.len, .slice A s.pay.length cap]
def Sh.val (s : Sh) (A : Option Addr) (cap : Nat) : Value := .agg (s.cells A cap)
def allW (f : FP) (l : List V4) : Nat → BitVec 64
 | 0 => maskW (decide (V4.zero.num < f.p.num))
 | t + 1 => allW f l t &&& maskW (decide ((l[t]?.getD V4.zero).num < f.p.num))
def okPay (f : FP) (l : List V4) : Bool := l.all fun v => decide (v.num < f.p.num)
theorem and_mask (a b : Bool) : maskW a &&& maskW b = maskW (a && b) := by cases a <;> cases b <;> decide
theorem allW_eq (f : FP) (l : List V4) (h0 : V4.zero.num < f.p.num) : ∀ t, t ≤ l.length → allW f l t = maskW ((l.take t).all fun v => decide (v.num < f.p.num))
 | 0, _ => by rw [allW, decide_eq_true h0]; rfl
 | t + 1, h => by
  rw [allW, allW_eq f l h0 t (by omega), and_mask, List.take_succ_eq_append_getElem (by omega), List.all_append, List.getElem?_eq_getElem (by omega)]
  simp
theorem allW_zero (f : FP) (l : List V4) (h0 : V4.zero.num < f.p.num) : (allW f l l.length == 0#64) = !okPay f l := by
 rw [allW_eq f l h0 _ (Nat.le_refl _), List.take_length]
 unfold okPay
 cases (l.all fun v => decide (v.num < f.p.num)) <;> decide
theorem getF_pos (id : Int) (h : getE id = 0) : V4.zero.num < (getF id).p.num := by
 unfold getE at h
 unfold getF
 split at h
 ·rename_i e; rw [if_pos e]; decide
 ·split at h
  ·rename_i e1 e; rw [if_neg e1, if_pos e]; decide
  ·cases h
def checkE (s : Sh) : Int :=
 if getE s.field ≠ 0 then getE s.field else if ¬ (1 ≤ s.thr ∧ s.thr ≤ 255) then 4 else if ¬ (1 ≤ s.idx ∧ s.idx ≤ 255) then 12 else if ¬ (0 ≤ s.len ∧ s.len ≤ 65535) then 6 else if s.pay.length ≠ cnt s.len then 8 else if okPay (getF s.field) s.pay then 0 else 9
theorem betweenI (x l m : Int) (w : World) : Calls Tryz.prog 35 #[.int .i64 x, .int .i64 l, .int .i64 m] w fun e w' => e = .returned (.bool (decide (l ≤ x ∧ x ≤ m))) ∧ w' = w := (paramsBetween x l m w).mono fun _ _ h => ⟨h.1, h.2.symm⟩
theorem countI (n : Int) (w : World) : Calls Tryz.prog 36 #[.int .i64 n] w fun e w' => e = .returned (.int .i64 (cnt n)) ∧ w' = w := (chunksCount n w).mono fun _ _ h => ⟨h.1, h.2.symm⟩
set_option maxRecDepth 20000 in
set_option maxHeartbeats 2000000 in
theorem checkShare (s : Sh) (A : Option Addr) (cap : Nat) (w : World) (L : Laid w) (hs : Sees w A (eVals s.pay)) (hn : s.pay.length ≤ 1099511627776) :
  Calls Tryz.prog 12 #[s.val A cap] w fun e w' => e = .returned (.int .i64 (checkE s)) ∧ Below w.heap.size w w' := by
 obtain ⟨fd, th, ix, ln, P⟩ := s
 unfold Sh.val Sh.cells
 simp only [] at hs hn ⊢
 have HK := Lib.hid (show checkE ⟨fd, th, ix, ln, P⟩ = if getE fd ≠ 0 then getE fd else if ¬ (1 ≤ th ∧ th ≤ 255) then 4 else if ¬ (1 ≤ ix ∧ ix ≤ 255) then 12 else if ¬ (0 ≤ ln ∧ ln ≤ 65535) then 6 else if P.length ≠ cnt ln then 8 else if okPay (getF fd) P then 0 else 9 from rfl)
 generalize checkE ⟨fd, th, ix, ln, P⟩ = E at *
 have hb0 : Below w.heap.size w (w.alloc (.cells #[.int .i64 fd, .int .i64 th, .int .i64 ix, .int .i64 ln, .slice A P.length cap] 26)) := (by repeat (first | with_reducible assumption | with_reducible exact Below.refl _ _ | (with_reducible refine putAgg_below ?_ (by first | omega | (simp; done) | (simp; omega))) | (with_reducible refine Below.alloc ?_ (by first | omega | (simp; done) | (simp; omega)) _) | (with_reducible refine Below.setCell ?_ (by first | omega | (simp; done) | (simp; omega)) _) | (with_reducible refine Below.drew ?_) | (with_reducible refine Below.trans ?_ (Below.mono (by with_reducible assumption) (by first | omega | (simp; done) | (simp; omega))))))
 have HG := Lib.hid (fieldGet fd _ (L.to hb0))
 have HB0 := Lib.hid hb0
 have HS := Lib.hid hs
 have HT := Lib.hid betweenI
 have HC := Lib.hid (countI ln)
 have hz0 := getF_pos fd
 clear hb0 hs L
 generalize getF fd = f at *
 go_enter Tryz.func12, Tryz.ntmps12
 go_wp2_with fail
 refine HG.out.mono ?_
 rintro e w1 ⟨rfl, hb1⟩
 have c1 := (hb1.cell (p := ⟨w.heap.size, 1, none⟩) (by simp)).trans (show _ = some (Value.int .i64 th) from by simp)
 have c2 := (hb1.cell (p := ⟨w.heap.size, 2, none⟩) (by simp)).trans (show _ = some (Value.int .i64 ix) from by simp)
 have c3 := (hb1.cell (p := ⟨w.heap.size, 3, none⟩) (by simp)).trans (show _ = some (Value.int .i64 ln) from by simp)
 have c4 := (hb1.cell (p := ⟨w.heap.size, 4, none⟩) (by simp)).trans (show _ = some (Value.slice A P.length cap) from by simp)
 have hsz := hb1.size
 simp only [World.size_alloc] at hsz
 have hlt : w.heap.size < w1.heap.size := hsz
 have HB1 := Lib.hid (HB0.out.trans (hb1.mono (by simp)))
 clear hb1 HG
 have hB2 : Below w.heap.size w (w1.alloc (.cells f.arr 67)) := HB1.out.alloc (Nat.le_of_lt hsz) _
 by_cases e0 : getE fd = 0
 ·have HZ := Lib.hid (hz0 e0)
  have HE := Lib.hid e0
  rw [e0]
  clear hz0 e0
  by_cases e1 : 1 ≤ th ∧ th ≤ 255
  ·have HE1 := Lib.hid e1
   have D1 := Lib.hid (decide_eq_true e1)
   clear e1
   by_cases e2 : 1 ≤ ix ∧ ix ≤ 255
   ·have HE2 := Lib.hid e2
    have D2 := Lib.hid (decide_eq_true e2)
    clear e2
    by_cases e3 : 0 ≤ ln ∧ ln ≤ 65535
    ·have HE3 := Lib.hid e3
     have D3 := Lib.hid (decide_eq_true e3)
     clear e3
     go_upto_region 10 with (first | (go_at_call 35; (with_reducible refine (HT.out _ _ _ _).mono ?_); rintro e w' ⟨rfl, rfl⟩; (try rw [D1.out]); (try rw [D2.out]); (try rw [D3.out])))
     have d3 := (World.cell?_of_block (w := w1) (w' := w1.alloc (.cells f.arr 67)) (a := ⟨w.heap.size, 3, none⟩) (Below.heap_alloc w1 _ _ hlt)).trans c3
     have d4 := (World.cell?_of_block (w := w1) (w' := w1.alloc (.cells f.arr 67)) (a := ⟨w.heap.size, 4, none⟩) (Below.heap_alloc w1 _ _ hlt)).trans c4
     have hF := IsF.newAt w1 f _ rfl
     have hS2 := HS.out.below (HB1.out.alloc (Nat.le_of_lt hsz) (.cells f.arr 67))
     have hs2 : (w1.alloc (.cells f.arr 67)).heap.size = w1.heap.size + 1 := World.size_alloc _ _
     generalize w1.alloc (.cells f.arr 67) = wq at *
     have e3 : wq.drew.cell? ⟨w.heap.size, 3, none⟩ = some (.int .i64 ln) := d3
     have e4 : wq.drew.cell? ⟨w.heap.size, 4, none⟩ = some (.slice A P.length cap) := d4
     have HD := Lib.hid (show Below w.heap.size w wq.drew ∧ IsF wq.drew w1.heap.size f ∧ Sees wq.drew A (eVals P) ∧ wq.drew.heap.size = w1.heap.size + 1 from ⟨hB2.drew, hF, hS2, hs2⟩)
     refine wp_region_still_lit (by kernel_rfl) (by kernel_rfl) ?_
     rw [show ({ wq with drawn := wq.drawn + 1 } : World) = wq.drew from rfl]
     clear d3 d4 hF hS2 hs2
     generalize wq.drew = w2 at *
     clear c1 c2 c3 c4 hB2 HB1 HS
     ((try simp only [List.take_succ_cons, List.take_zero, List.drop_succ_cons, List.drop_zero]); repeat ((refine wpStill_step (fun K hK => ?_)); go_simp; (first | (with_reducible refine hK _ ?_) | (with_reducible refine ⟨_, HC.out _, hK _ ?_⟩)); clear hK K); try refine wpStill_nil ?_)
     by_cases e5 : P.length = cnt ln
     ·rw [show ((P.length : Int) != ((cnt ln : Nat) : Int)) = false from by rw [e5]; simp]
      have HE5 := Lib.hid e5
      have hfa := aggAt_whole HD.out.2.1 (n := 14) rfl
      have hgf := Lib.hid (allW_eq f P HZ.out)
      have hw1s : w1.heap.size < w2.heap.size := by have := HD.out.2.2.2; omega
      have HP := Lib.hid (contains f V4.zero w2)
      have hz4 : (Instr.build 45 #[]).run Tryz.prog w2 = .ok V4.zero.val w2 := by kernel_rfl
      clear e5
      go_wp2_with fail
      refine HP.out.mono ?_
      rintro e w3 ⟨rfl, hb3⟩
      have hA0 := Lib.hid (show maskW (decide (V4.zero.num < f.p.num)) = allW f P 0 from rfl)
      rw [hA0.out]
      have HQ := Lib.hid (show Below w.heap.size w w3 ∧ IsF w3 w1.heap.size f ∧ Sees w3 A (eVals P) ∧ w1.heap.size < w3.heap.size from ⟨HD.out.1.trans (hb3.mono (by omega)), HD.out.2.1.below hb3 hw1s, HD.out.2.2.1.below hb3, Nat.lt_of_lt_of_le hw1s hb3.size⟩)
      have f4 := (hb3.cell (p := ⟨w.heap.size, 4, none⟩) (by show w.heap.size < _; omega)).trans e4
      clear hb3 HD hfa hz4 e3 e4 HP
      go_wp2
      go_loopw [5, 7, 47] (fun a x i W => ∃ t : Nat, t ≤ P.length ∧ i = .int .i64 t ∧ a = .int .u64 (U (allW f P t)) ∧ Below w.heap.size w W ∧ IsF W w1.heap.size f ∧ Sees W A (eVals P) ∧ w1.heap.size < W.heap.size) (fun _ _ i _ => P.length - (intOf i).toNat)
      case atStart => exact ⟨0, by omega, rfl, rfl, HQ.out⟩
      case round =>
       clear HQ f4
       obtain ⟨t, ht, rfl, rfl, hB, hF, hS, hz⟩ := hrel
       by_cases htl : t < P.length
       ·have htl' : (t : Int) < (P.length : Int) := by omega
        obtain ⟨b, o, rfl, hbl, hld⟩ := hS.loadE t htl
        have HT2 := Lib.hid (show allW f P (t + 1) = allW f P t &&& maskW (decide ((P[t]).num < f.p.num)) from by rw [allW, List.getElem?_eq_getElem htl]; rfl)
        have HX := Lib.hid (And.intro hB (And.intro hF hS))
        have HP := Lib.hid (contains f P[t])
        have hfa : aggAt wr 14 w1.heap.size 0 = some f.val := aggAt_whole hF (n := 14) rfl
        generalize P[t] = x at *
        clear hB hF hS
        go_wp2_with fail
        refine (HP.out _).mono ?_
        rintro e w4 ⟨rfl, hb4⟩
        have hb4' : Below wr.heap.size wr w4 := ((Below.refl _ wr).alloc (Nat.le_refl _) _).trans (hb4.mono (by simp))
        have HY := Lib.hid (show Below w.heap.size w w4 ∧ IsF w4 w1.heap.size f ∧ Sees w4 (some ⟨b, o, none⟩) (eVals P) ∧ w1.heap.size < w4.heap.size from ⟨HX.out.1.trans (hb4'.mono (by omega)), HX.out.2.1.below hb4' hz, HX.out.2.2.below hb4', Nat.lt_of_lt_of_le hz hb4'.size⟩)
        clear hb4 hb4' HX HP hld hfa
        go_wp2
        go_roundw
        case rel => exact ⟨t + 1, by omega, by go_num, by rw [HT2.out], HY.out⟩
        case measure => simp [intOf]; omega
       ·obtain rfl : t = P.length := by omega
        have HX := Lib.hid hB
        have HO := Lib.hid (allW_zero f P HZ.out)
        clear hB hF hS
        by_cases ho : okPay f P = true
        ·have hq : (allW f P P.length == 0#64) = false := by rw [HO.out, ho]; rfl
         go_wp2
         go_ret
         exact ⟨by rw [HK.out, if_neg (fun h => h HE.out), if_neg (fun h => h HE1.out), if_neg (fun h => h HE2.out), if_neg (fun h => h HE3.out), if_neg (fun h => h HE5.out), if_pos ho]; rfl, HX.out⟩
        ·have hq : (allW f P P.length == 0#64) = true := by rw [HO.out]; simpa using ho
         go_wp2
         go_ret
         exact ⟨by rw [HK.out, if_neg (fun h => h HE.out), if_neg (fun h => h HE1.out), if_neg (fun h => h HE2.out), if_neg (fun h => h HE3.out), if_neg (fun h => h HE5.out), if_neg ho]; rfl, HX.out⟩
     ·rw [show ((P.length : Int) != ((cnt ln : Nat) : Int)) = true from by simpa using fun h => e5 (by omega)]
      have HE5 := Lib.hid e5
      clear e5
      go_wp2
      go_ret
      exact ⟨by rw [HK.out, if_neg (fun h => h HE.out), if_neg (fun h => h HE1.out), if_neg (fun h => h HE2.out), if_neg (fun h => h HE3.out), if_pos HE5.out]; rfl, HD.out.1⟩
    ·have HE3 := Lib.hid e3
     have D3 := Lib.hid (decide_eq_false e3)
     clear e3
     go_upto_region 9 with (first | (go_at_call 35; (with_reducible refine (HT.out _ _ _ _).mono ?_); rintro e w' ⟨rfl, rfl⟩; (try rw [D1.out]); (try rw [D2.out]); (try rw [D3.out])))
     go_wp2
     go_ret
     exact ⟨by rw [HK.out, if_neg (fun h => h HE.out), if_neg (fun h => h HE1.out), if_neg (fun h => h HE2.out), if_pos HE3.out]; rfl, hB2⟩
   ·have HE2 := Lib.hid e2
    have D2 := Lib.hid (decide_eq_false e2)
    clear e2
    go_upto_region 7 with (first | (go_at_call 35; (with_reducible refine (HT.out _ _ _ _).mono ?_); rintro e w' ⟨rfl, rfl⟩; (try rw [D1.out]); (try rw [D2.out]); (try rw [D3.out])))
    go_wp2
    go_ret
    exact ⟨by rw [HK.out, if_neg (fun h => h HE.out), if_neg (fun h => h HE1.out), if_pos HE2.out]; rfl, hB2⟩
  ·have HE1 := Lib.hid e1
   have D1 := Lib.hid (decide_eq_false e1)
   clear e1
   go_upto_region 5 with (first | (go_at_call 35; (with_reducible refine (HT.out _ _ _ _).mono ?_); rintro e w' ⟨rfl, rfl⟩; (try rw [D1.out]); (try rw [D2.out]); (try rw [D3.out])))
   go_wp2
   go_ret
   exact ⟨by rw [HK.out, if_neg (fun h => h HE.out), if_pos HE1.out]; rfl, hB2⟩
 ·have HE := Lib.hid (show getE fd ≠ 0 from e0)
  go_upto_region 3 with (fail)
  go_wp2
  go_ret
  exact ⟨by rw [HK.out, if_pos HE.out]; rfl, hB2⟩
end Go.Proofs.YtccgfladbibjbaaGreatDoor
namespace Go.Proofs.YtccgfladbibjbaaGreatDoor
open Go.RowKit
attribute [local go_sem ↓] add_UU sub_UU mul_UU add_UL add_LU sub_UL sub_LU mul_UL neg_at not_at and_UU or_UU xor_UU andNot_UU and_UL or_LU shr_UL shl_UL shr_UN shl_UN shl_LN quo_UL rem_UL quo_UU rem_UU
attribute [local go_sem] wrap64_N wrapi_mod wrap8_U wrap32_U wrap64_B wrap32_B wrap8_D wrapi_B wrap64_UU eq_UU ne_UU eq_UL ne_UL lt_UU le_UU
attribute [local simp] putAgg_size
attribute [local go_sem ↓] loadVar_F loadVar_E loadVar_V loadVar_B32 storeVar_F storeVar_E storeVar_V storeVar_B32 box_F box_E box_V box_B32
attribute [local go_sem ↓ high] V4.cells_val FP.cells_val
attribute [local go_sem] run_loadF run_loadE run_loadV run_loadB32 run_storeF run_storeE run_storeV run_storeB32 run_boxA aggAt_drew aggAt_drewN aggAt_alloc_new aggAt_alloc_past aggAt_setCell_other aggAt_putAgg_other aggAt_putAgg_new putAgg_drew putAgg_size putAgg_alloc_new putAgg_alloc_past putAgg_cell_other putAgg_frozen_other V4.agg_arr FP.agg_arr V4.size_arr FP.size_arr V4.fits FP.fits fitsA_agg4 lt_2 ne_2 en_2 lt_3 ne_3 en_3 lt_4 ne_4 en_4 lt_5 ne_5 en_5 lt_6 ne_6 en_6
theorem allocs_size : ∀ (w : World) (os : List Obj), (os.foldl World.alloc w).heap.size = w.heap.size + os.length
 | _, [] => rfl
 | w, o :: r => by rw [List.foldl_cons, allocs_size (w.alloc o) r, World.size_alloc, List.length_cons]; omega
theorem allocs_below : ∀ (w : World) (os : List Obj), Below w.heap.size w (os.foldl World.alloc w)
 | w, [] => Below.refl _ w
 | w, o :: r => ((Below.refl _ w).alloc (Nat.le_refl _) o).trans ((allocs_below (w.alloc o) r).mono (by simp))
theorem allocs_get : ∀ (w : World) (os : List Obj) (j : Nat) (o : Obj), os[j]? = some o → (os.foldl World.alloc w).heap[w.heap.size + j]? = some o
 | _, [], _, _, h => by simp at h
 | w, x :: r, 0, o, h => by
  simp at h
  subst h
  exact ((allocs_below (w.alloc x) r).block w.heap.size (by simp)).trans (heap_alloc_new w x)
 | w, x :: r, j + 1, o, h => by
  have := allocs_get (w.alloc x) r j o (by simpa using h)
  rw [World.size_alloc] at this
  rw [List.foldl_cons, ← this]
  congr 1
  omega
theorem info_E : (Tryz.prog.info? 50).map (fun i => (i.zero, i.size, i.bytes)) = some (some (.agg #[.int .u64 0, .int .u64 0, .int .u64 0, .int .u64 0]), 4, 32) := by kernel_rfl
def IsEsT (t : TypeId) (w : World) (b : Nat) (l : List V4) : Prop := w.heap[b]? = some (.cells (eVals l).toArray t (0, 0))
abbrev IsEs := IsEsT 50
section
variable {t : TypeId}
theorem IsEsT.lt {w : World} {b : Nat} {l : List V4} (h : IsEsT t w b l) : b < w.heap.size := (Array.getElem?_eq_some_iff.1 h).1
theorem IsEsT.block {w w' : World} {b : Nat} {l : List V4} (h : IsEsT t w b l) (e : w'.heap[b]? = w.heap[b]?) : IsEsT t w' b l := e.trans h
theorem IsEsT.below {w w' : World} {b : Nat} {l : List V4} (h : IsEsT t w b l) (hb : Below w.heap.size w w') : IsEsT t w' b l := h.block (hb.block b h.lt)
theorem IsEsT.alloc {w : World} {b : Nat} {l : List V4} (h : IsEsT t w b l) (o : Obj) : IsEsT t (w.alloc o) b l := h.below ((Below.refl _ w).alloc (Nat.le_refl _) o)
theorem IsEsT.new (w : World) (l : List V4) (n : Nat) (hn : n = w.heap.size) : IsEsT t (w.alloc (.cells (eVals l).toArray t)) n l := by subst hn; exact heap_alloc_new w _
theorem IsEsT.sees {w : World} {b : Nat} {l : List V4} (h : IsEsT t w b l) : Sees w (some ⟨b, 0, none⟩) (eVals l) := by
 intro _
 refine ⟨b, 0, rfl, fun j hj => ?_⟩
 unfold World.cell?
 rw [Nat.zero_add]
 simp only []
 rw [h]
 simp
theorem eVals_split : ∀ (l : List V4) (k : Nat), eVals l = eVals (l.take k) ++ eVals (l.drop k) := fun l k => by rw [← eVals_append, List.take_append_drop]
theorem eVals_cut (l : List V4) (k : Nat) (h : k < l.length) : eVals l = eVals (l.take k) ++ (l[k].arr.toList ++ eVals (l.drop (k + 1))) := by
 rw [eVals_split l k, List.drop_eq_getElem_cons h]
 rfl
theorem eVals_set (l : List V4) (k : Nat) (v : V4) (h : k < l.length) : eVals (l.set k v) = eVals (l.take k) ++ (v.arr.toList ++ eVals (l.drop (k + 1))) := by
 rw [eVals_cut (l.set k v) k (by rw [List.length_set]; exact h), List.take_set_of_le (Nat.le_refl _), List.drop_set_of_lt (by omega), List.getElem_set_self]
theorem IsEsT.agg {w : World} {b : Nat} {l : List V4} (h : IsEsT t w b l) (k : Nat) (hk : k < l.length) : aggAt w 4 b (k * 4) = some l[k].val := by
 rw [aggAt_of h (by rw [List.size_toArray, eVals_length]; omega)]
 congr 1
 have : (eVals l).toArray.extract (k * 4) (k * 4 + 4) = l[k].arr := by
  apply Array.ext'
  rw [Array.toList_extract, List.extract_eq_take_drop, Nat.add_sub_cancel_left, eVals_cut l k hk]
  have hl : (eVals (l.take k)).length = k * 4 := by rw [eVals_length, List.length_take]; omega
  rw [← hl, List.drop_left, List.take_append_of_le_length (by exact Nat.le_refl 4)]
  exact List.take_of_length_le (by exact Nat.le_refl 4)
 rw [this]
 rfl
theorem IsEsT.put {w : World} {b : Nat} {l : List V4} (h : IsEsT t w b l) (k : Nat) (hk : k < l.length) (v : V4) : IsEsT t (putAgg w b (k * 4) v.arr) b (l.set k v) := by
 have h1 := setCells_block b t v.arr.toList (k * 4) w _ h (by
  rw [List.size_toArray, eVals_length]
  show k * 4 + 4 ≤ _
  omega)
 have hl : (eVals (l.take k)).length = k * 4 := by rw [eVals_length, List.length_take]; omega
 have hd : (eVals l).drop (k * 4 + v.arr.toList.length) = eVals (l.drop (k + 1)) := by
  rw [eVals_cut l k hk, ← List.append_assoc]
  have hl2 : (eVals (l.take k) ++ l[k].arr.toList).length = k * 4 + v.arr.toList.length := by
   rw [List.length_append, hl]
   rfl
  rw [← hl2, List.drop_left]
 have ht : (eVals l).take (k * 4) = eVals (l.take k) := by
  rw [eVals_cut l k hk, ← hl, List.take_left]
 have he : spliced (eVals l).toArray (k * 4) v.arr.toList = (eVals (l.set k v)).toArray := by
  unfold spliced
  rw [List.toList_toArray, eVals_set l k v hk, hd, ht, List.append_assoc]
 unfold IsEsT putAgg
 rw [h1, he]
theorem IsEsT.get {w : World} {b : Nat} {l : List V4} (h : IsEsT t w b l) (k : Nat) (hk : k < l.length) : aggAt w 4 b (k * 4) = some (l[k]?.getD V4.zero).val := by
 rw [List.getElem?_eq_getElem hk]
 exact h.agg k hk
theorem IsEsT.other {w : World} {b b' o : Nat} {l : List V4} {cs : Array Value} (h : IsEsT t w b l) (hne : b ≠ b') : IsEsT t (putAgg w b' o cs) b l := h.block (putAgg_block w b' o cs b hne)
end
theorem eVals_replicate (n : Nat) : eVals (List.replicate n V4.zero) = List.replicate (n * 4) (.int .u64 0) := by
 induction n with
 | zero => rfl
 | succ n ih =>
  rw [List.replicate_succ, eVals, ih, show (n + 1) * 4 = n * 4 + 1 + 1 + 1 + 1 from by omega]
  rfl
theorem made_zeros (n : Nat) : madeCells #[.int .u64 0, .int .u64 0, .int .u64 0, .int .u64 0] (n * 4) = (eVals (List.replicate n V4.zero)).toArray := by
 rw [eVals_replicate]
 apply Array.ext
 ·simp [size_madeCells]
 ·intro j hj hj'
  have h4 : j % 4 < 4 := Nat.mod_lt _ (by decide)
  simp only [madeCells, Array.getElem_map, Array.getElem_range, List.getElem_toArray, List.getElem_replicate]
  show #[Value.int .u64 0, .int .u64 0, .int .u64 0, .int .u64 0][j % 4]! = _
  match h : j % 4, h4 with
  | 0, _ => rfl
  | 1, _ => rfl
  | 2, _ => rfl
  | 3, _ => rfl
theorem vec_put {w : World} {b : Nat} {cs cs' : Array Value} {t : TypeId} (h : w.heap[b]? = some (.cells cs t (0, 0))) (hs : cs'.size = cs.size) : (putAgg w b 0 cs').heap[b]? = some (.cells cs' t (0, 0)) := by
 have h1 := setCells_block b t cs'.toList 0 w cs h (by simp; omega)
 have he : spliced cs 0 cs'.toList = cs' := by
  unfold spliced
  have : List.drop (0 + cs'.toList.length) cs.toList = [] := by
   rw [List.drop_eq_nil_iff]
   simp
   omega
  rw [this]
  simp
 unfold putAgg
 rw [h1, he]
theorem makeE (n : Nat) (hn : n ≤ 1099511627776) (w : World) : (Instr.makeSlice 24 (.int .i64 n) (.int .i64 n)).run Tryz.prog w = .ok (.slice (some ⟨w.heap.size, 0, none⟩) n n) (w.alloc (.cells (eVals (List.replicate n V4.zero)).toArray 50)) := by
 obtain ⟨i0, hi0, hz0, hz1, hz2⟩ := info_parts info_E
 have := run_make (P := Tryz.prog) w 24 50 i0 _ Tryz.underlying24 hi0 hz0 .i64 .i64 n n (by omega) (Int.le_refl _) (by rw [hz2]; omega) (by omega)
 rw [this, hz1, Int.toNat_natCast]
 show Result.ok _ (w.alloc (.cells (madeCells #[.int .u64 0, .int .u64 0, .int .u64 0, .int .u64 0] (n * 4)) 50)) = _
 rw [made_zeros]
end Go.Proofs.YtccgfladbibjbaaGreatDoor
