/- params.Check, params.Random. -/
import Derived.Test.YtccgfladbibjbaaGreatDoorKG19
import Derived.Test.YtccgfladbibjbaaGreatDoorKG27
import Derived.Test.YtccgfladbibjbaaGreatDoorKG24
namespace Go.Proofs.YtccgfladbibjbaaGreatDoor
open Go.RowKit
attribute [local go_sem ↓] add_UU sub_UU mul_UU add_UL add_LU sub_UL sub_LU mul_UL neg_at not_at and_UU or_UU xor_UU andNot_UU and_UL or_LU shr_UL shl_UL shr_UN shl_UN shl_LN quo_UL rem_UL quo_UU rem_UU
attribute [local go_sem] wrap64_N wrapi_mod wrap8_U wrap32_U wrap64_B wrap32_B wrap8_D wrapi_B wrap64_UU eq_UU ne_UU eq_UL ne_UL lt_UU le_UU
attribute [local simp] putAgg_size
attribute [local go_sem ↓] loadVar_F loadVar_E loadVar_V loadVar_B32 storeVar_F storeVar_E storeVar_V storeVar_B32 box_F box_E box_V box_B32
attribute [local go_sem ↓ high] V4.cells_val FP.cells_val
attribute [local go_sem] run_loadF run_loadE run_loadV run_loadB32 run_storeF run_storeE run_storeV run_storeB32 run_boxA aggAt_drew aggAt_drewN aggAt_alloc_new aggAt_alloc_past aggAt_setCell_other aggAt_putAgg_other aggAt_putAgg_new putAgg_drew putAgg_size putAgg_alloc_new putAgg_alloc_past putAgg_cell_other putAgg_frozen_other V4.agg_arr FP.agg_arr V4.size_arr FP.size_arr V4.fits FP.fits fitsA_agg4 lt_2 ne_2 en_2 lt_3 ne_3 en_3 lt_4 ne_4 en_4 lt_5 ne_5 en_5 lt_6 ne_6 en_6
structure Pa where
 field : Int
 thr : Int
 shr : Int
 len : Int
def Pa.cells (p : Pa) : Array Value := #[.int .i64 p.field, .int .i64 p.thr, .int .i64 p.shr, .int .i64 p.len]
def Pa.val (p : Pa) : Value := .agg p.cells
def Pa.checkE (p : Pa) : Int := if getE p.field ≠ 0 then getE p.field else if ¬ (1 ≤ p.shr ∧ p.shr ≤ 255) then 5 else if ¬ (1 ≤ p.thr ∧ p.thr ≤ p.shr) then 4 else if ¬ (0 ≤ p.len ∧ p.len ≤ 65535) then 6 else 0
set_option maxRecDepth 20000 in
set_option maxHeartbeats 2000000 in
theorem paramsCheck (p : Pa) (w : World) (L : Laid w) :
  Calls Tryz.prog 44 #[p.val] w fun e w' => e = .returned (.int .i64 p.checkE) ∧ Below w.heap.size w w' := by
 obtain ⟨fd, th, sh, ln⟩ := p
 unfold Pa.val Pa.cells
 simp only []
 have HK := Lib.hid (show Pa.checkE ⟨fd, th, sh, ln⟩ = if getE fd ≠ 0 then getE fd else if ¬ (1 ≤ sh ∧ sh ≤ 255) then 5 else if ¬ (1 ≤ th ∧ th ≤ sh) then 4 else if ¬ (0 ≤ ln ∧ ln ≤ 65535) then 6 else 0 from rfl)
 generalize Pa.checkE ⟨fd, th, sh, ln⟩ = E at *
 have hb0 : Below w.heap.size w (w.alloc (.cells #[.int .i64 fd, .int .i64 th, .int .i64 sh, .int .i64 ln] 48)) := (by repeat (first | with_reducible assumption | with_reducible exact Below.refl _ _ | (with_reducible refine putAgg_below ?_ (by first | omega | (simp; done) | (simp; omega))) | (with_reducible refine Below.alloc ?_ (by first | omega | (simp; done) | (simp; omega)) _) | (with_reducible refine Below.setCell ?_ (by first | omega | (simp; done) | (simp; omega)) _) | (with_reducible refine Below.drew ?_) | (with_reducible refine Below.trans ?_ (Below.mono (by with_reducible assumption) (by first | omega | (simp; done) | (simp; omega))))))
 have HG := Lib.hid (fieldGet fd _ (L.to hb0))
 have HB0 := Lib.hid hb0
 have HT := Lib.hid betweenI
 clear hb0 L
 generalize getF fd = f at *
 go_enter Tryz.func44, Tryz.ntmps44
 go_wp2_with fail
 refine HG.out.mono ?_
 rintro e w1 ⟨rfl, hb1⟩
 have c1 := (hb1.cell (p := ⟨w.heap.size, 1, none⟩) (by simp)).trans (show _ = some (Value.int .i64 th) from by simp)
 have c2 := (hb1.cell (p := ⟨w.heap.size, 2, none⟩) (by simp)).trans (show _ = some (Value.int .i64 sh) from by simp)
 have c3 := (hb1.cell (p := ⟨w.heap.size, 3, none⟩) (by simp)).trans (show _ = some (Value.int .i64 ln) from by simp)
 have hsz := hb1.size
 simp only [World.size_alloc] at hsz
 have hlt : w.heap.size < w1.heap.size := hsz
 have HB1 := Lib.hid (HB0.out.trans (hb1.mono (by simp)))
 clear hb1 HG HB0
 have hB2 : Below w.heap.size w (w1.alloc (.cells f.arr 67)) := HB1.out.alloc (Nat.le_of_lt hsz) _
 by_cases e0 : getE fd = 0
 ·have HE := Lib.hid e0
  rw [e0]
  clear e0
  by_cases e1 : 1 ≤ sh ∧ sh ≤ 255
  ·have HE1 := Lib.hid e1
   have D1 := Lib.hid (decide_eq_true e1)
   clear e1
   by_cases e2 : 1 ≤ th ∧ th ≤ sh
   ·have HE2 := Lib.hid e2
    have D2 := Lib.hid (decide_eq_true e2)
    clear e2
    by_cases e3 : 0 ≤ ln ∧ ln ≤ 65535
    ·have HE3 := Lib.hid e3
     have D3 := Lib.hid (decide_eq_true e3)
     clear e3
     go_upto_region 10 with (first | (go_at_call 35; (with_reducible refine (HT.out _ _ _ _).mono ?_); rintro e w' ⟨rfl, rfl⟩; (try rw [D1.out]); (try rw [D2.out]); (try rw [D3.out])))
     go_wp2
     go_ret
     exact ⟨by rw [HK.out, if_neg (fun h => h HE.out), if_neg (fun h => h HE1.out), if_neg (fun h => h HE2.out), if_neg (fun h => h HE3.out)]; rfl, hB2⟩
    ·have HE3 := Lib.hid e3
     have D3 := Lib.hid (decide_eq_false e3)
     clear e3
     go_upto_region 9 with (first | (go_at_call 35; (with_reducible refine (HT.out _ _ _ _).mono ?_); rintro e w' ⟨rfl, rfl⟩; (try rw [D1.out]); (try rw [D2.out]); (try rw [D3.out])))
     go_wp2
     go_ret
     exact ⟨by rw [HK.out, if_neg (fun h => h HE.out), if_neg (fun h => h HE1.out), if_neg (fun h => h HE2.out), if_pos HE3.out]; rfl, hB2⟩
   ·have HE2 := Lib.hid e2
    have D2 := Lib.hid (decide_eq_false e2)
    clear e2
    go_upto_region 7 with (first | (go_at_call 35; (with_reducible refine (HT.out _ _ _ _).mono ?_); rintro e w' ⟨rfl, rfl⟩; (try rw [D1.out]); (try rw [D2.out])))
    go_wp2
    go_ret
    exact ⟨by rw [HK.out, if_neg (fun h => h HE.out), if_neg (fun h => h HE1.out), if_pos HE2.out]; rfl, hB2⟩
  ·have HE1 := Lib.hid e1
   have D1 := Lib.hid (decide_eq_false e1)
   clear e1
   go_upto_region 5 with (first | (go_at_call 35; (with_reducible refine (HT.out _ _ _ _).mono ?_); rintro e w' ⟨rfl, rfl⟩; (try rw [D1.out])))
   go_wp2
   go_ret
   exact ⟨by rw [HK.out, if_neg (fun h => h HE.out), if_pos HE1.out]; rfl, hB2⟩
 ·have HE := Lib.hid (show getE fd ≠ 0 from e0)
  go_upto_region 3 with (fail)
  go_wp2
  go_ret
  exact ⟨by rw [HK.out, if_pos HE.out]; rfl, hB2⟩
def Pa.random (p : Pa) : Int := if p.checkE = 0 then 64 * (p.thr - 1) * (cnt p.len : Nat) else 0
theorem Pa.checkE_zero {p : Pa} (h : p.checkE = 0) : getE p.field = 0 ∧ (1 ≤ p.shr ∧ p.shr ≤ 255) ∧ (1 ≤ p.thr ∧ p.thr ≤ p.shr) ∧ 0 ≤ p.len ∧ p.len ≤ 65535 := by
 unfold Pa.checkE at h
 by_cases h0 : getE p.field = 0
 ·rw [if_neg (fun h => h h0)] at h
  by_cases h1 : 1 ≤ p.shr ∧ p.shr ≤ 255
  ·rw [if_neg (fun h => h h1)] at h
   by_cases h2 : 1 ≤ p.thr ∧ p.thr ≤ p.shr
   ·rw [if_neg (fun h => h h2)] at h
    by_cases h3 : 0 ≤ p.len ∧ p.len ≤ 65535
    ·exact ⟨h0, h1, h2, h3⟩
    ·rw [if_pos h3] at h; cases h
   ·rw [if_pos h2] at h; cases h
  ·rw [if_pos h1] at h; cases h
 ·rw [if_pos h0] at h; exact absurd h h0
theorem cnt_le (n : Int) : cnt n ≤ 2115 := by unfold cnt; split <;> omega
set_option maxRecDepth 20000 in
set_option maxHeartbeats 2000000 in
theorem paramsRandom (p : Pa) (w : World) (L : Laid w) :
  Calls Tryz.prog 117 #[p.val] w fun e w' => e = .returned (.int .i64 p.random) ∧ Below w.heap.size w w' := by
 have hb0 : Below w.heap.size w (w.alloc (.cells p.cells 48)) := (by repeat (first | with_reducible assumption | with_reducible exact Below.refl _ _ | (with_reducible refine putAgg_below ?_ (by first | omega | (simp; done) | (simp; omega))) | (with_reducible refine Below.alloc ?_ (by first | omega | (simp; done) | (simp; omega)) _) | (with_reducible refine Below.setCell ?_ (by first | omega | (simp; done) | (simp; omega)) _) | (with_reducible refine Below.drew ?_) | (with_reducible refine Below.trans ?_ (Below.mono (by with_reducible assumption) (by first | omega | (simp; done) | (simp; omega))))))
 have HC := Lib.hid (paramsCheck p _ (L.to hb0))
 have HB0 := Lib.hid hb0
 have HR := Lib.hid (show p.random = if p.checkE = 0 then 64 * (p.thr - 1) * (cnt p.len : Nat) else 0 from rfl)
 have HZ := Lib.hid (fun h => Pa.checkE_zero (p := p) h)
 clear hb0 L
 generalize p.checkE = ce at *
 generalize p.random = ra at *
 obtain ⟨fd, th, sh, ln⟩ := p
 unfold Pa.val Pa.cells at *
 simp only [] at HC HB0 HR HZ ⊢
 go_enter Tryz.func117, Tryz.ntmps117
 go_wp2_with fail
 refine HC.out.mono ?_
 rintro e w1 ⟨rfl, hb1⟩
 have c1 := (hb1.cell (p := ⟨w.heap.size, 1, none⟩) (by simp)).trans (show _ = some (Value.int .i64 th) from by simp)
 have c3 := (hb1.cell (p := ⟨w.heap.size, 3, none⟩) (by simp)).trans (show _ = some (Value.int .i64 ln) from by simp)
 have HB1 := Lib.hid (HB0.out.trans (hb1.mono (by simp)))
 clear hb1 HC HB0
 by_cases e0 : ce = 0
 ·subst e0
  obtain ⟨_, h1, h2, h3⟩ := HZ.out rfl
  have hcl := cnt_le ln
  have hw1 : IntKind.i64.wrap (th - 1) = th - 1 := by rw [IntKind.wrap_i64]; omega
  have hw2 : IntKind.i64.wrap (64 * (th - 1)) = 64 * (th - 1) := by rw [IntKind.wrap_i64]; omega
  obtain ⟨a, ha⟩ : ∃ a : Nat, 64 * (th - 1) = (a : Int) := ⟨(64 * (th - 1)).toNat, by omega⟩
  have ha2 : a ≤ 16384 := by omega
  rw [ha] at hw2 HR
  have hmul : a * cnt ln ≤ 16384 * 2115 := Nat.mul_le_mul ha2 hcl
  have hw3 : IntKind.i64.wrap ((a : Int) * (cnt ln : Nat)) = (a : Int) * (cnt ln : Nat) := by
   rw [← Int.natCast_mul, IntKind.wrap_i64]; omega
  have HA := Lib.hid ha
  clear ha hmul HZ h1 h2 h3 hcl ha2
  go_wp2
  ((refine region_held (h := 8) (by kernel_rfl) (by kernel_rfl) (fun W' => (Below w1.heap.size w1 W' ∧ W'.cell? ⟨(w.heap.size), (1), none⟩ = some (.int .i64 th) ∧ W'.cell? ⟨(w.heap.size), (3), none⟩ = some (.int .i64 ln))) ⟨(Below.refl _ w1).drew, c1, c3⟩ ?_); (have hSB : ∀ W' W'' : World, (Below w1.heap.size w1 W' ∧ W'.cell? ⟨(w.heap.size), (1), none⟩ = some (.int .i64 th) ∧ W'.cell? ⟨(w.heap.size), (3), none⟩ = some (.int .i64 ln)) → Below W'.heap.size W' W'' → (Below w1.heap.size w1 W'' ∧ W''.cell? ⟨(w.heap.size), (1), none⟩ = some (.int .i64 th) ∧ W''.cell? ⟨(w.heap.size), (3), none⟩ = some (.int .i64 ln)) := fun W' W'' ⟨h0, h1, h2⟩ hb => ⟨h0.trans (hb.mono h0.size), cell_keep h1 hb, cell_keep h2 hb⟩); (clear c1 c3); (((try simp only [List.take_succ_cons, List.take_zero, List.drop_succ_cons, List.drop_zero]); repeat (apply chain_op; (focus (intro W' hS' K hK; (try simp only [Act.put, List.setIfInBounds_toArray, List.set_cons_zero, List.set_cons_succ] at hK); (have hS'' := hS'); (obtain ⟨s0, s1, s2⟩ := hS''); go_simp; (first | exact hK _ hS' | (with_reducible refine Calls.mono (countB ln _) ?_; rintro e W'' ⟨rfl, hb''⟩; exact hK _ (hSB _ _ hS' hb''))); done)); (try simp only [Act.put, List.setIfInBounds_toArray, List.set_cons_zero, List.set_cons_succ])); unfold chain)); (rintro W' ⟨s0, s1, s2⟩); (clear hSB))
  have HB2 := Lib.hid (HB1.out.trans (s0.mono HB1.out.size))
  clear s0 s1 s2
  go_wp2
  go_ret
  refine ⟨?_, HB2.out⟩
  have hw : IntKind.i64.wrap (IntKind.i64.wrap (64 * (th - 1)) * (cnt ln : Nat)) = (a : Int) * (cnt ln : Nat) := by rw [HA.out, hw2, hw3]
  show Ending.returned (Value.int .i64 (IntKind.i64.wrap (IntKind.i64.wrap (64 * (th - 1)) * (cnt ln : Nat)))) = _
  rw [hw, HR.out, if_pos trivial]
 ·have hne : (ce != 0) = true := by simpa using e0
  have HE := Lib.hid e0
  clear e0
  go_wp2
  go_ret
  exact ⟨by rw [HR.out, if_neg HE.out]; rfl, HB1.out⟩
end Go.Proofs.YtccgfladbibjbaaGreatDoor
namespace Go.Proofs.YtccgfladbibjbaaGreatDoor
open Go.RowKit Go.Shelf
attribute [local go_sem ↓] add_UU sub_UU mul_UU add_UL add_LU sub_UL sub_LU mul_UL neg_at not_at and_UU or_UU xor_UU andNot_UU and_UL or_LU shr_UL shl_UL shr_UN shl_UN shl_LN quo_UL rem_UL quo_UU rem_UU
attribute [local go_sem] wrap64_N wrapi_mod wrap8_U wrap32_U wrap64_B wrap32_B wrap8_D wrapi_B wrap64_UU eq_UU ne_UU eq_UL ne_UL lt_UU le_UU
attribute [local simp] putAgg_size
attribute [local go_sem ↓] loadVar_F loadVar_E loadVar_V loadVar_B32 storeVar_F storeVar_E storeVar_V storeVar_B32 box_F box_E box_V box_B32
attribute [local go_sem ↓ high] V4.cells_val FP.cells_val
attribute [local go_sem] run_loadF run_loadE run_loadV run_loadB32 run_storeF run_storeE run_storeV run_storeB32 run_boxA aggAt_drew aggAt_drewN aggAt_alloc_new aggAt_alloc_past aggAt_setCell_other aggAt_putAgg_other aggAt_putAgg_new putAgg_drew putAgg_size putAgg_alloc_new putAgg_alloc_past putAgg_cell_other putAgg_frozen_other V4.agg_arr FP.agg_arr V4.size_arr FP.size_arr V4.fits FP.fits fitsA_agg4 lt_2 ne_2 en_2 lt_3 ne_3 en_3 lt_4 ne_4 en_4 lt_5 ne_5 en_5 lt_6 ne_6 en_6
attribute [local go_sem] Oper.semAt_some
def blankV (q : Pa) (k : Nat) : Value := .agg #[.int .i64 q.field, .int .i64 q.thr, .int .i64 ((k : Int) + 1), .int .i64 q.len, .slice none 0 0]
def encS (q : Pa) (n : Nat) : List (Array Value) := (List.range n).map fun k : Nat => #[blankV q k]
theorem encS_length (q : Pa) (n : Nat) : (encS q n).length = n := by simp [encS]
theorem encS_at (q : Pa) (n k : Nat) (h : k < n) : (encS q n)[k]? = some #[blankV q k] := by
 unfold encS
 rw [List.getElem?_map, List.getElem?_range h]; rfl
theorem encS_get {q : Pa} {n k : Nat} {x : Array Value} (h : (encS q n)[k]? = some x) : k < n ∧ x = #[blankV q k] := by
 have hk := (List.getElem?_eq_some_iff.1 h).1
 rw [encS_length] at hk
 rw [encS_at q n k hk] at h
 exact ⟨hk, (Option.some.inj h).symm⟩
theorem blank (q : Pa) (w : World) : Calls Tryz.prog 49 #[q.val] w fun e w' => e = .returned (.func (.func 81) #[] #[.pointer (some ⟨w.heap.size, 0, none⟩)]) ∧ w' = w.alloc (.cells q.cells 48) := by
 obtain ⟨fd, th, sh, ln⟩ := q
 unfold Pa.val Pa.cells
 simp only []
 go_enter Tryz.func49, Tryz.ntmps49
 go_wp2
 go_ret
 exact ⟨rfl, rfl⟩
set_option maxRecDepth 100000 in
set_option maxHeartbeats 1000000 in
theorem blank1 (m : Nat) (q : Pa) (n : Nat) (hq : q.shr = n) (hn : n ≤ 255) (Bx : Nat) (w : World) (hBx : w.heap[Bx]? = some (.cells q.cells 48 (0, 0))) (p : Nat → Prop) (hp : p Bx) (s : Bool) :
  Gives m 81 #[.pointer (some ⟨Bx, 0, none⟩)] p s (encS q n) w := by
 intro lo J W hW hJ hY h0
 have hBx' := (hW.block Bx (Array.getElem?_eq_some_iff.1 hBx).1).trans hBx
 have HW := Lib.hid hBx'
 have hlt0 : Bx < W.heap.size := (Array.getElem?_eq_some_iff.1 hBx').1
 clear hBx hBx' hW
 rw [encS_length]
 have hcell : ∀ V, Keeps p s W.heap.size W V → V.cell? ⟨Bx, 0, none⟩ = some (.int .i64 q.field) ∧ V.cell? ⟨Bx, 1, none⟩ = some (.int .i64 q.thr) ∧ V.cell? ⟨Bx, 2, none⟩ = some (.int .i64 n) ∧ V.cell? ⟨Bx, 3, none⟩ = some (.int .i64 q.len) := fun V hV => by
  have hB := (hV.2 Bx hlt0 (.inl hp)).trans HW.out
  unfold World.cell?
  simp only [hB]
  rw [← hq]
  exact ⟨rfl, rfl, rfl, rfl⟩
 have HC := Lib.hid hcell
 clear hcell HW
 refine callsIn_of_wp Tryz.func81 rfl trivial ?_ rfl
 simp only [Tryz.ntmps81, List.size_toArray, List.length_cons, List.length_nil, Nat.reduceAdd, Nat.reduceSub, Array.replicate_succ, Array.replicate_zero, List.push_toArray, List.append_toArray, List.nil_append, List.cons_append]
 obtain ⟨c0, c1, c2, c3⟩ := HC.out W (Keeps.refl _ _ _ _)
 gi_wp2
 clear c0 c1 c2 c3
 gi_loopw [6] (fun i wr => ∃ k : Nat, k ≤ n ∧ i = .int .i64 (k : Int) ∧ J k wr ∧ Keeps p s W.heap.size W wr) (fun i _ => n - (intOf i).toNat)
 case atStart => exact ⟨0, Nat.zero_le _, rfl, h0, Keeps.refl _ _ _ _⟩
 case round =>
  obtain ⟨k, hk, rfl, hJs, hK⟩ := hrel
  by_cases hlt : k < n
  ·have hm1 : (k : Int) < (n : Int) := by omega
   obtain ⟨fn, tmps, assign, body, hy, hR⟩ := hY k _ wr (encS_at q n k hlt) hJs
   obtain ⟨c0, c1, c2, c3⟩ := HC.out wr hK
   have hw1 : IntKind.i64.wrap ((k : Int) + 1) = (k : Int) + 1 := by rw [IntKind.wrap_i64]; omega
   unfold blankV at hy
   gi_wp2
   refine ⟨fun h => (by simp [Fence.wide] at h), hR.mono ?_⟩
   rintro e W3 ⟨rfl, hJ3, hk3⟩
   gi_wp2
   go_roundw
   case rel => exact ⟨k + 1, by omega, by go_num, hJ3, hK.trans hk3⟩
   case measure => (first | (simp [intOf]; done) | (simp [intOf]; omega))
  ·obtain rfl : k = n := by omega
   gi_wp2
   go_end0
   exact ⟨⟨_, rfl⟩, hJs⟩
end Go.Proofs.YtccgfladbibjbaaGreatDoor
namespace Go.Proofs.YtccgfladbibjbaaGreatDoor
open Go.RowKit
attribute [local go_sem ↓] add_UU sub_UU mul_UU add_UL add_LU sub_UL sub_LU mul_UL neg_at not_at and_UU or_UU xor_UU andNot_UU and_UL or_LU shr_UL shl_UL shr_UN shl_UN shl_LN quo_UL rem_UL quo_UU rem_UU
attribute [local go_sem] wrap64_N wrapi_mod wrap8_U wrap32_U wrap64_B wrap32_B wrap8_D wrapi_B wrap64_UU eq_UU ne_UU eq_UL ne_UL lt_UU le_UU
attribute [local simp] putAgg_size
attribute [local go_sem ↓] loadVar_F loadVar_E loadVar_V loadVar_B32 storeVar_F storeVar_E storeVar_V storeVar_B32 box_F box_E box_V box_B32
attribute [local go_sem ↓ high] V4.cells_val FP.cells_val
attribute [local go_sem] run_loadF run_loadE run_loadV run_loadB32 run_storeF run_storeE run_storeV run_storeB32 run_boxA aggAt_drew aggAt_drewN aggAt_alloc_new aggAt_alloc_past aggAt_setCell_other aggAt_putAgg_other aggAt_putAgg_new putAgg_drew putAgg_size putAgg_alloc_new putAgg_alloc_past putAgg_cell_other putAgg_frozen_other V4.agg_arr FP.agg_arr V4.size_arr FP.size_arr V4.fits FP.fits fitsA_agg4 lt_2 ne_2 en_2 lt_3 ne_3 en_3 lt_4 ne_4 en_4 lt_5 ne_5 en_5 lt_6 ne_6 en_6
theorem headerOf (s : Sh) (A : Option Addr) (cap : Nat) (w : World) :
  Calls Tryz.prog 103 #[s.val A cap] w fun e w' => e = .returned (.agg #[.int .i64 s.field, .int .i64 s.thr, .int .i64 s.len]) ∧ Below w.heap.size w w' := by
 obtain ⟨fd, th, ix, ln, P⟩ := s
 unfold Sh.val Sh.cells
 simp only []
 go_enter Tryz.func103, Tryz.ntmps103
 go_wp2
 exact end_c (v := .agg #[.int .i64 fd, .int .i64 th, .int .i64 ln]) Tryz.results103 rfl (by go_simp) rfl ⟨rfl, (by repeat (first | with_reducible assumption | with_reducible exact Below.refl _ _ | (with_reducible refine putAgg_below ?_ (by first | omega | (simp; done) | (simp; omega))) | (with_reducible refine Below.alloc ?_ (by first | omega | (simp; done) | (simp; omega)) _) | (with_reducible refine Below.setCell ?_ (by first | omega | (simp; done) | (simp; omega)) _) | (with_reducible refine Below.drew ?_) | (with_reducible refine Below.trans ?_ (Below.mono (by with_reducible assumption) (by first | omega | (simp; done) | (simp; omega))))))⟩
end Go.Proofs.YtccgfladbibjbaaGreatDoor
namespace Go.Proofs.YtccgfladbibjbaaGreatDoor
open Go.RowKit
attribute [local go_sem ↓] add_UU sub_UU mul_UU add_UL add_LU sub_UL sub_LU mul_UL neg_at not_at and_UU or_UU xor_UU andNot_UU and_UL or_LU shr_UL shl_UL shr_UN shl_UN shl_LN quo_UL rem_UL quo_UU rem_UU
attribute [local go_sem] wrap64_N wrapi_mod wrap8_U wrap32_U wrap64_B wrap32_B wrap8_D wrapi_B wrap64_UU eq_UU ne_UU eq_UL ne_UL lt_UU le_UU
attribute [local simp] putAgg_size
attribute [local go_sem ↓] loadVar_F loadVar_E loadVar_V loadVar_B32 storeVar_F storeVar_E storeVar_V storeVar_B32 box_F box_E box_V box_B32
attribute [local go_sem ↓ high] V4.cells_val FP.cells_val
attribute [local go_sem] run_loadF run_loadE run_loadV run_loadB32 run_storeF run_storeE run_storeV run_storeB32 run_boxA aggAt_drew aggAt_drewN aggAt_alloc_new aggAt_alloc_past aggAt_setCell_other aggAt_putAgg_other aggAt_putAgg_new putAgg_drew putAgg_size putAgg_alloc_new putAgg_alloc_past putAgg_cell_other putAgg_frozen_other V4.agg_arr FP.agg_arr V4.size_arr FP.size_arr V4.fits FP.fits fitsA_agg4 lt_2 ne_2 en_2 lt_3 ne_3 en_3 lt_4 ne_4 en_4 lt_5 ne_5 en_5 lt_6 ne_6 en_6
structure ShA where
 s : Sh
 A : Option Addr
 cap : Nat
def ShA.cells (x : ShA) : Array Value := x.s.cells x.A x.cap
def shVals : List ShA → List Value
 | [] => []
 | x :: r => x.cells.toList ++ shVals r
theorem shVals_length : ∀ l : List ShA, (shVals l).length = l.length * 5
 | [] => rfl
 | x :: r => by rw [shVals, List.length_append, shVals_length r, List.length_cons]; show 5 + _ = _; omega
theorem shVals_get : ∀ (l : List ShA) (k j : Nat) (h : k < l.length), j < 5 → (shVals l)[k * 5 + j]? = (l[k]).cells[j]?
 | [], _, _, h, _ => by simp at h
 | x :: r, 0, j, _, hj => by
  rw [shVals, Nat.zero_mul, Nat.zero_add, List.getElem?_append_left (by show j < 5; exact hj), Array.getElem?_toList]
  rfl
 | x :: r, k + 1, j, h, hj => by
  have h5 : x.cells.toList.length = 5 := rfl
  rw [shVals, List.getElem?_append_right (by rw [h5]; omega), h5, show (k + 1) * 5 + j - 5 = k * 5 + j from by omega, shVals_get r k j (by simpa using h) hj]
  rfl
theorem shVals_append : ∀ a b : List ShA, shVals (a ++ b) = shVals a ++ shVals b
 | [], _ => rfl
 | x :: a, b => by rw [List.cons_append, shVals, shVals_append a b, shVals, List.append_assoc]
theorem shVals_one : ∀ (l : List ShA), ∀ u ∈ shVals l, u.oneCell' = true
 | [], u, h => by simp [shVals] at h
 | x :: r, u, h => by
  rw [shVals, List.mem_append] at h
  rcases h with h | h
  ·simp [ShA.cells, Sh.cells] at h
   rcases h with rfl | rfl | rfl | rfl | rfl <;> rfl
  ·exact shVals_one r u h
theorem Sees.share {w : World} {R : Option Addr} {l : List ShA} (h : Sees w R (shVals l)) (k : Nat) (hk : k < l.length) : ∃ b o, R = some ⟨b, o, none⟩ ∧ b < w.heap.size ∧
  w.cell? ⟨b, o + k * 5, none⟩ = some (.int .i64 l[k].s.field) ∧ w.cell? ⟨b, o + k * 5 + 1, none⟩ = some (.int .i64 l[k].s.thr) ∧ w.cell? ⟨b, o + k * 5 + 2, none⟩ = some (.int .i64 l[k].s.idx) ∧ w.cell? ⟨b, o + k * 5 + 3, none⟩ = some (.int .i64 l[k].s.len) ∧ w.cell? ⟨b, o + k * 5 + 4, none⟩ = some (.slice l[k].A l[k].s.pay.length l[k].cap) := by
 have hx : 0 < (shVals l).length := by rw [shVals_length]; omega
 obtain ⟨b, o, rfl, hc⟩ := h hx
 have q : ∀ j, j < 5 → w.cell? ⟨b, o + k * 5 + j, none⟩ = (l[k]).cells[j]? := fun j hj => by
  rw [Nat.add_assoc, hc _ (by rw [shVals_length]; omega), shVals_get l k j hk hj]
 exact ⟨b, o, rfl, Sees.lt h hx, q 0 (by decide), q 1 (by decide), q 2 (by decide), q 3 (by decide), q 4 (by decide)⟩
end Go.Proofs.YtccgfladbibjbaaGreatDoor
namespace Go.Proofs.YtccgfladbibjbaaGreatDoor
open Go.RowKit
attribute [local go_sem ↓] add_UU sub_UU mul_UU add_UL add_LU sub_UL sub_LU mul_UL neg_at not_at and_UU or_UU xor_UU andNot_UU and_UL or_LU shr_UL shl_UL shr_UN shl_UN shl_LN quo_UL rem_UL quo_UU rem_UU
attribute [local go_sem] wrap64_N wrapi_mod wrap8_U wrap32_U wrap64_B wrap32_B wrap8_D wrapi_B wrap64_UU eq_UU ne_UU eq_UL ne_UL lt_UU le_UU
attribute [local simp] putAgg_size
attribute [local go_sem ↓] loadVar_F loadVar_E loadVar_V loadVar_B32 storeVar_F storeVar_E storeVar_V storeVar_B32 box_F box_E box_V box_B32
attribute [local go_sem ↓ high] V4.cells_val FP.cells_val
attribute [local go_sem] run_loadF run_loadE run_loadV run_loadB32 run_storeF run_storeE run_storeV run_storeB32 run_boxA aggAt_drew aggAt_drewN aggAt_alloc_new aggAt_alloc_past aggAt_setCell_other aggAt_putAgg_other aggAt_putAgg_new putAgg_drew putAgg_size putAgg_alloc_new putAgg_alloc_past putAgg_cell_other putAgg_frozen_other V4.agg_arr FP.agg_arr V4.size_arr FP.size_arr V4.fits FP.fits fitsA_agg4 lt_2 ne_2 en_2 lt_3 ne_3 en_3 lt_4 ne_4 en_4 lt_5 ne_5 en_5 lt_6 ne_6 en_6
theorem info_I : (Tryz.prog.info? 3).map (fun i => (i.zero, i.size, i.bytes)) = some (some (.int .i64 0), 1, 8) := by kernel_rfl
def idxs (l : List ShA) : List Int := l.map fun x => x.s.idx
set_option maxRecDepth 20000 in
set_option maxHeartbeats 2000000 in
theorem indices (R : Option Addr) (cap : Nat) (l : List ShA) (hl : l.length ≤ 1048576) (w : World) (hS : Sees w R (shVals l)) :
  Calls Tryz.prog 54 #[.slice R l.length cap] w fun e w' => ∃ v, e = .returned v ∧ w'.ownsRow w.heap.size 3 1 v l.length (iVals (idxs l)) ∧ Below w.heap.size w w' := by
 obtain ⟨i0, hi0, ha0, ha1, ha2⟩ := info_parts info_I
 have HS := Lib.hid hS
 clear hS
 go_enter Tryz.func54, Tryz.ntmps54
 go_wp2
 go_loopw [3, 8] (fun v iv W => ∃ i : Nat, i ≤ l.length ∧ iv = .int .i64 i ∧ W.ownsRow w.heap.size 3 1 v i (iVals (idxs (l.take i))) ∧ Below w.heap.size w W) (fun _ iv _ => l.length - (intOf iv).toNat)
 case atStart => exact ⟨0, by omega, rfl, World.ownsRow_nil _ _ _ _, Below.refl _ _⟩
 case round =>
  obtain ⟨i, hi, rfl, hI, hB⟩ := hrel
  by_cases hlt : i < l.length
  ·have hlt' : (i : Int) < (l.length : Int) := by omega
   obtain ⟨b, o, rfl, hb, c0, c1, c2, c3, c4⟩ := (HS.out.below hB).share i hlt
   have HX := Lib.hid (show iVals (idxs (l.take (i + 1))) = iVals (idxs (l.take i)) ++ [.int .i64 l[i].s.idx] from by
    rw [List.take_succ_eq_append_getElem hlt]; unfold idxs iVals; rw [List.map_append, List.map_append]; rfl)
   have HI := Lib.hid (And.intro hI hB)
   generalize l[i] = x at *
   clear hI hB
   obtain ⟨w3, hw3⟩ : ∃ w3, w3 = (wr.alloc (.cells #[.int .i64 x.s.field, .int .i64 x.s.thr, .int .i64 x.s.idx, .int .i64 x.s.len, .slice x.A x.s.pay.length x.cap] 26)).alloc (.cells #[.int .i64 x.s.idx] 3) := ⟨_, rfl⟩
   have hb3 : Below wr.heap.size wr w3 := by rw [hw3]; exact ((Below.refl _ wr).alloc (Nat.le_refl _) _).alloc (by simp) _
   have hS3 : Sees w3 (some ⟨wr.heap.size + 1, 0, none⟩) [.int .i64 x.s.idx] := fun _ => ⟨_, _, rfl, fun j hj => by
    have hj0 : j = 0 := by simpa using hj
    subst hj0
    rw [hw3, World.cell?_alloc_at _ _ _ _ (by simp)]; rfl⟩
   have hz3 : w.heap.size ≤ w3.heap.size := Nat.le_trans HI.out.2.size hb3.size
   have hown3 : w3.ownsRow w.heap.size 3 1 u3 i (iVals (idxs (l.take i))) := HI.out.1.kept (row := none) ⟨hb3.os, hb3.tape, hb3.output, hb3.size, fun k hk _ => hb3.block k hk⟩ (by cases u3.ownBlock <;> simp)
   have HB3 := Lib.hid hb3
   have HO3 := Lib.hid (And.intro hown3 hS3)
   clear hb3 hS3 hown3
   go_wp2_with (at_builtin; rw [← hw3]; refine wpList_append_sees rfl (.tmp 12) (.tmp 15) 101 rfl w.heap.size 3 i0 _ 1 8 Tryz.underlying101 hi0 ha0 ha1 ha2 rfl (by decide) u3 i _ rfl HO3.out.1 (some ⟨wr.heap.size + 1, 0, none⟩) 1 1 [.int .i64 x.s.idx] rfl rfl HO3.out.2 (by simp; rfl) (by unfold maxLen; omega) (by omega) hz3 ?_)
   intro v' w4 hown hg _
   rw [← hw3] at hg
   have HR := Lib.hid (show w4.ownsRow w.heap.size 3 1 v' (i + 1) (iVals (idxs (l.take (i + 1)))) ∧ Below w.heap.size w w4 from ⟨by rw [HX.out]; exact hown, (HI.out.2.trans (HB3.out.mono HI.out.2.size)).grown hg hz3 (fun k hk => (HO3.out.1.lt k hk).1)⟩)
   clear hown hg HO3 HB3 hw3 HI
   go_wp2
   go_roundw
   case rel => exact ⟨i + 1, by omega, by go_num, HR.out⟩
   case measure => (first | (simp [intOf]; done) | (simp [intOf]; omega))
  ·obtain rfl : i = l.length := by omega
   rw [List.take_length] at hI
   go_wp2
   go_ret
   exact ⟨u3, rfl, hI, hB⟩
end Go.Proofs.YtccgfladbibjbaaGreatDoor
