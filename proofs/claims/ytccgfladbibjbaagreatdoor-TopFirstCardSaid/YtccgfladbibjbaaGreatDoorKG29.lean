/- source.New, check, Take, Element. -/
import Derived.Test.YtccgfladbibjbaaGreatDoorKG27
import Derived.Test.YtccgfladbibjbaaGreatDoorKG15
import Derived.Test.YtccgfladbibjbaaGreatDoorKG24
namespace Go.Proofs.YtccgfladbibjbaaGreatDoor
open Go.RowKit
attribute [local go_sem ↓] add_UU sub_UU mul_UU add_UL add_LU sub_UL sub_LU mul_UL neg_at not_at and_UU or_UU xor_UU andNot_UU and_UL or_LU shr_UL shl_UL shr_UN shl_UN shl_LN quo_UL rem_UL quo_UU rem_UU
attribute [local go_sem] wrap64_N wrapi_mod wrap8_U wrap32_U wrap64_B wrap32_B wrap8_D wrapi_B wrap64_UU eq_UU ne_UU eq_UL ne_UL lt_UU le_UU
attribute [local simp] putAgg_size
attribute [local go_sem ↓] loadVar_F loadVar_E loadVar_V loadVar_B32 storeVar_F storeVar_E storeVar_V storeVar_B32 box_F box_E box_V box_B32
attribute [local go_sem ↓ high] V4.cells_val FP.cells_val
attribute [local go_sem] run_loadF run_loadE run_loadV run_loadB32 run_storeF run_storeE run_storeV run_storeB32 run_boxA aggAt_drew aggAt_drewN aggAt_alloc_new aggAt_alloc_past aggAt_setCell_other aggAt_putAgg_other aggAt_putAgg_new putAgg_drew putAgg_size putAgg_alloc_new putAgg_alloc_past putAgg_cell_other putAgg_frozen_other V4.agg_arr FP.agg_arr V4.size_arr FP.size_arr V4.fits FP.fits fitsA_agg4 lt_2 ne_2 en_2 lt_3 ne_3 en_3 lt_4 ne_4 en_4 lt_5 ne_5 en_5 lt_6 ne_6 en_6
def IsSrc (W : World) (b : Nat) (A : Option Addr) (cap : Nat) (l : List (BitVec 8)) : Prop := W.heap[b]? = some (.cells #[.slice A l.length cap] 201 (0, 0)) ∧ Sees W A (byteVals l) ∧ l.length ≤ cap
set_option maxHeartbeats 1000000 in
theorem srcCheck (b : Nat) (A : Option Addr) (cap : Nat) (l : List (BitVec 8)) (n size : Nat) (hs : 0 < size) (h : n * size ≤ l.length) (hl : l.length ≤ 1099511627776) (w : World) (hb : IsSrc w b A cap l) :
  Calls Tryz.prog 139 #[.pointer (some ⟨b, 0, none⟩), .int .i64 n, .int .i64 size] w fun e w' => e = .returned (.int .i64 0) ∧ w' = w := by
 have hc := cell_of_block hb.1
 have hn0 : ¬ ((n : Int) < 0) := by omega
 have hnq : n ≤ l.length / size := (Nat.le_div_iff_mul_le hs).2 h
 have hql : l.length / size ≤ l.length := Nat.div_le_self _ _
 have hw : IntKind.i64.wrap ((l.length : Int) / (size : Int)) = ((l.length / size : Nat) : Int) := by
  rw [← Int.natCast_ediv, IntKind.wrap_i64]; omega
 have hw' : wrap64 ((l.length : Int) / (size : Int)) = ((l.length / size : Nat) : Int) := by rw [← IntWalk.i64_left]; exact hw
 rw [← Int.natCast_ediv] at hw hw'
 have hd : decide (((l.length / size : Nat) : Int) < (n : Int)) = false := decide_eq_false (by omega)
 clear hb h hl
 generalize hq : l.length / size = q at *
 have hcast : ((l.length : Int) / (size : Int)) = (q : Int) := by rw [← Int.natCast_ediv, hq]
 clear hq
 go_enter Tryz.func139, Tryz.ntmps139
 go_wp2
 go_ret
 exact ⟨rfl, rfl⟩
theorem srcNew (A : Option Addr) (cap : Nat) (l : List (BitVec 8)) (hl : l.length ≤ 1099511627776) (w : World) (hs : Sees w A (byteVals l)) :
  Calls Tryz.prog 119 #[.slice A l.length cap] w fun e w' => ∃ b A' cap', e = .returned (.pointer (some ⟨b, 0, none⟩)) ∧ w.heap.size ≤ b ∧ (∀ a, A' = some a → w.heap.size ≤ a.block ∧ a.block < b) ∧ IsSrc w' b A' cap' l ∧ Below w.heap.size w w' := by
 have HC := Lib.hid (cloneB A cap l hl w hs)
 clear hs
 go_enter Tryz.func119, Tryz.ntmps119
 go_wp2_with fail
 refine HC.out.mono ?_
 rintro e w1 ⟨v, rfl, hv, hb1⟩
 obtain ⟨A', cap', rfl, hcp, hS, hA⟩ := hv.open
 have hlt : ∀ a, A' = some a → w.heap.size ≤ a.block ∧ a.block < w1.heap.size := fun a e => by subst e; exact hv.lt a.block rfl
 have HV := Lib.hid (And.intro hcp (And.intro hS (And.intro hlt hb1)))
 clear HC hv hcp hS hA hlt hb1
 go_wp2
 go_ret
 obtain ⟨hcp, hS, hlt, hb1⟩ := HV.out
 exact ⟨w1.heap.size, A', cap', rfl, hb1.size, hlt, ⟨heap_alloc_new w1 _, hS.alloc _, hcp⟩, hb1.alloc hb1.size _⟩
theorem Sees.kept {w w' : World} {row : Option Nat} {A : Option Addr} {xs : List Value} (h : Sees w A xs) (hg : w.grownBy w' row) (hne : ∀ g o, A = some ⟨g, o, none⟩ → some g ≠ row) : Sees w' A xs := by
 intro hx
 obtain ⟨b, o, rfl, hc⟩ := h hx
 have hlt := Sees.lt h hx
 exact ⟨b, o, rfl, fun j hj => (World.cell?_of_block (hg.block b hlt (hne b o rfl))).trans (hc j hj)⟩
theorem _root_.Go.World.grownBy.trans' {a b c : World} {row : Option Nat} (h : a.grownBy b row) (k : b.grownBy c row) : a.grownBy c row := ⟨k.os.trans h.os, k.tape.trans h.tape, k.output.trans h.output, Nat.le_trans h.size k.size, fun j hj hn => (k.block j (Nat.lt_of_lt_of_le hj h.size) hn).trans (h.block j hj hn)⟩
set_option maxRecDepth 20000 in
set_option maxHeartbeats 1000000 in
theorem srcTake (b : Nat) (A : Option Addr) (cap : Nat) (l : List (BitVec 8)) (n : Nat) (hn : n ≤ l.length) (hl : l.length ≤ 1099511627776) (w : World) (hb : IsSrc w b A cap l) (hA : ∀ a, A = some a → a.block ≠ b) :
  Calls Tryz.prog 147 #[.pointer (some ⟨b, 0, none⟩), .int .i64 n] w fun e w' => ∃ v, e = .returned (.tuple #[v, .int .i64 0]) ∧ OwnB w' w.heap.size v (l.take n) ∧ IsSrc w' b (cutA A n cap) (cap - n) (l.drop n) ∧ w.grownBy w' (some b) := by
 have HK := Lib.hid (srcCheck b A cap l n 1 (by decide) (by omega) hl w hb)
 have hC := cloneB A cap (l.take n) (by rw [List.length_take]; omega) w (by
  have := hb.2.1.take n
  unfold byteVals at *
  rwa [← List.map_take] at this)
 rw [List.length_take, Nat.min_eq_left hn] at hC
 have HC := Lib.hid hC
 have HB := Lib.hid hb
 have hc := cell_of_block hb.1
 have hbz : b < w.heap.size := (Array.getElem?_eq_some_iff.1 hb.1).1
 have s1 := cut_h A l.length cap n (Nat.le_trans hn hb.2.2) .i64
 have s2 := cut_l A l.length cap n hn .i64
 clear hb hC
 go_enter Tryz.func147, Tryz.ntmps147
 go_wp2_with fail
 refine HK.out.mono ?_
 rintro e w1 ⟨rfl, rfl⟩
 go_wp2_with fail
 refine HC.out.mono ?_
 rintro e w2 ⟨v, rfl, hv, hb2⟩
 have hbx2 : Boxed w2 b 201 (.slice A l.length cap) := (hb2.block b hbz).trans HB.out.1
 have hc2 := hbx2.cell
 have hf2 := hbx2.frozen
 have HV := Lib.hid (And.intro hv (And.intro hb2 hbx2))
 clear HK HC hc hv hb2 hbx2
 go_wp2
 go_ret2
 obtain ⟨hv, hb2, hbx2⟩ := HV.out
 have hset := grownBy_setCell' w2 b (.slice (cutA A n cap) (l.length - n) (cap - n))
 have hg0 : w1.grownBy w2 (some b) := ⟨hb2.os, hb2.tape, hb2.output, hb2.size, fun k hk _ => hb2.block k hk⟩
 have hbx3 := hbx2.set (.slice (cutA A n cap) (l.length - n) (cap - n))
 refine ⟨v, rfl, hv.kept hset ?_, ⟨by rw [List.length_drop]; exact hbx3, ?_, by rw [List.length_drop]; have := HB.out.2.2; omega⟩, hg0.trans' hset⟩
 ·cases hw : v.ownBlock with
  | none => exact .inl rfl
  | some k => exact .inr fun e => by injection e with e; have := (hv.lt k hw).1; omega
 ·have h1 := (HB.out.2.1.below hb2).cut n cap (by rw [byteVals_length]; exact HB.out.2.2)
  have h2 : (byteVals l).drop n = byteVals (l.drop n) := by unfold byteVals; rw [List.map_drop]
  rw [h2] at h1
  exact h1.kept hset fun g o e e' => by
   injection e' with e'
   exact cutA_block hA _ e e'
theorem grown_below {w w' w'' : World} {row : Option Nat} (h : w.grownBy w' row) (hb : Below w.heap.size w' w'') : w.grownBy w'' row :=
 ⟨hb.os.trans h.os, hb.tape.trans h.tape, hb.output.trans h.output, Nat.le_trans h.size hb.size, fun k hk hne => (hb.block k hk).trans (h.block k hk hne)⟩
theorem IsSrc.below {w w' : World} {b : Nat} {A : Option Addr} {cap : Nat} {l : List (BitVec 8)} (h : IsSrc w b A cap l) (hb : Below w.heap.size w w') : IsSrc w' b A cap l :=
 ⟨(hb.block b (Array.getElem?_eq_some_iff.1 h.1).1).trans h.1, h.2.1.below hb, h.2.2⟩
theorem IsSrc.kept {w w' : World} {b g : Nat} {A : Option Addr} {cap : Nat} {l : List (BitVec 8)} (h : IsSrc w b A cap l) (hg : w.grownBy w' (some g)) (hb : b ≠ g) (hA : ∀ a, A = some a → a.block ≠ g) : IsSrc w' b A cap l :=
 ⟨(hg.block b (Array.getElem?_eq_some_iff.1 h.1).1 (fun e => by injection e with e; exact hb e)).trans h.1, h.2.1.kept hg (fun g' o e e' => by injection e' with e'; exact hA _ e e'), h.2.2⟩
set_option maxRecDepth 20000 in
set_option maxHeartbeats 1000000 in
theorem srcElement (f : FP) (b : Nat) (A : Option Addr) (cap : Nat) (l : List (BitVec 8)) (hn : 64 ≤ l.length) (hl : l.length ≤ 1099511627776) (w : World) (hb : IsSrc w b A cap l) (hA : ∀ a, A = some a → a.block ≠ b) (hAz : ∀ a, A = some a → a.block < w.heap.size) :
  Calls Tryz.prog 140 #[.pointer (some ⟨b, 0, none⟩), f.val] w fun e w' => e = .returned (.tuple #[(wideX f (l.take 64)).val, .int .i64 0]) ∧ IsSrc w' b (cutA A 64 cap) (cap - 64) (l.drop 64) ∧ w.grownBy w' (some b) := by
 have hbz : b < w.heap.size := (Array.getElem?_eq_some_iff.1 hb.1).1
 have HT := Lib.hid (fun W (hW : Below w.heap.size w W) => srcTake b A cap l 64 hn hl W (hb.below hW) hA)
 have hl64 : (l.take 64).length = 64 := by rw [List.length_take]; omega
 have HA := Lib.hid hA
 clear hb hA
 go_enter Tryz.func140, Tryz.ntmps140
 go_wp2_with fail
 (obtain ⟨W0, hW0⟩ : ∃ W0 : World, W0 = ((w).alloc (.cells f.arr 67)).alloc (.cells #[.int .u64 0, .int .u64 0, .int .u64 0, .int .u64 0] 50) := ⟨_, rfl⟩); (have gW0 : ∀ (j : Nat) (o : Obj), ([Obj.cells f.arr 67, Obj.cells #[.int .u64 0, .int .u64 0, .int .u64 0, .int .u64 0] 50] : List Obj)[j]? = some o → W0.heap[w.heap.size + j]? = some o := by rw [hW0]; exact allocs_get w _); (have zW0 : W0.heap.size = w.heap.size + 2 := by rw [hW0]; exact allocs_size w [Obj.cells f.arr 67, Obj.cells #[.int .u64 0, .int .u64 0, .int .u64 0, .int .u64 0] 50]); (have bW0 : Below w.heap.size w W0 := by rw [hW0]; exact allocs_below w [Obj.cells f.arr 67, Obj.cells #[.int .u64 0, .int .u64 0, .int .u64 0, .int .u64 0] 50]); (rw [← hW0]); (clear hW0)
 refine (HT.out W0 bW0).mono ?_
 rintro e w1 ⟨v, rfl, hv, hs1, hg1⟩
 obtain ⟨A', cap', rfl, hcp, hS, hA'⟩ := hv.open
 rw [hl64] at hcp ⊢
 obtain ⟨g, o, rfl, hr⟩ := hS.range (by rw [byteVals_length, hl64]; decide)
 obtain ⟨_, rfl⟩ := hA' g o rfl
 have hF1 : w1.heap[w.heap.size]? = some (.cells f.arr 67 (0, 0)) := (hg1.block _ (by omega) (fun e => by injection e; omega)).trans (gW0 0 _ rfl)
 have hZ1 : w1.heap[w.heap.size + 1]? = some (.cells V4.zero.arr 50 (0, 0)) := (hg1.block _ (by omega) (fun e => by injection e; omega)).trans (gW0 1 _ rfl)
 have hz1 : w.heap.size + 2 ≤ w1.heap.size := by have := hg1.size; omega
 have HG := Lib.hid (show w.grownBy w1 (some b) ∧ IsSrc w1 b (cutA A 64 cap) (cap - 64) (l.drop 64) ∧ w1.heap[w.heap.size + 1]? = some (.cells V4.zero.arr 50 (0, 0)) from
  ⟨(grown_below (World.grownBy.refl w (some b)) bW0).trans' hg1, hs1, hZ1⟩)
 have pF := aggF_of_block hF1
 have HW := Lib.hid (bcWide f g 0 cap' (l.take 64) hl64 hcp w1 hr)
 clear hF1 hZ1 hg1 hs1 hr hS hA' hv gW0 bW0 zW0 HT
 obtain ⟨x, hx⟩ : ∃ x, wideX f (l.take 64) = x := ⟨_, rfl⟩
 rw [hx] at HW
 have HX := Lib.hid hx
 clear hx
 go_wp2_with fail
 refine HW.out.mono ?_
 rintro e w2 ⟨rfl, hb2⟩
 have hZ2 : w2.heap[w.heap.size + 1]? = some (.cells V4.zero.arr 50 (0, 0)) := (hb2.block _ (by omega)).trans HG.out.2.2
 have pZ := agg_of_block hZ2
 have hz2 := hb2.size
 have HG2 := Lib.hid (show w.grownBy w2 (some b) ∧ IsSrc w2 b (cutA A 64 cap) (cap - 64) (l.drop 64) from ⟨grown_below HG.out.1 (hb2.mono (by omega)), HG.out.2.1.below hb2⟩)
 clear hb2 HW HG pF hZ2
 have hAb := cutA_block (l := 64) (m := cap) HA.out
 go_wp2_with ((with_reducible show bodyPost _ _ _ _ _ _); exact end_ct Tryz.results140 rfl (atE (v := x.val) (by go_simp)) rfl ⟨(by rw [HX.out]; rfl), HG2.out.2.kept (g := w.heap.size + 1) ⟨rfl, rfl, rfl, Nat.le_of_eq (putAgg_size _ _ _ _).symm, fun k _ hk => putAgg_block _ _ _ _ k (fun e => hk (by rw [e]))⟩ (by omega) (fun a e => by have := cutA_block (g := w.heap.size + 1) (l := 64) (m := cap) (fun a e => by have := hAz a e; omega) a e; exact this), grown_below HG2.out.1 (putAgg_below (Below.refl _ w2) (by omega))⟩)
end Go.Proofs.YtccgfladbibjbaaGreatDoor
namespace Go.Proofs.YtccgfladbibjbaaGreatDoor
open Go.RowKit
attribute [local go_sem ↓] add_UU sub_UU mul_UU add_UL add_LU sub_UL sub_LU mul_UL neg_at not_at and_UU or_UU xor_UU andNot_UU and_UL or_LU shr_UL shl_UL shr_UN shl_UN shl_LN quo_UL rem_UL quo_UU rem_UU
attribute [local go_sem] wrap64_N wrapi_mod wrap8_U wrap32_U wrap64_B wrap32_B wrap8_D wrapi_B wrap64_UU eq_UU ne_UU eq_UL ne_UL lt_UU le_UU
attribute [local simp] putAgg_size
attribute [local go_sem ↓] loadVar_F loadVar_E loadVar_V loadVar_B32 storeVar_F storeVar_E storeVar_V storeVar_B32 box_F box_E box_V box_B32
attribute [local go_sem ↓ high] V4.cells_val FP.cells_val
attribute [local go_sem] run_loadF run_loadE run_loadV run_loadB32 run_storeF run_storeE run_storeV run_storeB32 run_boxA aggAt_drew aggAt_drewN aggAt_alloc_new aggAt_alloc_past aggAt_setCell_other aggAt_putAgg_other aggAt_putAgg_new putAgg_drew putAgg_size putAgg_alloc_new putAgg_alloc_past putAgg_cell_other putAgg_frozen_other V4.agg_arr FP.agg_arr V4.size_arr FP.size_arr V4.fits FP.fits fitsA_agg4 lt_2 ne_2 en_2 lt_3 ne_3 en_3 lt_4 ne_4 en_4 lt_5 ne_5 en_5 lt_6 ne_6 en_6
theorem IsSrc.grown {w w' : World} {b : Nat} {row : Option Nat} {A : Option Addr} {cap : Nat} {l : List (BitVec 8)} (h : IsSrc w b A cap l) (hg : w.grownBy w' row) (hb : some b ≠ row) (hA : ∀ a, A = some a → some a.block ≠ row) : IsSrc w' b A cap l :=
 ⟨(hg.block b (Array.getElem?_eq_some_iff.1 h.1).1 hb).trans h.1, h.2.1.kept hg (fun _ _ e => hA _ e), h.2.2⟩
theorem cutA_same {A : Option Addr} {l m : Nat} {a : Addr} (h : cutA A l m = some a) : ∃ a', A = some a' ∧ a.block = a'.block := by
 unfold cutA at h
 split at h
 ·exact ⟨a, h, rfl⟩
 ·cases A with
  | none => cases h
  | some a' =>
   simp at h
   subst h
   refine ⟨a', rfl, ?_⟩
   unfold Addr.add
   split <;> rfl
def elemAt (f : FP) (l : List (BitVec 8)) (j : Nat) : V4 := wideX f ((l.drop (64 * j)).take 64)
def elemsV (f : FP) (l : List (BitVec 8)) (n : Nat) : List V4 := (List.range n).map (elemAt f l)
theorem elemsV_length (f : FP) (l : List (BitVec 8)) (n : Nat) : (elemsV f l n).length = n := by simp [elemsV]
theorem elemsV_succ (f : FP) (l : List (BitVec 8)) (n : Nat) : elemsV f l (n + 1) = elemsV f l n ++ [elemAt f l n] := by simp [elemsV, List.range_succ]
def ElI (z : Nat) (w : World) (f : FP) (b : Nat) (l : List (BitVec 8)) (i : Nat) (v : Value) (W : World) : Prop :=
 W.heap[w.heap.size]? = some (.cells f.arr 67 (0, 0)) ∧ OwnE W (w.heap.size + 1) v (elemsV f l i) ∧ (∃ A cap, IsSrc W b A cap (l.drop (64 * i)) ∧ ∀ a, A = some a → a.block ≠ b ∧ a.block < z) ∧ w.grownBy W (some b) ∧ w.heap.size + 1 ≤ W.heap.size
set_option maxRecDepth 20000 in
set_option maxHeartbeats 2000000 in
theorem srcElements (f : FP) (b : Nat) (A : Option Addr) (cap : Nat) (l : List (BitVec 8)) (n : Nat) (hn : n * 64 ≤ l.length) (hl : l.length ≤ 1099511627776) (w : World) (hb : IsSrc w b A cap l) (z : Nat) (hzA : z ≤ w.heap.size) (hA : ∀ a, A = some a → a.block ≠ b ∧ a.block < z) :
  Calls Tryz.prog 120 #[.pointer (some ⟨b, 0, none⟩), f.val, .int .i64 n] w fun e w' => ∃ v A' cap', e = .returned (.tuple #[v, .int .i64 0]) ∧ OwnE w' w.heap.size v (elemsV f l n) ∧ IsSrc w' b A' cap' (l.drop (64 * n)) ∧ (∀ a, A' = some a → a.block ≠ b ∧ a.block < z) ∧ w.grownBy w' (some b) := by
 have hbz : b < w.heap.size := (Array.getElem?_eq_some_iff.1 hb.1).1
 have HK := Lib.hid (fun W (hW : Below w.heap.size w W) => srcCheck b A cap l n 64 (by decide) hn hl W (hb.below hW))
 have HB := Lib.hid (And.intro hb hA)
 obtain ⟨i0, hi0, ha0, ha1, ha2⟩ := info_parts info_E
 clear hb hA
 go_enter Tryz.func120, Tryz.ntmps120
 go_wp2_with fail
 (obtain ⟨W0, hW0⟩ : ∃ W0 : World, W0 = (w).alloc (.cells f.arr 67) := ⟨_, rfl⟩); (have gW0 : ∀ (j : Nat) (o : Obj), ([Obj.cells f.arr 67] : List Obj)[j]? = some o → W0.heap[w.heap.size + j]? = some o := by rw [hW0]; exact allocs_get w _); (have zW0 : W0.heap.size = w.heap.size + 1 := by rw [hW0]; exact allocs_size w [Obj.cells f.arr 67]); (have bW0 : Below w.heap.size w W0 := by rw [hW0]; exact allocs_below w [Obj.cells f.arr 67]); (rw [← hW0]); (clear hW0)
 refine (HK.out W0 bW0).mono ?_
 rintro e w1 ⟨rfl, rfl⟩
 have H0 := Lib.hid (show ElI z w f b l 0 (.slice none 0 0) w1 from ⟨gW0 0 _ rfl, ownE_nil _ _, ⟨A, cap, HB.out.1.below bW0, HB.out.2⟩, grown_below (World.grownBy.refl w (some b)) bW0, by omega⟩)
 clear gW0 bW0 zW0 HK HB
 go_wp2
 go_loopw [10, 22] (fun v iv W => ∃ i : Nat, i ≤ n ∧ iv = .int .i64 i ∧ ElI z w f b l i v W) (fun _ iv _ => n - (intOf iv).toNat)
 case atStart => exact ⟨0, by omega, rfl, H0.out⟩
 case round =>
  clear H0
  obtain ⟨i, hi, rfl, hI⟩ := hrel
  have HI := Lib.hid hI
  have hzW := hI.2.2.2.2
  by_cases hlt : i < n
  ·have hlt' : (i : Int) < (n : Int) := by omega
   obtain ⟨A', cap', hs, ha⟩ := hI.2.2.1
   have pF := aggF_of_block hI.1
   have hll : (l.drop (64 * i)).length = l.length - 64 * i := List.length_drop ..
   have HE := Lib.hid (srcElement f b A' cap' (l.drop (64 * i)) (by omega) (by omega) wr hs (fun a e => (ha a e).1) (fun a e => by have := (ha a e).2; omega))
   have HX := Lib.hid (show wideX f ((l.drop (64 * i)).take 64) = elemAt f l i from rfl)
   have HA := Lib.hid ha
   have hdd : (l.drop (64 * i)).drop 64 = l.drop (64 * (i + 1)) := by rw [List.drop_drop]; congr 1
   rw [hdd, HX.out] at HE
   clear hI hs ha hll hdd HX
   obtain ⟨x, hx⟩ : ∃ x, elemAt f l i = x := ⟨_, rfl⟩
   rw [hx] at HE
   have HX := Lib.hid hx
   clear hx
   go_wp2_with fail
   refine HE.out.mono ?_
   rintro e w2 ⟨rfl, hs2, hg2⟩
   obtain ⟨h1, h2, _, h4, h5⟩ := HI.out
   have HI2 := Lib.hid (show w2.heap[w.heap.size]? = some (.cells f.arr 67 (0, 0)) ∧ OwnE w2 (w.heap.size + 1) u10 (elemsV f l i) ∧ (∃ A cap, IsSrc w2 b A cap (l.drop (64 * (i + 1))) ∧ ∀ a, A = some a → a.block ≠ b ∧ a.block < z) ∧ w.grownBy w2 (some b) ∧ w.heap.size + 1 ≤ w2.heap.size from ⟨(hg2.block _ (by omega) (fun e => by injection e; omega)).trans h1, h2.kept hg2 (by
    cases hw : u10.ownBlock with
    | none => exact .inl rfl
    | some k => exact .inr fun e => by injection e with e; have := (h2.lt k hw).1; omega), ⟨_, _, hs2, fun a e => by obtain ⟨a', e', hbk⟩ := cutA_same e; rw [hbk]; exact HA.out a' e'⟩, h4.trans' hg2, Nat.le_trans h5 hg2.size⟩)
   clear h1 h2 h4 h5 hs2 hg2 HI HE HA pF
   have hbz2 : w.heap.size + 1 ≤ w2.heap.size := HI2.out.2.2.2.2
   obtain ⟨w3, hw3⟩ : ∃ w3, w3 = (w2.alloc (.cells x.arr 50)).alloc (.cells (eVals [x]).toArray 50) := ⟨_, rfl⟩
   have hb3 : Below w2.heap.size w2 w3 := by rw [hw3]; exact ((Below.refl _ w2).alloc (Nat.le_refl _) _).alloc (by simp) _
   have hS3 : Sees w3 (some ⟨w2.heap.size + 1, 0, none⟩) (eVals [x]) := by
    rw [hw3]; exact (IsEsT.new (t := 50) (w2.alloc (.cells x.arr 50)) [x] _ (by simp)).sees
   have HI3 := Lib.hid (show OwnE w3 (w.heap.size + 1) u10 (elemsV f l i) ∧ Sees w3 (some ⟨w2.heap.size + 1, 0, none⟩) (eVals [x]) from ⟨HI2.out.2.1.below hb3, hS3⟩)
   have hz3 : w.heap.size + 1 ≤ w3.heap.size := Nat.le_trans hbz2 hb3.size
   have HB3 := Lib.hid hb3
   have hin : i ≤ 1099511627776 := by omega
   clear hb3 hS3
   go_wp2_with (at_builtin; rw [fold1]; rw [← hw3]; refine wpList_append_sees rfl (.tmp 33) (.tmp 35) 24 rfl (w.heap.size + 1) 50 i0 _ 4 32 Tryz.underlying24 hi0 ha0 ha1 ha2 rfl (by decide) u10 i (eVals (elemsV f l i)) rfl ?c1 (some ⟨w2.heap.size + 1, 0, none⟩) 1 1 (eVals [x]) rfl (by rw [eVals_length]; rfl) HI3.out.2 (eVals_one _) (by unfold maxLen; omega) (by omega) hz3 ?_)
   case c1 =>
    have := HI3.out.1
    unfold OwnE at this
    rwa [elemsV_length] at this
   intro v' w4 hown hg _
   rw [← hw3] at hg
   have hlo : ∀ k, u10.ownBlock = some k → w.heap.size + 1 ≤ k := fun k e => (HI3.out.1.lt k e).1
   obtain ⟨q1, q2, ⟨A4, c4, q3, q4⟩, q5, q6⟩ := HI2.out
   have hne : ∀ k, k < w.heap.size + 1 → some k ≠ u10.ownBlock := fun k hk e => by have := hlo k e.symm; omega
   have HR := Lib.hid (show ElI z w f b l (i + 1) v' w4 from ⟨(hg.block _ (by omega) (hne _ (by omega))).trans ((HB3.out.block _ (by omega)).trans q1), by
     rw [elemsV_succ, HX.out]; exact OwnE.grew (elemsV_length f l i) hown, ⟨A4, c4, (q3.below HB3.out).grown hg (hne _ (by omega)) (fun a e => hne _ (by have := (q4 a e).2; omega)), q4⟩,
     ⟨(hg.os.trans HB3.out.os).trans q5.os, (hg.tape.trans HB3.out.tape).trans q5.tape, (hg.output.trans HB3.out.output).trans q5.output, Nat.le_trans q5.size (Nat.le_trans HB3.out.size hg.size), fun k hk hkb => (hg.block k (by have := q5.size; have := HB3.out.size; omega) (hne k (by omega))).trans ((HB3.out.block k (by have := q5.size; omega)).trans (q5.block k hk hkb))⟩, Nat.le_trans hz3 hg.size⟩)
   clear q1 q2 q3 q4 q5 q6 hown hg hlo hne HI2 HI3 HB3 hw3
   go_wp2
   go_roundw
   case rel => exact ⟨i + 1, by omega, by go_num, HR.out⟩
   case measure => (first | (simp [intOf]; done) | (simp [intOf]; omega))
  ·obtain rfl : i = n := by omega
   clear hI
   go_wp2
   go_ret2
   obtain ⟨q1, q2, ⟨A4, c4, q3, q4⟩, q5, q6⟩ := HI.out
   exact ⟨u10, A4, c4, rfl, q2.base_le (by omega), q3, q4, q5⟩
end Go.Proofs.YtccgfladbibjbaaGreatDoor
namespace Go.Proofs.YtccgfladbibjbaaGreatDoor
open Go.RowKit
attribute [local go_sem ↓] add_UU sub_UU mul_UU add_UL add_LU sub_UL sub_LU mul_UL neg_at not_at and_UU or_UU xor_UU andNot_UU and_UL or_LU shr_UL shl_UL shr_UN shl_UN shl_LN quo_UL rem_UL quo_UU rem_UU
attribute [local go_sem] wrap64_N wrapi_mod wrap8_U wrap32_U wrap64_B wrap32_B wrap8_D wrapi_B wrap64_UU eq_UU ne_UU eq_UL ne_UL lt_UU le_UU
attribute [local simp] putAgg_size
attribute [local go_sem ↓] loadVar_F loadVar_E loadVar_V loadVar_B32 storeVar_F storeVar_E storeVar_V storeVar_B32 box_F box_E box_V box_B32
attribute [local go_sem ↓ high] V4.cells_val FP.cells_val
attribute [local go_sem] run_loadF run_loadE run_loadV run_loadB32 run_storeF run_storeE run_storeV run_storeB32 run_boxA aggAt_drew aggAt_drewN aggAt_alloc_new aggAt_alloc_past aggAt_setCell_other aggAt_putAgg_other aggAt_putAgg_new putAgg_drew putAgg_size putAgg_alloc_new putAgg_alloc_past putAgg_cell_other putAgg_frozen_other V4.agg_arr FP.agg_arr V4.size_arr FP.size_arr V4.fits FP.fits fitsA_agg4 lt_2 ne_2 en_2 lt_3 ne_3 en_3 lt_4 ne_4 en_4 lt_5 ne_5 en_5 lt_6 ne_6 en_6
theorem row_set {w : World} {b : Nat} {cs : List Value} {t : TypeId} (h : w.heap[b]? = some (.cells cs.toArray t (0, 0))) (k : Nat) (u : Value) : (w.setCell ⟨b, k, none⟩ u).heap[b]? = some (.cells (cs.set k u).toArray t (0, 0)) := by
 obtain ⟨hlt, h'⟩ := Array.getElem?_eq_some_iff.1 h
 show (w.heap.modify b _)[b]? = _
 rw [Array.getElem?_eq_getElem (by simpa using hlt), Array.getElem_modify_self, h']
 simp
theorem row_cell {w : World} {b : Nat} {cs : List Value} {t : TypeId} (h : w.heap[b]? = some (.cells cs.toArray t (0, 0))) (k : Nat) {v : Value} (hv : cs[k]? = some v) : w.cell? ⟨b, k, none⟩ = some v := by
 unfold World.cell?
 simp only [h]
 simpa using hv
theorem row_frozen {w : World} {b : Nat} {cs : Array Value} {t : TypeId} (h : w.heap[b]? = some (.cells cs t (0, 0))) (k : Nat) : w.frozen? ⟨b, k, none⟩ = false := by
 simp [World.frozen?, h]
theorem Sees.move {w w' : World} {A : Option Addr} {xs : List Value} (h : Sees w A xs) (hk : ∀ g o, A = some ⟨g, o, none⟩ → g < w.heap.size → w'.heap[g]? = w.heap[g]?) : Sees w' A xs := by
 intro hx
 obtain ⟨b, o, rfl, hc⟩ := h hx
 exact ⟨b, o, rfl, fun j hj => (World.cell?_of_block (hk b o rfl (Sees.lt h hx))).trans (hc j hj)⟩
theorem row_sees {w : World} {b : Nat} {cs : List Value} {t : TypeId} (h : w.heap[b]? = some (.cells cs.toArray t (0, 0))) : Sees w (some ⟨b, 0, none⟩) cs := by
 intro _
 refine ⟨b, 0, rfl, fun j hj => ?_⟩
 unfold World.cell?
 rw [Nat.zero_add]
 simp only [h]
 simp
structure EA where
 A : Option Addr
 cap : Nat
 l : List V4
def EA.val (x : EA) : Value := .slice x.A x.l.length x.cap
def eaVals (l : List EA) : List Value := l.map EA.val
theorem eaVals_length (l : List EA) : (eaVals l).length = l.length := by simp [eaVals]
def SeesP (w : World) (R : Option Addr) (ps : List EA) : Prop := Sees w R (eaVals ps) ∧ ∀ x ∈ ps, Sees w x.A (eVals x.l)
theorem SeesP.below {w w' : World} {R : Option Addr} {ps : List EA} (h : SeesP w R ps) (hb : Below w.heap.size w w') : SeesP w' R ps := ⟨h.1.below hb, fun x hx => (h.2 x hx).below hb⟩
theorem SeesP.at {w : World} {R : Option Addr} {ps : List EA} (h : SeesP w R ps) (k : Nat) (hk : k < ps.length) : ∃ b o, R = some ⟨b, o, none⟩ ∧ b < w.heap.size ∧ w.cell? ⟨b, o + k, none⟩ = some ps[k].val ∧ Sees w ps[k].A (eVals ps[k].l) := by
 have hx : 0 < (eaVals ps).length := by rw [eaVals_length]; omega
 obtain ⟨b, o, rfl, hc⟩ := h.1 hx
 refine ⟨b, o, rfl, Sees.lt h.1 hx, ?_, h.2 _ (List.getElem_mem hk)⟩
 rw [hc _ (by rw [eaVals_length]; exact hk)]
 unfold eaVals
 rw [List.getElem?_map, List.getElem?_eq_getElem hk]
 rfl
theorem info_P : (Tryz.prog.info? 24).map (fun i => (i.zero, i.size, i.bytes)) = some (some (.slice none 0 0), 1, 24) := by kernel_rfl
theorem made_nils (n : Nat) : madeCells #[.slice none 0 0] (n * 1) = (List.replicate n (Value.slice none 0 0)).toArray := by
 apply Array.ext
 ·simp [size_madeCells]
 ·intro j hj hj'
  simp only [madeCells, Array.getElem_map, Array.getElem_range, List.getElem_toArray, List.getElem_replicate]
  have : j % 1 = 0 := Nat.mod_one j
  show #[Value.slice none 0 0][j % 1]! = _
  rw [this]
  rfl
theorem makeP (n : Nat) (hn : n ≤ 1099511627776) (w : World) : (Instr.makeSlice 54 (.int .i64 n) (.int .i64 n)).run Tryz.prog w = .ok (.slice (some ⟨w.heap.size, 0, none⟩) n n) (w.alloc (.cells (List.replicate n (Value.slice none 0 0)).toArray 24)) := by
 obtain ⟨i0, hi0, hz0, hz1, hz2⟩ := info_parts info_P
 have := run_make (P := Tryz.prog) w 54 24 i0 _ Tryz.underlying54 hi0 hz0 .i64 .i64 n n (by omega) (Int.le_refl _) (by rw [hz2]; omega) (by omega)
 rw [this, hz1, Int.toNat_natCast]
 show Result.ok _ (w.alloc (.cells (madeCells #[.slice none 0 0] (n * 1)) 24)) = _
 rw [made_nils]
theorem pa_cells {W : World} {b : Nat} {fd th sh ln : Int} (h : W.heap[b]? = some (.cells #[.int .i64 fd, .int .i64 th, .int .i64 sh, .int .i64 ln] 48 (0, 0))) : W.cell? ⟨b, 0, none⟩ = some (.int .i64 fd) ∧ W.cell? ⟨b, 1, none⟩ = some (.int .i64 th) ∧ W.cell? ⟨b, 2, none⟩ = some (.int .i64 sh) ∧ W.cell? ⟨b, 3, none⟩ = some (.int .i64 ln) := by
 unfold World.cell?
 simp only [h]
 exact ⟨rfl, rfl, rfl, rfl⟩
theorem blk_below {W W' : World} {b B : Nat} {o : Obj} (h : W.heap[b]? = some o) (hb : Below B W W') (hB : B = W.heap.size) : W'.heap[b]? = some o := by
 subst hB
 exact (hb.block b (Array.getElem?_eq_some_iff.1 h).1).trans h
end Go.Proofs.YtccgfladbibjbaaGreatDoor
namespace Go.Proofs.YtccgfladbibjbaaGreatDoor
open Go.RowKit
attribute [local go_sem ↓] add_UU sub_UU mul_UU add_UL add_LU sub_UL sub_LU mul_UL neg_at not_at and_UU or_UU xor_UU andNot_UU and_UL or_LU shr_UL shl_UL shr_UN shl_UN shl_LN quo_UL rem_UL quo_UU rem_UU
attribute [local go_sem] wrap64_N wrapi_mod wrap8_U wrap32_U wrap64_B wrap32_B wrap8_D wrapi_B wrap64_UU eq_UU ne_UU eq_UL ne_UL lt_UU le_UU
attribute [local simp] putAgg_size
attribute [local go_sem ↓] loadVar_F loadVar_E loadVar_V loadVar_B32 storeVar_F storeVar_E storeVar_V storeVar_B32 box_F box_E box_V box_B32
attribute [local go_sem ↓ high] V4.cells_val FP.cells_val
attribute [local go_sem] run_loadF run_loadE run_loadV run_loadB32 run_storeF run_storeE run_storeV run_storeB32 run_boxA aggAt_drew aggAt_drewN aggAt_alloc_new aggAt_alloc_past aggAt_setCell_other aggAt_putAgg_other aggAt_putAgg_new putAgg_drew putAgg_size putAgg_alloc_new putAgg_alloc_past putAgg_cell_other putAgg_frozen_other V4.agg_arr FP.agg_arr V4.size_arr FP.size_arr V4.fits FP.fits fitsA_agg4 lt_2 ne_2 en_2 lt_3 ne_3 en_3 lt_4 ne_4 en_4 lt_5 ne_5 en_5 lt_6 ne_6 en_6
def evalAt (f : FP) (k : Int) (c : List V4) : V4 := quoR f c (ptE f k) c.length
def evalL (f : FP) (k : Int) (cs : List (List V4)) : List V4 := cs.map (evalAt f k)
theorem evalL_length (f : FP) (k : Int) (cs : List (List V4)) : (evalL f k cs).length = cs.length := by simp [evalL]
theorem evalL_succ (f : FP) (k : Int) (ps : List EA) (i : Nat) (hi : i < ps.length) : evalL f k ((ps.map EA.l).take (i + 1)) = evalL f k ((ps.map EA.l).take i) ++ [evalAt f k ps[i].l] := by
 rw [List.take_succ_eq_append_getElem (by simpa using hi)]
 simp [evalL]
structure EvI (w : World) (f : FP) (x : V4) (k : Int) (bF bP bT bx : Nat) (R : Option Addr) (capR : Nat) (ps : List EA) (i : Nat) (v : Value) (W : World) : Prop where
 X : W.heap[bx]? = some (.cells x.arr 50 (0, 0))
 O : OwnE W (bx + 1) v (evalL f k ((ps.map EA.l).take i))
 B : Below w.heap.size w W
theorem EvI.grown {w W W' : World} {f : FP} {x : V4} {k : Int} {bF bP bT bx : Nat} {R : Option Addr} {capR : Nat} {ps : List EA} {i j : Nat} {v v' : Value} (h : EvI w f x k bF bP bT bx R capR ps i v W) (hbx : w.heap.size ≤ bx) (hg : W.grownBy W' v.ownBlock) (ho : OwnE W' (bx + 1) v' (evalL f k ((ps.map EA.l).take j))) : EvI w f x k bF bP bT bx R capR ps j v' W' := by
 have hlo : ∀ k, v.ownBlock = some k → bx + 1 ≤ k := fun k e => (h.O.lt k e).1
 have hz := (Array.getElem?_eq_some_iff.1 h.X).1
 exact ⟨(hg.block bx hz (fun e => by have := hlo _ e.symm; omega)).trans h.X, ho, h.B.grown hg (by omega) (fun k e => by have := hlo k e; omega)⟩
theorem EvI.below {w W W' : World} {f : FP} {x : V4} {k : Int} {bF bP bT bx : Nat} {R : Option Addr} {capR : Nat} {ps : List EA} {i : Nat} {v : Value} (h : EvI w f x k bF bP bT bx R capR ps i v W) (hb : Below W.heap.size W W') : EvI w f x k bF bP bT bx R capR ps i v W' :=
 ⟨blk_below h.X hb rfl, h.O.below hb, h.B.trans (hb.mono h.B.size)⟩
set_option maxRecDepth 20000 in
set_option maxHeartbeats 4000000 in
theorem evalOne (f : FP) (k : Int) (bF bP bT : Nat) (R : Option Addr) (capR : Nat) (ps : List EA) (hps : ∀ x ∈ ps, 0 < x.l.length ∧ x.l.length ≤ 1073741824) (hn : ps.length ≤ 1048576) (w : World)
  (hF : w.heap[bF]? = some (.cells f.arr 67 (0, 0))) (hP : w.heap[bP]? = some (.cells #[.slice R ps.length capR] 54 (0, 0))) (hT : w.heap[bT]? = some (.cells #[.pointer none] 82 (0, 0))) (hS : SeesP w R ps) :
  Calls Tryz.prog 45 #[.int .i64 k, .pointer (some ⟨bF, 0, none⟩), .pointer (some ⟨bP, 0, none⟩), .pointer (some ⟨bT, 0, none⟩)] w fun e w' => ∃ v, e = .returned v ∧ OwnE w' w.heap.size v (evalL f k (ps.map EA.l)) ∧ Below w.heap.size w w' := by
 obtain ⟨e0, he0, ea0, ea1, ea2⟩ := info_parts info_E
 have HW := Lib.hid (fun W (hW : Below w.heap.size w W) => show W.heap[bF]? = some (.cells f.arr 67 (0, 0)) ∧ W.heap[bP]? = some (.cells #[.slice R ps.length capR] 54 (0, 0)) ∧ W.heap[bT]? = some (.cells #[.pointer none] 82 (0, 0)) ∧ SeesP W R ps from
  ⟨blk_below hF hW rfl, blk_below hP hW rfl, blk_below hT hW rfl, hS.below hW⟩)
 have HP := Lib.hid hps
 have pF := aggF_of_block hF
 clear hP hT hS hps
 obtain ⟨x, hx⟩ : ∃ x, ptE f k = x := ⟨_, rfl⟩
 have HX := Lib.hid hx
 go_enter Tryz.func45, Tryz.ntmps45
 go_wp2_with fail
 refine (montPt f k w).mono ?_
 rintro e w1 ⟨rfl, hb1⟩
 rw [hx]
 clear hx hF pF
 obtain ⟨_, hP1, _, _⟩ := HW.out w1 hb1
 have pP := cell_of_block hP1
 have hz1 := hb1.size
 have hPz := (Array.getElem?_eq_some_iff.1 hP1).1
 have hk0 : ∀ cs, (w1.alloc (.cells cs 50)).cell? ⟨bP, 0, none⟩ = some (.slice R ps.length capR) := fun cs => (World.cell?_of_block (Below.heap_alloc w1 _ _ hPz)).trans pP
 have H0 := Lib.hid (show EvI w f x k bF bP bT w1.heap.size R capR ps 0 (.slice none 0 0) (w1.alloc (.cells x.arr 50)) from ⟨heap_alloc_new w1 _, ownE_nil _ _, hb1.alloc hb1.size _⟩)
 have hbx : w.heap.size ≤ w1.heap.size := hb1.size
 clear hb1 hP1
 go_wp2
 go_loopw [7, 17] (fun v iv W => ∃ i : Nat, i ≤ ps.length ∧ iv = .int .i64 i ∧ EvI w f x k bF bP bT w1.heap.size R capR ps i v W) (fun _ iv _ => ps.length - (intOf iv).toNat)
 case atStart => exact ⟨0, by omega, rfl, H0.out⟩
 case round =>
  clear H0 hk0
  obtain ⟨i, hi, rfl, hI⟩ := hrel
  have HI := Lib.hid hI
  by_cases hlt : i < ps.length
  ·have hlt' : (i : Int) < (ps.length : Int) := by omega
   obtain ⟨hF, hP, hT, hS⟩ := HW.out wr hI.B
   obtain ⟨b, o, rfl, hbz, hc, hSx⟩ := hS.at i hlt
   have HQ := Lib.hid (evalL_succ f k ps i hlt)
   obtain ⟨y, hy⟩ : ∃ y, ps[i] = y := ⟨_, rfl⟩
   have HY := Lib.hid (HP.out ps[i] (List.getElem_mem hlt))
   rw [hy] at hc hSx HQ HY
   obtain ⟨yA, yc, yl⟩ := y
   unfold EA.val at hc
   simp only [] at hc hSx HQ HY
   have pF := aggF_of_block hF
   have pT := cell_of_block hT
   have pX := agg_of_block hI.X
   have HE := Lib.hid (polyEval f yA yc yl HY.out.1 HY.out.2 x wr hSx)
   rw [← HX.out] at HE
   have HA := Lib.hid (show evalAt f k yl = quoR f yl (ptE f k) yl.length from rfl)
   rw [← HA.out] at HE
   obtain ⟨z, hz⟩ : ∃ z, evalAt f k yl = z := ⟨_, rfl⟩
   rw [hz] at HE HQ
   rw [HX.out] at HE
   clear hF hP hT hS hSx hy hz HA HY hI
   go_wp2_with fail
   refine (noteNil _ _ _ _).mono ?_
   rintro e wr ⟨rfl, rfl⟩
   go_wp2_with fail
   refine HE.out.mono ?_
   rintro e w2 ⟨rfl, hb2⟩
   have HI2 := Lib.hid (HI.out.below hb2)
   clear HI hb2 HE pF pT pX hc
   obtain ⟨w3, hw3⟩ : ∃ w3, w3 = w2.alloc (.cells (eVals [z]).toArray 50) := ⟨_, rfl⟩
   have hb3 : Below w2.heap.size w2 w3 := by rw [hw3]; exact (Below.refl _ w2).alloc (Nat.le_refl _) _
   have hS3 : Sees w3 (some ⟨w2.heap.size, 0, none⟩) (eVals [z]) := by rw [hw3]; exact (IsEsT.new (t := 50) w2 [z] _ rfl).sees
   have HI3 := Lib.hid (And.intro (HI2.out.below hb3) hS3)
   have hz3 : w1.heap.size + 1 ≤ w3.heap.size := (Array.getElem?_eq_some_iff.1 HI3.out.1.X).1
   clear hb3 hS3 HI2
   go_wp2_with (at_builtin; rw [fold1]; rw [← hw3]; refine wpList_append_sees rfl (.tmp 25) (.tmp 31) 24 rfl (w1.heap.size + 1) 50 e0 _ 4 32 Tryz.underlying24 he0 ea0 ea1 ea2 rfl (by decide) u7 i (eVals (evalL f k ((ps.map EA.l).take i))) rfl ?c1 (some ⟨w2.heap.size, 0, none⟩) 1 1 (eVals [z]) rfl (by rw [eVals_length]; rfl) HI3.out.2 (eVals_one _) (by unfold maxLen; omega) (by omega) hz3 ?_)
   case c1 =>
    have := HI3.out.1.O
    unfold OwnE at this
    rwa [evalL_length, List.length_take, List.length_map, Nat.min_eq_left (by omega)] at this
   intro v' w4 hown hg _
   rw [← hw3] at hg
   have HR := Lib.hid (HI3.out.1.grown (j := i + 1) (v' := v') hbx hg (by
    rw [HQ.out]
    exact OwnE.grew (by rw [evalL_length, List.length_take, List.length_map, Nat.min_eq_left (by omega)]) hown))
   clear hown hg HI3 hw3
   go_wp2
   go_roundw
   case rel => exact ⟨i + 1, by omega, by go_num, HR.out⟩
   case measure => (first | (simp [intOf]; done) | (simp [intOf]; omega))
  ·obtain rfl : i = ps.length := by omega
   go_wp2
   go_ret
   have hO := hI.O
   rw [List.take_of_length_le (by simp)] at hO
   exact ⟨u7, rfl, hO.base_le (by omega), hI.B⟩
end Go.Proofs.YtccgfladbibjbaaGreatDoor
namespace Go.Proofs.YtccgfladbibjbaaGreatDoor
open Go.RowKit
attribute [local go_sem ↓] add_UU sub_UU mul_UU add_UL add_LU sub_UL sub_LU mul_UL neg_at not_at and_UU or_UU xor_UU andNot_UU and_UL or_LU shr_UL shl_UL shr_UN shl_UN shl_LN quo_UL rem_UL quo_UU rem_UU
attribute [local go_sem] wrap64_N wrapi_mod wrap8_U wrap32_U wrap64_B wrap32_B wrap8_D wrapi_B wrap64_UU eq_UU ne_UU eq_UL ne_UL lt_UU le_UU
attribute [local simp] putAgg_size
attribute [local go_sem ↓] loadVar_F loadVar_E loadVar_V loadVar_B32 storeVar_F storeVar_E storeVar_V storeVar_B32 box_F box_E box_V box_B32
attribute [local go_sem ↓ high] V4.cells_val FP.cells_val
attribute [local go_sem] run_loadF run_loadE run_loadV run_loadB32 run_storeF run_storeE run_storeV run_storeB32 run_boxA aggAt_drew aggAt_drewN aggAt_alloc_new aggAt_alloc_past aggAt_setCell_other aggAt_putAgg_other aggAt_putAgg_new putAgg_drew putAgg_size putAgg_alloc_new putAgg_alloc_past putAgg_cell_other putAgg_frozen_other V4.agg_arr FP.agg_arr V4.size_arr FP.size_arr V4.fits FP.fits fitsA_agg4 lt_2 ne_2 en_2 lt_3 ne_3 en_3 lt_4 ne_4 en_4 lt_5 ne_5 en_5 lt_6 ne_6 en_6
def sumC (a b : V4) : Nat → BitVec 64
 | 0 => 0#64
 | k + 1 => if a.get k + sumC a b k + b.get k < a.get k + sumC a b k then 1#64 else if a.get k + sumC a b k < sumC a b k then 1#64 else 0#64
def sumO (a b : V4) : Nat → V4
 | 0 => V4.zero
 | k + 1 => (sumO a b k).set k (a.get k + sumC a b k + b.get k)
theorem arr_at (a : V4) (k : Nat) (h : k < 4) : a.arr.toList[k]? = some (.int .u64 (U (a.get k))) := by
 match k, h with
 | 0, _ => rfl
 | 1, _ => rfl
 | 2, _ => rfl
 | 3, _ => rfl
theorem arr_put (a : V4) (k : Nat) (h : k < 4) (x : BitVec 64) : a.arr.toList.set k (.int .u64 (U x)) = (a.set k x).arr.toList := by
 match k, h with
 | 0, _ => rfl
 | 1, _ => rfl
 | 2, _ => rfl
 | 3, _ => rfl
structure SuI (w : World) (a b : V4) (k : Nat) (W : World) : Prop where
 A : W.heap[w.heap.size]? = some (.cells a.arr.toList.toArray 45 (0, 0))
 B : W.heap[w.heap.size + 1]? = some (.cells b.arr.toList.toArray 45 (0, 0))
 R : W.heap[w.heap.size + 1 + 1]? = some (.cells V4.zero.arr 45 (0, 0))
 O : W.heap[w.heap.size + 1 + 1 + 1]? = some (.cells (sumO a b k).arr.toList.toArray 45 (0, 0))
 L : Below w.heap.size w W
theorem SuI.put {w W : World} {a b : V4} {k : Nat} (h : SuI w a b k W) (hk : k < 4) : SuI w a b (k + 1) (W.setCell ⟨w.heap.size + 1 + 1 + 1, k, none⟩ (.int .u64 (U (a.get k + sumC a b k + b.get k)))) :=
 ⟨(Below.heap_setCell _ _ _ _ (by simp only []; omega)).trans h.A, (Below.heap_setCell _ _ _ _ (by simp only []; omega)).trans h.B, (Below.heap_setCell _ _ _ _ (by simp only []; omega)).trans h.R, by rw [row_set h.O, arr_put _ _ hk]; rfl, h.L.setCell (by simp only []; omega) _⟩
set_option maxRecDepth 20000 in
set_option maxHeartbeats 2000000 in
theorem refSum (a b : V4) (w : World) : Calls Tryz.prog 50 #[a.val, b.val] w fun e w' => e = .returned (.tuple #[(sumO a b 4).val, .int .u64 (U (sumC a b 4))]) ∧ Below w.heap.size w w' := by
 go_enter Tryz.func50, Tryz.ntmps50
 go_wp2
 (obtain ⟨W0, hW0⟩ : ∃ W0 : World, W0 = ((((w).alloc (.cells a.arr 45)).alloc (.cells b.arr 45)).alloc (.cells #[.int .u64 0, .int .u64 0, .int .u64 0, .int .u64 0] 45)).alloc (.cells #[.int .u64 0, .int .u64 0, .int .u64 0, .int .u64 0] 45) := ⟨_, rfl⟩); (have gW0 : ∀ (j : Nat) (o : Obj), ([Obj.cells a.arr 45, Obj.cells b.arr 45, Obj.cells #[.int .u64 0, .int .u64 0, .int .u64 0, .int .u64 0] 45, Obj.cells #[.int .u64 0, .int .u64 0, .int .u64 0, .int .u64 0] 45] : List Obj)[j]? = some o → W0.heap[w.heap.size + j]? = some o := by rw [hW0]; exact allocs_get w _); (have zW0 : W0.heap.size = w.heap.size + 4 := by rw [hW0]; exact allocs_size w [Obj.cells a.arr 45, Obj.cells b.arr 45, Obj.cells #[.int .u64 0, .int .u64 0, .int .u64 0, .int .u64 0] 45, Obj.cells #[.int .u64 0, .int .u64 0, .int .u64 0, .int .u64 0] 45]); (have bW0 : Below w.heap.size w W0 := by rw [hW0]; exact allocs_below w [Obj.cells a.arr 45, Obj.cells b.arr 45, Obj.cells #[.int .u64 0, .int .u64 0, .int .u64 0, .int .u64 0] 45, Obj.cells #[.int .u64 0, .int .u64 0, .int .u64 0, .int .u64 0] 45]); (rw [← hW0]); (clear hW0)
 have H0 := Lib.hid (show SuI w a b 0 W0 from ⟨gW0 0 _ rfl, gW0 1 _ rfl, gW0 2 _ rfl, gW0 3 _ rfl, bW0⟩)
 clear gW0 bW0 zW0
 go_loopw [7, 8, 9, 10] (fun c iv _ _ W => ∃ k : Nat, k ≤ 4 ∧ iv = .int .i64 k ∧ c = .int .u64 (U (sumC a b k)) ∧ SuI w a b k W) (fun _ iv _ _ _ => 4 - (intOf iv).toNat)
 case atStart => exact ⟨0, by omega, rfl, rfl, H0.out⟩
 case round =>
  clear H0
  obtain ⟨k, hk, rfl, rfl, hI⟩ := hrel
  by_cases hlt : k < 4
  ·have hlt' : (k : Int) < 4 := by omega
   have cA := row_cell hI.A k (arr_at a k hlt)
   have cB := row_cell hI.B k (arr_at b k hlt)
   have cO := row_cell hI.O k (arr_at (sumO a b k) k hlt)
   have fO := row_frozen hI.O k
   have HP := Lib.hid (hI.put hlt)
   have HC := Lib.hid (show sumC a b (k + 1) = if a.get k + sumC a b k + b.get k < a.get k + sumC a b k then 1#64 else if a.get k + sumC a b k < sumC a b k then 1#64 else 0#64 from rfl)
   clear hI
   generalize sumC a b k = c at *
   generalize a.get k = x at *
   generalize b.get k = y at *
   generalize (sumO a b k).get k = z at *
   by_cases h2 : x + c + y < x + c
   ·by_cases h1 : x + c < c
    ·skip
     go_wp2
     go_roundw
     case rel => exact ⟨k + 1, by omega, by go_num, by rw [HC.out, if_pos h2]; rfl, HP.out⟩
     case measure => (first | (simp [intOf]; done) | (simp [intOf]; omega))
    ·skip
     go_wp2
     go_roundw
     case rel => exact ⟨k + 1, by omega, by go_num, by rw [HC.out, if_pos h2]; rfl, HP.out⟩
     case measure => (first | (simp [intOf]; done) | (simp [intOf]; omega))
   ·by_cases h1 : x + c < c
    ·skip
     go_wp2
     go_roundw
     case rel => exact ⟨k + 1, by omega, by go_num, by rw [HC.out, if_neg h2, if_pos h1]; rfl, HP.out⟩
     case measure => (first | (simp [intOf]; done) | (simp [intOf]; omega))
    ·skip
     go_wp2
     go_roundw
     case rel => exact ⟨k + 1, by omega, by go_num, by rw [HC.out, if_neg h2, if_neg h1]; rfl, HP.out⟩
     case measure => (first | (simp [intOf]; done) | (simp [intOf]; omega))
  ·obtain rfl : k = 4 := by omega
   have gO : wr.heap[w.heap.size + 1 + 1 + 1]? = some (.cells (sumO a b 4).arr 45 (0, 0)) := by have := hI.O; simpa using this
   have pO := agg_of_block gO
   have pR := agg_of_block hI.R
   have HB := Lib.hid hI.L
   have HR := Lib.hid hI.R
   clear hI gO
   go_wp2_with fail
   exact end_ct Tryz.results50 rfl (atV (agg_of_block (vec_put HR.out rfl))) rfl ⟨rfl, putAgg_below HB.out (by omega)⟩
end Go.Proofs.YtccgfladbibjbaaGreatDoor
