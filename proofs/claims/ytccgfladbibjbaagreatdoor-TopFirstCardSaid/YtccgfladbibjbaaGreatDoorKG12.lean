/- Package mont: Add, Sub, Neg, IsZero. -/
import Derived.Test.YtccgfladbibjbaaGreatDoorKG10
import Derived.Test.YtccgfladbibjbaaGreatDoorKG11
import Derived.Laws.Cover3
namespace Go.Proofs.YtccgfladbibjbaaGreatDoor
open Go.RowKit
attribute [local go_sem ↓] add_UU sub_UU mul_UU add_UL add_LU sub_UL sub_LU mul_UL neg_at not_at and_UU or_UU xor_UU andNot_UU and_UL or_LU shr_UL shl_UL shr_UN shl_UN shl_LN quo_UL rem_UL quo_UU rem_UU
attribute [local go_sem] wrap64_N wrapi_mod wrap8_U wrap32_U wrap64_B wrap32_B wrap8_D wrapi_B wrap64_UU eq_UU ne_UU eq_UL ne_UL lt_UU le_UU
theorem montIsZero (a : V4) (w : World) :
  Calls Tryz.prog 136 #[a.val] w fun e w' => e = .returned (.int .u64 (U (maskW (decide (a = V4.zero))))) ∧ Below w.heap.size w w' := by
 have hV := IsVec.newAt w 50 a w.heap.size rfl
 obtain ⟨a0, a1, a2, a3⟩ := hV.all
 have HL := Lib.hid (limbIsZero a)
 clear hV
 generalize maskW (decide (a = V4.zero)) = r at *
 unfold V4.arr at a0 a1 a2 a3
 unfold V4.val V4.arr at HL
 unfold V4.val V4.arr
 go_enter Tryz.func136, Tryz.ntmps136
 go_wp2_with fail
 refine (HL.out _).mono ?_
 rintro e w1 ⟨rfl, hb1⟩
 have HB := Lib.hid (((Below.refl _ w).alloc (Nat.le_refl _) _).trans (hb1.mono (by simp)))
 clear hb1
 go_wp2
 go_ret
 exact ⟨rfl, HB.out⟩
def madd (f : FP) (a b : V4) : V4 := subP f.p (chainN addF a b 4).1 (bw (chainN addF a b 4).2)
def msub (f : FP) (a b : V4) : V4 := if (bw (chainN subF a b 4).2 == 1#64) = true then (chainN addF (chainN subF a b 4).1 f.p 4).1 else (chainN subF a b 4).1
set_option maxRecDepth 20000 in
set_option maxHeartbeats 4000000 in
theorem montAdd (f : FP) (a b : V4) (w : World) :
  Calls Tryz.prog 87 #[f.val, a.val, b.val] w fun e w' => e = .returned (madd f a b).val ∧ Below w.heap.size w w' := by
 have h0 := (((IsF.newAt w f (w.heap.size) (by simp)).alloc (.cells a.arr 50)).alloc (.cells b.arr 50)).alloc (.cells V4.zero.arr 50)
 have h1 := ((IsVec.newAt (w.alloc (.cells f.arr 67)) 50 a (w.heap.size + 1) (by simp)).alloc (.cells b.arr 50)).alloc (.cells V4.zero.arr 50)
 have h2 := (IsVec.newAt ((w.alloc (.cells f.arr 67)).alloc (.cells a.arr 50)) 50 b (w.heap.size + 1 + 1) (by simp)).alloc (.cells V4.zero.arr 50)
 have h3 := IsVec.newAt (((w.alloc (.cells f.arr 67)).alloc (.cells a.arr 50)).alloc (.cells b.arr 50)) 50 V4.zero (w.heap.size + 1 + 1 + 1) (by simp)
 obtain ⟨p0, p1, p2, p3, p4, p5, p6, p7, p8, p9, p10, p11, p12, p13⟩ := h0.all
 obtain ⟨a0, a1, a2, a3⟩ := h1.all
 obtain ⟨b0, b1, b2, b3⟩ := h2.all
 have HB0 := Lib.hid (show Below w.heap.size w ((((w.alloc (.cells f.arr 67)).alloc (.cells a.arr 50)).alloc (.cells b.arr 50)).alloc (.cells V4.zero.arr 50)) from by go_grown)
 have HZ := Lib.hid h3
 have HL := Lib.hid (limbAdd a b)
 obtain ⟨s, hs⟩ : ∃ s, s = (chainN addF a b 4).1 := ⟨_, rfl⟩
 obtain ⟨c, hc⟩ : ∃ c, c = bw (chainN addF a b 4).2 := ⟨_, rfl⟩
 have HS := Lib.hid (subtract f s c)
 have hr : madd f a b = subP f.p s c := by rw [hs, hc]; rfl
 rw [← hs, ← hc] at HL
 rw [hr]
 generalize subP f.p s c = r at *
 clear hs hc hr h0 h1 h2 h3
 unfold FP.arr V4.arr at p0 p1 p2 p3 p4 p5 p6 p7 p8 p9 p10 p11 p12 p13 a0 a1 a2 a3 b0 b1 b2 b3
 unfold FP.val FP.arr V4.val V4.arr at HS
 unfold V4.val V4.arr at HL
 unfold FP.val FP.arr V4.val V4.arr
 go_enter Tryz.func87, Tryz.ntmps87
 go_wp2_with fail
 refine (HL.out _).mono ?_
 rintro e w1 ⟨rfl, hb1⟩
 have HZ1 := Lib.hid (HZ.out.below hb1 (by simp))
 have HB1 := Lib.hid (HB0.out.trans (hb1.mono (by simp; omega)))
 have hs1 := hb1.size
 simp at hs1
 clear hb1 HB0 HZ HL p0 p1 p2 p3 p4 p5 p6 p7 p8 p9 p10 p11 p12 p13 a0 a1 a2 a3 b0 b1 b2 b3
 go_wp2_with fail
 refine (HS.out _).mono ?_
 rintro e w2 ⟨rfl, hb2⟩
 have hz := (HZ1.out.alloc (.cells s.arr 45)).below hb2 (HZ1.out.alloc _).lt
 obtain ⟨z0, z1, z2, z3⟩ := hz.all
 obtain ⟨y0, y1, y2, y3⟩ := hz.open_
 have hv := stored_vec (r := r) ((((hz.set 0 (by decide) r.x0).set 1 (by decide) r.x1).set 2 (by decide) r.x2).set 3 (by decide) r.x3)
 obtain ⟨d0, d1, d2, d3⟩ := hv.all
 have HB := Lib.hid (((((HB1.out.alloc (by omega) (.cells s.arr 45)).trans (hb2.mono (by simp; omega))).setCell (p := ⟨w.heap.size + 1 + 1 + 1, 0, none⟩) (by simp; omega) (.int .u64 (U r.x0))).setCell (p := ⟨w.heap.size + 1 + 1 + 1, 1, none⟩) (by simp; omega) (.int .u64 (U r.x1))).setCell (p := ⟨w.heap.size + 1 + 1 + 1, 2, none⟩) (by simp; omega) (.int .u64 (U r.x2)) |>.setCell (p := ⟨w.heap.size + 1 + 1 + 1, 3, none⟩) (by simp; omega) (.int .u64 (U r.x3)))
 clear hz hv hb2
 go_wp2
 refine bodyPost_ret (v := .agg #[.int .u64 (U r.x0), .int .u64 (U r.x1), .int .u64 (U r.x2), .int .u64 (U r.x3)]) (by simp [results, Tryz.results87, go_sem, d0, d1, d2, d3]) rfl ⟨rfl, HB.out⟩
set_option maxRecDepth 20000 in
set_option maxHeartbeats 4000000 in
theorem montSub (f : FP) (a b : V4) (w : World) :
  Calls Tryz.prog 112 #[f.val, a.val, b.val] w fun e w' => e = .returned (msub f a b).val ∧ Below w.heap.size w w' := by
 have h0 := (((IsF.newAt w f (w.heap.size) (by simp)).alloc (.cells a.arr 50)).alloc (.cells b.arr 50)).alloc (.cells V4.zero.arr 50)
 have h1 := ((IsVec.newAt (w.alloc (.cells f.arr 67)) 50 a (w.heap.size + 1) (by simp)).alloc (.cells b.arr 50)).alloc (.cells V4.zero.arr 50)
 have h2 := (IsVec.newAt ((w.alloc (.cells f.arr 67)).alloc (.cells a.arr 50)) 50 b (w.heap.size + 1 + 1) (by simp)).alloc (.cells V4.zero.arr 50)
 have h3 := IsVec.newAt (((w.alloc (.cells f.arr 67)).alloc (.cells a.arr 50)).alloc (.cells b.arr 50)) 50 V4.zero (w.heap.size + 1 + 1 + 1) (by simp)
 obtain ⟨a0, a1, a2, a3⟩ := h1.all
 obtain ⟨b0, b1, b2, b3⟩ := h2.all
 have HB0 := Lib.hid (show Below w.heap.size w ((((w.alloc (.cells f.arr 67)).alloc (.cells a.arr 50)).alloc (.cells b.arr 50)).alloc (.cells V4.zero.arr 50)) from by go_grown)
 have HZ := Lib.hid h3
 have HF := Lib.hid h0
 have HL := Lib.hid (limbSub a b)
 obtain ⟨s, hs⟩ : ∃ s, s = (chainN subF a b 4).1 := ⟨_, rfl⟩
 obtain ⟨c, hc⟩ : ∃ c, c = (chainN subF a b 4).2 := ⟨_, rfl⟩
 obtain ⟨u, hu⟩ : ∃ u, u = (chainN addF s f.p 4).1 := ⟨_, rfl⟩
 have HA := Lib.hid (limbAdd s f.p)
 have HC := Lib.hid (limbChoose (maskW c) u s)
 have hr : msub f a b = if (maskW c % 2#64 == 1#64) = true then u else s := by
  unfold msub
  rw [← hs, ← hc, ← hu]
  cases c <;> rfl
 rw [← hs, ← hc] at HL
 rw [← hu] at HA
 rw [← hr] at HC
 generalize msub f a b = r at *
 generalize bw (chainN addF s f.p 4).2 = c2 at *
 have HM := Lib.hid (fromBit (bw c))
 rw [fromBitW_bw] at HM
 clear hs hc hr hu h0 h1 h2 h3
 unfold V4.arr at a0 a1 a2 a3 b0 b1 b2 b3
 unfold V4.val V4.arr at HA HC
 unfold V4.val V4.arr at HL
 unfold FP.val FP.arr V4.val V4.arr
 go_enter Tryz.func112, Tryz.ntmps112
 go_wp2_with fail
 refine (HL.out _).mono ?_
 rintro e w1 ⟨rfl, hb1⟩
 have HZ1 := Lib.hid (HZ.out.below hb1 (by simp))
 have hs1 := hb1.size
 simp at hs1
 have hF := (HF.out.below hb1 (by simp; omega)).alloc (.cells s.arr 45)
 obtain ⟨m0, m1, m2, m3⟩ := hF.mod
 have hS := IsVec.newAt w1 45 s w1.heap.size rfl
 obtain ⟨s0, s1, s2, s3⟩ := hS.all
 have HS := Lib.hid hS
 have HB1 := Lib.hid (HB0.out.trans (hb1.mono (by simp; omega)))
 clear hb1 HB0 HZ HL HF hF hS a0 a1 a2 a3 b0 b1 b2 b3
 unfold V4.arr at m0 m1 m2 m3 s0 s1 s2 s3
 go_wp2_with fail
 refine (HA.out _).mono ?_
 rintro e w2 ⟨rfl, hb2⟩
 have hs2 := hb2.size
 simp at hs2
 have HZ2 := Lib.hid (((HZ1.out.alloc (.cells s.arr 45)).below hb2 (HZ1.out.alloc _).lt).alloc (.cells u.arr 45))
 have hS2 := (HS.out.below hb2 HS.out.lt).alloc (.cells u.arr 45)
 have hU := IsVec.newAt w2 45 u w2.heap.size rfl
 have HB2 := Lib.hid (((HB1.out.alloc (by omega) (.cells s.arr 45)).trans (hb2.mono (by simp; omega))).alloc (by omega) (.cells u.arr 45))
 clear hb2 HB1 HZ1 HS HA m0 m1 m2 m3 s0 s1 s2 s3
 obtain ⟨s0, s1, s2, s3⟩ := hS2.all
 obtain ⟨u0, u1, u2, u3⟩ := hU.all
 clear hS2 hU
 unfold V4.arr at s0 s1 s2 s3 u0 u1 u2 u3
 go_wp2_with fail
 go_region_law (first | (go_simp; go_at_call 101; with_reducible refine (HM.out _).mono ?_; rintro e w3 ⟨rfl, rfl⟩) | (go_simp; go_at_call 130; with_reducible refine (HC.out _).mono ?_; rintro e w3 ⟨rfl, hb3⟩; have hz := HZ2.out.drew.below hb3 HZ2.out.drew.lt; obtain ⟨z0, z1, z2, z3⟩ := hz.all; obtain ⟨y0, y1, y2, y3⟩ := hz.open_; have HB3 := Lib.hid hb3; clear hz hb3))
 all_goals
  have hv := stored_vec (r := r) ((((HZ2.out.drew.below HB3.out HZ2.out.drew.lt).set 0 (by decide) r.x0).set 1 (by decide) r.x1).set 2 (by decide) r.x2 |>.set 3 (by decide) r.x3)
  have hB := (((((HB2.out.drew.trans (HB3.out.mono HB2.out.drew.size)).setCell (p := ⟨w.heap.size + 1 + 1 + 1, 0, none⟩) (by simp; omega) (.int .u64 (U r.x0))).setCell (p := ⟨w.heap.size + 1 + 1 + 1, 1, none⟩) (by simp; omega) (.int .u64 (U r.x1))).setCell (p := ⟨w.heap.size + 1 + 1 + 1, 2, none⟩) (by simp; omega) (.int .u64 (U r.x2))).setCell (p := ⟨w.heap.size + 1 + 1 + 1, 3, none⟩) (by simp; omega) (.int .u64 (U r.x3)))
  obtain ⟨d0, d1, d2, d3⟩ := hv.all
  have HB := Lib.hid hB
  clear hv hB s0 s1 s2 s3 u0 u1 u2 u3 z0 z1 z2 z3 y0 y1 y2 y3
  go_wp2
  refine bodyPost_ret (v := .agg #[.int .u64 (U r.x0), .int .u64 (U r.x1), .int .u64 (U r.x2), .int .u64 (U r.x3)]) (by simp [results, Tryz.results112, go_sem, d0, d1, d2, d3]) rfl ⟨rfl, HB.out⟩
end Go.Proofs.YtccgfladbibjbaaGreatDoor
namespace Go.Proofs.YtccgfladbibjbaaGreatDoor
open Go.RowKit
attribute [local go_sem ↓] add_UU sub_UU mul_UU add_UL add_LU sub_UL sub_LU mul_UL neg_at not_at and_UU or_UU xor_UU andNot_UU and_UL or_LU shr_UL shl_UL shr_UN shl_UN shl_LN quo_UL rem_UL quo_UU rem_UU
attribute [local go_sem] wrap64_N wrapi_mod wrap8_U wrap32_U wrap64_B wrap32_B wrap8_D wrapi_B wrap64_UU eq_UU ne_UU eq_UL ne_UL lt_UU le_UU
attribute [local simp] putAgg_size
attribute [local go_sem ↓] loadVar_F loadVar_E loadVar_V loadVar_B32 storeVar_F storeVar_E storeVar_V storeVar_B32 box_F box_E box_V box_B32
attribute [local go_sem ↓ high] V4.cells_val FP.cells_val
attribute [local go_sem] run_loadF run_loadE run_loadV run_loadB32 run_storeF run_storeE run_storeV run_storeB32 run_boxA aggAt_drew aggAt_drewN aggAt_alloc_new aggAt_alloc_past aggAt_setCell_other aggAt_putAgg_other aggAt_putAgg_new putAgg_drew putAgg_size putAgg_alloc_new putAgg_alloc_past putAgg_cell_other putAgg_frozen_other V4.agg_arr FP.agg_arr V4.size_arr FP.size_arr V4.fits FP.fits fitsA_agg4 lt_2 ne_2 en_2 lt_3 ne_3 en_3 lt_4 ne_4 en_4 lt_5 ne_5 en_5 lt_6 ne_6 en_6
theorem shl_pow (x : BitVec 64) (k : Nat) : IntKind.u64.wrap (U x * 2 ^ k) = U (x <<< k) := by
 rw [wrap64_U]
 congr 1
 apply BitVec.eq_of_toNat_eq
 rw [BitVec.toNat_shiftLeft, BitVec.toNat_ofInt, Nat.shiftLeft_eq]
 have h : U x * 2 ^ k = ((x.toNat * 2 ^ k : Nat) : Int) := by unfold U; simp
 rw [h]
 omega
theorem bits_or_U (x y : BitVec 64) : bits .or .u64 (U x) (U y) = U (x ||| y) := by
 have h : Sem.pure (Value.int .u64 (bits .or .u64 (U x) (U y))) = Sem.pure (Value.int .u64 (U (x ||| y))) := or_UU x y
 injection h with h
 injection h
def byteVals (l : List (BitVec 8)) : List Value := l.map fun x => .int .u8 (B x)
def bval (l : List (BitVec 8)) : Value := .agg (byteVals l).toArray
theorem byteVals_length (l : List (BitVec 8)) : (byteVals l).length = l.length := List.length_map ..
theorem byteVals_get (l : List (BitVec 8)) (j : Nat) (h : j < l.length) : (byteVals l)[j]? = some (.int .u8 (B (l[j]?.getD 0#8))) := by
 unfold byteVals
 rw [List.getElem?_map, List.getElem?_eq_getElem h]
 rfl
theorem bval_cells (l : List (BitVec 8)) : (bval l).cells = (byteVals l).toArray := rfl
theorem agg_bytes (l : List (BitVec 8)) : Value.agg (byteVals l).toArray = bval l := rfl
theorem byteVals_size (l : List (BitVec 8)) : (byteVals l).toArray.size = l.length := by rw [List.size_toArray, byteVals_length]
def wordT (l : List (BitVec 8)) (i : Nat) : Nat → BitVec 64
 | 0 => 0#64
 | k + 1 => wordT l i k ||| (l[8 * i + k]?.getD 0#8).setWidth 64 <<< (8 * k)
def numV (l : List (BitVec 8)) : V4 := ⟨wordT l 0 8, wordT l 1 8, wordT l 2 8, wordT l 3 8⟩
set_option maxRecDepth 20000 in
set_option maxHeartbeats 1000000 in
theorem word_in (l : List (BitVec 8)) (i : Nat) (hi : i < 4) (b : Nat) (w : World) (hc : ∀ j, j < 32 → w.cell? ⟨b, j, none⟩ = some (.int .u8 (B (l[j]?.getD 0#8)))) :
  Calls Tryz.prog 98 #[.int .i64 i, .pointer (some ⟨b, 0, none⟩)] w fun e w' => e = .returned (.int .u64 (U (wordT l i 8))) ∧ w = w' := by
 have HC := Lib.hid hc
 clear hc
 go_enter Tryz.func98, Tryz.ntmps98
 go_wp2
 go_loop [4, 6] (fun x i' => ∃ k : Nat, k ≤ 8 ∧ i' = .int .i64 k ∧ x = .int .u64 (U (wordT l i k))) (fun _ i' => 8 - (intOf i').toNat)
 case atStart => exact ⟨0, by omega, rfl, rfl⟩
 case round =>
  obtain ⟨k, hk, rfl, rfl⟩ := hrel
  by_cases hlt : k < 8
  ·have hc := HC.out (8 * i + k) (by omega)
   have hw1 : IntKind.i64.wrap (8 * (i : Int)) = ((8 * i : Nat) : Int) := by rw [IntKind.wrap_i64]; omega
   have hw2 : IntKind.i64.wrap (((8 * i : Nat) : Int) + (k : Int)) = ((8 * i + k : Nat) : Int) := by rw [IntKind.wrap_i64]; omega
   have hw3 : IntKind.i64.wrap (8 * (k : Int)) = ((8 * k : Nat) : Int) := by rw [IntKind.wrap_i64]; omega
   go_wp2
   go_round
   case rel => exact ⟨k + 1, by omega, by go_num, by rw [shl_pow, bits_or_U]; rfl⟩
   case measure => simp [intOf]; omega
  ·obtain rfl : k = 8 := by omega
   go_wp2
   go_ret
   exact ⟨rfl, rfl⟩
attribute [local go_sem ↓ high] bval_cells
attribute [local go_sem] agg_bytes byteVals_size
set_option maxRecDepth 20000 in
set_option maxHeartbeats 1000000 in
theorem number (l : List (BitVec 8)) (hl : l.length = 32) (w : World) :
  Calls Tryz.prog 66 #[bval l] w fun e w' => e = .returned (numV l).val ∧ Below w.heap.size w w' := by
 have hc : ∀ W : World, W = (w.alloc (.cells (byteVals l).toArray 64)).alloc (.cells #[.int .u64 0, .int .u64 0, .int .u64 0, .int .u64 0] 45) → ∀ j, j < 32 → W.cell? ⟨w.heap.size, j, none⟩ = some (.int .u8 (B (l[j]?.getD 0#8))) := by
  intro W hW j hj
  subst hW
  rw [World.cell?_alloc_past _ _ _ (by simp), World.cell?_alloc_at _ _ _ _ rfl]
  rw [List.getElem?_toArray]
  exact byteVals_get l j (by omega)
 have W0 := Lib.hid (fun W h => word_in l 0 (by decide) w.heap.size W (hc W h))
 have W1 := Lib.hid (fun W h => word_in l 1 (by decide) w.heap.size W (hc W h))
 have W2 := Lib.hid (fun W h => word_in l 2 (by decide) w.heap.size W (hc W h))
 have W3 := Lib.hid (fun W h => word_in l 3 (by decide) w.heap.size W (hc W h))
 have HV := Lib.hid (show (numV l).val = .agg #[.int .u64 (U (wordT l 0 8)), .int .u64 (U (wordT l 1 8)), .int .u64 (U (wordT l 2 8)), .int .u64 (U (wordT l 3 8))] from rfl)
 rw [HV.out]
 generalize wordT l 0 8 = x0 at *
 generalize wordT l 1 8 = x1 at *
 generalize wordT l 2 8 = x2 at *
 generalize wordT l 3 8 = x3 at *
 clear hc HV
 go_enter Tryz.func66, Tryz.ntmps66
 go_wp2_with fail
 refine (W0.out _ rfl).mono ?_
 rintro e w1 ⟨rfl, rfl⟩
 go_wp2_with fail
 refine (W1.out _ rfl).mono ?_
 rintro e w1 ⟨rfl, rfl⟩
 go_wp2_with fail
 refine (W2.out _ rfl).mono ?_
 rintro e w1 ⟨rfl, rfl⟩
 go_wp2_with fail
 refine (W3.out _ rfl).mono ?_
 rintro e w1 ⟨rfl, rfl⟩
 go_wp2_with ((with_reducible show bodyPost _ _ _ _ _ _); exact end_c Tryz.results66 rfl (atV (v := .agg #[.int .u64 (U x0), .int .u64 (U x1), .int .u64 (U x2), .int .u64 (U x3)]) (by go_simp)) rfl ⟨rfl, (by repeat (first | with_reducible assumption | with_reducible exact Below.refl _ _ | (with_reducible refine putAgg_below ?_ (by first | omega | (simp; done) | (simp; omega))) | (with_reducible refine Below.alloc ?_ (by first | omega | (simp; done) | (simp; omega)) _) | (with_reducible refine Below.setCell ?_ (by first | omega | (simp; done) | (simp; omega)) _) | (with_reducible refine Below.drew ?_) | (with_reducible refine Below.trans ?_ (Below.mono (by with_reducible assumption) (by first | omega | (simp; done) | (simp; omega))))))⟩)
end Go.Proofs.YtccgfladbibjbaaGreatDoor
namespace Go.Proofs.YtccgfladbibjbaaGreatDoor
open Go.RowKit
attribute [local go_sem ↓] add_UU sub_UU mul_UU add_UL add_LU sub_UL sub_LU mul_UL neg_at not_at and_UU or_UU xor_UU andNot_UU and_UL or_LU shr_UL shl_UL shr_UN shl_UN shl_LN quo_UL rem_UL quo_UU rem_UU
attribute [local go_sem] wrap64_N wrapi_mod wrap8_U wrap32_U wrap64_B wrap32_B wrap8_D wrapi_B wrap64_UU eq_UU ne_UU eq_UL ne_UL lt_UU le_UU
attribute [local simp] putAgg_size
attribute [local go_sem ↓] loadVar_F loadVar_E loadVar_V loadVar_B32 storeVar_F storeVar_E storeVar_V storeVar_B32 box_F box_E box_V box_B32
attribute [local go_sem ↓ high] V4.cells_val FP.cells_val
attribute [local go_sem] run_loadF run_loadE run_loadV run_loadB32 run_storeF run_storeE run_storeV run_storeB32 run_boxA aggAt_drew aggAt_drewN aggAt_alloc_new aggAt_alloc_past aggAt_setCell_other aggAt_putAgg_other aggAt_putAgg_new putAgg_drew putAgg_size putAgg_alloc_new putAgg_alloc_past putAgg_cell_other putAgg_frozen_other V4.agg_arr FP.agg_arr V4.size_arr FP.size_arr V4.fits FP.fits fitsA_agg4 lt_2 ne_2 en_2 lt_3 ne_3 en_3 lt_4 ne_4 en_4 lt_5 ne_5 en_5 lt_6 ne_6 en_6
attribute [local go_sem ↓ high] bval_cells
attribute [local go_sem] agg_bytes byteVals_size
theorem arrayAt32 (a : Option Addr) (cap : Nat) (w : World) : (Instr.arrayAt 64 (.slice a 32 cap)).run Tryz.prog w = .ok (.pointer a) w := run_arrayAt _ _ _ _ _ _ _ Tryz.underlying64 (Nat.le_refl _)
theorem load_bytes (b o : Nat) (l : List (BitVec 8)) (hl : l.length = 32) (w : World) (hc : ∀ j, j < 32 → w.cell? ⟨b, o + j, none⟩ = some (.int .u8 (B (l[j]?.getD 0#8)))) :
  (loadA 64 32 ⟨b, o, none⟩).run Tryz.prog w = .ok (bval l) w :=
 run_loadVar_mid (P := Tryz.prog) w b o 64 (byteVals l) _ (fun j v hv => by
  have hj : j < 32 := by
   have := (List.getElem?_eq_some_iff.1 hv).1
   rwa [byteVals_length, hl] at this
  rw [hc j hj, ← byteVals_get l j (by omega)]
  exact hv) Tryz.underlying64 rfl (by rw [byteVals_length, hl]; kernel_rfl)
def decX (f : FP) (l : List (BitVec 8)) : V4 := if (numV l).num < f.p.num then mmul f (numV l) f.sq else V4.zero
def decE (f : FP) (l : List (BitVec 8)) : Int := if (numV l).num < f.p.num then 0 else 9
set_option maxRecDepth 20000 in
set_option maxHeartbeats 1000000 in
theorem bcDecode (f : FP) (b off cap : Nat) (l : List (BitVec 8)) (hl : l.length = 32) (w : World) (hc : ∀ j, j < 32 → w.cell? ⟨b, off + j, none⟩ = some (.int .u8 (B (l[j]?.getD 0#8)))) :
  Calls Tryz.prog 28 #[f.val, .slice (some ⟨b, off, none⟩) 32 cap] w fun e w' => e = .returned (.tuple #[(decX f l).val, .int .i64 (decE f l)]) ∧ Below w.heap.size w w' := by
 have hb : b < w.heap.size := World.block_lt_of_cell? w _ (hc 0 (by decide))
 have hld := load_bytes b off l hl ((w.alloc (.cells f.arr 67)).alloc (.cells #[.int .u64 0, .int .u64 0, .int .u64 0, .int .u64 0] 50)) (fun j hj => by
  rw [World.cell?_alloc_past _ _ _ (by simp; omega), World.cell?_alloc_past _ _ _ hb]
  exact hc j hj)
 have har := arrayAt32 (some ⟨b, off, none⟩) cap
 have HN := Lib.hid (number l hl)
 have HC := Lib.hid (contains f (numV l))
 have HT := Lib.hid (montTo f (numV l))
 clear hc hl
 have HX := Lib.hid (show decX f l = if (numV l).num < f.p.num then mmul f (numV l) f.sq else V4.zero from rfl)
 have HE := Lib.hid (show decE f l = if (numV l).num < f.p.num then 0 else 9 from rfl)
 rw [HX.out, HE.out]
 generalize numV l = v at *
 generalize mmul f v f.sq = r at *
 go_enter Tryz.func28, Tryz.ntmps28
 go_wp2_with fail
 refine (HN.out _).mono ?_
 rintro e w1 ⟨rfl, hb1⟩
 (obtain ⟨k1, k2, k3, k4⟩ := kept hb1; (try simp at k4); (try (have z_w_0 := (show w.heap.size < w1.heap.size from by omega); have n_w_0 := (show w.heap.size ≠ w1.heap.size from by omega); have p_w_0 := fun n o => k1 n (w.heap.size) o (by first | omega | (simp; done) | (simp; omega)); have c_w_0 := fun o => k2 (w.heap.size) o (by first | omega | (simp; done) | (simp; omega)); have f_w_0 := fun o => k3 (w.heap.size) o (by first | omega | (simp; done) | (simp; omega)))); (try (have z_w_1 := (show w.heap.size + 1 < w1.heap.size from by omega); have n_w_1 := (show w.heap.size + 1 ≠ w1.heap.size from by omega); have p_w_1 := fun n o => k1 n (w.heap.size + 1) o (by first | omega | (simp; done) | (simp; omega)); have c_w_1 := fun o => k2 (w.heap.size + 1) o (by first | omega | (simp; done) | (simp; omega)); have f_w_1 := fun o => k3 (w.heap.size + 1) o (by first | omega | (simp; done) | (simp; omega)))))
 clear hld har
 go_wp2_with fail
 refine (HC.out _).mono ?_
 rintro e w2 ⟨rfl, hb2⟩
 (obtain ⟨k1, k2, k3, k4⟩ := kept hb2; (try simp at k4); (try (have z_w_0 := (show w.heap.size < w2.heap.size from by omega); have n_w_0 := (show w.heap.size ≠ w2.heap.size from by omega); have p_w_0 := fun n o => k1 n (w.heap.size) o (by first | omega | (simp; done) | (simp; omega)); have c_w_0 := fun o => k2 (w.heap.size) o (by first | omega | (simp; done) | (simp; omega)); have f_w_0 := fun o => k3 (w.heap.size) o (by first | omega | (simp; done) | (simp; omega)))); (try (have z_w_1 := (show w.heap.size + 1 < w2.heap.size from by omega); have n_w_1 := (show w.heap.size + 1 ≠ w2.heap.size from by omega); have p_w_1 := fun n o => k1 n (w.heap.size + 1) o (by first | omega | (simp; done) | (simp; omega)); have c_w_1 := fun o => k2 (w.heap.size + 1) o (by first | omega | (simp; done) | (simp; omega)); have f_w_1 := fun o => k3 (w.heap.size + 1) o (by first | omega | (simp; done) | (simp; omega)))); (try (have z_w1_0 := (show w1.heap.size < w2.heap.size from by omega); have n_w1_0 := (show w1.heap.size ≠ w2.heap.size from by omega); have p_w1_0 := fun n o => k1 n (w1.heap.size) o (by first | omega | (simp; done) | (simp; omega)); have c_w1_0 := fun o => k2 (w1.heap.size) o (by first | omega | (simp; done) | (simp; omega)); have f_w1_0 := fun o => k3 (w1.heap.size) o (by first | omega | (simp; done) | (simp; omega)))))
 by_cases hlt : v.num < f.p.num
 ·rw [decide_eq_true hlt]
  have HL := Lib.hid hlt
  have hm : (maskW true == 0#64) = false := by decide
  clear hlt
  go_wp2_with fail
  refine (HT.out _).mono ?_
  rintro e w3 ⟨rfl, hb3⟩
  (obtain ⟨k1, k2, k3, k4⟩ := kept hb3; (try simp at k4); (try (have z_w_0 := (show w.heap.size < w3.heap.size from by omega); have n_w_0 := (show w.heap.size ≠ w3.heap.size from by omega); have p_w_0 := fun n o => k1 n (w.heap.size) o (by first | omega | (simp; done) | (simp; omega)); have c_w_0 := fun o => k2 (w.heap.size) o (by first | omega | (simp; done) | (simp; omega)); have f_w_0 := fun o => k3 (w.heap.size) o (by first | omega | (simp; done) | (simp; omega)))); (try (have z_w_1 := (show w.heap.size + 1 < w3.heap.size from by omega); have n_w_1 := (show w.heap.size + 1 ≠ w3.heap.size from by omega); have p_w_1 := fun n o => k1 n (w.heap.size + 1) o (by first | omega | (simp; done) | (simp; omega)); have c_w_1 := fun o => k2 (w.heap.size + 1) o (by first | omega | (simp; done) | (simp; omega)); have f_w_1 := fun o => k3 (w.heap.size + 1) o (by first | omega | (simp; done) | (simp; omega)))); (try (have z_w1_0 := (show w1.heap.size < w3.heap.size from by omega); have n_w1_0 := (show w1.heap.size ≠ w3.heap.size from by omega); have p_w1_0 := fun n o => k1 n (w1.heap.size) o (by first | omega | (simp; done) | (simp; omega)); have c_w1_0 := fun o => k2 (w1.heap.size) o (by first | omega | (simp; done) | (simp; omega)); have f_w1_0 := fun o => k3 (w1.heap.size) o (by first | omega | (simp; done) | (simp; omega)))))
  go_wp2_with ((with_reducible show bodyPost _ _ _ _ _ _); exact end_ct Tryz.results28 rfl (atE (v := r.val) (by go_simp)) rfl ⟨by rw [if_pos HL.out, if_pos HL.out]; rfl, (by repeat (first | with_reducible assumption | with_reducible exact Below.refl _ _ | (with_reducible refine putAgg_below ?_ (by first | omega | (simp; done) | (simp; omega))) | (with_reducible refine Below.alloc ?_ (by first | omega | (simp; done) | (simp; omega)) _) | (with_reducible refine Below.setCell ?_ (by first | omega | (simp; done) | (simp; omega)) _) | (with_reducible refine Below.drew ?_) | (with_reducible refine Below.trans ?_ (Below.mono (by with_reducible assumption) (by first | omega | (simp; done) | (simp; omega))))))⟩)
 ·rw [decide_eq_false hlt]
  have HL := Lib.hid hlt
  have hm : (maskW false == 0#64) = true := by decide
  clear hlt
  go_wp2_with ((with_reducible show bodyPost _ _ _ _ _ _); exact end_ct Tryz.results28 rfl (atE (v := .agg #[.int .u64 0, .int .u64 0, .int .u64 0, .int .u64 0]) (by go_simp)) rfl ⟨by rw [if_neg HL.out, if_neg HL.out]; rfl, (by repeat (first | with_reducible assumption | with_reducible exact Below.refl _ _ | (with_reducible refine putAgg_below ?_ (by first | omega | (simp; done) | (simp; omega))) | (with_reducible refine Below.alloc ?_ (by first | omega | (simp; done) | (simp; omega)) _) | (with_reducible refine Below.setCell ?_ (by first | omega | (simp; done) | (simp; omega)) _) | (with_reducible refine Below.drew ?_) | (with_reducible refine Below.trans ?_ (Below.mono (by with_reducible assumption) (by first | omega | (simp; done) | (simp; omega))))))⟩)
end Go.Proofs.YtccgfladbibjbaaGreatDoor
namespace Go.Proofs.YtccgfladbibjbaaGreatDoor
open Go.RowKit
attribute [local go_sem ↓] add_UU sub_UU mul_UU add_UL add_LU sub_UL sub_LU mul_UL neg_at not_at and_UU or_UU xor_UU andNot_UU and_UL or_LU shr_UL shl_UL shr_UN shl_UN shl_LN quo_UL rem_UL quo_UU rem_UU
attribute [local go_sem] wrap64_N wrapi_mod wrap8_U wrap32_U wrap64_B wrap32_B wrap8_D wrapi_B wrap64_UU eq_UU ne_UU eq_UL ne_UL lt_UU le_UU
attribute [local simp] putAgg_size
attribute [local go_sem ↓] loadVar_F loadVar_E loadVar_V loadVar_B32 storeVar_F storeVar_E storeVar_V storeVar_B32 box_F box_E box_V box_B32
attribute [local go_sem ↓ high] V4.cells_val FP.cells_val
attribute [local go_sem] run_loadF run_loadE run_loadV run_loadB32 run_storeF run_storeE run_storeV run_storeB32 run_boxA aggAt_drew aggAt_drewN aggAt_alloc_new aggAt_alloc_past aggAt_setCell_other aggAt_putAgg_other aggAt_putAgg_new putAgg_drew putAgg_size putAgg_alloc_new putAgg_alloc_past putAgg_cell_other putAgg_frozen_other V4.agg_arr FP.agg_arr V4.size_arr FP.size_arr V4.fits FP.fits fitsA_agg4 lt_2 ne_2 en_2 lt_3 ne_3 en_3 lt_4 ne_4 en_4 lt_5 ne_5 en_5 lt_6 ne_6 en_6
def fp1 : FP := ⟨1, ⟨18446744073709551597#64, 18446744073709551615#64, 18446744073709551615#64, 9223372036854775807#64⟩, 9708812670373448219#64, ⟨38#64, 0#64, 0#64, 0#64⟩, ⟨1444#64, 0#64, 0#64, 0#64⟩⟩
def fp2 : FP := ⟨2, ⟨17562291160714782033#64, 13611842547513532036#64, 18446744073709551615#64, 18446744069414584320#64⟩, 14758798090332847183#64, ⟨884452912994769583#64, 4834901526196019579#64, 0#64, 4294967295#64⟩, ⟨9449762124159643298#64, 5087230966250696614#64, 2901921493521525849#64, 7413256579398063648#64⟩⟩
def fp0 : FP := ⟨0, V4.zero, 0#64, V4.zero, V4.zero⟩
def shaIV : List Nat := [1779033703, 3144134277, 1013904242, 2773480762, 1359893119, 2600822924, 528734635, 1541459225]
def shaK : List Nat := [1116352408, 1899447441, 3049323471, 3921009573, 961987163, 1508970993, 2453635748, 2870763221, 3624381080, 310598401, 607225278, 1426881987, 1925078388, 2162078206, 2614888103, 3248222580, 3835390401, 4022224774, 264347078, 604807628, 770255983, 1249150122, 1555081692, 1996064986, 2554220882, 2821834349, 2952996808, 3210313671, 3336571891, 3584528711, 113926993, 338241895, 666307205, 773529912, 1294757372, 1396182291, 1695183700, 1986661051, 2177026350, 2456956037, 2730485921, 2820302411, 3259730800, 3345764771, 3516065817, 3600352804, 4094571909, 275423344, 430227734, 506948616, 659060556, 883997877, 958139571, 1322822218, 1537002063, 1747873779, 1955562222, 2024104815, 2227730452, 2361852424, 2428436474, 2756734187, 3204031479, 3329325298]
structure Laid (w : World) : Prop where
 fields : ∀ k, k < 28 → w.cell? ⟨0, k, none⟩ = (fp1.arr ++ fp2.arr)[k]?
 start : ∀ k, k < 8 → w.cell? ⟨1, k, none⟩ = (shaIV[k]?).map fun n => .int .u32 (n : Int)
 consts : ∀ k, k < 64 → w.cell? ⟨2, k, none⟩ = (shaK[k]?).map fun n => .int .u32 (n : Int)
theorem Laid.size {w : World} (h : Laid w) : 2 < w.heap.size := World.block_lt_of_cell? w _ (h.consts 0 (by decide))
theorem cell_below {w w' : World} {B : Nat} (hb : Below B w w') (a : Addr) (ha : a.block < B) : w'.cell? a = w.cell? a := by
 unfold World.cell?
 rw [hb.block a.block ha]
theorem Laid.below {w w' : World} {B : Nat} (h : Laid w) (hb : Below B w w') (hB : 3 ≤ B) : Laid w' :=
 ⟨fun k hk => (cell_below hb _ (by show 0 < B; omega)).trans (h.fields k hk), fun k hk => (cell_below hb _ (by show 1 < B; omega)).trans (h.start k hk), fun k hk => (cell_below hb _ (by show 2 < B; omega)).trans (h.consts k hk)⟩
theorem Laid.to {w w' : World} (h : Laid w) (hb : Below w.heap.size w w') : Laid w' := h.below hb h.size
theorem Laid.alloc {w : World} (h : Laid w) (o : Obj) : Laid (w.alloc o) := h.to ((Below.refl _ w).alloc (Nat.le_refl _) o)
theorem Laid.drew {w : World} (h : Laid w) : Laid w.drew := ⟨h.fields, h.start, h.consts⟩
def getF (id : Int) : FP := if id = 1 then fp1 else if id = 2 then fp2 else fp0
def getE (id : Int) : Int := if id = 1 then 0 else if id = 2 then 0 else 3
def fieldsVal : Value := .agg (fp1.arr ++ fp2.arr)
theorem fieldsVal_0 (w : World) : (Instr.index 117 fieldsVal (.int .i64 0)).run Tryz.prog w = .ok fp1.val w := by kernel_rfl
theorem fieldsVal_1 (w : World) : (Instr.index 117 fieldsVal (.int .i64 1)).run Tryz.prog w = .ok fp2.val w := by kernel_rfl
theorem loadVar_FF (a : Addr) : loadVar 117 a = loadA 117 28 a := rfl
theorem Laid.loads {w : World} (h : Laid w) : (loadA 117 28 ⟨0, 0, none⟩).run Tryz.prog w = .ok fieldsVal w := by
 have := run_loadVar_mid (P := Tryz.prog) w 0 0 117 (fp1.arr ++ fp2.arr).toList _ (fun j v hv => by
  have hl : j < 28 := by
   have := (List.getElem?_eq_some_iff.1 hv).1
   exact this
  rw [Nat.zero_add, h.fields j hl]
  rwa [Array.getElem?_toList] at hv) Tryz.underlying117 rfl (by kernel_rfl)
 rw [Array.toArray_toList] at this
 unfold loadA fieldsVal
 exact this
theorem FP.arr_id (f : FP) : f.arr[0]? = some (.int .i64 f.id) := rfl
def zeroF : Array Value := #[.int .i64 0, .int .u64 0, .int .u64 0, .int .u64 0, .int .u64 0, .int .u64 0, .int .u64 0, .int .u64 0, .int .u64 0, .int .u64 0, .int .u64 0, .int .u64 0, .int .u64 0, .int .u64 0]
theorem fits_zeroF : fitsA 14 (.agg zeroF) = true := by simp [fitsA, zeroF, Value.cells, Value.oneCell']
attribute [local go_sem ↓] loadVar_FF
attribute [local go_sem] FP.arr_id
set_option maxRecDepth 20000 in
set_option maxHeartbeats 1000000 in
theorem fieldGetWalk (g1 g2 : FP) (FV : Value) (e1 : g1.id = 1) (e2 : g2.id = 2) (i0 : ∀ w, (Instr.index 117 FV (.int .i64 0)).run Tryz.prog w = .ok g1.val w) (i1 : ∀ w, (Instr.index 117 FV (.int .i64 1)).run Tryz.prog w = .ok g2.val w) (id : Int) (w : World)
  (hl : (loadA 117 28 ⟨0, 0, none⟩).run Tryz.prog (w.alloc (.cells zeroF 67)) = .ok FV (w.alloc (.cells zeroF 67))) :
  Calls Tryz.prog 26 #[.int .i64 id] w fun e w' => e = .returned (.tuple #[(if id = 1 then g1 else if id = 2 then g2 else fp0).val, .int .i64 (getE id)]) ∧ Below w.heap.size w w' := by
 have I1 := Lib.hid i1
 have E1 := Lib.hid e1
 have E2 := Lib.hid e2
 have hf0 := fits_zeroF
 unfold zeroF at hf0
 unfold zeroF at hl
 have H1 := Lib.hid (show ((1 : Int) == id) = decide (id = 1) from by by_cases h : id = 1 <;> simp [h]; omega)
 have H2 := Lib.hid (show ((2 : Int) == id) = decide (id = 2) from by by_cases h : id = 2 <;> simp [h]; omega)
 clear i1 e1 e2
 go_enter Tryz.func26, Tryz.ntmps26
 go_wp2
 clear hl
 go_loopw [7] (fun i wr => ∃ k : Nat, k ≤ 2 ∧ i = .int .i64 k ∧ (0 < k → id ≠ 1) ∧ (1 < k → id ≠ 2) ∧ aggAt wr 14 w.heap.size 0 = some fp0.val ∧ Below w.heap.size w wr) (fun i _ => 2 - (intOf i).toNat)
 case atStart => exact ⟨0, by omega, rfl, by omega, by omega, aggAt_alloc_at w _ _ 14 _ rfl rfl, (by repeat (first | with_reducible assumption | with_reducible exact Below.refl _ _ | (with_reducible refine putAgg_below ?_ (by first | omega | (simp; done) | (simp; omega))) | (with_reducible refine Below.alloc ?_ (by first | omega | (simp; done) | (simp; omega)) _) | (with_reducible refine Below.setCell ?_ (by first | omega | (simp; done) | (simp; omega)) _) | (with_reducible refine Below.drew ?_) | (with_reducible refine Below.trans ?_ (Below.mono (by with_reducible assumption) (by first | omega | (simp; done) | (simp; omega))))))⟩
 case round =>
  obtain ⟨k, hk, rfl, h1, h2, hZ, hB⟩ := hrel
  have hz := aggAt_lt hZ
  by_cases hk0 : k = 0
  ·subst hk0
   clear I1
   by_cases hi : id = 1
   ·have hd := H1.out
    rw [decide_eq_true hi] at hd
    have HI := Lib.hid hi
    rw [← E1.out] at hd
    clear hi h1 h2
    go_wp2_with ((with_reducible show bodyPost _ _ _ _ _ _); exact end_ct Tryz.results26 rfl (atF (v := g1.val) (by go_simp)) rfl ⟨by simp [HI.out, getE], (by repeat (first | with_reducible assumption | with_reducible exact Below.refl _ _ | (with_reducible refine putAgg_below ?_ (by first | omega | (simp; done) | (simp; omega))) | (with_reducible refine Below.alloc ?_ (by first | omega | (simp; done) | (simp; omega)) _) | (with_reducible refine Below.setCell ?_ (by first | omega | (simp; done) | (simp; omega)) _) | (with_reducible refine Below.drew ?_) | (with_reducible refine Below.trans ?_ (Below.mono (by with_reducible assumption) (by first | omega | (simp; done) | (simp; omega))))))⟩)
   ·have hd := H1.out
    rw [decide_eq_false hi] at hd
    rw [← E1.out] at hd
    have HI := Lib.hid hi
    clear hi h1 h2
    go_wp2
    go_roundw
    case rel => exact ⟨1, by omega, rfl, fun _ => HI.out, by omega, by rw [aggAt_alloc_past _ _ _ _ _ hz]; exact hZ, (by repeat (first | with_reducible assumption | with_reducible exact Below.refl _ _ | (with_reducible refine putAgg_below ?_ (by first | omega | (simp; done) | (simp; omega))) | (with_reducible refine Below.alloc ?_ (by first | omega | (simp; done) | (simp; omega)) _) | (with_reducible refine Below.setCell ?_ (by first | omega | (simp; done) | (simp; omega)) _) | (with_reducible refine Below.drew ?_) | (with_reducible refine Below.trans ?_ (Below.mono (by with_reducible assumption) (by first | omega | (simp; done) | (simp; omega))))))⟩
    case measure => simp [intOf]
  ·clear i0
   by_cases hk1 : k = 1
   ·subst hk1
    have i1 := I1.out
    rw [show ((1 : Nat) : Int) = 1 from rfl]
    by_cases hi : id = 2
    ·have hd := H2.out
     rw [decide_eq_true hi] at hd
     have HI := Lib.hid hi
     rw [← E2.out] at hd
     clear hi h1 h2
     go_wp2_with ((with_reducible show bodyPost _ _ _ _ _ _); exact end_ct Tryz.results26 rfl (atF (v := g2.val) (by go_simp)) rfl ⟨by simp [HI.out, getE], (by repeat (first | with_reducible assumption | with_reducible exact Below.refl _ _ | (with_reducible refine putAgg_below ?_ (by first | omega | (simp; done) | (simp; omega))) | (with_reducible refine Below.alloc ?_ (by first | omega | (simp; done) | (simp; omega)) _) | (with_reducible refine Below.setCell ?_ (by first | omega | (simp; done) | (simp; omega)) _) | (with_reducible refine Below.drew ?_) | (with_reducible refine Below.trans ?_ (Below.mono (by with_reducible assumption) (by first | omega | (simp; done) | (simp; omega))))))⟩)
    ·have hd := H2.out
     rw [decide_eq_false hi] at hd
     rw [← E2.out] at hd
     have HI := Lib.hid hi
     have HI1 := Lib.hid (h1 (by omega))
     clear hi h1 h2
     go_wp2
     go_roundw
     case rel => exact ⟨2, by omega, rfl, fun _ => HI1.out, fun _ => HI.out, by rw [aggAt_alloc_past _ _ _ _ _ hz]; exact hZ, (by repeat (first | with_reducible assumption | with_reducible exact Below.refl _ _ | (with_reducible refine putAgg_below ?_ (by first | omega | (simp; done) | (simp; omega))) | (with_reducible refine Below.alloc ?_ (by first | omega | (simp; done) | (simp; omega)) _) | (with_reducible refine Below.setCell ?_ (by first | omega | (simp; done) | (simp; omega)) _) | (with_reducible refine Below.drew ?_) | (with_reducible refine Below.trans ?_ (Below.mono (by with_reducible assumption) (by first | omega | (simp; done) | (simp; omega))))))⟩
     case measure => simp [intOf]
   ·obtain rfl : k = 2 := by omega
    have HI := Lib.hid (h2 (by omega))
    have HI1 := Lib.hid (h1 (by omega))
    clear h1 h2 I1
    rw [show ((2 : Nat) : Int) = 2 from rfl]
    go_wp2_with ((with_reducible show bodyPost _ _ _ _ _ _); exact end_ct Tryz.results26 rfl (atF (v := .agg #[.int .i64 0, .int .u64 0, .int .u64 0, .int .u64 0, .int .u64 0, .int .u64 0, .int .u64 0, .int .u64 0, .int .u64 0, .int .u64 0, .int .u64 0, .int .u64 0, .int .u64 0, .int .u64 0]) (by go_simp)) rfl ⟨by rw [if_neg HI1.out, if_neg HI.out]; simp [HI.out, HI1.out, getE]; rfl, (by repeat (first | with_reducible assumption | with_reducible exact Below.refl _ _ | (with_reducible refine putAgg_below ?_ (by first | omega | (simp; done) | (simp; omega))) | (with_reducible refine Below.alloc ?_ (by first | omega | (simp; done) | (simp; omega)) _) | (with_reducible refine Below.setCell ?_ (by first | omega | (simp; done) | (simp; omega)) _) | (with_reducible refine Below.drew ?_) | (with_reducible refine Below.trans ?_ (Below.mono (by with_reducible assumption) (by first | omega | (simp; done) | (simp; omega))))))⟩)
theorem fieldGet (id : Int) (w : World) (L : Laid w) :
  Calls Tryz.prog 26 #[.int .i64 id] w fun e w' => e = .returned (.tuple #[(getF id).val, .int .i64 (getE id)]) ∧ Below w.heap.size w w' :=
 fieldGetWalk fp1 fp2 fieldsVal rfl rfl fieldsVal_0 fieldsVal_1 id w (L.alloc _).loads
end Go.Proofs.YtccgfladbibjbaaGreatDoor
namespace Go.Proofs.YtccgfladbibjbaaGreatDoor
open Go.RowKit
attribute [local go_sem ↓] add_UU sub_UU mul_UU add_UL add_LU sub_UL sub_LU mul_UL neg_at not_at and_UU or_UU xor_UU andNot_UU and_UL or_LU shr_UL shl_UL shr_UN shl_UN shl_LN quo_UL rem_UL quo_UU rem_UU
attribute [local go_sem] wrap64_N wrapi_mod wrap8_U wrap32_U wrap64_B wrap32_B wrap8_D wrapi_B wrap64_UU eq_UU ne_UU eq_UL ne_UL lt_UU le_UU
attribute [local simp] putAgg_size
attribute [local go_sem ↓] loadVar_F loadVar_E loadVar_V loadVar_B32 storeVar_F storeVar_E storeVar_V storeVar_B32 box_F box_E box_V box_B32
attribute [local go_sem ↓ high] V4.cells_val FP.cells_val
attribute [local go_sem] run_loadF run_loadE run_loadV run_loadB32 run_storeF run_storeE run_storeV run_storeB32 run_boxA aggAt_drew aggAt_drewN aggAt_alloc_new aggAt_alloc_past aggAt_setCell_other aggAt_putAgg_other aggAt_putAgg_new putAgg_drew putAgg_size putAgg_alloc_new putAgg_alloc_past putAgg_cell_other putAgg_frozen_other V4.agg_arr FP.agg_arr V4.size_arr FP.size_arr V4.fits FP.fits fitsA_agg4 lt_2 ne_2 en_2 lt_3 ne_3 en_3 lt_4 ne_4 en_4 lt_5 ne_5 en_5 lt_6 ne_6 en_6
def refMod (id : Int) : V4 := if id = 1 then fp1.p else if id = 2 then fp2.p else V4.zero
set_option maxRecDepth 20000 in
set_option maxHeartbeats 1000000 in
theorem refModulus (id : Int) (w : World) : Calls Tryz.prog 16 #[.int .i64 id] w fun e w' => e = .returned (refMod id).val ∧ Below w.heap.size w w' := by
 have b1 : ∀ W, (Instr.build 45 #[(0, .int .u64 18446744073709551597), (1, .int .u64 18446744073709551615), (2, .int .u64 18446744073709551615), (3, .int .u64 9223372036854775807)]).run Tryz.prog W = .ok fp1.p.val W := fun W => by kernel_rfl
 have b2 : ∀ W, (Instr.build 45 #[(0, .int .u64 17562291160714782033), (1, .int .u64 13611842547513532036), (2, .int .u64 18446744073709551615), (3, .int .u64 18446744069414584320)]).run Tryz.prog W = .ok fp2.p.val W := fun W => by kernel_rfl
 have b3 : ∀ W, (Instr.build 45 #[]).run Tryz.prog W = .ok V4.zero.val W := fun W => by kernel_rfl
 by_cases h1 : id = 1
 ·subst h1
  rw [show refMod 1 = fp1.p from rfl]
  go_enter Tryz.func16, Tryz.ntmps16
  go_wp2_with ((with_reducible show bodyPost _ _ _ _ _ _); exact end_c Tryz.results16 rfl (atE (v := .agg #[.int .u64 18446744073709551597, .int .u64 18446744073709551615, .int .u64 18446744073709551615, .int .u64 9223372036854775807]) (by go_simp)) rfl ⟨(by kernel_rfl), (by repeat (first | with_reducible assumption | with_reducible exact Below.refl _ _ | (with_reducible refine putAgg_below ?_ (by first | omega | (simp; done) | (simp; omega))) | (with_reducible refine Below.alloc ?_ (by first | omega | (simp; done) | (simp; omega)) _) | (with_reducible refine Below.setCell ?_ (by first | omega | (simp; done) | (simp; omega)) _) | (with_reducible refine Below.drew ?_) | (with_reducible refine Below.trans ?_ (Below.mono (by with_reducible assumption) (by first | omega | (simp; done) | (simp; omega))))))⟩)
 ·have q1 : (id == 1) = false := beq_eq_false_iff_ne.2 h1
  by_cases h2 : id = 2
  ·subst h2
   rw [show refMod 2 = fp2.p from rfl]
   go_enter Tryz.func16, Tryz.ntmps16
   go_wp2_with ((with_reducible show bodyPost _ _ _ _ _ _); exact end_c Tryz.results16 rfl (atE (v := .agg #[.int .u64 17562291160714782033, .int .u64 13611842547513532036, .int .u64 18446744073709551615, .int .u64 18446744069414584320]) (by go_simp)) rfl ⟨(by kernel_rfl), (by repeat (first | with_reducible assumption | with_reducible exact Below.refl _ _ | (with_reducible refine putAgg_below ?_ (by first | omega | (simp; done) | (simp; omega))) | (with_reducible refine Below.alloc ?_ (by first | omega | (simp; done) | (simp; omega)) _) | (with_reducible refine Below.setCell ?_ (by first | omega | (simp; done) | (simp; omega)) _) | (with_reducible refine Below.drew ?_) | (with_reducible refine Below.trans ?_ (Below.mono (by with_reducible assumption) (by first | omega | (simp; done) | (simp; omega))))))⟩)
  ·have q2 : (id == 2) = false := beq_eq_false_iff_ne.2 h2
   rw [show refMod id = V4.zero from by unfold refMod; rw [if_neg h1, if_neg h2]]
   go_enter Tryz.func16, Tryz.ntmps16
   go_wp2_with ((with_reducible show bodyPost _ _ _ _ _ _); exact end_c Tryz.results16 rfl (atE (v := .agg #[.int .u64 0, .int .u64 0, .int .u64 0, .int .u64 0]) (by go_simp)) rfl ⟨(by kernel_rfl), (by repeat (first | with_reducible assumption | with_reducible exact Below.refl _ _ | (with_reducible refine putAgg_below ?_ (by first | omega | (simp; done) | (simp; omega))) | (with_reducible refine Below.alloc ?_ (by first | omega | (simp; done) | (simp; omega)) _) | (with_reducible refine Below.setCell ?_ (by first | omega | (simp; done) | (simp; omega)) _) | (with_reducible refine Below.drew ?_) | (with_reducible refine Below.trans ?_ (Below.mono (by with_reducible assumption) (by first | omega | (simp; done) | (simp; omega))))))⟩)
end Go.Proofs.YtccgfladbibjbaaGreatDoor
