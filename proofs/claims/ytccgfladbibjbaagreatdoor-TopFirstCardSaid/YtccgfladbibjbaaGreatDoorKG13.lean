/- Package bytecode: Encode. -/
import Derived.Test.YtccgfladbibjbaaGreatDoorKG12
import Derived.Laws.AppendOwn
import Derived.Laws.CopyOwn
import Derived.Deep.RegionHeld3
import Derived.Laws.Slices
import Derived.Laws.Cover3
import Derived.Laws.OwnMore
namespace Go.Proofs.YtccgfladbibjbaaGreatDoor
open Go.RowKit
attribute [local go_sem ↓] add_UU sub_UU mul_UU add_UL add_LU sub_UL sub_LU mul_UL neg_at not_at and_UU or_UU xor_UU andNot_UU and_UL or_LU shr_UL shl_UL shr_UN shl_UN shl_LN quo_UL rem_UL quo_UU rem_UU
attribute [local go_sem] wrap64_N wrapi_mod wrap8_U wrap32_U wrap64_B wrap32_B wrap8_D wrapi_B wrap64_UU eq_UU ne_UU eq_UL ne_UL lt_UU le_UU
attribute [local simp] putAgg_size
attribute [local go_sem ↓] loadVar_F loadVar_E loadVar_V loadVar_B32 storeVar_F storeVar_E storeVar_V storeVar_B32 box_F box_E box_V box_B32
attribute [local go_sem ↓ high] V4.cells_val FP.cells_val
attribute [local go_sem] run_loadF run_loadE run_loadV run_loadB32 run_storeF run_storeE run_storeV run_storeB32 run_boxA aggAt_drew aggAt_drewN aggAt_alloc_new aggAt_alloc_past aggAt_setCell_other aggAt_putAgg_other aggAt_putAgg_new putAgg_drew putAgg_size putAgg_alloc_new putAgg_alloc_past putAgg_cell_other putAgg_frozen_other V4.agg_arr FP.agg_arr V4.size_arr FP.size_arr V4.fits FP.fits fitsA_agg4 lt_2 ne_2 en_2 lt_3 ne_3 en_3 lt_4 ne_4 en_4 lt_5 ne_5 en_5 lt_6 ne_6 en_6
def byteN (v : V4) (j : Nat) : BitVec 8 := (v.get (j / 8) >>> (8 * (j % 8))).setWidth 8
def encT (v : V4) (n : Nat) : List (BitVec 8) := (List.range n).map (byteN v)
def encL (v : V4) : List (BitVec 8) := encT v 32
theorem encT_length (v : V4) (n : Nat) : (encT v n).length = n := by simp [encT]
theorem encT_succ (v : V4) (n : Nat) : byteVals (encT v (n + 1)) = byteVals (encT v n) ++ [.int .u8 (B (byteN v n))] := by simp [encT, byteVals, List.range_succ]
theorem info_u8 : (Tryz.prog.info? 5).map (fun i => (i.zero, i.size, i.bytes)) = some (some (.int .u8 0), 1, 1) := by kernel_rfl
theorem index_V0 (v : V4) (w : World) : (Instr.index 45 v.val (.int .i64 0)).run Tryz.prog w = .ok (.int .u64 (U v.x0)) w := by kernel_rfl
theorem index_V1 (v : V4) (w : World) : (Instr.index 45 v.val (.int .i64 1)).run Tryz.prog w = .ok (.int .u64 (U v.x1)) w := by kernel_rfl
theorem index_V2 (v : V4) (w : World) : (Instr.index 45 v.val (.int .i64 2)).run Tryz.prog w = .ok (.int .u64 (U v.x2)) w := by kernel_rfl
theorem index_V3 (v : V4) (w : World) : (Instr.index 45 v.val (.int .i64 3)).run Tryz.prog w = .ok (.int .u64 (U v.x3)) w := by kernel_rfl
theorem index_V (v : V4) (i : Nat) (hi : i < 4) (w : World) : (Instr.index 45 v.val (.int .i64 i)).run Tryz.prog w = .ok (.int .u64 (U (v.get i))) w := by
 match i, hi with
 | 0, _ => exact index_V0 v w
 | 1, _ => exact index_V1 v w
 | 2, _ => exact index_V2 v w
 | 3, _ => exact index_V3 v w
theorem cell_new1 (w : World) (x : Value) (t : TypeId) : (w.alloc (.cells #[x] t)).cell? ⟨w.heap.size, 0, none⟩ = some x := by
 rw [World.cell?_alloc_at _ _ _ _ rfl]
 rfl
theorem one_news {W : World} {b : Nat} {x : Value} (h : W.cell? ⟨b, 0, none⟩ = some x) : ∀ j u, [x][j]? = some u → W.cell? ((⟨b, 0, none⟩ : Addr).add j) = some u := by
 intro j u hj
 match j with
 | 0 => simp at hj; subst hj; exact h
 | j + 1 => simp at hj
theorem shr8 (x : BitVec 64) (k : Nat) (yk : IntKind) : Op.shift .shr .u64 (U x) yk (8 * (k : Int)) = pure (.int .u64 (U (x >>> (8 * k)))) := by
 have := shr_UN x (8 * k) yk
 rwa [Int.natCast_mul] at this
attribute [local go_sem ↓] shr8
set_option maxRecDepth 20000 in
set_option maxHeartbeats 1000000 in
theorem bcEncode (f : FP) (x : V4) (w : World) :
  Calls Tryz.prog 33 #[f.val, x.val] w fun e w' => ∃ v, e = .returned v ∧ w'.ownsRow w.heap.size 5 1 v 32 (byteVals (encL (mmul f x V4.unit))) ∧ Below w.heap.size w w' := by
 obtain ⟨i0, hi0, hz0, hz1, hz2⟩ := info_parts info_u8
 have HF := Lib.hid (montFrom f x)
 unfold encL
 generalize mmul f x V4.unit = r at *
 go_enter Tryz.func33, Tryz.ntmps33
 go_wp2_with fail
 refine (HF.out _).mono ?_
 rintro e w0 ⟨rfl, hb0⟩
 have HB0 := Lib.hid (show Below w.heap.size w w0 from (by repeat (first | with_reducible assumption | with_reducible exact Below.refl _ _ | (with_reducible refine putAgg_below ?_ (by first | omega | (simp; done) | (simp; omega))) | (with_reducible refine Below.alloc ?_ (by first | omega | (simp; done) | (simp; omega)) _) | (with_reducible refine Below.setCell ?_ (by first | omega | (simp; done) | (simp; omega)) _) | (with_reducible refine Below.drew ?_) | (with_reducible refine Below.trans ?_ (Below.mono (by with_reducible assumption) (by first | omega | (simp; done) | (simp; omega)))))))
 have hs0 := HB0.out.size
 clear hb0
 go_wp2
 go_loopw [5, 12] (fun o i wr => ∃ k : Nat, k ≤ 4 ∧ i = .int .i64 k ∧ wr.ownsRow w.heap.size 5 1 o (8 * k) (byteVals (encT r (8 * k))) ∧ Below w.heap.size w wr) (fun _ i _ => 4 - (intOf i).toNat)
 case atStart => exact ⟨0, by omega, rfl, World.ownsRow_nil _ _ _ _, HB0.out⟩
 case round =>
  clear HB0 hs0
  obtain ⟨i, hi, rfl, hown, hb⟩ := hrel
  by_cases hlt : i < 4
  ·have hx := index_V r i hlt
   have HI := Lib.hid (And.intro hown hb)
   have k4 : (i : Int) < 4 := by omega
   clear hown hb
   go_wp2
   clear hx
   go_loopw [5, 15] (fun o j wr => ∃ m : Nat, m ≤ 8 ∧ j = .int .i64 m ∧ wr.ownsRow w.heap.size 5 1 o (8 * i + m) (byteVals (encT r (8 * i + m))) ∧ Below w.heap.size w wr) (fun _ j _ => 8 - (intOf j).toNat)
   case atStart => exact ⟨0, by omega, rfl, HI.out.1, HI.out.2⟩
   case round =>
    clear HI
    obtain ⟨m, hm, rfl, hown, hb⟩ := hrel
    by_cases hlm : m < 8
    ·have hsz := hb.size
     have hw3 : IntKind.i64.wrap (8 * (m : Int)) = 8 * (m : Int) := by rw [IntKind.wrap_i64]; omega
     have HD := Lib.hid (show byteN r (8 * i + m) = (r.get i >>> (8 * m)).setWidth 8 from by
      unfold byteN
      rw [show (8 * i + m) / 8 = i by omega, show (8 * i + m) % 8 = m by omega])
     have HB := Lib.hid hb
     clear hb
     go_wp2_with (at_builtin; refine wpList_append_own _ rfl _ _ 22 rfl w.heap.size 5 i0 (.int .u8 0) 1 1 Tryz.underlying22 hi0 hz0 hz1 hz2 rfl (by decide) _ _ _ rfl (hown.alloc _) ⟨wr.heap.size, 0, none⟩ 1 1 [.int .u8 (B ((r.get i >>> (8 * m)).setWidth 8))] rfl rfl ?c1 ?c2 ?c3 ?c4 ?c5 ?_)
     case c1 => exact one_news (cell_new1 _ _ _)
     case c2 => intro u hu; simp at hu; subst hu; rfl
     case c3 => unfold maxLen; omega
     case c4 => omega
     case c5 => simp; omega
     intro v1 w1 hown1 hg1 _
     have HR := Lib.hid (show w1.ownsRow w.heap.size 5 1 v1 (8 * i + (m + 1)) (byteVals (encT r (8 * i + (m + 1)))) ∧ Below w.heap.size w w1 from by
      refine ⟨?_, ((HB.out.alloc hsz _).grown hg1 (by simp; omega) (fun k hk => (hown.lt k hk).1))⟩
      rw [← Nat.add_assoc, encT_succ, HD.out]
      exact hown1)
     clear hown1 hg1
     go_wp2
     go_roundw
     case rel => exact ⟨m + 1, by omega, by go_num, HR.out⟩
     case measure => simp [intOf]; omega
    ·obtain rfl : m = 8 := by omega
     have HR := Lib.hid (And.intro hown hb)
     clear hown hb
     go_wp2
     go_roundw
     case rel => exact ⟨i + 1, by omega, by go_num, HR.out⟩
     case measure => simp [intOf]; omega
  ·obtain rfl : i = 4 := by omega
   have HR := Lib.hid (And.intro hown hb)
   clear hown hb
   go_wp2
   go_ret
   exact ⟨_, rfl, HR.out⟩
end Go.Proofs.YtccgfladbibjbaaGreatDoor
namespace Go.Proofs.YtccgfladbibjbaaGreatDoor
open Go.RowKit
def wn (l : List (BitVec 8)) (i : Nat) : Nat → Nat
 | 0 => 0
 | k + 1 => wn l i k + (l[8 * i + k]?.getD 0#8).toNat * 2 ^ (8 * k)
theorem wn_lt (l : List (BitVec 8)) (i : Nat) : ∀ k, wn l i k < 2 ^ (8 * k)
 | 0 => by simp [wn]
 | k + 1 => by
  have h := wn_lt l i k
  have hb := (l[8 * i + k]?.getD 0#8).isLt
  have e : 2 ^ (8 * (k + 1)) = 2 ^ (8 * k) * 256 := by rw [Nat.mul_succ, Nat.pow_add]
  rw [wn, e]
  generalize 2 ^ (8 * k) = p at *
  generalize (l[8 * i + k]?.getD 0#8).toNat = b at *
  have : b * p ≤ 255 * p := Nat.mul_le_mul_right _ (by omega)
  omega
theorem wordT_nat (l : List (BitVec 8)) (i : Nat) : ∀ k, k ≤ 8 → (wordT l i k).toNat = wn l i k
 | 0, _ => rfl
 | k + 1, hk => by
  have ih := wordT_nat l i k (by omega)
  have hlt := wn_lt l i k
  have hb := (l[8 * i + k]?.getD 0#8).isLt
  rw [wordT, BitVec.toNat_or, ih, BitVec.toNat_shiftLeft, BitVec.toNat_setWidth, wn]
  generalize (l[8 * i + k]?.getD 0#8).toNat = b at *
  have e1 : b % 2 ^ 64 = b := Nat.mod_eq_of_lt (by omega)
  rw [e1, Nat.shiftLeft_eq]
  have e2 : b * 2 ^ (8 * k) < 2 ^ 64 := by
   have h1 : b * 2 ^ (8 * k) < 2 ^ 8 * 2 ^ (8 * k) := Nat.mul_lt_mul_of_pos_right (by omega) (Nat.two_pow_pos _)
   rw [← Nat.pow_add] at h1
   exact Nat.lt_of_lt_of_le h1 (Nat.pow_le_pow_right (by decide) (by omega))
  rw [Nat.mod_eq_of_lt e2]
  have h := Nat.shiftLeft_add_eq_or_of_lt hlt b
  rw [Nat.shiftLeft_eq] at h
  rw [Nat.or_comm, ← h]
  omega
theorem wn_byte (l : List (BitVec 8)) (i m : Nat) : ∀ k, m < k → wn l i k / 2 ^ (8 * m) % 256 = (l[8 * i + m]?.getD 0#8).toNat
 | 0, h => absurd h (Nat.not_lt_zero _)
 | k + 1, h => by
  rw [wn]
  have hb := (l[8 * i + k]?.getD 0#8).isLt
  by_cases hm : m < k
  ·have ih := wn_byte l i m k hm
   have e : 2 ^ (8 * k) = 2 ^ (8 * m) * (256 * 2 ^ (8 * (k - m - 1))) := by
    rw [show (256 : Nat) = 2 ^ 8 from rfl, ← Nat.pow_add, ← Nat.pow_add]
    congr 1
    omega
   rw [e, show (l[8 * i + k]?.getD 0#8).toNat * (2 ^ (8 * m) * (256 * 2 ^ (8 * (k - m - 1)))) = 2 ^ (8 * m) * (256 * ((l[8 * i + k]?.getD 0#8).toNat * 2 ^ (8 * (k - m - 1)))) from by
    generalize 2 ^ (8 * m) = p
    generalize 2 ^ (8 * (k - m - 1)) = q
    generalize (l[8 * i + k]?.getD 0#8).toNat = b
    grind, Nat.add_mul_div_left _ _ (Nat.two_pow_pos _), Nat.add_mul_mod_self_left]
   exact ih
  ·obtain rfl : m = k := by omega
   rw [Nat.mul_comm (l[8 * i + m]?.getD 0#8).toNat, Nat.add_mul_div_left _ _ (Nat.two_pow_pos _), Nat.div_eq_of_lt (wn_lt l i m), Nat.zero_add, Nat.mod_eq_of_lt (by omega)]
theorem wn_of (l : List (BitVec 8)) (i x : Nat) : ∀ k, (∀ m, m < k → (l[8 * i + m]?.getD 0#8).toNat = x / 2 ^ (8 * m) % 256) → wn l i k = x % 2 ^ (8 * k)
 | 0, _ => by simp [wn, Nat.mod_one]
 | k + 1, h => by
  rw [wn, wn_of l i x k (fun m hm => h m (by omega)), h k (by omega), Nat.mul_succ, Nat.pow_add, Nat.mod_mul, Nat.mul_comm (2 ^ (8 * k))]
theorem encL_get (v : V4) (j : Nat) (h : j < 32) : (encL v)[j]? = some (byteN v j) := by
 unfold encL encT
 rw [List.getElem?_map, List.getElem?_range h]; rfl
theorem byteN_nat (v : V4) (i m : Nat) (hm : m < 8) : (byteN v (8 * i + m)).toNat = (v.get i).toNat / 2 ^ (8 * m) % 256 := by
 unfold byteN
 rw [BitVec.toNat_setWidth, BitVec.toNat_ushiftRight, Nat.shiftRight_eq_div_pow, show (8 * i + m) / 8 = i from by omega, show (8 * i + m) % 8 = m from by omega]
theorem word_encL (v : V4) (i : Nat) (hi : i < 4) : wordT (encL v) i 8 = v.get i := by
 apply BitVec.eq_of_toNat_eq
 rw [wordT_nat _ _ _ (Nat.le_refl 8), wn_of _ _ (v.get i).toNat 8 (fun m hm => by
  rw [encL_get v _ (by omega), Option.getD_some, byteN_nat v i m hm])]
 exact Nat.mod_eq_of_lt (v.get i).isLt
theorem numV_encL (v : V4) : numV (encL v) = v := by
 unfold numV
 rw [word_encL v 0 (by decide), word_encL v 1 (by decide), word_encL v 2 (by decide), word_encL v 3 (by decide)]
 rfl
theorem numV_get (l : List (BitVec 8)) (i : Nat) (hi : i < 4) : (numV l).get i = wordT l i 8 := by
 match i, hi with
 | 0, _ => rfl
 | 1, _ => rfl
 | 2, _ => rfl
 | 3, _ => rfl
theorem encL_numV (l : List (BitVec 8)) (h : l.length = 32) : encL (numV l) = l := by
 apply List.ext_getElem?
 intro j
 by_cases hj : j < 32
 ·rw [encL_get _ j hj]
  obtain ⟨i, m, hm, rfl⟩ : ∃ i m, m < 8 ∧ j = 8 * i + m := ⟨j / 8, j % 8, by omega, by omega⟩
  have hg : l[8 * i + m]? = some (l[8 * i + m]?.getD 0#8) := by rw [List.getElem?_eq_getElem (by omega)]; rfl
  rw [hg]
  congr 1
  apply BitVec.eq_of_toNat_eq
  rw [byteN_nat _ i m hm, numV_get l i (by omega), wordT_nat _ _ _ (Nat.le_refl 8), wn_byte l i m 8 hm]
 ·rw [List.getElem?_eq_none (by unfold encL; rw [encT_length]; omega), List.getElem?_eq_none (by omega)]
end Go.Proofs.YtccgfladbibjbaaGreatDoor
namespace Go.Proofs.YtccgfladbibjbaaGreatDoor
open Go.RowKit
attribute [local go_sem ↓] add_UU sub_UU mul_UU add_UL add_LU sub_UL sub_LU mul_UL neg_at not_at and_UU or_UU xor_UU andNot_UU and_UL or_LU shr_UL shl_UL shr_UN shl_UN shl_LN quo_UL rem_UL quo_UU rem_UU
attribute [local go_sem] wrap64_N wrapi_mod wrap8_U wrap32_U wrap64_B wrap32_B wrap8_D wrapi_B wrap64_UU eq_UU ne_UU eq_UL ne_UL lt_UU le_UU
attribute [local simp] putAgg_size
attribute [local go_sem ↓] loadVar_F loadVar_E loadVar_V loadVar_B32 storeVar_F storeVar_E storeVar_V storeVar_B32 box_F box_E box_V box_B32
attribute [local go_sem ↓ high] V4.cells_val FP.cells_val
attribute [local go_sem] run_loadF run_loadE run_loadV run_loadB32 run_storeF run_storeE run_storeV run_storeB32 run_boxA aggAt_drew aggAt_drewN aggAt_alloc_new aggAt_alloc_past aggAt_setCell_other aggAt_putAgg_other aggAt_putAgg_new putAgg_drew putAgg_size putAgg_alloc_new putAgg_alloc_past putAgg_cell_other putAgg_frozen_other V4.agg_arr FP.agg_arr V4.size_arr FP.size_arr V4.fits FP.fits fitsA_agg4 lt_2 ne_2 en_2 lt_3 ne_3 en_3 lt_4 ne_4 en_4 lt_5 ne_5 en_5 lt_6 ne_6 en_6
attribute [local go_sem ↓ high] bval_cells
attribute [local go_sem] agg_bytes byteVals_size
theorem alloc_block (w : World) (ob : Obj) (n : Nat) (h : n = w.heap.size) : (w.alloc ob).heap[n]? = some ob := by subst h; exact heap_alloc_new w ob
def Sees (w : World) (A : Option Addr) (xs : List Value) : Prop := 0 < xs.length → ∃ b o, A = some ⟨b, o, none⟩ ∧ ∀ j, j < xs.length → w.cell? ⟨b, o + j, none⟩ = xs[j]?
theorem Sees.nil (w : World) (A : Option Addr) : Sees w A [] := fun h => absurd h (by decide)
theorem Sees.lt {w : World} {b o : Nat} {xs : List Value} (h : Sees w (some ⟨b, o, none⟩) xs) (hx : 0 < xs.length) : b < w.heap.size := by
 obtain ⟨b', o', e, hc⟩ := h hx
 injection e with e
 injection e with e1 e2
 subst e1 e2
 have := hc 0 hx
 rw [List.getElem?_eq_getElem hx] at this
 exact World.block_lt_of_cell? w _ this
theorem Sees.below {w w' : World} {A : Option Addr} {xs : List Value} (h : Sees w A xs) (hb : Below w.heap.size w w') : Sees w' A xs := by
 intro hx
 obtain ⟨b, o, rfl, hc⟩ := h hx
 exact ⟨b, o, rfl, fun j hj => (hb.cell (p := ⟨b, o + j, none⟩) (h.lt hx)).trans (hc j hj)⟩
theorem Sees.alloc {w : World} {A : Option Addr} {xs : List Value} (h : Sees w A xs) (o : Obj) : Sees (w.alloc o) A xs := h.below ((Below.refl _ w).alloc (Nat.le_refl _) o)
theorem Sees.news {w : World} {A : Option Addr} {xs : List Value} (h : Sees w A xs) (hx : 0 < xs.length) : ∃ ad, A = some ad ∧ ∀ j v, xs[j]? = some v → w.cell? (ad.add j) = some v := by
 obtain ⟨b, o, rfl, hc⟩ := h hx
 refine ⟨_, rfl, fun j v hj => ?_⟩
 rw [Addr.add_mid, hc j (List.getElem?_eq_some_iff.1 hj).1]
 exact hj
def pad32 (l : List (BitVec 8)) : List (BitVec 8) := l ++ List.replicate (32 - l.length) 0#8
theorem pad32_length (l : List (BitVec 8)) (h : l.length ≤ 32) : (pad32 l).length = 32 := by simp [pad32]; omega
def zeros32 : List Value := List.replicate 32 (.int .u8 0)
theorem zeros32_length : zeros32.length = 32 := List.length_replicate
theorem splice_pad (l : List (BitVec 8)) : splice zeros32 0 (byteVals l) = byteVals (pad32 l) := by
 unfold zeros32 splice pad32 byteVals
 rw [List.map_append, List.take_zero, List.nil_append, List.length_map, Nat.zero_add, List.drop_replicate, List.map_replicate]
 rfl
set_option maxRecDepth 20000 in
set_option maxHeartbeats 1000000 in
theorem bcPack (f : FP) (A : Option Addr) (cap : Nat) (l : List (BitVec 8)) (hl : l.length ≤ 31) (w : World) (hs : Sees w A (byteVals l)) :
  Calls Tryz.prog 138 #[f.val, .slice A l.length cap] w fun e w' => e = .returned (.tuple #[(mmul f (numV (pad32 l)) f.sq).val, .int .i64 0]) ∧ Below w.heap.size w w' := by
 have HN := Lib.hid (number (pad32 l) (pad32_length l (by omega)))
 have HT := Lib.hid (montTo f (numV (pad32 l)))
 have HS := Lib.hid hs
 have HP := Lib.hid (splice_pad l)
 generalize numV (pad32 l) = v at *
 generalize mmul f v f.sq = r at *
 clear hs
 have hd : decide ((31 : Int) < (l.length : Int)) = false := by simp; omega
 go_enter Tryz.func138, Tryz.ntmps138
 go_wp2_with (refine wpList_copy_splice (o := ⟨some 13, _, _, _, _, _⟩) rfl (.tmp 11) (.tmp 12) 22 22 rfl 5 Tryz.underlying22 (by kernel_rfl) _ _ 32 32 l.length cap rfl rfl (w.heap.size + 1 + 1) 0 zeros32 64 ?c1 (byteVals l) ?c2 ?c3 ?c4 ?c5 (w.heap.size + 1 + 1) _ (Below.refl _ _) (Nat.le_refl _) ?_)
 case c1 => exact alloc_block _ _ _ (by simp)
 case c2 =>
  rw [byteVals_length]
  exact (Nat.min_eq_left (by omega)).symm
 case c3 => exact fun h => (((HS.out.alloc _).alloc _).alloc _).news h
 case c4 => rw [zeros32_length, byteVals_length]; omega
 case c5 =>
  intro v hv
  obtain ⟨x, _, rfl⟩ := List.mem_map.1 hv
  rfl
 intro w1 hg1 hb1
 have hp1 := aggAt_whole hg1.out (n := 32) (by rw [HP.out, byteVals_size, pad32_length l (by omega)])
 rw [HP.out, agg_bytes] at hp1
 (obtain ⟨k1, k2, k3, k4⟩ := kept hb1; (try simp at k4); (try (have z_w_0 := (show w.heap.size < w1.heap.size from by omega); have n_w_0 := (show w.heap.size ≠ w1.heap.size from by omega); have p_w_0 := fun n o => k1 n (w.heap.size) o (by first | omega | (simp; done) | (simp; omega)); have c_w_0 := fun o => k2 (w.heap.size) o (by first | omega | (simp; done) | (simp; omega)); have f_w_0 := fun o => k3 (w.heap.size) o (by first | omega | (simp; done) | (simp; omega)))); (try (have z_w_1 := (show w.heap.size + 1 < w1.heap.size from by omega); have n_w_1 := (show w.heap.size + 1 ≠ w1.heap.size from by omega); have p_w_1 := fun n o => k1 n (w.heap.size + 1) o (by first | omega | (simp; done) | (simp; omega)); have c_w_1 := fun o => k2 (w.heap.size + 1) o (by first | omega | (simp; done) | (simp; omega)); have f_w_1 := fun o => k3 (w.heap.size + 1) o (by first | omega | (simp; done) | (simp; omega)))))
 clear k1 k2 k3 hg1 hd
 have u1 := Tryz.underlying64
 have u2 : (Tryz.prog.info? 64).map (·.size) = some (byteVals (pad32 l)).length := by rw [byteVals_length, pad32_length l (by omega)]; kernel_rfl
 go_wp2
 go_region_held3 (fun w' => aggAt w' 14 w.heap.size 0 = some f.val ∧ aggAt w' 32 (w.heap.size + 1 + 1) 0 = some (bval (pad32 l)) ∧ w'.rangeAt (w.heap.size + 1 + 1) 0 (byteVals (pad32 l)) ∧ (aggAt w' 4 (w.heap.size + 1) 0).isSome = true ∧ Below w.heap.size w w')
  (first | exact ⟨by go_simp, by go_simp, aggAt_range (n := 32) (cs := (byteVals (pad32 l)).toArray) (by go_simp), by go_simp, (by repeat (first | with_reducible assumption | with_reducible exact Below.refl _ _ | (with_reducible refine putAgg_below ?_ (by first | omega | (simp; done) | (simp; omega))) | (with_reducible refine Below.alloc ?_ (by first | omega | (simp; done) | (simp; omega)) _) | (with_reducible refine Below.setCell ?_ (by first | omega | (simp; done) | (simp; omega)) _) | (with_reducible refine Below.drew ?_) | (with_reducible refine Below.trans ?_ (Below.mono (by with_reducible assumption) (by first | omega | (simp; done) | (simp; omega))))))⟩)
  (first
   | (go_at_call 66; refine (HN.out _).mono ?_; rintro e w2 ⟨rfl, hb2⟩; (obtain ⟨k1, k2, k3, k4⟩ := kept hb2; (try simp at k4); (try (have z_w_0 := (show w.heap.size < w2.heap.size from by omega); have n_w_0 := (show w.heap.size ≠ w2.heap.size from by omega); have p_w_0 := fun n o => k1 n (w.heap.size) o (by first | omega | (simp; done) | (simp; omega)); have c_w_0 := fun o => k2 (w.heap.size) o (by first | omega | (simp; done) | (simp; omega)); have f_w_0 := fun o => k3 (w.heap.size) o (by first | omega | (simp; done) | (simp; omega)))); (try (have z_w_1 := (show w.heap.size + 1 < w2.heap.size from by omega); have n_w_1 := (show w.heap.size + 1 ≠ w2.heap.size from by omega); have p_w_1 := fun n o => k1 n (w.heap.size + 1) o (by first | omega | (simp; done) | (simp; omega)); have c_w_1 := fun o => k2 (w.heap.size + 1) o (by first | omega | (simp; done) | (simp; omega)); have f_w_1 := fun o => k3 (w.heap.size + 1) o (by first | omega | (simp; done) | (simp; omega)))); (try (have z_w_2 := (show w.heap.size + 1 + 1 < w2.heap.size from by omega); have n_w_2 := (show w.heap.size + 1 + 1 ≠ w2.heap.size from by omega); have p_w_2 := fun n o => k1 n (w.heap.size + 1 + 1) o (by first | omega | (simp; done) | (simp; omega)); have c_w_2 := fun o => k2 (w.heap.size + 1 + 1) o (by first | omega | (simp; done) | (simp; omega)); have f_w_2 := fun o => k3 (w.heap.size + 1 + 1) o (by first | omega | (simp; done) | (simp; omega))))))
   | (go_at_call 46; with_reducible refine (HT.out _).mono ?_; rintro e w3 ⟨rfl, hb3⟩; (obtain ⟨k1, k2, k3, k4⟩ := kept hb3; (try simp at k4); (try (have z_w_0 := (show w.heap.size < w3.heap.size from by omega); have n_w_0 := (show w.heap.size ≠ w3.heap.size from by omega); have p_w_0 := fun n o => k1 n (w.heap.size) o (by first | omega | (simp; done) | (simp; omega)); have c_w_0 := fun o => k2 (w.heap.size) o (by first | omega | (simp; done) | (simp; omega)); have f_w_0 := fun o => k3 (w.heap.size) o (by first | omega | (simp; done) | (simp; omega)))); (try (have z_w_1 := (show w.heap.size + 1 < w3.heap.size from by omega); have n_w_1 := (show w.heap.size + 1 ≠ w3.heap.size from by omega); have p_w_1 := fun n o => k1 n (w.heap.size + 1) o (by first | omega | (simp; done) | (simp; omega)); have c_w_1 := fun o => k2 (w.heap.size + 1) o (by first | omega | (simp; done) | (simp; omega)); have f_w_1 := fun o => k3 (w.heap.size + 1) o (by first | omega | (simp; done) | (simp; omega)))); (try (have z_w_2 := (show w.heap.size + 1 + 1 < w3.heap.size from by omega); have n_w_2 := (show w.heap.size + 1 + 1 ≠ w3.heap.size from by omega); have p_w_2 := fun n o => k1 n (w.heap.size + 1 + 1) o (by first | omega | (simp; done) | (simp; omega)); have c_w_2 := fun o => k2 (w.heap.size + 1 + 1) o (by first | omega | (simp; done) | (simp; omega)); have f_w_2 := fun o => k3 (w.heap.size + 1 + 1) o (by first | omega | (simp; done) | (simp; omega)))))))
 go_wp2_with ((with_reducible show bodyPost _ _ _ _ _ _); exact end_ct Tryz.results138 rfl (atE (v := r.val) (by go_simp)) rfl ⟨rfl, (by repeat (first | with_reducible assumption | with_reducible exact Below.refl _ _ | (with_reducible refine putAgg_below ?_ (by first | omega | (simp; done) | (simp; omega))) | (with_reducible refine Below.alloc ?_ (by first | omega | (simp; done) | (simp; omega)) _) | (with_reducible refine Below.setCell ?_ (by first | omega | (simp; done) | (simp; omega)) _) | (with_reducible refine Below.drew ?_) | (with_reducible refine Below.trans ?_ (Below.mono (by with_reducible assumption) (by first | omega | (simp; done) | (simp; omega))))))⟩)
end Go.Proofs.YtccgfladbibjbaaGreatDoor
namespace Go.Proofs.YtccgfladbibjbaaGreatDoor
open Go.RowKit
def cutA (A : Option Addr) (l m : Nat) : Option Addr := if m = l then A else A.map (·.add l)
theorem cutA_some (b o l m : Nat) (h : l ≠ m) : cutA (some ⟨b, o, none⟩) l m = some ⟨b, o + l, none⟩ := by
 unfold cutA
 rw [if_neg (fun e => h e.symm), Option.map_some, Addr.add_mid]
theorem cutA_zero (A : Option Addr) (m : Nat) : cutA A 0 m = A := by
 unfold cutA
 split
 ·rfl
 ·cases A with
  | none => rfl
  | some a => simp [Addr.add]
theorem Sees.cut {w : World} {A : Option Addr} {xs : List Value} (h : Sees w A xs) (l m : Nat) (hm : xs.length ≤ m) : Sees w (cutA A l m) (xs.drop l) := by
 intro hx
 rw [List.length_drop] at hx
 obtain ⟨b, o, rfl, hc⟩ := h (by omega)
 refine ⟨b, o + l, cutA_some b o l m (by omega), fun j hj => ?_⟩
 rw [List.length_drop] at hj
 rw [List.getElem?_drop, Nat.add_assoc]
 exact hc _ (by omega)
theorem Sees.take {w : World} {A : Option Addr} {xs : List Value} (h : Sees w A xs) (n : Nat) : Sees w A (xs.take n) := by
 intro hx
 rw [List.length_take] at hx
 obtain ⟨b, o, rfl, hc⟩ := h (by omega)
 refine ⟨b, o, rfl, fun j hj => ?_⟩
 rw [List.length_take] at hj
 rw [List.getElem?_take, if_pos (by omega)]
 exact hc _ (by omega)
theorem elem_bytes : Tryz.prog.elem 22 = 5 := by kernel_rfl
theorem und_bytes : Tryz.prog.underlying 22 = some (.slice (Tryz.prog.elem 22)) := by rw [elem_bytes]; exact Tryz.underlying22
theorem size_byte (w : World) : (sizeOf (Tryz.prog.elem 22)).run Tryz.prog w = .ok 1 w := by rw [elem_bytes]; kernel_rfl
theorem cut_lh (A : Option Addr) (n cap l h : Nat) (h1 : l ≤ h) (h2 : h ≤ cap) (k k' : IntKind) (w : World) :
  (Instr.sliceAt 22 (.slice A n cap) (some (.int k l)) (some (.int k' h)) none).run Tryz.prog w = .ok (.slice (cutA A l cap) (h - l) (cap - l)) w := by
 rw [run_sliceAt_slice w 22 _ _ _ _ und_bytes, run_slice_lh w 22 A n cap und_bytes k k' l h (by omega) (by omega) (by omega)]
 rw [size_byte]
 simp [Result.andThen, sliced, cutA]
theorem cut_h (A : Option Addr) (n cap h : Nat) (h2 : h ≤ cap) (k' : IntKind) (w : World) :
  (Instr.sliceAt 22 (.slice A n cap) none (some (.int k' h)) none).run Tryz.prog w = .ok (.slice A h cap) w := by
 rw [run_sliceAt_slice w 22 _ _ _ _ und_bytes, run_slice_h w 22 A n cap und_bytes k' h (by omega) (by omega)]
 rw [size_byte]
 have := cutA_zero A cap
 simp [Result.andThen, sliced]
 unfold cutA at this
 simpa using this
theorem cut_l (A : Option Addr) (n cap l : Nat) (h1 : l ≤ n) (k : IntKind) (w : World) :
  (Instr.sliceAt 22 (.slice A n cap) (some (.int k l)) none none).run Tryz.prog w = .ok (.slice (cutA A l cap) (n - l) (cap - l)) w := by
 rw [run_sliceAt_slice w 22 _ _ _ _ und_bytes, run_slice_l w 22 A n cap und_bytes k l (by omega) (by omega)]
 rw [size_byte]
 simp [Result.andThen, sliced, cutA]
theorem cut_lhm (A : Option Addr) (n cap l h m : Nat) (h1 : l ≤ h) (h2 : h ≤ m) (h3 : m ≤ cap) (k k' k'' : IntKind) (w : World) :
  (Instr.sliceAt 22 (.slice A n cap) (some (.int k l)) (some (.int k' h)) (some (.int k'' m))).run Tryz.prog w = .ok (.slice (cutA A l m) (h - l) (m - l)) w := by
 rw [run_sliceAt_slice w 22 _ _ _ _ und_bytes, run_slice_lhm w 22 A n cap und_bytes k k' k'' l h m (by omega) (by omega) (by omega) (by omega)]
 rw [size_byte]
 simp [Result.andThen, sliced, cutA]
theorem cut_hm (A : Option Addr) (n cap h m : Nat) (h2 : h ≤ m) (h3 : m ≤ cap) (k' k'' : IntKind) (w : World) :
  (Instr.sliceAt 22 (.slice A n cap) none (some (.int k' h)) (some (.int k'' m))).run Tryz.prog w = .ok (.slice A h m) w := by
 rw [run_sliceAt_slice w 22 _ _ _ _ und_bytes, run_slice_hm w 22 A n cap und_bytes k' k'' h m (by omega) (by omega) (by omega)]
 rw [size_byte]
 have := cutA_zero A m
 simp [Result.andThen, sliced]
 unfold cutA at this
 simpa using this
theorem rangeAt_below {w W : World} {b o : Nat} {cs : List Value} (h : w.rangeAt b o cs) (hb : Below w.heap.size w W) : W.rangeAt b o cs := by
 intro j v hj
 have h1 := h j v hj
 exact (hb.cell (p := ⟨b, o + j, none⟩) (World.block_lt_of_cell? w _ h1)).trans h1
theorem rangeAt_take {w : World} {b o : Nat} {l : List (BitVec 8)} (h : w.rangeAt b o (byteVals l)) (n : Nat) : w.rangeAt b o (byteVals (l.take n)) := by
 intro j v hj
 refine h j v ?_
 unfold byteVals at hj ⊢
 rw [List.map_take, List.getElem?_take] at hj
 split at hj
 ·exact hj
 ·cases hj
theorem rangeAt_drop {w : World} {b o : Nat} {l : List (BitVec 8)} (h : w.rangeAt b o (byteVals l)) (n : Nat) : w.rangeAt b (o + n) (byteVals (l.drop n)) := by
 intro j v hj
 unfold byteVals at hj
 rw [List.map_drop, List.getElem?_drop] at hj
 have := h (n + j) v hj
 rwa [← Nat.add_assoc] at this
theorem arrayAt32' (a : Option Addr) (n cap : Nat) (h : 32 ≤ n) (w : World) : (Instr.arrayAt 64 (.slice a n cap)).run Tryz.prog w = .ok (.pointer a) w := run_arrayAt _ _ _ _ _ _ _ Tryz.underlying64 h
end Go.Proofs.YtccgfladbibjbaaGreatDoor
namespace Go.Proofs.YtccgfladbibjbaaGreatDoor
open Go.RowKit
attribute [local go_sem ↓] add_UU sub_UU mul_UU add_UL add_LU sub_UL sub_LU mul_UL neg_at not_at and_UU or_UU xor_UU andNot_UU and_UL or_LU shr_UL shl_UL shr_UN shl_UN shl_LN quo_UL rem_UL quo_UU rem_UU
attribute [local go_sem] wrap64_N wrapi_mod wrap8_U wrap32_U wrap64_B wrap32_B wrap8_D wrapi_B wrap64_UU eq_UU ne_UU eq_UL ne_UL lt_UU le_UU
attribute [local simp] putAgg_size
attribute [local go_sem ↓] loadVar_F loadVar_E loadVar_V loadVar_B32 storeVar_F storeVar_E storeVar_V storeVar_B32 box_F box_E box_V box_B32
attribute [local go_sem ↓ high] V4.cells_val FP.cells_val
attribute [local go_sem] run_loadF run_loadE run_loadV run_loadB32 run_storeF run_storeE run_storeV run_storeB32 run_boxA aggAt_drew aggAt_drewN aggAt_alloc_new aggAt_alloc_past aggAt_setCell_other aggAt_putAgg_other aggAt_putAgg_new putAgg_drew putAgg_size putAgg_alloc_new putAgg_alloc_past putAgg_cell_other putAgg_frozen_other V4.agg_arr FP.agg_arr V4.size_arr FP.size_arr V4.fits FP.fits fitsA_agg4 lt_2 ne_2 en_2 lt_3 ne_3 en_3 lt_4 ne_4 en_4 lt_5 ne_5 en_5 lt_6 ne_6 en_6
theorem owns_open {w : World} {base : Nat} {e : TypeId} {size n : Nat} {v : Value} {xs : List Value} (h : w.ownsRow base e size v n xs) :
  ∃ A cap, v = .slice A n cap ∧ n ≤ cap ∧ Sees w A xs ∧ (∀ g o, A = some ⟨g, o, none⟩ → base ≤ g ∧ o = 0) := by
 rcases h.2 with ⟨rfl, rfl⟩ | ⟨g, cap, cur, rfl, hbg, hh, hnc, _, _, _⟩
 ·exact ⟨none, 0, rfl, Nat.le_refl _, fun hx => by have := h.1; omega, fun g o e => by cases e⟩
 ·refine ⟨_, cap, rfl, by omega, fun hx => ⟨g, 0, rfl, fun j hj => ?_⟩, fun g' o' e => by injection e with e; injection e with e1 e2; exact ⟨by omega, by omega⟩⟩
  have hc := h.cells (g := g) rfl
  have := hc j _ (List.getElem?_eq_getElem hj)
  rw [Addr.add_mid] at this
  rw [this, List.getElem?_eq_getElem hj]
def restW (l : List (BitVec 8)) : BitVec 64 := l.foldl (fun s c => s ||| c.setWidth 64) 0#64
theorem restW_snoc (l : List (BitVec 8)) (c : BitVec 8) : restW (l ++ [c]) = restW l ||| c.setWidth 64 := by simp [restW]
theorem take_snoc' {α : Type} (l : List α) (k : Nat) (h : k < l.length) : l.take (k + 1) = l.take k ++ [l[k]] := by
 rw [List.take_succ_eq_append_getElem h]
def unpL (r : V4) (n : Nat) : List (BitVec 8) := if restW ((encL r).drop n) = 0#64 then (encL r).take n else []
def unpE (r : V4) (n : Nat) : Int := if restW ((encL r).drop n) = 0#64 then 0 else 10
def IsUnp (r : V4) (n : Nat) (w : World) (e : Ending) (w' : World) : Prop := ∃ A cap, e = .returned (.tuple #[.slice A (unpL r n).length cap, .int .i64 (unpE r n)]) ∧ Sees w' A (byteVals (unpL r n)) ∧ Below w.heap.size w w'
theorem encL_length (v : V4) : (encL v).length = 32 := encT_length v 32
set_option maxRecDepth 20000 in
set_option maxHeartbeats 1000000 in
theorem bcUnpack (f : FP) (x : V4) (n : Nat) (hn : n ≤ 31) (w : World) : Calls Tryz.prog 105 #[f.val, x.val, .int .i64 n] w (IsUnp (mmul f x V4.unit) n w) := by
 have HE := Lib.hid (bcEncode f x)
 generalize mmul f x V4.unit = r at *
 have hn1 : ¬ (31 : Int) < (n : Int) := by omega
 have hn0 : ¬ (n : Int) < 0 := by omega
 go_enter Tryz.func105, Tryz.ntmps105
 go_wp2_with fail
 refine (HE.out _).mono ?_
 rintro e w1 ⟨v, rfl, hown, hb1⟩
 obtain ⟨A, cap, rfl, hcap, hS, hA⟩ := owns_open hown
 have HS := Lib.hid hS
 have HB := Lib.hid (show Below w.heap.size w w1 from (by repeat (first | with_reducible assumption | with_reducible exact Below.refl _ _ | (with_reducible refine putAgg_below ?_ (by first | omega | (simp; done) | (simp; omega))) | (with_reducible refine Below.alloc ?_ (by first | omega | (simp; done) | (simp; omega)) _) | (with_reducible refine Below.setCell ?_ (by first | omega | (simp; done) | (simp; omega)) _) | (with_reducible refine Below.drew ?_) | (with_reducible refine Below.trans ?_ (Below.mono (by with_reducible assumption) (by first | omega | (simp; done) | (simp; omega)))))))
 have s1 := cut_l A 32 cap n (by omega) .i64
 have s2 := cut_hm A 32 cap n n (Nat.le_refl _) (by omega) .i64 .i64
 have hl : ((32 - n : Nat) : Int) = 32 - (n : Int) := by omega
 have HD := Lib.hid (hS.cut n cap (by rw [byteVals_length, encL_length]; exact hcap))
 have HL := Lib.hid hl
 clear hown hb1 hS hA hl
 generalize cutA A n cap = C at *
 have hm : 32 - n + n = 32 := by omega
 have HDL : ((encL r).drop n).length = 32 - n := by rw [List.length_drop, encL_length]
 have HX := Lib.hid (show ((byteVals (encL r)).drop n) = byteVals ((encL r).drop n) from by unfold byteVals; rw [List.map_drop])
 rw [HX.out] at HD
 have HU := Lib.hid (And.intro (show unpL r n = if restW ((encL r).drop n) = 0#64 then (encL r).take n else [] from rfl) (show unpE r n = if restW ((encL r).drop n) = 0#64 then 0 else 10 from rfl))
 generalize (encL r).drop n = ds at *
 have HDL' := Lib.hid HDL
 clear HDL
 generalize 32 - n = m at *
 go_wp2_with fail
 go_loopw [9, 11, 25] (fun x c i wr => ∃ k : Nat, k ≤ m ∧ i = .int .i64 k ∧ x = .int .u64 (U (restW (ds.take k))) ∧ Below w1.heap.size w1 wr) (fun _ _ i _ => m - (intOf i).toNat)
 case atStart => exact ⟨0, by omega, rfl, rfl, Below.refl _ _⟩
 case round =>
  obtain ⟨k, hk, rfl, rfl, hB⟩ := hrel
  by_cases hlt : k < m
  ·have hlen := HDL'.out
   obtain ⟨b, o, hC, hc⟩ := (HD.out.below hB) (by rw [byteVals_length]; omega)
   have hck := hc k (by rw [byteVals_length]; omega)
   rw [byteVals_get ds k (by omega)] at hck
   have HT := Lib.hid (show restW (ds.take (k + 1)) = restW (ds.take k) ||| (ds[k]?.getD 0#8).setWidth 64 from by
    rw [take_snoc' ds k (by omega), restW_snoc, List.getElem?_eq_getElem (by omega)]
    rfl)
   have hlt' : (k : Int) < (m : Int) := by omega
   clear hc hlen
   subst hC
   go_wp2
   go_roundw
   case rel => exact ⟨k + 1, by omega, by go_num, by rw [HT.out], hB⟩
   case measure => simp [intOf]; omega
  ·obtain rfl : k = m := by omega
   have HT := Lib.hid (show ds.take k = ds from List.take_of_length_le (by have := HDL'.out; omega))
   rw [HT.out]
   have HB2 := Lib.hid (show Below w.heap.size w wr from HB.out.trans (hB.mono HB.out.size))
   have HS2 := Lib.hid (HS.out.below hB)
   clear hB HD HS
   go_wp2_with fail
   refine (isZero_one (restW ds) wr.heap.size _ (cell_new1 _ _ _) 1).mono ?_
   rintro e w2 ⟨rfl, rfl⟩
   have HB3 := Lib.hid (HB2.out.alloc HB2.out.size (.cells #[.int .u64 (U (restW ds))] 44))
   have HS3 := Lib.hid (HS2.out.alloc (.cells #[.int .u64 (U (restW ds))] 44))
   rw [zeroW_eq]
   by_cases hz : restW ds = 0#64
   ·rw [decide_eq_true hz]
    have hmk : (maskW true == 0#64) = false := by decide
    have HZ := Lib.hid hz
    clear hz
    go_wp2
    go_ret2
    refine ⟨A, n, ?_, ?_, HB3.out⟩
    ·rw [HU.out.1, HU.out.2, if_pos HZ.out, if_pos HZ.out, List.length_take, encL_length, Nat.min_eq_left (by omega)]
     rfl
    ·rw [HU.out.1, if_pos HZ.out, show byteVals ((encL r).take n) = (byteVals (encL r)).take n from by unfold byteVals; rw [List.map_take]]
     exact HS3.out.take n
   ·rw [decide_eq_false hz]
    have hmk : (maskW false == 0#64) = true := by decide
    have HZ := Lib.hid hz
    clear hz
    go_wp2
    go_ret2
    refine ⟨none, 0, ?_, ?_, HB3.out⟩
    ·rw [HU.out.1, HU.out.2, if_neg HZ.out, if_neg HZ.out]
     rfl
    ·rw [HU.out.1, if_neg HZ.out]
     exact Sees.nil _ _
end Go.Proofs.YtccgfladbibjbaaGreatDoor
