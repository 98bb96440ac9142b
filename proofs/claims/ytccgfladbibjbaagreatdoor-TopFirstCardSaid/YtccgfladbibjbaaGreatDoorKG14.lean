/- Package sha: the words of the rounds, as lists. -/
import Derived.Test.YtccgfladbibjbaaGreatDoorKG11
import Derived.Test.YtccgfladbibjbaaGreatDoorKG13
import Derived.StillTailTactics
import Derived.Deep.QuietTactic
import Derived.BigQuiet
import Derived.Test.YtccgfladbibjbaaGreatDoorKG12
namespace Go.Proofs.YtccgfladbibjbaaGreatDoor
open Go.RowKit
attribute [local go_sem ↓] add_DD mul_DD mul_DL and_DD or_DD xor_DD notD_at shr_DL shl_DL shr_DN shl_DN quo_DL rem_DL
attribute [local go_sem] wrap32_B wrap8_D
def dVals (l : List (BitVec 32)) : List Value := l.map fun x => .int .u32 (D x)
def dval (l : List (BitVec 32)) : Value := .agg (dVals l).toArray
theorem dVals_length (l : List (BitVec 32)) : (dVals l).length = l.length := List.length_map ..
theorem dVals_get (l : List (BitVec 32)) (j : Nat) (h : j < l.length) : (dVals l)[j]? = some (.int .u32 (D (l[j]?.getD 0#32))) := by
 unfold dVals
 rw [List.getElem?_map, List.getElem?_eq_getElem h]
 rfl
theorem dVals_set (l : List (BitVec 32)) (j : Nat) (x : BitVec 32) : (dVals l).set j (.int .u32 (D x)) = dVals (l.set j x) := by
 unfold dVals
 rw [List.map_set]
theorem dval_cells (l : List (BitVec 32)) : (dval l).cells = (dVals l).toArray := rfl
theorem agg_words (l : List (BitVec 32)) : Value.agg (dVals l).toArray = dval l := rfl
theorem dVals_size (l : List (BitVec 32)) : (dVals l).toArray.size = l.length := by rw [List.size_toArray, dVals_length]
theorem fits_words (n : Nat) (l : List (BitVec 32)) (h : l.length = n) : fitsA n (dval l) = true := by
 unfold fitsA
 rw [dval_cells, Bool.and_eq_true]
 refine ⟨by rw [dVals_size, h]; simp, ?_⟩
 rw [Array.all_eq_true_iff_forall_mem]
 intro v hv
 simp only [dVals, List.mem_toArray, List.mem_map] at hv
 obtain ⟨x, _, rfl⟩ := hv
 rfl
def IsDs (w : World) (b : Nat) (t : TypeId) (l : List (BitVec 32)) : Prop := w.heap[b]? = some (.cells (dVals l).toArray t (0, 0))
theorem IsDs.cell {w : World} {b : Nat} {t : TypeId} {l : List (BitVec 32)} (h : IsDs w b t l) (k : Nat) (hk : k < l.length) : w.cell? ⟨b, k, none⟩ = some (.int .u32 (D (l[k]?.getD 0#32))) := by
 rw [← dVals_get l k hk]
 exact IsBlk.cell (t := t) h k
theorem IsDs.frozen {w : World} {b : Nat} {t : TypeId} {l : List (BitVec 32)} (h : IsDs w b t l) (k : Nat) : w.frozen? ⟨b, k, none⟩ = false := IsBlk.frozen (t := t) (vs := dVals l) h k
theorem IsDs.set {w : World} {b : Nat} {t : TypeId} {l : List (BitVec 32)} (h : IsDs w b t l) (k : Nat) (x : BitVec 32) : IsDs (w.setCell ⟨b, k, none⟩ (.int .u32 (D x))) b t (l.set k x) := by
 have := IsBlk.set (t := t) (vs := dVals l) h k (.int .u32 (D x))
 rwa [dVals_set] at this
theorem IsDs.lt {w : World} {b : Nat} {t : TypeId} {l : List (BitVec 32)} (h : IsDs w b t l) : b < w.heap.size := IsBlk.lt (t := t) (vs := dVals l) h
theorem IsDs.agg {w : World} {b n : Nat} {t : TypeId} {l : List (BitVec 32)} (h : IsDs w b t l) (hn : l.length = n) : aggAt w n b 0 = some (dval l) := aggAt_whole h (by rw [dVals_size, hn])
theorem IsDs.call {w w' : World} {b N : Nat} {t : TypeId} {l : List (BitVec 32)} (h : IsDs w b t l) (hb : Below N w w') (hN : b < N) : IsDs w' b t l := (hb.block b hN).trans h
def wordB (l : List (BitVec 8)) (t : Nat) : Nat → BitVec 32
 | 0 => 0#32
 | j + 1 => wordB l t j <<< 8 ||| (l[4 * t + j]?.getD 0#8).setWidth 32
def sg0 (y : BitVec 32) : BitVec 32 := rotrW y 7 ^^^ rotrW y 18 ^^^ y >>> 3
def sg1 (x : BitVec 32) : BitVec 32 := rotrW x 17 ^^^ rotrW x 19 ^^^ x >>> 10
def dw (l : List (BitVec 32)) (k : Nat) : BitVec 32 := l[k]?.getD 0#32
def sch (l : List (BitVec 8)) : Nat → List (BitVec 32)
 | 0 => List.replicate 64 0#32
 | t + 1 => (sch l t).set t (if t < 16 then wordB l t 4 else sg1 (dw (sch l t) (t - 2)) + dw (sch l t) (t - 7) + sg0 (dw (sch l t) (t - 15)) + dw (sch l t) (t - 16))
theorem sch_length (l : List (BitVec 8)) : ∀ t, (sch l t).length = 64
 | 0 => List.length_replicate
 | t + 1 => by rw [sch, List.length_set, sch_length]
theorem sch_zero (l : List (BitVec 8)) : ∀ t k, t ≤ k → k < 64 → (sch l t)[k]? = some 0#32
 | 0, k, _, h => by
  rw [sch, List.getElem?_replicate, if_pos h]
 | t + 1, k, h, h' => by
  rw [sch, List.getElem?_set_ne (by omega)]
  exact sch_zero l t k (by omega) h'
theorem sch_start (l : List (BitVec 8)) (t : Nat) (h : t < 64) : (sch l t).set t (wordB l t 0) = sch l t := by
 apply List.ext_getElem?
 intro i
 rw [List.getElem?_set]
 split
 ·rename_i e
  subst e
  rw [sch_zero l t t (Nat.le_refl _) h, if_pos (by rw [sch_length]; exact h)]
  rfl
 ·rfl
end Go.Proofs.YtccgfladbibjbaaGreatDoor
namespace Go.Proofs.YtccgfladbibjbaaGreatDoor
open Go.RowKit
theorem loadVar_W (a : Addr) : loadVar 186 a = loadA 186 64 a := rfl
theorem loadVar_S (a : Addr) : loadVar 144 a = loadA 144 8 a := rfl
theorem storeVar_W (a : Addr) (v : Value) : storeVar 186 a v = storeA 186 64 a v := rfl
theorem storeVar_S (a : Addr) (v : Value) : storeVar 144 a v = storeA 144 8 a v := rfl
theorem run_loadW (b o : Nat) (w : World) (h : (aggAt w 64 b o).isSome = true) : (loadA 186 64 ⟨b, o, none⟩).run Tryz.prog w = .ok ((aggAt w 64 b o).getD undef) w := run_loadA _ Tryz.underlying186 rfl (by kernel_rfl) b o w h
theorem run_loadS (b o : Nat) (w : World) (h : (aggAt w 8 b o).isSome = true) : (loadA 144 8 ⟨b, o, none⟩).run Tryz.prog w = .ok ((aggAt w 8 b o).getD undef) w := run_loadA _ Tryz.underlying144 rfl (by kernel_rfl) b o w h
theorem run_storeW (b o : Nat) (v : Value) (w : World) (h : (aggAt w 64 b o).isSome = true) (hf : fitsA 64 v = true) : (storeA 186 64 ⟨b, o, none⟩ v).run Tryz.prog w = .ok () (putAgg w b o v.cells) := run_storeA (by kernel_rfl) b o v w h hf
theorem run_storeS (b o : Nat) (v : Value) (w : World) (h : (aggAt w 8 b o).isSome = true) (hf : fitsA 8 v = true) : (storeA 144 8 ⟨b, o, none⟩ v).run Tryz.prog w = .ok () (putAgg w b o v.cells) := run_storeA (by kernel_rfl) b o v w h hf
theorem box_S (v : Value) : Instr.box 144 v = boxA 144 v := rfl
theorem atW {b o : Nat} {w : World} {v : Value} (h : aggAt w 64 b o = some v) : (loadVar 186 ⟨b, o, none⟩).run Tryz.prog w = .ok v w := loadVar_at _ Tryz.underlying186 rfl (by kernel_rfl) h
theorem atS {b o : Nat} {w : World} {v : Value} (h : aggAt w 8 b o = some v) : (loadVar 144 ⟨b, o, none⟩).run Tryz.prog w = .ok v w := loadVar_at _ Tryz.underlying144 rfl (by kernel_rfl) h
end Go.Proofs.YtccgfladbibjbaaGreatDoor
namespace Go.Proofs.YtccgfladbibjbaaGreatDoor
open Go.RowKit
structure S8 where
 a : BitVec 32
 b : BitVec 32
 c : BitVec 32
 d : BitVec 32
 e : BitVec 32
 f : BitVec 32
 g : BitVec 32
 h : BitVec 32
def S8.list (s : S8) : List (BitVec 32) := [s.a, s.b, s.c, s.d, s.e, s.f, s.g, s.h]
theorem S8.length (s : S8) : s.list.length = 8 := rfl
def kW (t : Nat) : BitVec 32 := BitVec.ofNat 32 (shaK[t]?.getD 0)
def t1W (s : S8) (k x : BitVec 32) : BitVec 32 := s.h + (rotrW s.e 6 ^^^ rotrW s.e 11 ^^^ rotrW s.e 25) + (s.g ^^^ s.e &&& (s.f ^^^ s.g)) + k + x
def t2W (s : S8) : BitVec 32 := (rotrW s.a 2 ^^^ rotrW s.a 13 ^^^ rotrW s.a 22) + (s.a &&& s.b ||| (s.a ||| s.b) &&& s.c)
def roundS (s : S8) (k x : BitVec 32) : S8 := ⟨t1W s k x + t2W s, s.a, s.b, s.c, s.d + t1W s k x, s.e, s.f, s.g⟩
def roundsS (s : S8) (xs : List (BitVec 32)) : Nat → S8
 | 0 => s
 | t + 1 => roundS (roundsS s xs t) (kW t) (dw xs t)
def addT (s v : S8) (i : Nat) : List (BitVec 32) := (List.range 8).map fun j => if j < i then dw v.list j + dw s.list j else dw v.list j
def addS (s v : S8) : S8 := ⟨v.a + s.a, v.b + s.b, v.c + s.c, v.d + s.d, v.e + s.e, v.f + s.f, v.g + s.g, v.h + s.h⟩
theorem addT_zero (s v : S8) : addT s v 0 = v.list := rfl
theorem addT_last (s v : S8) : addT s v 8 = (addS s v).list := rfl
theorem addT_length (s v : S8) (i : Nat) : (addT s v i).length = 8 := by simp [addT]
theorem addT_get (s v : S8) (i : Nat) (h : i < 8) : (addT s v i)[i]? = some (dw v.list i) := by
 unfold addT
 rw [List.getElem?_map, List.getElem?_range h, Option.map_some, if_neg (Nat.lt_irrefl _)]
theorem addT_succ (s v : S8) (i : Nat) (h : i < 8) : addT s v (i + 1) = (addT s v i).set i (dw v.list i + dw s.list i) := by
 apply List.ext_getElem?
 intro j
 rw [List.getElem?_set]
 by_cases hj : j < 8
 ·by_cases e : i = j
  ·subst e
   rw [if_pos rfl, if_pos (by rw [addT_length]; exact h)]
   unfold addT
   rw [List.getElem?_map, List.getElem?_range h, Option.map_some, if_pos (by omega)]
  ·rw [if_neg e]
   unfold addT
   rw [List.getElem?_map, List.getElem?_map, List.getElem?_range hj, Option.map_some, Option.map_some]
   by_cases h2 : j < i
   ·rw [if_pos h2, if_pos (by omega)]
   ·rw [if_neg h2, if_neg (by omega)]
 ·rw [List.getElem?_eq_none (by rw [addT_length]; omega), if_neg (by omega), List.getElem?_eq_none (by rw [addT_length]; omega)]
def afterS (s : S8) (l : List (BitVec 8)) : S8 := addS s (roundsS s (sch l 64) 64)
theorem shaK_small : ∀ t, t < 64 → ∃ n, shaK[t]? = some n ∧ n < 4294967296 := by decide
theorem Laid.const {w : World} (h : Laid w) (t : Nat) (ht : t < 64) : w.cell? ⟨2, t, none⟩ = some (.int .u32 (D (kW t))) := by
 obtain ⟨n, hn, hs⟩ := shaK_small t ht
 rw [h.consts t ht, hn]
 unfold kW
 rw [hn]
 show some (Value.int .u32 (n : Int)) = _
 rw [lit_D n hs]
 rfl
theorem IsDs.cells8 {w : World} {b : Nat} {t : TypeId} {s : S8} (h : IsDs w b t s.list) : w.cell? ⟨b, 0, none⟩ = some (.int .u32 (D s.a)) ∧ w.cell? ⟨b, 1, none⟩ = some (.int .u32 (D s.b)) ∧ w.cell? ⟨b, 2, none⟩ = some (.int .u32 (D s.c)) ∧ w.cell? ⟨b, 3, none⟩ = some (.int .u32 (D s.d)) ∧
  w.cell? ⟨b, 4, none⟩ = some (.int .u32 (D s.e)) ∧ w.cell? ⟨b, 5, none⟩ = some (.int .u32 (D s.f)) ∧ w.cell? ⟨b, 6, none⟩ = some (.int .u32 (D s.g)) ∧ w.cell? ⟨b, 7, none⟩ = some (.int .u32 (D s.h)) :=
 ⟨h.cell 0 (by rw [S8.length]; decide), h.cell 1 (by rw [S8.length]; decide), h.cell 2 (by rw [S8.length]; decide), h.cell 3 (by rw [S8.length]; decide), h.cell 4 (by rw [S8.length]; decide), h.cell 5 (by rw [S8.length]; decide), h.cell 6 (by rw [S8.length]; decide), h.cell 7 (by rw [S8.length]; decide)⟩
theorem index_W (L : List (BitVec 32)) (hL : L.length = 64) (t : Nat) (ht : t < 64) (w : World) : (Instr.index 186 (dval L) (.int .i64 t)).run Tryz.prog w = .ok (.int .u32 (D (dw L t))) w := by
 have hp : ∀ (cs : Array Value) (o : Nat) (v : Value), cs[o]? = some v → (part 116 cs o).run Tryz.prog w = .ok v w := by
  intro cs o v h
  unfold part
  rw [Sem.run_bind, show (isAgg 116).run Tryz.prog w = .ok false w from by kernel_rfl]
  simp [Result.andThen, h]
 have hz : (sizeOf 116).run Tryz.prog w = .ok 1 w := by kernel_rfl
 have hc : (dVals L).toArray[t]? = some (.int .u32 (D (dw L t))) := by
  rw [List.getElem?_toArray]
  exact dVals_get L t (by omega)
 unfold Instr.index dval
 simp only [asIntOf, Sem.run_bind, Sem.run_pure, Result.andThen, run_underlying Tryz.underlying186]
 rw [if_pos (by omega), Sem.run_bind, hz]
 simp only [Result.andThen, Int.toNat_natCast, Nat.mul_one]
 exact hp _ _ _ hc
end Go.Proofs.YtccgfladbibjbaaGreatDoor
namespace Go.Proofs.YtccgfladbibjbaaGreatDoor
open Go.RowKit
attribute [local go_sem ↓] add_DD mul_DD mul_DL and_DD or_DD xor_DD notD_at shr_DL shl_DL shr_DN shl_DN quo_DL rem_DL
attribute [local go_sem] wrap32_B wrap8_D
attribute [local simp] putAgg_size
attribute [local go_sem ↓] loadVar_F loadVar_E loadVar_V loadVar_B32 storeVar_F storeVar_E storeVar_V storeVar_B32 box_F box_E box_V box_B32
attribute [local go_sem ↓ high] V4.cells_val FP.cells_val
attribute [local go_sem] run_loadF run_loadE run_loadV run_loadB32 run_storeF run_storeE run_storeV run_storeB32 run_boxA aggAt_drew aggAt_drewN aggAt_alloc_new aggAt_alloc_past aggAt_setCell_other aggAt_putAgg_other aggAt_putAgg_new putAgg_drew putAgg_size putAgg_alloc_new putAgg_alloc_past putAgg_cell_other putAgg_frozen_other V4.agg_arr FP.agg_arr V4.size_arr FP.size_arr V4.fits FP.fits fitsA_agg4 lt_2 ne_2 en_2 lt_3 ne_3 en_3 lt_4 ne_4 en_4 lt_5 ne_5 en_5 lt_6 ne_6 en_6
attribute [local go_sem ↓] loadVar_W loadVar_S storeVar_W storeVar_S box_S
attribute [local go_sem ↓ high] dval_cells
attribute [local go_sem] run_loadW run_loadS run_storeW run_storeS agg_words dVals_size dVals_length
theorem rotrS (n : Nat) (h0 : 0 < n) (hn : n < 32) (x : BitVec 32) (w : World) :
  Calls Tryz.prog 122 #[.int .u32 (D x), .int .i64 n] w fun e w' => e = .returned (.int .u32 (D (rotrW x n))) ∧ w' = w := (shaRotr x n h0 hn w).mono fun _ _ h => ⟨h.1, h.2.symm⟩
theorem rotrI (n : Int) (x : BitVec 32) (h0 : 0 < n) (hn : n < 32) (w : World) : Calls Tryz.prog 122 #[.int .u32 (D x), .int .i64 n] w fun e w' => e = .returned (.int .u32 (D (rotrW x n.toNat))) ∧ w' = w := by
 obtain ⟨k, rfl⟩ : ∃ k : Nat, n = k := ⟨n.toNat, by omega⟩
 exact rotrS k (by omega) (by omega) x w
theorem _root_.Go.RowKit.Below.frame_drewN {N : Nat} {a w : World} (h : Below N a w) {k : Nat} : Below N a (w.drewN k).drew := ⟨h.os, h.tape, h.output, h.size, h.block⟩
set_option maxRecDepth 100000 in
set_option maxHeartbeats 1000000 in
theorem schedule (b off cap : Nat) (l : List (BitVec 8)) (hl : l.length = 64) (hcap : 64 ≤ cap) (w : World) (hr : w.rangeAt b off (byteVals l)) :
  Calls Tryz.prog 121 #[.slice (some ⟨b, off, none⟩) 64 cap] w fun e w' => e = .returned (dval (sch l 64)) ∧ Below w.heap.size w w' := by
 have HR := Lib.hid hr
 have hbw : b < w.heap.size := World.block_lt_of_cell? w _ (hr 0 (.int .u8 (B (l[0]?.getD 0#8))) (byteVals_get l 0 (by omega)))
 clear hr
 have H0 := Lib.hid (show IsDs (w.alloc (.cells (dVals (sch l 0)).toArray 186)) w.heap.size 186 (sch l 0) from heap_alloc_new w _)
 go_enter Tryz.func121, Tryz.ntmps121
 go_wp2
 go_loopw [3, 8] (fun x i wr => ∃ t : Nat, t ≤ 64 ∧ i = .int .i64 t ∧ IsDs wr w.heap.size 186 (sch l t) ∧ Below w.heap.size w wr) (fun _ i _ => 64 - (intOf i).toNat)
 case atStart => exact ⟨0, by omega, rfl, H0.out, (by repeat (first | with_reducible assumption | with_reducible exact Below.refl _ _ | (with_reducible refine putAgg_below ?_ (by first | omega | (simp; done) | (simp; omega))) | (with_reducible refine Below.alloc ?_ (by first | omega | (simp; done) | (simp; omega)) _) | (with_reducible refine Below.setCell ?_ (by first | omega | (simp; done) | (simp; omega)) _) | (with_reducible refine Below.drew ?_) | (with_reducible refine Below.trans ?_ (Below.mono (by with_reducible assumption) (by first | omega | (simp; done) | (simp; omega))))))⟩
 case round =>
  clear H0
  obtain ⟨t, ht, rfl, hD, hB⟩ := hrel
  by_cases h64 : t < 64
  ·by_cases h16 : t < 16
   ·have hcut := cut_lh (some ⟨b, off, none⟩) 64 cap (4 * t) (4 * t + 4) (by omega) (by omega) .i64 .i64
    rw [cutA_some b off (4 * t) cap (by omega), show 4 * t + 4 - 4 * t = 4 from by omega] at hcut
    simp only [Int.natCast_mul, Int.natCast_add, Int.cast_ofNat_Int] at hcut
    have hw1 : IntKind.i64.wrap (4 * (t : Int)) = 4 * (t : Int) := by rw [IntKind.wrap_i64]; omega
    have hw2 : IntKind.i64.wrap (4 * (t : Int) + 4) = 4 * (t : Int) + 4 := by rw [IntKind.wrap_i64]; omega
    have h16' : (t : Int) < 16 := by omega
    have h64' : (t : Int) < 64 := by omega
    have HD := Lib.hid (And.intro hD hB)
    clear hD hB
    go_wp2
    clear hcut
    go_loopw [5, 21] (fun c i wr => ∃ j : Nat, j ≤ 4 ∧ i = .int .i64 j ∧ IsDs wr w.heap.size 186 ((sch l t).set t (wordB l t j)) ∧ Below w.heap.size w wr) (fun _ i _ => 4 - (intOf i).toNat)
    case atStart => exact ⟨0, by omega, rfl, by rw [sch_start l t h64]; exact HD.out.1, HD.out.2⟩
    case round =>
     clear HD
     obtain ⟨j, hj, rfl, hD, hB⟩ := hrel
     by_cases hlt : j < 4
     ·have hlen := sch_length l t
      have c1 := hD.cell t (by rw [List.length_set]; omega)
      have f1 := hD.frozen t
      rw [List.getElem?_set_self (by omega), Option.getD_some] at c1
      have c2 := (hB.cell (p := ⟨b, off + 4 * t + j, none⟩) hbw).trans (show w.cell? ⟨b, off + 4 * t + j, none⟩ = some (.int .u8 (B (l[4 * t + j]?.getD 0#8))) from by
       rw [Nat.add_assoc]
       exact HR.out _ _ (byteVals_get l (4 * t + j) (by omega)))
      have HD := Lib.hid (And.intro (hD.set t (wordB l t (j + 1))) (hB.setCell (p := ⟨w.heap.size, t, none⟩) (Nat.le_refl _) (.int .u32 (D (wordB l t (j + 1))))))
      have HW := Lib.hid (show wordB l t (j + 1) = wordB l t j <<< 8 ||| (l[4 * t + j]?.getD 0#8).setWidth 32 from rfl)
      have hlt' : (j : Int) < 4 := by omega
      clear hD hB hlen
      rw [List.set_set] at HD
      rw [HW.out] at HD
      go_wp2
      go_roundw
      case rel => exact ⟨j + 1, by omega, by go_num, by rw [HW.out]; exact HD.out.1, HD.out.2⟩
      case measure => simp [intOf]; omega
     ·obtain rfl : j = 4 := by omega
      have HD := Lib.hid (And.intro hD hB)
      have HS := Lib.hid (show sch l (t + 1) = (sch l t).set t (wordB l t 4) from by rw [sch, if_pos h16])
      clear hD hB
      go_wp2
      go_roundw
      case rel => exact ⟨t + 1, by omega, by go_num, by rw [HS.out]; exact HD.out⟩
      case measure => simp [intOf]; omega
   ·have hlen := sch_length l t
    have c2 := hD.cell (t - 2) (by omega)
    have c7 := hD.cell (t - 7) (by omega)
    have c15 := hD.cell (t - 15) (by omega)
    have c16 := hD.cell (t - 16) (by omega)
    have ct := hD.cell t (by omega)
    have ft := hD.frozen t
    have HS := Lib.hid (show sch l (t + 1) = (sch l t).set t (sg1 (dw (sch l t) (t - 2)) + dw (sch l t) (t - 7) + sg0 (dw (sch l t) (t - 15)) + dw (sch l t) (t - 16)) from by rw [sch, if_neg h16])
    have HU := Lib.hid (fun (x : BitVec 32) => And.intro (show sg1 x = rotrW x 17 ^^^ rotrW x 19 ^^^ x >>> 10 from rfl) (show sg0 x = rotrW x 7 ^^^ rotrW x 18 ^^^ x >>> 3 from rfl))
    have hd : ∀ k, (sch l t)[k]?.getD 0#32 = dw (sch l t) k := fun k => rfl
    rw [hd] at c2 c7 c15 c16 ct
    have HD := Lib.hid (And.intro hD hB)
    generalize dw (sch l t) (t - 2) = x2 at *
    generalize dw (sch l t) (t - 7) = x7 at *
    generalize dw (sch l t) (t - 15) = x15 at *
    generalize dw (sch l t) (t - 16) = x16 at *
    generalize dw (sch l t) t = xt at *
    clear hD hB hlen hd
    have w2 : IntKind.i64.wrap ((t : Int) - 2) = ((t - 2 : Nat) : Int) := by rw [IntKind.wrap_i64]; omega
    have w7 : IntKind.i64.wrap ((t : Int) - 7) = ((t - 7 : Nat) : Int) := by rw [IntKind.wrap_i64]; omega
    have w15 : IntKind.i64.wrap ((t : Int) - 15) = ((t - 15 : Nat) : Int) := by rw [IntKind.wrap_i64]; omega
    have w16 : IntKind.i64.wrap ((t : Int) - 16) = ((t - 16 : Nat) : Int) := by rw [IntKind.wrap_i64]; omega
    have l2 : ((t - 2 : Nat) : Int) < 64 := by omega
    have l7 : ((t - 7 : Nat) : Int) < 64 := by omega
    have l15 : ((t - 15 : Nat) : Int) < 64 := by omega
    have l16 : ((t - 16 : Nat) : Int) < 64 := by omega
    have h16' : ¬ (t : Int) < 16 := by omega
    have h64' : (t : Int) < 64 := by omega
    go_wp2
    go_quiet (fail)
    go_wp2_with fail
    generalize hq : wr.drewN _ = wq
    have d7 : wq.drew.cell? ⟨w.heap.size, t - 7, none⟩ = some (.int .u32 (D x7)) := by rw [← hq]; exact c7
    have d16 : wq.drew.cell? ⟨w.heap.size, t - 16, none⟩ = some (.int .u32 (D x16)) := by rw [← hq]; exact c16
    have dt : wq.drew.cell? ⟨w.heap.size, t, none⟩ = some (.int .u32 (D xt)) := by rw [← hq]; exact ct
    have et : wq.drew.frozen? ⟨w.heap.size, t, none⟩ = false := by rw [← hq]; exact ft
    have HD2 := Lib.hid (show IsDs wq.drew w.heap.size 186 (sch l t) ∧ Below w.heap.size w wq.drew from by rw [← hq]; exact ⟨HD.out.1, HD.out.2.frame_drewN⟩)
    clear c2 c7 c15 c16 ct ft hq HD
    refine wp_region_still_tail 29 (by kernel_rfl) (by kernel_rfl) ?_
    show wpStill _ _ wq.drew (fun a' => wpList _ _ _ _ a' wq.drew) _ _
    generalize wq.drew = wd at *
    ((try simp only [List.take_succ_cons, List.take_zero, List.drop_succ_cons, List.drop_zero]); repeat ((refine wpStill_step (fun K hK => ?_)); go_simp; (first | (with_reducible refine hK _ ?_) | (with_reducible refine ⟨_, rotrI _ _ (by decide) (by decide) _, hK _ ?_⟩)); clear hK K); try refine wpStill_nil ?_)
    go_wp2
    go_roundw
    case rel =>
     refine ⟨t + 1, by omega, by go_num, ?_, HD2.out.2.setCell (Nat.le_refl _) _⟩
     rw [HS.out, (HU.out x2).1, (HU.out x15).2]
     exact HD2.out.1.set t _
    case measure => simp [intOf]; omega
  ·obtain rfl : t = 64 := by omega
   have ha := hD.agg (sch_length l 64)
   have hf := fits_words 64 (sch l 64) (sch_length l 64)
   have hle := sch_length l 64
   clear hD hbw
   generalize hL : sch l 64 = L at *
   have HL := Lib.hid hL
   clear hL
   go_wp2_with ((with_reducible show bodyPost _ _ _ _ _ _); exact end_c Tryz.results121 rfl (atW (v := dval L) (by go_simp)) rfl ⟨by rw [HL.out], (by repeat (first | with_reducible assumption | with_reducible exact Below.refl _ _ | (with_reducible refine putAgg_below ?_ (by first | omega | (simp; done) | (simp; omega))) | (with_reducible refine Below.alloc ?_ (by first | omega | (simp; done) | (simp; omega)) _) | (with_reducible refine Below.setCell ?_ (by first | omega | (simp; done) | (simp; omega)) _) | (with_reducible refine Below.drew ?_) | (with_reducible refine Below.trans ?_ (Below.mono (by with_reducible assumption) (by first | omega | (simp; done) | (simp; omega))))))⟩)
end Go.Proofs.YtccgfladbibjbaaGreatDoor
