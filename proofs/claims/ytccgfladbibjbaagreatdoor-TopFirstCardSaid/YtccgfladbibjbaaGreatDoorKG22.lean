/- Package power: tableOf, scan. -/
import Derived.Test.YtccgfladbibjbaaGreatDoorKG21
namespace Go.Proofs.YtccgfladbibjbaaGreatDoor
open Go.RowKit
attribute [local go_sem ↓] add_UU sub_UU mul_UU add_UL add_LU sub_UL sub_LU mul_UL neg_at not_at and_UU or_UU xor_UU andNot_UU and_UL or_LU shr_UL shl_UL shr_UN shl_UN shl_LN quo_UL rem_UL quo_UU rem_UU
attribute [local go_sem] wrap64_N wrapi_mod wrap8_U wrap32_U wrap64_B wrap32_B wrap8_D wrapi_B wrap64_UU eq_UU ne_UU eq_UL ne_UL lt_UU le_UU
attribute [local simp] putAgg_size
attribute [local go_sem ↓] loadVar_F loadVar_E loadVar_V loadVar_B32 storeVar_F storeVar_E storeVar_V storeVar_B32 box_F box_E box_V box_B32
attribute [local go_sem ↓ high] V4.cells_val FP.cells_val
attribute [local go_sem] run_loadF run_loadE run_loadV run_loadB32 run_storeF run_storeE run_storeV run_storeB32 run_boxA aggAt_drew aggAt_drewN aggAt_alloc_new aggAt_alloc_past aggAt_setCell_other aggAt_putAgg_other aggAt_putAgg_new putAgg_drew putAgg_size putAgg_alloc_new putAgg_alloc_past putAgg_cell_other putAgg_frozen_other V4.agg_arr FP.agg_arr V4.size_arr FP.size_arr V4.fits FP.fits fitsA_agg4 lt_2 ne_2 en_2 lt_3 ne_3 en_3 lt_4 ne_4 en_4 lt_5 ne_5 en_5 lt_6 ne_6 en_6
def tabVal (l : List V4) : Value := .agg (eVals l).toArray
theorem loadVar_T (a : Addr) : loadVar 208 a = loadA 208 64 a := rfl
theorem storeVar_T (a : Addr) (v : Value) : storeVar 208 a v = storeA 208 64 a v := rfl
theorem run_loadT (b o : Nat) (w : World) (h : (aggAt w 64 b o).isSome = true) : (loadA 208 64 ⟨b, o, none⟩).run Tryz.prog w = .ok ((aggAt w 64 b o).getD undef) w := run_loadA _ Tryz.underlying208 rfl (by kernel_rfl) b o w h
theorem run_storeT (b o : Nat) (v : Value) (w : World) (h : (aggAt w 64 b o).isSome = true) (hf : fitsA 64 v = true) : (storeA 208 64 ⟨b, o, none⟩ v).run Tryz.prog w = .ok () (putAgg w b o v.cells) := run_storeA (by kernel_rfl) b o v w h hf
theorem box_T (v : Value) : Instr.box 208 v = boxA 208 v := rfl
theorem atT {b o : Nat} {w : World} {v : Value} (h : aggAt w 64 b o = some v) : (loadVar 208 ⟨b, o, none⟩).run Tryz.prog w = .ok v w := loadVar_at _ Tryz.underlying208 rfl (by kernel_rfl) h
theorem tabVal_cells (l : List V4) : (tabVal l).cells = (eVals l).toArray := rfl
theorem agg_tab (l : List V4) : Value.agg (eVals l).toArray = tabVal l := rfl
theorem tab_size (l : List V4) : (eVals l).toArray.size = l.length * 4 := by rw [List.size_toArray, eVals_length]
theorem tab_fits (l : List V4) (h : l.length = 16) : fitsA 64 (tabVal l) = true := by
 unfold fitsA
 rw [tabVal_cells, Bool.and_eq_true]
 refine ⟨by rw [beq_iff_eq, tab_size, h], ?_⟩
 simpa using eVals_one l
theorem IsEsT.tab {w : World} {b : Nat} {l : List V4} {t : TypeId} (h : IsEsT t w b l) (hl : l.length = 16) : aggAt w 64 b 0 = some (tabVal l) := aggAt_whole h (by rw [tab_size, hl])
theorem index_T (l : List V4) (hl : l.length = 16) (k : Nat) (hk : k < l.length) (w : World) : (Instr.index 208 (tabVal l) (.int .i64 k)).run Tryz.prog w = .ok l[k].val w := by
 have hp : ∀ (cs : Array Value) (o : Nat) (v : V4), cs.extract o (o + 4) = v.arr → (part 50 cs o).run Tryz.prog w = .ok v.val w := by
  intro cs o v h
  unfold part
  rw [Sem.run_bind, show (isAgg 50).run Tryz.prog w = .ok true w from by kernel_rfl]
  simp only [Result.andThen]
  rw [if_pos trivial, Sem.run_bind, show (sizeOf 50).run Tryz.prog w = .ok 4 w from by kernel_rfl]
  simp [Result.andThen, h]
  rfl
 have hc : (eVals l).toArray.extract (k * 4) (k * 4 + 4) = l[k].arr := by
  have := IsEsT.agg (t := 50) (IsEsT.new (default : World) l _ rfl) k hk
  rw [aggAt_of (IsEsT.new (t := 50) (default : World) l _ rfl) (by rw [tab_size]; omega)] at this
  injection this with this
  injection this
 unfold Instr.index tabVal
 simp only [asIntOf, Sem.run_bind, Sem.run_pure, Result.andThen, run_underlying Tryz.underlying208]
 rw [if_pos (by omega), Sem.run_bind, show (sizeOf 50).run Tryz.prog w = .ok 4 w from by kernel_rfl]
 simp only [Result.andThen, Int.toNat_natCast]
 exact hp _ _ _ hc
attribute [local go_sem ↓] loadVar_T storeVar_T box_T
attribute [local go_sem ↓ high] tabVal_cells
attribute [local go_sem] run_loadT run_storeT agg_tab tab_size
def pwr (f : FP) (x : V4) : Nat → V4
 | 0 => f.one
 | k + 1 => mmul f (pwr f x k) x
def tabT (f : FP) (x : V4) (k : Nat) : List V4 := (List.range 16).map fun j => if j ≤ k then pwr f x j else V4.zero
theorem tabT_length (f : FP) (x : V4) (k : Nat) : (tabT f x k).length = 16 := by simp [tabT]
theorem tabT_get (f : FP) (x : V4) (k : Nat) (hk : k < 16) : (tabT f x k)[k]?.getD V4.zero = pwr f x k := by
 unfold tabT
 rw [List.getElem?_map, List.getElem?_range hk, Option.map_some, Option.getD_some, if_pos (Nat.le_refl k)]
theorem tabT_set (f : FP) (x : V4) (k : Nat) : tabT f x (k + 1) = (tabT f x k).set (k + 1) (pwr f x (k + 1)) := by
 apply List.ext_getElem
 ·simp [tabT]
 ·intro i h1 h2
  rw [List.getElem_set]
  simp only [tabT, List.getElem_map, List.getElem_range]
  by_cases hi : k + 1 = i
  ·subst hi; rw [if_pos (Nat.le_refl _), if_pos rfl]
  ·rw [if_neg hi]
   by_cases hle : i ≤ k
   ·rw [if_pos hle, if_pos (by omega)]
   ·rw [if_neg hle, if_neg (by omega)]
def tab (f : FP) (x : V4) : List V4 := (List.range 16).map (pwr f x)
theorem tab_length (f : FP) (x : V4) : (tab f x).length = 16 := by simp [tab]
theorem tabT_all (f : FP) (x : V4) : tabT f x 15 = tab f x := by
 apply List.ext_getElem
 ·simp [tabT, tab]
 ·intro i h1 h2
  rw [tabT_length] at h1
  simp only [tabT, tab, List.getElem_map, List.getElem_range]
  rw [if_pos (by omega)]
def TabI (f : FP) (x : V4) (w : World) (k : Nat) (W : World) : Prop :=
 W.heap[w.heap.size]? = some (.cells f.arr 67 (0, 0)) ∧ W.heap[w.heap.size + 1]? = some (.cells x.arr 50 (0, 0)) ∧ IsEsT 208 W (w.heap.size + 1 + 1) (tabT f x k) ∧ Below w.heap.size w W
theorem TabI.below {f : FP} {x : V4} {w W W' : World} {k : Nat} (h : TabI f x w k W) (hb : Below W.heap.size W W') : TabI f x w k W' := by
 obtain ⟨h1, h2, h3, h4⟩ := h
 have hs : ∀ j o, W.heap[j]? = some o → W'.heap[j]? = some o := fun j o h => (hb.block j (Array.getElem?_eq_some_iff.1 h).1).trans h
 exact ⟨hs _ _ h1, hs _ _ h2, h3.below hb, h4.trans (hb.mono h4.size)⟩
theorem TabI.next {f : FP} {x v : V4} {w W : World} {k : Nat} (h : TabI f x w k W) (hk : k + 1 < 16) (hv : pwr f x (k + 1) = v) : TabI f x w (k + 1) (putAgg W (w.heap.size + 1 + 1) ((k + 1) * 4) v.arr) := by
 obtain ⟨h1, h2, h3, h4⟩ := h
 have ho : ∀ j, j ≠ w.heap.size + 1 + 1 → (putAgg W (w.heap.size + 1 + 1) ((k + 1) * 4) v.arr).heap[j]? = W.heap[j]? := fun j hj => putAgg_block W _ _ _ j hj
 refine ⟨(ho _ (by omega)).trans h1, (ho _ (by omega)).trans h2, ?_, putAgg_below h4 (by omega)⟩
 rw [tabT_set f x k, hv]
 exact h3.put (k + 1) (by rw [tabT_length]; omega) v
set_option maxRecDepth 100000 in
set_option maxHeartbeats 4000000 in
theorem tableOf (f : FP) (x : V4) (w : World) : Calls Tryz.prog 149 #[f.val, x.val] w fun e w' => e = .returned (tabVal (tab f x)) ∧ Below w.heap.size w w' := by
 have hF := ((IsF.newAt w f _ rfl).alloc (.cells x.arr 50)).alloc (.cells #[.int .u64 0, .int .u64 0, .int .u64 0, .int .u64 0, .int .u64 0, .int .u64 0, .int .u64 0, .int .u64 0, .int .u64 0, .int .u64 0, .int .u64 0, .int .u64 0, .int .u64 0, .int .u64 0, .int .u64 0, .int .u64 0, .int .u64 0, .int .u64 0, .int .u64 0, .int .u64 0, .int .u64 0, .int .u64 0, .int .u64 0, .int .u64 0, .int .u64 0, .int .u64 0, .int .u64 0, .int .u64 0, .int .u64 0, .int .u64 0, .int .u64 0, .int .u64 0, .int .u64 0, .int .u64 0, .int .u64 0, .int .u64 0, .int .u64 0, .int .u64 0, .int .u64 0, .int .u64 0, .int .u64 0, .int .u64 0, .int .u64 0, .int .u64 0, .int .u64 0, .int .u64 0, .int .u64 0, .int .u64 0, .int .u64 0, .int .u64 0, .int .u64 0, .int .u64 0, .int .u64 0, .int .u64 0, .int .u64 0, .int .u64 0, .int .u64 0, .int .u64 0, .int .u64 0, .int .u64 0, .int .u64 0, .int .u64 0, .int .u64 0, .int .u64 0] 208)
 have hX : (((w.alloc (.cells f.arr 67)).alloc (.cells x.arr 50)).alloc (.cells #[.int .u64 0, .int .u64 0, .int .u64 0, .int .u64 0, .int .u64 0, .int .u64 0, .int .u64 0, .int .u64 0, .int .u64 0, .int .u64 0, .int .u64 0, .int .u64 0, .int .u64 0, .int .u64 0, .int .u64 0, .int .u64 0, .int .u64 0, .int .u64 0, .int .u64 0, .int .u64 0, .int .u64 0, .int .u64 0, .int .u64 0, .int .u64 0, .int .u64 0, .int .u64 0, .int .u64 0, .int .u64 0, .int .u64 0, .int .u64 0, .int .u64 0, .int .u64 0, .int .u64 0, .int .u64 0, .int .u64 0, .int .u64 0, .int .u64 0, .int .u64 0, .int .u64 0, .int .u64 0, .int .u64 0, .int .u64 0, .int .u64 0, .int .u64 0, .int .u64 0, .int .u64 0, .int .u64 0, .int .u64 0, .int .u64 0, .int .u64 0, .int .u64 0, .int .u64 0, .int .u64 0, .int .u64 0, .int .u64 0, .int .u64 0, .int .u64 0, .int .u64 0, .int .u64 0, .int .u64 0, .int .u64 0, .int .u64 0, .int .u64 0, .int .u64 0] 208)).heap[w.heap.size + 1]? = some (.cells x.arr 50 (0, 0)) := (Below.heap_alloc _ _ _ (by simp)).trans (by have := heap_alloc_new (w.alloc (.cells f.arr 67)) (.cells x.arr 50); rwa [World.size_alloc] at this)
 have hT : IsEsT 208 (((w.alloc (.cells f.arr 67)).alloc (.cells x.arr 50)).alloc (.cells #[.int .u64 0, .int .u64 0, .int .u64 0, .int .u64 0, .int .u64 0, .int .u64 0, .int .u64 0, .int .u64 0, .int .u64 0, .int .u64 0, .int .u64 0, .int .u64 0, .int .u64 0, .int .u64 0, .int .u64 0, .int .u64 0, .int .u64 0, .int .u64 0, .int .u64 0, .int .u64 0, .int .u64 0, .int .u64 0, .int .u64 0, .int .u64 0, .int .u64 0, .int .u64 0, .int .u64 0, .int .u64 0, .int .u64 0, .int .u64 0, .int .u64 0, .int .u64 0, .int .u64 0, .int .u64 0, .int .u64 0, .int .u64 0, .int .u64 0, .int .u64 0, .int .u64 0, .int .u64 0, .int .u64 0, .int .u64 0, .int .u64 0, .int .u64 0, .int .u64 0, .int .u64 0, .int .u64 0, .int .u64 0, .int .u64 0, .int .u64 0, .int .u64 0, .int .u64 0, .int .u64 0, .int .u64 0, .int .u64 0, .int .u64 0, .int .u64 0, .int .u64 0, .int .u64 0, .int .u64 0, .int .u64 0, .int .u64 0, .int .u64 0, .int .u64 0] 208)) (w.heap.size + 1 + 1) (List.replicate 16 V4.zero) := IsEsT.new ((w.alloc (.cells f.arr 67)).alloc (.cells x.arr 50)) (List.replicate 16 V4.zero) _ (by simp)
 have hb : Below w.heap.size w (((w.alloc (.cells f.arr 67)).alloc (.cells x.arr 50)).alloc (.cells #[.int .u64 0, .int .u64 0, .int .u64 0, .int .u64 0, .int .u64 0, .int .u64 0, .int .u64 0, .int .u64 0, .int .u64 0, .int .u64 0, .int .u64 0, .int .u64 0, .int .u64 0, .int .u64 0, .int .u64 0, .int .u64 0, .int .u64 0, .int .u64 0, .int .u64 0, .int .u64 0, .int .u64 0, .int .u64 0, .int .u64 0, .int .u64 0, .int .u64 0, .int .u64 0, .int .u64 0, .int .u64 0, .int .u64 0, .int .u64 0, .int .u64 0, .int .u64 0, .int .u64 0, .int .u64 0, .int .u64 0, .int .u64 0, .int .u64 0, .int .u64 0, .int .u64 0, .int .u64 0, .int .u64 0, .int .u64 0, .int .u64 0, .int .u64 0, .int .u64 0, .int .u64 0, .int .u64 0, .int .u64 0, .int .u64 0, .int .u64 0, .int .u64 0, .int .u64 0, .int .u64 0, .int .u64 0, .int .u64 0, .int .u64 0, .int .u64 0, .int .u64 0, .int .u64 0, .int .u64 0, .int .u64 0, .int .u64 0, .int .u64 0, .int .u64 0] 208)) := (by repeat (first | with_reducible assumption | with_reducible exact Below.refl _ _ | (with_reducible refine putAgg_below ?_ (by first | omega | (simp; done) | (simp; omega))) | (with_reducible refine Below.alloc ?_ (by first | omega | (simp; done) | (simp; omega)) _) | (with_reducible refine Below.setCell ?_ (by first | omega | (simp; done) | (simp; omega)) _) | (with_reducible refine Below.drew ?_) | (with_reducible refine Below.trans ?_ (Below.mono (by with_reducible assumption) (by first | omega | (simp; done) | (simp; omega))))))
 have q3 := hF.parts.2.2.1
 have q5 : aggPart (((w.alloc (.cells f.arr 67)).alloc (.cells x.arr 50)).alloc (.cells #[.int .u64 0, .int .u64 0, .int .u64 0, .int .u64 0, .int .u64 0, .int .u64 0, .int .u64 0, .int .u64 0, .int .u64 0, .int .u64 0, .int .u64 0, .int .u64 0, .int .u64 0, .int .u64 0, .int .u64 0, .int .u64 0, .int .u64 0, .int .u64 0, .int .u64 0, .int .u64 0, .int .u64 0, .int .u64 0, .int .u64 0, .int .u64 0, .int .u64 0, .int .u64 0, .int .u64 0, .int .u64 0, .int .u64 0, .int .u64 0, .int .u64 0, .int .u64 0, .int .u64 0, .int .u64 0, .int .u64 0, .int .u64 0, .int .u64 0, .int .u64 0, .int .u64 0, .int .u64 0, .int .u64 0, .int .u64 0, .int .u64 0, .int .u64 0, .int .u64 0, .int .u64 0, .int .u64 0, .int .u64 0, .int .u64 0, .int .u64 0, .int .u64 0, .int .u64 0, .int .u64 0, .int .u64 0, .int .u64 0, .int .u64 0, .int .u64 0, .int .u64 0, .int .u64 0, .int .u64 0, .int .u64 0, .int .u64 0, .int .u64 0, .int .u64 0] 208)) 4 (w.heap.size + 1 + 1) 0 = some V4.zero.val := hT.agg 0 (by simp)
 have H0 := Lib.hid (show TabI f x w 0 (putRest (((w.alloc (.cells f.arr 67)).alloc (.cells x.arr 50)).alloc (.cells #[.int .u64 0, .int .u64 0, .int .u64 0, .int .u64 0, .int .u64 0, .int .u64 0, .int .u64 0, .int .u64 0, .int .u64 0, .int .u64 0, .int .u64 0, .int .u64 0, .int .u64 0, .int .u64 0, .int .u64 0, .int .u64 0, .int .u64 0, .int .u64 0, .int .u64 0, .int .u64 0, .int .u64 0, .int .u64 0, .int .u64 0, .int .u64 0, .int .u64 0, .int .u64 0, .int .u64 0, .int .u64 0, .int .u64 0, .int .u64 0, .int .u64 0, .int .u64 0, .int .u64 0, .int .u64 0, .int .u64 0, .int .u64 0, .int .u64 0, .int .u64 0, .int .u64 0, .int .u64 0, .int .u64 0, .int .u64 0, .int .u64 0, .int .u64 0, .int .u64 0, .int .u64 0, .int .u64 0, .int .u64 0, .int .u64 0, .int .u64 0, .int .u64 0, .int .u64 0, .int .u64 0, .int .u64 0, .int .u64 0, .int .u64 0, .int .u64 0, .int .u64 0, .int .u64 0, .int .u64 0, .int .u64 0, .int .u64 0, .int .u64 0, .int .u64 0] 208)) (w.heap.size + 1 + 1) 0 f.one.arr) from
  ⟨(putAgg_block _ _ _ _ _ (by omega)).trans hF, (putAgg_block _ _ _ _ _ (by omega)).trans hX, by
   have := hT.put 0 (by simp) f.one
   exact this, putAgg_below hb (by omega)⟩)
 clear hF hX hT hb
 go_enter Tryz.func149, Tryz.ntmps149
 go_wp2
 clear q3 q5
 go_loopw [5, 9] (fun v i W => ∃ k : Nat, k ≤ 15 ∧ i = .int .i64 k ∧ TabI f x w k W) (fun _ i _ => 15 - (intOf i).toNat)
 case atStart => exact ⟨0, by omega, rfl, H0.out⟩
 case round =>
  clear H0
  obtain ⟨k, hk, rfl, hI⟩ := hrel
  have HI := Lib.hid hI
  by_cases hlt : k < 15
  ·have hlt' : (k : Int) < 15 := by omega
   have hw1 : IntKind.i64.wrap ((k : Int) + 1) = ((k + 1 : Nat) : Int) := by rw [IntKind.wrap_i64]; omega
   have hk16 : (k : Int) < 16 := by omega
   have hk17 : (k : Int) + 1 < 16 := by omega
   have htn : ((k : Int) + 1).toNat = k + 1 := by omega
   have pF := aggF_of_block hI.1
   have pX := agg_of_block hI.2.1
   have pT := hI.2.2.1.get k (by rw [tabT_length]; omega)
   rw [tabT_get f x k (by omega)] at pT
   have pU := hI.2.2.1.get (k + 1) (by rw [tabT_length]; omega)
   have HP := Lib.hid (show pwr f x (k + 1) = mmul f (pwr f x k) x from rfl)
   generalize (tabT f x k)[k + 1]?.getD V4.zero = u at *
   generalize pwr f x k = p at *
   clear hI
   go_wp2
   refine region_held (h := 9) (by kernel_rfl) (by kernel_rfl) (fun W' => Below wr.heap.size wr W' ∧ aggAt W' 14 w.heap.size 0 = some f.val ∧ aggAt W' 4 (w.heap.size + 1) 0 = some x.val ∧ aggAt W' 4 (w.heap.size + 1 + 1) (k * 4) = some p.val ∧ aggAt W' 4 (w.heap.size + 1 + 1) ((k + 1) * 4) = some u.val) ⟨(Below.refl _ wr).drew, pF, pX, pT, pU⟩ ?_
   have hSB : ∀ W' W'' : World, (Below wr.heap.size wr W' ∧ aggAt W' 14 w.heap.size 0 = some f.val ∧ aggAt W' 4 (w.heap.size + 1) 0 = some x.val ∧ aggAt W' 4 (w.heap.size + 1 + 1) (k * 4) = some p.val ∧ aggAt W' 4 (w.heap.size + 1 + 1) ((k + 1) * 4) = some u.val) → Below W'.heap.size W' W'' → (Below wr.heap.size wr W'' ∧ aggAt W'' 14 w.heap.size 0 = some f.val ∧ aggAt W'' 4 (w.heap.size + 1) 0 = some x.val ∧ aggAt W'' 4 (w.heap.size + 1 + 1) (k * 4) = some p.val ∧ aggAt W'' 4 (w.heap.size + 1 + 1) ((k + 1) * 4) = some u.val) :=
    fun W' W'' ⟨h0, h1, h2, h3, h4⟩ hb => ⟨h0.trans (hb.mono h0.size), agg_keep h1 hb, agg_keep h2 hb, agg_keep h3 hb, agg_keep h4 hb⟩
   clear pF pX pT pU
   ((try simp only [List.take_succ_cons, List.take_zero, List.drop_succ_cons, List.drop_zero]); repeat (apply chain_op; (focus (intro W' hS' K hK; (try simp only [Act.put, List.setIfInBounds_toArray, List.set_cons_zero, List.set_cons_succ] at hK); (have hS'' := hS'); (obtain ⟨s0, s1, s2, s3, s4⟩ := hS''); go_simp; (first | exact hK _ hS' | (with_reducible refine Calls.mono (montMul f p x _) ?_; rintro e W'' ⟨rfl, hb''⟩; exact hK _ (hSB _ _ hS' hb''))); done)); (try simp only [Act.put, List.setIfInBounds_toArray, List.set_cons_zero, List.set_cons_succ])); unfold chain)
   rintro W' ⟨s0, s1, s2, s3, s4⟩
   have HI' := Lib.hid (HI.out.below s0)
   clear s0 hSB
   go_wp2
   go_roundw
   case rel => exact ⟨k + 1, by omega, by go_num, HI'.out.next (by omega) HP.out⟩
   case measure => simp [intOf]; omega
  ·obtain rfl : k = 15 := by omega
   have pT := hI.2.2.1.tab (tabT_length f x 15)
   rw [tabT_all] at pT
   have hb : Below w.heap.size w wr := hI.2.2.2
   have hf := tab_fits (tab f x) (tab_length f x)
   clear hI HI
   obtain ⟨T, hT⟩ : ∃ T, T = tab f x := ⟨_, rfl⟩
   rw [← hT] at pT hf
   have hsz : (eVals T).length = 64 := by rw [eVals_length, hT, tab_length]
   have HT := Lib.hid hT
   clear hT
   rw [show ((15 : Nat) : Int) = 15 from rfl]
   go_wp2_with ((with_reducible show bodyPost _ _ _ _ _ _); exact end_c Tryz.results149 rfl (atT (v := tabVal T) (by go_simp)) rfl ⟨by rw [HT.out], (by repeat (first | with_reducible assumption | with_reducible exact Below.refl _ _ | (with_reducible refine putAgg_below ?_ (by first | omega | (simp; done) | (simp; omega))) | (with_reducible refine Below.alloc ?_ (by first | omega | (simp; done) | (simp; omega)) _) | (with_reducible refine Below.setCell ?_ (by first | omega | (simp; done) | (simp; omega)) _) | (with_reducible refine Below.drew ?_) | (with_reducible refine Below.trans ?_ (Below.mono (by with_reducible assumption) (by first | omega | (simp; done) | (simp; omega))))))⟩)
def selV (m : BitVec 64) (a b : V4) : V4 := if (m % 2#64 == 1#64) = true then a else b
theorem chooseE (m : BitVec 64) (a b : V4) (w : World) : Calls Tryz.prog 135 #[.int .u64 (U m), a.val, b.val] w fun e w' => e = .returned (selV m a b).val ∧ Below w.heap.size w w' := montChoose m a b w
def scanT (l : List V4) (i : BitVec 64) : Nat → V4
 | 0 => V4.zero
 | k + 1 => selV (equalW i (BitVec.ofNat 64 k)) (l[k]?.getD V4.zero) (scanT l i k)
def ScanI (l : List V4) (i : BitVec 64) (w : World) (k : Nat) (W : World) : Prop := W.heap[w.heap.size + 1]? = some (.cells (scanT l i k).arr 50 (0, 0)) ∧ Below w.heap.size w W
theorem conv_idx (k : Nat) : IntKind.u64.wrap (k : Int) = U (BitVec.ofNat 64 k) := by rw [wrap64_U, BitVec.ofInt_natCast]
set_option maxRecDepth 100000 in
set_option maxHeartbeats 4000000 in
theorem scan (l : List V4) (hl : l.length = 16) (i : BitVec 64) (w : World) : Calls Tryz.prog 151 #[tabVal l, .pointer none, .int .u64 (U i)] w fun e w' => e = .returned (scanT l i 16).val ∧ Below w.heap.size w w' := by
 have hT := (IsEsT.new (t := 208) w l _ rfl).alloc (.cells #[.int .u64 0, .int .u64 0, .int .u64 0, .int .u64 0] 50)
 have q1 := hT.tab hl
 have hb : Below w.heap.size w ((w.alloc (.cells (eVals l).toArray 208)).alloc (.cells #[.int .u64 0, .int .u64 0, .int .u64 0, .int .u64 0] 50)) := (by repeat (first | with_reducible assumption | with_reducible exact Below.refl _ _ | (with_reducible refine putAgg_below ?_ (by first | omega | (simp; done) | (simp; omega))) | (with_reducible refine Below.alloc ?_ (by first | omega | (simp; done) | (simp; omega)) _) | (with_reducible refine Below.setCell ?_ (by first | omega | (simp; done) | (simp; omega)) _) | (with_reducible refine Below.drew ?_) | (with_reducible refine Below.trans ?_ (Below.mono (by with_reducible assumption) (by first | omega | (simp; done) | (simp; omega))))))
 have H0 := Lib.hid (show ScanI l i w 0 ((w.alloc (.cells (eVals l).toArray 208)).alloc (.cells #[.int .u64 0, .int .u64 0, .int .u64 0, .int .u64 0] 50)) from ⟨by have := heap_alloc_new (w.alloc (.cells (eVals l).toArray 208)) (.cells #[.int .u64 0, .int .u64 0, .int .u64 0, .int .u64 0] 50); rwa [World.size_alloc] at this, hb⟩)
 have HX := Lib.hid (fun k hk => index_T l hl k hk)
 clear hT hb
 go_enter Tryz.func151, Tryz.ntmps151
 go_wp2
 clear q1
 go_loopw [7, 8, 10] (fun _ _ j W => ∃ k : Nat, k ≤ 16 ∧ j = .int .i64 k ∧ ScanI l i w k W) (fun _ _ j _ => 16 - (intOf j).toNat)
 case atStart => exact ⟨0, by omega, rfl, H0.out⟩
 case round =>
  clear H0
  obtain ⟨k, hk, rfl, hI⟩ := hrel
  have HB := Lib.hid hI.2
  by_cases hlt : k < 16
  ·have hlt' : (k : Int) < 16 := by omega
   have hx := HX.out k (by omega)
   have hcv := conv_idx k
   have pR := agg_of_block hI.1
   have hz : w.heap.size + 1 < wr.heap.size := (Array.getElem?_eq_some_iff.1 hI.1).1
   have HS := Lib.hid (show scanT l i (k + 1) = selV (equalW i (BitVec.ofNat 64 k)) (l[k]'(by omega)) (scanT l i k) from by rw [scanT, List.getElem?_eq_getElem (by omega), Option.getD_some])
   have HBl := Lib.hid hI.1
   clear hI
   generalize l[k]'(by omega) = x at *
   generalize scanT l i k = r at *
   go_wp2_with fail
   refine (noteNil _ _ _ _).mono ?_
   rintro e w1 ⟨rfl, rfl⟩
   go_wp2
   (obtain ⟨W1, hW1⟩ : ∃ W0 : World, W0 = (wr).alloc (.cells x.arr 50) := ⟨_, rfl⟩); (have gW1 : ∀ (j : Nat) (o : Obj), ([Obj.cells x.arr 50] : List Obj)[j]? = some o → W1.heap[wr.heap.size + j]? = some o := by rw [hW1]; exact allocs_get wr _); (have zW1 : W1.heap.size = wr.heap.size + 1 := by rw [hW1]; exact allocs_size wr [Obj.cells x.arr 50]); (have bW1 : Below wr.heap.size wr W1 := by rw [hW1]; exact allocs_below wr [Obj.cells x.arr 50]); (rw [← hW1]); (clear hW1)
   have pX := agg_of_block (gW1 0 _ rfl)
   rw [Nat.add_zero] at pX
   have pR := agg_keep pR bW1
   have HB1 := Lib.hid (And.intro ((bW1.block (w.heap.size + 1) (by omega)).trans HBl.out) (HB.out.trans (bW1.mono HB.out.size)))
   clear gW1 bW1 HB HBl
   refine region_held (h := 7) (by kernel_rfl) (by kernel_rfl) (fun W' => Below W1.heap.size W1 W' ∧ aggAt W' 4 wr.heap.size 0 = some x.val ∧ aggAt W' 4 (w.heap.size + 1) 0 = some r.val) ⟨(Below.refl _ W1).drew, pX, pR⟩ ?_
   have hSB : ∀ W' W'' : World, (Below W1.heap.size W1 W' ∧ aggAt W' 4 wr.heap.size 0 = some x.val ∧ aggAt W' 4 (w.heap.size + 1) 0 = some r.val) → Below W'.heap.size W' W'' → (Below W1.heap.size W1 W'' ∧ aggAt W'' 4 wr.heap.size 0 = some x.val ∧ aggAt W'' 4 (w.heap.size + 1) 0 = some r.val) :=
    fun W' W'' ⟨h0, h1, h2⟩ hb => ⟨h0.trans (hb.mono h0.size), agg_keep h1 hb, agg_keep h2 hb⟩
   clear pX pR
   ((try simp only [List.take_succ_cons, List.take_zero, List.drop_succ_cons, List.drop_zero]); repeat (apply chain_op; (focus (intro W' hS' K hK; (try simp only [Act.put, List.setIfInBounds_toArray, List.set_cons_zero, List.set_cons_succ] at hK); (have hS'' := hS'); (obtain ⟨s0, s1, s2⟩ := hS''); go_simp; (first | exact hK _ hS' | (with_reducible refine Calls.mono (equal i (BitVec.ofNat 64 k) _) ?_; rintro e W'' ⟨rfl, hb''⟩; exact hK _ (hSB _ _ hS' hb'')) | (with_reducible refine Calls.mono (chooseE _ x r _) ?_; rintro e W'' ⟨rfl, hb''⟩; exact hK _ (hSB _ _ hS' hb''))); done)); (try simp only [Act.put, List.setIfInBounds_toArray, List.set_cons_zero, List.set_cons_succ])); unfold chain)
   rintro W' ⟨s0, s1, s2⟩
   have HW' := Lib.hid (And.intro ((s0.block (w.heap.size + 1) (by omega)).trans HB1.out.1) (HB1.out.2.trans (s0.mono HB1.out.2.size)))
   clear s0 hSB HB1
   go_wp2
   go_roundw
   case rel => exact ⟨k + 1, by omega, by go_num, by rw [HS.out]; exact vec_put HW'.out.1 rfl, putAgg_below HW'.out.2 (by omega)⟩
   case measure => simp [intOf]; omega
  ·obtain rfl : k = 16 := by omega
   have hs := agg_of_block hI.1
   have hb : Below w.heap.size w wr := hI.2
   obtain ⟨r, hr⟩ : ∃ r, r = scanT l i 16 := ⟨_, rfl⟩
   rw [← hr] at hs
   have HR := Lib.hid hr
   clear hI hr HB HX
   rw [show ((16 : Nat) : Int) = 16 from rfl]
   go_wp2_with ((with_reducible show bodyPost _ _ _ _ _ _); exact end_c Tryz.results151 rfl (atE (v := r.val) (by go_simp)) rfl ⟨by rw [HR.out], (by repeat (first | with_reducible assumption | with_reducible exact Below.refl _ _ | (with_reducible refine putAgg_below ?_ (by first | omega | (simp; done) | (simp; omega))) | (with_reducible refine Below.alloc ?_ (by first | omega | (simp; done) | (simp; omega)) _) | (with_reducible refine Below.setCell ?_ (by first | omega | (simp; done) | (simp; omega)) _) | (with_reducible refine Below.drew ?_) | (with_reducible refine Below.trans ?_ (Below.mono (by with_reducible assumption) (by first | omega | (simp; done) | (simp; omega))))))⟩)
end Go.Proofs.YtccgfladbibjbaaGreatDoor
namespace Go.Proofs.YtccgfladbibjbaaGreatDoor
open Go.RowKit
attribute [local go_sem ↓] add_UU sub_UU mul_UU add_UL add_LU sub_UL sub_LU mul_UL neg_at not_at and_UU or_UU xor_UU andNot_UU and_UL or_LU shr_UL shl_UL shr_UN shl_UN shl_LN quo_UL rem_UL quo_UU rem_UU
attribute [local go_sem] wrap64_N wrapi_mod wrap8_U wrap32_U wrap64_B wrap32_B wrap8_D wrapi_B wrap64_UU eq_UU ne_UU eq_UL ne_UL lt_UU le_UU
attribute [local simp] putAgg_size
attribute [local go_sem ↓] loadVar_F loadVar_E loadVar_V loadVar_B32 storeVar_F storeVar_E storeVar_V storeVar_B32 box_F box_E box_V box_B32
attribute [local go_sem ↓ high] V4.cells_val FP.cells_val
attribute [local go_sem] run_loadF run_loadE run_loadV run_loadB32 run_storeF run_storeE run_storeV run_storeB32 run_boxA aggAt_drew aggAt_drewN aggAt_alloc_new aggAt_alloc_past aggAt_setCell_other aggAt_putAgg_other aggAt_putAgg_new putAgg_drew putAgg_size putAgg_alloc_new putAgg_alloc_past putAgg_cell_other putAgg_frozen_other V4.agg_arr FP.agg_arr V4.size_arr FP.size_arr V4.fits FP.fits fitsA_agg4 lt_2 ne_2 en_2 lt_3 ne_3 en_3 lt_4 ne_4 en_4 lt_5 ne_5 en_5 lt_6 ne_6 en_6
attribute [local go_sem ↓] loadVar_T storeVar_T box_T
attribute [local go_sem ↓ high] tabVal_cells
attribute [local go_sem] run_loadT run_storeT agg_tab tab_size
def sqN (f : FP) (v : V4) : Nat → V4
 | 0 => v
 | k + 1 => mmul f (sqN f v k) (sqN f v k)
def powO (f : FP) (x e : V4) : Nat → V4
 | 0 => f.one
 | t + 1 => mmul f (sqN f (powO f x e t) 4) (scanT (tab f x) (bitsN e ((63 - t) * 4) 4) 16)
def PowI (f : FP) (e : V4) (T : List V4) (w : World) (g : Nat) (o : V4) (W : World) : Prop :=
 W.heap[w.heap.size]? = some (.cells f.arr 67 (0, 0)) ∧ W.heap[w.heap.size + 1 + 1]? = some (.cells e.arr 45 (0, 0)) ∧ W.heap[w.heap.size + 1 + 1 + 1]? = some (.cells V4.zero.arr 50 (0, 0)) ∧
 IsEsT 208 W g T ∧ W.heap[g + 1]? = some (.cells o.arr 50 (0, 0)) ∧ Below w.heap.size w W
theorem PowI.below {f : FP} {e o : V4} {T : List V4} {w W W' : World} {g : Nat} (h : PowI f e T w g o W) (hb : Below W.heap.size W W') : PowI f e T w g o W' := by
 obtain ⟨h1, h2, h3, h4, h5, h6⟩ := h
 have hs : ∀ j o, W.heap[j]? = some o → W'.heap[j]? = some o := fun j o h => (hb.block j (Array.getElem?_eq_some_iff.1 h).1).trans h
 exact ⟨hs _ _ h1, hs _ _ h2, hs _ _ h3, h4.below hb, hs _ _ h5, h6.trans (hb.mono h6.size)⟩
theorem PowI.put {f : FP} {e o : V4} {T : List V4} {w W : World} {g : Nat} (h : PowI f e T w g o W) (hg : w.heap.size + 1 + 1 + 1 < g) (v : V4) : PowI f e T w g v (putAgg W (g + 1) 0 v.arr) := by
 obtain ⟨h1, h2, h3, h4, h5, h6⟩ := h
 have ho : ∀ j, j ≠ g + 1 → (putAgg W (g + 1) 0 v.arr).heap[j]? = W.heap[j]? := fun j hj => putAgg_block W _ _ _ j hj
 exact ⟨(ho _ (by omega)).trans h1, (ho _ (by omega)).trans h2, (ho _ (by omega)).trans h3, h4.other (by omega), vec_put h5 rfl, putAgg_below h6 (by omega)⟩
set_option maxRecDepth 100000 in
set_option maxHeartbeats 4000000 in
theorem pow (f : FP) (x e : V4) (w : World) : Calls Tryz.prog 146 #[.pointer none, f.val, x.val, e.val] w fun en w' => en = .returned (powO f x e 64).val ∧ Below w.heap.size w w' := by
 have HT := Lib.hid (tableOf f x)
 obtain ⟨T, hT⟩ : ∃ T, T = tab f x := ⟨_, rfl⟩
 have hTl : T.length = 16 := by rw [hT, tab_length]
 rw [← hT] at HT
 have HTe := Lib.hid hT
 clear hT
 have hft := tab_fits T hTl
 have hts : (eVals T).length = 64 := by rw [eVals_length, hTl]
 go_enter Tryz.func146, Tryz.ntmps146
 go_wp2_with fail
 refine (HT.out _).mono ?_
 rintro en w1 ⟨rfl, hb1⟩
 have hB0 : Below w.heap.size w ((((w.alloc (.cells f.arr 67)).alloc (.cells x.arr 50)).alloc (.cells e.arr 45)).alloc (.cells #[.int .u64 0, .int .u64 0, .int .u64 0, .int .u64 0] 50)) := (by repeat (first | with_reducible assumption | with_reducible exact Below.refl _ _ | (with_reducible refine putAgg_below ?_ (by first | omega | (simp; done) | (simp; omega))) | (with_reducible refine Below.alloc ?_ (by first | omega | (simp; done) | (simp; omega)) _) | (with_reducible refine Below.setCell ?_ (by first | omega | (simp; done) | (simp; omega)) _) | (with_reducible refine Below.drew ?_) | (with_reducible refine Below.trans ?_ (Below.mono (by with_reducible assumption) (by first | omega | (simp; done) | (simp; omega))))))
 have g0 := allocs_get w [.cells f.arr 67, .cells x.arr 50, .cells e.arr 45, .cells #[.int .u64 0, .int .u64 0, .int .u64 0, .int .u64 0] 50]
 have hsz : w.heap.size + 1 + 1 + 1 < w1.heap.size := by have := hb1.size; simp at this; omega
 have g1 : ∀ (j : Nat) (o : Obj), ([.cells f.arr 67, .cells x.arr 50, .cells e.arr 45, .cells #[.int .u64 0, .int .u64 0, .int .u64 0, .int .u64 0] 50] : List Obj)[j]? = some o → w1.heap[w.heap.size + j]? = some o := fun j o h => (hb1.block _ (by have := (List.getElem?_eq_some_iff.1 h).1; simp at this ⊢; omega)).trans (g0 j o h)
 have HB := Lib.hid (hB0.trans (hb1.mono (by simp; omega)))
 have q1 : aggAt w1 4 w.heap.size 6 = some f.one.val := (IsF.parts (w := w1) (b := w.heap.size) (f := f) (g1 0 _ rfl)).2.2.1
 have hsz0 : w.heap.size < w1.heap.size := by omega
 clear hB0 g0 hb1 HT
 go_wp2
 (obtain ⟨W2, hW2⟩ : ∃ W0 : World, W0 = ((w1).alloc (.cells (eVals T).toArray 208)).alloc (.cells f.one.arr 50) := ⟨_, rfl⟩); (have gW2 : ∀ (j : Nat) (o : Obj), ([Obj.cells (eVals T).toArray 208, Obj.cells f.one.arr 50] : List Obj)[j]? = some o → W2.heap[w1.heap.size + j]? = some o := by rw [hW2]; exact allocs_get w1 _); (have zW2 : W2.heap.size = w1.heap.size + 2 := by rw [hW2]; exact allocs_size w1 [Obj.cells (eVals T).toArray 208, Obj.cells f.one.arr 50]); (have bW2 : Below w1.heap.size w1 W2 := by rw [hW2]; exact allocs_below w1 [Obj.cells (eVals T).toArray 208, Obj.cells f.one.arr 50]); (rw [← hW2]); (clear hW2)
 have H0 := Lib.hid (show PowI f e T w w1.heap.size (powO f x e 0) W2 from ⟨(bW2.block _ (by omega)).trans (g1 0 _ rfl), (bW2.block _ (by omega)).trans (g1 2 _ rfl), (bW2.block _ (by omega)).trans (g1 3 _ rfl), gW2 0 _ rfl, gW2 1 _ rfl, HB.out.trans (bW2.mono HB.out.size)⟩)
 clear g1 gW2 bW2 zW2 HB q1
 generalize w1.heap.size = g at *
 go_loopw [11, 24] (fun iv jv W => ∃ t : Nat, t ≤ 64 ∧ iv = .int .i64 (63 - (t : Int)) ∧ PowI f e T w g (powO f x e t) W) (fun iv _ _ => (intOf iv + 1).toNat)
 case atStart => exact ⟨0, by omega, rfl, H0.out⟩
 case round =>
  clear H0
  obtain ⟨t, ht, rfl, hI⟩ := hrel
  by_cases hlt : t < 64
  ·obtain ⟨i, hi⟩ : ∃ i, t + i = 63 := ⟨63 - t, by omega⟩
   have hiv : (63 : Int) - (t : Int) = (i : Int) := by omega
   rw [hiv]
   have hge : (i : Int) ≥ 0 := by omega
   have hO := Lib.hid (show powO f x e (t + 1) = mmul f (sqN f (powO f x e t) 4) (scanT T (bitsN e (i * 4) 4) 16) from by rw [powO, ← HTe.out, show 63 - t = i from by omega])
   have HI := Lib.hid hI
   have HIv := Lib.hid (And.intro hi hiv)
   clear hI hi hiv
   go_wp2_with fail
   refine (noteNil _ _ _ _).mono ?_
   rintro en w2 ⟨rfl, rfl⟩
   generalize powO f x e t = o at *
   go_wp2
   go_loopw [24] (fun jv W => ∃ j : Nat, j ≤ 4 ∧ jv = .int .i64 j ∧ PowI f e T w g (sqN f o j) W) (fun jv _ => 4 - (intOf jv).toNat)
   case atStart => exact ⟨0, by omega, rfl, HI.out⟩
   case round =>
    clear HI
    obtain ⟨j, hj, rfl, hI⟩ := hrel
    have HI := Lib.hid hI
    by_cases hj4 : j < 4
    ·have hj4' : (j : Int) < 4 := by omega
     have pF := aggF_of_block hI.1
     have pO := agg_of_block hI.2.2.2.2.1
     have HQ := Lib.hid (show sqN f o (j + 1) = mmul f (sqN f o j) (sqN f o j) from rfl)
     generalize sqN f o j = v at *
     clear hI
     go_wp2_with fail
     refine (montSquare f v _).mono ?_
     rintro en w3 ⟨rfl, hb3⟩
     have hI3 := HI.out.below hb3
     have pO3 := agg_of_block hI3.2.2.2.2.1
     have HI3 := Lib.hid (hI3.put (by omega) (mmul f v v))
     clear hI3 hb3 pF pO
     go_wp2
     go_roundw
     case rel => exact ⟨j + 1, by omega, by go_num, by rw [HQ.out]; exact HI3.out⟩
     case measure => simp [intOf]; omega
    ·obtain rfl : j = 4 := by omega
     have pF := aggF_of_block hI.1
     have pE : aggAt wr 4 (w.heap.size + 1 + 1) 0 = some e.val := agg_of_block hI.2.1
     have pO := agg_of_block hI.2.2.2.2.1
     have pT := hI.2.2.2.1.tab hTl
     have hwm : IntKind.i64.wrap ((i : Int) * 4) = (i : Int) * 4 := by rw [IntKind.wrap_i64]; have := HIv.out.1; omega
     have HBt := fun W => limbBits e (i * 4) 4 (by have := HIv.out.1; omega) (by omega) W
     rw [Int.natCast_mul] at HBt
     generalize sqN f o 4 = v at *
     clear hI
     have hgt : decide (0 ≤ i) = true := decide_eq_true (Nat.zero_le i)
     rw [show ((4 : Nat) : Int) = 4 from rfl]
     go_wp2
     refine region_held (h := 10) (by kernel_rfl) (by kernel_rfl) (fun W' => (Below wr.heap.size wr W' ∧ aggAt W' 14 w.heap.size 0 = some f.val ∧ aggAt W' 4 (w.heap.size + 1 + 1) 0 = some e.val ∧ aggAt W' 4 (g + 1) 0 = some v.val ∧ aggAt W' 64 g 0 = some (tabVal T))) ⟨(Below.refl _ wr).drew, pF, pE, pO, pT⟩ ?_
     have hSB : ∀ W' W'' : World, (Below wr.heap.size wr W' ∧ aggAt W' 14 w.heap.size 0 = some f.val ∧ aggAt W' 4 (w.heap.size + 1 + 1) 0 = some e.val ∧ aggAt W' 4 (g + 1) 0 = some v.val ∧ aggAt W' 64 g 0 = some (tabVal T)) → Below W'.heap.size W' W'' → (Below wr.heap.size wr W'' ∧ aggAt W'' 14 w.heap.size 0 = some f.val ∧ aggAt W'' 4 (w.heap.size + 1 + 1) 0 = some e.val ∧ aggAt W'' 4 (g + 1) 0 = some v.val ∧ aggAt W'' 64 g 0 = some (tabVal T)) :=
      fun W' W'' ⟨h0, h1, h2, h3, h4⟩ hb => ⟨h0.trans (hb.mono h0.size), agg_keep h1 hb, agg_keep h2 hb, agg_keep h3 hb, agg_keep h4 hb⟩
     clear pF pE pO pT
     ((try simp only [List.take_succ_cons, List.take_zero, List.drop_succ_cons, List.drop_zero]); repeat (apply chain_op; (focus (intro W' hS' K hK; (try simp only [Act.put, List.setIfInBounds_toArray, List.set_cons_zero, List.set_cons_succ] at hK); (have hS'' := hS'); (obtain ⟨s0, s1, s2, s3, s4⟩ := hS''); go_simp; (first | exact hK _ hS' | (with_reducible refine Calls.mono (HBt _) ?_; rintro e W'' ⟨rfl, hb''⟩; exact hK _ (hSB _ _ hS' hb'')) | (with_reducible refine Calls.mono (scan T hTl _ _) ?_; rintro e W'' ⟨rfl, hb''⟩; exact hK _ (hSB _ _ hS' hb'')) | (with_reducible refine Calls.mono (montMul f v _ _) ?_; rintro e W'' ⟨rfl, hb''⟩; exact hK _ (hSB _ _ hS' hb''))); done)); (try simp only [Act.put, List.setIfInBounds_toArray, List.set_cons_zero, List.set_cons_succ])); unfold chain)
     rintro W' ⟨s0, s1, s2, s3, s4⟩
     have HI' := Lib.hid ((HI.out.below s0).put (by omega) (mmul f v (scanT T (bitsN e (i * 4) 4) 16)))
     clear s0 hSB
     have hw1 : IntKind.i64.wrap ((i : Int) - 1) = (i : Int) - 1 := by rw [IntKind.wrap_i64]; have := HIv.out.1; omega
     go_wp2
     go_roundw
     case rel => exact ⟨t + 1, by omega, by have := HIv.out.2; congr 1 <;> omega, by rw [hO.out]; exact HI'.out⟩
     case measure => have := HIv.out.2; (first | (simp [intOf]; done) | (simp [intOf]; omega))
  ·obtain rfl : t = 64 := by omega
   have pO := agg_of_block hI.2.2.2.2.1
   have pZ := agg_of_block hI.2.2.1
   have hb : Below w.heap.size w wr := hI.2.2.2.2.2
   have hne : g + 1 ≠ w.heap.size + 1 + 1 + 1 := by omega
   obtain ⟨o, ho⟩ : ∃ o, o = powO f x e 64 := ⟨_, rfl⟩
   rw [← ho] at pO
   have HO := Lib.hid ho
   clear hI ho
   rw [show ((63 : Int) - ((64 : Nat) : Int)) = -1 from rfl]
   go_wp2_with ((with_reducible show bodyPost _ _ _ _ _ _); exact end_c Tryz.results146 rfl (atE (v := o.val) (by go_simp)) rfl ⟨by rw [HO.out], (by repeat (first | with_reducible assumption | with_reducible exact Below.refl _ _ | (with_reducible refine putAgg_below ?_ (by first | omega | (simp; done) | (simp; omega))) | (with_reducible refine Below.alloc ?_ (by first | omega | (simp; done) | (simp; omega)) _) | (with_reducible refine Below.setCell ?_ (by first | omega | (simp; done) | (simp; omega)) _) | (with_reducible refine Below.drew ?_) | (with_reducible refine Below.trans ?_ (Below.mono (by with_reducible assumption) (by first | omega | (simp; done) | (simp; omega))))))⟩)
def V4.two : V4 := ⟨2#64, 0#64, 0#64, 0#64⟩
def invExp (f : FP) : V4 := (chainN subF f.p V4.two 4).1
def invV (f : FP) (x : V4) : V4 := powO f x (invExp f) 64
set_option maxRecDepth 20000 in
set_option maxHeartbeats 1000000 in
theorem inverse (f : FP) (x : V4) (w : World) : Calls Tryz.prog 137 #[.pointer none, f.val, x.val] w fun en w' => en = .returned (invV f x).val ∧ Below w.heap.size w w' := by
 have HS := fun W => limbSub f.p V4.two W
 rw [show V4.two.val = .agg #[.int .u64 2, .int .u64 0, .int .u64 0, .int .u64 0] from rfl] at HS
 have HP := Lib.hid (pow f x (invExp f))
 have HI := Lib.hid (show invV f x = powO f x (invExp f) 64 from rfl)
 rw [← HI.out] at HP
 obtain ⟨b, hb⟩ : ∃ b, b = U (bw (chainN subF f.p V4.two 4).2) := ⟨_, rfl⟩
 rw [show (chainN subF f.p V4.two 4).1 = invExp f from rfl, ← hb] at HS
 clear hb
 generalize invExp f = e at *
 generalize invV f x = r at *
 have hF := ((IsF.newAt w f _ rfl).alloc (.cells x.arr 50)).alloc (.cells #[.int .u64 0, .int .u64 0, .int .u64 0, .int .u64 0] 50)
 obtain ⟨q1, q2, q3, q4⟩ := hF.parts
 have pX : aggAt (((w.alloc (.cells f.arr 67)).alloc (.cells x.arr 50)).alloc (.cells #[.int .u64 0, .int .u64 0, .int .u64 0, .int .u64 0] 50)) 4 (w.heap.size + 1) 0 = some x.val := by
  have := allocs_get w [.cells f.arr 67, .cells x.arr 50, .cells #[.int .u64 0, .int .u64 0, .int .u64 0, .int .u64 0] 50] 1 _ rfl
  exact agg_of_block this
 have pR : aggAt (((w.alloc (.cells f.arr 67)).alloc (.cells x.arr 50)).alloc (.cells #[.int .u64 0, .int .u64 0, .int .u64 0, .int .u64 0] 50)) 4 (w.heap.size + 1 + 1) 0 = some V4.zero.val := by
  have := allocs_get w [.cells f.arr 67, .cells x.arr 50, .cells #[.int .u64 0, .int .u64 0, .int .u64 0, .int .u64 0] 50] 2 _ rfl
  exact agg_of_block (v := V4.zero) this
 clear hF
 go_enter Tryz.func137, Tryz.ntmps137
 go_wp2_with fail
 refine (HS _).mono ?_
 rintro en w1 ⟨rfl, hb1⟩
 have p1 := agg_keep q1 hb1
 have pX1 := agg_keep pX hb1
 have pR1 := agg_keep pR hb1
 have hsz : w.heap.size + 1 + 1 < w1.heap.size := by have := hb1.size; simp at this; omega
 have hB : Below w.heap.size w w1 := ((by repeat (first | with_reducible assumption | with_reducible exact Below.refl _ _ | (with_reducible refine putAgg_below ?_ (by first | omega | (simp; done) | (simp; omega))) | (with_reducible refine Below.alloc ?_ (by first | omega | (simp; done) | (simp; omega)) _) | (with_reducible refine Below.setCell ?_ (by first | omega | (simp; done) | (simp; omega)) _) | (with_reducible refine Below.drew ?_) | (with_reducible refine Below.trans ?_ (Below.mono (by with_reducible assumption) (by first | omega | (simp; done) | (simp; omega)))))) : Below w.heap.size w (((w.alloc (.cells f.arr 67)).alloc (.cells x.arr 50)).alloc (.cells #[.int .u64 0, .int .u64 0, .int .u64 0, .int .u64 0] 50))).trans (hb1.mono (by simp; omega))
 have hsz0 : w.heap.size < w1.heap.size := by omega
 have hsz1 : w.heap.size + 1 < w1.heap.size := by omega
 clear q1 q2 q3 q4 pX pR hb1 HS
 go_wp2_with fail
 refine (HP.out _).mono ?_
 rintro en w2 ⟨rfl, hb2⟩
 have pR2 : aggAt w2 4 (w.heap.size + 1 + 1) 0 = some V4.zero.val := (aggAt_congr (hb2.block _ (by simp; omega))).trans (by rw [aggAt_alloc_past _ _ _ _ _ hsz]; exact pR1)
 have hB2 : Below w.heap.size w w2 := (hB.alloc (by omega) _).trans (hb2.mono (by simp; omega))
 clear HP p1 pX1 pR1 hb2 hB
 go_wp2_with ((with_reducible show bodyPost _ _ _ _ _ _); exact end_c Tryz.results137 rfl (atE (v := r.val) (by go_simp)) rfl ⟨rfl, (by repeat (first | with_reducible assumption | with_reducible exact Below.refl _ _ | (with_reducible refine putAgg_below ?_ (by first | omega | (simp; done) | (simp; omega))) | (with_reducible refine Below.alloc ?_ (by first | omega | (simp; done) | (simp; omega)) _) | (with_reducible refine Below.setCell ?_ (by first | omega | (simp; done) | (simp; omega)) _) | (with_reducible refine Below.drew ?_) | (with_reducible refine Below.trans ?_ (Below.mono (by with_reducible assumption) (by first | omega | (simp; done) | (simp; omega))))))⟩)
end Go.Proofs.YtccgfladbibjbaaGreatDoor
