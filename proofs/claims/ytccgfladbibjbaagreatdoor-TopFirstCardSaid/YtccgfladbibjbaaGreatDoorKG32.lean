/- params.Column. -/
import Derived.Test.YtccgfladbibjbaaGreatDoorKG29
import Derived.Test.YtccgfladbibjbaaGreatDoorKG28
import Derived.Test.YtccgfladbibjbaaGreatDoorKG24
import Derived.Test.YtccgfladbibjbaaGreatDoorKG25
import Derived.Test.YtccgfladbibjbaaGreatDoorKG03
namespace Go.Proofs.YtccgfladbibjbaaGreatDoor
open Go.RowKit
attribute [local go_sem ↓] add_UU sub_UU mul_UU add_UL add_LU sub_UL sub_LU mul_UL neg_at not_at and_UU or_UU xor_UU andNot_UU and_UL or_LU shr_UL shl_UL shr_UN shl_UN shl_LN quo_UL rem_UL quo_UU rem_UU
attribute [local go_sem] wrap64_N wrapi_mod wrap8_U wrap32_U wrap64_B wrap32_B wrap8_D wrapi_B wrap64_UU eq_UU ne_UU eq_UL ne_UL lt_UU le_UU
attribute [local simp] putAgg_size
attribute [local go_sem ↓] loadVar_F loadVar_E loadVar_V loadVar_B32 storeVar_F storeVar_E storeVar_V storeVar_B32 box_F box_E box_V box_B32
attribute [local go_sem ↓ high] V4.cells_val FP.cells_val
attribute [local go_sem] run_loadF run_loadE run_loadV run_loadB32 run_storeF run_storeE run_storeV run_storeB32 run_boxA aggAt_drew aggAt_drewN aggAt_alloc_new aggAt_alloc_past aggAt_setCell_other aggAt_putAgg_other aggAt_putAgg_new putAgg_drew putAgg_size putAgg_alloc_new putAgg_alloc_past putAgg_cell_other putAgg_frozen_other V4.agg_arr FP.agg_arr V4.size_arr FP.size_arr V4.fits FP.fits fitsA_agg4 lt_2 ne_2 en_2 lt_3 ne_3 en_3 lt_4 ne_4 en_4 lt_5 ne_5 en_5 lt_6 ne_6 en_6
def SeesS (w : World) (R : Option Addr) (l : List ShA) : Prop := Sees w R (shVals l) ∧ ∀ x ∈ l, Sees w x.A (eVals x.s.pay)
theorem SeesS.below {w w' : World} {R : Option Addr} {l : List ShA} (h : SeesS w R l) (hb : Below w.heap.size w w') : SeesS w' R l := ⟨h.1.below hb, fun x hx => (h.2 x hx).below hb⟩
def colV (l : List ShA) (j : Nat) : List V4 := l.map fun x => at4 x.s.pay j
def colT (l : List ShA) (j k : Nat) : List V4 := (List.range l.length).map fun i => if i < k then (colV l j)[i]?.getD V4.zero else V4.zero
theorem colV_length (l : List ShA) (j : Nat) : (colV l j).length = l.length := by simp [colV]
theorem colT_length (l : List ShA) (j k : Nat) : (colT l j k).length = l.length := by simp [colT]
theorem colT_zero (l : List ShA) (j : Nat) : colT l j 0 = List.replicate l.length V4.zero := by
 apply List.ext_getElem
 ·simp [colT]
 ·intro i h1 h2
  simp [colT]
theorem colT_set (l : List ShA) (j k : Nat) (hk : k < l.length) : colT l j (k + 1) = (colT l j k).set k (at4 l[k].s.pay j) := by
 apply List.ext_getElem
 ·simp [colT]
 ·intro i h1 h2
  rw [List.getElem_set]
  simp only [colT, List.getElem_map, List.getElem_range]
  by_cases hi : k = i
  ·subst hi
   rw [if_pos (Nat.lt_succ_self _), if_pos rfl, List.getElem?_eq_getElem (by rw [colV_length]; exact hk), Option.getD_some]
   simp [colV]
  ·rw [if_neg hi]
   by_cases hle : i < k
   ·rw [if_pos hle, if_pos (by omega)]
   ·rw [if_neg hle, if_neg (by omega)]
theorem colT_all (l : List ShA) (j : Nat) : colT l j l.length = colV l j := by
 apply List.ext_getElem
 ·simp [colT, colV]
 ·intro i h1 h2
  rw [colT_length] at h1
  simp only [colT, List.getElem_map, List.getElem_range]
  rw [if_pos h1, List.getElem?_eq_getElem h2, Option.getD_some]
structure CoI (w : World) (l : List ShA) (j i : Nat) (W : World) : Prop where
 O : IsEs W w.heap.size (colT l j i)
 B : Below w.heap.size w W
theorem CoI.below {w W W' : World} {l : List ShA} {j i : Nat} (h : CoI w l j i W) (hb : Below W.heap.size W W') : CoI w l j i W' := ⟨h.O.below hb, h.B.trans (hb.mono h.B.size)⟩
theorem CoI.put {w W : World} {l : List ShA} {j i : Nat} (h : CoI w l j i W) (hi : i < l.length) : CoI w l j (i + 1) (putAgg W w.heap.size (i * 4) (at4 l[i].s.pay j).arr) :=
 ⟨by rw [colT_set l j i hi]; exact h.O.put i (by rw [colT_length]; exact hi) _, putAgg_below h.B (Nat.le_refl _)⟩
set_option maxRecDepth 100000 in
set_option maxHeartbeats 4000000 in
theorem column (R : Option Addr) (cap : Nat) (l : List ShA) (j : Nat) (hj : ∀ x ∈ l, j < x.s.pay.length) (hj2 : ∀ x ∈ l, x.s.pay.length ≤ 1048576) (hn : l.length ≤ 1048576) (w : World) (hS : SeesS w R l) :
  Calls Tryz.prog 86 #[.slice R l.length cap, .int .i64 j] w fun e w' => ∃ g, e = .returned (.slice (some ⟨g, 0, none⟩) l.length l.length) ∧ w.heap.size ≤ g ∧ IsEs w' g (colV l j) ∧ Below w.heap.size w w' := by
 have hmk := makeE l.length (by omega)
 have H0 := Lib.hid (show CoI w l j 0 (w.alloc (.cells (eVals (List.replicate l.length V4.zero)).toArray 50)) from ⟨by rw [colT_zero]; exact IsEsT.new _ _ _ rfl, (by repeat (first | with_reducible assumption | with_reducible exact Below.refl _ _ | (with_reducible refine putAgg_below ?_ (by first | omega | (simp; done) | (simp; omega))) | (with_reducible refine Below.alloc ?_ (by first | omega | (simp; done) | (simp; omega)) _) | (with_reducible refine Below.setCell ?_ (by first | omega | (simp; done) | (simp; omega)) _) | (with_reducible refine Below.drew ?_) | (with_reducible refine Below.trans ?_ (Below.mono (by with_reducible assumption) (by first | omega | (simp; done) | (simp; omega))))))⟩)
 have HS := Lib.hid hS
 have HJ := Lib.hid (And.intro hj hj2)
 clear hS hj hj2
 go_enter Tryz.func86, Tryz.ntmps86
 go_wp2
 clear hmk
 go_loopw [13] (fun iv W => ∃ i : Nat, i ≤ l.length ∧ iv = .int .i64 i ∧ CoI w l j i W) (fun iv _ => l.length - (intOf iv).toNat)
 case atStart => exact ⟨0, by omega, rfl, H0.out⟩
 case round =>
  clear H0
  obtain ⟨i, hi, rfl, hI⟩ := hrel
  have HI := Lib.hid hI
  by_cases hlt : i < l.length
  ·have hlt' : (i : Int) < (l.length : Int) := by omega
   have hSw := HS.out.below hI.B
   obtain ⟨b, o, rfl, hb, c0, c1, c2, c3, c4⟩ := hSw.1.share i hlt
   have hm := List.getElem_mem hlt
   have hSx := hSw.2 _ hm
   have hjx := HJ.out.1 _ hm
   have hjx2 := HJ.out.2 _ hm
   have HR := Lib.hid (fun W (h : CoI w l j i W) => h.put hlt)
   generalize l[i] = x at *
   clear hI hSw hm
   have hjx' : (j : Int) < (x.s.pay.length : Int) := by omega
   have hwj : IntKind.i64.wrap ((x.s.pay.length : Int) - 1) = (x.s.pay.length : Int) - 1 := by rw [IntKind.wrap_i64]; omega
   have hdec : decide (0 ≤ (j : Int) ∧ (j : Int) ≤ (x.s.pay.length : Int) - 1) = true := decide_eq_true ⟨by omega, by omega⟩
   obtain ⟨bp, op, hA, hbp⟩ := hSx.addr (by rw [eVals_length]; omega)
   rw [hA] at hSx c4
   have hld := hSx.ld' j hjx
   clear HJ
   go_wp2_with fail
   (obtain ⟨W0, hW0⟩ : ∃ W0 : World, W0 = (wr).alloc (.cells #[.int .i64 x.s.field, .int .i64 x.s.thr, .int .i64 x.s.idx, .int .i64 x.s.len, .slice (some ⟨bp, op, none⟩) x.s.pay.length x.cap] 26) := ⟨_, rfl⟩); (have gW0 : ∀ (j : Nat) (o : Obj), ([Obj.cells #[.int .i64 x.s.field, .int .i64 x.s.thr, .int .i64 x.s.idx, .int .i64 x.s.len, .slice (some ⟨bp, op, none⟩) x.s.pay.length x.cap] 26] : List Obj)[j]? = some o → W0.heap[wr.heap.size + j]? = some o := by rw [hW0]; exact allocs_get wr _); (have zW0 : W0.heap.size = wr.heap.size + 1 := by rw [hW0]; exact allocs_size wr [Obj.cells #[.int .i64 x.s.field, .int .i64 x.s.thr, .int .i64 x.s.idx, .int .i64 x.s.len, .slice (some ⟨bp, op, none⟩) x.s.pay.length x.cap] 26]); (have bW0 : Below wr.heap.size wr W0 := by rw [hW0]; exact allocs_below wr [Obj.cells #[.int .i64 x.s.field, .int .i64 x.s.thr, .int .i64 x.s.idx, .int .i64 x.s.len, .slice (some ⟨bp, op, none⟩) x.s.pay.length x.cap] 26]); (rw [← hW0]); (clear hW0)
   have hB0 : W0.heap[wr.heap.size]? = some _ := gW0 0 _ rfl
   have d4 : W0.cell? ⟨wr.heap.size, 4, none⟩ = some (.slice (some ⟨bp, op, none⟩) x.s.pay.length x.cap) := by unfold World.cell?; simp only [hB0]; rfl
   have hld0 := hld W0 bW0
   have HI0 := Lib.hid (HI.out.below bW0)
   have pO := HI0.out.O.agg i (by rw [colT_length]; exact hlt)
   have HR0 := Lib.hid (HR.out W0 HI0.out)
   generalize at4 x.s.pay j = y at *
   clear gW0 hld hB0 HI HR c0 c1 c2 c3 c4 bW0
   refine (betweenI _ _ _ _).mono ?_
   rintro e w1 ⟨rfl, rfl⟩
   rw [hdec]
   go_wp2
   go_roundw
   case rel => exact ⟨i + 1, by omega, by go_num, HR0.out⟩
   case measure => (first | (simp [intOf]; done) | (simp [intOf]; omega))
  ·obtain rfl : i = l.length := by omega
   clear hI
   go_wp2
   go_ret
   exact ⟨_, rfl, Nat.le_refl _, by have := HI.out.O; rwa [colT_all] at this, HI.out.B⟩
end Go.Proofs.YtccgfladbibjbaaGreatDoor
namespace Go.Proofs.YtccgfladbibjbaaGreatDoor
open Go.RowKit
attribute [local go_sem ↓] add_UU sub_UU mul_UU add_UL add_LU sub_UL sub_LU mul_UL neg_at not_at and_UU or_UU xor_UU andNot_UU and_UL or_LU shr_UL shl_UL shr_UN shl_UN shl_LN quo_UL rem_UL quo_UU rem_UU
attribute [local go_sem] wrap64_N wrapi_mod wrap8_U wrap32_U wrap64_B wrap32_B wrap8_D wrapi_B wrap64_UU eq_UU ne_UU eq_UL ne_UL lt_UU le_UU
attribute [local simp] putAgg_size
attribute [local go_sem ↓] loadVar_F loadVar_E loadVar_V loadVar_B32 storeVar_F storeVar_E storeVar_V storeVar_B32 box_F box_E box_V box_B32
attribute [local go_sem ↓ high] V4.cells_val FP.cells_val
attribute [local go_sem] run_loadF run_loadE run_loadV run_loadB32 run_storeF run_storeE run_storeV run_storeB32 run_boxA aggAt_drew aggAt_drewN aggAt_alloc_new aggAt_alloc_past aggAt_setCell_other aggAt_putAgg_other aggAt_putAgg_new putAgg_drew putAgg_size putAgg_alloc_new putAgg_alloc_past putAgg_cell_other putAgg_frozen_other V4.agg_arr FP.agg_arr V4.size_arr FP.size_arr V4.fits FP.fits fitsA_agg4 lt_2 ne_2 en_2 lt_3 ne_3 en_3 lt_4 ne_4 en_4 lt_5 ne_5 en_5 lt_6 ne_6 en_6
def dotT (f : FP) (a b : List V4) : Nat → V4
 | 0 => V4.zero
 | k + 1 => madd f (dotT f a b k) (mmul f (at4 a k) (at4 b k))
def DotI (f : FP) (w : World) (s : V4) (W : World) : Prop := W.heap[w.heap.size]? = some (.cells f.arr 67 (0, 0)) ∧ W.heap[w.heap.size + 1]? = some (.cells V4.zero.arr 50 (0, 0)) ∧ W.heap[w.heap.size + 1 + 1]? = some (.cells s.arr 50 (0, 0)) ∧ Below w.heap.size w W
theorem DotI.below {f : FP} {w W W' : World} {s : V4} (h : DotI f w s W) (hb : Below W.heap.size W W') : DotI f w s W' := by
 obtain ⟨h1, h2, h3, h4⟩ := h
 have hs : ∀ j o, W.heap[j]? = some o → W'.heap[j]? = some o := fun j o h => (hb.block j (Array.getElem?_eq_some_iff.1 h).1).trans h
 exact ⟨hs _ _ h1, hs _ _ h2, hs _ _ h3, h4.trans (hb.mono h4.size)⟩
theorem DotI.put {f : FP} {w W : World} {s : V4} (h : DotI f w s W) (v : V4) : DotI f w v (putAgg W (w.heap.size + 1 + 1) 0 v.arr) := by
 obtain ⟨h1, h2, h3, h4⟩ := h
 exact ⟨(putAgg_block _ _ _ _ _ (by omega)).trans h1, (putAgg_block _ _ _ _ _ (by omega)).trans h2, vec_put h3 rfl, putAgg_below h4 (by omega)⟩
set_option maxRecDepth 100000 in
set_option maxHeartbeats 4000000 in
theorem lagDot (f : FP) (A B : Option Addr) (ca cb : Nat) (a b : List V4) (hab : a.length = b.length) (hn : a.length ≤ 1073741824) (w : World) (hA : Sees w A (eVals a)) (hB : Sees w B (eVals b)) :
  Calls Tryz.prog 57 #[.pointer none, f.val, .slice A a.length ca, .slice B b.length cb] w fun e w' => e = .returned (.tuple #[(dotT f a b a.length).val, .int .i64 0]) ∧ Below w.heap.size w w' := by
 rw [← hab]
 obtain ⟨n, hnn⟩ : ∃ n, n = a.length := ⟨_, rfl⟩
 rw [← hnn] at hn ⊢
 have HN := Lib.hid (And.intro hnn (hnn.trans hab))
 have HS := Lib.hid (And.intro hA hB)
 have hq : ((n : Int) != (n : Int)) = false := by simp
 clear hA hB hab hnn
 go_enter Tryz.func57, Tryz.ntmps57
 go_wp2
 (obtain ⟨W0, hW0⟩ : ∃ W0 : World, W0 = (((w).alloc (.cells f.arr 67)).alloc (.cells #[.int .u64 0, .int .u64 0, .int .u64 0, .int .u64 0] 50)).alloc (.cells #[.int .u64 0, .int .u64 0, .int .u64 0, .int .u64 0] 50) := ⟨_, rfl⟩); (have gW0 : ∀ (j : Nat) (o : Obj), ([Obj.cells f.arr 67, Obj.cells #[.int .u64 0, .int .u64 0, .int .u64 0, .int .u64 0] 50, Obj.cells #[.int .u64 0, .int .u64 0, .int .u64 0, .int .u64 0] 50] : List Obj)[j]? = some o → W0.heap[w.heap.size + j]? = some o := by rw [hW0]; exact allocs_get w _); (have zW0 : W0.heap.size = w.heap.size + 3 := by rw [hW0]; exact allocs_size w [Obj.cells f.arr 67, Obj.cells #[.int .u64 0, .int .u64 0, .int .u64 0, .int .u64 0] 50, Obj.cells #[.int .u64 0, .int .u64 0, .int .u64 0, .int .u64 0] 50]); (have bW0 : Below w.heap.size w W0 := by rw [hW0]; exact allocs_below w [Obj.cells f.arr 67, Obj.cells #[.int .u64 0, .int .u64 0, .int .u64 0, .int .u64 0] 50, Obj.cells #[.int .u64 0, .int .u64 0, .int .u64 0, .int .u64 0] 50]); (rw [← hW0]); (clear hW0)
 have H0 := Lib.hid (show DotI f w (dotT f a b 0) W0 from ⟨gW0 0 _ rfl, gW0 1 _ rfl, gW0 2 _ rfl, bW0⟩)
 clear gW0 bW0 zW0
 go_loopw [11, 20] (fun _ iv W => ∃ i : Nat, i ≤ n ∧ iv = .int .i64 i ∧ DotI f w (dotT f a b i) W) (fun _ iv _ => n - (intOf iv).toNat)
 case atStart => exact ⟨0, by omega, rfl, H0.out⟩
 case round =>
  clear H0
  obtain ⟨i, hi, rfl, hI⟩ := hrel
  have HI := Lib.hid hI
  by_cases hlt : i < n
  ·have hlt' : (i : Int) < (n : Int) := by omega
   obtain ⟨ba, oa, rfl, hba⟩ := HS.out.1.addr (by rw [eVals_length, ← HN.out.1]; omega)
   obtain ⟨bb, ob, rfl, hbb⟩ := HS.out.2.addr (by rw [eVals_length, ← HN.out.2]; omega)
   have hAf := (HS.out.1.below hI.2.2.2).ld' i (by rw [← HN.out.1]; exact hlt)
   have hBf := (HS.out.2.below hI.2.2.2).ld' i (by rw [← HN.out.2]; exact hlt)
   have pF := aggF_of_block hI.1
   have pS := agg_of_block hI.2.2.1
   have HE := Lib.hid (show dotT f a b (i + 1) = madd f (dotT f a b i) (mmul f (at4 a i) (at4 b i)) from rfl)
   generalize dotT f a b i = s at *
   generalize at4 a i = x at *
   generalize at4 b i = y at *
   clear hI
   go_wp2_with fail
   refine (noteNil _ _ _ _).mono ?_
   rintro e wr ⟨rfl, rfl⟩
   go_wp2
   ((refine region_held (h := 13) (by kernel_rfl) (by kernel_rfl) (fun W' => (Below wr.heap.size wr W' ∧ aggAt W' 14 (w.heap.size) (0) = some (f.val) ∧ aggAt W' 4 (w.heap.size + 1 + 1) (0) = some (s.val))) ⟨(Below.refl _ wr).drew, pF, pS⟩ ?_); (have hSB : ∀ W' W'' : World, (Below wr.heap.size wr W' ∧ aggAt W' 14 (w.heap.size) (0) = some (f.val) ∧ aggAt W' 4 (w.heap.size + 1 + 1) (0) = some (s.val)) → Below W'.heap.size W' W'' → (Below wr.heap.size wr W'' ∧ aggAt W'' 14 (w.heap.size) (0) = some (f.val) ∧ aggAt W'' 4 (w.heap.size + 1 + 1) (0) = some (s.val)) := fun W' W'' ⟨h0, h1, h2⟩ hb => ⟨h0.trans (hb.mono h0.size), agg_keep h1 hb, agg_keep h2 hb⟩); (clear pF pS); (((try simp only [List.take_succ_cons, List.take_zero, List.drop_succ_cons, List.drop_zero]); repeat (apply chain_op; (focus (intro W' hS' K hK; (try simp only [Act.put, List.setIfInBounds_toArray, List.set_cons_zero, List.set_cons_succ] at hK); (have hS'' := hS'); (obtain ⟨s0, s1, s2⟩ := hS''); (have e_0 := hAf W' s0); (have e_1 := hBf W' s0); go_simp; (first | exact hK _ hS' | (with_reducible refine Calls.mono (montMul f x y _) ?_; rintro e W'' ⟨rfl, hb''⟩; exact hK _ (hSB _ _ hS' hb'')) | (with_reducible refine Calls.mono (montAdd f s _ _) ?_; rintro e W'' ⟨rfl, hb''⟩; exact hK _ (hSB _ _ hS' hb''))); done)); (try simp only [Act.put, List.setIfInBounds_toArray, List.set_cons_zero, List.set_cons_succ])); unfold chain)); (rintro W' ⟨s0, s1, s2⟩); (have e_0 := hAf W' s0); (have e_1 := hBf W' s0); (clear hSB))
   have HR := Lib.hid ((HI.out.below s0).put (madd f s (mmul f x y)))
   clear s0
   go_wp2
   go_roundw
   case rel => exact ⟨i + 1, by omega, by go_num, by rw [HE.out]; exact HR.out⟩
   case measure => (first | (simp [intOf]; done) | (simp [intOf]; omega))
  ·obtain rfl : i = n := by omega
   have pS := agg_of_block hI.2.2.1
   have pZ := agg_of_block hI.2.1
   have hb : Below w.heap.size w wr := hI.2.2.2
   obtain ⟨s, hs⟩ : ∃ s, s = dotT f a b i := ⟨_, rfl⟩
   rw [← hs] at pS
   have HE := Lib.hid (And.intro hs HN.out.1)
   clear hI HI hs HN
   go_wp2_with ((with_reducible show bodyPost _ _ _ _ _ _); exact end_ct Tryz.results57 rfl (atE (v := s.val) (by go_simp)) rfl ⟨by have h1 := HE.out.1; rw [h1]; rfl, (by repeat (first | with_reducible assumption | with_reducible exact Below.refl _ _ | (with_reducible refine putAgg_below ?_ (by first | omega | (simp; done) | (simp; omega))) | (with_reducible refine Below.alloc ?_ (by first | omega | (simp; done) | (simp; omega)) _) | (with_reducible refine Below.setCell ?_ (by first | omega | (simp; done) | (simp; omega)) _) | (with_reducible refine Below.drew ?_) | (with_reducible refine Below.trans ?_ (Below.mono (by with_reducible assumption) (by first | omega | (simp; done) | (simp; omega))))))⟩)
end Go.Proofs.YtccgfladbibjbaaGreatDoor
namespace Go.Proofs.YtccgfladbibjbaaGreatDoor
open Go.RowKit
attribute [local go_sem ↓] add_UU sub_UU mul_UU add_UL add_LU sub_UL sub_LU mul_UL neg_at not_at and_UU or_UU xor_UU andNot_UU and_UL or_LU shr_UL shl_UL shr_UN shl_UN shl_LN quo_UL rem_UL quo_UU rem_UU
attribute [local go_sem] wrap64_N wrapi_mod wrap8_U wrap32_U wrap64_B wrap32_B wrap8_D wrapi_B wrap64_UU eq_UU ne_UU eq_UL ne_UL lt_UU le_UU
attribute [local simp] putAgg_size
attribute [local go_sem ↓] loadVar_F loadVar_E loadVar_V loadVar_B32 storeVar_F storeVar_E storeVar_V storeVar_B32 box_F box_E box_V box_B32
attribute [local go_sem ↓ high] V4.cells_val FP.cells_val
attribute [local go_sem] run_loadF run_loadE run_loadV run_loadB32 run_storeF run_storeE run_storeV run_storeB32 run_boxA aggAt_drew aggAt_drewN aggAt_alloc_new aggAt_alloc_past aggAt_setCell_other aggAt_putAgg_other aggAt_putAgg_new putAgg_drew putAgg_size putAgg_alloc_new putAgg_alloc_past putAgg_cell_other putAgg_frozen_other V4.agg_arr FP.agg_arr V4.size_arr FP.size_arr V4.fits FP.fits fitsA_agg4 lt_2 ne_2 en_2 lt_3 ne_3 en_3 lt_4 ne_4 en_4 lt_5 ne_5 en_5 lt_6 ne_6 en_6
set_option maxRecDepth 20000 in
set_option maxHeartbeats 1000000 in
theorem values1 (f : FP) (bT bF bZ : Nat) (Z C : Option Addr) (zc cc : Nat) (zl cl : List V4) (hlen : zl.length = cl.length) (hn : zl.length ≤ 1073741824) (w : World)
  (hT : w.heap[bT]? = some (.cells #[.pointer none] 82 (0, 0))) (hF : w.heap[bF]? = some (.cells f.arr 67 (0, 0))) (hZ : w.heap[bZ]? = some (.cells #[.slice Z zl.length zc] 24 (0, 0))) (hz : Sees w Z (eVals zl)) (hc : Sees w C (eVals cl)) :
  Calls Tryz.prog 56 #[.slice C cl.length cc, .pointer (some ⟨bT, 0, none⟩), .pointer (some ⟨bF, 0, none⟩), .pointer (some ⟨bZ, 0, none⟩)] w fun e w' => e = .returned (.tuple #[(dotT f zl cl zl.length).val, .int .i64 0]) ∧ Below w.heap.size w w' := by
 have HD := Lib.hid (fun W (hW : Below w.heap.size w W) => lagDot f Z C zc cc zl cl hlen hn W (hz.below hW) (hc.below hW))
 have HH := Lib.hid (And.intro hT (And.intro hF hZ))
 clear hz hc hT hF hZ hlen
 obtain ⟨y, hy⟩ : ∃ y, dotT f zl cl zl.length = y := ⟨_, rfl⟩
 rw [hy] at HD ⊢
 clear hy
 generalize zl.length = n at *
 generalize cl.length = m at *
 go_enter Tryz.func56, Tryz.ntmps56
 obtain ⟨hT, hF, hZ⟩ := HH.out
 have bT' := (Array.getElem?_eq_some_iff.1 hT).1
 have bF' := (Array.getElem?_eq_some_iff.1 hF).1
 have bZ' := (Array.getElem?_eq_some_iff.1 hZ).1
 obtain ⟨W0, hW0⟩ : ∃ W0, W0 = w.alloc (.cells #[.int .u64 0, .int .u64 0, .int .u64 0, .int .u64 0] 50) := ⟨_, rfl⟩
 have bW0 : Below w.heap.size w W0 := by rw [hW0]; exact (Below.refl _ w).alloc (Nat.le_refl _) _
 have gW0 : W0.heap[w.heap.size]? = some (.cells V4.zero.arr 50 (0, 0)) := by rw [hW0]; exact heap_alloc_new w _
 have pT := cell_of_block (blk_below hT bW0 rfl)
 have pF := aggF_of_block (blk_below hF bW0 rfl)
 have pZ := cell_of_block (blk_below hZ bW0 rfl)
 have HW := Lib.hid (And.intro bW0 gW0)
 clear hT hF hZ bW0 gW0 HH
 rw [hW0] at pT pF pZ
 go_wp2_with fail
 rw [← hW0]
 refine (HD.out W0 HW.out.1).mono ?_
 rintro e w1 ⟨rfl, hb1⟩
 have hz0 : w.heap.size < W0.heap.size := (Array.getElem?_eq_some_iff.1 HW.out.2).1
 have h1 := blk_below HW.out.2 hb1 rfl
 have p1 := agg_of_block h1
 have HB := Lib.hid (HW.out.1.trans (hb1.mono HW.out.1.size))
 clear HD hb1 h1 pT pF pZ hW0
 go_wp2_with ((with_reducible show bodyPost _ _ _ _ _ _); exact end_ct Tryz.results56 rfl (atE (v := y.val) (by go_simp)) rfl ⟨rfl, putAgg_below HB.out (Nat.le_refl _)⟩)
def valAt (f : FP) (zl : List V4) (l : List ShA) (k : Nat) : V4 := dotT f zl (colV l k) zl.length
def valsV (f : FP) (zl : List V4) (l : List ShA) (m : Nat) : List V4 := (List.range m).map (valAt f zl l)
theorem valsV_length (f : FP) (zl : List V4) (l : List ShA) (m : Nat) : (valsV f zl l m).length = m := by simp [valsV]
theorem valsV_succ (f : FP) (zl : List V4) (l : List ShA) (m : Nat) : valsV f zl l (m + 1) = valsV f zl l m ++ [valAt f zl l m] := by simp [valsV, List.range_succ]
structure EaI (w : World) (vs : List V4) (v : Value) (W : World) : Prop where
 O : OwnE W w.heap.size v vs
 B : Below w.heap.size w W
theorem EaI.below {w W W' : World} {vs : List V4} {v : Value} (h : EaI w vs v W) (hb : Below W.heap.size W W') : EaI w vs v W' := ⟨h.O.below hb, h.B.trans (hb.mono h.B.size)⟩
set_option maxRecDepth 20000 in
set_option maxHeartbeats 4000000 in
theorem each (f : FP) (bT bF bZ : Nat) (Z R : Option Addr) (zc cap : Nat) (zl : List V4) (l : List ShA) (m : Nat) (hl0 : 0 < l.length) (hlen : zl.length = l.length) (hm : ∀ x ∈ l, x.s.pay.length = m) (hm2 : m ≤ 1048576) (hn : l.length ≤ 1048576) (w : World)
  (hT : w.heap[bT]? = some (.cells #[.pointer none] 82 (0, 0))) (hF : w.heap[bF]? = some (.cells f.arr 67 (0, 0))) (hZ : w.heap[bZ]? = some (.cells #[.slice Z zl.length zc] 24 (0, 0))) (hz : Sees w Z (eVals zl)) (hS : SeesS w R l) :
  Calls Tryz.prog 55 #[.pointer none, .slice R l.length cap, .func (.func 56) #[] #[.pointer (some ⟨bT, 0, none⟩), .pointer (some ⟨bF, 0, none⟩), .pointer (some ⟨bZ, 0, none⟩)]] w fun e w' => ∃ v, e = .returned (.tuple #[v, .int .i64 0]) ∧ OwnE w' w.heap.size v (valsV f zl l m) ∧ Below w.heap.size w w' := by
 obtain ⟨e0, he0, ea0, ea1, ea2⟩ := info_parts info_E
 have HV := Lib.hid (fun W (hW : Below w.heap.size w W) (C : Option Addr) (cc k : Nat) (hc : Sees W C (eVals (colV l k))) => values1 f bT bF bZ Z C zc cc zl (colV l k) (by rw [colV_length]; exact hlen) (by omega) W (blk_below hT hW rfl) (blk_below hF hW rfl) (blk_below hZ hW rfl) (hz.below hW) hc)
 have HC := Lib.hid (fun W (hW : Below w.heap.size w W) (k : Nat) (hk : k < m) => column R cap l k (fun x hx => by rw [hm x hx]; exact hk) (fun x hx => by rw [hm x hx]; exact hm2) hn W (hS.below hW))
 obtain ⟨b, o, hR, hb, c0, c1, c2, c3, c4⟩ := hS.1.share 0 hl0
 rw [hm _ (List.getElem_mem hl0)] at c4
 have c4' : w.cell? ⟨b, o + 4, none⟩ = some (.slice l[0].A m l[0].cap) := by simpa using c4
 have hl0' : (0 : Int) < (l.length : Int) := by omega
 generalize l[0].A = A0 at *
 generalize l[0].cap = cap0 at *
 subst hR
 clear hz hT hF hZ hS hm c0 c1 c2 c3 c4
 go_enter Tryz.func55, Tryz.ntmps55
 go_wp2
 go_loopw [8, 17] (fun v iv W => ∃ i : Nat, i ≤ m ∧ iv = .int .i64 i ∧ EaI w (valsV f zl l i) v W) (fun _ iv _ => m - (intOf iv).toNat)
 case atStart => exact ⟨0, by omega, rfl, ownE_nil _ _, Below.refl _ w⟩
 case round =>
  clear c4'
  obtain ⟨i, hi, rfl, hI⟩ := hrel
  have HI := Lib.hid hI
  by_cases hlt : i < m
  ·have hlt' : (i : Int) < (m : Int) := by omega
   have HQ := Lib.hid (valsV_succ f zl l i)
   obtain ⟨y, hy⟩ : ∃ y, valAt f zl l i = y := ⟨_, rfl⟩
   rw [hy] at HQ
   have HY := Lib.hid (show dotT f zl (colV l i) zl.length = y from hy)
   clear hI hy
   go_wp2_with fail
   refine (noteNil _ _ _ _).mono ?_
   rintro e wr ⟨rfl, rfl⟩
   go_wp2_with fail
   refine (HC.out wr HI.out.B i hlt).mono ?_
   rintro e w1 ⟨g, rfl, hg, hE, hb1⟩
   have HI1 := Lib.hid (HI.out.below hb1)
   have hV := HV.out w1 HI1.out.B (some ⟨g, 0, none⟩) l.length i hE.sees
   rw [HY.out, colV_length] at hV
   have HV1 := Lib.hid hV
   clear hE hb1 hV HI hg
   go_wp2_with fail
   refine HV1.out.mono ?_
   rintro e w2 ⟨rfl, hb2⟩
   have HI2 := Lib.hid (HI1.out.below hb2)
   clear hb2 HV1 HI1
   obtain ⟨w3, hw3⟩ : ∃ w3, w3 = (w2.alloc (.cells y.arr 50)).alloc (.cells (eVals [y]).toArray 50) := ⟨_, rfl⟩
   have hb3 : Below w2.heap.size w2 w3 := by rw [hw3]; exact ((Below.refl _ w2).alloc (Nat.le_refl _) _).alloc (by simp) _
   have hS3 : Sees w3 (some ⟨w2.heap.size + 1, 0, none⟩) (eVals [y]) := by rw [hw3]; exact (IsEsT.new (t := 50) (w2.alloc (.cells y.arr 50)) [y] _ (by simp)).sees
   have HI3 := Lib.hid (And.intro (HI2.out.below hb3) hS3)
   clear hb3 hS3 HI2
   have hz3 : w.heap.size ≤ w3.heap.size := HI3.out.1.B.size
   go_wp2_with (at_builtin; rw [fold1]; rw [← hw3]; refine wpList_append_sees rfl (.tmp 34) (.tmp 36) 24 rfl w.heap.size 50 e0 _ 4 32 Tryz.underlying24 he0 ea0 ea1 ea2 rfl (by decide) u8 i (eVals (valsV f zl l i)) rfl ?c1 (some ⟨w2.heap.size + 1, 0, none⟩) 1 1 (eVals [y]) rfl (by rw [eVals_length]; rfl) HI3.out.2 (eVals_one _) (by unfold maxLen; omega) (by omega) hz3 ?_)
   case c1 =>
    have := HI3.out.1.O
    unfold OwnE at this
    rwa [valsV_length] at this
   intro v' w4 hown hg _
   rw [← hw3] at hg
   have HR := Lib.hid (show EaI w (valsV f zl l (i + 1)) v' w4 from ⟨by rw [HQ.out]; exact OwnE.grew (valsV_length f zl l i) hown, HI3.out.1.B.grown hg hz3 (fun k e => (HI3.out.1.O.lt k e).1)⟩)
   clear hown hg HI3 hw3
   go_wp2
   go_roundw
   case rel => exact ⟨i + 1, by omega, by go_num, HR.out⟩
   case measure => (first | (simp [intOf]; done) | (simp [intOf]; omega))
  ·obtain rfl : i = m := by omega
   go_wp2
   go_ret2
   exact ⟨u8, rfl, hI.O, hI.B⟩
end Go.Proofs.YtccgfladbibjbaaGreatDoor
namespace Go.Proofs.YtccgfladbibjbaaGreatDoor
open Go.RowKit Go.Shelf
attribute [local go_sem ↓] add_UU sub_UU mul_UU add_UL add_LU sub_UL sub_LU mul_UL neg_at not_at and_UU or_UU xor_UU andNot_UU and_UL or_LU shr_UL shl_UL shr_UN shl_UN shl_LN quo_UL rem_UL quo_UU rem_UU
attribute [local go_sem] wrap64_N wrapi_mod wrap8_U wrap32_U wrap64_B wrap32_B wrap8_D wrapi_B wrap64_UU eq_UU ne_UU eq_UL ne_UL lt_UU le_UU
attribute [local simp] putAgg_size
attribute [local go_sem ↓] loadVar_F loadVar_E loadVar_V loadVar_B32 storeVar_F storeVar_E storeVar_V storeVar_B32 box_F box_E box_V box_B32
attribute [local go_sem ↓ high] V4.cells_val FP.cells_val
attribute [local go_sem] run_loadF run_loadE run_loadV run_loadB32 run_storeF run_storeE run_storeV run_storeB32 run_boxA aggAt_drew aggAt_drewN aggAt_alloc_new aggAt_alloc_past aggAt_setCell_other aggAt_putAgg_other aggAt_putAgg_new putAgg_drew putAgg_size putAgg_alloc_new putAgg_alloc_past putAgg_cell_other putAgg_frozen_other V4.agg_arr FP.agg_arr V4.size_arr FP.size_arr V4.fits FP.fits fitsA_agg4 lt_2 ne_2 en_2 lt_3 ne_3 en_3 lt_4 ne_4 en_4 lt_5 ne_5 en_5 lt_6 ne_6 en_6
def ShA.pv (x : ShA) : Value := .slice x.A x.s.pay.length x.cap
structure OwnS (w : World) (base : Nat) (v : Value) (l : List ShA) : Prop where
 R : w.ownsRow base 26 5 v l.length (shVals l)
 P : ∀ x ∈ l, OwnE w base x.pv x.s.pay
theorem ownS_nil (w : World) (base : Nat) : OwnS w base (.slice none 0 0) [] := ⟨World.ownsRow_nil w base _ _, by simp⟩
theorem OwnS.lt {w : World} {base : Nat} {v : Value} {l : List ShA} (h : OwnS w base v l) (k : Nat) (hk : v.ownBlock = some k) : base ≤ k ∧ k < w.heap.size := World.ownsRow.lt h.R k hk
theorem OwnS.cells {w : World} {base : Nat} {v : Value} {l : List ShA} (h : OwnS w base v l) (k : Nat) (hk : v.ownBlock = some k) : ∃ cur, w.heap[k]? = some (.cells cur 26 (0, 0)) := by
 rcases h.R.2 with ⟨rfl, _⟩ | ⟨g, cap, cur, rfl, hb, hg, _⟩
 ·simp [Value.ownBlock] at hk
 ·simp [Value.ownBlock] at hk
  subst hk
  exact ⟨cur, hg⟩
theorem OwnS.kept {w w' : World} {base : Nat} {v : Value} {l : List ShA} {row : Option Nat} (h : OwnS w base v l) (hg : w.grownBy w' row) (hne : ∀ r, row = some r → r < base) : OwnS w' base v l := by
 refine ⟨World.ownsRow.kept h.R hg ?_, fun x hx => (h.P x hx).kept hg ?_⟩
 ·cases hv : v.ownBlock with
  | none => exact .inl rfl
  | some k => exact .inr fun e => by have := hne k e.symm; have := (h.lt k hv).1; omega
 ·cases hv : x.pv.ownBlock with
  | none => exact .inl rfl
  | some k => exact .inr fun e => by have := hne k e.symm; have := ((h.P x hx).lt k hv).1; omega
theorem OwnS.below {w w' : World} {base : Nat} {v : Value} {l : List ShA} (h : OwnS w base v l) (hb : Below w.heap.size w w') : OwnS w' base v l :=
 h.kept (row := none) ⟨hb.os, hb.tape, hb.output, hb.size, fun k hk _ => hb.block k hk⟩ (by simp)
theorem OwnS.own {w w' : World} {base : Nat} {v : Value} {l : List ShA} {row : Option Nat} (h : OwnS w base v l) (hg : w.grownBy w' row) (hr : ∀ r, row = some r → ∃ o : Obj, w.heap[r]? = some o ∧ o.isCells = false) : OwnS w' base v l := by
 refine ⟨World.ownsRow.kept h.R hg ?_, fun x hx => (h.P x hx).own hg hr⟩
 cases hv : v.ownBlock with
 | none => exact .inl rfl
 | some k =>
  refine .inr fun e => ?_
  obtain ⟨o, ho, hc⟩ := hr k e.symm
  obtain ⟨cur, hcur⟩ := h.cells k hv
  rw [ho] at hcur
  injection hcur with hcur
  subst hcur
  cases hc
theorem OwnS.base_le {w : World} {base base' : Nat} {v : Value} {l : List ShA} (h : OwnS w base v l) (hb : base' ≤ base) : OwnS w base' v l := by
 refine ⟨⟨h.R.1, ?_⟩, fun x hx => (h.P x hx).base_le hb⟩
 rcases h.R.2 with h | ⟨g, cap, cur, h1, h2, h3⟩
 ·exact .inl h
 ·exact .inr ⟨g, cap, cur, h1, by omega, h3⟩
theorem OwnS.grew {w w' : World} {base : Nat} {v v' : Value} {l : List ShA} {x : ShA} (h : OwnS w base v l) (hx : OwnE w base x.pv x.s.pay) (hg : w.grownBy w' v.ownBlock) (ho : w'.ownsRow base 26 5 v' (l.length + 1) (shVals l ++ x.cells.toList)) : OwnS w' base v' (l ++ [x]) := by
 have hkeep : ∀ y : ShA, OwnE w base y.pv y.s.pay → OwnE w' base y.pv y.s.pay := fun y hy => by
  refine hy.kept hg ?_
  cases hv : y.pv.ownBlock with
  | none => exact .inl rfl
  | some k =>
   refine .inr fun e => ?_
   obtain ⟨cur, hc⟩ := hy.cells k hv
   obtain ⟨cur', hc'⟩ := h.cells k e.symm
   rw [hc] at hc'
   injection hc' with hc'
   injection hc' with _ hc'
   cases hc'
 refine ⟨?_, fun y hy => ?_⟩
 ·have e : shVals (l ++ [x]) = shVals l ++ x.cells.toList := by rw [shVals_append, shVals, shVals, List.append_nil]
  rw [e, List.length_append]
  exact ho
 ·rw [List.mem_append] at hy
  rcases hy with hy | hy
  ·exact hkeep y (h.P y hy)
  ·simp at hy
   subst hy
   exact hkeep y hx
theorem OwnS.open {w : World} {base : Nat} {v : Value} {l : List ShA} (h : OwnS w base v l) : ∃ A cap, v = .slice A l.length cap ∧ l.length ≤ cap ∧ SeesS w A l := by
 rcases h.R.2 with ⟨rfl, h0⟩ | ⟨g, cap, cur, rfl, hb, hg, hc, hm, hs, ht⟩
 ·have hl : l = [] := List.eq_nil_of_length_eq_zero h0
  subst hl
  exact ⟨none, 0, rfl, Nat.le_refl _, ⟨fun hx => by simp [shVals] at hx, by simp⟩⟩
 ·refine ⟨some ⟨g, 0, none⟩, cap, rfl, hc, ⟨fun hx => ⟨g, 0, rfl, fun j hj => ?_⟩, fun x hx => ?_⟩⟩
  ·unfold World.cell?
   rw [Nat.zero_add]
   simp only [hg]
   rw [shVals_length] at hj
   rw [← ht, List.getElem?_take, if_pos hj, Array.getElem?_toList]
   rfl
  ·obtain ⟨A, c, e, _, hse, _⟩ := (h.P x hx).open
   injection e with e1 e2 e3
   rw [e1]
   exact hse
theorem info_S : (Tryz.prog.info? 26).map (fun i => (i.zero, i.size, i.bytes)) = some (some (.agg #[.int .i64 0, .int .i64 0, .int .i64 0, .int .i64 0, .slice none 0 0]), 5, 56) := by kernel_rfl
end Go.Proofs.YtccgfladbibjbaaGreatDoor
