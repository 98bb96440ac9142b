/- power.Batch. -/
import Derived.Test.YtccgfladbibjbaaGreatDoorKG22
namespace Go.Proofs.YtccgfladbibjbaaGreatDoor
open Go.RowKit Go.Shelf
attribute [local go_sem ↓] add_UU sub_UU mul_UU add_UL add_LU sub_UL sub_LU mul_UL neg_at not_at and_UU or_UU xor_UU andNot_UU and_UL or_LU shr_UL shl_UL shr_UN shl_UN shl_LN quo_UL rem_UL quo_UU rem_UU
attribute [local go_sem] wrap64_N wrapi_mod wrap8_U wrap32_U wrap64_B wrap32_B wrap8_D wrapi_B wrap64_UU eq_UU ne_UU eq_UL ne_UL lt_UU le_UU
attribute [local simp] putAgg_size
attribute [local go_sem ↓] loadVar_F loadVar_E loadVar_V loadVar_B32 storeVar_F storeVar_E storeVar_V storeVar_B32 box_F box_E box_V box_B32
attribute [local go_sem ↓ high] V4.cells_val FP.cells_val
attribute [local go_sem] run_loadF run_loadE run_loadV run_loadB32 run_storeF run_storeE run_storeV run_storeB32 run_boxA aggAt_drew aggAt_drewN aggAt_alloc_new aggAt_alloc_past aggAt_setCell_other aggAt_putAgg_other aggAt_putAgg_new putAgg_drew putAgg_size putAgg_alloc_new putAgg_alloc_past putAgg_cell_other putAgg_frozen_other V4.agg_arr FP.agg_arr V4.size_arr FP.size_arr V4.fits FP.fits fitsA_agg4 lt_2 ne_2 en_2 lt_3 ne_3 en_3 lt_4 ne_4 en_4 lt_5 ne_5 en_5 lt_6 ne_6 en_6
attribute [local go_sem] Oper.semAt_some
def zMask (x : V4) : BitVec 64 := maskW (decide (x = V4.zero))
theorem isZeroE (a : V4) (w : World) : Calls Tryz.prog 136 #[a.val] w fun e w' => e = .returned (.int .u64 (U (zMask a))) ∧ Below w.heap.size w w' := montIsZero a w
theorem chooseZ (m : BitVec 64) (b : V4) (w : World) : Calls Tryz.prog 135 #[.int .u64 (U m), .agg #[.int .u64 0, .int .u64 0, .int .u64 0, .int .u64 0], b.val] w fun e w' => e = .returned (selV m V4.zero b).val ∧ Below w.heap.size w w' := chooseE m V4.zero b w
def at4 (l : List V4) (j : Nat) : V4 := l[j]?.getD V4.zero
theorem at4_eq (l : List V4) (j : Nat) (h : j < l.length) : l[j] = at4 l j := by unfold at4; rw [List.getElem?_eq_getElem h, Option.getD_some]
def prodT (f : FP) (l : List V4) : Nat → V4
 | 0 => f.one
 | k + 1 => mmul f (prodT f l k) (selV (zMask (at4 l k)) f.one (at4 l k))
def outA (f : FP) (l : List V4) (k : Nat) : List V4 := (List.range l.length).map fun j => if j < k then prodT f l j else V4.zero
theorem outA_length (f : FP) (l : List V4) (k : Nat) : (outA f l k).length = l.length := by simp [outA]
theorem outA_zero (f : FP) (l : List V4) : outA f l 0 = List.replicate l.length V4.zero := by
 apply List.ext_getElem
 ·simp [outA]
 ·intro i h1 h2
  simp [outA]
theorem outA_set (f : FP) (l : List V4) (k : Nat) : outA f l (k + 1) = (outA f l k).set k (prodT f l k) := by
 apply List.ext_getElem
 ·simp [outA]
 ·intro i h1 h2
  rw [List.getElem_set]
  simp only [outA, List.getElem_map, List.getElem_range]
  by_cases hi : k = i
  ·subst hi; rw [if_pos (Nat.lt_succ_self _), if_pos rfl]
  ·rw [if_neg hi]
   by_cases hle : i < k
   ·rw [if_pos hle, if_pos (by omega)]
   ·rw [if_neg hle, if_neg (by omega)]
def batV (f : FP) (l : List V4) : Nat → V4
 | 0 => invV f (prodT f l l.length)
 | k + 1 => mmul f (batV f l k) (selV (zMask (at4 l (l.length - 1 - k))) f.one (at4 l (l.length - 1 - k)))
def batE (f : FP) (l : List V4) (j : Nat) : V4 := selV (zMask (at4 l j)) V4.zero (mmul f (prodT f l j) (batV f l (l.length - 1 - j)))
def batO (f : FP) (l : List V4) (k : Nat) : List V4 := (List.range l.length).map fun j => if l.length - 1 - j < k then batE f l j else prodT f l j
theorem batO_length (f : FP) (l : List V4) (k : Nat) : (batO f l k).length = l.length := by simp [batO]
theorem batO_zero (f : FP) (l : List V4) : batO f l 0 = outA f l l.length := by
 apply List.ext_getElem
 ·simp [batO, outA]
 ·intro i h1 h2
  rw [batO_length] at h1
  simp only [batO, outA, List.getElem_map, List.getElem_range]
  rw [if_neg (by omega), if_pos h1]
theorem batO_get (f : FP) (l : List V4) (k j : Nat) (h : k + j + 1 = l.length) : at4 (batO f l k) j = prodT f l j := by
 rw [← at4_eq _ _ (by rw [batO_length]; omega)]
 simp only [batO, List.getElem_map, List.getElem_range]
 rw [if_neg (by omega)]
theorem batO_set (f : FP) (l : List V4) (k j : Nat) (h : k + j + 1 = l.length) : batO f l (k + 1) = (batO f l k).set j (batE f l j) := by
 apply List.ext_getElem
 ·simp [batO]
 ·intro i h1 h2
  rw [batO_length] at h1
  rw [List.getElem_set]
  simp only [batO, List.getElem_map, List.getElem_range]
  by_cases hi : j = i
  ·subst hi; rw [if_pos (by omega), if_pos rfl]
  ·rw [if_neg hi]
   by_cases hle : l.length - 1 - i < k
   ·rw [if_pos hle, if_pos (by omega)]
   ·rw [if_neg hle, if_neg (by omega)]
def batch (f : FP) (l : List V4) : List V4 := (List.range l.length).map (batE f l)
theorem batO_all (f : FP) (l : List V4) : batO f l l.length = batch f l := by
 apply List.ext_getElem
 ·simp [batO, batch]
 ·intro i h1 h2
  rw [batO_length] at h1
  simp only [batO, batch, List.getElem_map, List.getElem_range]
  rw [if_pos (by omega)]
def BatI1 (f : FP) (l : List V4) (w : World) (k : Nat) (W : World) : Prop :=
 W.heap[w.heap.size]? = some (.cells f.arr 67 (0, 0)) ∧ IsEs W (w.heap.size + 1) (outA f l k) ∧ W.heap[w.heap.size + 1 + 1]? = some (.cells #[.slice (some ⟨w.heap.size + 1, 0, none⟩) l.length l.length] 24 (0, 0)) ∧
 W.heap[w.heap.size + 1 + 1 + 1]? = some (.cells (prodT f l k).arr 50 (0, 0)) ∧ Below w.heap.size w W ∧ w.heap.size + 7 ≤ W.heap.size
theorem BatI1.own (f : FP) (l : List V4) (w : World) (B : Nat) (hB : w.heap.size + 4 ≤ B) : OwnFrom B (BatI1 f l w) := by
 intro k A A' row hs hg hr
 have hr' : ∀ r, row = some r → B ≤ r := fun r e => (hr r e).1
 have hb : ∀ j o, j < w.heap.size + 4 → A.heap[j]? = some o → A'.heap[j]? = some o := fun j o hj h => (hg.block j (Array.getElem?_eq_some_iff.1 h).1 (fun e => by have := hr' j e.symm; omega)).trans h
 obtain ⟨h1, h2, h3, h4, h5, h6⟩ := hs
 exact ⟨hb _ _ (by omega) h1, hb _ _ (by omega) h2, hb _ _ (by omega) h3, hb _ _ (by omega) h4, h5.grown hg h5.size (fun j e => by have := hr' j e; omega), Nat.le_trans h6 hg.size⟩
theorem BatI1.below {f : FP} {l : List V4} {w W W' : World} {k : Nat} (h : BatI1 f l w k W) (hb : Below W.heap.size W W') : BatI1 f l w k W' := by
 obtain ⟨h1, h2, h3, h4, h5, h6⟩ := h
 have hs : ∀ j o, W.heap[j]? = some o → W'.heap[j]? = some o := fun j o h => (hb.block j (Array.getElem?_eq_some_iff.1 h).1).trans h
 exact ⟨hs _ _ h1, h2.below hb, hs _ _ h3, hs _ _ h4, h5.trans (hb.mono h5.size), Nat.le_trans h6 hb.size⟩
theorem BatI1.next {f : FP} {l : List V4} {w W W' : World} {k : Nat} {p v : V4} (h : BatI1 f l w k W) (hk : k < l.length) (hp : prodT f l k = p) (hv : prodT f l (k + 1) = v) (hb : Below W.heap.size (putAgg W (w.heap.size + 1) (k * 4) p.arr) W') :
  BatI1 f l w (k + 1) (putAgg W' (w.heap.size + 1 + 1 + 1) 0 v.arr) := by
 obtain ⟨h1, h2, h3, h4, h5, h6⟩ := h
 have ho : ∀ j, j ≠ w.heap.size + 1 → (putAgg W (w.heap.size + 1) (k * 4) p.arr).heap[j]? = W.heap[j]? := fun j hj => putAgg_block W _ _ _ j hj
 have hb' : ∀ j o, (putAgg W (w.heap.size + 1) (k * 4) p.arr).heap[j]? = some o → W'.heap[j]? = some o := fun j o h => (hb.block j (by have := (Array.getElem?_eq_some_iff.1 h).1; rwa [putAgg_size] at this)).trans h
 have ho2 : ∀ j, j ≠ w.heap.size + 1 + 1 + 1 → (putAgg W' (w.heap.size + 1 + 1 + 1) 0 v.arr).heap[j]? = W'.heap[j]? := fun j hj => putAgg_block W' _ _ _ j hj
 refine ⟨(ho2 _ (by omega)).trans (hb' _ _ ((ho _ (by omega)).trans h1)), ?_, (ho2 _ (by omega)).trans (hb' _ _ ((ho _ (by omega)).trans h3)), ?_, putAgg_below ((putAgg_below h5 (by omega)).trans (hb.mono h5.size)) (by omega), by rw [putAgg_size]; have := hb.size; rw [putAgg_size] at this; omega⟩
 ·rw [outA_set, hp]
  exact (ho2 _ (by omega)).trans (hb' _ _ (h2.put k (by rw [outA_length]; exact hk) p))
 ·rw [hv]
  exact vec_put (hb' _ _ ((ho _ (by omega)).trans h4)) rfl
def BatI2 (f : FP) (l : List V4) (w : World) (D c : Nat) (k : Nat) (W : World) : Prop :=
 W.heap[w.heap.size]? = some (.cells f.arr 67 (0, 0)) ∧ IsEs W (w.heap.size + 1) (batO f l k) ∧ W.heap[w.heap.size + 1 + 1]? = some (.cells #[.slice (some ⟨w.heap.size + 1, 0, none⟩) l.length l.length] 24 (0, 0)) ∧
 W.heap[c]? = some (.cells (batV f l k).arr 50 (0, 0)) ∧ W.heap[D]? = some (.deferred (some [])) ∧ Below w.heap.size w W ∧ c + 4 ≤ W.heap.size
theorem BatI2.own (f : FP) (l : List V4) (w : World) (D c B : Nat) (hD : w.heap.size + 2 < D) (hc : D < c) (hB : c + 1 ≤ B) : OwnFrom B (BatI2 f l w D c) := by
 intro k A A' row hs hg hr
 have hr' : ∀ r, row = some r → B ≤ r := fun r e => (hr r e).1
 have hb : ∀ j o, j < c + 1 → A.heap[j]? = some o → A'.heap[j]? = some o := fun j o hj h => (hg.block j (Array.getElem?_eq_some_iff.1 h).1 (fun e => by have := hr' j e.symm; omega)).trans h
 obtain ⟨h1, h2, h3, h4, h5, h6, h7⟩ := hs
 exact ⟨hb _ _ (by omega) h1, hb _ _ (by omega) h2, hb _ _ (by omega) h3, hb _ _ (by omega) h4, hb _ _ (by omega) h5, h6.grown hg h6.size (fun j e => by have := hr' j e; omega), Nat.le_trans h7 hg.size⟩
theorem BatI2.below {f : FP} {l : List V4} {w W W' : World} {D c k : Nat} (h : BatI2 f l w D c k W) (hb : Below W.heap.size W W') : BatI2 f l w D c k W' := by
 obtain ⟨h1, h2, h3, h4, h5, h6, h7⟩ := h
 have hs : ∀ j o, W.heap[j]? = some o → W'.heap[j]? = some o := fun j o h => (hb.block j (Array.getElem?_eq_some_iff.1 h).1).trans h
 exact ⟨hs _ _ h1, h2.below hb, hs _ _ h3, hs _ _ h4, hs _ _ h5, h6.trans (hb.mono h6.size), Nat.le_trans h7 hb.size⟩
theorem BatI2.next {f : FP} {l : List V4} {w W W' : World} {D c k j : Nat} {u v : V4} (h : BatI2 f l w D c k W) (hk : k + j + 1 = l.length) (hD : w.heap.size + 2 < D) (hc : D < c) (hu : batE f l j = u) (hv : batV f l (k + 1) = v) (hb : Below W.heap.size (putAgg W (w.heap.size + 1) (j * 4) u.arr) W') :
  BatI2 f l w D c (k + 1) (putAgg W' c 0 v.arr) := by
 obtain ⟨h1, h2, h3, h4, h5, h6, h7⟩ := h
 have ho : ∀ i, i ≠ w.heap.size + 1 → (putAgg W (w.heap.size + 1) (j * 4) u.arr).heap[i]? = W.heap[i]? := fun i hi => putAgg_block W _ _ _ i hi
 have hb' : ∀ i o, (putAgg W (w.heap.size + 1) (j * 4) u.arr).heap[i]? = some o → W'.heap[i]? = some o := fun i o h => (hb.block i (by have := (Array.getElem?_eq_some_iff.1 h).1; rwa [putAgg_size] at this)).trans h
 have ho2 : ∀ i, i ≠ c → (putAgg W' c 0 v.arr).heap[i]? = W'.heap[i]? := fun i hi => putAgg_block W' _ _ _ i hi
 refine ⟨(ho2 _ (by omega)).trans (hb' _ _ ((ho _ (by omega)).trans h1)), ?_, (ho2 _ (by omega)).trans (hb' _ _ ((ho _ (by omega)).trans h3)), ?_, (ho2 _ (by omega)).trans (hb' _ _ ((ho _ (by omega)).trans h5)), putAgg_below ((putAgg_below h6 (by omega)).trans (hb.mono h6.size)) (by omega), by rw [putAgg_size]; have := hb.size; rw [putAgg_size] at this; omega⟩
 ·rw [batO_set f l k j hk, hu]
  exact (ho2 _ (by omega)).trans (hb' _ _ (h2.put j (by rw [batO_length]; omega) u))
 ·rw [hv]
  exact vec_put (hb' _ _ ((ho _ (by omega)).trans h4)) rfl
set_option maxRecDepth 100000 in
set_option maxHeartbeats 8000000 in
theorem batchWalk (f : FP) (A : Option Addr) (cap : Nat) (l : List V4) (hl0 : 0 < l.length) (hlen : l.length ≤ 1073741824) (w : World) (hS : Sees w A (eVals l)) :
  Calls Tryz.prog 113 #[.pointer none, f.val, .slice A l.length cap] w fun e w' => ∃ b, e = .returned (.slice (some ⟨b, 0, none⟩) l.length l.length) ∧ w.heap.size ≤ b ∧ IsEs w' b (batch f l) ∧ Below w.heap.size w w' := by
 refine (callsIn_wide (n := 8)).1 ?_
 refine callsIn_of_wp_marks Tryz.func113 rfl trivial ?_ rfl
 simp only [Tryz.ntmps113, List.size_toArray, List.length_cons, List.length_nil, Nat.reduceAdd, Nat.reduceSub, Array.replicate_succ, Array.replicate_zero, List.push_toArray, List.append_toArray, List.nil_append, List.cons_append]
 have hmk := makeE l.length (by omega)
 have hne : ¬ (l.length : Int) = 0 := by omega
 have hne' : ¬ l.length = 0 := by omega
 have q1 : aggAt (w.alloc (.cells f.arr 67)) 4 w.heap.size 6 = some f.one.val := (IsF.parts (IsF.newAt w f _ rfl)).2.2.1
 gi_wp2
 refine ⟨trivial, (callsIn_wide.2 (all_ _ _ _ _)).mono ?_⟩
 rintro e w1 ⟨rfl, rfl⟩
 gi_wp2
 refine ⟨trivial, (callsIn_wide.2 (powerVisit _ _ _)).mono ?_⟩
 rintro e w2 ⟨rfl, rfl⟩
 gi_wp2
 (obtain ⟨W0, hW0⟩ : ∃ W0 : World, W0 = (((((((w).alloc (.cells f.arr 67)).alloc (.cells (eVals (List.replicate l.length V4.zero)).toArray 50)).alloc (.cells #[.slice (some ⟨w.heap.size + 1, 0, none⟩) l.length l.length] 24)).alloc (.cells f.one.arr 50)).alloc (.cells #[.slice A l.length cap] 24)).alloc (.cells #[.pointer none] 82)).alloc (.cells #[.func (.func 144) #[] #[.pointer (some ⟨w.heap.size + 1 + 1 + 1 + 1, 0, none⟩)]] 175) := ⟨_, rfl⟩); (have gW0 : ∀ (j : Nat) (o : Obj), ([Obj.cells f.arr 67, Obj.cells (eVals (List.replicate l.length V4.zero)).toArray 50, Obj.cells #[.slice (some ⟨w.heap.size + 1, 0, none⟩) l.length l.length] 24, Obj.cells f.one.arr 50, Obj.cells #[.slice A l.length cap] 24, Obj.cells #[.pointer none] 82, Obj.cells #[.func (.func 144) #[] #[.pointer (some ⟨w.heap.size + 1 + 1 + 1 + 1, 0, none⟩)]] 175] : List Obj)[j]? = some o → W0.heap[w.heap.size + j]? = some o := by rw [hW0]; exact allocs_get w _); (have zW0 : W0.heap.size = w.heap.size + 7 := by rw [hW0]; exact allocs_size w [Obj.cells f.arr 67, Obj.cells (eVals (List.replicate l.length V4.zero)).toArray 50, Obj.cells #[.slice (some ⟨w.heap.size + 1, 0, none⟩) l.length l.length] 24, Obj.cells f.one.arr 50, Obj.cells #[.slice A l.length cap] 24, Obj.cells #[.pointer none] 82, Obj.cells #[.func (.func 144) #[] #[.pointer (some ⟨w.heap.size + 1 + 1 + 1 + 1, 0, none⟩)]] 175]); (have bW0 : Below w.heap.size w W0 := by rw [hW0]; exact allocs_below w [Obj.cells f.arr 67, Obj.cells (eVals (List.replicate l.length V4.zero)).toArray 50, Obj.cells #[.slice (some ⟨w.heap.size + 1, 0, none⟩) l.length l.length] 24, Obj.cells f.one.arr 50, Obj.cells #[.slice A l.length cap] 24, Obj.cells #[.pointer none] 82, Obj.cells #[.func (.func 144) #[] #[.pointer (some ⟨w.heap.size + 1 + 1 + 1 + 1, 0, none⟩)]] 175]); (rw [← hW0]); (clear hW0)
 have hSz : Sees W0 A (eVals l) := hS.below bW0
 have hI0 : BatI1 f l w 0 W0 := ⟨gW0 0 _ rfl, by rw [outA_zero]; exact gW0 1 _ rfl, gW0 2 _ rfl, gW0 3 _ rfl, bW0, by omega⟩
 have hG : Gives 7 143 #[.pointer (some ⟨w.heap.size + 1 + 1 + 1 + 1 + 1 + 1, 0, none⟩), .pointer (some ⟨w.heap.size + 1 + 1 + 1 + 1 + 1, 0, none⟩)] (fun k => k = w.heap.size + 5 ∨ k < w.heap.size) true (encP (fwd l)) W0 :=
  powerVisit1 7 (by decide) 144 _ (enters_of Tryz.func144 (by kernel_rfl) rfl) (fwd l) _ _ W0 (cell_of_block (gW0 6 _ rfl)) (cell_of_block (gW0 5 _ rfl)) _ (.inl rfl) (fun k hk => by omega)
   (all1 6 A cap l (by omega) _ W0 (cell_of_block (gW0 4 _ rfl)) hSz _ (fun b o e h => .inr (by subst e; exact hS.lt (by rw [eVals_length]; omega))) false)
 clear gW0 hmk hSz q1
 refine rangeAll (n := 8) (ps := #[27, 28]) (s := true) (encs := encP (fwd l)) (by decide) rfl (enters_of Tryz.func143 (by kernel_rfl) rfl) hG (Below.refl _ _) (fun k hk => by omega) (fun k x hx => by obtain ⟨q, _, rfl⟩ := encP_get hx; rfl)
  (BatI1 f l w) (BatI1.own f l w _ (by omega)) hI0
  (fun k a' W => ∃ q Bx, (fwd l)[k]? = some q ∧ W0.heap.size ≤ Bx ∧ W.heap[Bx]? = some (.cells q.2.arr 50 (0, 0)) ∧ a' = { tmps := #[.pointer none, f.val, .slice A l.length cap, undef, .pointer (some ⟨w.heap.size, 0, none⟩), undef, .slice none 0 0, .pointer (some ⟨w.heap.size + 1 + 1, 0, none⟩), .pointer (some ⟨w.heap.size + 1 + 1 + 1, 0, none⟩), .int .i64 q.1, .pointer (some ⟨Bx, 0, none⟩), undef, undef, undef, undef, .slice A l.length cap, .int .i64 l.length, .bool false, .slice A l.length cap, .int .i64 l.length, .slice (some ⟨w.heap.size + 1, 0, none⟩) l.length l.length, .pointer (some ⟨w.heap.size, 6, none⟩), f.one.val, .pointer none, .slice A l.length cap, .func (.func 144) #[] #[.pointer (some ⟨w.heap.size + 1 + 1 + 1 + 1, 0, none⟩)], .func (.func 143) #[] #[.pointer (some ⟨w.heap.size + 1 + 1 + 1 + 1 + 1 + 1, 0, none⟩), .pointer (some ⟨w.heap.size + 1 + 1 + 1 + 1 + 1, 0, none⟩)], .int .i64 q.1, q.2.val, undef, undef, undef, undef, undef, undef, undef, undef, undef, undef, undef, undef, undef, undef, undef, undef, undef, undef, undef, undef, undef, undef, undef, undef, undef, undef, undef, undef, undef, undef, undef, undef, undef, undef, undef, undef, undef, undef, undef, undef, undef, undef, undef, undef, undef, undef, undef], defers := [] } ∧ BatI1 f l w k W)
  (fun a' k X Y row hs hg hr => by
   obtain ⟨q, Bx, h1, h0, h2, h3, h4⟩ := hs
   exact ⟨q, Bx, h1, h0, own_cells (β := Unit) _ Bx _ 50 () X Y row h2 hg hr, h3, BatI1.own f l w _ (by omega) k X Y row h4 hg hr⟩) ?assign ?body ?done
 case assign =>
  intro lo k v W hx hI
  obtain ⟨q, hq, rfl⟩ := encP_get hx
  gi_wp2
  exact ⟨(KeepsOthers.alloc _ _).from _, Keeps.alloc _ _ _ _ _, q, W.heap.size, hq, by have := hI.2.2.2.2.2; omega, heap_alloc_new _ _, rfl, hI.below ((Below.refl _ W).alloc (Nat.le_refl _) _)⟩
 case body =>
  rintro lo k v a' W hx ⟨q, Bx, hq, hlo, hBx, rfl, hI⟩
  have hk : k < l.length := by
   have := (List.getElem?_eq_some_iff.1 hq).1
   rwa [fwd_length] at this
  rw [fwd_get l k hk, at4_eq] at hq
  injection hq with hq
  subst hq
  have HR := Lib.hid (show prodT f l (k + 1) = mmul f (prodT f l k) (selV (zMask (at4 l k)) f.one (at4 l k)) from rfl)
  have HI := Lib.hid hI
  have hk' : (k : Int) < (l.length : Int) := by omega
  have pF := aggF_of_block hI.1
  have pO := hI.2.1.get k (by rw [outA_length]; exact hk)
  have pC := cell_of_block hI.2.2.1
  have pP := agg_of_block hI.2.2.2.1
  have pX := agg_of_block hBx
  have hz1 : w.heap.size + 1 ≠ Bx := by omega
  have hz2 : Bx ≠ w.heap.size + 1 := by omega
  have HBx := Lib.hid (And.intro hlo (Array.getElem?_eq_some_iff.1 hBx).1)
  simp only [] at pX ⊢
  generalize at4 l k = x at *
  obtain ⟨p, hp⟩ : ∃ p, p = prodT f l k := ⟨_, rfl⟩
  rw [← hp] at pP HR
  have HP := Lib.hid hp
  generalize (outA f l k)[k]?.getD V4.zero = o at *
  clear hI hBx hG hp hlo
  gi_wp2
  obtain ⟨W1, hW1⟩ : ∃ W1, W1 = putAgg W (w.heap.size + 1) (k * 4) p.arr := ⟨_, rfl⟩
  have hkp : ∀ n b o v, b ≠ w.heap.size + 1 → aggAt W n b o = some v → aggAt W1 n b o = some v := fun n b o v hb h => by rw [hW1, aggAt_putAgg_other _ _ _ _ _ _ _ hb]; exact h
  have pF := hkp 14 w.heap.size 0 _ (by omega) pF
  have pN := hkp 4 w.heap.size 6 _ (by omega) (IsF.parts (w := W) (b := w.heap.size) HI.out.1).2.2.1
  have pP := hkp 4 (w.heap.size + 1 + 1 + 1) 0 _ (by omega) pP
  have pX := hkp 4 Bx 0 _ hz2 pX
  rw [← hW1]
  have HW1 := Lib.hid hW1
  clear hW1 hkp pO pC
  ((refine region_held_in (h := 9) (by kernel_rfl) (by kernel_rfl) (fun W' => (Below W1.heap.size W1 W' ∧ aggAt W' 14 (w.heap.size) (0) = some (f.val) ∧ aggAt W' 4 (w.heap.size) (6) = some (f.one.val) ∧ aggAt W' 4 (w.heap.size + 1 + 1 + 1) (0) = some (p.val) ∧ aggAt W' 4 (Bx) (0) = some (x.val))) ⟨(Below.refl _ W1).drew, pF, pN, pP, pX⟩ ?_); (have hSB : ∀ W' W'' : World, (Below W1.heap.size W1 W' ∧ aggAt W' 14 (w.heap.size) (0) = some (f.val) ∧ aggAt W' 4 (w.heap.size) (6) = some (f.one.val) ∧ aggAt W' 4 (w.heap.size + 1 + 1 + 1) (0) = some (p.val) ∧ aggAt W' 4 (Bx) (0) = some (x.val)) → Below W'.heap.size W' W'' → (Below W1.heap.size W1 W'' ∧ aggAt W'' 14 (w.heap.size) (0) = some (f.val) ∧ aggAt W'' 4 (w.heap.size) (6) = some (f.one.val) ∧ aggAt W'' 4 (w.heap.size + 1 + 1 + 1) (0) = some (p.val) ∧ aggAt W'' 4 (Bx) (0) = some (x.val)) := fun W' W'' ⟨h0, h1, h2, h3, h4⟩ hb => ⟨h0.trans (hb.mono h0.size), agg_keep h1 hb, agg_keep h2 hb, agg_keep h3 hb, agg_keep h4 hb⟩); (clear pF pN pP pX); (((try simp only [List.take_succ_cons, List.take_zero, List.drop_succ_cons, List.drop_zero]); repeat (apply chain_op; (focus (intro W' hS' K hK; (try simp only [Act.put, List.setIfInBounds_toArray, List.set_cons_zero, List.set_cons_succ] at hK); (have hS'' := hS'); (obtain ⟨s0, s1, s2, s3, s4⟩ := hS''); go_simp; (first | exact hK _ hS' | (with_reducible refine Calls.mono (isZeroE x _) ?_; rintro e W'' ⟨rfl, hb''⟩; exact hK _ (hSB _ _ hS' hb'')) | (with_reducible refine Calls.mono (chooseE _ _ x _) ?_; rintro e W'' ⟨rfl, hb''⟩; exact hK _ (hSB _ _ hS' hb'')) | (with_reducible refine Calls.mono (montMul f p _ _) ?_; rintro e W'' ⟨rfl, hb''⟩; exact hK _ (hSB _ _ hS' hb''))); done)); (try simp only [Act.put, List.setIfInBounds_toArray, List.set_cons_zero, List.set_cons_succ])); unfold chain)); (rintro W' ⟨s0, s1, s2, s3, s4⟩); (clear hSB))
  have HB := Lib.hid s0
  clear s0
  gi_wp2
  have hb1 := HB.out
  rw [HW1.out] at hb1
  have k1 : Keeps (fun k => k = w.heap.size + 5 ∨ k < w.heap.size) true W0.heap.size W (putAgg W (w.heap.size + 1) (k * 4) p.arr) := Keeps.putAgg W _ _ _ (by omega) (by omega)
  have k2 : Keeps (fun k => k = w.heap.size + 5 ∨ k < w.heap.size) true W0.heap.size W' (putAgg W' (w.heap.size + 1 + 1 + 1) 0 (mmul f p (selV (zMask x) f.one x)).arr) := Keeps.putAgg W' _ _ _ (by omega) (by omega)
  have hK := (k1.trans (Keeps.of_below hb1)).trans k2
  exact ⟨hK.both.1, hK.both.2, HI.out.next hk HP.out.symm HR.out (by rw [putAgg_size] at hb1; exact hb1)⟩
 case done =>
  intro D W hD hI hK
  rw [encP_length, fwd_length] at hI
  have HI := Lib.hid hI
  have HK := Lib.hid hK
  have pF := aggF_of_block hI.1
  have pP := agg_of_block hI.2.2.2.1
  obtain ⟨p, hp⟩ : ∃ p, p = prodT f l l.length := ⟨_, rfl⟩
  rw [← hp] at pP
  have HP := Lib.hid hp
  clear hI hK hp
  gi_wp2
  refine ⟨trivial, (callsIn_wide.2 (inverse f p _)).mono ?_⟩
  rintro e w1 ⟨rfl, hb1⟩
  obtain ⟨v0, hv0⟩ : ∃ v, v = invV f p := ⟨_, rfl⟩
  rw [← hv0]
  have HV0 := Lib.hid (show batV f l 0 = v0 from by rw [hv0, HP.out]; rfl)
  have hDz : D < W.heap.size := (Array.getElem?_eq_some_iff.1 HK.out).1
  have hcz : W.heap.size ≤ w1.heap.size := hb1.size
  have HI1 := Lib.hid (HI.out.below hb1)
  have HK1 := Lib.hid ((hb1.block D hDz).trans HK.out)
  clear pF pP hb1 HI HK hv0 HP
  gi_wp2
  refine ⟨trivial, (callsIn_wide.2 (backward _ _ _ _)).mono ?_⟩
  rintro e w2 ⟨rfl, rfl⟩
  gi_wp2
  refine ⟨trivial, (callsIn_wide.2 (powerVisit _ _ _)).mono ?_⟩
  rintro e w2 ⟨rfl, rfl⟩
  gi_wp2
  (obtain ⟨V0, hV0⟩ : ∃ W0 : World, W0 = ((((w1).alloc (.cells v0.arr 50)).alloc (.cells #[.slice A l.length cap] 24)).alloc (.cells #[.pointer none] 82)).alloc (.cells #[.func (.func 132) #[] #[.pointer (some ⟨w1.heap.size + 1, 0, none⟩)]] 175) := ⟨_, rfl⟩); (have gV0 : ∀ (j : Nat) (o : Obj), ([Obj.cells v0.arr 50, Obj.cells #[.slice A l.length cap] 24, Obj.cells #[.pointer none] 82, Obj.cells #[.func (.func 132) #[] #[.pointer (some ⟨w1.heap.size + 1, 0, none⟩)]] 175] : List Obj)[j]? = some o → V0.heap[w1.heap.size + j]? = some o := by rw [hV0]; exact allocs_get w1 _); (have zV0 : V0.heap.size = w1.heap.size + 4 := by rw [hV0]; exact allocs_size w1 [Obj.cells v0.arr 50, Obj.cells #[.slice A l.length cap] 24, Obj.cells #[.pointer none] 82, Obj.cells #[.func (.func 132) #[] #[.pointer (some ⟨w1.heap.size + 1, 0, none⟩)]] 175]); (have bV0 : Below w1.heap.size w1 V0 := by rw [hV0]; exact allocs_below w1 [Obj.cells v0.arr 50, Obj.cells #[.slice A l.length cap] 24, Obj.cells #[.pointer none] 82, Obj.cells #[.func (.func 132) #[] #[.pointer (some ⟨w1.heap.size + 1, 0, none⟩)]] 175]); (rw [← hV0]); (clear hV0)
  have hI2 : BatI2 f l w D w1.heap.size 0 V0 := ⟨(bV0.block _ (by have := HI1.out.2.2.2.2.2; omega)).trans HI1.out.1, by rw [batO_zero]; exact (bV0.block _ (by have := HI1.out.2.2.2.2.2; omega)).trans HI1.out.2.1, (bV0.block _ (by have := HI1.out.2.2.2.2.2; omega)).trans HI1.out.2.2.1, by rw [HV0.out]; exact gV0 0 _ rfl, (bV0.block _ (by omega)).trans HK1.out, HI1.out.2.2.2.2.1.trans (bV0.mono (by have := HI1.out.2.2.2.2.2; omega)), by omega⟩
  have hwc : w.heap.size + 7 ≤ w1.heap.size := HI1.out.2.2.2.2.2
  have hSz : Sees V0 A (eVals l) := (hS.below HI1.out.2.2.2.2.1).below bV0
  have hG : Gives 7 143 #[.pointer (some ⟨w1.heap.size + 1 + 1 + 1, 0, none⟩), .pointer (some ⟨w1.heap.size + 1 + 1, 0, none⟩)] (fun k => k = w1.heap.size + 1 ∨ k = w1.heap.size + 2 ∨ k < w.heap.size) true (encP (bwd l)) V0 :=
   powerVisit1 7 (by decide) 132 _ (enters_of Tryz.func132 (by kernel_rfl) rfl) (bwd l) _ _ V0 (cell_of_block (gV0 3 _ rfl)) (cell_of_block (gV0 2 _ rfl)) _ (.inr (.inl rfl)) (fun k hk => by omega)
    (backward1 6 A cap l (by omega) _ V0 (cell_of_block (gV0 1 _ rfl)) hSz _ (.inl rfl) (fun b o e h => .inr (.inr (by subst e; exact hS.lt (by rw [eVals_length]; omega)))) false)
  clear gV0 bV0 HI1 HK1 hSz
  have hDc : D < w1.heap.size := by omega
  generalize w1.heap.size = c at *
  have hDN : w.heap.size + 2 < D := by omega
  refine rangeAll (n := 8) (ps := #[50, 51]) (s := true) (encs := encP (bwd l)) (by decide) rfl (enters_of Tryz.func143 (by kernel_rfl) rfl) hG (Below.refl _ _) (fun k hk => by omega) (fun k x hx => by obtain ⟨q, _, rfl⟩ := encP_get hx; rfl)
   (BatI2 f l w D c) (BatI2.own f l w D c _ hDN hDc (by omega)) hI2
   (fun k a' W => ∃ q Bx, (bwd l)[k]? = some q ∧ V0.heap.size ≤ Bx ∧ W.heap[Bx]? = some (.cells q.2.arr 50 (0, 0)) ∧ a' = { tmps := #[.pointer none, f.val, .slice A l.length cap, undef, .pointer (some ⟨w.heap.size, 0, none⟩), undef, .slice none 0 0, .pointer (some ⟨w.heap.size + 1 + 1, 0, none⟩), .pointer (some ⟨w.heap.size + 1 + 1 + 1, 0, none⟩), undef, undef, .pointer (some ⟨c, 0, none⟩), .int .i64 q.1, .pointer (some ⟨Bx, 0, none⟩), undef, .slice A l.length cap, .int .i64 l.length, .bool false, .slice A l.length cap, .int .i64 l.length, .slice (some ⟨w.heap.size + 1, 0, none⟩) l.length l.length, .pointer (some ⟨w.heap.size, 6, none⟩), f.one.val, .pointer none, .slice A l.length cap, .func (.func 144) #[] #[.pointer (some ⟨w.heap.size + 1 + 1 + 1 + 1, 0, none⟩)], .func (.func 143) #[] #[.pointer (some ⟨w.heap.size + 1 + 1 + 1 + 1 + 1 + 1, 0, none⟩), .pointer (some ⟨w.heap.size + 1 + 1 + 1 + 1 + 1, 0, none⟩)], undef, undef, undef, undef, undef, undef, undef, undef, undef, undef, undef, undef, undef, undef, undef, .pointer none, f.val, p.val, v0.val, .pointer none, .slice A l.length cap, .func (.func 132) #[] #[.pointer (some ⟨c + 1, 0, none⟩)], .func (.func 143) #[] #[.pointer (some ⟨c + 1 + 1 + 1, 0, none⟩), .pointer (some ⟨c + 1 + 1, 0, none⟩)], .int .i64 q.1, q.2.val, undef, undef, undef, undef, undef, undef, undef, undef, undef, undef, undef, undef, undef, undef, undef, undef, undef, undef, undef, undef, undef, undef, undef, undef], defers := [] } ∧ BatI2 f l w D c k W)
   (fun a' k X Y row hs hg hr => by
    obtain ⟨q, Bx, h1, h0, h2, h3, h4⟩ := hs
    exact ⟨q, Bx, h1, h0, own_cells (β := Unit) _ Bx _ 50 () X Y row h2 hg hr, h3, BatI2.own f l w D c _ hDN hDc (by omega) k X Y row h4 hg hr⟩) ?assign ?body ?done
  case assign =>
   intro lo k v W hx hI
   obtain ⟨q, hq, rfl⟩ := encP_get hx
   gi_wp2
   exact ⟨(KeepsOthers.alloc _ _).from _, Keeps.alloc _ _ _ _ _, q, W.heap.size, hq, by have := hI.2.2.2.2.2.2; omega, heap_alloc_new _ _, rfl, hI.below ((Below.refl _ W).alloc (Nat.le_refl _) _)⟩
  case body =>
   rintro lo k v a' W hx ⟨q, Bx, hq, hlo, hBx, rfl, hI⟩
   have hk : k < l.length := by
    have := (List.getElem?_eq_some_iff.1 hq).1
    rwa [bwd_length] at this
   obtain ⟨j, hj⟩ : ∃ j, k + j + 1 = l.length := ⟨l.length - 1 - k, by omega⟩
   have hjl : j < l.length := by omega
   rw [bwd_get l k j hj, at4_eq] at hq
   injection hq with hq
   subst hq
   have HI := Lib.hid hI
   have pX := agg_of_block hBx
   have HBx := Lib.hid hBx
   have hje : l.length - 1 - k = j := by omega
   have hke : l.length - 1 - j = k := by omega
   have HV := Lib.hid (show batV f l (k + 1) = mmul f (batV f l k) (selV (zMask (at4 l j)) f.one (at4 l j)) from by rw [batV, hje])
   have HE := Lib.hid (show batE f l j = selV (zMask (at4 l j)) V4.zero (mmul f (prodT f l j) (batV f l k)) from by rw [batE, hke])
   have HJ := Lib.hid hj
   clear hI hBx hG
   simp only [] at pX ⊢
   generalize at4 l j = x at *
   clear hje hke
   gi_wp2
   refine roundCall2 (isZeroE x W) ?_
   rintro e W1 ⟨rfl, hb1⟩
   have HI1 := Lib.hid (HI.out.below hb1)
   have HB1 := Lib.hid hb1
   have hjl' : (j : Int) < (l.length : Int) := by omega
   have pX := agg_keep pX hb1
   have pF := aggF_of_block HI1.out.1
   have pN := (IsF.parts (w := W1) (b := w.heap.size) HI1.out.1).2.2.1
   have pO := HI1.out.2.1.get j (by rw [batO_length]; exact hjl)
   rw [show (batO f l k)[j]?.getD V4.zero = prodT f l j from batO_get f l k j HJ.out] at pO
   have pC := cell_of_block HI1.out.2.2.1
   have pV := agg_of_block HI1.out.2.2.2.1
   generalize zMask x = z at *
   generalize prodT f l j = o at *
   obtain ⟨v, hv⟩ : ∃ v, v = batV f l k := ⟨_, rfl⟩
   rw [← hv] at pV HV HE
   clear hb1 HI hv
   gi_wp2
   ((refine region_held_in (h := 13) (by kernel_rfl) (by kernel_rfl) (fun W' => (Below W1.heap.size W1 W' ∧ W'.cell? ⟨(w.heap.size + 1 + 1), 0, none⟩ = some (.slice (some ⟨w.heap.size + 1, 0, none⟩) l.length l.length) ∧ aggAt W' 14 (w.heap.size) (0) = some (f.val) ∧ aggAt W' 4 (w.heap.size + 1) (j * 4) = some (o.val) ∧ aggAt W' 4 (c) (0) = some (v.val) ∧ aggAt W' 4 (Bx) (0) = some (x.val) ∧ aggAt W' 4 (w.heap.size) (6) = some (f.one.val))) ⟨(Below.refl _ W1).drew, pC, pF, pO, pV, pX, pN⟩ ?_); (have hSB : ∀ W' W'' : World, (Below W1.heap.size W1 W' ∧ W'.cell? ⟨(w.heap.size + 1 + 1), 0, none⟩ = some (.slice (some ⟨w.heap.size + 1, 0, none⟩) l.length l.length) ∧ aggAt W' 14 (w.heap.size) (0) = some (f.val) ∧ aggAt W' 4 (w.heap.size + 1) (j * 4) = some (o.val) ∧ aggAt W' 4 (c) (0) = some (v.val) ∧ aggAt W' 4 (Bx) (0) = some (x.val) ∧ aggAt W' 4 (w.heap.size) (6) = some (f.one.val)) → Below W'.heap.size W' W'' → (Below W1.heap.size W1 W'' ∧ W''.cell? ⟨(w.heap.size + 1 + 1), 0, none⟩ = some (.slice (some ⟨w.heap.size + 1, 0, none⟩) l.length l.length) ∧ aggAt W'' 14 (w.heap.size) (0) = some (f.val) ∧ aggAt W'' 4 (w.heap.size + 1) (j * 4) = some (o.val) ∧ aggAt W'' 4 (c) (0) = some (v.val) ∧ aggAt W'' 4 (Bx) (0) = some (x.val) ∧ aggAt W'' 4 (w.heap.size) (6) = some (f.one.val)) := fun W' W'' ⟨h0, h1, h2, h3, h4, h5, h6⟩ hb => ⟨h0.trans (hb.mono h0.size), cell_keep h1 hb, agg_keep h2 hb, agg_keep h3 hb, agg_keep h4 hb, agg_keep h5 hb, agg_keep h6 hb⟩); (clear pC pF pO pV pX pN); (((try simp only [List.take_succ_cons, List.take_zero, List.drop_succ_cons, List.drop_zero]); repeat (apply chain_op; (focus (intro W' hS' K hK; (try simp only [Act.put, List.setIfInBounds_toArray, List.set_cons_zero, List.set_cons_succ] at hK); (have hS'' := hS'); (obtain ⟨s0, s1, s2, s3, s4, s5, s6⟩ := hS''); go_simp; (first | exact hK _ hS' | (with_reducible refine Calls.mono (montMul f o v _) ?_; rintro e W'' ⟨rfl, hb''⟩; exact hK _ (hSB _ _ hS' hb'')) | (with_reducible refine Calls.mono (chooseZ z _ _) ?_; rintro e W'' ⟨rfl, hb''⟩; exact hK _ (hSB _ _ hS' hb''))); done)); (try simp only [Act.put, List.setIfInBounds_toArray, List.set_cons_zero, List.set_cons_succ])); unfold chain)); (rintro W' ⟨s0, s1, s2, s3, s4, s5, s6⟩); (clear hSB))
   generalize W' = Wa at *
   have HI' := Lib.hid (HI1.out.below s0)
   have HB' := Lib.hid (HB1.out.trans (s0.mono HB1.out.size))
   clear s0
   gi_wp2
   obtain ⟨u, hu⟩ : ∃ u, u = selV z V4.zero (mmul f o v) := ⟨_, rfl⟩
   rw [← hu] at HE ⊢
   clear hu
   obtain ⟨W2, hW2⟩ : ∃ W2, W2 = putAgg Wa (w.heap.size + 1) (j * 4) u.arr := ⟨_, rfl⟩
   have hkp : ∀ n b o v, b ≠ w.heap.size + 1 → aggAt Wa n b o = some v → aggAt W2 n b o = some v := fun n b o v hb h => by rw [hW2, aggAt_putAgg_other _ _ _ _ _ _ _ hb]; exact h
   have pF := hkp 14 w.heap.size 0 _ (by omega) s2
   have pN := hkp 4 w.heap.size 6 _ (by omega) s6
   have pV := hkp 4 c 0 _ (by omega) s4
   have pX := hkp 4 Bx 0 _ (by omega) s5
   rw [← hW2]
   have HW2 := Lib.hid hW2
   clear hW2 hkp s1 s2 s3 s4 s5 s6
   ((refine region_held_in (h := 8) (by kernel_rfl) (by kernel_rfl) (fun W' => (Below W2.heap.size W2 W' ∧ aggAt W' 14 (w.heap.size) (0) = some (f.val) ∧ aggAt W' 4 (w.heap.size) (6) = some (f.one.val) ∧ aggAt W' 4 (c) (0) = some (v.val) ∧ aggAt W' 4 (Bx) (0) = some (x.val))) ⟨(Below.refl _ W2).drew, pF, pN, pV, pX⟩ ?_); (have hSB : ∀ W' W'' : World, (Below W2.heap.size W2 W' ∧ aggAt W' 14 (w.heap.size) (0) = some (f.val) ∧ aggAt W' 4 (w.heap.size) (6) = some (f.one.val) ∧ aggAt W' 4 (c) (0) = some (v.val) ∧ aggAt W' 4 (Bx) (0) = some (x.val)) → Below W'.heap.size W' W'' → (Below W2.heap.size W2 W'' ∧ aggAt W'' 14 (w.heap.size) (0) = some (f.val) ∧ aggAt W'' 4 (w.heap.size) (6) = some (f.one.val) ∧ aggAt W'' 4 (c) (0) = some (v.val) ∧ aggAt W'' 4 (Bx) (0) = some (x.val)) := fun W' W'' ⟨h0, h1, h2, h3, h4⟩ hb => ⟨h0.trans (hb.mono h0.size), agg_keep h1 hb, agg_keep h2 hb, agg_keep h3 hb, agg_keep h4 hb⟩); (clear pF pN pV pX); (((try simp only [List.take_succ_cons, List.take_zero, List.drop_succ_cons, List.drop_zero]); repeat (apply chain_op; (focus (intro W' hS' K hK; (try simp only [Act.put, List.setIfInBounds_toArray, List.set_cons_zero, List.set_cons_succ] at hK); (have hS'' := hS'); (obtain ⟨s0, s1, s2, s3, s4⟩ := hS''); go_simp; (first | exact hK _ hS' | (with_reducible refine Calls.mono (chooseE z _ x _) ?_; rintro e W'' ⟨rfl, hb''⟩; exact hK _ (hSB _ _ hS' hb'')) | (with_reducible refine Calls.mono (montMul f v _ _) ?_; rintro e W'' ⟨rfl, hb''⟩; exact hK _ (hSB _ _ hS' hb''))); done)); (try simp only [Act.put, List.setIfInBounds_toArray, List.set_cons_zero, List.set_cons_succ])); unfold chain)); (rintro W' ⟨s0, s1, s2, s3, s4⟩); (clear hSB))
   have HB2 := Lib.hid s0
   clear s0
   gi_wp2
   have hb2 := HB2.out
   rw [HW2.out, putAgg_size] at hb2
   have k1 : Keeps (fun k => k = c + 1 ∨ k = c + 2 ∨ k < w.heap.size) true V0.heap.size Wa (putAgg Wa (w.heap.size + 1) (j * 4) u.arr) := Keeps.putAgg Wa _ _ _ (by omega) (by omega)
   have k2 : Keeps (fun k => k = c + 1 ∨ k = c + 2 ∨ k < w.heap.size) true V0.heap.size W' (putAgg W' c 0 (mmul f v (selV z f.one x)).arr) := Keeps.putAgg W' _ _ _ (by omega) (by omega)
   have hK := (((Keeps.of_below HB'.out).trans k1).trans (Keeps.of_below (by rw [putAgg_size]; exact hb2))).trans k2
   exact ⟨hK.both.1, hK.both.2, HI'.out.next HJ.out hDN hDc HE.out HV.out hb2⟩
  case done =>
   intro D2 W hD2 hI hK
   rw [encP_length, bwd_length] at hI
   have HI := Lib.hid hI
   have pC := cell_of_block hI.2.2.1
   clear hI
   gi_wp2
   have hD2' : D ≠ D2 := by omega
   refine ⟨by simp, .inl ⟨_, _, rfl, run_takeDeferred hK, ?_⟩⟩
   have hK1 : (W.putObj D2 (.deferred none)).heap[D]? = some (.deferred (some [])) := (World.putObj_heap_other hD2').trans HI.out.2.2.2.2.1
   refine ⟨by simp, .inl ⟨_, _, rfl, run_takeDeferred hK1, ?_⟩⟩
   have hbD : ∀ i, i ≠ D → i ≠ D2 → ((W.putObj D2 (.deferred none)).putObj D (.deferred none)).heap[i]? = W.heap[i]? := fun i h1 h2 => (World.putObj_heap_other h1).trans (World.putObj_heap_other h2)
   refine ⟨_, results_tmp rfl _ _ _, w.heap.size + 1, rfl, by omega, ?_, ?_⟩
   ·have := HI.out.2.1
    rw [batO_all] at this
    exact this.block (hbD _ (by omega) (by omega))
   ·exact HI.out.2.2.2.2.2.1.trans (⟨rfl, rfl, rfl, by simp, fun i hi => hbD i (by omega) (by omega)⟩)
end Go.Proofs.YtccgfladbibjbaaGreatDoor
