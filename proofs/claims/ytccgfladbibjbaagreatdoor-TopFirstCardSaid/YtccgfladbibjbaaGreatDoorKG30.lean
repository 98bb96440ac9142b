/- The Montgomery product, the sum and the difference of elements as numbers. No program in sight. -/
import Derived.Test.YtccgfladbibjbaaGreatDoorKG12
import Derived.Test.YtccgfladbibjbaaGreatDoorKG04
import Derived.Test.YtccgfladbibjbaaGreatDoorKG29
namespace Go.Proofs.YtccgfladbibjbaaGreatDoor
open Go.RowKit
theorem fromBitW_nat (c : BitVec 64) : fromBitW c = maskW (decide (c.toNat % 2 = 1)) := by
 rw [fromBitW_eq]
 congr 1
 rw [Bool.eq_iff_iff]
 simp only [beq_iff_eq, decide_eq_true_eq]
 constructor
 ·intro h
  have := congrArg BitVec.toNat h
  simpa using this
 ·intro h
  apply BitVec.eq_of_toNat_eq
  simpa using h
theorem subP_num (p a : V4) (c : BitVec 64) : (subP p a c).num = if a.num + 115792089237316195423570985008687907853269984665640564039457584007913129639936 * (c.toNat % 2) < p.num then a.num else (a.num + 115792089237316195423570985008687907853269984665640564039457584007913129639936 * (c.toNat % 2) - p.num) % 115792089237316195423570985008687907853269984665640564039457584007913129639936 := by
 have h1 := chain_sub_num a p
 have h2 := sub_borrow a p
 have h3 := V4.num_lt (chainN subF a p 4).1
 have h4 := V4.num_lt a
 have h5 := V4.num_lt p
 unfold subP
 rw [fromBitW_nat c, fromBitW_nat, h2]
 rw [h2] at h1
 have hc : c.toNat % 2 = 0 ∨ c.toNat % 2 = 1 := by omega
 by_cases hlt : a.num < p.num
 ·rw [decide_eq_true hlt] at h1 ⊢
  rw [show (bw true).toNat = 1 from rfl] at h1
  rcases hc with hc | hc
  ·rw [hc, show (decide ((bw true).toNat % 2 = 1)) = true from rfl, show decide ((0 : Nat) = 1) = false from rfl, show ((maskW true &&& ~~~maskW false) % 2#64 == 1#64) = true from by decide, if_pos rfl]
   rw [if_pos (by omega)]
  ·rw [hc, show (decide ((bw true).toNat % 2 = 1)) = true from rfl, show decide ((1 : Nat) = 1) = true from rfl, show ((maskW true &&& ~~~maskW true) % 2#64 == 1#64) = false from by decide, if_neg (by decide)]
   rw [if_neg (by omega)]
   omega
 ·rw [decide_eq_false hlt] at h1 ⊢
  rw [show (bw false).toNat = 0 from rfl] at h1
  have he : ((maskW (decide ((bw false).toNat % 2 = 1)) &&& ~~~maskW (decide (c.toNat % 2 = 1))) % 2#64 == 1#64) = false := by
   rw [show (decide ((bw false).toNat % 2 = 1)) = false from rfl]
   generalize decide (c.toNat % 2 = 1) = b
   cases b <;> decide
  rw [he, if_neg (by decide), if_neg (by omega)]
  rcases hc with hc | hc <;> rw [hc] <;> omega
def tv (t : List (BitVec 64)) : Nat := (tw t 0).toNat + 18446744073709551616 * (tw t 1).toNat + 340282366920938463463374607431768211456 * (tw t 2).toNat + 6277101735386680763835789423207666416102355444464034512896 * (tw t 3).toNat + 115792089237316195423570985008687907853269984665640564039457584007913129639936 * (tw t 4).toNat
theorem tw_set (t : List (BitVec 64)) (k j : Nat) (x : BitVec 64) (hk : k < t.length) : tw (t.set k x) j = if j = k then x else tw t j := by
 unfold tw
 by_cases h : j = k
 ·subst h
  rw [if_pos rfl, List.getElem?_set_self hk]
  rfl
 ·rw [if_neg h, List.getElem?_set_ne (fun e => h e.symm)]
theorem rowA_length (a : V4) (y : BitVec 64) (t : List (BitVec 64)) : ∀ j, (rowA a y t j).1.length = t.length
 | 0 => rfl
 | j + 1 => by
  show (List.set _ _ _).length = _
  rw [List.length_set]
  exact rowA_length a y t j
theorem rowP_length (p : V4) (m : BitVec 64) (t : List (BitVec 64)) : ∀ j, (rowP p m t j).1.length = t.length
 | 0 => rfl
 | j + 1 => by
  show (List.set _ _ _).length = _
  rw [List.length_set]
  exact rowP_length p m t j
theorem mid_length (r : List (BitVec 64) × BitVec 64) : (mid r).length = r.1.length := by unfold mid; rw [List.length_set, List.length_set]
theorem fold_length (r : List (BitVec 64) × BitVec 64) : (fold r).length = r.1.length := by unfold fold; rw [List.length_set, List.length_set]
theorem mround_length (f : FP) (a : V4) (y : BitVec 64) (t : List (BitVec 64)) : (mround f a y t).length = t.length := by
 unfold mround
 rw [fold_length, rowP_length, mid_length, rowA_length]
theorem mrows_length (f : FP) (a b : V4) : ∀ i, (mrows f a b i).length = 6
 | 0 => rfl
 | i + 1 => by
  show (mround _ _ _ _).length = 6
  rw [mround_length, mrows_length]
theorem rowA_num (a : V4) (y : BitVec 64) (t : List (BitVec 64)) (ht : t.length = 6) :
  (tw (rowA a y t 4).1 0).toNat + 18446744073709551616 * (tw (rowA a y t 4).1 1).toNat + 340282366920938463463374607431768211456 * (tw (rowA a y t 4).1 2).toNat + 6277101735386680763835789423207666416102355444464034512896 * (tw (rowA a y t 4).1 3).toNat + 115792089237316195423570985008687907853269984665640564039457584007913129639936 * (rowA a y t 4).2.toNat
   = (tw t 0).toNat + 18446744073709551616 * (tw t 1).toNat + 340282366920938463463374607431768211456 * (tw t 2).toNat + 6277101735386680763835789423207666416102355444464034512896 * (tw t 3).toNat + a.num * y.toNat ∧ tw (rowA a y t 4).1 4 = tw t 4 := by
 have e0 : rowA a y t 1 = (t.set 0 (mulStep (a.get 0) y (tw t 0) 0#64).1, (mulStep (a.get 0) y (tw t 0) 0#64).2) := rfl
 obtain ⟨t1, h1⟩ : ∃ t1, t1 = t.set 0 (mulStep (a.get 0) y (tw t 0) 0#64).1 := ⟨_, rfl⟩
 have e1 : rowA a y t 2 = (t1.set 1 (mulStep (a.get 1) y (tw t1 1) (mulStep (a.get 0) y (tw t 0) 0#64).2).1, (mulStep (a.get 1) y (tw t1 1) (mulStep (a.get 0) y (tw t 0) 0#64).2).2) := by rw [h1]; rfl
 obtain ⟨c1, hc1⟩ : ∃ c1, c1 = (mulStep (a.get 0) y (tw t 0) 0#64).2 := ⟨_, rfl⟩
 rw [← hc1] at e1
 obtain ⟨t2, h2⟩ : ∃ t2, t2 = t1.set 1 (mulStep (a.get 1) y (tw t1 1) c1).1 := ⟨_, rfl⟩
 obtain ⟨c2, hc2⟩ : ∃ c2, c2 = (mulStep (a.get 1) y (tw t1 1) c1).2 := ⟨_, rfl⟩
 rw [← h2, ← hc2] at e1
 have e2 : rowA a y t 3 = (t2.set 2 (mulStep (a.get 2) y (tw t2 2) c2).1, (mulStep (a.get 2) y (tw t2 2) c2).2) := by
  show ((rowA a y t 2).1.set 2 _, _) = _
  rw [e1]
 obtain ⟨t3, h3⟩ : ∃ t3, t3 = t2.set 2 (mulStep (a.get 2) y (tw t2 2) c2).1 := ⟨_, rfl⟩
 obtain ⟨c3, hc3⟩ : ∃ c3, c3 = (mulStep (a.get 2) y (tw t2 2) c2).2 := ⟨_, rfl⟩
 rw [← h3, ← hc3] at e2
 have e3 : rowA a y t 4 = (t3.set 3 (mulStep (a.get 3) y (tw t3 3) c3).1, (mulStep (a.get 3) y (tw t3 3) c3).2) := by
  show ((rowA a y t 3).1.set 3 _, _) = _
  rw [e2]
 have l1 : t1.length = 6 := by rw [h1, List.length_set, ht]
 have l2 : t2.length = 6 := by rw [h2, List.length_set, l1]
 have l3 : t3.length = 6 := by rw [h3, List.length_set, l2]
 have g0 := mulStep_nat (a.get 0) y (tw t 0) 0#64
 have g1 := mulStep_nat (a.get 1) y (tw t1 1) c1
 have g2 := mulStep_nat (a.get 2) y (tw t2 2) c2
 have g3 := mulStep_nat (a.get 3) y (tw t3 3) c3
 rw [show (0#64).toNat = 0 from rfl] at g0
 rw [← hc1] at g0
 rw [← hc2] at g1
 rw [← hc3] at g2
 rw [e3]
 simp only []
 have x0 : tw (t3.set 3 (mulStep (a.get 3) y (tw t3 3) c3).1) 0 = (mulStep (a.get 0) y (tw t 0) 0#64).1 := by
  rw [tw_set _ _ _ _ (by omega), if_neg (by decide), h3, tw_set _ _ _ _ (by omega), if_neg (by decide), h2, tw_set _ _ _ _ (by omega), if_neg (by decide), h1, tw_set _ _ _ _ (by omega), if_pos rfl]
 have x1 : tw (t3.set 3 (mulStep (a.get 3) y (tw t3 3) c3).1) 1 = (mulStep (a.get 1) y (tw t1 1) c1).1 := by
  rw [tw_set _ _ _ _ (by omega), if_neg (by decide), h3, tw_set _ _ _ _ (by omega), if_neg (by decide), h2, tw_set _ _ _ _ (by omega), if_pos rfl]
 have x2 : tw (t3.set 3 (mulStep (a.get 3) y (tw t3 3) c3).1) 2 = (mulStep (a.get 2) y (tw t2 2) c2).1 := by
  rw [tw_set _ _ _ _ (by omega), if_neg (by decide), h3, tw_set _ _ _ _ (by omega), if_pos rfl]
 have x3 : tw (t3.set 3 (mulStep (a.get 3) y (tw t3 3) c3).1) 3 = (mulStep (a.get 3) y (tw t3 3) c3).1 := by
  rw [tw_set _ _ _ _ (by omega), if_pos rfl]
 have x4 : tw (t3.set 3 (mulStep (a.get 3) y (tw t3 3) c3).1) 4 = tw t 4 := by
  rw [tw_set _ _ _ _ (by omega), if_neg (by decide), h3, tw_set _ _ _ _ (by omega), if_neg (by decide), h2, tw_set _ _ _ _ (by omega), if_neg (by decide), h1, tw_set _ _ _ _ (by omega), if_neg (by decide)]
 have y1 : tw t1 1 = tw t 1 := by rw [h1, tw_set _ _ _ _ (by omega), if_neg (by decide)]
 have y2 : tw t2 2 = tw t 2 := by rw [h2, tw_set _ _ _ _ (by omega), if_neg (by decide), h1, tw_set _ _ _ _ (by omega), if_neg (by decide)]
 have y3 : tw t3 3 = tw t 3 := by rw [h3, tw_set _ _ _ _ (by omega), if_neg (by decide), h2, tw_set _ _ _ _ (by omega), if_neg (by decide), h1, tw_set _ _ _ _ (by omega), if_neg (by decide)]
 rw [x0, x1, x2, x3]
 refine ⟨?_, x4⟩
 rw [y1] at g1 ⊢
 rw [y2] at g2 ⊢
 rw [y3] at g3 ⊢
 have hn : a.num * y.toNat = (a.get 0).toNat * y.toNat + 18446744073709551616 * ((a.get 1).toNat * y.toNat) + 340282366920938463463374607431768211456 * ((a.get 2).toNat * y.toNat) + 6277101735386680763835789423207666416102355444464034512896 * ((a.get 3).toNat * y.toNat) := by
  show (a.x0.toNat + 18446744073709551616 * (a.x1.toNat + 18446744073709551616 * (a.x2.toNat + 18446744073709551616 * a.x3.toNat))) * y.toNat = a.x0.toNat * y.toNat + 18446744073709551616 * (a.x1.toNat * y.toNat) + 340282366920938463463374607431768211456 * (a.x2.toNat * y.toNat) + 6277101735386680763835789423207666416102355444464034512896 * (a.x3.toNat * y.toNat)
  grind
 rw [hn]
 generalize (a.get 0).toNat * y.toNat = P0 at *
 generalize (a.get 1).toNat * y.toNat = P1 at *
 generalize (a.get 2).toNat * y.toNat = P2 at *
 generalize (a.get 3).toNat * y.toNat = P3 at *
 omega
end Go.Proofs.YtccgfladbibjbaaGreatDoor
namespace Go.Proofs.YtccgfladbibjbaaGreatDoor
open Go Go.RowKit
section
variable {P : Program} {S : World → Prop}
theorem chainL_opG {l : List Oper} {K0 : Act → Prop} {i : Nat} {r : List Nat} {a : Act} {o : Oper} (ho : l[i]? = some o) (hw : Region.wanted o (yielded l.toArray a.tmps) = true) (v : Value)
  (h : ∀ W, S W → ∀ K : Act → World → Prop, (∀ W', S W' → Later W W' → K (a.put o.dst v) W') → o.wp P a W K NoQ) (hr : chainL P S l.toArray K0 r (a.put o.dst v)) : chainL P S l.toArray K0 (i :: r) a := by
 intro o' ho'
 rw [List.getElem?_toArray, ho] at ho'
 injection ho' with ho'
 subst ho'
 refine ⟨v, fun W hS => ?_, hr⟩
 have := h W hS (fun a' w' => a' = a.put o.dst v ∧ S w' ∧ Later W w') (fun W' h1 h2 => ⟨rfl, h1, h2⟩)
 unfold stepV
 rw [if_pos hw]
 exact Oper.wp_mono (fun a' w' h => ⟨v, h.1, rfl, h.2⟩) this
theorem chainL_opU {l : List Oper} {K0 : Act → Prop} {i : Nat} {r : List Nat} {a : Act} {o : Oper} (ho : l[i]? = some o) (hw : Region.wanted o (yielded l.toArray a.tmps) = false)
  (hr : chainL P S l.toArray K0 r (a.put o.dst undef)) : chainL P S l.toArray K0 (i :: r) a := by
 intro o' ho'
 rw [List.getElem?_toArray, ho] at ho'
 injection ho' with ho'
 subst ho'
 refine ⟨undef, fun W hS => ?_, hr⟩
 unfold stepV
 rw [if_neg (by rw [hw]; decide)]
 exact ⟨rfl, hS, Later.refl _⟩
end
end Go.Proofs.YtccgfladbibjbaaGreatDoor
namespace Go.Proofs.YtccgfladbibjbaaGreatDoor
open Go.RowKit
attribute [local go_sem ↓] add_UU sub_UU mul_UU add_UL add_LU sub_UL sub_LU mul_UL neg_at not_at and_UU or_UU xor_UU andNot_UU and_UL or_LU shr_UL shl_UL shr_UN shl_UN shl_LN quo_UL rem_UL quo_UU rem_UU
attribute [local go_sem] wrap64_N wrapi_mod wrap8_U wrap32_U wrap64_B wrap32_B wrap8_D wrapi_B wrap64_UU eq_UU ne_UU eq_UL ne_UL lt_UU le_UU
attribute [local simp] putAgg_size
attribute [local go_sem ↓] loadVar_F loadVar_E loadVar_V loadVar_B32 storeVar_F storeVar_E storeVar_V storeVar_B32 box_F box_E box_V box_B32
attribute [local go_sem ↓ high] V4.cells_val FP.cells_val
attribute [local go_sem] run_loadF run_loadE run_loadV run_loadB32 run_storeF run_storeE run_storeV run_storeB32 run_boxA aggAt_drew aggAt_drewN aggAt_alloc_new aggAt_alloc_past aggAt_setCell_other aggAt_putAgg_other aggAt_putAgg_new putAgg_drew putAgg_size putAgg_alloc_new putAgg_alloc_past putAgg_cell_other putAgg_frozen_other V4.agg_arr FP.agg_arr V4.size_arr FP.size_arr V4.fits FP.fits fitsA_agg4 lt_2 ne_2 en_2 lt_3 ne_3 en_3 lt_4 ne_4 en_4 lt_5 ne_5 en_5 lt_6 ne_6 en_6
def subB (a b : V4) : Nat → BitVec 64
 | 0 => 0#64
 | k + 1 => if a.get k < b.get k then 1#64 else if a.get k = b.get k ∧ subB a b k = 1#64 then 1#64 else 0#64
def subO (a b : V4) : Nat → V4
 | 0 => V4.zero
 | k + 1 => (subO a b k).set k (a.get k - b.get k - subB a b k)
structure SbuI (w : World) (a b : V4) (k : Nat) (W : World) : Prop where
 A : W.heap[w.heap.size]? = some (.cells a.arr.toList.toArray 45 (0, 0))
 B : W.heap[w.heap.size + 1]? = some (.cells b.arr.toList.toArray 45 (0, 0))
 R : W.heap[w.heap.size + 1 + 1]? = some (.cells V4.zero.arr 45 (0, 0))
 O : W.heap[w.heap.size + 1 + 1 + 1]? = some (.cells (subO a b k).arr.toList.toArray 45 (0, 0))
 L : Below w.heap.size w W
theorem SbuI.below {w W W' : World} {a b : V4} {k : Nat} (h : SbuI w a b k W) (hb : Below W.heap.size W W') : SbuI w a b k W' := ⟨blk_below h.A hb rfl, blk_below h.B hb rfl, blk_below h.R hb rfl, blk_below h.O hb rfl, h.L.trans (hb.mono h.L.size)⟩
theorem SbuI.put {w W : World} {a b : V4} {k : Nat} (h : SbuI w a b k W) (hk : k < 4) : SbuI w a b (k + 1) (W.setCell ⟨w.heap.size + 1 + 1 + 1, k, none⟩ (.int .u64 (U (a.get k - b.get k - subB a b k)))) :=
 ⟨(Below.heap_setCell _ _ _ _ (by simp only []; omega)).trans h.A, (Below.heap_setCell _ _ _ _ (by simp only []; omega)).trans h.B, (Below.heap_setCell _ _ _ _ (by simp only []; omega)).trans h.R, by rw [row_set h.O, arr_put _ _ hk]; rfl, h.L.setCell (by simp only []; omega) _⟩
set_option maxRecDepth 20000 in
set_option maxHeartbeats 2000000 in
theorem refSub (a b : V4) (w : World) : Calls Tryz.prog 82 #[a.val, b.val] w fun e w' => e = .returned (.tuple #[(subO a b 4).val, .int .u64 (U (subB a b 4))]) ∧ Below w.heap.size w w' := by
 go_enter Tryz.func82, Tryz.ntmps82
 go_wp2
 (obtain ⟨W0, hW0⟩ : ∃ W0 : World, W0 = ((((w).alloc (.cells a.arr 45)).alloc (.cells b.arr 45)).alloc (.cells #[.int .u64 0, .int .u64 0, .int .u64 0, .int .u64 0] 45)).alloc (.cells #[.int .u64 0, .int .u64 0, .int .u64 0, .int .u64 0] 45) := ⟨_, rfl⟩); (have gW0 : ∀ (j : Nat) (o : Obj), ([Obj.cells a.arr 45, Obj.cells b.arr 45, Obj.cells #[.int .u64 0, .int .u64 0, .int .u64 0, .int .u64 0] 45, Obj.cells #[.int .u64 0, .int .u64 0, .int .u64 0, .int .u64 0] 45] : List Obj)[j]? = some o → W0.heap[w.heap.size + j]? = some o := by rw [hW0]; exact allocs_get w _); (have zW0 : W0.heap.size = w.heap.size + 4 := by rw [hW0]; exact allocs_size w [Obj.cells a.arr 45, Obj.cells b.arr 45, Obj.cells #[.int .u64 0, .int .u64 0, .int .u64 0, .int .u64 0] 45, Obj.cells #[.int .u64 0, .int .u64 0, .int .u64 0, .int .u64 0] 45]); (have bW0 : Below w.heap.size w W0 := by rw [hW0]; exact allocs_below w [Obj.cells a.arr 45, Obj.cells b.arr 45, Obj.cells #[.int .u64 0, .int .u64 0, .int .u64 0, .int .u64 0] 45, Obj.cells #[.int .u64 0, .int .u64 0, .int .u64 0, .int .u64 0] 45]); (rw [← hW0]); (clear hW0)
 have H0 := Lib.hid (show SbuI w a b 0 W0 from ⟨gW0 0 _ rfl, gW0 1 _ rfl, gW0 2 _ rfl, gW0 3 _ rfl, bW0⟩)
 clear gW0 bW0 zW0
 go_loopw [7, 8] (fun c iv W => ∃ k : Nat, k ≤ 4 ∧ iv = .int .i64 k ∧ c = .int .u64 (U (subB a b k)) ∧ SbuI w a b k W) (fun _ iv _ => 4 - (intOf iv).toNat)
 case atStart => exact ⟨0, by omega, rfl, rfl, H0.out⟩
 case round =>
  clear H0
  obtain ⟨k, hk, rfl, rfl, hI⟩ := hrel
  by_cases hlt : k < 4
  ·have hlt' : (k : Int) < 4 := by omega
   have cA := row_cell hI.A k (arr_at a k hlt)
   have cB := row_cell hI.B k (arr_at b k hlt)
   have HP := Lib.hid (fun W (h : SbuI w a b k W) => h.put hlt)
   have HO := Lib.hid (fun W (h : SbuI w a b k W) => And.intro (row_cell h.O k (arr_at (subO a b k) k hlt)) (row_frozen h.O k))
   have HC := Lib.hid (show subB a b (k + 1) = if a.get k < b.get k then 1#64 else if a.get k = b.get k ∧ subB a b k = 1#64 then 1#64 else 0#64 from rfl)
   have HI := Lib.hid hI
   clear hI
   generalize hc : subB a b k = c at *
   generalize hx : a.get k = x at *
   generalize hy : b.get k = y at *
   generalize hz : (subO a b k).get k = z at *
   have HA := Lib.hid (show ∀ W, SbuI w a b (k + 1) W → W.cell? ⟨w.heap.size, k, none⟩ = some (.int .u64 (U x)) ∧ W.cell? ⟨w.heap.size + 1, k, none⟩ = some (.int .u64 (U y)) from fun W h => by
    rw [← hx, ← hy]; exact ⟨row_cell h.A k (arr_at a k hlt), row_cell h.B k (arr_at b k hlt)⟩)
   clear hc hx hy hz
   go_upto_region 6 with (fail)
   ((refine region_held (h := 10) (by kernel_rfl) (by kernel_rfl) (fun W' => (Below wr.heap.size wr W' ∧ W'.cell? ⟨(w.heap.size), (k), none⟩ = some (.int .u64 (U x)) ∧ W'.cell? ⟨(w.heap.size + 1), (k), none⟩ = some (.int .u64 (U y)))) ⟨(Below.refl _ wr).drew, cA, cB⟩ ?_); (have hSB : ∀ W' W'' : World, (Below wr.heap.size wr W' ∧ W'.cell? ⟨(w.heap.size), (k), none⟩ = some (.int .u64 (U x)) ∧ W'.cell? ⟨(w.heap.size + 1), (k), none⟩ = some (.int .u64 (U y))) → Below W'.heap.size W' W'' → (Below wr.heap.size wr W'' ∧ W''.cell? ⟨(w.heap.size), (k), none⟩ = some (.int .u64 (U x)) ∧ W''.cell? ⟨(w.heap.size + 1), (k), none⟩ = some (.int .u64 (U y))) := fun W' W'' ⟨h0, h1, h2⟩ hb => ⟨h0.trans (hb.mono h0.size), cell_keep h1 hb, cell_keep h2 hb⟩); (clear cA cB); (((try simp only [List.take_succ_cons, List.take_zero, List.drop_succ_cons, List.drop_zero]); repeat (apply chain_op; (focus (intro W' hS' K hK; (try simp only [Act.put, List.setIfInBounds_toArray, List.set_cons_zero, List.set_cons_succ] at hK); (have hS'' := hS'); (obtain ⟨s0, s1, s2⟩ := hS''); go_simp; (first | exact hK _ hS'); done)); (try simp only [Act.put, List.setIfInBounds_toArray, List.set_cons_zero, List.set_cons_succ])); unfold chain)); (rintro W' ⟨s0, s1, s2⟩); (clear hSB))
   have HI2 := Lib.hid (HI.out.below s0)
   obtain ⟨cO, fO⟩ := HO.out _ HI2.out
   clear s0 s1 s2
   go_upto_region 7 with (fail)
   have HI3 := Lib.hid (HP.out _ HI2.out)
   obtain ⟨cA, cB⟩ := HA.out _ HI3.out
   clear HO HP HI HI2 HA cO fO
   generalize (W'.setCell _ _) = w1 at *
   generalize x - y - c = d1 at *
   generalize x - y = d2 at *
   by_cases h1 : x < y
   ·skip
    ((have hS0 : (Below w1.heap.size w1 w1.drew ∧ w1.drew.cell? ⟨(w.heap.size), (k), none⟩ = some (.int .u64 (U x)) ∧ w1.drew.cell? ⟨(w.heap.size + 1), (k), none⟩ = some (.int .u64 (U y))) := ⟨((Below.refl _ w1)).drew, cA, cB⟩); (refine region_later (by kernel_rfl) [19] [0, 1, 2, 3, 4, 5, 6, 7, 8, 9, 10, 11, 12, 13, 14, 15, 16, 17, 18] true (by kernel_rfl) (by kernel_rfl) (fun W' => (Below w1.heap.size w1 W' ∧ W'.cell? ⟨(w.heap.size), (k), none⟩ = some (.int .u64 (U x)) ∧ W'.cell? ⟨(w.heap.size + 1), (k), none⟩ = some (.int .u64 (U y)))) hS0 ?_); (have hSB : ∀ W' W'' : World, (Below w1.heap.size w1 W' ∧ W'.cell? ⟨(w.heap.size), (k), none⟩ = some (.int .u64 (U x)) ∧ W'.cell? ⟨(w.heap.size + 1), (k), none⟩ = some (.int .u64 (U y))) → Below W'.heap.size W' W'' → (Below w1.heap.size w1 W'' ∧ W''.cell? ⟨(w.heap.size), (k), none⟩ = some (.int .u64 (U x)) ∧ W''.cell? ⟨(w.heap.size + 1), (k), none⟩ = some (.int .u64 (U y))) := fun W' W'' ⟨h0, h1, h2⟩ hb => ⟨h0.trans (hb.mono h0.size), cell_keep h1 hb, cell_keep h2 hb⟩); (clear cA cB); (iterate 19 (first | ((first | (refine chainL_op (by rfl) (by rfl) ?_ ?_ ?_) | (refine chainL_opG (by rfl) (by rfl) ?_ ?_ ?_)); rotate_left; (focus (intro W' hS' K hK; (try simp only [put_some, List.set] at hK); (have hS'' := hS'); (obtain ⟨s0, s1, s2⟩ := hS''); go_simp; (first | exact hK _ hS' (Later.refl _)); done)); (try simp only [put_some, List.set])) | ((refine chainL_opU (by rfl) (by rfl) ?_); (try simp only [put_some, List.set])))); (refine chainL_nil ?_))
    refine spineL_op (by rfl) (by rfl) (fun W1 hS1 hL1 K hK => ?_)
    go_simp
    refine hK _ _ (fun _ => hS1) ?_
    (try simp only [put_some, List.set])
    refine spineL_nil fun W3 hL3 hS3 => ?_
    have HI4 := Lib.hid (HI3.out.below (hS3 rfl).1)
    clear HI3 hS1 hS3 hL1 hL3 hSB hS0 K hK
    go_wp2
    go_roundw
    case rel => exact ⟨k + 1, by omega, by go_num, by rw [HC.out, if_pos h1]; rfl, HI4.out⟩
    case measure => (first | (simp [intOf]; done) | (simp [intOf]; omega))
   ·have d1 : (decide (x < y)) = false := by simpa using h1
    by_cases h2 : x = y
    ·subst h2
     by_cases h3 : c = 1#64
     ·have E3 := Lib.hid (show (c == 1#64) = true by simpa using h3)
      have H3 := Lib.hid h3
      clear h3
      ((have hS0 : (Below w1.heap.size w1 w1.drew ∧ w1.drew.cell? ⟨(w.heap.size), (k), none⟩ = some (.int .u64 (U x)) ∧ w1.drew.cell? ⟨(w.heap.size + 1), (k), none⟩ = some (.int .u64 (U x))) := ⟨((Below.refl _ w1)).drew, cA, cB⟩); (refine region_later (by kernel_rfl) [19] [0, 1, 2, 3, 4, 5, 6, 7, 8, 9, 10, 11, 12, 13, 14, 15, 16, 17, 18] true (by kernel_rfl) (by kernel_rfl) (fun W' => (Below w1.heap.size w1 W' ∧ W'.cell? ⟨(w.heap.size), (k), none⟩ = some (.int .u64 (U x)) ∧ W'.cell? ⟨(w.heap.size + 1), (k), none⟩ = some (.int .u64 (U x)))) hS0 ?_); (have hSB : ∀ W' W'' : World, (Below w1.heap.size w1 W' ∧ W'.cell? ⟨(w.heap.size), (k), none⟩ = some (.int .u64 (U x)) ∧ W'.cell? ⟨(w.heap.size + 1), (k), none⟩ = some (.int .u64 (U x))) → Below W'.heap.size W' W'' → (Below w1.heap.size w1 W'' ∧ W''.cell? ⟨(w.heap.size), (k), none⟩ = some (.int .u64 (U x)) ∧ W''.cell? ⟨(w.heap.size + 1), (k), none⟩ = some (.int .u64 (U x))) := fun W' W'' ⟨h0, h1, h2⟩ hb => ⟨h0.trans (hb.mono h0.size), cell_keep h1 hb, cell_keep h2 hb⟩); (clear cA cB); (iterate 19 (first | ((first | (refine chainL_op (by rfl) (by rfl) ?_ ?_ ?_) | (refine chainL_opG (by rfl) (by rfl) ?_ ?_ ?_)); rotate_left; (focus (intro W' hS' K hK; (try simp only [put_some, List.set] at hK); (have hS'' := hS'); (obtain ⟨s0, s1, s2⟩ := hS''); go_simp; (first | exact hK _ hS' (Later.refl _)); done)); (try simp only [put_some, List.set, E3.out])) | ((refine chainL_opU (by rfl) (by rfl) ?_); (try simp only [put_some, List.set])))); (refine chainL_nil ?_))
      refine spineL_op (by rfl) (by rfl) (fun W1 hS1 hL1 K hK => ?_)
      go_simp
      refine hK _ _ (fun _ => hS1) ?_
      (try simp only [put_some, List.set])
      refine spineL_nil fun W3 hL3 hS3 => ?_
      have HI4 := Lib.hid (HI3.out.below (hS3 rfl).1)
      clear HI3 hS1 hS3 hL1 hL3 hSB hS0 K hK
      go_wp2
      go_roundw
      case rel => exact ⟨k + 1, by omega, by go_num, by rw [HC.out, if_neg h1, if_pos ⟨rfl, H3.out⟩]; rfl, HI4.out⟩
      case measure => (first | (simp [intOf]; done) | (simp [intOf]; omega))
     ·have E3 := Lib.hid (show (c == 1#64) = false by simpa using h3)
      have H3 := Lib.hid h3
      clear h3
      ((have hS0 : (Below w1.heap.size w1 w1.drew ∧ w1.drew.cell? ⟨(w.heap.size), (k), none⟩ = some (.int .u64 (U x)) ∧ w1.drew.cell? ⟨(w.heap.size + 1), (k), none⟩ = some (.int .u64 (U x))) := ⟨((Below.refl _ w1)).drew, cA, cB⟩); (refine region_later (by kernel_rfl) [19] [0, 1, 2, 3, 4, 5, 6, 7, 8, 9, 10, 11, 12, 13, 14, 15, 16, 17, 18] true (by kernel_rfl) (by kernel_rfl) (fun W' => (Below w1.heap.size w1 W' ∧ W'.cell? ⟨(w.heap.size), (k), none⟩ = some (.int .u64 (U x)) ∧ W'.cell? ⟨(w.heap.size + 1), (k), none⟩ = some (.int .u64 (U x)))) hS0 ?_); (have hSB : ∀ W' W'' : World, (Below w1.heap.size w1 W' ∧ W'.cell? ⟨(w.heap.size), (k), none⟩ = some (.int .u64 (U x)) ∧ W'.cell? ⟨(w.heap.size + 1), (k), none⟩ = some (.int .u64 (U x))) → Below W'.heap.size W' W'' → (Below w1.heap.size w1 W'' ∧ W''.cell? ⟨(w.heap.size), (k), none⟩ = some (.int .u64 (U x)) ∧ W''.cell? ⟨(w.heap.size + 1), (k), none⟩ = some (.int .u64 (U x))) := fun W' W'' ⟨h0, h1, h2⟩ hb => ⟨h0.trans (hb.mono h0.size), cell_keep h1 hb, cell_keep h2 hb⟩); (clear cA cB); (iterate 19 (first | ((first | (refine chainL_op (by rfl) (by rfl) ?_ ?_ ?_) | (refine chainL_opG (by rfl) (by rfl) ?_ ?_ ?_)); rotate_left; (focus (intro W' hS' K hK; (try simp only [put_some, List.set] at hK); (have hS'' := hS'); (obtain ⟨s0, s1, s2⟩ := hS''); go_simp; (first | exact hK _ hS' (Later.refl _)); done)); (try simp only [put_some, List.set, E3.out])) | ((refine chainL_opU (by rfl) (by rfl) ?_); (try simp only [put_some, List.set])))); (refine chainL_nil ?_))
      refine spineL_op (by rfl) (by rfl) (fun W1 hS1 hL1 K hK => ?_)
      go_simp
      refine hK _ _ (fun _ => hS1) ?_
      (try simp only [put_some, List.set])
      refine spineL_nil fun W3 hL3 hS3 => ?_
      have HI4 := Lib.hid (HI3.out.below (hS3 rfl).1)
      clear HI3 hS1 hS3 hL1 hL3 hSB hS0 K hK
      go_wp2
      go_roundw
      case rel => exact ⟨k + 1, by omega, by go_num, by rw [HC.out, if_neg h1, if_neg (fun h => H3.out h.2)]; rfl, HI4.out⟩
      case measure => (first | (simp [intOf]; done) | (simp [intOf]; omega))
    ·have E2 := Lib.hid (show (x == y) = false by simpa using h2)
     have H2 := Lib.hid h2
     clear h2
     ((have hS0 : (Below w1.heap.size w1 w1.drew ∧ w1.drew.cell? ⟨(w.heap.size), (k), none⟩ = some (.int .u64 (U x)) ∧ w1.drew.cell? ⟨(w.heap.size + 1), (k), none⟩ = some (.int .u64 (U y))) := ⟨((Below.refl _ w1)).drew, cA, cB⟩); (refine region_later (by kernel_rfl) [19] [0, 1, 2, 3, 4, 5, 6, 7, 8, 9, 10, 11, 12, 13, 14, 15, 16, 17, 18] true (by kernel_rfl) (by kernel_rfl) (fun W' => (Below w1.heap.size w1 W' ∧ W'.cell? ⟨(w.heap.size), (k), none⟩ = some (.int .u64 (U x)) ∧ W'.cell? ⟨(w.heap.size + 1), (k), none⟩ = some (.int .u64 (U y)))) hS0 ?_); (have hSB : ∀ W' W'' : World, (Below w1.heap.size w1 W' ∧ W'.cell? ⟨(w.heap.size), (k), none⟩ = some (.int .u64 (U x)) ∧ W'.cell? ⟨(w.heap.size + 1), (k), none⟩ = some (.int .u64 (U y))) → Below W'.heap.size W' W'' → (Below w1.heap.size w1 W'' ∧ W''.cell? ⟨(w.heap.size), (k), none⟩ = some (.int .u64 (U x)) ∧ W''.cell? ⟨(w.heap.size + 1), (k), none⟩ = some (.int .u64 (U y))) := fun W' W'' ⟨h0, h1, h2⟩ hb => ⟨h0.trans (hb.mono h0.size), cell_keep h1 hb, cell_keep h2 hb⟩); (clear cA cB); (iterate 19 (first | ((first | (refine chainL_op (by rfl) (by rfl) ?_ ?_ ?_) | (refine chainL_opG (by rfl) (by rfl) ?_ ?_ ?_)); rotate_left; (focus (intro W' hS' K hK; (try simp only [put_some, List.set] at hK); (have hS'' := hS'); (obtain ⟨s0, s1, s2⟩ := hS''); go_simp; (first | exact hK _ hS' (Later.refl _)); done)); (try simp only [put_some, List.set, E2.out])) | ((refine chainL_opU (by rfl) (by rfl) ?_); (try simp only [put_some, List.set])))); (refine chainL_nil ?_))
     refine spineL_op (by rfl) (by rfl) (fun W1 hS1 hL1 K hK => ?_)
     go_simp
     refine hK _ _ (fun _ => hS1) ?_
     (try simp only [put_some, List.set])
     refine spineL_nil fun W3 hL3 hS3 => ?_
     have HI4 := Lib.hid (HI3.out.below (hS3 rfl).1)
     clear HI3 hS1 hS3 hL1 hL3 hSB hS0 K hK
     go_wp2
     go_roundw
     case rel => exact ⟨k + 1, by omega, by go_num, by rw [HC.out, if_neg h1, if_neg (fun h => H2.out h.1)]; rfl, HI4.out⟩
     case measure => (first | (simp [intOf]; done) | (simp [intOf]; omega))
  ·obtain rfl : k = 4 := by omega
   have gO : wr.heap[w.heap.size + 1 + 1 + 1]? = some (.cells (subO a b 4).arr 45 (0, 0)) := by have := hI.O; simpa using this
   have pO := agg_of_block gO
   have pR := agg_of_block hI.R
   have HB := Lib.hid hI.L
   have HR := Lib.hid hI.R
   clear hI gO
   go_wp2_with fail
   exact end_ct Tryz.results82 rfl (atV (agg_of_block (vec_put HR.out rfl))) rfl ⟨rfl, putAgg_below HB.out (by omega)⟩
end Go.Proofs.YtccgfladbibjbaaGreatDoor
namespace Go.Proofs.YtccgfladbibjbaaGreatDoor
open Go.RowKit
attribute [local go_sem ↓] add_UU sub_UU mul_UU add_UL add_LU sub_UL sub_LU mul_UL neg_at not_at and_UU or_UU xor_UU andNot_UU and_UL or_LU shr_UL shl_UL shr_UN shl_UN shl_LN quo_UL rem_UL quo_UU rem_UU
attribute [local go_sem] wrap64_N wrapi_mod wrap8_U wrap32_U wrap64_B wrap32_B wrap8_D wrapi_B wrap64_UU eq_UU ne_UU eq_UL ne_UL lt_UU le_UU
attribute [local simp] putAgg_size
attribute [local go_sem ↓] loadVar_F loadVar_E loadVar_V loadVar_B32 storeVar_F storeVar_E storeVar_V storeVar_B32 box_F box_E box_V box_B32
attribute [local go_sem ↓ high] V4.cells_val FP.cells_val
attribute [local go_sem] run_loadF run_loadE run_loadV run_loadB32 run_storeF run_storeE run_storeV run_storeB32 run_boxA aggAt_drew aggAt_drewN aggAt_alloc_new aggAt_alloc_past aggAt_setCell_other aggAt_putAgg_other aggAt_putAgg_new putAgg_drew putAgg_size putAgg_alloc_new putAgg_alloc_past putAgg_cell_other putAgg_frozen_other V4.agg_arr FP.agg_arr V4.size_arr FP.size_arr V4.fits FP.fits fitsA_agg4 lt_2 ne_2 en_2 lt_3 ne_3 en_3 lt_4 ne_4 en_4 lt_5 ne_5 en_5 lt_6 ne_6 en_6
def rsub (m a : V4) (c : BitVec 64) : V4 := if c % 2#64 = 0#64 ∧ subB a m 4 = 1#64 then a else subO a m 4
theorem rsub_a {m a : V4} {c : BitVec 64} (h1 : c % 2#64 = 0#64) (h2 : subB a m 4 = 1#64) : rsub m a c = a := if_pos ⟨h1, h2⟩
theorem rsub_b {m a : V4} {c : BitVec 64} (h2 : ¬ subB a m 4 = 1#64) : rsub m a c = subO a m 4 := if_neg (fun h => h2 h.2)
theorem rsub_c {m a : V4} {c : BitVec 64} (h1 : ¬ c % 2#64 = 0#64) : rsub m a c = subO a m 4 := if_neg (fun h => h1 h.1)
set_option maxRecDepth 20000 in
set_option maxHeartbeats 2000000 in
theorem refSubtract (m a : V4) (c : BitVec 64) (w : World) : Calls Tryz.prog 51 #[m.val, a.val, .int .u64 (U c)] w fun e w' => e = .returned (rsub m a c).val ∧ Below w.heap.size w w' := by
 have HS := Lib.hid (refSub a m)
 have HA := Lib.hid (@rsub_a m a c)
 have HB := Lib.hid (@rsub_b m a c)
 have HC := Lib.hid (@rsub_c m a c)
 generalize rsub m a c = r at *
 generalize subO a m 4 = d at *
 generalize subB a m 4 = b at *
 go_enter Tryz.func51, Tryz.ntmps51
 go_wp2_with fail
 (obtain ⟨W0, hW0⟩ : ∃ W0 : World, W0 = (((w).alloc (.cells m.arr 45)).alloc (.cells a.arr 45)).alloc (.cells #[.int .u64 0, .int .u64 0, .int .u64 0, .int .u64 0] 45) := ⟨_, rfl⟩); (have gW0 : ∀ (j : Nat) (o : Obj), ([Obj.cells m.arr 45, Obj.cells a.arr 45, Obj.cells #[.int .u64 0, .int .u64 0, .int .u64 0, .int .u64 0] 45] : List Obj)[j]? = some o → W0.heap[w.heap.size + j]? = some o := by rw [hW0]; exact allocs_get w _); (have zW0 : W0.heap.size = w.heap.size + 3 := by rw [hW0]; exact allocs_size w [Obj.cells m.arr 45, Obj.cells a.arr 45, Obj.cells #[.int .u64 0, .int .u64 0, .int .u64 0, .int .u64 0] 45]); (have bW0 : Below w.heap.size w W0 := by rw [hW0]; exact allocs_below w [Obj.cells m.arr 45, Obj.cells a.arr 45, Obj.cells #[.int .u64 0, .int .u64 0, .int .u64 0, .int .u64 0] 45]); (rw [← hW0]); (clear hW0)
 have gA : W0.heap[w.heap.size + 1]? = some (.cells a.arr 45 (0, 0)) := gW0 1 _ rfl
 have gR : W0.heap[w.heap.size + 1 + 1]? = some (.cells V4.zero.arr 45 (0, 0)) := gW0 2 _ rfl
 refine (HS.out _).mono ?_
 rintro e w1 ⟨rfl, hb⟩
 have pA := agg_of_block (blk_below gA hb rfl)
 have gR1 := blk_below gR hb rfl
 have HW := Lib.hid (bW0.trans (hb.mono (by omega)))
 have hz : w.heap.size + 3 ≤ w1.heap.size := by have := hb.size; omega
 have hz1 : w.heap.size + 1 ≠ w1.heap.size := by omega
 have hz2 : w.heap.size + 1 + 1 ≠ w1.heap.size := by omega
 have hz3 : w.heap.size + 1 + 1 < w1.heap.size := by omega
 have hz4 : w.heap.size + 1 < w1.heap.size := by omega
 have pR := agg_of_block gR1
 have HR := Lib.hid gR1
 clear gW0 bW0 zW0 hb gA gR gR1 HS hz
 by_cases h1 : c % 2#64 = 0#64
 ·by_cases h2 : b = 1#64
  ·go_wp2_with fail
   exact end_c Tryz.results51 rfl (atV (v := a.val) (by go_simp)) rfl ⟨by rw [HA.out h1 h2], (putAgg_below HW.out (by omega)).alloc (by have := HW.out.size; simp only [putAgg_size]; omega) _⟩
  ·have e2 : (b == 1#64) = false := beq_eq_false_iff_ne.2 h2
   go_wp2_with fail
   exact end_c Tryz.results51 rfl (atV (v := d.val) (by go_simp)) rfl ⟨by rw [HB.out h2], (putAgg_below HW.out (by omega)).alloc (by have := HW.out.size; simp only [putAgg_size]; omega) _⟩
 ·have e1 : (c % 2#64 == 0#64) = false := beq_eq_false_iff_ne.2 h1
  go_wp2_with fail
  exact end_c Tryz.results51 rfl (atV (v := d.val) (by go_simp)) rfl ⟨by rw [HC.out h1], (putAgg_below HW.out (by omega)).alloc (by have := HW.out.size; simp only [putAgg_size]; omega) _⟩
def radd (p a b : V4) : V4 := rsub p (sumO a b 4) (sumC a b 4)
set_option maxRecDepth 20000 in
set_option maxHeartbeats 2000000 in
theorem refAdd (p a b : V4) (w : World) : Calls Tryz.prog 20 #[p.val, a.val, b.val] w fun e w' => e = .returned (radd p a b).val ∧ Below w.heap.size w w' := by
 have HS := Lib.hid (refSum a b)
 have HA := Lib.hid (refSubtract p (sumO a b 4) (sumC a b 4))
 rw [show radd p a b = rsub p (sumO a b 4) (sumC a b 4) from rfl]
 generalize rsub p (sumO a b 4) (sumC a b 4) = r at *
 generalize sumO a b 4 = d at *
 generalize sumC a b 4 = c at *
 go_enter Tryz.func20, Tryz.ntmps20
 go_wp2_with fail
 (obtain ⟨W0, hW0⟩ : ∃ W0 : World, W0 = ((((w).alloc (.cells p.arr 45)).alloc (.cells a.arr 45)).alloc (.cells b.arr 45)).alloc (.cells #[.int .u64 0, .int .u64 0, .int .u64 0, .int .u64 0] 45) := ⟨_, rfl⟩); (have gW0 : ∀ (j : Nat) (o : Obj), ([Obj.cells p.arr 45, Obj.cells a.arr 45, Obj.cells b.arr 45, Obj.cells #[.int .u64 0, .int .u64 0, .int .u64 0, .int .u64 0] 45] : List Obj)[j]? = some o → W0.heap[w.heap.size + j]? = some o := by rw [hW0]; exact allocs_get w _); (have zW0 : W0.heap.size = w.heap.size + 4 := by rw [hW0]; exact allocs_size w [Obj.cells p.arr 45, Obj.cells a.arr 45, Obj.cells b.arr 45, Obj.cells #[.int .u64 0, .int .u64 0, .int .u64 0, .int .u64 0] 45]); (have bW0 : Below w.heap.size w W0 := by rw [hW0]; exact allocs_below w [Obj.cells p.arr 45, Obj.cells a.arr 45, Obj.cells b.arr 45, Obj.cells #[.int .u64 0, .int .u64 0, .int .u64 0, .int .u64 0] 45]); (rw [← hW0]); (clear hW0)
 have gP : W0.heap[w.heap.size]? = some (.cells p.arr 45 (0, 0)) := gW0 0 _ rfl
 have gR : W0.heap[w.heap.size + 1 + 1 + 1]? = some (.cells V4.zero.arr 45 (0, 0)) := gW0 3 _ rfl
 refine (HS.out _).mono ?_
 rintro e w1 ⟨rfl, hb⟩
 have pP := agg_of_block (blk_below gP hb rfl)
 have gR1 := blk_below gR hb rfl
 have HW := Lib.hid (bW0.trans (hb.mono (by omega)))
 have hz : w.heap.size + 4 ≤ w1.heap.size := by have := hb.size; omega
 have hz1 : w.heap.size ≠ w1.heap.size := by omega
 have hz2 : w.heap.size + 1 + 1 + 1 ≠ w1.heap.size := by omega
 have hz3 : w.heap.size + 1 + 1 + 1 < w1.heap.size := by omega
 have hz4 : w.heap.size < w1.heap.size := by omega
 have HR := Lib.hid gR1
 clear gW0 bW0 zW0 hb gP gR gR1 HS hz
 go_wp2_with fail
 refine (HA.out _).mono ?_
 rintro e w2 ⟨rfl, hb⟩
 have gR2 := blk_below ((Below.heap_alloc w1 (.cells d.arr 45) _ hz3).trans HR.out) hb rfl
 have pR := agg_of_block gR2
 have HB := Lib.hid ((HW.out.alloc HW.out.size _).trans (hb.mono (by simp; omega)))
 have HR2 := Lib.hid gR2
 clear gR2 hb HR HA HW
 go_wp2_with fail
 exact end_c Tryz.results20 rfl (atV (agg_of_block (vec_put HR2.out rfl))) rfl ⟨rfl, putAgg_below HB.out (by omega)⟩
end Go.Proofs.YtccgfladbibjbaaGreatDoor
namespace Go.Proofs.YtccgfladbibjbaaGreatDoor
open Go.RowKit
def carW (x y c : BitVec 64) : BitVec 64 := if x + c + y < x + c then 1#64 else if x + c < c then 1#64 else 0#64
def borW (x y c : BitVec 64) : BitVec 64 := if x < y then 1#64 else if x = y ∧ c = 1#64 then 1#64 else 0#64
theorem sum_word (x y c : BitVec 64) (hc : c.toNat ≤ 1) : (x + c + y).toNat + 18446744073709551616 * (carW x y c).toNat = x.toNat + y.toNat + c.toNat ∧ (carW x y c).toNat ≤ 1 := by
 have hx := x.isLt
 have hy := y.isLt
 unfold carW
 simp only [BitVec.lt_def, BitVec.toNat_add]
 split
 ·rw [show (1#64).toNat = 1 from rfl]; omega
 ·split
  ·rw [show (1#64).toNat = 1 from rfl]; omega
  ·rw [show (0#64).toNat = 0 from rfl]; omega
theorem sub_word (x y c : BitVec 64) (hc : c.toNat ≤ 1) : (x - y - c).toNat + y.toNat + c.toNat = x.toNat + 18446744073709551616 * (borW x y c).toNat ∧ (borW x y c).toNat ≤ 1 := by
 have hx := x.isLt
 have hy := y.isLt
 have h1 : c = 1#64 ↔ c.toNat = 1 := ⟨fun h => by rw [h]; rfl, fun h => BitVec.eq_of_toNat_eq h⟩
 have h2 : x = y ↔ x.toNat = y.toNat := ⟨fun h => by rw [h], fun h => BitVec.eq_of_toNat_eq h⟩
 unfold borW
 simp only [BitVec.lt_def, BitVec.toNat_sub, h1, h2]
 split
 ·rw [show (1#64).toNat = 1 from rfl]; omega
 ·split
  ·rw [show (1#64).toNat = 1 from rfl]; omega
  ·rw [show (0#64).toNat = 0 from rfl]; omega
theorem sum_num (a b : V4) : (sumO a b 4).num + 115792089237316195423570985008687907853269984665640564039457584007913129639936 * (sumC a b 4).toNat = a.num + b.num ∧ (sumC a b 4).toNat ≤ 1 := by
 have e : sumO a b 4 = ⟨a.x0 + 0#64 + b.x0, a.x1 + carW a.x0 b.x0 0#64 + b.x1, a.x2 + carW a.x1 b.x1 (carW a.x0 b.x0 0#64) + b.x2, a.x3 + carW a.x2 b.x2 (carW a.x1 b.x1 (carW a.x0 b.x0 0#64)) + b.x3⟩ := rfl
 have e2 : sumC a b 4 = carW a.x3 b.x3 (carW a.x2 b.x2 (carW a.x1 b.x1 (carW a.x0 b.x0 0#64))) := rfl
 have h0 := sum_word a.x0 b.x0 0#64 (by decide)
 have h1 := sum_word a.x1 b.x1 _ h0.2
 have h2 := sum_word a.x2 b.x2 _ h1.2
 have h3 := sum_word a.x3 b.x3 _ h2.2
 rw [show (0#64).toNat = 0 from rfl] at h0
 rw [e, e2]
 unfold V4.num
 simp only []
 omega
theorem dif_num (a b : V4) : (subO a b 4).num + b.num = a.num + 115792089237316195423570985008687907853269984665640564039457584007913129639936 * (subB a b 4).toNat ∧ (subB a b 4).toNat ≤ 1 := by
 have e : subO a b 4 = ⟨a.x0 - b.x0 - 0#64, a.x1 - b.x1 - borW a.x0 b.x0 0#64, a.x2 - b.x2 - borW a.x1 b.x1 (borW a.x0 b.x0 0#64), a.x3 - b.x3 - borW a.x2 b.x2 (borW a.x1 b.x1 (borW a.x0 b.x0 0#64))⟩ := rfl
 have e2 : subB a b 4 = borW a.x3 b.x3 (borW a.x2 b.x2 (borW a.x1 b.x1 (borW a.x0 b.x0 0#64))) := rfl
 have h0 := sub_word a.x0 b.x0 0#64 (by decide)
 have h1 := sub_word a.x1 b.x1 _ h0.2
 have h2 := sub_word a.x2 b.x2 _ h1.2
 have h3 := sub_word a.x3 b.x3 _ h2.2
 rw [show (0#64).toNat = 0 from rfl] at h0
 rw [e, e2]
 unfold V4.num
 simp only []
 omega
theorem rsub_num (m a : V4) (c : BitVec 64) : (rsub m a c).num = if c.toNat % 2 = 0 ∧ a.num < m.num then a.num else (a.num + 115792089237316195423570985008687907853269984665640564039457584007913129639936 - m.num) % 115792089237316195423570985008687907853269984665640564039457584007913129639936 := by
 have h := dif_num a m
 have l := V4.num_lt (subO a m 4)
 have la := V4.num_lt a
 have lm := V4.num_lt m
 have hc : c % 2#64 = 0#64 ↔ c.toNat % 2 = 0 := by
  rw [BitVec.toNat_inj.symm]
  rw [BitVec.toNat_umod]
  exact Iff.rfl
 have hb : subB a m 4 = 1#64 ↔ (subB a m 4).toNat = 1 := ⟨fun h => by rw [h]; rfl, fun h => BitVec.eq_of_toNat_eq h⟩
 unfold rsub
 by_cases h1 : a.num < m.num
 ·have : (subB a m 4).toNat = 1 := by omega
  by_cases h2 : c.toNat % 2 = 0
  ·rw [if_pos ⟨hc.2 h2, hb.2 this⟩, if_pos ⟨h2, h1⟩]
  ·rw [if_neg (fun h => h2 (hc.1 h.1)), if_neg (fun h => h2 h.1)]
   omega
 ·have : (subB a m 4).toNat = 0 := by omega
  rw [if_neg (fun h => by have := hb.1 h.2; omega), if_neg (fun h => h1 h.2)]
  omega
theorem radd_num (p a b : V4) (ha : a.num < p.num) (hb : b.num < p.num) : (radd p a b).num = (a.num + b.num) % p.num := by
 have h := sum_num a b
 have l := V4.num_lt (sumO a b 4)
 have lp := V4.num_lt p
 unfold radd
 rw [rsub_num]
 by_cases hx : a.num + b.num < p.num
 ·rw [Nat.mod_eq_of_lt hx, if_pos ⟨by omega, by omega⟩]; omega
 ·have e : (a.num + b.num) % p.num = a.num + b.num - p.num := by rw [Nat.mod_eq_sub_mod (by omega), Nat.mod_eq_of_lt (by omega)]
  rw [e, if_neg (fun h => by omega)]
  omega
theorem radd_lt (p a b : V4) (ha : a.num < p.num) (hb : b.num < p.num) : (radd p a b).num < p.num := by rw [radd_num p a b ha hb]; exact Nat.mod_lt _ (by omega)
end Go.Proofs.YtccgfladbibjbaaGreatDoor
