/- sharecoreref04.One, Mul, Radix, Mod, sharecoreref05.Form: results less than p (loose). -/
import Derived.Test.YtccgfladbibjbaaGreatDoorG30
import Derived.Test.YtccgfladbibjbaaGreatDoorG12
namespace Go.Proofs.YtccgfladbibjbaaGreatDoor
open Go.RowKit
attribute [local go_sem ↓] add_UU sub_UU mul_UU add_UL add_LU sub_UL sub_LU mul_UL neg_at not_at and_UU or_UU xor_UU andNot_UU and_UL or_LU shr_UL shl_UL shr_UN shl_UN shl_LN quo_UL rem_UL quo_UU rem_UU
attribute [local go_sem] wrap64_N wrapi_mod wrap8_U wrap32_U wrap64_B wrap32_B wrap8_D wrapi_B wrap64_UU eq_UU ne_UU eq_UL ne_UL lt_UU le_UU
attribute [local simp] putAgg_size
attribute [local go_sem ↓] loadVar_F loadVar_E loadVar_V loadVar_B32 storeVar_F storeVar_E storeVar_V storeVar_B32 box_F box_E box_V box_B32
attribute [local go_sem ↓ high] V4.cells_val FP.cells_val
attribute [local go_sem] run_loadF run_loadE run_loadV run_loadB32 run_storeF run_storeE run_storeV run_storeB32 run_boxA aggAt_drew aggAt_drewN aggAt_alloc_new aggAt_alloc_past aggAt_setCell_other aggAt_putAgg_other aggAt_putAgg_new putAgg_drew putAgg_size putAgg_alloc_new putAgg_alloc_past putAgg_cell_other putAgg_frozen_other V4.agg_arr FP.agg_arr V4.size_arr FP.size_arr V4.fits FP.fits fitsA_agg4 lt_2 ne_2 en_2 lt_3 ne_3 en_3 lt_4 ne_4 en_4 lt_5 ne_5 en_5 lt_6 ne_6 en_6

/-- Bit: some word. -/
theorem refBit (a : V4) (i : Nat) (hi : i ≤ 255) (w : World) : Calls Tryz.prog 77 #[a.val, .int .i64 i] w fun e w' => ∃ x : BitVec 64, e = .returned (.int .u64 (U x)) ∧ Below w.heap.size w w' := by
  have hw : Int.tdiv (i : Int) 64 = ((i / 64 : Nat) : Int) := by rw [Int.tdiv_eq_ediv_of_nonneg (by omega)]; omega
  have hr : Int.tmod (i : Int) 64 = ((i % 64 : Nat) : Int) := by rw [Int.tmod_eq_emod_of_nonneg (by omega)]; omega
  have hk : i / 64 < 4 := by omega
  have hk' : ((i / 64 : Nat) : Int) < 4 := by omega
  have hk0 : (0 : Int) ≤ ((i / 64 : Nat) : Int) := by omega
  have hwr : IntKind.i64.wrap ((i / 64 : Nat) : Int) = ((i / 64 : Nat) : Int) := by rw [IntKind.wrap_i64]; omega
  have hwr2 : IntKind.i64.wrap ((i % 64 : Nat) : Int) = ((i % 64 : Nat) : Int) := by rw [IntKind.wrap_i64]; omega
  have hgt : ¬ (255 : Int) < (i : Int) := by omega
  have hm : i % 64 < 64 := by omega
  go_enter Tryz.func77, Tryz.ntmps77
  have c := row_cell (w := w.alloc (.cells a.arr.toList.toArray 45)) (heap_alloc_new w _) _ (arr_at a (i / 64) hk)
  generalize a.get (i / 64) = x at *
  generalize i / 64 = q at *
  generalize i % 64 = r at *
  go_wp2
  have HL := Lib.hid (show ∀ j : Nat, (j : Int) < (r : Int) → j < 64 from fun j h => by omega)
  have HB := Lib.hid (show Below w.heap.size w (w.alloc (.cells a.arr 45)) from (Below.refl _ w).alloc (Nat.le_refl _) _)
  clear c
  generalize w.alloc (.cells a.arr 45) = W0 at *
  go_loopw [5, 6] (fun xv kv W => ∃ (y : BitVec 64) (j : Nat), j ≤ r ∧ xv = .int .u64 (U y) ∧ kv = .int .i64 j ∧ W = W0) (fun _ kv _ => 64 - (intOf kv).toNat)
  case atStart => exact ⟨x, 0, by omega, rfl, rfl, rfl⟩
  case round =>
    obtain ⟨y, j, hj, rfl, rfl, rfl⟩ := hrel
    by_cases hlt : j < r
    · have hlt' : (j : Int) < (r : Int) := by omega
      go_wp2
      go_roundw
      case rel => exact ⟨_, j + 1, by omega, rfl, by go_num, trivial⟩
      case measure => (first | (simp [intOf]; done) | (simp [intOf]; omega))
    · have hlt' : ¬ (j : Int) < (r : Int) := by omega
      go_wp2
      go_ret
      exact ⟨⟨_, rfl⟩, HB.out⟩

theorem refOne (w : World) : Calls Tryz.prog 43 #[] w fun e w' => e = .returned V4.unit.val ∧ Below w.heap.size w w' := by
  have b1 : ∀ W, (Instr.build 45 #[(0, .int .u64 1)]).run Tryz.prog W = .ok V4.unit.val W := fun W => by kernel_rfl
  go_enter Tryz.func43, Tryz.ntmps43
  go_wp2_with fail
  exact end_c Tryz.results43 rfl (atV (agg_of_block (v := V4.unit) (heap_alloc_new w _))) rfl ⟨rfl, (Below.refl _ w).alloc (Nat.le_refl _) _⟩

structure MuI (w : World) (p a b v : V4) (W : World) : Prop where
  P : W.heap[w.heap.size]? = some (.cells p.arr 45 (0, 0))
  A : W.heap[w.heap.size + 1]? = some (.cells a.arr 45 (0, 0))
  B : W.heap[w.heap.size + 1 + 1]? = some (.cells b.arr 45 (0, 0))
  R : W.heap[w.heap.size + 1 + 1 + 1]? = some (.cells V4.zero.arr 45 (0, 0))
  O : W.heap[w.heap.size + 1 + 1 + 1 + 1]? = some (.cells v.arr 45 (0, 0))
  L : Below w.heap.size w W
theorem MuI.below {w W W' : World} {p a b v : V4} (h : MuI w p a b v W) (hb : Below W.heap.size W W') : MuI w p a b v W' := ⟨blk_below h.P hb rfl, blk_below h.A hb rfl, blk_below h.B hb rfl, blk_below h.R hb rfl, blk_below h.O hb rfl, h.L.trans (hb.mono h.L.size)⟩
theorem MuI.put {w W : World} {p a b v : V4} (h : MuI w p a b v W) (u : V4) : MuI w p a b u (putAgg W (w.heap.size + 1 + 1 + 1 + 1) 0 u.arr) :=
  ⟨(putAgg_block _ _ _ _ _ (by omega)).trans h.P, (putAgg_block _ _ _ _ _ (by omega)).trans h.A, (putAgg_block _ _ _ _ _ (by omega)).trans h.B, (putAgg_block _ _ _ _ _ (by omega)).trans h.R, vec_put h.O rfl, putAgg_below h.L (by omega)⟩
set_option maxRecDepth 20000 in
set_option maxHeartbeats 2000000 in
theorem refMul (p a b : V4) (ha : a.num < p.num) (w : World) : Calls Tryz.prog 41 #[p.val, a.val, b.val] w fun e w' => ∃ v : V4, e = .returned v.val ∧ v.num < p.num ∧ Below w.heap.size w w' := by
  have HA := Lib.hid (refAdd p)
  have HT := Lib.hid (refBit b)
  go_enter Tryz.func41, Tryz.ntmps41
  go_wp2
  (obtain ⟨W0, hW0⟩ : ∃ W0 : World, W0 = (((((w).alloc (.cells p.arr 45)).alloc (.cells a.arr 45)).alloc (.cells b.arr 45)).alloc (.cells #[.int .u64 0, .int .u64 0, .int .u64 0, .int .u64 0] 45)).alloc (.cells #[.int .u64 0, .int .u64 0, .int .u64 0, .int .u64 0] 45) := ⟨_, rfl⟩); (have gW0 : ∀ (j : Nat) (o : Obj), ([Obj.cells p.arr 45, Obj.cells a.arr 45, Obj.cells b.arr 45, Obj.cells #[.int .u64 0, .int .u64 0, .int .u64 0, .int .u64 0] 45, Obj.cells #[.int .u64 0, .int .u64 0, .int .u64 0, .int .u64 0] 45] : List Obj)[j]? = some o → W0.heap[w.heap.size + j]? = some o := by rw [hW0]; exact allocs_get w _); (have zW0 : W0.heap.size = w.heap.size + 5 := by rw [hW0]; exact allocs_size w [Obj.cells p.arr 45, Obj.cells a.arr 45, Obj.cells b.arr 45, Obj.cells #[.int .u64 0, .int .u64 0, .int .u64 0, .int .u64 0] 45, Obj.cells #[.int .u64 0, .int .u64 0, .int .u64 0, .int .u64 0] 45]); (have bW0 : Below w.heap.size w W0 := by rw [hW0]; exact allocs_below w [Obj.cells p.arr 45, Obj.cells a.arr 45, Obj.cells b.arr 45, Obj.cells #[.int .u64 0, .int .u64 0, .int .u64 0, .int .u64 0] 45, Obj.cells #[.int .u64 0, .int .u64 0, .int .u64 0, .int .u64 0] 45]); (rw [← hW0]); (clear hW0)
  have H0 := Lib.hid (show MuI w p a b V4.zero W0 from ⟨gW0 0 _ rfl, gW0 1 _ rfl, gW0 2 _ rfl, gW0 3 _ rfl, gW0 4 _ rfl, bW0⟩)
  have hp : 0 < p.num := by omega
  clear gW0 bW0 zW0
  go_loopw [8] (fun iv W => ∃ (i : Nat) (v : V4), i ≤ 256 ∧ v.num < p.num ∧ iv = .int .i64 ((i : Int) - 1) ∧ MuI w p a b v W) (fun iv _ => ((intOf iv) + 1).toNat)
  case atStart => exact ⟨256, V4.zero, by omega, hp, rfl, H0.out⟩
  case round =>
    clear H0
    obtain ⟨i, v, hi, hv, rfl, hI⟩ := hrel
    by_cases h0 : 0 < i
    · obtain ⟨k, rfl⟩ : ∃ k, i = k + 1 := ⟨i - 1, by omega⟩
      rw [show ((k + 1 : Nat) : Int) - 1 = (k : Int) from by omega] at *
      have hk0 : (0 : Int) ≤ (k : Int) := by omega
      have pP := agg_of_block hI.P
      have pO := agg_of_block hI.O
      have HI := Lib.hid hI
      clear hI
      go_wp2_with fail
      refine (HA.out v v _).mono ?_
      rintro e w1 ⟨rfl, hb⟩
      have HI1 := Lib.hid (HI.out.below hb)
      have hv1 := radd_lt p v v hv hv
      generalize radd p v v = u at *
      clear pP pO HI hb hv
      have pO := agg_of_block HI1.out.O
      have pB := agg_of_block HI1.out.B
      go_wp2_with fail
      have HI2 := Lib.hid (HI1.out.put u)
      generalize putAgg w1 _ 0 u.arr = w2 at *
      refine (HT.out k (by omega) _).mono ?_
      rintro e w3 ⟨x, rfl, hb⟩
      have HI3 := Lib.hid (HI2.out.below hb)
      clear pB pO HI1 HI2 hb
      have pO := agg_of_block HI3.out.O
      have pP := agg_of_block HI3.out.P
      have pA := agg_of_block HI3.out.A
      by_cases hx : x = 1#64
      · have e1 : (x == 1#64) = true := by simpa using hx
        clear hx
        go_wp2_with fail
        refine (HA.out u a _).mono ?_
        rintro e w4 ⟨rfl, hb⟩
        have HI4 := Lib.hid (HI3.out.below hb)
        have hv2 := radd_lt p u a hv1 ha
        generalize radd p u a = t at *
        clear pP pO pA HI3 hb
        have pO := agg_of_block HI4.out.O
        go_wp2_with fail
        go_roundw
        case rel => exact ⟨k, t, by omega, hv2, by go_num, HI4.out.put t⟩
        case measure => (first | (simp [intOf]; done) | (simp [intOf]; omega))
      · have e1 : (x == 1#64) = false := beq_eq_false_iff_ne.2 hx
        clear hx
        go_wp2_with fail
        go_roundw
        case rel => exact ⟨k, u, by omega, hv1, by go_num, HI3.out⟩
        case measure => (first | (simp [intOf]; done) | (simp [intOf]; omega))
    · obtain rfl : i = 0 := by omega
      have pO := agg_of_block hI.O
      have pR := agg_of_block hI.R
      have HI := Lib.hid hI
      clear hI
      go_wp2_with fail
      exact end_c Tryz.results41 rfl (atV (agg_of_block (vec_put HI.out.R rfl))) rfl ⟨v, rfl, hv, putAgg_below HI.out.L (by omega)⟩

set_option maxRecDepth 20000 in
set_option maxHeartbeats 2000000 in
theorem refMd (p a : V4) (hp : 1 < p.num) (w : World) : Calls Tryz.prog 18 #[p.val, a.val] w fun e w' => ∃ v : V4, e = .returned v.val ∧ v.num < p.num ∧ Below w.heap.size w w' := by
  have HM := Lib.hid (refMul p V4.unit a (by rw [show V4.unit.num = 1 from by decide]; exact hp))
  go_enter Tryz.func18, Tryz.ntmps18
  go_upto_region 1 with (fail)
  (obtain ⟨W0, hW0⟩ : ∃ W0 : World, W0 = (((w).alloc (.cells p.arr 45)).alloc (.cells a.arr 45)).alloc (.cells #[.int .u64 0, .int .u64 0, .int .u64 0, .int .u64 0] 45) := ⟨_, rfl⟩); (have gW0 : ∀ (j : Nat) (o : Obj), ([Obj.cells p.arr 45, Obj.cells a.arr 45, Obj.cells #[.int .u64 0, .int .u64 0, .int .u64 0, .int .u64 0] 45] : List Obj)[j]? = some o → W0.heap[w.heap.size + j]? = some o := by rw [hW0]; exact allocs_get w _); (have zW0 : W0.heap.size = w.heap.size + 3 := by rw [hW0]; exact allocs_size w [Obj.cells p.arr 45, Obj.cells a.arr 45, Obj.cells #[.int .u64 0, .int .u64 0, .int .u64 0, .int .u64 0] 45]); (have bW0 : Below w.heap.size w W0 := by rw [hW0]; exact allocs_below w [Obj.cells p.arr 45, Obj.cells a.arr 45, Obj.cells #[.int .u64 0, .int .u64 0, .int .u64 0, .int .u64 0] 45]); (rw [← hW0]); (clear hW0)
  have gR : W0.heap[w.heap.size + 1 + 1]? = some (.cells V4.zero.arr 45 (0, 0)) := gW0 2 _ rfl
  have pP : aggAt W0 4 w.heap.size 0 = some p.val := agg_of_block (gW0 0 _ rfl)
  have pA : aggAt W0 4 (w.heap.size + 1) 0 = some a.val := agg_of_block (gW0 1 _ rfl)
  ((refine region_held (h := 3) (by kernel_rfl) (by kernel_rfl) (fun W' => (Below W0.heap.size W0 W' ∧ aggAt W' 4 (w.heap.size) (0) = some (p.val) ∧ aggAt W' 4 (w.heap.size + 1) (0) = some (a.val))) ⟨(Below.refl _ W0).drew, pP, pA⟩ ?_); (have hSB : ∀ W' W'' : World, (Below W0.heap.size W0 W' ∧ aggAt W' 4 (w.heap.size) (0) = some (p.val) ∧ aggAt W' 4 (w.heap.size + 1) (0) = some (a.val)) → Below W'.heap.size W' W'' → (Below W0.heap.size W0 W'' ∧ aggAt W'' 4 (w.heap.size) (0) = some (p.val) ∧ aggAt W'' 4 (w.heap.size + 1) (0) = some (a.val)) := fun W' W'' ⟨h0, h1, h2⟩ hb => ⟨h0.trans (hb.mono h0.size), agg_keep h1 hb, agg_keep h2 hb⟩); (clear pP pA); (((try simp only [List.take_succ_cons, List.take_zero, List.drop_succ_cons, List.drop_zero]); repeat (apply chain_op; (focus (intro W' hS' K hK; (try simp only [Act.put, List.setIfInBounds_toArray, List.set_cons_zero, List.set_cons_succ] at hK); (have hS'' := hS'); (obtain ⟨s0, s1, s2⟩ := hS''); go_simp; (first | exact hK _ hS' | (with_reducible refine Calls.mono (refOne _) ?_; rintro e W'' ⟨rfl, hb''⟩; exact hK _ (hSB _ _ hS' hb''))); done)); (try simp only [Act.put, List.setIfInBounds_toArray, List.set_cons_zero, List.set_cons_succ])); unfold chain)); (rintro W' ⟨s0, s1, s2⟩); (clear hSB))
  have hz : w.heap.size + 3 ≤ W0.heap.size := by omega
  have gR1 := blk_below gR s0 rfl
  have HB := Lib.hid (bW0.trans (s0.mono (by omega)))
  clear gW0 zW0 bW0 gR s0 s1 s2
  go_wp2_with fail
  refine (HM.out _).mono ?_
  rintro e w2 ⟨v, rfl, hv, hb⟩
  have HR := Lib.hid (blk_below gR1 hb rfl)
  have HB2 := Lib.hid (HB.out.trans (hb.mono HB.out.size))
  have pR := agg_of_block HR.out
  clear gR1 HB hb
  go_wp2_with fail
  exact end_c Tryz.results18 rfl (atV (agg_of_block (vec_put HR.out rfl))) rfl ⟨v, rfl, hv, putAgg_below HB2.out (by omega)⟩

/-- 2^k modulo p by doubling. -/
def radT (p : V4) : Nat → V4
  | 0 => V4.unit
  | k + 1 => radd p (radT p k) (radT p k)
theorem radT_lt (p : V4) (hp : 1 < p.num) : ∀ k, (radT p k).num < p.num
  | 0 => by rw [show (radT p 0).num = 1 from by show V4.unit.num = 1; decide]; exact hp
  | k + 1 => radd_lt p _ _ (radT_lt p hp k) (radT_lt p hp k)
structure RaI (w : World) (p v : V4) (b : Nat) (W : World) : Prop where
  P : W.heap[w.heap.size]? = some (.cells p.arr 45 (0, 0))
  R : W.heap[w.heap.size + 1]? = some (.cells V4.zero.arr 45 (0, 0))
  O : W.heap[b]? = some (.cells v.arr 45 (0, 0))
  L : Below w.heap.size w W
theorem RaI.below {w W W' : World} {p v : V4} {b : Nat} (h : RaI w p v b W) (hb : Below W.heap.size W W') : RaI w p v b W' := ⟨blk_below h.P hb rfl, blk_below h.R hb rfl, blk_below h.O hb rfl, h.L.trans (hb.mono h.L.size)⟩
theorem RaI.put {w W : World} {p v : V4} {b : Nat} (h : RaI w p v b W) (hb : w.heap.size + 1 < b) (u : V4) : RaI w p u b (putAgg W b 0 u.arr) :=
  ⟨(putAgg_block _ _ _ _ _ (by omega)).trans h.P, (putAgg_block _ _ _ _ _ (by omega)).trans h.R, vec_put h.O rfl, putAgg_below h.L (by omega)⟩
set_option maxRecDepth 20000 in
set_option maxHeartbeats 2000000 in
theorem refRadix (p : V4) (w : World) : Calls Tryz.prog 42 #[p.val] w fun e w' => e = .returned (radT p 256).val ∧ Below w.heap.size w w' := by
  have HA := Lib.hid (refAdd p)
  go_enter Tryz.func42, Tryz.ntmps42
  go_wp2_with fail
  (obtain ⟨W0, hW0⟩ : ∃ W0 : World, W0 = ((w).alloc (.cells p.arr 45)).alloc (.cells #[.int .u64 0, .int .u64 0, .int .u64 0, .int .u64 0] 45) := ⟨_, rfl⟩); (have gW0 : ∀ (j : Nat) (o : Obj), ([Obj.cells p.arr 45, Obj.cells #[.int .u64 0, .int .u64 0, .int .u64 0, .int .u64 0] 45] : List Obj)[j]? = some o → W0.heap[w.heap.size + j]? = some o := by rw [hW0]; exact allocs_get w _); (have zW0 : W0.heap.size = w.heap.size + 2 := by rw [hW0]; exact allocs_size w [Obj.cells p.arr 45, Obj.cells #[.int .u64 0, .int .u64 0, .int .u64 0, .int .u64 0] 45]); (have bW0 : Below w.heap.size w W0 := by rw [hW0]; exact allocs_below w [Obj.cells p.arr 45, Obj.cells #[.int .u64 0, .int .u64 0, .int .u64 0, .int .u64 0] 45]); (rw [← hW0]); (clear hW0)
  have gP : W0.heap[w.heap.size]? = some (.cells p.arr 45 (0, 0)) := gW0 0 _ rfl
  have gR : W0.heap[w.heap.size + 1]? = some (.cells V4.zero.arr 45 (0, 0)) := gW0 1 _ rfl
  refine (refOne _).mono ?_
  rintro e w1 ⟨rfl, hb⟩
  have gP1 := blk_below gP hb rfl
  have gR1 := blk_below gR hb rfl
  have hb1 := bW0.trans (hb.mono (by omega))
  have hz : w.heap.size + 1 < w1.heap.size := by have := hb.size; omega
  have H0 := Lib.hid (show RaI w p V4.unit w1.heap.size (w1.alloc (.cells V4.unit.arr 45)) from
    ⟨(Below.heap_alloc w1 _ _ (by omega)).trans gP1, (Below.heap_alloc w1 _ _ (by omega)).trans gR1, heap_alloc_new w1 _, hb1.alloc (by omega) _⟩)
  clear gP gR gP1 gR1 hb1 hb gW0 zW0 bW0
  go_wp2
  go_loopw [4] (fun iv W => ∃ k : Nat, k ≤ 256 ∧ iv = .int .i64 k ∧ RaI w p (radT p k) w1.heap.size W) (fun iv _ => 256 - (intOf iv).toNat)
  case atStart => exact ⟨0, by omega, rfl, H0.out⟩
  case round =>
    clear H0
    obtain ⟨k, hk, rfl, hI⟩ := hrel
    by_cases hlt : k < 256
    · have hlt' : (k : Int) < 256 := by omega
      have HT := Lib.hid (show radd p (radT p k) (radT p k) = radT p (k + 1) from rfl)
      generalize radT p k = v at *
      have pP := agg_of_block hI.P
      have pO := agg_of_block hI.O
      have HI := Lib.hid hI
      clear hI
      go_wp2_with fail
      refine (HA.out v v _).mono ?_
      rintro e w2 ⟨rfl, hb⟩
      have HI1 := Lib.hid (HI.out.below hb)
      generalize radd p v v = u at *
      clear pP pO HI hb
      have pO := agg_of_block HI1.out.O
      go_wp2_with fail
      go_roundw
      case rel => exact ⟨k + 1, by omega, by go_num, by rw [← HT.out]; exact HI1.out.put hz u⟩
      case measure => (first | (simp [intOf]; done) | (simp [intOf]; omega))
    · obtain rfl : k = 256 := by omega
      obtain ⟨v, hv⟩ : ∃ v, radT p 256 = v := ⟨_, rfl⟩
      rw [hv] at hI
      have HV := Lib.hid hv
      clear hv
      have pO := agg_of_block hI.O
      have pR := agg_of_block hI.R
      have HI := Lib.hid hI
      clear hI
      go_wp2_with fail
      exact end_c Tryz.results42 rfl (atV (agg_of_block (vec_put HI.out.R rfl))) rfl ⟨by rw [HV.out], putAgg_below HI.out.L (by omega)⟩

set_option maxRecDepth 20000 in
set_option maxHeartbeats 2000000 in
theorem refForm (p a : V4) (hp : 1 < p.num) (w : World) : Calls Tryz.prog 17 #[p.val, a.val] w fun e w' => ∃ v : V4, e = .returned v.val ∧ v.num < p.num ∧ Below w.heap.size w w' := by
  have HM := Lib.hid (refMul p (radT p 256) a (radT_lt p hp 256))
  have HX := Lib.hid (fun W => refRadix p W)
  generalize radT p 256 = r at *
  go_enter Tryz.func17, Tryz.ntmps17
  go_upto_region 1 with (fail)
  (obtain ⟨W0, hW0⟩ : ∃ W0 : World, W0 = (((w).alloc (.cells p.arr 45)).alloc (.cells a.arr 45)).alloc (.cells #[.int .u64 0, .int .u64 0, .int .u64 0, .int .u64 0] 45) := ⟨_, rfl⟩); (have gW0 : ∀ (j : Nat) (o : Obj), ([Obj.cells p.arr 45, Obj.cells a.arr 45, Obj.cells #[.int .u64 0, .int .u64 0, .int .u64 0, .int .u64 0] 45] : List Obj)[j]? = some o → W0.heap[w.heap.size + j]? = some o := by rw [hW0]; exact allocs_get w _); (have zW0 : W0.heap.size = w.heap.size + 3 := by rw [hW0]; exact allocs_size w [Obj.cells p.arr 45, Obj.cells a.arr 45, Obj.cells #[.int .u64 0, .int .u64 0, .int .u64 0, .int .u64 0] 45]); (have bW0 : Below w.heap.size w W0 := by rw [hW0]; exact allocs_below w [Obj.cells p.arr 45, Obj.cells a.arr 45, Obj.cells #[.int .u64 0, .int .u64 0, .int .u64 0, .int .u64 0] 45]); (rw [← hW0]); (clear hW0)
  have gR : W0.heap[w.heap.size + 1 + 1]? = some (.cells V4.zero.arr 45 (0, 0)) := gW0 2 _ rfl
  have pP : aggAt W0 4 w.heap.size 0 = some p.val := agg_of_block (gW0 0 _ rfl)
  have pA : aggAt W0 4 (w.heap.size + 1) 0 = some a.val := agg_of_block (gW0 1 _ rfl)
  ((refine region_held (h := 4) (by kernel_rfl) (by kernel_rfl) (fun W' => (Below W0.heap.size W0 W' ∧ aggAt W' 4 (w.heap.size) (0) = some (p.val) ∧ aggAt W' 4 (w.heap.size + 1) (0) = some (a.val))) ⟨(Below.refl _ W0).drew, pP, pA⟩ ?_); (have hSB : ∀ W' W'' : World, (Below W0.heap.size W0 W' ∧ aggAt W' 4 (w.heap.size) (0) = some (p.val) ∧ aggAt W' 4 (w.heap.size + 1) (0) = some (a.val)) → Below W'.heap.size W' W'' → (Below W0.heap.size W0 W'' ∧ aggAt W'' 4 (w.heap.size) (0) = some (p.val) ∧ aggAt W'' 4 (w.heap.size + 1) (0) = some (a.val)) := fun W' W'' ⟨h0, h1, h2⟩ hb => ⟨h0.trans (hb.mono h0.size), agg_keep h1 hb, agg_keep h2 hb⟩); (clear pP pA); (((try simp only [List.take_succ_cons, List.take_zero, List.drop_succ_cons, List.drop_zero]); repeat (apply chain_op; (focus (intro W' hS' K hK; (try simp only [Act.put, List.setIfInBounds_toArray, List.set_cons_zero, List.set_cons_succ] at hK); (have hS'' := hS'); (obtain ⟨s0, s1, s2⟩ := hS''); go_simp; (first | exact hK _ hS' | (with_reducible refine Calls.mono (HX.out _) ?_; rintro e W'' ⟨rfl, hb''⟩; exact hK _ (hSB _ _ hS' hb''))); done)); (try simp only [Act.put, List.setIfInBounds_toArray, List.set_cons_zero, List.set_cons_succ])); unfold chain)); (rintro W' ⟨s0, s1, s2⟩); (clear hSB))
  have hz : w.heap.size + 3 ≤ W0.heap.size := by omega
  have gR1 := blk_below gR s0 rfl
  have HB := Lib.hid (bW0.trans (s0.mono (by omega)))
  clear gW0 zW0 bW0 gR s0 s1 s2
  go_wp2_with fail
  refine (HM.out _).mono ?_
  rintro e w2 ⟨v, rfl, hv, hb⟩
  have HR := Lib.hid (blk_below gR1 hb rfl)
  have HB2 := Lib.hid (HB.out.trans (hb.mono HB.out.size))
  have pR := agg_of_block HR.out
  clear gR1 HB hb
  go_wp2_with fail
  exact end_c Tryz.results17 rfl (atV (agg_of_block (vec_put HR.out rfl))) rfl ⟨v, rfl, hv, putAgg_below HB2.out (by omega)⟩
end Go.Proofs.YtccgfladbibjbaaGreatDoor
