/- Package bytecode: Wide. -/
import Derived.Test.YtccgfladbibjbaaGreatDoorKG13
import Derived.Deep.DeepCutAuto
namespace Go.Proofs.YtccgfladbibjbaaGreatDoor
open Go.RowKit
attribute [local go_sem ↓] add_UU sub_UU mul_UU add_UL add_LU sub_UL sub_LU mul_UL neg_at not_at and_UU or_UU xor_UU andNot_UU and_UL or_LU shr_UL shl_UL shr_UN shl_UN shl_LN quo_UL rem_UL quo_UU rem_UU
attribute [local go_sem] wrap64_N wrapi_mod wrap8_U wrap32_U wrap64_B wrap32_B wrap8_D wrapi_B wrap64_UU eq_UU ne_UU eq_UL ne_UL lt_UU le_UU
attribute [local simp] putAgg_size
attribute [local go_sem ↓] loadVar_F loadVar_E loadVar_V loadVar_B32 storeVar_F storeVar_E storeVar_V storeVar_B32 box_F box_E box_V box_B32
attribute [local go_sem ↓ high] V4.cells_val FP.cells_val
attribute [local go_sem] run_loadF run_loadE run_loadV run_loadB32 run_storeF run_storeE run_storeV run_storeB32 run_boxA aggAt_drew aggAt_drewN aggAt_alloc_new aggAt_alloc_past aggAt_setCell_other aggAt_putAgg_other aggAt_putAgg_new putAgg_drew putAgg_size putAgg_alloc_new putAgg_alloc_past putAgg_cell_other putAgg_frozen_other V4.agg_arr FP.agg_arr V4.size_arr FP.size_arr V4.fits FP.fits fitsA_agg4 lt_2 ne_2 en_2 lt_3 ne_3 en_3 lt_4 ne_4 en_4 lt_5 ne_5 en_5 lt_6 ne_6 en_6
attribute [local go_sem ↓ high] bval_cells
attribute [local go_sem] agg_bytes byteVals_size
theorem load_range (b o : Nat) (l : List (BitVec 8)) (hl : l.length = 32) {w : World} (hc : w.rangeAt b o (byteVals l)) : (loadA 64 32 ⟨b, o, none⟩).run Tryz.prog w = .ok (bval l) w :=
 run_loadVar_mid (P := Tryz.prog) w b o 64 (byteVals l) _ hc Tryz.underlying64 rfl (by rw [byteVals_length, hl]; kernel_rfl)
def WS (w : World) (f : FP) (ex : List (Nat × Value)) (b o : Nat) (l : List (BitVec 8)) (W : World) : Prop :=
 aggAt W 14 w.heap.size 0 = some f.val ∧ aggAt W 4 w.heap.size 10 = some f.sq.val ∧ (aggAt W 4 (w.heap.size + 1) 0).isSome = true ∧ W.rangeAt b o (byteVals l) ∧ Below w.heap.size w W ∧ w.heap.size + 1 < W.heap.size ∧ ∀ p ∈ ex, aggAt W 4 p.1 0 = some p.2
theorem WS.start {w : World} {f : FP} {b o : Nat} {l : List (BitVec 8)} (h : w.rangeAt b o (byteVals l)) : WS w f [] b o l (((w.alloc (.cells f.arr 67)).alloc (.cells #[.int .u64 0, .int .u64 0, .int .u64 0, .int .u64 0] 50)).drew) := by
 have hS := ((IsF.newAt w f _ rfl).alloc (.cells #[.int .u64 0, .int .u64 0, .int .u64 0, .int .u64 0] 50)).parts
 have hB : Below w.heap.size w (((w.alloc (.cells f.arr 67)).alloc (.cells #[.int .u64 0, .int .u64 0, .int .u64 0, .int .u64 0] 50)).drew) := (by repeat (first | with_reducible assumption | with_reducible exact Below.refl _ _ | (with_reducible refine putAgg_below ?_ (by first | omega | (simp; done) | (simp; omega))) | (with_reducible refine Below.alloc ?_ (by first | omega | (simp; done) | (simp; omega)) _) | (with_reducible refine Below.setCell ?_ (by first | omega | (simp; done) | (simp; omega)) _) | (with_reducible refine Below.drew ?_) | (with_reducible refine Below.trans ?_ (Below.mono (by with_reducible assumption) (by first | omega | (simp; done) | (simp; omega))))))
 refine ⟨hS.1, hS.2.2.2, ?_, rangeAt_below h hB, hB, by simp, fun p hp => by cases hp⟩
 have := aggAt_alloc_at (w.alloc (.cells f.arr 67)) #[.int .u64 0, .int .u64 0, .int .u64 0, .int .u64 0] 50 4 (w.heap.size + 1) (by simp) rfl
 rw [aggAt_drew, this]
 rfl
theorem WS.sz {w W : World} {f : FP} {ex : List (Nat × Value)} {b o : Nat} {l : List (BitVec 8)} (h : WS w f ex b o l W) : w.heap.size + 1 < W.heap.size := h.2.2.2.2.2.1
theorem WS.to {w W W' : World} {f : FP} {ex : List (Nat × Value)} {b o : Nat} {l : List (BitVec 8)} (h : WS w f ex b o l W) (hb : Below (w.heap.size + 1 + 1) W W') (hr : W'.rangeAt b o (byteVals l)) (hx : ∀ p ∈ ex, W'.heap[p.1]? = W.heap[p.1]?) : WS w f ex b o l W' :=
 ⟨(aggAt_congr (hb.block _ (by omega))).trans h.1, (aggAt_congr (hb.block _ (by omega))).trans h.2.1, by rw [aggAt_congr (hb.block _ (by omega))]; exact h.2.2.1, hr, h.2.2.2.2.1.trans (hb.mono (by omega)), Nat.lt_of_lt_of_le h.sz hb.size, fun p hp => (aggAt_congr (hx p hp)).trans (h.2.2.2.2.2.2 p hp)⟩
theorem WS.call {w W W' : World} {f : FP} {ex : List (Nat × Value)} {b o : Nat} {l : List (BitVec 8)} (h : WS w f ex b o l W) (hb : Below W.heap.size W W') : WS w f ex b o l W' :=
 h.to (hb.mono h.sz) (rangeAt_below h.2.2.2.1 hb) (fun p hp => hb.block _ (aggAt_lt (h.2.2.2.2.2.2 p hp)))
theorem WS.alloc {w W : World} {f : FP} {ex : List (Nat × Value)} {b o : Nat} {l : List (BitVec 8)} (h : WS w f ex b o l W) (ob : Obj) : WS w f ex b o l (W.alloc ob) := h.call ((Below.refl _ W).alloc (Nat.le_refl _) ob)
theorem WS.drew {w W : World} {f : FP} {ex : List (Nat × Value)} {b o : Nat} {l : List (BitVec 8)} (h : WS w f ex b o l W) : WS w f ex b o l W.drew := h.call (Below.refl _ W).drew
theorem WS.fresh {w W : World} {f : FP} {ex : List (Nat × Value)} {b o : Nat} {l : List (BitVec 8)} (_h : WS w f ex b o l W) : aggAt (W.alloc (.cells #[.int .u64 0, .int .u64 0, .int .u64 0, .int .u64 0] 50)) 4 W.heap.size 0 = some (.agg #[.int .u64 0, .int .u64 0, .int .u64 0, .int .u64 0]) := aggAt_alloc_at W _ _ 4 _ rfl rfl
theorem WS.re {w W : World} {f : FP} {b o b' o' g : Nat} {v : Value} {l l' : List (BitVec 8)} (h : WS w f [] b o l W) (hr : w.rangeAt b' o' (byteVals l')) (hx : aggAt W 4 g 0 = some v) : WS w f [(g, v)] b' o' l' W :=
 ⟨h.1, h.2.1, h.2.2.1, rangeAt_below hr h.2.2.2.2.1, h.2.2.2.2.1, h.sz, fun p hp => by simp at hp; subst hp; exact hx⟩
theorem WS.put {w W : World} {f : FP} {ex : List (Nat × Value)} {b o g : Nat} {l : List (BitVec 8)} (h : WS w f ex b o l W) (hr : w.rangeAt b o (byteVals l)) (hg : w.heap.size + 1 < g) (hx : ∀ p ∈ ex, p.1 ≠ g) (cs : Array Value) : WS w f ex b o l (putAgg W g 0 cs) := by
 have hB : Below (w.heap.size + 1 + 1) W (putAgg W g 0 cs) := putAgg_below (Below.refl _ W) (by omega)
 exact h.to hB (rangeAt_below hr (h.2.2.2.2.1.trans (hB.mono (by omega)))) (fun p hp => putAgg_block W g 0 cs p.1 (hx p hp))
def wideX (f : FP) (l : List (BitVec 8)) : V4 := madd f (mmul f (numV (l.take 32)) f.sq) (mmul f (mmul f (numV (l.drop 32)) f.sq) f.sq)
set_option maxRecDepth 20000 in
set_option maxHeartbeats 1000000 in
theorem bcWide (f : FP) (b off cap : Nat) (l : List (BitVec 8)) (hl : l.length = 64) (hcap : 64 ≤ cap) (w : World) (hr : w.rangeAt b off (byteVals l)) :
  Calls Tryz.prog 148 #[f.val, .slice (some ⟨b, off, none⟩) 64 cap] w fun e w' => e = .returned (.tuple #[(wideX f l).val, .int .i64 0]) ∧ Below w.heap.size w w' := by
 have HR1 := Lib.hid (rangeAt_take hr 32)
 have HR2 := Lib.hid (rangeAt_drop hr 32)
 have l1 : (l.take 32).length = 32 := by simp; omega
 have l2 : (l.drop 32).length = 32 := by simp; omega
 have HN1 := Lib.hid (number (l.take 32) l1)
 have HN2 := Lib.hid (number (l.drop 32) l2)
 have HX := Lib.hid (show wideX f l = madd f (mmul f (numV (l.take 32)) f.sq) (mmul f (mmul f (numV (l.drop 32)) f.sq) f.sq) from rfl)
 rw [HX.out]
 generalize l.take 32 = la at *
 generalize l.drop 32 = lb at *
 have HT1 := Lib.hid (montTo f (numV la))
 have HT2 := Lib.hid (montTo f (numV lb))
 generalize numV la = va at *
 generalize numV lb = vb at *
 generalize mmul f va f.sq = lo at *
 generalize mmul f vb f.sq = hi at *
 have HM := Lib.hid (montMul f hi f.sq)
 generalize mmul f hi f.sq = hs at *
 have HA := Lib.hid (montAdd f lo hs)
 generalize madd f lo hs = r at *
 have s1 := cut_h (some ⟨b, off, none⟩) 64 cap 32 (by omega) .i64
 have s2 := cut_l (some ⟨b, off, none⟩) 64 cap 32 (by omega) .i64
 rw [cutA_some b off 32 cap (by omega)] at s2
 have s3 := arrayAt32 (some ⟨b, off, none⟩) cap
 have s4 := arrayAt32 (some ⟨b, off + 32, none⟩) (cap - 32)
 simp only [Int.cast_ofNat_Int] at s1 s2
 clear hr HX hl
 go_enter Tryz.func148, Tryz.ntmps148
 go_upto_region 3 with (fail)
 go_cut [6] (fun s W => ∃ g, s = .pointer (some ⟨g, 0, none⟩) ∧ aggAt W 4 g 0 = some lo.val ∧ w.heap.size + 1 < g ∧ WS w f [] b off la W)
 case first =>
  have hS0 : WS w f [] b off la (((w.alloc (.cells f.arr 67)).alloc (.cells #[.int .u64 0, .int .u64 0, .int .u64 0, .int .u64 0] 50)).drew) := WS.start HR1.out
  refine wp_region_held_drew (S := WS w f [] b (off) la) (by kernel_rfl) hS0 (fun hH0 => ?_)
  refine wpAnyH_take (i := 0) (oi := { dst := some 12, op := Op.load 67 (Operand.tmp 2), type := 67, pos := "bytecode.go:54", after := #[], guard := none }) (v := f.val) rfl (by kernel_rfl) (by kernel_rfl) (by kernel_rfl) (fun _ _ _ h => h) (.inl ⟨by rfl, fun W hW => by have hF := hW.1; go_simp⟩) (by assumption) ?_
  (try simp only [Act.put, List.setIfInBounds_toArray, List.set_cons_zero, List.set_cons_succ])
  refine wpAnyH_take (i := 1) (oi := { dst := some 13, op := Op.move (Operand.tmp 1), type := 22, pos := "bytecode.go:54", after := #[], guard := none }) (v := .slice (some ⟨b, off, none⟩) 64 cap) rfl (by kernel_rfl) (by kernel_rfl) (by kernel_rfl) (fun _ _ _ h => h) (.inl ⟨by rfl, fun W hW => by go_simp⟩) (by assumption) ?_
  (try simp only [Act.put, List.setIfInBounds_toArray, List.set_cons_zero, List.set_cons_succ])
  refine wpAnyH_take (i := 2) (oi := { dst := some 14, op := Op.slice 22 (Operand.tmp 13) none (some (Operand.const (Value.int IntKind.i64 32))) none, type := 22, pos := "bytecode.go:54", after := #[{ on := 1, ground := Ground.data }], guard := none }) (v := .slice (some ⟨b, off, none⟩) 32 cap) rfl (by kernel_rfl) (by kernel_rfl) (by kernel_rfl) (fun _ _ _ h => h) (.inl ⟨by rfl, fun W hW => by go_simp⟩) (by assumption) ?_
  (try simp only [Act.put, List.setIfInBounds_toArray, List.set_cons_zero, List.set_cons_succ])
  refine wpAnyH_take (i := 3) (oi := { dst := some 15, op := Op.sliceToArrayPointer 64 (Operand.tmp 14), type := 0, pos := "bytecode.go:54", after := #[{ on := 2, ground := Ground.data }], guard := none }) (v := .pointer (some ⟨b, off, none⟩)) rfl (by kernel_rfl) (by kernel_rfl) (by kernel_rfl) (fun _ _ _ h => h) (.inl ⟨by rfl, fun W hW => by go_simp⟩) (by assumption) ?_
  (try simp only [Act.put, List.setIfInBounds_toArray, List.set_cons_zero, List.set_cons_succ])
  refine wpAnyH_take (i := 4) (oi := { dst := some 16, op := Op.load 64 (Operand.tmp 15), type := 64, pos := "bytecode.go:54", after := #[{ on := 3, ground := Ground.data }], guard := none }) (v := bval la) rfl (by kernel_rfl) (by kernel_rfl) (by kernel_rfl) (fun _ _ _ h => h) (.inl ⟨by rfl, fun W hW => by have hF := load_range b (off) la l1 hW.2.2.2.1; go_simp⟩) (by assumption) ?_
  (try simp only [Act.put, List.setIfInBounds_toArray, List.set_cons_zero, List.set_cons_succ])
  refine wpAnyH_ready (rs := [5, 7]) (by kernel_rfl) (by simp) ?_
  refine AllReadyH.cons (o := { dst := some 17, op := Op.call { callee := Callee.value (Operand.func 66), args := #[Operand.tmp 16], argTypes := #[64] }, type := 45, pos := "bytecode.go:54", after := #[{ on := 4, ground := Ground.data }], guard := none }) rfl (fun K hK => ?_) (AllReadyH.cons (o := { dst := some 6, op := Op.alloc 50, type := 0, pos := "bytecode.go:54", after := #[], guard := none }) rfl (fun K hK => ?_) AllReadyH.nil)
  ·go_simp
   refine (HN1.out _).mono ?_
   rintro e w5 ⟨rfl, hb5⟩
   have hz5 := hb5.size
   (try simp at hz5)
   have hS5 := hS0.call hb5
   refine hK.out _ _ hS5 (fun hH5 => ?_)
   clear hK K
   (try simp only [Act.put, List.setIfInBounds_toArray, List.set_cons_zero, List.set_cons_succ])
   refine wpAnyH_ready (rs := [6, 7]) (by kernel_rfl) (by simp) ?_
   refine AllReadyH.cons (o := { dst := some 18, op := Op.call { callee := Callee.value (Operand.func 46), args := #[Operand.tmp 12, Operand.tmp 17], argTypes := #[67, 45] }, type := 50, pos := "bytecode.go:54", after := #[{ on := 0, ground := Ground.data }, { on := 5, ground := Ground.data }, { on := 5, ground := Ground.chain }], guard := none }) rfl (fun K hK => ?_) (AllReadyH.cons (o := { dst := some 6, op := Op.alloc 50, type := 0, pos := "bytecode.go:54", after := #[], guard := none }) rfl (fun K hK => ?_) AllReadyH.nil)
   ·go_simp
    refine (HT1.out _).mono ?_
    rintro e w6 ⟨rfl, hb6⟩
    have hS6 := hS5.call hb6
    refine hK.out _ _ hS6 (fun hH6 => ?_)
    clear hK K
    (try simp only [Act.put, List.setIfInBounds_toArray, List.set_cons_zero, List.set_cons_succ])
    refine wpAnyH_ready (rs := [7]) (by kernel_rfl) (by simp) ?_
    refine AllReadyH.cons (o := { dst := some 6, op := Op.alloc 50, type := 0, pos := "bytecode.go:54", after := #[], guard := none }) rfl (fun K hK => ?_) AllReadyH.nil
    go_simp
    have hS7 := hS6.alloc (.cells #[.int .u64 0, .int .u64 0, .int .u64 0, .int .u64 0] 50)
    refine hK.out _ _ hS7 (fun hH7 => ?_)
    clear hK K
    (try simp only [Act.put, List.setIfInBounds_toArray, List.set_cons_zero, List.set_cons_succ])
    refine wpAnyH_ready (rs := [8]) (by kernel_rfl) (by simp) ?_
    refine AllReadyH.cons (o := { dst := none, op := Op.store 50 (Operand.tmp 6) (Operand.tmp 18), type := 0, pos := "bytecode.go:54", after := #[{ on := 7, ground := Ground.data }, { on := 6, ground := Ground.data }, { on := 6, ground := Ground.chain }, { on := 0, ground := Ground.phase }, { on := 1, ground := Ground.phase }, { on := 2, ground := Ground.phase }, { on := 3, ground := Ground.phase }, { on := 4, ground := Ground.phase }, { on := 5, ground := Ground.phase }, { on := 6, ground := Ground.phase }, { on := 7, ground := Ground.phase }], guard := none }) rfl (fun K hK => ?_) AllReadyH.nil
    go_simp
    have hS8 := hS6.alloc (.cells lo.arr 50)
    refine hK.out _ _ hS8 (fun hH8 => ?_)
    clear hK K
    (try simp only [Act.put, List.setIfInBounds_toArray, List.set_cons_zero, List.set_cons_succ])
    refine wpAnyH_done (by kernel_rfl) ?_ _
    go_wp2_with fail
    go_meet
    exact ⟨_, rfl, aggAt_alloc_at w6 lo.arr 50 4 _ rfl rfl, hS6.sz, hS8⟩
   ·go_simp
    have hS7 := hS5.alloc (.cells #[.int .u64 0, .int .u64 0, .int .u64 0, .int .u64 0] 50)
    refine hK.out _ _ hS7 (fun hH7 => ?_)
    clear hK K
    (try simp only [Act.put, List.setIfInBounds_toArray, List.set_cons_zero, List.set_cons_succ])
    have hG0 := hS5.fresh
    refine wpAnyH_ready (rs := [6]) (by kernel_rfl) (by simp) ?_
    refine AllReadyH.cons (o := { dst := some 18, op := Op.call { callee := Callee.value (Operand.func 46), args := #[Operand.tmp 12, Operand.tmp 17], argTypes := #[67, 45] }, type := 50, pos := "bytecode.go:54", after := #[{ on := 0, ground := Ground.data }, { on := 5, ground := Ground.data }, { on := 5, ground := Ground.chain }], guard := none }) rfl (fun K hK => ?_) AllReadyH.nil
    go_simp
    refine (HT1.out _).mono ?_
    rintro e w6 ⟨rfl, hb6⟩
    have hS6 := hS7.call hb6
    refine hK.out _ _ hS6 (fun hH6 => ?_)
    clear hK K
    (try simp only [Act.put, List.setIfInBounds_toArray, List.set_cons_zero, List.set_cons_succ])
    have hG := (aggAt_congr (hb6.block _ (by simp))).trans hG0
    refine wpAnyH_ready (rs := [8]) (by kernel_rfl) (by simp) ?_
    refine AllReadyH.cons (o := { dst := none, op := Op.store 50 (Operand.tmp 6) (Operand.tmp 18), type := 0, pos := "bytecode.go:54", after := #[{ on := 7, ground := Ground.data }, { on := 6, ground := Ground.data }, { on := 6, ground := Ground.chain }, { on := 0, ground := Ground.phase }, { on := 1, ground := Ground.phase }, { on := 2, ground := Ground.phase }, { on := 3, ground := Ground.phase }, { on := 4, ground := Ground.phase }, { on := 5, ground := Ground.phase }, { on := 6, ground := Ground.phase }, { on := 7, ground := Ground.phase }], guard := none }) rfl (fun K hK => ?_) AllReadyH.nil
    go_simp
    have hS8 := hS6.put HR1.out hS5.sz (fun p hp => by cases hp) lo.arr
    refine hK.out _ _ hS8 (fun hH8 => ?_)
    clear hK K
    (try simp only [Act.put, List.setIfInBounds_toArray, List.set_cons_zero, List.set_cons_succ])
    refine wpAnyH_done (by kernel_rfl) ?_ _
    go_wp2_with fail
    go_meet
    exact ⟨_, rfl, aggAt_putAgg_same hG rfl, hS5.sz, hS8⟩
  ·go_simp
   have hS7 := hS0.alloc (.cells #[.int .u64 0, .int .u64 0, .int .u64 0, .int .u64 0] 50)
   refine hK.out _ _ hS7 (fun hH7 => ?_)
   clear hK K
   (try simp only [Act.put, List.setIfInBounds_toArray, List.set_cons_zero, List.set_cons_succ])
   have hG0 := hS0.fresh
   refine wpAnyH_ready (rs := [5]) (by kernel_rfl) (by simp) ?_
   refine AllReadyH.cons (o := { dst := some 17, op := Op.call { callee := Callee.value (Operand.func 66), args := #[Operand.tmp 16], argTypes := #[64] }, type := 45, pos := "bytecode.go:54", after := #[{ on := 4, ground := Ground.data }], guard := none }) rfl (fun K hK => ?_) AllReadyH.nil
   go_simp
   refine (HN1.out _).mono ?_
   rintro e w5 ⟨rfl, hb5⟩
   have hz5 := hb5.size
   (try simp at hz5)
   have hS5 := hS7.call hb5
   refine hK.out _ _ hS5 (fun hH5 => ?_)
   clear hK K
   (try simp only [Act.put, List.setIfInBounds_toArray, List.set_cons_zero, List.set_cons_succ])
   have hG1 := (aggAt_congr (hb5.block _ (by simp))).trans hG0
   refine wpAnyH_ready (rs := [6]) (by kernel_rfl) (by simp) ?_
   refine AllReadyH.cons (o := { dst := some 18, op := Op.call { callee := Callee.value (Operand.func 46), args := #[Operand.tmp 12, Operand.tmp 17], argTypes := #[67, 45] }, type := 50, pos := "bytecode.go:54", after := #[{ on := 0, ground := Ground.data }, { on := 5, ground := Ground.data }, { on := 5, ground := Ground.chain }], guard := none }) rfl (fun K hK => ?_) AllReadyH.nil
   go_simp
   refine (HT1.out _).mono ?_
   rintro e w6 ⟨rfl, hb6⟩
   have hS6 := hS5.call hb6
   refine hK.out _ _ hS6 (fun hH6 => ?_)
   clear hK K
   (try simp only [Act.put, List.setIfInBounds_toArray, List.set_cons_zero, List.set_cons_succ])
   have hG := (aggAt_congr (hb6.block _ (aggAt_lt hG1))).trans hG1
   have hg0 := hS0.sz
   replace hG : aggAt w6 4 (w.heap.size + 1 + 1) 0 = some (.agg #[.int .u64 0, .int .u64 0, .int .u64 0, .int .u64 0]) := by simpa using hG
   replace hg0 : w.heap.size + 1 < w.heap.size + 1 + 1 := by first | omega | exact hg0
   refine wpAnyH_ready (rs := [8]) (by kernel_rfl) (by simp) ?_
   refine AllReadyH.cons (o := { dst := none, op := Op.store 50 (Operand.tmp 6) (Operand.tmp 18), type := 0, pos := "bytecode.go:54", after := #[{ on := 7, ground := Ground.data }, { on := 6, ground := Ground.data }, { on := 6, ground := Ground.chain }, { on := 0, ground := Ground.phase }, { on := 1, ground := Ground.phase }, { on := 2, ground := Ground.phase }, { on := 3, ground := Ground.phase }, { on := 4, ground := Ground.phase }, { on := 5, ground := Ground.phase }, { on := 6, ground := Ground.phase }, { on := 7, ground := Ground.phase }], guard := none }) rfl (fun K hK => ?_) AllReadyH.nil
   go_simp
   have hS8 := hS6.put HR1.out hg0 (fun p hp => by cases hp) lo.arr
   refine hK.out _ _ hS8 (fun hH8 => ?_)
   clear hK K
   (try simp only [Act.put, List.setIfInBounds_toArray, List.set_cons_zero, List.set_cons_succ])
   refine wpAnyH_done (by kernel_rfl) ?_ _
   go_wp2_with fail
   go_meet
   exact ⟨_, rfl, aggAt_putAgg_same hG rfl, hg0, hS8⟩
 case rest =>
  obtain ⟨g, rfl, hA, hgs, hS⟩ := hcut
  have hgl := aggAt_lt hA
  have hS0 := (hS.re HR2.out hA).drew
  have HS := Lib.hid hS
  clear hS hA
  go_upto_region 4 with (fail)
  go_cut [7] (fun s W => ∃ g', s = .pointer (some ⟨g', 0, none⟩) ∧ aggAt W 4 g' 0 = some hi.val ∧ w.heap.size + 1 < g' ∧ WS w f [(g, lo.val)] b (off + 32) lb W)
  case first =>
   refine wp_region_held_drew (S := WS w f [(g, lo.val)] b (off + 32) lb) (by kernel_rfl) hS0 (fun hH0 => ?_)
   refine wpAnyH_take (i := 0) (oi := { dst := some 19, op := Op.load 67 (Operand.tmp 2), type := 67, pos := "bytecode.go:55", after := #[], guard := none }) (v := f.val) rfl (by kernel_rfl) (by kernel_rfl) (by kernel_rfl) (fun _ _ _ h => h) (.inl ⟨by rfl, fun W hW => by have hF := hW.1; go_simp⟩) (by assumption) ?_
   (try simp only [Act.put, List.setIfInBounds_toArray, List.set_cons_zero, List.set_cons_succ])
   refine wpAnyH_take (i := 1) (oi := { dst := some 20, op := Op.move (Operand.tmp 1), type := 22, pos := "bytecode.go:55", after := #[], guard := none }) (v := .slice (some ⟨b, off, none⟩) 64 cap) rfl (by kernel_rfl) (by kernel_rfl) (by kernel_rfl) (fun _ _ _ h => h) (.inl ⟨by rfl, fun W hW => by go_simp⟩) (by assumption) ?_
   (try simp only [Act.put, List.setIfInBounds_toArray, List.set_cons_zero, List.set_cons_succ])
   refine wpAnyH_take (i := 2) (oi := { dst := some 21, op := Op.slice 22 (Operand.tmp 20) (some (Operand.const (Value.int IntKind.i64 32))) none none, type := 22, pos := "bytecode.go:55", after := #[{ on := 1, ground := Ground.data }], guard := none }) (v := .slice (some ⟨b, off + 32, none⟩) 32 (cap - 32)) rfl (by kernel_rfl) (by kernel_rfl) (by kernel_rfl) (fun _ _ _ h => h) (.inl ⟨by rfl, fun W hW => by go_simp⟩) (by assumption) ?_
   (try simp only [Act.put, List.setIfInBounds_toArray, List.set_cons_zero, List.set_cons_succ])
   refine wpAnyH_take (i := 3) (oi := { dst := some 22, op := Op.sliceToArrayPointer 64 (Operand.tmp 21), type := 0, pos := "bytecode.go:55", after := #[{ on := 2, ground := Ground.data }], guard := none }) (v := .pointer (some ⟨b, off + 32, none⟩)) rfl (by kernel_rfl) (by kernel_rfl) (by kernel_rfl) (fun _ _ _ h => h) (.inl ⟨by rfl, fun W hW => by go_simp⟩) (by assumption) ?_
   (try simp only [Act.put, List.setIfInBounds_toArray, List.set_cons_zero, List.set_cons_succ])
   refine wpAnyH_take (i := 4) (oi := { dst := some 23, op := Op.load 64 (Operand.tmp 22), type := 64, pos := "bytecode.go:55", after := #[{ on := 3, ground := Ground.data }], guard := none }) (v := bval lb) rfl (by kernel_rfl) (by kernel_rfl) (by kernel_rfl) (fun _ _ _ h => h) (.inl ⟨by rfl, fun W hW => by have hF := load_range b (off + 32) lb l2 hW.2.2.2.1; go_simp⟩) (by assumption) ?_
   (try simp only [Act.put, List.setIfInBounds_toArray, List.set_cons_zero, List.set_cons_succ])
   refine wpAnyH_ready (rs := [5, 7]) (by kernel_rfl) (by simp) ?_
   refine AllReadyH.cons (o := { dst := some 24, op := Op.call { callee := Callee.value (Operand.func 66), args := #[Operand.tmp 23], argTypes := #[64] }, type := 45, pos := "bytecode.go:55", after := #[{ on := 4, ground := Ground.data }], guard := none }) rfl (fun K hK => ?_) (AllReadyH.cons (o := { dst := some 7, op := Op.alloc 50, type := 0, pos := "bytecode.go:55", after := #[], guard := none }) rfl (fun K hK => ?_) AllReadyH.nil)
   ·go_simp
    refine (HN2.out _).mono ?_
    rintro e w5 ⟨rfl, hb5⟩
    have hz5 := hb5.size
    (try simp at hz5)
    have hS5 := hS0.call hb5
    refine hK.out _ _ hS5 (fun hH5 => ?_)
    clear hK K
    (try simp only [Act.put, List.setIfInBounds_toArray, List.set_cons_zero, List.set_cons_succ])
    refine wpAnyH_ready (rs := [6, 7]) (by kernel_rfl) (by simp) ?_
    refine AllReadyH.cons (o := { dst := some 25, op := Op.call { callee := Callee.value (Operand.func 46), args := #[Operand.tmp 19, Operand.tmp 24], argTypes := #[67, 45] }, type := 50, pos := "bytecode.go:55", after := #[{ on := 0, ground := Ground.data }, { on := 5, ground := Ground.data }, { on := 5, ground := Ground.chain }], guard := none }) rfl (fun K hK => ?_) (AllReadyH.cons (o := { dst := some 7, op := Op.alloc 50, type := 0, pos := "bytecode.go:55", after := #[], guard := none }) rfl (fun K hK => ?_) AllReadyH.nil)
    ·go_simp
     refine (HT2.out _).mono ?_
     rintro e w6 ⟨rfl, hb6⟩
     have hS6 := hS5.call hb6
     refine hK.out _ _ hS6 (fun hH6 => ?_)
     clear hK K
     (try simp only [Act.put, List.setIfInBounds_toArray, List.set_cons_zero, List.set_cons_succ])
     refine wpAnyH_ready (rs := [7]) (by kernel_rfl) (by simp) ?_
     refine AllReadyH.cons (o := { dst := some 7, op := Op.alloc 50, type := 0, pos := "bytecode.go:55", after := #[], guard := none }) rfl (fun K hK => ?_) AllReadyH.nil
     go_simp
     have hS7 := hS6.alloc (.cells #[.int .u64 0, .int .u64 0, .int .u64 0, .int .u64 0] 50)
     refine hK.out _ _ hS7 (fun hH7 => ?_)
     clear hK K
     (try simp only [Act.put, List.setIfInBounds_toArray, List.set_cons_zero, List.set_cons_succ])
     refine wpAnyH_ready (rs := [8]) (by kernel_rfl) (by simp) ?_
     refine AllReadyH.cons (o := { dst := none, op := Op.store 50 (Operand.tmp 7) (Operand.tmp 25), type := 0, pos := "bytecode.go:55", after := #[{ on := 7, ground := Ground.data }, { on := 6, ground := Ground.data }, { on := 6, ground := Ground.chain }, { on := 0, ground := Ground.phase }, { on := 1, ground := Ground.phase }, { on := 2, ground := Ground.phase }, { on := 3, ground := Ground.phase }, { on := 4, ground := Ground.phase }, { on := 5, ground := Ground.phase }, { on := 6, ground := Ground.phase }, { on := 7, ground := Ground.phase }], guard := none }) rfl (fun K hK => ?_) AllReadyH.nil
     go_simp
     have hS8 := hS6.alloc (.cells hi.arr 50)
     refine hK.out _ _ hS8 (fun hH8 => ?_)
     clear hK K
     (try simp only [Act.put, List.setIfInBounds_toArray, List.set_cons_zero, List.set_cons_succ])
     refine wpAnyH_done (by kernel_rfl) ?_ _
     go_wp2_with fail
     go_meet
     exact ⟨_, rfl, aggAt_alloc_at w6 hi.arr 50 4 _ rfl rfl, hS6.sz, hS8⟩
    ·go_simp
     have hS7 := hS5.alloc (.cells #[.int .u64 0, .int .u64 0, .int .u64 0, .int .u64 0] 50)
     refine hK.out _ _ hS7 (fun hH7 => ?_)
     clear hK K
     (try simp only [Act.put, List.setIfInBounds_toArray, List.set_cons_zero, List.set_cons_succ])
     have hG0 := hS5.fresh
     refine wpAnyH_ready (rs := [6]) (by kernel_rfl) (by simp) ?_
     refine AllReadyH.cons (o := { dst := some 25, op := Op.call { callee := Callee.value (Operand.func 46), args := #[Operand.tmp 19, Operand.tmp 24], argTypes := #[67, 45] }, type := 50, pos := "bytecode.go:55", after := #[{ on := 0, ground := Ground.data }, { on := 5, ground := Ground.data }, { on := 5, ground := Ground.chain }], guard := none }) rfl (fun K hK => ?_) AllReadyH.nil
     go_simp
     refine (HT2.out _).mono ?_
     rintro e w6 ⟨rfl, hb6⟩
     have hS6 := hS7.call hb6
     refine hK.out _ _ hS6 (fun hH6 => ?_)
     clear hK K
     (try simp only [Act.put, List.setIfInBounds_toArray, List.set_cons_zero, List.set_cons_succ])
     have hG := (aggAt_congr (hb6.block _ (by simp))).trans hG0
     refine wpAnyH_ready (rs := [8]) (by kernel_rfl) (by simp) ?_
     refine AllReadyH.cons (o := { dst := none, op := Op.store 50 (Operand.tmp 7) (Operand.tmp 25), type := 0, pos := "bytecode.go:55", after := #[{ on := 7, ground := Ground.data }, { on := 6, ground := Ground.data }, { on := 6, ground := Ground.chain }, { on := 0, ground := Ground.phase }, { on := 1, ground := Ground.phase }, { on := 2, ground := Ground.phase }, { on := 3, ground := Ground.phase }, { on := 4, ground := Ground.phase }, { on := 5, ground := Ground.phase }, { on := 6, ground := Ground.phase }, { on := 7, ground := Ground.phase }], guard := none }) rfl (fun K hK => ?_) AllReadyH.nil
     go_simp
     have hS8 := hS6.put HR2.out hS5.sz (fun p hp => by simp at hp; subst hp; show g ≠ _; omega) hi.arr
     refine hK.out _ _ hS8 (fun hH8 => ?_)
     clear hK K
     (try simp only [Act.put, List.setIfInBounds_toArray, List.set_cons_zero, List.set_cons_succ])
     refine wpAnyH_done (by kernel_rfl) ?_ _
     go_wp2_with fail
     go_meet
     exact ⟨_, rfl, aggAt_putAgg_same hG rfl, hS5.sz, hS8⟩
   ·go_simp
    have hS7 := hS0.alloc (.cells #[.int .u64 0, .int .u64 0, .int .u64 0, .int .u64 0] 50)
    refine hK.out _ _ hS7 (fun hH7 => ?_)
    clear hK K
    (try simp only [Act.put, List.setIfInBounds_toArray, List.set_cons_zero, List.set_cons_succ])
    have hG0 := hS0.fresh
    refine wpAnyH_ready (rs := [5]) (by kernel_rfl) (by simp) ?_
    refine AllReadyH.cons (o := { dst := some 24, op := Op.call { callee := Callee.value (Operand.func 66), args := #[Operand.tmp 23], argTypes := #[64] }, type := 45, pos := "bytecode.go:55", after := #[{ on := 4, ground := Ground.data }], guard := none }) rfl (fun K hK => ?_) AllReadyH.nil
    go_simp
    refine (HN2.out _).mono ?_
    rintro e w5 ⟨rfl, hb5⟩
    have hz5 := hb5.size
    (try simp at hz5)
    have hS5 := hS7.call hb5
    refine hK.out _ _ hS5 (fun hH5 => ?_)
    clear hK K
    (try simp only [Act.put, List.setIfInBounds_toArray, List.set_cons_zero, List.set_cons_succ])
    have hG1 := (aggAt_congr (hb5.block _ (by simp))).trans hG0
    refine wpAnyH_ready (rs := [6]) (by kernel_rfl) (by simp) ?_
    refine AllReadyH.cons (o := { dst := some 25, op := Op.call { callee := Callee.value (Operand.func 46), args := #[Operand.tmp 19, Operand.tmp 24], argTypes := #[67, 45] }, type := 50, pos := "bytecode.go:55", after := #[{ on := 0, ground := Ground.data }, { on := 5, ground := Ground.data }, { on := 5, ground := Ground.chain }], guard := none }) rfl (fun K hK => ?_) AllReadyH.nil
    go_simp
    refine (HT2.out _).mono ?_
    rintro e w6 ⟨rfl, hb6⟩
    have hS6 := hS5.call hb6
    refine hK.out _ _ hS6 (fun hH6 => ?_)
    clear hK K
    (try simp only [Act.put, List.setIfInBounds_toArray, List.set_cons_zero, List.set_cons_succ])
    have hG := (aggAt_congr (hb6.block _ (aggAt_lt hG1))).trans hG1
    have hg0 := hS0.sz
    replace hG : aggAt w6 4 (wc.heap.size) 0 = some (.agg #[.int .u64 0, .int .u64 0, .int .u64 0, .int .u64 0]) := by simpa using hG
    replace hg0 : w.heap.size + 1 < wc.heap.size := by first | omega | exact hg0
    refine wpAnyH_ready (rs := [8]) (by kernel_rfl) (by simp) ?_
    refine AllReadyH.cons (o := { dst := none, op := Op.store 50 (Operand.tmp 7) (Operand.tmp 25), type := 0, pos := "bytecode.go:55", after := #[{ on := 7, ground := Ground.data }, { on := 6, ground := Ground.data }, { on := 6, ground := Ground.chain }, { on := 0, ground := Ground.phase }, { on := 1, ground := Ground.phase }, { on := 2, ground := Ground.phase }, { on := 3, ground := Ground.phase }, { on := 4, ground := Ground.phase }, { on := 5, ground := Ground.phase }, { on := 6, ground := Ground.phase }, { on := 7, ground := Ground.phase }], guard := none }) rfl (fun K hK => ?_) AllReadyH.nil
    go_simp
    have hS8 := hS6.put HR2.out hg0 (fun p hp => by simp at hp; subst hp; show g ≠ _; omega) hi.arr
    refine hK.out _ _ hS8 (fun hH8 => ?_)
    clear hK K
    (try simp only [Act.put, List.setIfInBounds_toArray, List.set_cons_zero, List.set_cons_succ])
    refine wpAnyH_done (by kernel_rfl) ?_ _
    go_wp2_with fail
    go_meet
    exact ⟨_, rfl, aggAt_putAgg_same hG rfl, hg0, hS8⟩
  case rest =>
   clear hS0
   obtain ⟨g', rfl, hA, hgs', hS⟩ := hcut
   have hA2 := hS.2.2.2.2.2.2 _ (List.mem_singleton.2 rfl)
   obtain ⟨a1, a2, a3, _, hB, hsz, _⟩ := hS
   have z0 : w.heap.size < wc.heap.size := by omega
   replace hA2 : aggAt wc 4 g 0 = some lo.val := hA2
   have z1 := aggAt_lt hA
   have z2 : g < wc.heap.size := aggAt_lt hA2
   have n1 : g ≠ w.heap.size + 1 := by omega
   have n2 : g' ≠ w.heap.size + 1 := by omega
   clear s1 s2 s3 s4
   go_wp2
   go_region_held3 (fun w' => aggAt w' 14 w.heap.size 0 = some f.val ∧ aggAt w' 4 w.heap.size 10 = some f.sq.val ∧ aggAt w' 4 g 0 = some lo.val ∧ aggAt w' 4 g' 0 = some hi.val ∧ (aggAt w' 4 (w.heap.size + 1) 0).isSome = true ∧ Below w.heap.size w w')
    (first | exact ⟨by go_simp, by go_simp, by go_simp, by go_simp, by go_simp, (by repeat (first | with_reducible assumption | with_reducible exact Below.refl _ _ | (with_reducible refine putAgg_below ?_ (by first | omega | (simp; done) | (simp; omega))) | (with_reducible refine Below.alloc ?_ (by first | omega | (simp; done) | (simp; omega)) _) | (with_reducible refine Below.setCell ?_ (by first | omega | (simp; done) | (simp; omega)) _) | (with_reducible refine Below.drew ?_) | (with_reducible refine Below.trans ?_ (Below.mono (by with_reducible assumption) (by first | omega | (simp; done) | (simp; omega))))))⟩)
    (first
     | (go_at_call 78; (with_reducible refine (HM.out _).mono ?_); rintro e w2 ⟨rfl, hb2⟩; (obtain ⟨k1, k2, k3, k4⟩ := kept hb2; (try simp at k4); (try (have z_w_0 := (show w.heap.size < w2.heap.size from by omega); have n_w_0 := (show w.heap.size ≠ w2.heap.size from by omega); have p_w_0 := fun n o => k1 n (w.heap.size) o (by first | omega | (simp; done) | (simp; omega)); have c_w_0 := fun o => k2 (w.heap.size) o (by first | omega | (simp; done) | (simp; omega)); have f_w_0 := fun o => k3 (w.heap.size) o (by first | omega | (simp; done) | (simp; omega)))); (try (have z_w_1 := (show w.heap.size + 1 < w2.heap.size from by omega); have n_w_1 := (show w.heap.size + 1 ≠ w2.heap.size from by omega); have p_w_1 := fun n o => k1 n (w.heap.size + 1) o (by first | omega | (simp; done) | (simp; omega)); have c_w_1 := fun o => k2 (w.heap.size + 1) o (by first | omega | (simp; done) | (simp; omega)); have f_w_1 := fun o => k3 (w.heap.size + 1) o (by first | omega | (simp; done) | (simp; omega))))); have p5 := fun n o => k1 n g o z2; have p6 := fun n o => k1 n g' o z1; have z3 := Nat.lt_of_lt_of_le z2 hb2.size; have z4 := Nat.lt_of_lt_of_le z1 hb2.size)
     | (go_at_call 87; (with_reducible refine (HA.out _).mono ?_); rintro e w3 ⟨rfl, hb3⟩; (obtain ⟨k1, k2, k3, k4⟩ := kept hb3; (try simp at k4); (try (have z_w_0 := (show w.heap.size < w3.heap.size from by omega); have n_w_0 := (show w.heap.size ≠ w3.heap.size from by omega); have p_w_0 := fun n o => k1 n (w.heap.size) o (by first | omega | (simp; done) | (simp; omega)); have c_w_0 := fun o => k2 (w.heap.size) o (by first | omega | (simp; done) | (simp; omega)); have f_w_0 := fun o => k3 (w.heap.size) o (by first | omega | (simp; done) | (simp; omega)))); (try (have z_w_1 := (show w.heap.size + 1 < w3.heap.size from by omega); have n_w_1 := (show w.heap.size + 1 ≠ w3.heap.size from by omega); have p_w_1 := fun n o => k1 n (w.heap.size + 1) o (by first | omega | (simp; done) | (simp; omega)); have c_w_1 := fun o => k2 (w.heap.size + 1) o (by first | omega | (simp; done) | (simp; omega)); have f_w_1 := fun o => k3 (w.heap.size + 1) o (by first | omega | (simp; done) | (simp; omega))))); have p7 := fun n o => k1 n g o z3; have p8 := fun n o => k1 n g' o z4))
   go_wp2_with ((with_reducible show bodyPost _ _ _ _ _ _); exact end_ct Tryz.results148 rfl (atE (v := r.val) (by go_simp)) rfl ⟨rfl, (by repeat (first | with_reducible assumption | with_reducible exact Below.refl _ _ | (with_reducible refine putAgg_below ?_ (by first | omega | (simp; done) | (simp; omega))) | (with_reducible refine Below.alloc ?_ (by first | omega | (simp; done) | (simp; omega)) _) | (with_reducible refine Below.setCell ?_ (by first | omega | (simp; done) | (simp; omega)) _) | (with_reducible refine Below.drew ?_) | (with_reducible refine Below.trans ?_ (Below.mono (by with_reducible assumption) (by first | omega | (simp; done) | (simp; omega))))))⟩)
end Go.Proofs.YtccgfladbibjbaaGreatDoor
