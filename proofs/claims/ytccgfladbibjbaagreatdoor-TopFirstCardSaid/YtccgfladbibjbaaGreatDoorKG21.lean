/- The visits of poly and power: they hand on what another iterator hands on. -/
import Derived.Test.YtccgfladbibjbaaGreatDoorKG20
import Derived.Test.YtccgfladbibjbaaGreatDoorKG19
import Derived.Test.YtccgfladbibjbaaGreatDoorKG12
namespace Go.Proofs.YtccgfladbibjbaaGreatDoor
open Go.RowKit Go.Shelf
attribute [local go_sem ↓] add_UU sub_UU mul_UU add_UL add_LU sub_UL sub_LU mul_UL neg_at not_at and_UU or_UU xor_UU andNot_UU and_UL or_LU shr_UL shl_UL shr_UN shl_UN shl_LN quo_UL rem_UL quo_UU rem_UU
attribute [local go_sem] wrap64_N wrapi_mod wrap8_U wrap32_U wrap64_B wrap32_B wrap8_D wrapi_B wrap64_UU eq_UU ne_UU eq_UL ne_UL lt_UU le_UU
attribute [local simp] putAgg_size
attribute [local go_sem ↓] loadVar_F loadVar_E loadVar_V loadVar_B32 storeVar_F storeVar_E storeVar_V storeVar_B32 box_F box_E box_V box_B32
attribute [local go_sem ↓ high] V4.cells_val FP.cells_val
attribute [local go_sem] run_loadF run_loadE run_loadV run_loadB32 run_storeF run_storeE run_storeV run_storeB32 run_boxA aggAt_drew aggAt_drewN aggAt_alloc_new aggAt_alloc_past aggAt_setCell_other aggAt_putAgg_other aggAt_putAgg_new putAgg_drew putAgg_size putAgg_alloc_new putAgg_alloc_past putAgg_cell_other putAgg_frozen_other V4.agg_arr FP.agg_arr V4.size_arr FP.size_arr V4.fits FP.fits fitsA_agg4 lt_2 ne_2 en_2 lt_3 ne_3 en_3 lt_4 ne_4 en_4 lt_5 ne_5 en_5 lt_6 ne_6 en_6
attribute [local go_sem] Oper.semAt_some
theorem own_cells {β : Type} (B b : Nat) (cs : Array Value) (t : TypeId) : OwnFrom B (fun (_ : β) W => W.heap[b]? = some (.cells cs t (0, 0))) :=
 fun _ _ _ _ hs hg hr => (grownBy_keeps_cells hg (fun r e => (hr r e).2) hs rfl).trans hs
theorem own_cell {β : Type} (B : Nat) (a : Addr) (v : Value) : OwnFrom B (fun (_ : β) W => W.cell? a = some v) :=
 fun _ _ _ _ hs hg hr => cell_kept hs hg (fun r e => (hr r e).2)
theorem agg_of_block {W : World} {b : Nat} {v : V4} {t : TypeId} (h : W.heap[b]? = some (.cells v.arr t (0, 0))) : aggAt W 4 b 0 = some v.val := aggAt_whole h rfl
theorem polyVisit (gf : Nat) (lb : Array Value) (w : World) : Calls Tryz.prog 109 #[.pointer none, .func (.func gf) #[] lb] w fun e w' => e = .returned (.func (.func 131) #[] #[.pointer (some ⟨w.heap.size + 1, 0, none⟩), .pointer (some ⟨w.heap.size, 0, none⟩)]) ∧ w' = (w.alloc (.cells #[.pointer none] 82)).alloc (.cells #[.func (.func gf) #[] lb] 175) := by
 go_enter Tryz.func109, Tryz.ntmps109
 go_wp2
 go_ret
 exact ⟨rfl, rfl⟩
set_option maxRecDepth 100000 in
set_option maxHeartbeats 2000000 in
theorem polyVisit1 (n : Nat) (hn : 4 ≤ n) (gf : Nat) (lb : Array Value) (eg : ∀ args w, (callFunc gf args).run Tryz.prog w = .ok (.enter gf args) w) (l : List (Int × V4)) (Bl Bt : Nat) (w : World) (hl : w.cell? ⟨Bl, 0, none⟩ = some (.func (.func gf) #[] lb)) (ht : w.cell? ⟨Bt, 0, none⟩ = some (.pointer none))
  (p : Nat → Prop) (hp : p Bt) (hpw : ∀ k, p k → k < w.heap.size) (hg : Gives (n - 1) gf lb p false (encP l) w) :
  Gives n 131 #[.pointer (some ⟨Bl, 0, none⟩), .pointer (some ⟨Bt, 0, none⟩)] p true (encP l) w := by
 intro lo J W hW hJ hY h0
 have hl' := (hW.cell (p := ⟨Bl, 0, none⟩) (World.block_lt_of_cell? w _ hl)).trans hl
 have ht' := (hW.cell (p := ⟨Bt, 0, none⟩) (World.block_lt_of_cell? w _ ht)).trans ht
 have hsz := hW.size
 have hBl : Bl < W.heap.size := World.block_lt_of_cell? W _ hl'
 have hBt : Bt < w.heap.size := World.block_lt_of_cell? w _ ht
 refine callsIn_of_wp_marks Tryz.func131 rfl trivial ?_ rfl
 simp only [Tryz.ntmps131, List.size_toArray, List.length_cons, List.length_nil, Nat.reduceAdd, Nat.reduceSub, Array.replicate_succ, Array.replicate_zero, List.push_toArray, List.append_toArray, List.nil_append, List.cons_append]
 have hy0 : (W.alloc (.cells #[.func (.yield lo) #[] #[]] 195)).cell? ⟨W.heap.size, 0, none⟩ = some (.func (.yield lo) #[] #[]) := by rw [World.cell?_alloc_at _ _ _ _ rfl]; rfl
 have ht0 : (W.alloc (.cells #[.func (.yield lo) #[] #[]] 195)).cell? ⟨Bt, 0, none⟩ = some (.pointer none) := by rw [World.cell?_alloc_past _ _ _ (by show Bt < _; omega)]; exact ht'
 gi_wp2
 refine rangeAll (n := n) (ps := #[7, 8]) (p := p) (s := false) (encs := encP l) (by omega) (gf := gf) (lb := lb) rfl eg hg (hW.trans (((Below.refl _ W).alloc (Nat.le_refl _) _).mono hsz)) (fun k hk => by have := hpw k hk; simp; omega) (fun k x hx => by obtain ⟨q, _, rfl⟩ := encP_get hx; rfl)
  (fun k W' => (J k W' ∧ W'.cell? ⟨W.heap.size, 0, none⟩ = some (.func (.yield lo) #[] #[])) ∧ W'.cell? ⟨Bt, 0, none⟩ = some (.pointer none))
  ((((OwnFrom.later hJ (by simp)).and (own_cell _ _ _)).and (own_cell _ _ _)))
  ⟨⟨hJ.alloc _ h0, hy0⟩, ht0⟩
  (fun k a' W' => ∃ q Bx, l[k]? = some q ∧ W'.heap[Bx]? = some (.cells q.2.arr 50 (0, 0)) ∧ a' = { tmps := #[.func (.yield lo) #[] #[], .pointer (some ⟨Bl, 0, none⟩), .pointer (some ⟨Bt, 0, none⟩), .pointer (some ⟨W.heap.size, 0, none⟩), .int .i64 q.1, .pointer (some ⟨Bx, 0, none⟩), .func (.func gf) #[] lb, .int .i64 q.1, q.2.val, undef, undef, undef, undef, undef, undef, undef, undef], defers := [] } ∧
   ((J k W' ∧ W'.cell? ⟨W.heap.size, 0, none⟩ = some (.func (.yield lo) #[] #[])) ∧ W'.cell? ⟨Bt, 0, none⟩ = some (.pointer none)))
  (fun a' k A B row hs hg hr => by
   obtain ⟨q, Bx, h1, h2, h3, h4⟩ := hs
   exact ⟨q, Bx, h1, own_cells (β := Unit) _ Bx _ 50 () A B row h2 hg hr, h3, (((OwnFrom.later hJ (by simp)).and (own_cell _ _ _)).and (own_cell _ _ _)) k A B row h4 hg hr⟩) ?assign ?body ?done
 case assign =>
  intro lo' k x W' hx hI
  obtain ⟨q, hq, rfl⟩ := encP_get hx
  gi_wp2
  exact ⟨(KeepsOthers.alloc _ _).from _, Keeps.alloc _ _ _ _ _, q, W'.heap.size, hq, heap_alloc_new _ _, rfl, ⟨hJ.alloc _ hI.1.1, by rw [World.cell?_alloc_past _ _ _ (World.block_lt_of_cell? W' _ hI.1.2)]; exact hI.1.2⟩, by rw [World.cell?_alloc_past _ _ _ (World.block_lt_of_cell? W' _ hI.2)]; exact hI.2⟩
 case body =>
  rintro lo' k x a' W' hx ⟨q, Bx, hq, hBx, rfl, ⟨hJk, hcy⟩, hct⟩
  obtain ⟨fn, tmps, assign, body, hy, hR⟩ := hY k x W' hx hJk
  obtain ⟨q', hq', rfl⟩ := encP_get hx
  rw [hq] at hq'
  injection hq' with hq'
  subst hq'
  have ha := agg_of_block hBx
  clear hBx
  gi_wp2_with fail
  refine roundCall (noteNil _ _ _ _) ?_
  rintro e W' ⟨rfl, rfl⟩
  gi_wp2
  refine ⟨fun h => (by simp [Fence.wide] at h), (RoundIn.inRound hR).mono ?_⟩
  rintro e W3 ⟨rfl, hJ3, hk3⟩
  gi_wp2
  refine ⟨⟨hk3.1, fun j o hB hj _ => (hk3.2 j (Array.getElem?_eq_some_iff.1 hj).1 (.inr ⟨rfl, by simp at hB; omega⟩)).trans hj⟩, hk3.sub (fun k hk => .inl hk) (fun h => by cases h), ⟨hJ3, ?_⟩, hk3.cell hct hp⟩
  exact (World.cell?_of_block (hk3.2 W.heap.size (World.block_lt_of_cell? W' _ hcy) (.inr ⟨rfl, Nat.le_refl _⟩))).trans hcy
 case done =>
  rintro D W' hD ⟨⟨hJd, _⟩, _⟩ hK
  gi_wp2
  refine ⟨by simp, .inl ⟨_, _, rfl, run_takeDeferred hK, ?_⟩⟩
  exact ⟨_, results_none rfl _ _ _, ⟨_, rfl⟩, hJ.putObj _ hJd (by simp at hD; omega) hK rfl⟩
theorem powerVisit (gf : Nat) (lb : Array Value) (w : World) : Calls Tryz.prog 133 #[.pointer none, .func (.func gf) #[] lb] w fun e w' => e = .returned (.func (.func 143) #[] #[.pointer (some ⟨w.heap.size + 1, 0, none⟩), .pointer (some ⟨w.heap.size, 0, none⟩)]) ∧ w' = (w.alloc (.cells #[.pointer none] 82)).alloc (.cells #[.func (.func gf) #[] lb] 175) := by
 go_enter Tryz.func133, Tryz.ntmps133
 go_wp2
 go_ret
 exact ⟨rfl, rfl⟩
set_option maxRecDepth 100000 in
set_option maxHeartbeats 2000000 in
theorem powerVisit1 (n : Nat) (hn : 4 ≤ n) (gf : Nat) (lb : Array Value) (eg : ∀ args w, (callFunc gf args).run Tryz.prog w = .ok (.enter gf args) w) (l : List (Int × V4)) (Bl Bt : Nat) (w : World) (hl : w.cell? ⟨Bl, 0, none⟩ = some (.func (.func gf) #[] lb)) (ht : w.cell? ⟨Bt, 0, none⟩ = some (.pointer none))
  (p : Nat → Prop) (hp : p Bt) (hpw : ∀ k, p k → k < w.heap.size) (hg : Gives (n - 1) gf lb p false (encP l) w) :
  Gives n 143 #[.pointer (some ⟨Bl, 0, none⟩), .pointer (some ⟨Bt, 0, none⟩)] p true (encP l) w := by
 intro lo J W hW hJ hY h0
 have hl' := (hW.cell (p := ⟨Bl, 0, none⟩) (World.block_lt_of_cell? w _ hl)).trans hl
 have ht' := (hW.cell (p := ⟨Bt, 0, none⟩) (World.block_lt_of_cell? w _ ht)).trans ht
 have hsz := hW.size
 have hBl : Bl < W.heap.size := World.block_lt_of_cell? W _ hl'
 have hBt : Bt < w.heap.size := World.block_lt_of_cell? w _ ht
 refine callsIn_of_wp_marks Tryz.func143 rfl trivial ?_ rfl
 simp only [Tryz.ntmps143, List.size_toArray, List.length_cons, List.length_nil, Nat.reduceAdd, Nat.reduceSub, Array.replicate_succ, Array.replicate_zero, List.push_toArray, List.append_toArray, List.nil_append, List.cons_append]
 have hy0 : (W.alloc (.cells #[.func (.yield lo) #[] #[]] 195)).cell? ⟨W.heap.size, 0, none⟩ = some (.func (.yield lo) #[] #[]) := by rw [World.cell?_alloc_at _ _ _ _ rfl]; rfl
 have ht0 : (W.alloc (.cells #[.func (.yield lo) #[] #[]] 195)).cell? ⟨Bt, 0, none⟩ = some (.pointer none) := by rw [World.cell?_alloc_past _ _ _ (by show Bt < _; omega)]; exact ht'
 gi_wp2
 refine rangeAll (n := n) (ps := #[7, 8]) (p := p) (s := false) (encs := encP l) (by omega) (gf := gf) (lb := lb) rfl eg hg (hW.trans (((Below.refl _ W).alloc (Nat.le_refl _) _).mono hsz)) (fun k hk => by have := hpw k hk; simp; omega) (fun k x hx => by obtain ⟨q, _, rfl⟩ := encP_get hx; rfl)
  (fun k W' => (J k W' ∧ W'.cell? ⟨W.heap.size, 0, none⟩ = some (.func (.yield lo) #[] #[])) ∧ W'.cell? ⟨Bt, 0, none⟩ = some (.pointer none))
  ((((OwnFrom.later hJ (by simp)).and (own_cell _ _ _)).and (own_cell _ _ _)))
  ⟨⟨hJ.alloc _ h0, hy0⟩, ht0⟩
  (fun k a' W' => ∃ q Bx, l[k]? = some q ∧ W'.heap[Bx]? = some (.cells q.2.arr 50 (0, 0)) ∧ a' = { tmps := #[.func (.yield lo) #[] #[], .pointer (some ⟨Bl, 0, none⟩), .pointer (some ⟨Bt, 0, none⟩), .pointer (some ⟨W.heap.size, 0, none⟩), .int .i64 q.1, .pointer (some ⟨Bx, 0, none⟩), .func (.func gf) #[] lb, .int .i64 q.1, q.2.val, undef, undef, undef, undef, undef, undef, undef, undef], defers := [] } ∧
   ((J k W' ∧ W'.cell? ⟨W.heap.size, 0, none⟩ = some (.func (.yield lo) #[] #[])) ∧ W'.cell? ⟨Bt, 0, none⟩ = some (.pointer none)))
  (fun a' k A B row hs hg hr => by
   obtain ⟨q, Bx, h1, h2, h3, h4⟩ := hs
   exact ⟨q, Bx, h1, own_cells (β := Unit) _ Bx _ 50 () A B row h2 hg hr, h3, (((OwnFrom.later hJ (by simp)).and (own_cell _ _ _)).and (own_cell _ _ _)) k A B row h4 hg hr⟩) ?assign ?body ?done
 case assign =>
  intro lo' k x W' hx hI
  obtain ⟨q, hq, rfl⟩ := encP_get hx
  gi_wp2
  exact ⟨(KeepsOthers.alloc _ _).from _, Keeps.alloc _ _ _ _ _, q, W'.heap.size, hq, heap_alloc_new _ _, rfl, ⟨hJ.alloc _ hI.1.1, by rw [World.cell?_alloc_past _ _ _ (World.block_lt_of_cell? W' _ hI.1.2)]; exact hI.1.2⟩, by rw [World.cell?_alloc_past _ _ _ (World.block_lt_of_cell? W' _ hI.2)]; exact hI.2⟩
 case body =>
  rintro lo' k x a' W' hx ⟨q, Bx, hq, hBx, rfl, ⟨hJk, hcy⟩, hct⟩
  obtain ⟨fn, tmps, assign, body, hy, hR⟩ := hY k x W' hx hJk
  obtain ⟨q', hq', rfl⟩ := encP_get hx
  rw [hq] at hq'
  injection hq' with hq'
  subst hq'
  have ha := agg_of_block hBx
  clear hBx
  gi_wp2_with fail
  refine roundCall (noteNil _ _ _ _) ?_
  rintro e W' ⟨rfl, rfl⟩
  gi_wp2
  refine ⟨fun h => (by simp [Fence.wide] at h), (RoundIn.inRound hR).mono ?_⟩
  rintro e W3 ⟨rfl, hJ3, hk3⟩
  gi_wp2
  refine ⟨⟨hk3.1, fun j o hB hj _ => (hk3.2 j (Array.getElem?_eq_some_iff.1 hj).1 (.inr ⟨rfl, by simp at hB; omega⟩)).trans hj⟩, hk3.sub (fun k hk => .inl hk) (fun h => by cases h), ⟨hJ3, ?_⟩, hk3.cell hct hp⟩
  exact (World.cell?_of_block (hk3.2 W.heap.size (World.block_lt_of_cell? W' _ hcy) (.inr ⟨rfl, Nat.le_refl _⟩))).trans hcy
 case done =>
  rintro D W' hD ⟨⟨hJd, _⟩, _⟩ hK
  gi_wp2
  refine ⟨by simp, .inl ⟨_, _, rfl, run_takeDeferred hK, ?_⟩⟩
  exact ⟨_, results_none rfl _ _ _, ⟨_, rfl⟩, hJ.putObj _ hJd (by simp at hD; omega) hK rfl⟩
end Go.Proofs.YtccgfladbibjbaaGreatDoor
namespace Go.Proofs.YtccgfladbibjbaaGreatDoor
open Go.RowKit Go.Shelf
attribute [local go_sem ↓] add_UU sub_UU mul_UU add_UL add_LU sub_UL sub_LU mul_UL neg_at not_at and_UU or_UU xor_UU andNot_UU and_UL or_LU shr_UL shl_UL shr_UN shl_UN shl_LN quo_UL rem_UL quo_UU rem_UU
attribute [local go_sem] wrap64_N wrapi_mod wrap8_U wrap32_U wrap64_B wrap32_B wrap8_D wrapi_B wrap64_UU eq_UU ne_UU eq_UL ne_UL lt_UU le_UU
attribute [local simp] putAgg_size
attribute [local go_sem ↓] loadVar_F loadVar_E loadVar_V loadVar_B32 storeVar_F storeVar_E storeVar_V storeVar_B32 box_F box_E box_V box_B32
attribute [local go_sem ↓ high] V4.cells_val FP.cells_val
attribute [local go_sem] run_loadF run_loadE run_loadV run_loadB32 run_storeF run_storeE run_storeV run_storeB32 run_boxA aggAt_drew aggAt_drewN aggAt_alloc_new aggAt_alloc_past aggAt_setCell_other aggAt_putAgg_other aggAt_putAgg_new putAgg_drew putAgg_size putAgg_alloc_new putAgg_alloc_past putAgg_cell_other putAgg_frozen_other V4.agg_arr FP.agg_arr V4.size_arr FP.size_arr V4.fits FP.fits fitsA_agg4 lt_2 ne_2 en_2 lt_3 ne_3 en_3 lt_4 ne_4 en_4 lt_5 ne_5 en_5 lt_6 ne_6 en_6
attribute [local go_sem] Oper.semAt_some
def chunkLen (n k : Nat) : Nat := min 31 (n - 31 * k)
def encB (n : Nat) : List (Array Value) := (List.range (cnt n)).map fun k : Nat => #[.int .i64 k, .int .i64 (chunkLen n k : Nat)]
theorem encB_length (n : Nat) : (encB n).length = cnt n := by simp [encB]
theorem encB_get {n k : Nat} {x : Array Value} (h : (encB n)[k]? = some x) : k < cnt n ∧ x = #[.int .i64 k, .int .i64 (chunkLen n k : Nat)] := by
 have hk := (List.getElem?_eq_some_iff.1 h).1
 rw [encB_length] at hk
 unfold encB at h
 rw [List.getElem?_map, List.getElem?_range hk] at h
 exact ⟨hk, (Option.some.inj h).symm⟩
theorem encB_at (n k : Nat) (h : k < cnt n) : (encB n)[k]? = some #[.int .i64 k, .int .i64 (chunkLen n k : Nat)] := by
 unfold encB
 rw [List.getElem?_map, List.getElem?_range h]; rfl
theorem cnt_lt {n k : Nat} (hn : n ≤ 65535) (h : k < cnt n) : 31 * k < n := by rw [cnt_nat n hn] at h; omega
theorem bounds (n : Int) (w : World) : Calls Tryz.prog 104 #[.int .i64 n] w fun e w' => e = .returned (.func (.func 127) #[] #[.pointer (some ⟨w.heap.size, 0, none⟩)]) ∧ w' = w.alloc (.cells #[.int .i64 n] 3) := by
 go_enter Tryz.func104, Tryz.ntmps104
 go_wp2
 go_ret
 exact ⟨rfl, rfl⟩
set_option maxRecDepth 100000 in
set_option maxHeartbeats 1000000 in
theorem bounds1 (m : Nat) (n : Nat) (hn : n ≤ 65535) (Bx : Nat) (w : World) (hBx : w.cell? ⟨Bx, 0, none⟩ = some (.int .i64 n)) (p : Nat → Prop) (hp : p Bx) (s : Bool) :
  Gives m 127 #[.pointer (some ⟨Bx, 0, none⟩)] p s (encB n) w := by
 intro lo J W hW hJ hY h0
 have hBx' := (hW.cell (p := ⟨Bx, 0, none⟩) (World.block_lt_of_cell? w _ hBx)).trans hBx
 have HW := Lib.hid hBx'
 clear hBx hBx' hW
 rw [encB_length]
 have hcn : cnt n ≤ 65535 := by rw [cnt_nat n hn]; omega
 refine callsIn_of_wp Tryz.func127 rfl trivial ?_ rfl
 simp only [Tryz.ntmps127, List.size_toArray, List.length_cons, List.length_nil, Nat.reduceAdd, Nat.reduceSub, Array.replicate_succ, Array.replicate_zero, List.push_toArray, List.append_toArray, List.nil_append, List.cons_append]
 have hc := HW.out
 gi_wp2_with fail
 refine wideCall (countI n W) ?_
 rintro e W ⟨rfl, rfl⟩
 gi_wp2
 clear hc
 gi_loopw [6] (fun i wr => ∃ k : Nat, k ≤ cnt n ∧ i = .int .i64 (k : Int) ∧ J k wr ∧ Keeps p s W.heap.size W wr) (fun i _ => cnt n - (intOf i).toNat)
 case atStart => exact ⟨0, Nat.zero_le _, rfl, h0, Keeps.refl _ _ _ _⟩
 case round =>
  obtain ⟨k, hk, rfl, hJs, hK⟩ := hrel
  by_cases hlt : k < cnt n
  ·have hkn := cnt_lt hn hlt
   have hm1 : (k : Int) < (cnt n : Int) := by omega
   have hc := hK.cell HW.out hp
   have hw1 : IntKind.i64.wrap ((k : Int) * 31) = (k : Int) * 31 := by rw [IntKind.wrap_i64]; omega
   have hw2 : IntKind.i64.wrap ((n : Int) - (k : Int) * 31) = (n : Int) - (k : Int) * 31 := by rw [IntKind.wrap_i64]; omega
   have hY1 := hY k _ wr (encB_at n k hlt) hJs
   obtain ⟨d, hd⟩ : ∃ d : Int, d = (n : Int) - (k : Int) * 31 := ⟨_, rfl⟩
   rw [← hd] at hw2
   have hmin : ((chunkLen n k : Nat) : Int) = if 31 ≤ d then 31 else d := by unfold chunkLen; split <;> omega
   rw [hmin] at hY1
   clear hmin
   by_cases h31 : 31 ≤ d
   all_goals
    simp only [h31, if_true, if_false] at hY1
    obtain ⟨fn, tmps, assign, body, hy, hR⟩ := hY1
    have HD := Lib.hid hd
    clear hd hY
    gi_wp2_with (rw [← HD.out])
   all_goals
    refine ⟨fun h => (by simp [Fence.wide] at h), hR.mono ?_⟩
    rintro e W3 ⟨rfl, hJ3, hk3⟩
    gi_wp2
    go_roundw
    all_goals (first
     | exact ⟨k + 1, by omega, by go_num, hJ3, hK.trans hk3⟩
     | (first | (simp [intOf]; done) | (simp [intOf]; omega)))
  ·obtain rfl : k = cnt n := by omega
   gi_wp2
   go_end0
   exact ⟨⟨_, rfl⟩, hJs⟩
end Go.Proofs.YtccgfladbibjbaaGreatDoor
namespace Go.Proofs.YtccgfladbibjbaaGreatDoor
open Go.RowKit Go.Shelf
attribute [local go_sem ↓] add_UU sub_UU mul_UU add_UL add_LU sub_UL sub_LU mul_UL neg_at not_at and_UU or_UU xor_UU andNot_UU and_UL or_LU shr_UL shl_UL shr_UN shl_UN shl_LN quo_UL rem_UL quo_UU rem_UU
attribute [local go_sem] wrap64_N wrapi_mod wrap8_U wrap32_U wrap64_B wrap32_B wrap8_D wrapi_B wrap64_UU eq_UU ne_UU eq_UL ne_UL lt_UU le_UU
attribute [local simp] putAgg_size
attribute [local go_sem ↓] loadVar_F loadVar_E loadVar_V loadVar_B32 storeVar_F storeVar_E storeVar_V storeVar_B32 box_F box_E box_V box_B32
attribute [local go_sem ↓ high] V4.cells_val FP.cells_val
attribute [local go_sem] run_loadF run_loadE run_loadV run_loadB32 run_storeF run_storeE run_storeV run_storeB32 run_boxA aggAt_drew aggAt_drewN aggAt_alloc_new aggAt_alloc_past aggAt_setCell_other aggAt_putAgg_other aggAt_putAgg_new putAgg_drew putAgg_size putAgg_alloc_new putAgg_alloc_past putAgg_cell_other putAgg_frozen_other V4.agg_arr FP.agg_arr V4.size_arr FP.size_arr V4.fits FP.fits fitsA_agg4 lt_2 ne_2 en_2 lt_3 ne_3 en_3 lt_4 ne_4 en_4 lt_5 ne_5 en_5 lt_6 ne_6 en_6
attribute [local go_sem] Oper.semAt_some
def quoR (f : FP) (c : List V4) (x : V4) : Nat → V4
 | 0 => V4.zero
 | t + 1 => madd f (mmul f (quoR f c x t) x) (c[c.length - 1 - t]?.getD V4.zero)
def quoQ (f : FP) (c : List V4) (x : V4) (t : Nat) : List V4 := (List.range (c.length - 1)).map fun j => if c.length - 1 - j ≤ t then quoR f c x (c.length - 1 - j) else V4.zero
theorem quoQ_length (f : FP) (c : List V4) (x : V4) (t : Nat) : (quoQ f c x t).length = c.length - 1 := by simp [quoQ]
theorem quoQ_zero (f : FP) (c : List V4) (x : V4) : quoQ f c x 0 = List.replicate (c.length - 1) V4.zero := by
 apply List.ext_getElem
 ·simp [quoQ]
 ·intro i h1 h2
  rw [quoQ_length] at h1
  simp only [quoQ, List.getElem_map, List.getElem_range, List.getElem_replicate]
  exact if_neg (by omega)
theorem quoQ_set (f : FP) (c : List V4) (x : V4) (t m : Nat) (h : t + (m + 1) + 1 = c.length) : quoQ f c x (t + 1) = (quoQ f c x t).set m (quoR f c x (t + 1)) := by
 apply List.ext_getElem
 ·simp [quoQ]
 ·intro i h1 h2
  rw [quoQ_length] at h1
  rw [List.getElem_set]
  simp only [quoQ, List.getElem_map, List.getElem_range]
  by_cases hi : m = i
  ·subst hi
   rw [if_pos (by omega), if_pos rfl, show c.length - 1 - m = t + 1 from by omega]
  ·rw [if_neg hi]
   by_cases hle : c.length - 1 - i ≤ t
   ·rw [if_pos hle, if_pos (by omega)]
   ·rw [if_neg hle, if_neg (by omega)]
theorem quoQ_last (f : FP) (c : List V4) (x : V4) (t : Nat) (h : t + 1 = c.length) : quoQ f c x (t + 1) = quoQ f c x t := by
 apply List.ext_getElem
 ·simp [quoQ]
 ·intro i h1 h2
  rw [quoQ_length] at h1
  simp only [quoQ, List.getElem_map, List.getElem_range]
  rw [if_pos (by omega), if_pos (by omega)]
theorem agg_keep {W W' : World} {n b o : Nat} {v : Value} (h : aggAt W n b o = some v) (hb : Below W.heap.size W W') : aggAt W' n b o = some v := (aggAt_congr (hb.block b (aggAt_lt h))).trans h
theorem cell_keep {W W' : World} {b o : Nat} {v : Value} (h : W.cell? ⟨b, o, none⟩ = some v) (hb : Below W.heap.size W W') : W'.cell? ⟨b, o, none⟩ = some v := (hb.cell (p := ⟨b, o, none⟩) (World.block_lt_of_cell? W _ h)).trans h
theorem aggF_of_block {W : World} {b : Nat} {f : FP} (h : W.heap[b]? = some (.cells f.arr 67 (0, 0))) : aggAt W 14 b 0 = some f.val := aggAt_whole h rfl
theorem cell_of_block {W : World} {b : Nat} {v : Value} {t : TypeId} (h : W.heap[b]? = some (.cells #[v] t (0, 0))) : W.cell? ⟨b, 0, none⟩ = some v := by
 unfold World.cell?
 simp only []
 rw [h]
 rfl
theorem ret_tmp_cell {fn : Func} {s u : Tmp} {ty : TypeId} {tmps : Array Value} {w : World} {a : Addr} {v : Value} (h : fn.results = #[.tmp u, .cell s ty]) (hp : tmps.getD s undef = .pointer (some a)) (hv : (loadVar ty a).run Tryz.prog w = .ok v w) :
  (results fn tmps).run Tryz.prog w = .ok (.tuple #[tmps.getD u undef, v]) w := by
 have q : tmps[s]?.getD undef = .pointer (some a) := by simpa using hp
 simp only [results, h]
 simp [q, hv, asAddr, Result.andThen]
def QuoI (f : FP) (c : List V4) (x : V4) (w : World) (k : Nat) (W : World) : Prop :=
 W.heap[w.heap.size]? = some (.cells f.arr 67 (0, 0)) ∧ W.heap[w.heap.size + 1]? = some (.cells x.arr 50 (0, 0)) ∧ W.heap[w.heap.size + 1 + 1]? = some (.cells V4.zero.arr 50 (0, 0)) ∧
 W.heap[w.heap.size + 1 + 1 + 1]? = some (.cells (eVals (quoQ f c x k)).toArray 50 (0, 0)) ∧ W.heap[w.heap.size + 1 + 1 + 1 + 1]? = some (.cells #[.slice (some ⟨w.heap.size + 1 + 1 + 1, 0, none⟩) (c.length - 1) (c.length - 1)] 24 (0, 0)) ∧
 W.heap[w.heap.size + 1 + 1 + 1 + 1 + 1]? = some (.cells (quoR f c x k).arr 50 (0, 0)) ∧ Below w.heap.size w W ∧ w.heap.size + 9 ≤ W.heap.size
theorem QuoI.own (f : FP) (c : List V4) (x : V4) (w : World) (B : Nat) (hB : w.heap.size + 6 ≤ B) : OwnFrom B (QuoI f c x w) := by
 intro k A A' row hs hg hr
 have hr' : ∀ r, row = some r → B ≤ r := fun r e => (hr r e).1
 have hb : ∀ j o, j < w.heap.size + 6 → A.heap[j]? = some o → A'.heap[j]? = some o := fun j o hj h => (hg.block j (Array.getElem?_eq_some_iff.1 h).1 (fun e => by have := hr' j e.symm; omega)).trans h
 obtain ⟨h1, h2, h3, h4, h5, h6, h7, h8⟩ := hs
 exact ⟨hb _ _ (by omega) h1, hb _ _ (by omega) h2, hb _ _ (by omega) h3, hb _ _ (by omega) h4, hb _ _ (by omega) h5, hb _ _ (by omega) h6, h7.grown hg h7.size (fun j e => by have := hr' j e; omega), Nat.le_trans h8 hg.size⟩
theorem QuoI.below {f : FP} {c : List V4} {x : V4} {w W W' : World} {k : Nat} (h : QuoI f c x w k W) (hb : Below W.heap.size W W') : QuoI f c x w k W' := by
 obtain ⟨h1, h2, h3, h4, h5, h6, h7, h8⟩ := h
 have hs : ∀ j o, W.heap[j]? = some o → W'.heap[j]? = some o := fun j o h => (hb.block j (Array.getElem?_eq_some_iff.1 h).1).trans h
 exact ⟨hs _ _ h1, hs _ _ h2, hs _ _ h3, hs _ _ h4, hs _ _ h5, hs _ _ h6, h7.trans (hb.mono h7.size), Nat.le_trans h8 hb.size⟩
theorem QuoI.last {f : FP} {c : List V4} {x v : V4} {w W : World} {k : Nat} (h : QuoI f c x w k W) (hk : k + 1 = c.length) (hv : quoR f c x (k + 1) = v) : QuoI f c x w (k + 1) (putAgg W (w.heap.size + 1 + 1 + 1 + 1 + 1) 0 v.arr) := by
 obtain ⟨h1, h2, h3, h4, h5, h6, h7, h8⟩ := h
 have ho : ∀ j, j ≠ w.heap.size + 1 + 1 + 1 + 1 + 1 → (putAgg W (w.heap.size + 1 + 1 + 1 + 1 + 1) 0 v.arr).heap[j]? = W.heap[j]? := fun j hj => putAgg_block W _ 0 _ j hj
 exact ⟨(ho _ (by omega)).trans h1, (ho _ (by omega)).trans h2, (ho _ (by omega)).trans h3, by rw [quoQ_last f c x k hk]; exact (ho _ (by omega)).trans h4, (ho _ (by omega)).trans h5, by rw [hv]; exact vec_put h6 rfl, putAgg_below h7 (by omega), by rw [putAgg_size]; exact h8⟩
theorem QuoI.next {f : FP} {c : List V4} {x v : V4} {w W : World} {k j : Nat} (h : QuoI f c x w k W) (hk : k + (j + 1) + 1 = c.length) (hv : quoR f c x (k + 1) = v) : QuoI f c x w (k + 1) (putAgg (putAgg W (w.heap.size + 1 + 1 + 1 + 1 + 1) 0 v.arr) (w.heap.size + 1 + 1 + 1) (j * 4) v.arr) := by
 obtain ⟨h1, h2, h3, h4, h5, h6, h7, h8⟩ := h
 have ho : ∀ i, i ≠ w.heap.size + 1 + 1 + 1 + 1 + 1 → (putAgg W (w.heap.size + 1 + 1 + 1 + 1 + 1) 0 v.arr).heap[i]? = W.heap[i]? := fun i hi => putAgg_block W _ 0 _ i hi
 have ho2 : ∀ i, i ≠ w.heap.size + 1 + 1 + 1 → (putAgg (putAgg W (w.heap.size + 1 + 1 + 1 + 1 + 1) 0 v.arr) (w.heap.size + 1 + 1 + 1) (j * 4) v.arr).heap[i]? = (putAgg W (w.heap.size + 1 + 1 + 1 + 1 + 1) 0 v.arr).heap[i]? := fun i hi => putAgg_block _ _ _ _ i hi
 refine ⟨((ho2 _ (by omega)).trans (ho _ (by omega))).trans h1, ((ho2 _ (by omega)).trans (ho _ (by omega))).trans h2, ((ho2 _ (by omega)).trans (ho _ (by omega))).trans h3, ?_, ((ho2 _ (by omega)).trans (ho _ (by omega))).trans h5, ?_, putAgg_below (putAgg_below h7 (by omega)) (by omega), by rw [putAgg_size, putAgg_size]; exact h8⟩
 ·rw [quoQ_set f c x k j hk, hv]
  exact IsEsT.put (IsEsT.other (b' := w.heap.size + 1 + 1 + 1 + 1 + 1) (o := 0) (cs := v.arr) h4 (by omega)) j (by rw [quoQ_length]; omega) v
 ·rw [ho2 _ (by omega), hv]
  exact vec_put h6 rfl
set_option maxRecDepth 100000 in
set_option maxHeartbeats 4000000 in
theorem quotient (f : FP) (A : Option Addr) (cap : Nat) (c : List V4) (m : Nat) (hm : c.length = m + 1) (hlen : c.length ≤ 1073741824) (x : V4) (w : World) (hS : Sees w A (eVals c)) :
  Calls Tryz.prog 80 #[.pointer none, f.val, .slice A c.length cap, x.val] w fun e w' => ∃ b, e = .returned (.tuple #[.slice (some ⟨b, 0, none⟩) m m, (quoR f c x c.length).val]) ∧ w.heap.size ≤ b ∧ IsEs w' b (quoQ f c x c.length) ∧ Below w.heap.size w w' := by
 refine (callsIn_wide (n := 8)).1 ?_
 refine callsIn_of_wp_marks Tryz.func80 rfl trivial ?_ rfl
 simp only [Tryz.ntmps80, List.size_toArray, List.length_cons, List.length_nil, Nat.reduceAdd, Nat.reduceSub, Array.replicate_succ, Array.replicate_zero, List.push_toArray, List.append_toArray, List.nil_append, List.cons_append]
 have hmk := makeE m (by omega)
 have hw1 : IntKind.i64.wrap ((c.length : Int) - 1) = (m : Int) := by rw [IntKind.wrap_i64]; omega
 have hm0 : ¬ ((m : Int) < 0) := by omega
 have HM := Lib.hid hm
 clear hm
 gi_wp2
 refine ⟨trivial, (callsIn_wide.2 (backward _ _ _ _)).mono ?_⟩
 rintro e w1 ⟨rfl, rfl⟩
 gi_wp2
 refine ⟨trivial, (callsIn_wide.2 (polyVisit _ _ _)).mono ?_⟩
 rintro e w2 ⟨rfl, rfl⟩
 gi_wp2
 (obtain ⟨W0, hW0⟩ : ∃ W0 : World, W0 = (((((((((w).alloc (.cells f.arr 67)).alloc (.cells x.arr 50)).alloc (.cells #[.int .u64 0, .int .u64 0, .int .u64 0, .int .u64 0] 50)).alloc (.cells (eVals (List.replicate m V4.zero)).toArray 50)).alloc (.cells #[.slice (some ⟨w.heap.size + 1 + 1 + 1, 0, none⟩) m m] 24)).alloc (.cells #[.int .u64 0, .int .u64 0, .int .u64 0, .int .u64 0] 50)).alloc (.cells #[.slice A c.length cap] 24)).alloc (.cells #[.pointer none] 82)).alloc (.cells #[.func (.func 132) #[] #[.pointer (some ⟨w.heap.size + 1 + 1 + 1 + 1 + 1 + 1, 0, none⟩)]] 175) := ⟨_, rfl⟩); (have gW0 : ∀ (j : Nat) (o : Obj), ([Obj.cells f.arr 67, Obj.cells x.arr 50, Obj.cells #[.int .u64 0, .int .u64 0, .int .u64 0, .int .u64 0] 50, Obj.cells (eVals (List.replicate m V4.zero)).toArray 50, Obj.cells #[.slice (some ⟨w.heap.size + 1 + 1 + 1, 0, none⟩) m m] 24, Obj.cells #[.int .u64 0, .int .u64 0, .int .u64 0, .int .u64 0] 50, Obj.cells #[.slice A c.length cap] 24, Obj.cells #[.pointer none] 82, Obj.cells #[.func (.func 132) #[] #[.pointer (some ⟨w.heap.size + 1 + 1 + 1 + 1 + 1 + 1, 0, none⟩)]] 175] : List Obj)[j]? = some o → W0.heap[w.heap.size + j]? = some o := by rw [hW0]; exact allocs_get w _); (have zW0 : W0.heap.size = w.heap.size + 9 := by rw [hW0]; exact allocs_size w [Obj.cells f.arr 67, Obj.cells x.arr 50, Obj.cells #[.int .u64 0, .int .u64 0, .int .u64 0, .int .u64 0] 50, Obj.cells (eVals (List.replicate m V4.zero)).toArray 50, Obj.cells #[.slice (some ⟨w.heap.size + 1 + 1 + 1, 0, none⟩) m m] 24, Obj.cells #[.int .u64 0, .int .u64 0, .int .u64 0, .int .u64 0] 50, Obj.cells #[.slice A c.length cap] 24, Obj.cells #[.pointer none] 82, Obj.cells #[.func (.func 132) #[] #[.pointer (some ⟨w.heap.size + 1 + 1 + 1 + 1 + 1 + 1, 0, none⟩)]] 175]); (have bW0 : Below w.heap.size w W0 := by rw [hW0]; exact allocs_below w [Obj.cells f.arr 67, Obj.cells x.arr 50, Obj.cells #[.int .u64 0, .int .u64 0, .int .u64 0, .int .u64 0] 50, Obj.cells (eVals (List.replicate m V4.zero)).toArray 50, Obj.cells #[.slice (some ⟨w.heap.size + 1 + 1 + 1, 0, none⟩) m m] 24, Obj.cells #[.int .u64 0, .int .u64 0, .int .u64 0, .int .u64 0] 50, Obj.cells #[.slice A c.length cap] 24, Obj.cells #[.pointer none] 82, Obj.cells #[.func (.func 132) #[] #[.pointer (some ⟨w.heap.size + 1 + 1 + 1 + 1 + 1 + 1, 0, none⟩)]] 175]); (rw [← hW0]); (clear hW0)
 have hz0 := zW0
 have hSz : Sees W0 A (eVals c) := hS.below bW0
 have hQ0 : QuoI f c x w 0 W0 := ⟨gW0 0 _ rfl, gW0 1 _ rfl, gW0 2 _ rfl, by rw [quoQ_zero, HM.out]; exact gW0 3 _ rfl, by rw [HM.out]; exact gW0 4 _ rfl, gW0 5 _ rfl, bW0, by omega⟩
 have hG : Gives 7 131 #[.pointer (some ⟨w.heap.size + 1 + 1 + 1 + 1 + 1 + 1 + 1 + 1, 0, none⟩), .pointer (some ⟨w.heap.size + 1 + 1 + 1 + 1 + 1 + 1 + 1, 0, none⟩)] (fun k => k = w.heap.size + 6 ∨ k = w.heap.size + 7 ∨ k < w.heap.size) true (encP (bwd c)) W0 :=
  polyVisit1 7 (by decide) 132 _ (enters_of Tryz.func132 (by kernel_rfl) rfl) (bwd c) _ _ W0 (cell_of_block (gW0 8 _ rfl)) (cell_of_block (gW0 7 _ rfl)) _ (.inr (.inl rfl)) (fun k hk => by omega)
   (backward1 6 A cap c (by omega) _ W0 (cell_of_block (gW0 6 _ rfl)) hSz _ (.inl rfl) (fun b o e h => .inr (.inr (by subst e; exact hS.lt (by rw [eVals_length]; omega)))) false)
 have hmx : ∀ b o, A = some ⟨b, o, none⟩ → b < w.heap.size := fun b o e => by subst e; exact hS.lt (by rw [eVals_length, HM.out]; omega)
 clear gW0 hmk hS hSz
 refine rangeAll (n := 8) (ps := #[23, 24]) (s := true) (encs := encP (bwd c)) (by decide) rfl (enters_of Tryz.func131 (by kernel_rfl) rfl) hG (Below.refl _ _) (fun k hk => by omega) (fun k x hx => by obtain ⟨q, _, rfl⟩ := encP_get hx; rfl)
  (QuoI f c x w) (QuoI.own f c x w _ (by omega)) hQ0
  (fun k a' W => ∃ q Bx, (bwd c)[k]? = some q ∧ W0.heap.size ≤ Bx ∧ W.heap[Bx]? = some (.cells q.2.arr 50 (0, 0)) ∧ a' = { tmps := #[.pointer none, f.val, .slice A c.length cap, x.val, undef, .pointer (some ⟨w.heap.size, 0, none⟩), undef, .pointer (some ⟨w.heap.size + 1, 0, none⟩), .slice none 0 0, .pointer (some ⟨w.heap.size + 1 + 1, 0, none⟩), .pointer (some ⟨w.heap.size + 1 + 1 + 1 + 1, 0, none⟩), .pointer (some ⟨w.heap.size + 1 + 1 + 1 + 1 + 1, 0, none⟩), .int .i64 q.1, .pointer (some ⟨Bx, 0, none⟩), .slice A c.length cap, .int .i64 c.length, .int .i64 m, .int .i64 m, .slice (some ⟨w.heap.size + 1 + 1 + 1, 0, none⟩) m m, .pointer none, .slice A c.length cap, .func (.func 132) #[] #[.pointer (some ⟨w.heap.size + 1 + 1 + 1 + 1 + 1 + 1, 0, none⟩)], .func (.func 131) #[] #[.pointer (some ⟨w.heap.size + 1 + 1 + 1 + 1 + 1 + 1 + 1 + 1, 0, none⟩), .pointer (some ⟨w.heap.size + 1 + 1 + 1 + 1 + 1 + 1 + 1, 0, none⟩)], .int .i64 q.1, q.2.val, undef, undef, undef, undef, undef, undef, undef, undef, undef, undef, undef, undef, undef, undef, undef, undef], defers := [] } ∧ QuoI f c x w k W)
  (fun a' k X Y row hs hg hr => by
   obtain ⟨q, Bx, h1, h0, h2, h3, h4⟩ := hs
   exact ⟨q, Bx, h1, h0, own_cells (β := Unit) _ Bx _ 50 () X Y row h2 hg hr, h3, QuoI.own f c x w _ (by omega) k X Y row h4 hg hr⟩) ?assign ?body ?done
 case assign =>
  intro lo k v W hx hI
  obtain ⟨q, hq, rfl⟩ := encP_get hx
  gi_wp2
  exact ⟨(KeepsOthers.alloc _ _).from _, Keeps.alloc _ _ _ _ _, q, W.heap.size, hq, by have := hI.2.2.2.2.2.2.2; omega, heap_alloc_new _ _, rfl, hI.below ((Below.refl _ W).alloc (Nat.le_refl _) _)⟩
 case body =>
  rintro lo k v a' W hx ⟨q, Bx, hq, hlo, hBx, rfl, hI⟩
  have hk : k < c.length := by
   have := (List.getElem?_eq_some_iff.1 hq).1
   rwa [bwd_length] at this
  obtain ⟨j, hj⟩ : ∃ j, k + j + 1 = c.length := ⟨c.length - 1 - k, by omega⟩
  have hjl : j < c.length := by omega
  have HJJ := Lib.hid hj
  rw [bwd_get c k j hj] at hq
  injection hq with hq
  subst hq
  have HR := Lib.hid (show quoR f c x (k + 1) = madd f (mmul f (quoR f c x k) x) c[j] from by
   rw [quoR, show c.length - 1 - k = j from by omega, List.getElem?_eq_getElem hjl, Option.getD_some])
  have HI := Lib.hid hI
  have pF := aggF_of_block hI.1
  have pX := agg_of_block hI.2.1
  have pR := agg_of_block hI.2.2.2.2.2.1
  have pY := agg_of_block hBx
  have pC := cell_of_block hI.2.2.2.2.1
  clear hI hBx hG
  simp only [] at pY ⊢
  generalize c[j] = y at *
  generalize quoR f c x k = r at *
  gi_wp2
  refine region_held_in (h := 7) (by kernel_rfl) (by kernel_rfl) (fun W' => Below W.heap.size W W' ∧ aggAt W' 14 w.heap.size 0 = some f.val ∧ aggAt W' 4 (w.heap.size + 1) 0 = some x.val ∧ aggAt W' 4 (w.heap.size + 1 + 1 + 1 + 1 + 1) 0 = some r.val ∧ aggAt W' 4 Bx 0 = some y.val) ⟨(Below.refl _ W).drew, pF, pX, pR, pY⟩ ?_
  have hSB : ∀ W' W'' : World, (Below W.heap.size W W' ∧ aggAt W' 14 w.heap.size 0 = some f.val ∧ aggAt W' 4 (w.heap.size + 1) 0 = some x.val ∧ aggAt W' 4 (w.heap.size + 1 + 1 + 1 + 1 + 1) 0 = some r.val ∧ aggAt W' 4 Bx 0 = some y.val) → Below W'.heap.size W' W'' → (Below W.heap.size W W'' ∧ aggAt W'' 14 w.heap.size 0 = some f.val ∧ aggAt W'' 4 (w.heap.size + 1) 0 = some x.val ∧ aggAt W'' 4 (w.heap.size + 1 + 1 + 1 + 1 + 1) 0 = some r.val ∧ aggAt W'' 4 Bx 0 = some y.val) :=
   fun W' W'' ⟨h0, h1, h2, h3, h4⟩ hb => ⟨h0.trans (hb.mono h0.size), agg_keep h1 hb, agg_keep h2 hb, agg_keep h3 hb, agg_keep h4 hb⟩
  clear pF pX pR pY
  ((try simp only [List.take_succ_cons, List.take_zero, List.drop_succ_cons, List.drop_zero]); repeat (apply chain_op; (focus (intro W' hS' K hK; (try simp only [Act.put, List.setIfInBounds_toArray, List.set_cons_zero, List.set_cons_succ] at hK); (have hS'' := hS'); (obtain ⟨s0, s1, s2, s3, s4⟩ := hS''); go_simp; (first | exact hK _ hS' | (with_reducible refine Calls.mono (montMul f r x _) ?_; rintro e W'' ⟨rfl, hb''⟩; exact hK _ (hSB _ _ hS' hb'')) | (with_reducible refine Calls.mono (montAdd f _ y _) ?_; rintro e W'' ⟨rfl, hb''⟩; exact hK _ (hSB _ _ hS' hb''))); done)); (try simp only [Act.put, List.setIfInBounds_toArray, List.set_cons_zero, List.set_cons_succ])); unfold chain)
  rintro W' ⟨s0, s1, s2, s3, s4⟩
  have HI' := Lib.hid (HI.out.below s0)
  have HB := Lib.hid s0
  clear s0 hSB
  rcases Nat.eq_zero_or_pos j with hj0 | hj0
  ·have hd : decide (0 < j) = false := decide_eq_false (by omega)
   gi_wp2
   have hK : Keeps (fun k => k = w.heap.size + 6 ∨ k = w.heap.size + 7 ∨ k < w.heap.size) true W0.heap.size W (putAgg W' (w.heap.size + 1 + 1 + 1 + 1 + 1) 0 (madd f (mmul f r x) y).arr) := (Keeps.of_below HB.out).trans (Keeps.putAgg _ _ _ _ (by omega) (by omega))
   exact ⟨hK.both.1, hK.both.2, HI'.out.last (by omega) HR.out⟩
  ·obtain ⟨i, hi⟩ : ∃ i, j = i + 1 := ⟨j - 1, by omega⟩
   have hd : decide (0 < j) = true := decide_eq_true hj0
   have hwj : IntKind.i64.wrap ((j : Int) - 1) = (i : Int) := by rw [IntKind.wrap_i64]; omega
   have him : (i : Int) < (m : Int) := by have := HM.out; omega
   have pC : W'.cell? ⟨w.heap.size + 1 + 1 + 1 + 1, 0, none⟩ = some (.slice (some ⟨w.heap.size + 1 + 1 + 1, 0, none⟩) m m) := by
    have := cell_of_block HI'.out.2.2.2.2.1
    rwa [show c.length - 1 = m from by have := HM.out; omega] at this
   have pQ := IsEsT.get HI'.out.2.2.2.1 i (by rw [quoQ_length]; omega)
   generalize (quoQ f c x k)[i]?.getD V4.zero = z at *
   have HJ := Lib.hid hi
   clear hi hj hjl hj0
   gi_wp2
   have hK : Keeps (fun k => k = w.heap.size + 6 ∨ k = w.heap.size + 7 ∨ k < w.heap.size) true W0.heap.size W (putAgg (putAgg W' (w.heap.size + 1 + 1 + 1 + 1 + 1) 0 (madd f (mmul f r x) y).arr) (w.heap.size + 1 + 1 + 1) (i * 4) (madd f (mmul f r x) y).arr) :=
    ((Keeps.of_below HB.out).trans (Keeps.putAgg _ _ _ _ (by omega) (by omega))).trans (Keeps.putAgg _ _ _ _ (by omega) (by omega))
   exact ⟨hK.both.1, hK.both.2, HI'.out.next (by have := HJ.out; have := HJJ.out; omega) HR.out⟩
 case done =>
  intro D W hD hI hK
  have HI := Lib.hid hI
  rw [encP_length, bwd_length] at HI
  have pC : W.cell? ⟨w.heap.size + 1 + 1 + 1 + 1, 0, none⟩ = some (.slice (some ⟨w.heap.size + 1 + 1 + 1, 0, none⟩) m m) := by
   have := cell_of_block HI.out.2.2.2.2.1
   rwa [show c.length - 1 = m from by have := HM.out; omega] at this
  have pR := agg_of_block HI.out.2.2.2.2.2.1
  have pZ := agg_of_block HI.out.2.2.1
  clear hI
  gi_wp2
  refine region_held_wide (h := 3) (by kernel_rfl) (by kernel_rfl) (fun W' => W' = W.drew) rfl ?_
  have hSB : True := trivial
  ((try simp only [List.take_succ_cons, List.take_zero, List.drop_succ_cons, List.drop_zero]); repeat (apply chain_op; (focus (intro W' hS' K hK; (try simp only [Act.put, List.setIfInBounds_toArray, List.set_cons_zero, List.set_cons_succ] at hK); (have hS'' := hS'); (obtain rfl := hS''); go_simp; (first | exact hK _ hS'); done)); (try simp only [Act.put, List.setIfInBounds_toArray, List.set_cons_zero, List.set_cons_succ])); unfold chain)
  rintro W' rfl
  gi_wp2
  have hD' : D ≠ w.heap.size + 1 + 1 := by omega
  have hK' : (putAgg W (w.heap.size + 1 + 1) 0 (quoR f c x c.length).arr).drew.heap[D]? = some (.deferred (some [])) := (putAgg_block W _ 0 _ D hD').trans hK
  refine ⟨by simp, .inl ⟨_, _, rfl, run_takeDeferred hK', ?_⟩⟩
  have hr := vec_put (cs' := (quoR f c x c.length).arr) HI.out.2.2.1 rfl
  have hbD : ∀ j, j ≠ D → ((putAgg W (w.heap.size + 1 + 1) 0 (quoR f c x c.length).arr).drew.putObj D (.deferred none)).heap[j]? = (putAgg W (w.heap.size + 1 + 1) 0 (quoR f c x c.length).arr).heap[j]? := fun j hj => World.putObj_heap_other hj
  refine ⟨_, ret_tmp_cell (a := ⟨w.heap.size + 1 + 1, 0, none⟩) Tryz.results80 rfl (atE (agg_of_block ((hbD _ (by omega)).trans hr))), w.heap.size + 1 + 1 + 1, rfl, by omega, ?_, ?_⟩
  ·exact (hbD _ (by omega)).trans ((putAgg_block W _ 0 _ _ (by omega)).trans HI.out.2.2.2.1)
  ·exact (putAgg_below HI.out.2.2.2.2.2.2.1 (by omega)).drew.trans (belowK_b (w := w) (Nat.le_refl _) _ D _ _ (by omega) hK' rfl rfl)
set_option maxRecDepth 20000 in
set_option maxHeartbeats 1000000 in
theorem polyEval (f : FP) (A : Option Addr) (cap : Nat) (c : List V4) (hn : 0 < c.length) (hlen : c.length ≤ 1073741824) (x : V4) (w : World) (hS : Sees w A (eVals c)) :
  Calls Tryz.prog 48 #[.pointer none, f.val, .slice A c.length cap, x.val] w fun e w' => e = .returned (quoR f c x c.length).val ∧ Below w.heap.size w w' := by
 have HQ := Lib.hid (fun W (h : Below w.heap.size w W) => quotient f A cap c (c.length - 1) (by omega) hlen x W (hS.below h))
 clear hS hn hlen
 generalize quoR f c x c.length = r at *
 generalize c.length - 1 = m at *
 go_enter Tryz.func48, Tryz.ntmps48
 go_wp2_with fail
 refine (HQ.out _ (by repeat (first | with_reducible assumption | with_reducible exact Below.refl _ _ | (with_reducible refine putAgg_below ?_ (by first | omega | (simp; done) | (simp; omega))) | (with_reducible refine Below.alloc ?_ (by first | omega | (simp; done) | (simp; omega)) _) | (with_reducible refine Below.setCell ?_ (by first | omega | (simp; done) | (simp; omega)) _) | (with_reducible refine Below.drew ?_) | (with_reducible refine Below.trans ?_ (Below.mono (by with_reducible assumption) (by first | omega | (simp; done) | (simp; omega))))))).mono ?_
 rintro e w1 ⟨b, rfl, hbl, -, hb1⟩
 (obtain ⟨k1, k2, k3, k4⟩ := kept hb1; (try simp at k4); (try (have z_w_0 := (show w.heap.size < w1.heap.size from by omega); have n_w_0 := (show w.heap.size ≠ w1.heap.size from by omega); have p_w_0 := fun n o => k1 n (w.heap.size) o (by first | omega | (simp; done) | (simp; omega)); have c_w_0 := fun o => k2 (w.heap.size) o (by first | omega | (simp; done) | (simp; omega)); have f_w_0 := fun o => k3 (w.heap.size) o (by first | omega | (simp; done) | (simp; omega)))); (try (have z_w_1 := (show w.heap.size + 1 < w1.heap.size from by omega); have n_w_1 := (show w.heap.size + 1 ≠ w1.heap.size from by omega); have p_w_1 := fun n o => k1 n (w.heap.size + 1) o (by first | omega | (simp; done) | (simp; omega)); have c_w_1 := fun o => k2 (w.heap.size + 1) o (by first | omega | (simp; done) | (simp; omega)); have f_w_1 := fun o => k3 (w.heap.size + 1) o (by first | omega | (simp; done) | (simp; omega)))); (try (have z_w_2 := (show w.heap.size + 1 + 1 < w1.heap.size from by omega); have n_w_2 := (show w.heap.size + 1 + 1 ≠ w1.heap.size from by omega); have p_w_2 := fun n o => k1 n (w.heap.size + 1 + 1) o (by first | omega | (simp; done) | (simp; omega)); have c_w_2 := fun o => k2 (w.heap.size + 1 + 1) o (by first | omega | (simp; done) | (simp; omega)); have f_w_2 := fun o => k3 (w.heap.size + 1 + 1) o (by first | omega | (simp; done) | (simp; omega)))))
 clear HQ
 go_wp2_with ((with_reducible show bodyPost _ _ _ _ _ _); exact end_c Tryz.results48 rfl (atE (v := r.val) (by go_simp)) rfl ⟨rfl, (by repeat (first | with_reducible assumption | with_reducible exact Below.refl _ _ | (with_reducible refine putAgg_below ?_ (by first | omega | (simp; done) | (simp; omega))) | (with_reducible refine Below.alloc ?_ (by first | omega | (simp; done) | (simp; omega)) _) | (with_reducible refine Below.setCell ?_ (by first | omega | (simp; done) | (simp; omega)) _) | (with_reducible refine Below.drew ?_) | (with_reducible refine Below.trans ?_ (Below.mono (by with_reducible assumption) (by first | omega | (simp; done) | (simp; omega))))))⟩)
end Go.Proofs.YtccgfladbibjbaaGreatDoor
