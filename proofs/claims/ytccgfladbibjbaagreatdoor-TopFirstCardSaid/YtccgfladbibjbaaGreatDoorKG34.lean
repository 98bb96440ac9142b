/- deal.Evaluate. -/
import Derived.Test.YtccgfladbibjbaaGreatDoorKG32
import Derived.Test.YtccgfladbibjbaaGreatDoorKG29
import Derived.Laws.EntriesVeiled
namespace Go.Proofs.YtccgfladbibjbaaGreatDoor
open Go.RowKit Go.Shelf
attribute [local go_sem ↓] add_UU sub_UU mul_UU add_UL add_LU sub_UL sub_LU mul_UL neg_at not_at and_UU or_UU xor_UU andNot_UU and_UL or_LU shr_UL shl_UL shr_UN shl_UN shl_LN quo_UL rem_UL quo_UU rem_UU
attribute [local go_sem] wrap64_N wrapi_mod wrap8_U wrap32_U wrap64_B wrap32_B wrap8_D wrapi_B wrap64_UU eq_UU ne_UU eq_UL ne_UL lt_UU le_UU
attribute [local simp] putAgg_size
attribute [local go_sem ↓] loadVar_F loadVar_E loadVar_V loadVar_B32 storeVar_F storeVar_E storeVar_V storeVar_B32 box_F box_E box_V box_B32
attribute [local go_sem ↓ high] V4.cells_val FP.cells_val
attribute [local go_sem] run_loadF run_loadE run_loadV run_loadB32 run_storeF run_storeE run_storeV run_storeB32 run_boxA aggAt_drew aggAt_drewN aggAt_alloc_new aggAt_alloc_past aggAt_setCell_other aggAt_putAgg_other aggAt_putAgg_new putAgg_drew putAgg_size putAgg_alloc_new putAgg_alloc_past putAgg_cell_other putAgg_frozen_other V4.agg_arr FP.agg_arr V4.size_arr FP.size_arr V4.fits FP.fits fitsA_agg4 lt_2 ne_2 en_2 lt_3 ne_3 en_3 lt_4 ne_4 en_4 lt_5 ne_5 en_5 lt_6 ne_6 en_6
attribute [local go_sem] Oper.semAt_some
def shareAt (q : Pa) (f : FP) (cs : List (List V4)) (k : Nat) : Sh := ⟨q.field, q.thr, (k : Int) + 1, q.len, evalL f ((k : Int) + 1) cs⟩
def dealV (q : Pa) (f : FP) (cs : List (List V4)) (n : Nat) : List Sh := (List.range n).map (shareAt q f cs)
theorem dealV_succ (q : Pa) (f : FP) (cs : List (List V4)) (n : Nat) : dealV q f cs (n + 1) = dealV q f cs n ++ [shareAt q f cs n] := by simp [dealV, List.range_succ]
theorem grownBy_setC (W : World) (b o : Nat) (v : Value) : W.grownBy (W.setCell ⟨b, o, none⟩ v) (some b) :=
 ⟨rfl, rfl, rfl, by simp, fun k _ h => Below.heap_setCell _ _ _ _ (fun e => h (by rw [e]))⟩
theorem OwnS.keptU {w w' : World} {base b : Nat} {v : Value} {l : List ShA} (h : OwnS w base v l) (hg : w.grownBy w' (some b)) (hv : ∀ k, v.ownBlock = some k → k < b) (hx : ∀ x ∈ l, ∀ k, x.pv.ownBlock = some k → k < b) : OwnS w' base v l := by
 refine ⟨World.ownsRow.kept h.R hg ?_, fun x hm => (h.P x hm).kept hg ?_⟩
 ·cases hw : v.ownBlock with
  | none => exact .inl rfl
  | some k => exact .inr fun e => by injection e with e; have := hv k hw; omega
 ·cases hw : x.pv.ownBlock with
  | none => exact .inl rfl
  | some k => exact .inr fun e => by injection e with e; have := hx x hm k hw; omega
structure EvR (w : World) (z : Nat) (q : Pa) (f : FP) (cs : List (List V4)) (S C : Array Value) (u k : Nat) (W : World) : Prop where
 T : W.heap[w.heap.size]? = some (.cells #[.pointer none] 82 (0, 0))
 S : W.heap[w.heap.size + 1 + 1]? = some (.cells S 54 (0, 0))
 F : W.heap[z]? = some (.cells f.arr 67 (0, 0))
 C : W.heap[z + 1]? = some (.cells C 91 (0, 0))
 O : ∃ v l, W.heap[z + 1 + 1]? = some (.cells #[v] 39 (0, 0)) ∧ OwnS W (z + 4) v l ∧ l.map ShA.s = dealV q f cs k ∧ (∀ j, v.ownBlock = some j → j < u) ∧ ∀ x ∈ l, ∀ j, x.pv.ownBlock = some j → j < u
 B : Below w.heap.size w W
 Z : z + 4 ≤ W.heap.size
theorem EvR.own (w : World) (z : Nat) (q : Pa) (f : FP) (cs : List (List V4)) (S C : Array Value) (u B : Nat) (hB : w.heap.size ≤ B) : OwnFrom B (EvR w z q f cs S C u) := by
 intro k W W' row hs hg hr
 have hr' : ∀ r, row = some r → ∃ o : Obj, W.heap[r]? = some o ∧ o.isCells = false := fun r e => (hr r e).2
 have hb : ∀ (j : Nat) (cs : Array Value) (t : TypeId), W.heap[j]? = some (.cells cs t (0, 0)) → W'.heap[j]? = some (.cells cs t (0, 0)) := fun j cs t h => own_cells (β := Unit) B j cs t () W W' row h hg hr
 obtain ⟨h1, h2, h3, h4, ⟨v, l, h5, h6, h7⟩, h8, h9⟩ := hs
 exact ⟨hb _ _ _ h1, hb _ _ _ h2, hb _ _ _ h3, hb _ _ _ h4, ⟨v, l, hb _ _ _ h5, h6.own hg hr', h7⟩, h8.grown hg h8.size (fun j e => by have := (hr j e).1; omega), Nat.le_trans h9 hg.size⟩
theorem EvR.below {w W W' : World} {z : Nat} {q : Pa} {f : FP} {cs : List (List V4)} {S C : Array Value} {u k : Nat} (h : EvR w z q f cs S C u k W) (hb : Below W.heap.size W W') : EvR w z q f cs S C u k W' := by
 obtain ⟨h1, h2, h3, h4, ⟨v, l, h5, h6, h7⟩, h8, h9⟩ := h
 exact ⟨blk_below h1 hb rfl, blk_below h2 hb rfl, blk_below h3 hb rfl, blk_below h4 hb rfl, ⟨v, l, blk_below h5 hb rfl, h6.below hb, h7⟩, h8.trans (hb.mono h8.size), Nat.le_trans h9 hb.size⟩
theorem EvR.size {w W : World} {z : Nat} {q : Pa} {f : FP} {cs : List (List V4)} {S C : Array Value} {u k : Nat} (h : EvR w z q f cs S C u k W) : EvR w z q f cs S C W.heap.size k W := by
 obtain ⟨h1, h2, h3, h4, ⟨v, l, h5, h6, h7, _⟩, h8, h9⟩ := h
 exact ⟨h1, h2, h3, h4, ⟨v, l, h5, h6, h7, fun j e => (h6.lt j e).2, fun x hx j e => ((h6.P x hx).lt j e).2⟩, h8, h9⟩
theorem EvR.step {w W w1 w3 w4 : World} {z : Nat} {q : Pa} {f : FP} {cs : List (List V4)} {S C : Array Value} {b k : Nat} (h : EvR w z q f cs S C b k W) (hb1 : Below W.heap.size W w1) (hbz : z + 4 ≤ b) (hbW : b < W.heap.size) (hwz : w.heap.size + 1 + 1 < z)
  {v0 v' pv : Value} {l0 : List ShA} {x : ShA} (hO : w1.heap[z + 1 + 1]? = some (.cells #[v0] 39 (0, 0))) (hl0 : l0.map ShA.s = dealV q f cs k) (hx : x.s = shareAt q f cs k)
  (hb3 : Below w1.heap.size (w1.setCell ⟨b, 4, none⟩ pv) w3) (hS3 : OwnS w3 (z + 4) v0 l0) (hx3 : OwnE w3 (z + 4) x.pv x.s.pay) (hg : w3.grownBy w4 v0.ownBlock) (ho : w4.ownsRow (z + 4) 26 5 v' (l0.length + 1) (shVals l0 ++ x.cells.toList)) :
  KeepsFrom (z + 4) W (w4.setCell ⟨z + 1 + 1, 0, none⟩ v') ∧ Keeps (fun j => j = z + 3) false (z + 4 + 2) W (w4.setCell ⟨z + 1 + 1, 0, none⟩ v') ∧ ∃ u, EvR w z q f cs S C u (k + 1) (w4.setCell ⟨z + 1 + 1, 0, none⟩ v') := by
 obtain ⟨h1, h2, h3, h4, _, h8, h9⟩ := h
 have hlo : ∀ j, v0.ownBlock = some j → z + 4 ≤ j := fun j e => (hS3.lt j e).1
 have g2 := grownBy_setC w1 b 4 pv
 have g5 := grownBy_setC w4 (z + 1 + 1) 0 v'
 have hs1 := hb1.size
 have hs3 : w1.heap.size ≤ w3.heap.size := by have := hb3.size; simpa using this
 have hb3' : Below (w1.setCell ⟨b, 4, none⟩ pv).heap.size (w1.setCell ⟨b, 4, none⟩ pv) w3 := by simpa using hb3
 have hs4 := hg.size
 have hne : ∀ j, j < z + 4 → some j ≠ v0.ownBlock := fun j hj e => by have := hlo j e.symm; omega
 have hblk : ∀ j o, j < z + 4 → j ≠ z + 1 + 1 → W.heap[j]? = some o → (w4.setCell ⟨z + 1 + 1, 0, none⟩ v').heap[j]? = some o := fun j o hj hj2 ho => by
  have hjW := (Array.getElem?_eq_some_iff.1 ho).1
  exact (g5.block j (by omega) (fun e => by injection e; omega)).trans ((hg.block j (by omega) (hne j hj)).trans ((hb3.block j (by omega)).trans ((g2.block j (by omega) (fun e => by injection e; omega)).trans ((hb1.block j hjW).trans ho))))
 have hO4 : w4.heap[z + 1 + 1]? = some (.cells #[v0] 39 (0, 0)) := (hg.block _ (by omega) (hne _ (by omega))).trans ((hb3.block _ (by omega)).trans ((g2.block _ (by omega) (fun e => by injection e; omega)).trans hO))
 have hS4 := hS3.grew hx3 hg ho
 refine ⟨(KeepsFrom.below hb1).trans (((KeepsOthers.setCell w1 _ pv).from _).trans ((KeepsFrom.below hb3').trans (((KeepsOthers.of_grownBy hg (fun j o e ho => by
   obtain ⟨cur, hc⟩ := hS3.cells j e
   rw [hc] at ho
   injection ho with ho
   subst ho
   rfl)).from _).trans ((KeepsOthers.setCell w4 _ v').from _)))),
  (Keeps.of_below hb1).trans ((Keeps.grown g2 (fun j e => by injection e; omega)).trans ((Keeps.of_below hb3').trans ((Keeps.grown hg (fun j e => by have := hlo j e; omega)).trans (Keeps.grown g5 (fun j e => by injection e; omega))))),
  (w4.setCell ⟨z + 1 + 1, 0, none⟩ v').heap.size, hblk _ _ (by omega) (by omega) h1, hblk _ _ (by omega) (by omega) h2, hblk _ _ (by omega) (by omega) h3, hblk _ _ (by omega) (by omega) h4, ?_, ?_, by simp; omega⟩
 ·have hS5 := hS4.kept g5 (fun r e => by injection e; omega)
  refine ⟨v', l0 ++ [x], Boxed.set v' (v := v0) hO4, hS5, by rw [List.map_append, hl0, dealV_succ, List.map_singleton, hx], fun j e => (hS5.lt j e).2, fun y hy j e => ((hS5.P y hy).lt j e).2⟩
 ·have b1 := h8.trans (hb1.mono h8.size)
  have b2 : Below w.heap.size w (w1.setCell ⟨b, 4, none⟩ pv) := b1.setCell (by simp; omega) pv
  have b3 := b2.trans (hb3'.mono b2.size)
  exact (b3.grown hg b3.size (fun j e => by have := hlo j e; omega)).setCell (by simp; omega) v'
set_option maxRecDepth 100000 in
set_option maxHeartbeats 4000000 in
theorem evaluate (q : Pa) (R : Option Addr) (capR : Nat) (ps : List EA) (w : World) (L : Laid w) (hq : q.checkE = 0) (hlen : ps.length = cnt q.len) (hps : ∀ x ∈ ps, (x.l.length : Int) = q.thr) (hS : SeesP w R ps) :
  Calls Tryz.prog 19 #[.pointer none, q.val, .slice R ps.length capR] w fun e w' => ∃ v l, e = .returned (.tuple #[v, .int .i64 0]) ∧ OwnS w' w.heap.size v l ∧ l.map ShA.s = dealV q (getF q.field) (ps.map EA.l) q.shr.toNat ∧ Below w.heap.size w w' := by
 have HK := Lib.hid (fun W (hW : Below w.heap.size w W) => paramsCheck q W (L.to hW))
 obtain ⟨i0, hi0, ia0, ia1, ia2⟩ := info_parts info_S
 have HF := Lib.hid (fun W (hW : Below w.heap.size w W) => fieldGet q.field W (L.to hW))
 obtain ⟨z0, z1, z2, z3, z4⟩ := Pa.checkE_zero hq
 have HSS := Lib.hid (fun W (hW : Below w.heap.size w W) => hS.below hW)
 have HP := Lib.hid hps
 rw [hq] at HK
 have hcl := cnt_le q.len
 have HQ := Lib.hid (show q.val = .agg #[.int .i64 q.field, .int .i64 q.thr, .int .i64 q.shr, .int .i64 q.len] from rfl)
 obtain ⟨f, hf⟩ : ∃ f, getF q.field = f := ⟨_, rfl⟩
 rw [hf, z0] at HF
 rw [hf]
 obtain ⟨m, hm⟩ : ∃ m, cnt q.len = m := ⟨_, rfl⟩
 rw [hm] at hlen hcl
 have HC := Lib.hid (countB q.len)
 rw [hm] at HC
 obtain ⟨fd, th, sh, ln⟩ := q
 unfold Pa.val Pa.cells at *
 simp only [] at HK HF HP z1 z2 z3 z4 HC ⊢
 obtain ⟨n, hn⟩ : ∃ n : Nat, sh = (n : Int) := ⟨sh.toNat, by omega⟩
 obtain ⟨t, ht⟩ : ∃ t : Nat, th = (t : Int) := ⟨th.toNat, by omega⟩
 subst hn ht
 rw [Int.toNat_natCast]
 have HZ := Lib.hid (And.intro z1 (And.intro z2 (And.intro z3 z4)))
 rw [hlen]
 have HL := Lib.hid hlen
 have hneq : ((m : Int) != (m : Int)) = false := by simp
 clear hS L hq hps z0 z1 z2 z3 z4 hf hm HQ
 refine (callsIn_wide (n := 8)).1 ?_
 refine callsIn_of_wp_marks Tryz.func19 rfl trivial ?_ rfl
 simp only [Tryz.ntmps19, List.size_toArray, List.length_cons, List.length_nil, Nat.reduceAdd, Nat.reduceSub, Array.replicate_succ, Array.replicate_zero, List.push_toArray, List.append_toArray, List.nil_append, List.cons_append]
 gi_wp2_with fail
 (obtain ⟨W0, hW0⟩ : ∃ W0 : World, W0 = (((w).alloc (.cells #[.pointer none] 82)).alloc (.cells #[.int .i64 fd, .int .i64 t, .int .i64 n, .int .i64 ln] 48)).alloc (.cells #[.slice R m capR] 54) := ⟨_, rfl⟩); (have gW0 : ∀ (j : Nat) (o : Obj), ([Obj.cells #[.pointer none] 82, Obj.cells #[.int .i64 fd, .int .i64 t, .int .i64 n, .int .i64 ln] 48, Obj.cells #[.slice R m capR] 54] : List Obj)[j]? = some o → W0.heap[w.heap.size + j]? = some o := by rw [hW0]; exact allocs_get w _); (have zW0 : W0.heap.size = w.heap.size + 3 := by rw [hW0]; exact allocs_size w [Obj.cells #[.pointer none] 82, Obj.cells #[.int .i64 fd, .int .i64 t, .int .i64 n, .int .i64 ln] 48, Obj.cells #[.slice R m capR] 54]); (have bW0 : Below w.heap.size w W0 := by rw [hW0]; exact allocs_below w [Obj.cells #[.pointer none] 82, Obj.cells #[.int .i64 fd, .int .i64 t, .int .i64 n, .int .i64 ln] 48, Obj.cells #[.slice R m capR] 54]); (rw [← hW0]); (clear hW0)
 have gT0 : W0.heap[w.heap.size]? = some _ := gW0 0 _ rfl
 have gP0 : W0.heap[w.heap.size + 1]? = some _ := gW0 1 _ rfl
 have gS0 : W0.heap[w.heap.size + 1 + 1]? = some _ := gW0 2 _ rfl
 refine wideCall2 (HK.out W0 bW0) ?_
 rintro e w1 ⟨rfl, hb1⟩
 have gT1 := blk_below gT0 hb1 rfl
 have gP1 := blk_below gP0 hb1 rfl
 have gS1 := blk_below gS0 hb1 rfl
 have bW1 := bW0.trans (hb1.mono bW0.size)
 clear gW0 zW0 gT0 gP0 gS0 hb1 bW0 HK
 have pS := cell_of_block gS1
 obtain ⟨c0, c1, c2, c3⟩ := pa_cells gP1
 gi_wp2
 ((refine region_held_wide (h := 5) (by kernel_rfl) (by kernel_rfl) (fun W' => (Below w1.heap.size w1 W' ∧ W'.cell? ⟨(w.heap.size + 1 + 1), 0, none⟩ = some (.slice R m capR) ∧ W'.cell? ⟨(w.heap.size + 1), (3), none⟩ = some (.int .i64 ln))) ⟨(Below.refl _ w1).drew, pS, c3⟩ ?_); (have hSB : ∀ W' W'' : World, (Below w1.heap.size w1 W' ∧ W'.cell? ⟨(w.heap.size + 1 + 1), 0, none⟩ = some (.slice R m capR) ∧ W'.cell? ⟨(w.heap.size + 1), (3), none⟩ = some (.int .i64 ln)) → Below W'.heap.size W' W'' → (Below w1.heap.size w1 W'' ∧ W''.cell? ⟨(w.heap.size + 1 + 1), 0, none⟩ = some (.slice R m capR) ∧ W''.cell? ⟨(w.heap.size + 1), (3), none⟩ = some (.int .i64 ln)) := fun W' W'' ⟨h0, h1, h2⟩ hb => ⟨h0.trans (hb.mono h0.size), cell_keep h1 hb, cell_keep h2 hb⟩); (clear pS c3); (((try simp only [List.take_succ_cons, List.take_zero, List.drop_succ_cons, List.drop_zero]); repeat (apply chain_op; (focus (intro W' hS' K hK; (try simp only [Act.put, List.setIfInBounds_toArray, List.set_cons_zero, List.set_cons_succ] at hK); (have hS'' := hS'); (obtain ⟨s0, s1, s2⟩ := hS''); go_simp; (first | exact hK _ hS' | (with_reducible refine Calls.mono (HC.out _) ?_; rintro e W'' ⟨rfl, hb''⟩; exact hK _ (hSB _ _ hS' hb''))); done)); (try simp only [Act.put, List.setIfInBounds_toArray, List.set_cons_zero, List.set_cons_succ])); unfold chain)); (rintro W' ⟨s0, s1, s2⟩); (clear hSB))
 have gT2 := blk_below gT1 s0 rfl
 have gP2 := blk_below gP1 s0 rfl
 have gS2 := blk_below gS1 s0 rfl
 have bW2 := bW1.trans (s0.mono bW1.size)
 clear c0 c1 c2 s0 s1 s2 bW1 gT1 gP1 gS1 HC
 have pS := cell_of_block gS2
 obtain ⟨c0, c1, c2, c3⟩ := pa_cells gP2
 generalize W' = w2 at *
 gi_wp2
 gi_loopw [29] (fun iv W => ∃ i : Nat, i ≤ m ∧ iv = .int .i64 i ∧ W = w2) (fun iv _ => m - (intOf iv).toNat)
 case atStart => exact ⟨0, by omega, rfl, rfl⟩
 case round =>
  obtain ⟨i, hi, rfl, rfl⟩ := hrel
  by_cases hlt : i < m
  ·have hlt' : (i : Int) < (m : Int) := by omega
   obtain ⟨b, o, rfl, hbz, hc, hSx⟩ := (HSS.out wr bW2).at i (by rw [HL.out]; exact hlt)
   have hx := HP.out ps[i] (List.getElem_mem (by rw [HL.out]; exact hlt))
   generalize ps[i] = x at *
   unfold EA.val at hc
   have hne : ((x.l.length : Int) != (t : Int)) = false := by rw [hx]; simp
   clear hSx hx
   gi_wp2
   go_roundw
   case rel => exact ⟨i + 1, by omega, by go_num, trivial⟩
   case measure => (first | (simp [intOf]; done) | (simp [intOf]; omega))
  ·obtain rfl : i = m := by omega
   gi_wp2_with fail
   clear c0 c1 c2 c3 pS
   refine wideCall2 (HF.out wr bW2) ?_
   rintro e w3 ⟨rfl, hb3⟩
   have gT3 := blk_below gT2 hb3 rfl
   have gP3 := blk_below gP2 hb3 rfl
   have gS3 := blk_below gS2 hb3 rfl
   have bW3 := bW2.trans (hb3.mono bW2.size)
   clear gT2 gP2 gS2 hb3 bW2 HF
   obtain ⟨c0, c1, c2, c3⟩ := pa_cells gP3
   have hz3 : w.heap.size + 1 + 1 < w3.heap.size := (Array.getElem?_eq_some_iff.1 gS3).1
   have hz3' : w.heap.size + 1 < w3.heap.size := by omega
   have hz3'' : w.heap.size < w3.heap.size := by omega
   have hz4'' : w.heap.size < w3.heap.size + 1 := by omega
   gi_wp2_with fail
   clear c0 c1 c2 c3
   (obtain ⟨W4, hW4⟩ : ∃ W0 : World, W0 = (((w3).alloc (.cells f.arr 67)).alloc (.cells #[.func (.func 45) #[] #[.pointer (some ⟨w3.heap.size, 0, none⟩), .pointer (some ⟨w.heap.size + 1 + 1, 0, none⟩), .pointer (some ⟨w.heap.size, 0, none⟩)]] 91)).alloc (.cells #[.slice none 0 0] 39) := ⟨_, rfl⟩); (have gW4 : ∀ (j : Nat) (o : Obj), ([Obj.cells f.arr 67, Obj.cells #[.func (.func 45) #[] #[.pointer (some ⟨w3.heap.size, 0, none⟩), .pointer (some ⟨w.heap.size + 1 + 1, 0, none⟩), .pointer (some ⟨w.heap.size, 0, none⟩)]] 91, Obj.cells #[.slice none 0 0] 39] : List Obj)[j]? = some o → W4.heap[w3.heap.size + j]? = some o := by rw [hW4]; exact allocs_get w3 _); (have zW4 : W4.heap.size = w3.heap.size + 3 := by rw [hW4]; exact allocs_size w3 [Obj.cells f.arr 67, Obj.cells #[.func (.func 45) #[] #[.pointer (some ⟨w3.heap.size, 0, none⟩), .pointer (some ⟨w.heap.size + 1 + 1, 0, none⟩), .pointer (some ⟨w.heap.size, 0, none⟩)]] 91, Obj.cells #[.slice none 0 0] 39]); (have bW4 : Below w3.heap.size w3 W4 := by rw [hW4]; exact allocs_below w3 [Obj.cells f.arr 67, Obj.cells #[.func (.func 45) #[] #[.pointer (some ⟨w3.heap.size, 0, none⟩), .pointer (some ⟨w.heap.size + 1 + 1, 0, none⟩), .pointer (some ⟨w.heap.size, 0, none⟩)]] 91, Obj.cells #[.slice none 0 0] 39]); (rw [← hW4]); (clear hW4)
   have gF4 : W4.heap[w3.heap.size]? = some _ := gW4 0 _ rfl
   have gC4 : W4.heap[w3.heap.size + 1]? = some _ := gW4 1 _ rfl
   have gO4 : W4.heap[w3.heap.size + 1 + 1]? = some _ := gW4 2 _ rfl
   have gT4 := blk_below gT3 bW4 rfl
   have gP4 := blk_below gP3 bW4 rfl
   have gS4 := blk_below gS3 bW4 rfl
   have bW4' := bW3.trans (bW4.mono bW3.size)
   have hBl := blank ⟨fd, t, n, ln⟩ W4
   unfold Pa.val Pa.cells at hBl
   refine wideCall2 hBl ?_
   rintro e w5 ⟨rfl, rfl⟩
   clear hBl
   simp only []
   (obtain ⟨W5, hW5⟩ : ∃ W0 : World, W0 = (W4).alloc (.cells #[.int .i64 fd, .int .i64 t, .int .i64 n, .int .i64 ln] 48) := ⟨_, rfl⟩); (have gW5 : ∀ (j : Nat) (o : Obj), ([Obj.cells #[.int .i64 fd, .int .i64 t, .int .i64 n, .int .i64 ln] 48] : List Obj)[j]? = some o → W5.heap[W4.heap.size + j]? = some o := by rw [hW5]; exact allocs_get W4 _); (have zW5 : W5.heap.size = W4.heap.size + 1 := by rw [hW5]; exact allocs_size W4 [Obj.cells #[.int .i64 fd, .int .i64 t, .int .i64 n, .int .i64 ln] 48]); (have bW5 : Below W4.heap.size W4 W5 := by rw [hW5]; exact allocs_below W4 [Obj.cells #[.int .i64 fd, .int .i64 t, .int .i64 n, .int .i64 ln] 48]); (rw [← hW5]); (clear hW5)
   have gB5 : W5.heap[W4.heap.size]? = some _ := gW5 0 _ rfl
   rw [zW4] at gB5 zW5 ⊢
   have gT5 := blk_below gT4 bW5 rfl
   have gP5 := blk_below gP4 bW5 rfl
   have gS5 := blk_below gS4 bW5 rfl
   have gF5 := blk_below gF4 bW5 rfl
   have gC5 := blk_below gC4 bW5 rfl
   have gO5 := blk_below gO4 bW5 rfl
   have bW5' := bW4'.trans (bW5.mono bW4'.size)
   have hG : Gives 7 81 #[.pointer (some ⟨w3.heap.size + 3, 0, none⟩)] (fun k => k = w3.heap.size + 3) false (encS ⟨fd, t, n, ln⟩ n) W5 := blank1 7 ⟨fd, t, n, ln⟩ n rfl (by have := HZ.out.1.2; omega) (w3.heap.size + 3) W5 gB5 (fun k => k = w3.heap.size + 3) rfl false
   have hQ0 : EvR w w3.heap.size ⟨fd, t, n, ln⟩ f (ps.map EA.l) #[.slice R i capR] #[.func (.func 45) #[] #[.pointer (some ⟨w3.heap.size, 0, none⟩), .pointer (some ⟨w.heap.size + 1 + 1, 0, none⟩), .pointer (some ⟨w.heap.size, 0, none⟩)]] 0 0 W5 :=
    ⟨gT5, gS5, gF5, gC5, ⟨_, [], gO5, ownS_nil _ _, by simp [dealV], by simp [Value.ownBlock], by simp⟩, bW5', by omega⟩
   clear gT3 gP3 gS3 gT4 gP4 gS4 gF4 gC4 gO4 gT5 gP5 gS5 gF5 gC5 gO5 bW4 bW4' bW5 bW5' gW4 gW5 bW3
   have hzz5 : W5.heap.size = w3.heap.size + 4 := by rw [zW5]
   gi_wp2_with fail
   refine rangeAll (n := 8) (ps := #[48]) (s := false) (encs := encS ⟨fd, t, n, ln⟩ n) (by decide) rfl (enters_of Tryz.func81 (by kernel_rfl) rfl) hG (Below.refl _ _) (fun k hk => by omega) (fun k x hx => by obtain ⟨_, rfl⟩ := encS_get hx; rfl)
    (fun k W => ∃ u, EvR w w3.heap.size ⟨fd, t, n, ln⟩ f (ps.map EA.l) #[.slice R i capR] #[.func (.func 45) #[] #[.pointer (some ⟨w3.heap.size, 0, none⟩), .pointer (some ⟨w.heap.size + 1 + 1, 0, none⟩), .pointer (some ⟨w.heap.size, 0, none⟩)]] u k W) (fun k X Y row hs hg hr => by obtain ⟨u, hs⟩ := hs; exact ⟨u, EvR.own w w3.heap.size _ f _ _ _ u _ (by omega) k X Y row hs hg hr⟩) ⟨0, hQ0⟩
    (fun k a' W => ∃ b, a' = { tmps := #[.pointer none, .agg #[.int .i64 fd, .int .i64 t, .int .i64 n, .int .i64 ln], .slice R i capR, .pointer (some ⟨w.heap.size, 0, none⟩), .pointer (some ⟨w.heap.size + 1, 0, none⟩), .pointer (some ⟨w.heap.size + 1 + 1, 0, none⟩), u6, u7, .int .i64 0, undef, u10, .pointer (some ⟨w3.heap.size, 0, none⟩), .int .i64 0, .pointer (some ⟨w3.heap.size + 1, 0, none⟩), .pointer (some ⟨w3.heap.size + 1 + 1, 0, none⟩), .pointer (some ⟨b, 0, none⟩), .agg #[.int .i64 fd, .int .i64 t, .int .i64 n, .int .i64 ln], .int .i64 0, .int .i64 0, .bool false, undef, .slice R i capR, .int .i64 i, .pointer (some ⟨w.heap.size + 1, 3, none⟩), .int .i64 ln, .int .i64 i, .bool false, .slice R i capR, .int .i64 i, .int .i64 i, .bool false, u31, u32, u33, u34, u35, u36, u37, u38, .tuple #[f.val, .int .i64 0], .pointer (some ⟨w.heap.size + 1, 0, none⟩), .int .i64 fd, .tuple #[f.val, .int .i64 0], f.val, .int .i64 0, .func (.func 45) #[] #[.pointer (some ⟨w3.heap.size, 0, none⟩), .pointer (some ⟨w.heap.size + 1 + 1, 0, none⟩), .pointer (some ⟨w.heap.size, 0, none⟩)], .agg #[.int .i64 fd, .int .i64 t, .int .i64 n, .int .i64 ln], .func (.func 81) #[] #[.pointer (some ⟨w3.heap.size + 3, 0, none⟩)], .agg #[.int .i64 fd, .int .i64 t, .int .i64 ((k : Int) + 1), .int .i64 ln, .slice none 0 0], undef, undef, undef, undef, undef, undef, undef, undef, undef, undef, undef, undef, undef, undef], defers := [] } ∧ w3.heap.size + 4 ≤ b ∧ W.heap[b]? = some (.cells #[.int .i64 fd, .int .i64 t, .int .i64 ((k : Int) + 1), .int .i64 ln, .slice none 0 0] 26 (0, 0)) ∧ EvR w w3.heap.size ⟨fd, t, n, ln⟩ f (ps.map EA.l) #[.slice R i capR] #[.func (.func 45) #[] #[.pointer (some ⟨w3.heap.size, 0, none⟩), .pointer (some ⟨w.heap.size + 1 + 1, 0, none⟩), .pointer (some ⟨w.heap.size, 0, none⟩)]] b k W)
    (fun a' k X Y row hs hg hr => by obtain ⟨b, h1, h2, h3, h4⟩ := hs; exact ⟨b, h1, h2, own_cells (β := Unit) _ b _ 26 () X Y row h3 hg hr, EvR.own w w3.heap.size _ f _ _ _ b _ (by omega) k X Y row h4 hg hr⟩) ?assign ?body ?done
   case assign =>
    intro lo k v W hx hI
    obtain ⟨hk, rfl⟩ := encS_get hx
    unfold blankV
    obtain ⟨u, hI⟩ := hI
    have HI := Lib.hid hI
    clear hI
    gi_wp2
    have hb : Below W.heap.size W (W.alloc (.cells #[.int .i64 fd, .int .i64 t, .int .i64 ((k : Int) + 1), .int .i64 ln, .slice none 0 0] 26)) := (Below.refl _ W).alloc (Nat.le_refl _) _
    exact ⟨KeepsFrom.below hb, Keeps.of_below hb, W.heap.size, rfl, HI.out.Z, heap_alloc_new W _, HI.out.size.below hb⟩
   case body =>
    rintro lo k v a' W hx ⟨b, rfl, hbz, hB, hI⟩
    obtain ⟨hk, rfl⟩ := encS_get hx
    have HI := Lib.hid hI
    have pT := cell_of_block hI.T
    have pC := cell_of_block hI.C
    have hB0 : W.cell? ⟨b, 0, none⟩ = some (.int .i64 fd) ∧ W.cell? ⟨b, 1, none⟩ = some (.int .i64 t) ∧ W.cell? ⟨b, 2, none⟩ = some (.int .i64 ((k : Int) + 1)) ∧ W.cell? ⟨b, 3, none⟩ = some (.int .i64 ln) := by
     unfold World.cell?; simp only [hB]; exact ⟨rfl, rfl, rfl, rfl⟩
    obtain ⟨d0, d1, d2, d3⟩ := hB0
    have HE := Lib.hid (evalOne f ((k : Int) + 1) w3.heap.size (w.heap.size + 1 + 1) w.heap.size R capR ps (fun x hx => by have := HP.out x hx; have := HZ.out; omega) (by rw [HL.out]; omega) W hI.F (by rw [HL.out]; exact hI.S) hI.T (HSS.out W hI.B))
    have HBk := Lib.hid hB
    have hbW : b < W.heap.size := (Array.getElem?_eq_some_iff.1 hB).1
    clear hI hB hG hQ0 hx
    gi_wp2_with fail
    refine roundCall2 (noteNil _ _ _ _) ?_
    rintro e wn ⟨rfl, rfl⟩
    gi_wp2_with fail
    refine roundCall2 HE.out ?_
    rintro e w1 ⟨v, rfl, hv, hb1⟩
    have HI1 := Lib.hid (HI.out.below hb1)
    have hB1 := blk_below HBk.out hb1 rfl
    obtain ⟨A', c', rfl, hcap, hsee, -⟩ := hv.open
    have hB0 : w1.cell? ⟨b, 0, none⟩ = some (.int .i64 fd) ∧ w1.cell? ⟨b, 1, none⟩ = some (.int .i64 t) ∧ w1.cell? ⟨b, 2, none⟩ = some (.int .i64 ((k : Int) + 1)) ∧ w1.cell? ⟨b, 3, none⟩ = some (.int .i64 ln) ∧ w1.cell? ⟨b, 4, none⟩ = some (.slice none 0 0) := by
     unfold World.cell?; simp only [hB1]; exact ⟨rfl, rfl, rfl, rfl, rfl⟩
    have hfr := row_frozen hB1 4
    obtain ⟨v0, l0, hO1, hOS1, hl01, hu1, hu2⟩ := HI1.out.O
    have pO := cell_of_block hO1
    have HV := Lib.hid (And.intro hv (And.intro hb1 (And.intro hB1 (And.intro hcap (And.intro hO1 (And.intro hOS1 (And.intro hl01 (And.intro hu1 hu2))))))))
    have hbne : w3.heap.size + 1 + 1 ≠ b := by omega
    clear d0 d1 d2 d3 HE pT pC hv hb1 hB1 hcap hsee hO1 hOS1 hl01 hu1 hu2
    obtain ⟨d0, d1, d2, d3, d4⟩ := hB0
    have hps : (evalL f ((k : Int) + 1) (ps.map EA.l)).length = i := by rw [evalL_length, List.length_map, HL.out]
    obtain ⟨pay, hpay⟩ : ∃ pay, evalL f ((k : Int) + 1) (ps.map EA.l) = pay := ⟨_, rfl⟩
    rw [hpay] at HV ⊢
    have HPY := Lib.hid hpay
    clear hpay hps
    obtain ⟨x, hx⟩ : ∃ x : ShA, x = ⟨⟨fd, t, (k : Int) + 1, ln, pay⟩, A', c'⟩ := ⟨_, rfl⟩
    have hxc : x.cells = #[.int .i64 fd, .int .i64 t, .int .i64 ((k : Int) + 1), .int .i64 ln, .slice A' pay.length c'] := by rw [hx]; rfl
    have hxp : x.pv = .slice A' pay.length c' := by rw [hx]; rfl
    obtain ⟨wx, hwx⟩ : ∃ wx, wx = (w1.setCell ⟨b, 4, none⟩ (.slice A' pay.length c')).alloc (.cells #[.int .i64 fd, .int .i64 t, .int .i64 ((k : Int) + 1), .int .i64 ln, .slice A' pay.length c'] 26) := ⟨_, rfl⟩
    have hb3 : Below w1.heap.size (w1.setCell ⟨b, 4, none⟩ (.slice A' pay.length c')) wx := by rw [hwx]; exact (Below.refl _ _).alloc (by simp) _
    have g2 := grownBy_setC w1 b 4 (.slice A' pay.length c')
    have hb3' : Below (w1.setCell ⟨b, 4, none⟩ (.slice A' pay.length c')).heap.size (w1.setCell ⟨b, 4, none⟩ (.slice A' pay.length c')) wx := by simpa using hb3
    have hSx : OwnS wx (w3.heap.size + 4) v0 l0 := (HV.out.2.2.2.2.2.1.keptU g2 HV.out.2.2.2.2.2.2.2.1 HV.out.2.2.2.2.2.2.2.2).below hb3'
    have hZW := HI.out.Z
    have hEx : OwnE wx (w3.heap.size + 4) x.pv x.s.pay := by
     rw [hxp, show x.s.pay = pay from by rw [hx]]
     refine ((HV.out.1.kept g2 ?_).below hb3').base_le hZW
     exact .inr fun e => by have := (HV.out.1.lt b e).1; omega
    have hNx : Sees wx (some ⟨w1.heap.size, 0, none⟩) x.cells.toList := by
     rw [hxc, hwx]
     have h := heap_alloc_new (w1.setCell ⟨b, 4, none⟩ (.slice A' pay.length c')) (.cells #[.int .i64 fd, .int .i64 t, .int .i64 ((k : Int) + 1), .int .i64 ln, .slice A' pay.length c'] 26)
     rw [show (w1.setCell ⟨b, 4, none⟩ (.slice A' pay.length c')).heap.size = w1.heap.size from by simp] at h
     exact row_sees (cs := [_, _, _, _, _]) h
    have hn255 : l0.length ≤ 255 := by
     have := congrArg List.length HV.out.2.2.2.2.2.2.1
     rw [List.length_map] at this
     have h2 : (dealV ⟨fd, t, n, ln⟩ f (ps.map EA.l) k).length = k := by simp [dealV]
     have := HZ.out
     omega
    have hzx : w3.heap.size + 4 ≤ wx.heap.size := by have h1 := hb3.size; simp only [World.size_setCell] at h1; have := HV.out.2.1.size; omega
    have h1x : ∀ u ∈ x.cells.toList, u.oneCell' = true := by
     have := shVals_one [x]
     rwa [shVals, shVals, List.append_nil] at this
    have HX := Lib.hid (And.intro hSx (And.intro hEx (And.intro hNx (And.intro hb3 hx))))
    clear hSx hEx hNx hb3 hb3' g2 hx
    gi_wp2_with (gi_at_builtin; rw [← hwx]; refine wpListIn_append_sees rfl (.tmp 58) (.tmp 60) 39 rfl (w3.heap.size + 4) 26 i0 _ 5 56 Tryz.underlying39 hi0 ia0 ia1 ia2 rfl (by decide) v0 l0.length (shVals l0) rfl HX.out.1.R (some ⟨w1.heap.size, 0, none⟩) 1 1 x.cells.toList rfl (by rw [hxc]; rfl) HX.out.2.2.1 h1x (by unfold maxLen; omega) (by omega) hzx ?_)
    intro v' w4 hown hg _
    rw [← hwx] at hg
    have hown : w4.ownsRow (w3.heap.size + 4) 26 5 v' (l0.length + 1) (shVals l0 ++ x.cells.toList) := by rw [hxc]; exact hown
    have hloc : ∀ j, v0.ownBlock = some j → w3.heap.size + 4 ≤ j := fun j e => (HX.out.1.lt j e).1
    have hO4 : w4.heap[w3.heap.size + 1 + 1]? = some (.cells #[v0] 39 (0, 0)) := (hg.block _ (by omega) (fun e => by have := hloc _ e.symm; omega)).trans ((HX.out.2.2.2.1.block _ (by have := HV.out.2.1.size; omega)).trans ((grownBy_setC w1 b 4 (.slice A' pay.length c')).block _ (by have := HV.out.2.1.size; omega) (fun e => by injection e; omega) |>.trans HV.out.2.2.2.2.1))
    have p7 := cell_of_block hO4
    have f7 := Boxed.frozen hO4
    have HG := Lib.hid (HI.out.step HV.out.2.1 hbz hbW (by omega) HV.out.2.2.2.2.1 HV.out.2.2.2.2.2.2.1 (show x.s = shareAt ⟨fd, t, n, ln⟩ f (ps.map EA.l) k from by rw [HX.out.2.2.2.2]; unfold shareAt; rw [HPY.out]) HX.out.2.2.2.1 HX.out.1 HX.out.2.1 hg hown)
    obtain ⟨Av, cv, hv', -⟩ : ∃ A c, v' = .slice A (l0.length + 1) c ∧ True := by
     rcases hown.2 with ⟨_, h0⟩ | ⟨g, c, cur, e, _⟩
     ·exact absurd h0 (by omega)
     ·exact ⟨_, _, e, trivial⟩
    subst hv'
    clear hown hg hO4 hloc
    gi_wp2
    rw [zW5]
    exact HG.out
   case done =>
    intro D W hD hI hK
    obtain ⟨u, hI⟩ := hI
    rw [encS_length] at hI
    obtain ⟨v, l, hO, hS, hl, -, -⟩ := hI.O
    have pO := cell_of_block hO
    obtain ⟨A', c', hv', -⟩ := hS.open
    subst hv'
    have HI := Lib.hid (And.intro hI (And.intro hS hl))
    clear hI hS
    gi_wp2
    have hDn : w3.heap.size + 4 ≤ D := by omega
    have hp := grownBy_putObj' W D (.deferred none)
    refine ⟨by simp, .inl ⟨_, _, rfl, run_takeDeferred hK, ?_⟩⟩
    refine ⟨_, results_tmp2 rfl _ _ _, _, l, rfl, (HI.out.2.1.own hp (fun r e => by injection e with e; subst e; exact ⟨_, hK, rfl⟩)).base_le (by omega), HI.out.2.2, HI.out.1.B.grown hp HI.out.1.B.size (fun j e => by injection e; omega)⟩
end Go.Proofs.YtccgfladbibjbaaGreatDoor
