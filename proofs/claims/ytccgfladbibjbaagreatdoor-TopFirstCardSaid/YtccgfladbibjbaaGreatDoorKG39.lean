/- wire.DecodeAll, where all is well. -/
import Derived.Test.YtccgfladbibjbaaGreatDoorKG38
import Derived.Test.YtccgfladbibjbaaGreatDoorKG33
import Derived.Scope
import Derived.WalkMore
import Derived.Test.YtccgfladbibjbaaGreatDoorKG35
import Derived.Test.YtccgfladbibjbaaGreatDoorKG37
namespace Go.Proofs.YtccgfladbibjbaaGreatDoor
open Go.RowKit Go.Shelf
attribute [local go_sem ↓] add_UU sub_UU mul_UU add_UL add_LU sub_UL sub_LU mul_UL neg_at not_at and_UU or_UU xor_UU andNot_UU and_UL or_LU shr_UL shl_UL shr_UN shl_UN shl_LN quo_UL rem_UL quo_UU rem_UU
attribute [local go_sem] wrap64_N wrapi_mod wrap8_U wrap32_U wrap64_B wrap32_B wrap8_D wrapi_B wrap64_UU eq_UU ne_UU eq_UL ne_UL lt_UU le_UU
attribute [local simp] putAgg_size
attribute [local go_sem ↓] loadVar_F loadVar_E loadVar_V loadVar_B32 storeVar_F storeVar_E storeVar_V storeVar_B32 box_F box_E box_V box_B32
attribute [local go_sem ↓ high] V4.cells_val FP.cells_val
attribute [local go_sem] run_loadF run_loadE run_loadV run_loadB32 run_storeF run_storeE run_storeV run_storeB32 run_boxA aggAt_drew aggAt_drewN aggAt_alloc_new aggAt_alloc_past aggAt_setCell_other aggAt_putAgg_other aggAt_putAgg_new putAgg_drew putAgg_size putAgg_alloc_new putAgg_alloc_past putAgg_cell_other putAgg_frozen_other V4.agg_arr FP.agg_arr V4.size_arr FP.size_arr V4.fits FP.fits fitsA_agg4 lt_2 ne_2 en_2 lt_3 ne_3 en_3 lt_4 ne_4 en_4 lt_5 ne_5 en_5 lt_6 ne_6 en_6
attribute [local go_sem] Oper.semAt_some
def recsV (bs : List BA) : List Sh := bs.map fun x => recS x.l
structure DaI (w : World) (bs : List BA) (u k : Nat) (W : World) : Prop where
 O : ∃ v l, W.heap[w.heap.size]? = some (.cells #[v] 39 (0, 0)) ∧ OwnS W (w.heap.size + 3) v l ∧ l.map ShA.s = recsV (bs.take k) ∧ (∀ j, v.ownBlock = some j → j < u) ∧ ∀ x ∈ l, ∀ j, x.pv.ownBlock = some j → j < u
 E : W.heap[w.heap.size + 1]? = some (.cells #[.int .i64 0] 27 (0, 0))
 B : Below w.heap.size w W
 Z : w.heap.size + 3 ≤ W.heap.size
theorem DaI.own (w : World) (bs : List BA) (u B : Nat) (hB : w.heap.size ≤ B) : OwnFrom B (DaI w bs u) := by
 intro k W W' row hs hg hr
 have hr' : ∀ r, row = some r → ∃ o : Obj, W.heap[r]? = some o ∧ o.isCells = false := fun r e => (hr r e).2
 have hb : ∀ (j : Nat) (cs : Array Value) (t : TypeId), W.heap[j]? = some (.cells cs t (0, 0)) → W'.heap[j]? = some (.cells cs t (0, 0)) := fun j cs t h => own_cells (β := Unit) B j cs t () W W' row h hg hr
 obtain ⟨⟨v, l, h5, h6, h7⟩, h1, h8, h9⟩ := hs
 exact ⟨⟨v, l, hb _ _ _ h5, h6.own hg hr', h7⟩, hb _ _ _ h1, h8.grown hg h8.size (fun j e => by have := (hr j e).1; omega), Nat.le_trans h9 hg.size⟩
theorem DaI.below {w W W' : World} {bs : List BA} {u k : Nat} (h : DaI w bs u k W) (hb : Below W.heap.size W W') : DaI w bs u k W' := by
 obtain ⟨⟨v, l, h5, h6, h7⟩, h1, h8, h9⟩ := h
 exact ⟨⟨v, l, blk_below h5 hb rfl, h6.below hb, h7⟩, blk_below h1 hb rfl, h8.trans (hb.mono h8.size), Nat.le_trans h9 hb.size⟩
theorem DaI.size {w W : World} {bs : List BA} {u k : Nat} (h : DaI w bs u k W) : DaI w bs W.heap.size k W := by
 obtain ⟨⟨v, l, h5, h6, h7, _⟩, h1, h8, h9⟩ := h
 exact ⟨⟨v, l, h5, h6, h7, fun j e => (h6.lt j e).2, fun x hx j e => ((h6.P x hx).lt j e).2⟩, h1, h8, h9⟩
theorem DaI.step {w W w3 w4 : World} {bs : List BA} {b k : Nat} (h : DaI w bs b k W) (hk : k < bs.length) {v0 v' : Value} {l0 : List ShA} {x : ShA} (hO : W.heap[w.heap.size]? = some (.cells #[v0] 39 (0, 0))) (hl0 : l0.map ShA.s = recsV (bs.take k)) (hx : x.s = recS bs[k].l)
  (hb3 : Below W.heap.size W w3) (hS3 : OwnS w3 (w.heap.size + 3) v0 l0) (hx3 : OwnE w3 (w.heap.size + 3) x.pv x.s.pay) (hg : w3.grownBy w4 v0.ownBlock) (ho : w4.ownsRow (w.heap.size + 3) 26 5 v' (l0.length + 1) (shVals l0 ++ x.cells.toList)) :
  KeepsFrom (w.heap.size + 3) W (w4.setCell ⟨w.heap.size, 0, none⟩ v') ∧ Keeps (fun j => j < w.heap.size ∨ j = w.heap.size + 1 + 1) false (w.heap.size + 3 + 2) W (w4.setCell ⟨w.heap.size, 0, none⟩ v') ∧ ∃ u, DaI w bs u (k + 1) (w4.setCell ⟨w.heap.size, 0, none⟩ v') := by
 obtain ⟨_, h1, h8, h9⟩ := h
 have hlo : ∀ j, v0.ownBlock = some j → w.heap.size + 3 ≤ j := fun j e => (hS3.lt j e).1
 have g5 := grownBy_setC w4 w.heap.size 0 v'
 have hs3 := hb3.size
 have hs4 := hg.size
 have hne : ∀ j, j < w.heap.size + 3 → some j ≠ v0.ownBlock := fun j hj e => by have := hlo j e.symm; omega
 have hO4 : w4.heap[w.heap.size]? = some (.cells #[v0] 39 (0, 0)) := (hg.block _ (by omega) (hne _ (by omega))).trans ((hb3.block _ (by omega)).trans hO)
 have hS4 := hS3.grew hx3 hg ho
 refine ⟨(KeepsFrom.below hb3).trans (((KeepsOthers.of_grownBy hg (fun j o e ho => by
   obtain ⟨cur, hc⟩ := hS3.cells j e
   rw [hc] at ho
   injection ho with ho
   subst ho
   rfl)).from _).trans ((KeepsOthers.setCell w4 _ v').from _)),
  (Keeps.of_below hb3).trans ((Keeps.grown hg (fun j e => by have := hlo j e; omega)).trans (Keeps.grown g5 (fun j e => by injection e; omega))),
  (w4.setCell ⟨w.heap.size, 0, none⟩ v').heap.size, ?_, ?_, ?_, by simp; omega⟩
 ·have hS5 := hS4.kept g5 (fun r e => by injection e; omega)
  refine ⟨v', l0 ++ [x], Boxed.set v' (v := v0) hO4, hS5, ?_, fun j e => (hS5.lt j e).2, fun y hy j e => ((hS5.P y hy).lt j e).2⟩
  rw [List.map_append, hl0, List.take_succ_eq_append_getElem hk]
  unfold recsV
  rw [List.map_append, List.map_singleton, List.map_singleton, hx]
 ·exact (g5.block _ (by omega) (fun e => by injection e; omega)).trans ((hg.block _ (by omega) (hne _ (by omega))).trans ((hb3.block _ (by omega)).trans h1))
 ·exact ((h8.trans (hb3.mono h8.size)).grown hg (by have := h8.size; omega) (fun j e => by have := hlo j e; omega)).setCell (by simp) v'
set_option maxRecDepth 100000 in
set_option maxHeartbeats 4000000 in
theorem decodeAll (R : Option Addr) (cap : Nat) (bs : List BA) (hn : bs.length ≤ 1048576) (hlen : ∀ x ∈ bs, x.l.length ≤ 1073741824) (hok : ∀ x ∈ bs, recE x.l = 0) (hsh : OkShs (recsV bs)) (w : World) (L : Laid w) (hS : SeesR w R bs) (hR : ∀ b o, R = some ⟨b, o, none⟩ → b < w.heap.size) (hA : ∀ x ∈ bs, ∀ b o, x.A = some ⟨b, o, none⟩ → b < w.heap.size) :
  Calls Tryz.prog 39 #[.slice R bs.length cap] w fun e w' => ∃ v l, e = .returned (.tuple #[v, .int .i64 0]) ∧ OwnS w' w.heap.size v l ∧ l.map ShA.s = recsV bs ∧ Below w.heap.size w w' := by
 obtain ⟨i0, hi0, ia0, ia1, ia2⟩ := info_parts info_S
 obtain ⟨n, hnn⟩ : ∃ n, bs.length = n := ⟨_, rfl⟩
 have HG := Lib.hid (fun (W : World) (hW : Below w.heap.size w W) (Bx : Nat) (hBx : W.heap[Bx]? = some (.cells #[.slice R bs.length cap] 37 (0, 0))) => shares1 7 R cap bs hn hlen hok Bx W hBx (L.to hW) (hS.below hW) w.heap.size L.size hR hA (fun b => b < w.heap.size ∨ b = Bx) (fun b h => .inl h) (.inr rfl) false)
 rw [hnn] at HG hn ⊢
 have HC := Lib.hid (fun W (hW : Below w.heap.size w W) (A : Option Addr) (c : Nat) (l : List ShA) (hl : l.map ShA.s = recsV bs) (hp : ∀ x ∈ l, x.s.pay.length ≤ 1048576) (hln : l.length ≤ 1048576) (hSS : SeesS W A l) => checkShares A c l (by rw [hl]; exact hsh) hp hln W (L.to hW) hSS)
 have HN := Lib.hid hnn
 have HP := Lib.hid (show ∀ s ∈ recsV bs, s.pay.length ≤ 1048576 from fun s hs => by rw [(checkE_ok (hsh.ok s hs)).2.2.2.2.1]; have := cnt_le s.len; omega)
 clear hS L hlen hok hsh hR hA hnn
 refine (callsIn_wide (n := 8)).1 ?_
 refine callsIn_of_wp_marks Tryz.func39 rfl trivial ?_ rfl
 simp only [Tryz.ntmps39, List.size_toArray, List.length_cons, List.length_nil, Nat.reduceAdd, Nat.reduceSub, Array.replicate_succ, Array.replicate_zero, List.push_toArray, List.append_toArray, List.nil_append, List.cons_append]
 gi_wp2_with fail
 refine wpIn_wide.2 (wp_scope_straight ((wpIn_wide (n := 8)).1 ?_))
 gi_wp2_with fail
 refine wpIn_label ?_
 gi_wp2_with fail
 refine wideCall2 (sharesF R n cap _) ?_
 rintro e w1 ⟨rfl, rfl⟩
 simp only [World.size_alloc]
 (obtain ⟨W0, hW0⟩ : ∃ W0 : World, W0 = (((w).alloc (.cells #[.slice none 0 0] 39)).alloc (.cells #[.int .i64 0] 27)).alloc (.cells #[.slice R n cap] 37) := ⟨_, rfl⟩); (have gW0 : ∀ (j : Nat) (o : Obj), ([Obj.cells #[.slice none 0 0] 39, Obj.cells #[.int .i64 0] 27, Obj.cells #[.slice R n cap] 37] : List Obj)[j]? = some o → W0.heap[w.heap.size + j]? = some o := by rw [hW0]; exact allocs_get w _); (have zW0 : W0.heap.size = w.heap.size + 3 := by rw [hW0]; exact allocs_size w [Obj.cells #[.slice none 0 0] 39, Obj.cells #[.int .i64 0] 27, Obj.cells #[.slice R n cap] 37]); (have bW0 : Below w.heap.size w W0 := by rw [hW0]; exact allocs_below w [Obj.cells #[.slice none 0 0] 39, Obj.cells #[.int .i64 0] 27, Obj.cells #[.slice R n cap] 37]); (rw [← hW0]); (clear hW0)
 have gO0 : W0.heap[w.heap.size]? = some _ := gW0 0 _ rfl
 have gE0 : W0.heap[w.heap.size + 1]? = some _ := gW0 1 _ rfl
 have gX0 : W0.heap[w.heap.size + 1 + 1]? = some _ := gW0 2 _ rfl
 have hG := HG.out W0 bW0 (w.heap.size + 1 + 1) gX0
 rw [zW0] at hG
 have hQ0 : DaI w bs 0 0 W0 := ⟨⟨_, [], gO0, ownS_nil _ _, by simp [recsV], by simp [Value.ownBlock], by simp⟩, gE0, bW0, by omega⟩
 clear gW0 gO0 gE0 gX0 HG
 gi_wp2_with fail
 refine rangeV (n := 8) (ps := #[10, 11]) (s := false) (Vp := VSh bs (w.heap.size + 3)) (N := n) (by decide) rfl (enters_of Tryz.func102 (by kernel_rfl) rfl) hG (Below.refl _ _) (fun k hk => by omega) (fun k x W _ hx => by obtain ⟨X, rfl, _⟩ := hx; rfl)
  (fun k W => ∃ u, DaI w bs u k W) (fun k X Y row hs hg hr => by obtain ⟨u, hs⟩ := hs; exact ⟨u, DaI.own w bs u _ (by omega) k X Y row hs hg hr⟩) ⟨0, hQ0⟩
  (fun k a' W => ∃ (b : Nat) (X : ShA), a' = { tmps := #[.slice R n cap, undef, .slice none 0 0, .int .i64 0, .pointer (some ⟨w.heap.size, 0, none⟩), .pointer (some ⟨w.heap.size + 1, 0, none⟩), .pointer (some ⟨b, 0, none⟩), .int .i64 0, .slice R n cap, .func (.func 102) #[] #[.pointer (some ⟨w.heap.size + 1 + 1, 0, none⟩)], X.s.val X.A X.cap, .int .i64 0, undef, undef, undef, undef, undef, undef, undef, undef, undef, undef, undef, undef, undef, undef, undef, undef], defers := [] } ∧ w.heap.size + 3 ≤ b ∧ W.heap[b]? = some (.cells X.cells 26 (0, 0)) ∧ (∃ h : k < bs.length, X.s = recS bs[k].l) ∧ OwnE W (w.heap.size + 3) X.pv X.s.pay ∧ DaI w bs b k W)
  (fun a' k X Y row hs hg hr => by obtain ⟨b, Z, h1, h2, h3, h4, h5, h6⟩ := hs; exact ⟨b, Z, h1, h2, own_cells (β := Unit) _ b _ 26 () X Y row h3 hg hr, h4, h5.own hg (fun r e => (hr r e).2), DaI.own w bs b _ (by omega) k X Y row h6 hg hr⟩) ?assign ?body ?done
 case assign =>
  intro lo k v W hk hx hI
  obtain ⟨X, rfl, hX, hO⟩ := hx
  obtain ⟨u, hI⟩ := hI
  have HI := Lib.hid (And.intro hI (And.intro hX hO))
  clear hI hX hO
  have HXV := Lib.hid (show X.s.val X.A X.cap = .agg #[.int .i64 X.s.field, .int .i64 X.s.thr, .int .i64 X.s.idx, .int .i64 X.s.len, .slice X.A X.s.pay.length X.cap] from rfl)
  rw [HXV.out]
  gi_wp2
  have hb : Below W.heap.size W (W.alloc (.cells #[.int .i64 X.s.field, .int .i64 X.s.thr, .int .i64 X.s.idx, .int .i64 X.s.len, .slice X.A X.s.pay.length X.cap] 26)) := (Below.refl _ W).alloc (Nat.le_refl _) _
  exact ⟨KeepsFrom.below hb, Keeps.of_below hb, W.heap.size, X, rfl, HI.out.1.Z, heap_alloc_new W _, HI.out.2.1, HI.out.2.2.below hb, HI.out.1.size.below hb⟩
 case body =>
  rintro lo k a' W hk ⟨b, X, rfl, hbz, hB, ⟨hkl, hX⟩, hO, hI⟩
  have HXC := Lib.hid (show X.cells = #[.int .i64 X.s.field, .int .i64 X.s.thr, .int .i64 X.s.idx, .int .i64 X.s.len, .slice X.A X.s.pay.length X.cap] from rfl)
  rw [HXC.out] at hB
  have hB0 : W.cell? ⟨b, 0, none⟩ = some (.int .i64 X.s.field) ∧ W.cell? ⟨b, 1, none⟩ = some (.int .i64 X.s.thr) ∧ W.cell? ⟨b, 2, none⟩ = some (.int .i64 X.s.idx) ∧ W.cell? ⟨b, 3, none⟩ = some (.int .i64 X.s.len) ∧ W.cell? ⟨b, 4, none⟩ = some (.slice X.A X.s.pay.length X.cap) := by
   unfold World.cell?; simp only [hB]; exact ⟨rfl, rfl, rfl, rfl, rfl⟩
  obtain ⟨d0, d1, d2, d3, d4⟩ := hB0
  obtain ⟨v0, l0, hO1, hOS1, hl01, hu1, hu2⟩ := hI.O
  have pO := cell_of_block hO1
  obtain ⟨wx, hwx⟩ : ∃ wx, wx = W.alloc (.cells #[.int .i64 X.s.field, .int .i64 X.s.thr, .int .i64 X.s.idx, .int .i64 X.s.len, .slice X.A X.s.pay.length X.cap] 26) := ⟨_, rfl⟩
  have hb3 : Below W.heap.size W wx := by rw [hwx]; exact (Below.refl _ _).alloc (Nat.le_refl _) _
  have hNx : Sees wx (some ⟨W.heap.size, 0, none⟩) X.cells.toList := by
   rw [HXC.out, hwx]
   exact row_sees (cs := [_, _, _, _, _]) (heap_alloc_new W (.cells #[.int .i64 X.s.field, .int .i64 X.s.thr, .int .i64 X.s.idx, .int .i64 X.s.len, .slice X.A X.s.pay.length X.cap] 26))
  have hl0n : l0.length = k := by
   have := congrArg List.length hl01
   unfold recsV at this
   rw [List.length_map, List.length_map, List.length_take] at this
   omega
  have hl0le : l0.length ≤ 1048576 := by omega
  clear hl0n
  have hzx : w.heap.size + 3 ≤ wx.heap.size := Nat.le_trans hI.Z hb3.size
  have h1x : ∀ u ∈ X.cells.toList, u.oneCell' = true := by
   have := shVals_one [X]
   rwa [shVals, shVals, List.append_nil] at this
  have HX := Lib.hid (And.intro (hOS1.below hb3) (And.intro (hO.below hb3) (And.intro hNx hb3)))
  have HV := Lib.hid (And.intro hI (And.intro hO1 (And.intro hl01 hX)))
  have hxc := HXC.out
  clear hNx hb3 hI hO1 hOS1 hl01 hu1 hu2 hO hX hB hG hQ0
  gi_wp2_with (gi_at_builtin; rw [← hwx]; refine wpListIn_append_sees rfl (.tmp 16) (.tmp 18) 39 rfl (w.heap.size + 3) 26 i0 _ 5 56 Tryz.underlying39 hi0 ia0 ia1 ia2 rfl (by decide) v0 l0.length (shVals l0) rfl HX.out.1.R (some ⟨W.heap.size, 0, none⟩) 1 1 X.cells.toList rfl (by rw [hxc]; rfl) HX.out.2.2.1 h1x (by unfold maxLen; omega) (by omega) hzx ?_)
  intro v' w4 hown hg _
  rw [← hwx] at hg
  have hown : w4.ownsRow (w.heap.size + 3) 26 5 v' (l0.length + 1) (shVals l0 ++ X.cells.toList) := by rw [hxc]; exact hown
  have hloc : ∀ j, v0.ownBlock = some j → w.heap.size + 3 ≤ j := fun j e => (HX.out.1.lt j e).1
  have hzW := HV.out.1.Z
  have hzx2 := HX.out.2.2.2.size
  have hO4 : w4.heap[w.heap.size]? = some (.cells #[v0] 39 (0, 0)) := (hg.block _ (by omega) (fun e => by have := hloc _ e.symm; omega)).trans ((HX.out.2.2.2.block _ (by omega)).trans HV.out.2.1)
  have p7 := cell_of_block hO4
  have f7 := Boxed.frozen hO4
  have HG := Lib.hid (HV.out.1.step hkl HV.out.2.1 HV.out.2.2.1 HV.out.2.2.2 HX.out.2.2.2 HX.out.1 HX.out.2.1 hg hown)
  obtain ⟨Av, cv, hv', -⟩ : ∃ A c, v' = .slice A (l0.length + 1) c ∧ True := by
   rcases hown.2 with ⟨_, h0⟩ | ⟨g, c, cur, e, _⟩
   ·exact absurd h0 (by omega)
   ·exact ⟨_, _, e, trivial⟩
  subst hv'
  clear hown hg hO4 hloc
  gi_wp2
  rw [zW0]
  exact HG.out
 case done =>
  intro D W hD hI hK
  obtain ⟨u, hI⟩ := hI
  obtain ⟨v, l, hO, hS, hl, -, -⟩ := hI.O
  rw [List.take_of_length_le (by rw [HN.out]; exact Nat.le_refl _)] at hl
  have pO := cell_of_block hO
  have pE := cell_of_block hI.E
  have fE := Boxed.frozen hI.E
  obtain ⟨A', c', hv', -, hSS⟩ := hS.open
  subst hv'
  have HI := Lib.hid (And.intro hI (And.intro hS (And.intro hl (And.intro hSS (And.intro hO hK)))))
  clear hI hS hSS hK hO hG hQ0
  have hll : l.length = n := by
   have := congrArg List.length HI.out.2.2.1
   unfold recsV at this
   rw [List.length_map, List.length_map] at this
   rw [this, HN.out]
  have HCk := Lib.hid (HC.out W HI.out.1.B A' c' l HI.out.2.2.1 (fun x hx => HP.out x.s (by rw [← HI.out.2.2.1]; exact List.mem_map_of_mem hx)) (by omega) HI.out.2.2.2.1)
  clear hll
  gi_wp2_with fail
  refine wideCall2 HCk.out ?_
  rintro e W2 ⟨rfl, hb2⟩
  have hI2 := HI.out.1.below hb2
  have hS2 := HI.out.2.1.below hb2
  have hO2 := blk_below HI.out.2.2.2.2.1 hb2 rfl
  have hK2 := blk_below HI.out.2.2.2.2.2 hb2 rfl
  have pO2 := cell_of_block hO2
  have pE2 := cell_of_block hI2.E
  have fE2 := Boxed.frozen hI2.E
  have HI2 := Lib.hid (And.intro hI2 (And.intro hS2 (And.intro hO2 hK2)))
  clear hb2 hI2 hS2 hO2 hK2 pO pE fE HCk
  gi_wp2_with fail
  rw [Exit.noGoto_ret]
  obtain ⟨V, hV⟩ : ∃ V, V = W2.setCell ⟨w.heap.size + 1, 0, none⟩ (.int .i64 0) := ⟨_, rfl⟩
  rw [← hV]
  have hg := grownBy_setC W2 (w.heap.size + 1) 0 (.int .i64 0)
  rw [← hV] at hg
  have hDV : V.heap[D]? = some (.deferred (some [])) := (hg.block D (Array.getElem?_eq_some_iff.1 HI2.out.2.2.2).1 (fun e => by injection e; omega)).trans HI2.out.2.2.2
  have hSV := HI2.out.2.1.kept hg (fun r e => by injection e; omega)
  have hBV : Below w.heap.size w V := by rw [hV]; exact HI2.out.1.B.setCell (by simp) _
  have hp := grownBy_putObj' V D (.deferred none)
  refine ⟨by simp, .inl ⟨_, _, rfl, run_takeDeferred hDV, ?_⟩⟩
  exact ⟨_, results_tmp2 rfl _ _ _, _, l, rfl, (hSV.own hp (fun r e => by injection e with e; subst e; exact ⟨_, hDV, rfl⟩)).base_le (by omega), HI.out.2.2.1, hBV.grown hp hBV.size (fun j e => by injection e; omega)⟩
end Go.Proofs.YtccgfladbibjbaaGreatDoor
namespace Go.Proofs.YtccgfladbibjbaaGreatDoor
open Go.RowKit
attribute [local go_sem ↓] add_UU sub_UU mul_UU add_UL add_LU sub_UL sub_LU mul_UL neg_at not_at and_UU or_UU xor_UU andNot_UU and_UL or_LU shr_UL shl_UL shr_UN shl_UN shl_LN quo_UL rem_UL quo_UU rem_UU
attribute [local go_sem] wrap64_N wrapi_mod wrap8_U wrap32_U wrap64_B wrap32_B wrap8_D wrapi_B wrap64_UU eq_UU ne_UU eq_UL ne_UL lt_UU le_UU
attribute [local simp] putAgg_size
attribute [local go_sem ↓] loadVar_F loadVar_E loadVar_V loadVar_B32 storeVar_F storeVar_E storeVar_V storeVar_B32 box_F box_E box_V box_B32
attribute [local go_sem ↓ high] V4.cells_val FP.cells_val
attribute [local go_sem] run_loadF run_loadE run_loadV run_loadB32 run_storeF run_storeE run_storeV run_storeB32 run_boxA aggAt_drew aggAt_drewN aggAt_alloc_new aggAt_alloc_past aggAt_setCell_other aggAt_putAgg_other aggAt_putAgg_new putAgg_drew putAgg_size putAgg_alloc_new putAgg_alloc_past putAgg_cell_other putAgg_frozen_other V4.agg_arr FP.agg_arr V4.size_arr FP.size_arr V4.fits FP.fits fitsA_agg4 lt_2 ne_2 en_2 lt_3 ne_3 en_3 lt_4 ne_4 en_4 lt_5 ne_5 en_5 lt_6 ne_6 en_6
def combV (x0 : Sh) (y : List ShA) : List V4 := joinVals (getF x0.field) (cnt x0.len) y
set_option maxRecDepth 100000 in
set_option maxHeartbeats 4000000 in
theorem combine (R : Option Addr) (cap : Nat) (x0 : ShA) (l : List ShA) (t n : Nat) (hok : OkShs ((x0 :: l).map ShA.s)) (ht : x0.s.thr = t) (hnl : x0.s.len = n) (hn : (x0 :: l).length ≤ 1048576) (hcap : (x0 :: l).length ≤ cap) (w : World) (L : Laid w) (hS : SeesS w R (x0 :: l)) :
  Calls Tryz.prog 40 #[.pointer none, .slice R (x0 :: l).length cap] w fun e w' => ∃ v, e = .returned (.tuple #[v, .int .i64 (joinE (getF x0.s.field) (combV x0.s ((x0 :: l).take t)) n (cnt n))]) ∧ OwnB w' w.heap.size v (joinV (getF x0.s.field) (combV x0.s ((x0 :: l).take t)) n) ∧ Below w.heap.size w w' := by
 have HV := Lib.hid (values R cap x0 l t hok ht hn hcap w L hS)
 have HF := Lib.hid (fun W (hW : Below w.heap.size w W) => fieldGet x0.s.field W (L.to hW))
 have hck := hok.ok x0.s (by simp)
 have hg : getE x0.s.field = 0 := (checkE_ok hck).1
 have hlen := (checkE_ok hck).2.2.2.1
 rw [hg] at HF
 have hc : (combV x0.s ((x0 :: l).take t)).length = cnt (n : Int) := by unfold combV joinVals; rw [valsV_length, hnl]
 have hcd : combV x0.s ((x0 :: l).take t) = joinVals (getF x0.s.field) (cnt x0.s.len) ((x0 :: l).take t) := rfl
 rw [← hcd] at HV
 have HS := Lib.hid (fun W (hW : Below w.heap.size w W) => (hS.below hW).1.share 0 (by simp))
 obtain ⟨b, o, rfl, hb, c0, c1, c2, c3, c4⟩ := HS.out w (Below.refl _ w)
 rw [Nat.zero_mul, Nat.add_zero] at c0 c3
 rw [show (x0 :: l)[0].s.len = (n : Int) from hnl] at c3
 rw [show (x0 :: l)[0].s.field = x0.s.field from rfl] at c0
 have HC0 := Lib.hid (And.intro c0 c3)
 have hpos : (0 : Int) < ((x0 :: l).length : Int) := by rw [List.length_cons]; omega
 have hpos' : 0 < (x0 :: l).length := by rw [List.length_cons]; omega
 have hn65 : n ≤ 65535 := by omega
 clear hS L hok hg HS c0 c1 c2 c3 c4 ht hcd hck hlen hnl
 obtain ⟨f, hf⟩ : ∃ f, getF x0.s.field = f := ⟨_, rfl⟩
 rw [hf] at HF ⊢
 obtain ⟨ys, hys⟩ : ∃ ys, combV x0.s ((x0 :: l).take t) = ys := ⟨_, rfl⟩
 rw [hys] at HV hc ⊢
 have HJ := Lib.hid (fun W A c (hs : Sees W A (eVals ys)) => join f A c ys n (by omega) hc W hs)
 have HC := Lib.hid hc
 generalize x0.s.field = fd at *
 generalize (x0 :: l).length = m at *
 clear hf hys hc
 go_enter Tryz.func40, Tryz.ntmps40
 go_wp2_with fail
 refine HV.out.mono ?_
 rintro e w1 ⟨v, rfl, hv, hb1⟩
 obtain ⟨Av, cv, rfl, hcv, hsv, -⟩ := hv.open
 have d0 := (World.cell?_of_block (hb1.block _ hb)).trans HC0.out.1
 have HB1 := Lib.hid (And.intro hb1 hsv)
 clear hb1 hv hsv HV
 go_wp2_with fail
 refine (HF.out w1 HB1.out.1).mono ?_
 rintro e w2 ⟨rfl, hb2⟩
 have bW2 := HB1.out.1.trans (hb2.mono HB1.out.1.size)
 have hs2 := HB1.out.2.below hb2
 clear hb2 HF d0 HB1
 go_upto_region 5 with (fail)
 (obtain ⟨W3, hW3⟩ : ∃ W0 : World, W0 = (w2).alloc (.cells f.arr 67) := ⟨_, rfl⟩); (have gW3 : ∀ (j : Nat) (o : Obj), ([Obj.cells f.arr 67] : List Obj)[j]? = some o → W3.heap[w2.heap.size + j]? = some o := by rw [hW3]; exact allocs_get w2 _); (have zW3 : W3.heap.size = w2.heap.size + 1 := by rw [hW3]; exact allocs_size w2 [Obj.cells f.arr 67]); (have bW3 : Below w2.heap.size w2 W3 := by rw [hW3]; exact allocs_below w2 [Obj.cells f.arr 67]); (rw [← hW3]); (clear hW3)
 have gF3 : W3.heap[w2.heap.size]? = some _ := gW3 0 _ rfl
 have bW3' := bW2.trans (bW3.mono bW2.size)
 have hs3 := hs2.below bW3
 have d3 := (World.cell?_of_block (bW3'.block _ hb)).trans HC0.out.2
 have pF := aggF_of_block gF3
 clear gW3 bW3 gF3 bW2 HC0 zW3 hs2
 have HS3 := Lib.hid (And.intro hs3 bW3')
 clear hs3 bW3'
 ((have hS0 : (Below W3.heap.size W3 W3.drew ∧ aggAt W3.drew 14 (w2.heap.size) (0) = some (f.val) ∧ W3.drew.cell? ⟨(b), (o + 3), none⟩ = some (.int .i64 n)) := ⟨((Below.refl _ W3)).drew, pF, d3⟩); (refine region_phase (by kernel_rfl) 6 [] [0, 1, 2, 3, 4, 5] [7, 8, 9, 10] 6 (by kernel_rfl) (by kernel_rfl) (fun W' => (Below W3.heap.size W3 W' ∧ aggAt W' 14 (w2.heap.size) (0) = some (f.val) ∧ W'.cell? ⟨(b), (o + 3), none⟩ = some (.int .i64 n))) hS0 ?_); (have hSB : ∀ W' W'' : World, (Below W3.heap.size W3 W' ∧ aggAt W' 14 (w2.heap.size) (0) = some (f.val) ∧ W'.cell? ⟨(b), (o + 3), none⟩ = some (.int .i64 n)) → Below W'.heap.size W' W'' → (Below W3.heap.size W3 W'' ∧ aggAt W'' 14 (w2.heap.size) (0) = some (f.val) ∧ W''.cell? ⟨(b), (o + 3), none⟩ = some (.int .i64 n)) := fun W' W'' ⟨h0, h1, h2⟩ hb => ⟨h0.trans (hb.mono h0.size), agg_keep h1 hb, cell_keep h2 hb⟩); (clear pF d3); (iterate 6 (refine chainL_op (by rfl) (by rfl) ?_ ?_ ?_; rotate_left; (focus (intro W' hS' K hK; (try simp only [put_some, List.set] at hK); (have hS'' := hS'); (obtain ⟨s0, s1, s2⟩ := hS''); go_simp; (first | exact hK _ hS' (Later.refl _)); done)); (try simp only [put_some, List.set]))); (refine chainL_nil ?_))
 refine spineP_op (by rfl) (by rfl) (fun W1 hS1 hL1 K hK => ?_)
 go_simp
 refine Calls.mono (HJ.out W1 Av cv (HS3.out.1.below hS1.1)) ?_
 rintro e w4 ⟨v, rfl, hv, hb4⟩
 have HR := Lib.hid (show OwnB w4 w.heap.size v (joinV f ys n) ∧ Below w.heap.size w w4 from by
  have h1 := HS3.out.2.trans (hS1.1.mono HS3.out.2.size)
  exact ⟨hv.base_le h1.size, h1.trans (hb4.mono h1.size)⟩)
 clear hv hb4 hL1 hS1
 refine hK _ _ (fun h => absurd rfl h) ?_
 (try simp only [put_some, List.set])
 clear hK K hSB hS0 HS3
 ((refine spineP_nil ?_); (try simp only [put_some, List.set]); (iterate 4 (refine chainL_op (by rfl) (by rfl) ?_ ?_ ?_; rotate_left; (focus (intro W' hS' K hK; (subst hS'); (try simp only [put_some, List.set] at hK); go_simp; (exact hK _ rfl (Later.refl _)); done)); (try simp only [put_some, List.set]))); (refine chainL_nil ?_))
 go_wp2
 go_ret2
 exact ⟨v, rfl, HR.out⟩
end Go.Proofs.YtccgfladbibjbaaGreatDoor
namespace Go.Proofs.YtccgfladbibjbaaGreatDoor
open Go.RowKit
attribute [local go_sem ↓] add_UU sub_UU mul_UU add_UL add_LU sub_UL sub_LU mul_UL neg_at not_at and_UU or_UU xor_UU andNot_UU and_UL or_LU shr_UL shl_UL shr_UN shl_UN shl_LN quo_UL rem_UL quo_UU rem_UU
attribute [local go_sem] wrap64_N wrapi_mod wrap8_U wrap32_U wrap64_B wrap32_B wrap8_D wrapi_B wrap64_UU eq_UU ne_UU eq_UL ne_UL lt_UU le_UU
attribute [local simp] putAgg_size
attribute [local go_sem ↓] loadVar_F loadVar_E loadVar_V loadVar_B32 storeVar_F storeVar_E storeVar_V storeVar_B32 box_F box_E box_V box_B32
attribute [local go_sem ↓ high] V4.cells_val FP.cells_val
attribute [local go_sem] run_loadF run_loadE run_loadV run_loadB32 run_storeF run_storeE run_storeV run_storeB32 run_boxA aggAt_drew aggAt_drewN aggAt_alloc_new aggAt_alloc_past aggAt_setCell_other aggAt_putAgg_other aggAt_putAgg_new putAgg_drew putAgg_size putAgg_alloc_new putAgg_alloc_past putAgg_cell_other putAgg_frozen_other V4.agg_arr FP.agg_arr V4.size_arr FP.size_arr V4.fits FP.fits fitsA_agg4 lt_2 ne_2 en_2 lt_3 ne_3 en_3 lt_4 ne_4 en_4 lt_5 ne_5 en_5 lt_6 ne_6 en_6
theorem zeroC_congr (l m : List ShA) (h : l.map ShA.s = m.map ShA.s) : idxs l = idxs m := by
 have e : ∀ l : List ShA, idxs l = (l.map ShA.s).map Sh.idx := fun l => by unfold idxs; rw [List.map_map]; rfl
 rw [e, e, h]
theorem colV_congr (l m : List ShA) (h : l.map ShA.s = m.map ShA.s) (j : Nat) : colV l j = colV m j := by
 have e : ∀ l : List ShA, colV l j = (l.map ShA.s).map fun s => at4 s.pay j := fun l => by unfold colV; rw [List.map_map]; rfl
 rw [e, e, h]
theorem combV_congr (x : Sh) (l m : List ShA) (h : l.map ShA.s = m.map ShA.s) : combV x l = combV x m := by
 unfold combV joinVals valsV
 rw [zeroC_congr l m h]
 congr 1
 funext k
 unfold valAt
 rw [colV_congr l m h]
def shsV (ss : List Sh) : List V4 := match ss with
 | [] => []
 | s :: r => combV s (((s :: r).take s.thr.toNat).map fun s => ⟨s, none, 0⟩)
def shsE (ss : List Sh) : Int := match ss with
 | [] => 0
 | s :: r => joinE (getF s.field) (shsV (s :: r)) s.len.toNat (cnt s.len)
def shsB (ss : List Sh) : List (BitVec 8) := match ss with
 | [] => []
 | s :: r => joinV (getF s.field) (shsV (s :: r)) s.len.toNat
set_option maxRecDepth 20000 in
set_option maxHeartbeats 4000000 in
theorem combineBytes (R : Option Addr) (cap : Nat) (bs : List BA) (hn : bs.length ≤ 1048576) (hlen : ∀ x ∈ bs, x.l.length ≤ 1073741824) (hok : ∀ x ∈ bs, recE x.l = 0) (hsh : OkShs (recsV bs)) (w : World) (L : Laid w) (hS : SeesR w R bs) (hR : ∀ b o, R = some ⟨b, o, none⟩ → b < w.heap.size) (hA : ∀ x ∈ bs, ∀ b o, x.A = some ⟨b, o, none⟩ → b < w.heap.size) :
  Calls Tryz.prog 15 #[.pointer none, .slice R bs.length cap] w fun e w' => ∃ v, e = .returned (.tuple #[v, .int .i64 (shsE (recsV bs))]) ∧ OwnB w' w.heap.size v (shsB (recsV bs)) ∧ Below w.heap.size w w' := by
 have HD := Lib.hid (decodeAll R cap bs hn hlen hok hsh w L hS hR hA)
 have HL := Lib.hid (fun W (hW : Below w.heap.size w W) => L.to hW)
 have HSH := Lib.hid hsh
 have hrl : (recsV bs).length = bs.length := by unfold recsV; rw [List.length_map]
 obtain ⟨ss, hss⟩ : ∃ ss, recsV bs = ss := ⟨_, rfl⟩
 rw [hss] at HD HSH hrl ⊢
 generalize bs.length = n at *
 clear L hS hR hA hlen hok hsh hss
 go_enter Tryz.func15, Tryz.ntmps15
 go_wp2_with fail
 refine HD.out.mono ?_
 rintro e w1 ⟨v, l, rfl, hS1, hl1, hb1⟩
 obtain ⟨A', c', rfl, hc1, hSS⟩ := hS1.open
 match l, hl1, hSS, hc1 with
 | [], hl1, _, _ =>
  exact absurd HSH.out.ne (by rw [← hl1]; simp)
 | x0 :: l, hl1, hSS, hc1 =>
  have hok1 : OkShs ((x0 :: l).map ShA.s) := by rw [hl1]; exact HSH.out
  have hck := checkE_ok (hok1.ok x0.s (by simp))
  have hll : (x0 :: l).length ≤ 1048576 := by
   have := congrArg List.length hl1
   rw [List.length_map] at this
   omega
  have hC := combine A' c' x0 l x0.s.thr.toNat x0.s.len.toNat hok1 (by omega) (by omega) hll hc1 w1 (HL.out w1 hb1) hSS
  have hE : shsE ss = joinE (getF x0.s.field) (combV x0.s ((x0 :: l).take x0.s.thr.toNat)) x0.s.len.toNat (cnt (x0.s.len.toNat : Int)) ∧ shsB ss = joinV (getF x0.s.field) (combV x0.s ((x0 :: l).take x0.s.thr.toNat)) x0.s.len.toNat := by
   have hv : shsV ss = combV x0.s ((x0 :: l).take x0.s.thr.toNat) := by
    rw [← hl1]
    unfold shsV
    rw [List.map_cons]
    simp only []
    apply combV_congr
    rw [List.map_map, ← List.map_cons, ← List.map_take]
    simp
    rfl
   have e : (x0.s.len.toNat : Int) = x0.s.len := by omega
   rw [← hv, e, ← hl1]
   exact ⟨rfl, rfl⟩
  rw [← hE.1, ← hE.2] at hC
  have HC := Lib.hid hC
  have HB := Lib.hid hb1
  generalize (x0 :: l).length = k at *
  clear hC hE hb1 hS1 hl1 hSS hc1 hok1 hck hll HD
  go_wp2_with fail
  refine HC.out.mono ?_
  rintro e w2 ⟨v, rfl, hv, hb2⟩
  have HR := Lib.hid (show OwnB w2 w.heap.size v (shsB ss) ∧ Below w.heap.size w w2 from ⟨hv.base_le HB.out.size, HB.out.trans (hb2.mono HB.out.size)⟩)
  clear hv hb2 HC
  go_wp2
  go_ret2
  exact ⟨v, rfl, HR.out⟩
end Go.Proofs.YtccgfladbibjbaaGreatDoor
namespace Go.Proofs.YtccgfladbibjbaaGreatDoor
open Go.RowKit
def qS : Pa := ⟨1, 2, 3, 1⟩
def randS : List (BitVec 8) := List.replicate 64 0#8
def shS (k : Int) : Sh := ⟨1, 2, k, 1, [⟨190#64, 0#64, 0#64, 0#64⟩]⟩
theorem sharesS : sharesV qS [5#8] randS = [shS 1, shS 2, shS 3] := by kernel_rfl
theorem checkS (k : Int) (h : 1 ≤ k ∧ k ≤ 255) : checkE (shS k) = 0 := by
 unfold checkE
 have h1 : getE (shS k).field = 0 := rfl
 have h2 : (shS k).thr = 2 := rfl
 have h3 : (shS k).idx = k := rfl
 have h4 : (shS k).len = 1 := rfl
 have h5 : (shS k).pay.length = cnt 1 := rfl
 have h6 : okPay (getF (shS k).field) (shS k).pay = true := by show okPay fp1 [⟨190#64, 0#64, 0#64, 0#64⟩] = true; decide +kernel
 rw [h1, h2, h3, h4, h5, h6, if_neg (by decide), if_neg (by decide), if_neg (fun q => q h), if_neg (by decide), if_neg (by decide), if_pos rfl]
theorem okS : OkShs [shS 1, shS 2, shS 3] := by
 refine ⟨by decide, ?_, ?_, by decide, ?_⟩
 ·intro x hx
  simp only [List.mem_cons, List.not_mem_nil, or_false] at hx
  rcases hx with rfl | rfl | rfl
  ·exact checkS 1 (by decide)
  ·exact checkS 2 (by decide)
  ·exact checkS 3 (by decide)
 ·intro x hx y hy
  simp only [List.mem_cons, List.not_mem_nil, or_false] at hx hy
  rcases hx with rfl | rfl | rfl <;> rcases hy with rfl | rfl | rfl <;> rfl
 ·intro x hx
  simp only [List.mem_cons, List.not_mem_nil, or_false] at hx
  rcases hx with rfl | rfl | rfl <;> decide
set_option maxRecDepth 100000 in
theorem joinS : shsE [shS 1, shS 2, shS 3] = 0 ∧ shsB [shS 1, shS 2, shS 3] = [5#8] := by
 constructor
 ·kernel_rfl
 ·kernel_rfl
end Go.Proofs.YtccgfladbibjbaaGreatDoor
