/- chunks.Join. -/
import Derived.Test.YtccgfladbibjbaaGreatDoorKG26
import Derived.Test.YtccgfladbibjbaaGreatDoorKG05
namespace Go.Proofs.YtccgfladbibjbaaGreatDoor
open Go.RowKit Go.Shelf
attribute [local go_sem ↓] add_UU sub_UU mul_UU add_UL add_LU sub_UL sub_LU mul_UL neg_at not_at and_UU or_UU xor_UU andNot_UU and_UL or_LU shr_UL shl_UL shr_UN shl_UN shl_LN quo_UL rem_UL quo_UU rem_UU
attribute [local go_sem] wrap64_N wrapi_mod wrap8_U wrap32_U wrap64_B wrap32_B wrap8_D wrapi_B wrap64_UU eq_UU ne_UU eq_UL ne_UL lt_UU le_UU
attribute [local simp] putAgg_size
attribute [local go_sem ↓] loadVar_F loadVar_E loadVar_V loadVar_B32 storeVar_F storeVar_E storeVar_V storeVar_B32 box_F box_E box_V box_B32
attribute [local go_sem ↓ high] V4.cells_val FP.cells_val
attribute [local go_sem] run_loadF run_loadE run_loadV run_loadB32 run_storeF run_storeE run_storeV run_storeB32 run_boxA aggAt_drew aggAt_drewN aggAt_alloc_new aggAt_alloc_past aggAt_setCell_other aggAt_putAgg_other aggAt_putAgg_new putAgg_drew putAgg_size putAgg_alloc_new putAgg_alloc_past putAgg_cell_other putAgg_frozen_other V4.agg_arr FP.agg_arr V4.size_arr FP.size_arr V4.fits FP.fits fitsA_agg4 lt_2 ne_2 en_2 lt_3 ne_3 en_3 lt_4 ne_4 en_4 lt_5 ne_5 en_5 lt_6 ne_6 en_6
attribute [local go_sem] Oper.semAt_some
def pieceR (f : FP) (ys : List V4) (k : Nat) : V4 := mmul f (at4 ys k) V4.unit
def pieceL (f : FP) (ys : List V4) (n k : Nat) : List (BitVec 8) := unpL (pieceR f ys k) (chunkLen n k)
def pieceE (f : FP) (ys : List V4) (n k : Nat) : Int := unpE (pieceR f ys k) (chunkLen n k)
def joinL (f : FP) (ys : List V4) (n k : Nat) : List (BitVec 8) := (List.range k).flatMap fun j => pieceL f ys n j
def joinE (f : FP) (ys : List V4) (n k : Nat) : Int := if (List.range k).all (fun j => pieceE f ys n j == 0) then 0 else 10
def joinV (f : FP) (ys : List V4) (n : Nat) : List (BitVec 8) := if joinE f ys n (cnt n) = 0 then joinL f ys n (cnt n) else []
theorem pieceL_length (f : FP) (ys : List V4) (n k : Nat) : (pieceL f ys n k).length ≤ 31 := by
 unfold pieceL unpL
 split
 ·rw [List.length_take]; have := chunkLen_le n k; omega
 ·simp
theorem joinL_succ (f : FP) (ys : List V4) (n k : Nat) : joinL f ys n (k + 1) = joinL f ys n k ++ pieceL f ys n k := by simp [joinL, List.range_succ]
theorem joinL_length (f : FP) (ys : List V4) (n : Nat) : ∀ k, (joinL f ys n k).length ≤ 31 * k
 | 0 => by simp [joinL]
 | k + 1 => by
  have h1 := joinL_length f ys n k
  have h2 := pieceL_length f ys n k
  rw [joinL_succ, List.length_append]
  omega
theorem pieceE_nil (f : FP) (ys : List V4) (n k : Nat) (h : pieceE f ys n k = 10) : pieceL f ys n k = [] := by
 unfold pieceE unpE at h
 unfold pieceL unpL
 split at h
 ·cases h
 ·rename_i hn; rw [if_neg hn]
theorem joinE_or (f : FP) (ys : List V4) (n k : Nat) : joinE f ys n k = 0 ∨ joinE f ys n k = 10 := by unfold joinE; split <;> simp
theorem joinE_good (f : FP) (ys : List V4) (n k : Nat) (h : pieceE f ys n k = 0) : joinE f ys n (k + 1) = joinE f ys n k := by
 unfold joinE
 rw [List.range_succ, List.all_append]
 simp [h]
theorem joinE_bad (f : FP) (ys : List V4) (n k : Nat) (h : pieceE f ys n k = 10) : joinE f ys n (k + 1) = 10 := by
 unfold joinE
 rw [List.range_succ, List.all_append]
 simp [h]
theorem pieceE_or (f : FP) (ys : List V4) (n k : Nat) : pieceE f ys n k = 0 ∨ pieceE f ys n k = 10 := by unfold pieceE unpE; split <;> simp
def JoI (w : World) (f : FP) (A : Option Addr) (cap : Nat) (ys : List V4) (e : Int) (bs : List (BitVec 8)) (W : World) : Prop :=
 W.heap[w.heap.size]? = some (.cells f.arr 67 (0, 0)) ∧ W.heap[w.heap.size + 1]? = some (.cells #[.slice A ys.length cap] 24 (0, 0)) ∧
 (∃ v, W.heap[w.heap.size + 1 + 1]? = some (.cells #[v] 22 (0, 0)) ∧ OwnB W (w.heap.size + 5) v bs) ∧ W.heap[w.heap.size + 1 + 1 + 1]? = some (.cells #[.int .i64 e] 27 (0, 0)) ∧ Below w.heap.size w W ∧ w.heap.size + 5 ≤ W.heap.size
theorem OwnB.cells {w : World} {base : Nat} {v : Value} {l : List (BitVec 8)} (h : OwnB w base v l) (k : Nat) (hk : v.ownBlock = some k) : ∃ cur t, w.heap[k]? = some (.cells cur t (0, 0)) := by
 rcases h.2 with ⟨rfl, _⟩ | ⟨g, cap, cur, rfl, hb, hg, _⟩
 ·simp [Value.ownBlock] at hk
 ·simp [Value.ownBlock] at hk
  subst hk
  exact ⟨cur, _, hg⟩
theorem OwnB.own {w w' : World} {base : Nat} {v : Value} {l : List (BitVec 8)} {row : Option Nat} (h : OwnB w base v l) (hg : w.grownBy w' row) (hr : ∀ r, row = some r → ∃ o : Obj, w.heap[r]? = some o ∧ o.isCells = false) : OwnB w' base v l := by
 refine h.kept hg ?_
 cases hv : v.ownBlock with
 | none => exact .inl rfl
 | some k =>
  refine .inr fun e => ?_
  obtain ⟨o, ho, hc⟩ := hr k e.symm
  obtain ⟨cur, t, hcur⟩ := h.cells k hv
  rw [ho] at hcur
  injection hcur with hcur
  subst hcur
  cases hc
theorem JoI.own (w : World) (f : FP) (A : Option Addr) (cap : Nat) (ys : List V4) (e : Nat → Int) (bs : Nat → List (BitVec 8)) (B : Nat) (hB : w.heap.size ≤ B) : OwnFrom B (fun k W => JoI w f A cap ys (e k) (bs k) W) := by
 intro k W W' row hs hg hr
 have hr' : ∀ r, row = some r → ∃ o : Obj, W.heap[r]? = some o ∧ o.isCells = false := fun r e => (hr r e).2
 have hb : ∀ (j : Nat) (cs : Array Value) (t : TypeId), W.heap[j]? = some (.cells cs t (0, 0)) → W'.heap[j]? = some (.cells cs t (0, 0)) := fun j cs t h => own_cells (β := Unit) B j cs t () W W' row h hg hr
 obtain ⟨h1, h2, ⟨v, h3, h4⟩, h5, h7, h8⟩ := hs
 exact ⟨hb _ _ _ h1, hb _ _ _ h2, ⟨v, hb _ _ _ h3, h4.own hg hr'⟩, hb _ _ _ h5, h7.grown hg h7.size (fun j e => by have := (hr j e).1; omega), Nat.le_trans h8 hg.size⟩
theorem JoI.below {w W W' : World} {f : FP} {A : Option Addr} {cap : Nat} {ys : List V4} {e : Int} {bs : List (BitVec 8)} (h : JoI w f A cap ys e bs W) (hb : Below W.heap.size W W') : JoI w f A cap ys e bs W' := by
 obtain ⟨h1, h2, ⟨v, h3, h4⟩, h5, h7, h8⟩ := h
 have hs : ∀ j o, W.heap[j]? = some o → W'.heap[j]? = some o := fun j o h => (hb.block j (Array.getElem?_eq_some_iff.1 h).1).trans h
 exact ⟨hs _ _ h1, hs _ _ h2, ⟨v, hs _ _ h3, h4.below hb⟩, hs _ _ h5, h7.trans (hb.mono h7.size), Nat.le_trans h8 hb.size⟩
theorem wpListIn_append_sees {P : Program} {w : World} {lo nF : Nat} {ops : Array Oper} {rest : List Oper} {o : Oper} {a : Act} {Q : Exit → Act → World → Prop} (hgd : o.guard = none) (s x : Operand) (t : TypeId)
  (ho : o.op = .call { callee := .builtin .append, args := #[s, x], argTypes := #[t, t] }) (base : Nat) (e : TypeId) (i : TypeInfo) (z : Value) (size bytes : Nat) (ht : P.underlying t = some (.slice e)) (hi : P.info? e = some i) (hz : i.zero = some z)
  (hsize : i.size = size) (hby : i.bytes = bytes) (hzs : z.cells.size = size) (hsz : 0 < size) (v : Value) (n : Nat) (xs : List Value) (hs : a.eval s = v) (hown : w.ownsRow base e size v n xs)
  (A : Option Addr) (m c : Nat) (news : List Value) (hx : a.eval x = .slice A m c) (hl : news.length = m * size) (hnews : Sees w A news) (h1 : ∀ u ∈ news, u.oneCell' = true)
  (h63 : n + m ≤ maxLen) (hbytes : (n + m) * bytes ≤ 140737488355328) (hbase : base ≤ w.heap.size)
  (h : ∀ v' w', w'.ownsRow base e size v' (n + m) (xs ++ news) → w.grownBy w' v.ownBlock → (v'.ownBlock = v.ownBlock ∨ v'.ownBlock = some w.heap.size) → wpListIn (Fence.wide.inRound lo) nF P ops Q rest (a.put o.dst v') w') : wpListIn (Fence.wide.inRound lo) nF P ops Q (o :: rest) a w := by
 refine wpListIn_plain hgd fun K hK => ?_
 refine operFR (ro := some lo) (by unfold noDefer; rw [ho]) ?_
 exact wp_append_sees s x t ho base e i z size bytes ht hi hz hsize hby hzs hsz v n xs hs hown A m c news hx hl hnews h1 h63 hbytes hbase fun v' w' h2 h3 h4 => hK _ _ (h v' w' h2 h3 h4)
theorem JoI.step {w W Wg : World} {f : FP} {A : Option Addr} {cap : Nat} {ys : List V4} {e : Int} {bs pl : List (BitVec 8)} {v v' : Value} (h : JoI w f A cap ys e bs W) (h3 : W.heap[w.heap.size + 1 + 1]? = some (.cells #[v] 22 (0, 0))) (hv : OwnB W (w.heap.size + 5) v bs)
  (hg : W.grownBy Wg v.ownBlock) (hv' : Wg.ownsRow (w.heap.size + 5) 5 1 v' (bs.length + pl.length) (byteVals bs ++ byteVals pl)) :
  KeepsFrom (w.heap.size + 5) W (Wg.setCell ⟨w.heap.size + 1 + 1, 0, none⟩ v') ∧ Keeps (fun j => j = w.heap.size + 4) false (w.heap.size + 5 + 2) W (Wg.setCell ⟨w.heap.size + 1 + 1, 0, none⟩ v') ∧ JoI w f A cap ys e (bs ++ pl) (Wg.setCell ⟨w.heap.size + 1 + 1, 0, none⟩ v') := by
 obtain ⟨h1, h2, _, h4, h7, h8⟩ := h
 have hlo : ∀ j, v.ownBlock = some j → w.heap.size + 5 ≤ j := fun j e => (hv.lt j e).1
 have hne : ∀ j, j < w.heap.size + 5 → some j ≠ v.ownBlock := fun j hj e => by have := hlo j e.symm; omega
 have hset := grownBy_setCell' Wg (w.heap.size + 1 + 1) v'
 have hb : ∀ j o, j ≠ w.heap.size + 1 + 1 → j < w.heap.size + 5 → W.heap[j]? = some o → (Wg.setCell ⟨w.heap.size + 1 + 1, 0, none⟩ v').heap[j]? = some o := fun j o hj hj5 hj' =>
  (hset.block j (Nat.lt_of_lt_of_le (Array.getElem?_eq_some_iff.1 hj').1 hg.size) (fun e => by injection e; omega)).trans ((hg.block j (Array.getElem?_eq_some_iff.1 hj').1 (hne j hj5)).trans hj')
 have hbox : Boxed Wg (w.heap.size + 1 + 1) 22 v := Boxed.kept h3 hg (hne _ (by omega))
 have hov : OwnB Wg (w.heap.size + 5) v' (bs ++ pl) := by unfold OwnB; rw [List.length_append, byteVals_append]; exact hv'
 have hk1 : KeepsFrom (w.heap.size + 5) W Wg := (KeepsOthers.of_grownBy hg (fun j o e ho => by
  obtain ⟨cur, t, hc⟩ := hv.cells j e
  rw [hc] at ho
  injection ho with ho
  subst ho
  rfl)).from _
 refine ⟨hk1.trans (.of_grownBy hset fun j e => by injection e; omega), (Keeps.grown hg fun j e hj => by have := hlo j e; omega).trans (.setCell Wg _ v' (by simp) (by simp)), hb _ _ (by omega) (by omega) h1, hb _ _ (by omega) (by omega) h2, ⟨v', hbox.set v', ?_⟩, hb _ _ (by omega) (by omega) h4, ((h7.grown hg h7.size fun j e => by have := hlo j e; omega).setCell (by simp; omega) v'), Nat.le_trans h8 (Nat.le_trans hg.size hset.size)⟩
 refine hov.kept hset ?_
 cases hw : v'.ownBlock with
 | none => exact .inl rfl
 | some j => exact .inr fun e => by injection e with e; have := (hov.lt j hw).1; omega
theorem JoI.err {w W : World} {f : FP} {A : Option Addr} {cap : Nat} {ys : List V4} {e e' : Int} {bs : List (BitVec 8)} (h : JoI w f A cap ys e bs W) :
  KeepsFrom (w.heap.size + 5) W (W.setCell ⟨w.heap.size + 1 + 1 + 1, 0, none⟩ (.int .i64 e')) ∧ Keeps (fun j => j = w.heap.size + 4) false (w.heap.size + 5 + 2) W (W.setCell ⟨w.heap.size + 1 + 1 + 1, 0, none⟩ (.int .i64 e')) ∧ JoI w f A cap ys e' bs (W.setCell ⟨w.heap.size + 1 + 1 + 1, 0, none⟩ (.int .i64 e')) := by
 obtain ⟨h1, h2, ⟨v, h3, hv⟩, h4, h7, h8⟩ := h
 have hset := grownBy_setCell' W (w.heap.size + 1 + 1 + 1) (.int .i64 e')
 have hb : ∀ j o, j ≠ w.heap.size + 1 + 1 + 1 → W.heap[j]? = some o → (W.setCell ⟨w.heap.size + 1 + 1 + 1, 0, none⟩ (.int .i64 e')).heap[j]? = some o := fun j o hj hj' =>
  (hset.block j (Array.getElem?_eq_some_iff.1 hj').1 (fun e => by injection e; omega)).trans hj'
 have hbox : Boxed W (w.heap.size + 1 + 1 + 1) 27 (.int .i64 e) := h4
 refine ⟨.of_grownBy hset fun j e => by injection e; omega, .setCell W _ _ (by simp) (by simp), hb _ _ (by omega) h1, hb _ _ (by omega) h2, ⟨v, hb _ _ (by omega) h3, ?_⟩, hbox.set _, h7.setCell (by simp; omega) _, Nat.le_trans h8 hset.size⟩
 refine hv.kept hset ?_
 cases hw : v.ownBlock with
 | none => exact .inl rfl
 | some j => exact .inr fun e => by injection e with e; have := (hv.lt j hw).1; omega
theorem countB (n : Int) (w : World) : Calls Tryz.prog 36 #[.int .i64 n] w fun e w' => e = .returned (.int .i64 (cnt n)) ∧ Below w.heap.size w w' := (countI n w).mono fun _ _ h => ⟨h.1, by rw [h.2]; exact Below.refl _ _⟩
set_option maxRecDepth 100000 in
set_option maxHeartbeats 4000000 in
theorem join (f : FP) (A : Option Addr) (cap : Nat) (ys : List V4) (n : Nat) (hn : n ≤ 65535) (hy : ys.length = cnt n) (w : World) (hS : Sees w A (eVals ys)) :
  Calls Tryz.prog 76 #[f.val, .slice A ys.length cap, .int .i64 n] w fun e w' => ∃ v, e = .returned (.tuple #[v, .int .i64 (joinE f ys n (cnt n))]) ∧ OwnB w' w.heap.size v (joinV f ys n) ∧ Below w.heap.size w w' := by
 refine (callsIn_wide (n := 8)).1 ?_
 refine callsIn_of_wp_marks Tryz.func76 rfl trivial ?_ rfl
 simp only [Tryz.ntmps76, List.size_toArray, List.length_cons, List.length_nil, Nat.reduceAdd, Nat.reduceSub, Array.replicate_succ, Array.replicate_zero, List.push_toArray, List.append_toArray, List.nil_append, List.cons_append]
 obtain ⟨m, hm⟩ : ∃ m, m = ys.length := ⟨_, rfl⟩
 have hcm : cnt n = m := by rw [hm, hy]
 rw [← hm]
 have HM := Lib.hid (And.intro hm hcm)
 clear hm hcm
 obtain ⟨i0, hi0, ha0, ha1, ha2⟩ := info_parts info_u8
 gi_wp2_with fail
 refine wideCall2 (validI n hn _) ?_
 rintro e w1 ⟨rfl, rfl⟩
 gi_wp2_with fail
 (obtain ⟨W0, hW0⟩ : ∃ W0 : World, W0 = ((w).alloc (.cells f.arr 67)).alloc (.cells #[.slice A m cap] 24) := ⟨_, rfl⟩); (have gW0 : ∀ (j : Nat) (o : Obj), ([Obj.cells f.arr 67, Obj.cells #[.slice A m cap] 24] : List Obj)[j]? = some o → W0.heap[w.heap.size + j]? = some o := by rw [hW0]; exact allocs_get w _); (have zW0 : W0.heap.size = w.heap.size + 2 := by rw [hW0]; exact allocs_size w [Obj.cells f.arr 67, Obj.cells #[.slice A m cap] 24]); (have bW0 : Below w.heap.size w W0 := by rw [hW0]; exact allocs_below w [Obj.cells f.arr 67, Obj.cells #[.slice A m cap] 24]); (rw [← hW0]); (clear hW0)
 have pA : W0.cell? ⟨w.heap.size + 1, 0, none⟩ = some (.slice A m cap) := cell_of_block (gW0 1 _ rfl)
 have HG0 := Lib.hid (And.intro (gW0 0 _ rfl) (gW0 1 _ rfl))
 refine region_held_wide (h := 5) (by kernel_rfl) (by kernel_rfl) (fun W' => W' = W0.drew) rfl ?_
 have hSB : ∀ W' W'' : World, W' = W0.drew → W'' = W' → W'' = W0.drew := fun _ _ h k => k.trans h
 ((try simp only [List.take_succ_cons, List.take_zero, List.drop_succ_cons, List.drop_zero]); repeat (apply chain_op; (focus (intro W' hS' K hK; (try simp only [Act.put, List.setIfInBounds_toArray, List.set_cons_zero, List.set_cons_succ] at hK); (have hS'' := hS'); (obtain rfl := hS''); go_simp; (first | exact hK _ hS' | (with_reducible refine Calls.mono (countI n _) ?_; rintro e W'' ⟨rfl, hb''⟩; exact hK _ (hSB _ _ hS' hb''))); done)); (try simp only [Act.put, List.setIfInBounds_toArray, List.set_cons_zero, List.set_cons_succ])); unfold chain)
 rintro Wd hWd
 have HD0 := Lib.hid (show Wd.heap.size = w.heap.size + 1 + 1 by rw [hWd]; exact zW0)
 have hbd : Below W0.heap.size W0 Wd := by rw [hWd]; exact (Below.refl _ W0).drew
 have HZ0 := Lib.hid zW0
 clear hWd zW0
 rw [HM.out.2]
 have hmm : ((m : Int) != (m : Int)) = false := by simp
 clear hSB pA
 gi_wp2_with fail
 refine wideCall2 (bounds n _) ?_
 rintro e w1 ⟨rfl, rfl⟩
 gi_wp2_with fail
 (obtain ⟨W1, hW1⟩ : ∃ W0 : World, W0 = (((Wd).alloc (.cells #[.slice none 0 0] 22)).alloc (.cells #[.int .i64 0] 27)).alloc (.cells #[.int .i64 n] 3) := ⟨_, rfl⟩); (have gW1 : ∀ (j : Nat) (o : Obj), ([Obj.cells #[.slice none 0 0] 22, Obj.cells #[.int .i64 0] 27, Obj.cells #[.int .i64 n] 3] : List Obj)[j]? = some o → W1.heap[Wd.heap.size + j]? = some o := by rw [hW1]; exact allocs_get Wd _); (have zW1 : W1.heap.size = Wd.heap.size + 3 := by rw [hW1]; exact allocs_size Wd [Obj.cells #[.slice none 0 0] 22, Obj.cells #[.int .i64 0] 27, Obj.cells #[.int .i64 n] 3]); (have bW1 : Below Wd.heap.size Wd W1 := by rw [hW1]; exact allocs_below Wd [Obj.cells #[.slice none 0 0] 22, Obj.cells #[.int .i64 0] 27, Obj.cells #[.int .i64 n] 3]); (rw [← hW1]); (clear hW1)
 rw [HD0.out] at zW1 gW1
 rw [HD0.out]
 have zW0 := HZ0.out
 have hbW1 : Below W0.heap.size W0 W1 := hbd.trans (bW1.mono hbd.size)
 have hQ0 : JoI w f A cap ys 0 [] W1 := ⟨(hbW1.block _ (by omega)).trans HG0.out.1, by rw [← HM.out.1]; exact (hbW1.block _ (by omega)).trans HG0.out.2, ⟨_, gW1 0 _ rfl, ownB_nil _ _⟩, gW1 1 _ rfl, bW0.trans (hbW1.mono (by omega)), by omega⟩
 have hG : Gives 7 127 #[.pointer (some ⟨w.heap.size + 1 + 1 + 1 + 1, 0, none⟩)] (fun k => k = w.heap.size + 4) false (encB n) W1 := bounds1 7 n hn (w.heap.size + 1 + 1 + 1 + 1) W1 (cell_of_block (gW1 2 _ rfl)) (fun k => k = w.heap.size + 4) rfl false
 clear gW1 hbW1 bW1 HG0 gW0 bW0
 refine rangeAll (n := 8) (ps := #[26, 27]) (s := false) (encs := encB n) (by decide) rfl (enters_of Tryz.func127 (by kernel_rfl) rfl) hG (Below.refl _ _) (fun k hk => by omega) (fun k x hx => by obtain ⟨_, rfl⟩ := encB_get hx; rfl)
  (fun k W => JoI w f A cap ys (joinE f ys n k) (joinL f ys n k) W) (JoI.own w f A cap ys _ _ _ (by omega)) hQ0
  (fun k a' W => a' = { tmps := #[f.val, .slice A m cap, .int .i64 n, .pointer (some ⟨w.heap.size, 0, none⟩), .pointer (some ⟨w.heap.size + 1, 0, none⟩), undef, .slice none 0 0, .int .i64 0, .pointer (some ⟨w.heap.size + 1 + 1, 0, none⟩), .pointer (some ⟨w.heap.size + 1 + 1 + 1, 0, none⟩), .int .i64 k, .int .i64 (chunkLen n k : Nat), undef, undef, .bool false, .int .i64 n, .bool true, .bool false, .bool false, .slice A m cap, .int .i64 m, .int .i64 n, .int .i64 m, .bool false, .int .i64 n, .func (.func 127) #[] #[.pointer (some ⟨w.heap.size + 1 + 1 + 1 + 1, 0, none⟩)], .int .i64 k, .int .i64 (chunkLen n k : Nat), undef, undef, undef, undef, undef, undef, undef, undef, undef, undef, undef, undef, undef, undef, undef, undef, undef, undef, undef, undef], defers := [] } ∧ JoI w f A cap ys (joinE f ys n k) (joinL f ys n k) W)
  (fun a' k X Y row hs hg hr => ⟨hs.1, JoI.own w f A cap ys _ _ _ (by omega) k X Y row hs.2 hg hr⟩) ?assign ?body ?done
 case assign =>
  intro lo k v W hx hI
  obtain ⟨hk, rfl⟩ := encB_get hx
  gi_wp2
  exact ⟨KeepsFrom.refl _ _, Keeps.refl _ _ _ _, trivial, hI⟩
 case body =>
  rintro lo k v a' W hx ⟨rfl, hI⟩
  obtain ⟨hk, rfl⟩ := encB_get hx
  have HI := Lib.hid hI
  have hzW := hI.2.2.2.2.2
  have hcn : (cnt n : Nat) ≤ 65535 := by rw [cnt_nat n hn]; omega
  have hkm : k < m := by rw [← HM.out.2]; exact hk
  have hkm' : (k : Int) < (m : Int) := by omega
  have pF := aggF_of_block hI.1
  have pA : W.cell? ⟨w.heap.size + 1, 0, none⟩ = some (.slice A m cap) := by rw [HM.out.1]; exact cell_of_block hI.2.1
  have hSW := hS.below hI.2.2.2.2.1
  obtain ⟨b, o, rfl, hbl⟩ := hSW.addr (by rw [eVals_length, ← HM.out.1]; omega)
  have hld := hSW.ld' k (by rw [← HM.out.1]; exact hkm)
  have HU := Lib.hid (show ∀ W', Calls Tryz.prog 105 #[f.val, (at4 ys k).val, .int .i64 (chunkLen n k : Nat)] W' fun e w' => ∃ A cap, e = .returned (.tuple #[.slice A (pieceL f ys n k).length cap, .int .i64 (pieceE f ys n k)]) ∧ Sees w' A (byteVals (pieceL f ys n k)) ∧ Below W'.heap.size W' w' from fun W' => bcUnpack f (at4 ys k) (chunkLen n k) (chunkLen_le n k) W')
  have hL1 := joinL_succ f ys n k
  have hPl := pieceL_length f ys n k
  have hEo := pieceE_or f ys n k
  have hE0 := joinE_good f ys n k
  have hE1 := joinE_bad f ys n k
  have hEn := pieceE_nil f ys n k
  have hJl := joinL_length f ys n k
  have HL1 := Lib.hid hL1
  clear hL1
  clear hI hG hQ0 hSW
  generalize at4 ys k = y at *
  generalize pieceL f ys n k = pl at *
  generalize pieceE f ys n k = pe at *
  generalize chunkLen n k = cn at *
  gi_wp2
  ((have hS0 : (Below W.heap.size W W.drew ∧ aggAt W.drew 14 (w.heap.size) (0) = some (f.val) ∧ W.drew.cell? ⟨(w.heap.size + 1), 0, none⟩ = some (.slice (some ⟨b, o, none⟩) m cap)) := ⟨((Below.refl _ W)).drew, pF, pA⟩); (refine region_phase_in (by kernel_rfl) 6 [] [0, 1, 2, 3, 4, 5] [7, 8, 9, 10, 11] 6 (by kernel_rfl) (by kernel_rfl) (fun W' => (Below W.heap.size W W' ∧ aggAt W' 14 (w.heap.size) (0) = some (f.val) ∧ W'.cell? ⟨(w.heap.size + 1), 0, none⟩ = some (.slice (some ⟨b, o, none⟩) m cap))) hS0 ?_); (have hSB : ∀ W' W'' : World, (Below W.heap.size W W' ∧ aggAt W' 14 (w.heap.size) (0) = some (f.val) ∧ W'.cell? ⟨(w.heap.size + 1), 0, none⟩ = some (.slice (some ⟨b, o, none⟩) m cap)) → Below W'.heap.size W' W'' → (Below W.heap.size W W'' ∧ aggAt W'' 14 (w.heap.size) (0) = some (f.val) ∧ W''.cell? ⟨(w.heap.size + 1), 0, none⟩ = some (.slice (some ⟨b, o, none⟩) m cap)) := fun W' W'' ⟨h0, h1, h2⟩ hb => ⟨h0.trans (hb.mono h0.size), agg_keep h1 hb, cell_keep h2 hb⟩); (clear pF pA); (iterate 6 (refine chainL_op (by rfl) (by rfl) ?_ ?_ ?_; rotate_left; (focus (intro W' hS' K hK; (try simp only [put_some, List.set] at hK); (have hS'' := hS'); (obtain ⟨s0, s1, s2⟩ := hS''); (have e_0 := hld W' s0); go_simp; (first | exact hK _ hS' (Later.refl _)); done)); (try simp only [put_some, List.set]))); (refine chainL_nil ?_))
  refine spineP_op (by rfl) (by rfl) (fun V1 hS1 hL1 K hK => ?_)
  go_simp
  refine Calls.mono (HU.out _) ?_
  rintro e W2 ⟨A', c', rfl, hSq, hbq⟩
  refine hK _ _ (fun h => absurd rfl h) ?_
  clear hK K hSB hS0 HU
  ((refine spineP_nil ?_); (try simp only [put_some, List.set]); (iterate 5 (refine chainL_op (by rfl) (by rfl) ?_ ?_ ?_; rotate_left; (focus (intro W' hS' K hK; (subst hS'); (try simp only [put_some, List.set] at hK); go_simp; (exact hK _ rfl (Later.refl _)); done)); (try simp only [put_some, List.set]))); (refine chainL_nil ?_))
  have hB2 : Below W.heap.size W W2 := hS1.1.trans (hbq.mono hS1.1.size)
  have HI2 := Lib.hid (HI.out.below hB2)
  have HS2 := Lib.hid hSq
  have HB2 := Lib.hid hB2
  have hHK := Lib.hid (And.intro hEo (And.intro hE0 (And.intro hE1 (And.intro hJl (And.intro hPl hEn)))))
  clear hS1 hL1 hbq hB2 hSq hEo hE0 hE1 hJl hPl hld hEn
  rcases hHK.out.1 with he | he
  ·subst he
   have HJ := Lib.hid (hHK.out.2.1 rfl)
   have hbb := HI2.out
   obtain ⟨h1, h2, ⟨v, h3, h4⟩, h5, h7, h8⟩ := hbb
   have p8 := cell_of_block h3
   have HV := Lib.hid (And.intro h3 h4)
   have h8' : w.heap.size + 5 ≤ W2.heap.size := h8
   clear h1 h2 h3 h4 h5 h7 h8
   gi_wp2_with (gi_at_builtin; refine wpListIn_append_sees rfl (.tmp 41) (.tmp 42) 22 rfl (w.heap.size + 5) 5 i0 _ 1 1 Tryz.underlying22 hi0 ha0 ha1 ha2 rfl (by decide) v _ (byteVals (joinL f ys n k)) rfl HV.out.2 A' pl.length c' (byteVals pl) rfl (by rw [byteVals_length, Nat.mul_one]) HS2.out (byteVals_one _) ?c1 ?c2 h8' ?_)
   case c1 => unfold maxLen; have := hHK.out.2.2.2.1; have := hHK.out.2.2.2.2.1; omega
   case c2 => have := hHK.out.2.2.2.1; have := hHK.out.2.2.2.2.1; omega
   intro v' Wg hown hg _
   have hne : some (w.heap.size + 1 + 1) ≠ v.ownBlock := fun e => by have h : w.heap.size + 5 ≤ w.heap.size + 1 + 1 := (HV.out.2.lt _ e.symm).1; omega
   have hbx : Boxed Wg (w.heap.size + 1 + 1) 22 v := Boxed.kept HV.out.1 hg hne
   have p7 := hbx.cell
   have f7 := hbx.frozen
   have HG := Lib.hid (HI2.out.step HV.out.1 HV.out.2 hg hown)
   obtain ⟨A3, c3, hv', -⟩ := (OwnB.open (l := joinL f ys n k ++ pl) (by unfold OwnB; rw [List.length_append, byteVals_append]; exact hown))
   subst hv'
   clear hown hg p8 hbx
   gi_wp2
   have HG := HG.out
   simp only [List.length_append] at HG
   rw [zW1]
   rw [HJ.out, HL1.out]
   exact ⟨(KeepsFrom.below HB2.out).trans HG.1, (Keeps.of_below HB2.out).trans HG.2.1, HG.2.2⟩
  ·subst he
   have hpl := hHK.out.2.2.2.2.2 rfl
   have HJ := Lib.hid (hHK.out.2.2.1 rfl)
   subst hpl
   have h3e := HI2.out.err (e' := 10)
   have hbx9 : Boxed W2 (w.heap.size + 1 + 1 + 1) 27 (.int .i64 (joinE f ys n k)) := HI2.out.2.2.2.1
   have p9 := hbx9.cell
   have f9 := hbx9.frozen
   obtain ⟨v, h3, h4⟩ := h3e.2.2.2.2.1
   have p8 : (W2.setCell ⟨w.heap.size + 1 + 1 + 1, 0, none⟩ (.int .i64 10)).cell? ⟨w.heap.size + 1 + 1, 0, none⟩ = some v := cell_of_block h3
   have HV := Lib.hid (And.intro h3 h4)
   have HI3 := Lib.hid h3e
   have h8' : w.heap.size + 5 ≤ (W2.setCell ⟨w.heap.size + 1 + 1 + 1, 0, none⟩ (.int .i64 10)).heap.size := h3e.2.2.2.2.2.2.2
   clear h3 h4 hbx9 h3e
   gi_wp2_with (gi_at_builtin; refine wpListIn_append_sees rfl (.tmp 41) (.tmp 42) 22 rfl (w.heap.size + 5) 5 i0 _ 1 1 Tryz.underlying22 hi0 ha0 ha1 ha2 rfl (by decide) v _ (byteVals (joinL f ys n k)) rfl HV.out.2 A' 0 c' (byteVals []) rfl rfl (Sees.nil _ _) (byteVals_one _) ?c1 ?c2 h8' ?_)
   case c1 => unfold maxLen; have := hHK.out.2.2.2.1; omega
   case c2 => have := hHK.out.2.2.2.1; omega
   intro v' Wg hown hg _
   have hne : some (w.heap.size + 1 + 1) ≠ v.ownBlock := fun e => by have h : w.heap.size + 5 ≤ w.heap.size + 1 + 1 := (HV.out.2.lt _ e.symm).1; omega
   have hbx : Boxed Wg (w.heap.size + 1 + 1) 22 v := Boxed.kept HV.out.1 hg hne
   have p7 := hbx.cell
   have f7 := hbx.frozen
   have HG := Lib.hid (HI3.out.2.2.step (pl := []) HV.out.1 HV.out.2 hg hown)
   obtain ⟨A3, c3, hv', -⟩ := (OwnB.open (l := joinL f ys n k ++ []) (by unfold OwnB; rw [List.length_append, byteVals_append]; exact hown))
   subst hv'
   clear hown hg p8 hbx p9 f9
   gi_wp2
   have HG := HG.out
   simp only [List.append_nil] at HG
   rw [zW1]
   rw [HJ.out, HL1.out, List.append_nil]
   exact ⟨(KeepsFrom.below HB2.out).trans (HI3.out.1.trans HG.1), (Keeps.of_below HB2.out).trans (HI3.out.2.1.trans HG.2.1), HG.2.2⟩
 case done =>
  intro D W hD hI hK
  have HI := Lib.hid hI
  rw [encB_length] at HI
  obtain ⟨v, h5, h6⟩ := HI.out.2.2.1
  have p8 := cell_of_block h5
  have p9 := cell_of_block HI.out.2.2.2.1
  have HV := Lib.hid h6
  have HEO := joinE_or f ys n (cnt n)
  have hjv := show joinV f ys n = if joinE f ys n (cnt n) = 0 then joinL f ys n (cnt n) else [] from rfl
  obtain ⟨je, hje⟩ : ∃ je, joinE f ys n (cnt n) = je := ⟨_, rfl⟩
  have HJE := Lib.hid hje
  have HJV := Lib.hid hjv
  rw [hje] at HI HEO HJV p9
  have hDl : D < W.heap.size := (Array.getElem?_eq_some_iff.1 hK).1
  have HDW := Lib.hid (And.intro hD hDl)
  have HK := Lib.hid hK
  have HO := Lib.hid (show ∀ V, Below W.heap.size W V → V.heap[D]? = some (.deferred (some [])) ∧ Below w.heap.size w (V.putObj D (.deferred none)) ∧ OwnB (V.putObj D (.deferred none)) w.heap.size v (joinL f ys n (cnt n)) from fun V hV => by
   have hDV : V.heap[D]? = some (.deferred (some [])) := (hV.block D HDW.out.2).trans HK.out
   have hp := grownBy_putObj' V D (.deferred none)
   have hbV : Below w.heap.size w V := HI.out.2.2.2.2.1.trans (hV.mono HI.out.2.2.2.2.1.size)
   exact ⟨hDV, hbV.grown hp hbV.size (fun j e => by injection e; omega), ((HV.out.below hV).own hp (fun r e => by injection e with e; subst e; exact ⟨_, hDV, rfl⟩)).base_le (by omega)⟩)
  clear hI h5 h6 hje hjv hD hDl hK
  rcases HEO with he | he
  ·subst he
   gi_wp2
   have HO := HO.out W (Below.refl _ W)
   refine ⟨by simp, .inl ⟨_, _, rfl, run_takeDeferred HO.1, ?_⟩⟩
   refine ⟨_, results_tmp2 rfl _ _ _, v, ?_, ?_, HO.2.1⟩
   ·rw [HJE.out]; rfl
   ·rw [HJV.out, if_pos trivial]; exact HO.2.2
  ·subst he
   gi_wp2
   ((refine region_held_wide (h := 2) (by kernel_rfl) (by kernel_rfl) (fun W' => (Below W.heap.size W W' ∧ W'.cell? ⟨(w.heap.size + 1 + 1 + 1), 0, none⟩ = some (.int .i64 10))) ⟨(Below.refl _ W).drew, p9⟩ ?_); (have hSB : ∀ W' W'' : World, (Below W.heap.size W W' ∧ W'.cell? ⟨(w.heap.size + 1 + 1 + 1), 0, none⟩ = some (.int .i64 10)) → Below W'.heap.size W' W'' → (Below W.heap.size W W'' ∧ W''.cell? ⟨(w.heap.size + 1 + 1 + 1), 0, none⟩ = some (.int .i64 10)) := fun W' W'' ⟨h0, h1⟩ hb => ⟨h0.trans (hb.mono h0.size), cell_keep h1 hb⟩); (clear p9); (((try simp only [List.take_succ_cons, List.take_zero, List.drop_succ_cons, List.drop_zero]); repeat (apply chain_op; (focus (intro W' hS' K hK; (try simp only [Act.put, List.setIfInBounds_toArray, List.set_cons_zero, List.set_cons_succ] at hK); (have hS'' := hS'); (obtain ⟨s0, s1⟩ := hS''); go_simp; (first | exact hK _ hS'); done)); (try simp only [Act.put, List.setIfInBounds_toArray, List.set_cons_zero, List.set_cons_succ])); unfold chain)); (rintro W' ⟨s0, s1⟩); (clear hSB))
   have HO := HO.out W' s0
   gi_wp2
   refine ⟨by simp, .inl ⟨_, _, rfl, run_takeDeferred HO.1, ?_⟩⟩
   refine ⟨_, results_tmp2 rfl _ _ _, .slice none 0 0, ?_, ?_, HO.2.1⟩
   ·rw [HJE.out]; rfl
   ·rw [HJV.out, if_neg (by decide)]; exact ownB_nil _ _
end Go.Proofs.YtccgfladbibjbaaGreatDoor
