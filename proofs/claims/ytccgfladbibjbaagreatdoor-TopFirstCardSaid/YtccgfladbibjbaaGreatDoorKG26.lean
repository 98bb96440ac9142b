/- chunks.Split. -/
import Derived.Test.YtccgfladbibjbaaGreatDoorKG21
import Derived.Test.YtccgfladbibjbaaGreatDoorKG19
import Derived.Test.YtccgfladbibjbaaGreatDoorKG24
import Derived.Test.YtccgfladbibjbaaGreatDoorKG04
import Derived.Test.YtccgfladbibjbaaGreatDoorKG25
namespace Go.Proofs.YtccgfladbibjbaaGreatDoor
open Go.RowKit Go.Shelf
attribute [local go_sem ↓] add_UU sub_UU mul_UU add_UL add_LU sub_UL sub_LU mul_UL neg_at not_at and_UU or_UU xor_UU andNot_UU and_UL or_LU shr_UL shl_UL shr_UN shl_UN shl_LN quo_UL rem_UL quo_UU rem_UU
attribute [local go_sem] wrap64_N wrapi_mod wrap8_U wrap32_U wrap64_B wrap32_B wrap8_D wrapi_B wrap64_UU eq_UU ne_UU eq_UL ne_UL lt_UU le_UU
attribute [local simp] putAgg_size
attribute [local go_sem ↓] loadVar_F loadVar_E loadVar_V loadVar_B32 storeVar_F storeVar_E storeVar_V storeVar_B32 box_F box_E box_V box_B32
attribute [local go_sem ↓ high] V4.cells_val FP.cells_val
attribute [local go_sem] run_loadF run_loadE run_loadV run_loadB32 run_storeF run_storeE run_storeV run_storeB32 run_boxA aggAt_drew aggAt_drewN aggAt_alloc_new aggAt_alloc_past aggAt_setCell_other aggAt_putAgg_other aggAt_putAgg_new putAgg_drew putAgg_size putAgg_alloc_new putAgg_alloc_past putAgg_cell_other putAgg_frozen_other V4.agg_arr FP.agg_arr V4.size_arr FP.size_arr V4.fits FP.fits fitsA_agg4 lt_2 ne_2 en_2 lt_3 ne_3 en_3 lt_4 ne_4 en_4 lt_5 ne_5 en_5 lt_6 ne_6 en_6
attribute [local go_sem] Oper.semAt_some
def OwnE (w : World) (base : Nat) (v : Value) (l : List V4) : Prop := w.ownsRow base 50 4 v l.length (eVals l)
theorem ownE_nil (w : World) (base : Nat) : OwnE w base (.slice none 0 0) [] := World.ownsRow_nil w base _ _
theorem OwnE.open {w : World} {base : Nat} {v : Value} {l : List V4} (h : OwnE w base v l) : ∃ A cap, v = .slice A l.length cap ∧ l.length ≤ cap ∧ Sees w A (eVals l) ∧ (∀ g o, A = some ⟨g, o, none⟩ → base ≤ g ∧ o = 0) := by
 have := owns_open (xs := eVals l) h
 exact this
theorem OwnE.kept {w w' : World} {base : Nat} {v : Value} {l : List V4} {row : Option Nat} (h : OwnE w base v l) (hg : w.grownBy w' row) (hne : v.ownBlock = none ∨ v.ownBlock ≠ row) : OwnE w' base v l := World.ownsRow.kept h hg hne
theorem OwnE.lt {w : World} {base : Nat} {v : Value} {l : List V4} (h : OwnE w base v l) (k : Nat) (hk : v.ownBlock = some k) : base ≤ k ∧ k < w.heap.size := World.ownsRow.lt h k hk
theorem OwnE.below {w w' : World} {base : Nat} {v : Value} {l : List V4} (h : OwnE w base v l) (hb : Below w.heap.size w w') : OwnE w' base v l := by
 refine h.kept (row := none) ⟨hb.os, hb.tape, hb.output, hb.size, fun k hk _ => hb.block k hk⟩ ?_
 cases hv : v.ownBlock with
 | none => exact .inl rfl
 | some k => exact .inr (by simp)
theorem OwnE.cells {w : World} {base : Nat} {v : Value} {l : List V4} (h : OwnE w base v l) (k : Nat) (hk : v.ownBlock = some k) : ∃ cur, w.heap[k]? = some (.cells cur 50 (0, 0)) := by
 rcases h.2 with ⟨rfl, _⟩ | ⟨g, cap, cur, rfl, hb, hg, _⟩
 ·simp [Value.ownBlock] at hk
 ·simp [Value.ownBlock] at hk
  subst hk
  exact ⟨cur, hg⟩
theorem OwnE.own {w w' : World} {base : Nat} {v : Value} {l : List V4} {row : Option Nat} (h : OwnE w base v l) (hg : w.grownBy w' row) (hr : ∀ r, row = some r → ∃ o : Obj, w.heap[r]? = some o ∧ o.isCells = false) : OwnE w' base v l := by
 refine h.kept hg ?_
 cases hv : v.ownBlock with
 | none => exact .inl rfl
 | some k =>
  refine .inr fun e => ?_
  obtain ⟨o, ho, hc⟩ := hr k e.symm
  obtain ⟨cur, hcur⟩ := h.cells k hv
  rw [ho] at hcur
  injection hcur with hcur
  subst hcur
  cases hc
theorem OwnE.base_le {w : World} {base base' : Nat} {v : Value} {l : List V4} (h : OwnE w base v l) (hb : base' ≤ base) : OwnE w base' v l := by
 refine ⟨h.1, ?_⟩
 rcases h.2 with h | ⟨g, cap, cur, h1, h2, h3⟩
 ·exact .inl h
 ·exact .inr ⟨g, cap, cur, h1, by omega, h3⟩
theorem ret_cell_cell {fn : Func} {s u : Tmp} {ty ty' : TypeId} {tmps : Array Value} {w : World} {a b : Addr} {v x : Value} (h : fn.results = #[.cell s ty, .cell u ty']) (hp : tmps.getD s undef = .pointer (some a)) (hq : tmps.getD u undef = .pointer (some b))
  (hv : (loadVar ty a).run Tryz.prog w = .ok v w) (hx : (loadVar ty' b).run Tryz.prog w = .ok x w) : (results fn tmps).run Tryz.prog w = .ok (.tuple #[v, x]) w := by
 have q : tmps[s]?.getD undef = .pointer (some a) := by simpa using hp
 have q' : tmps[u]?.getD undef = .pointer (some b) := by simpa using hq
 simp only [results, h]
 simp [q, q', hv, hx, asAddr, Result.andThen]
def chunkAt (l : List (BitVec 8)) (k : Nat) : List (BitVec 8) := (l.drop (31 * k)).take (chunkLen l.length k)
def packAt (f : FP) (l : List (BitVec 8)) (k : Nat) : V4 := mmul f (numV (pad32 (chunkAt l k))) f.sq
def packs (f : FP) (l : List (BitVec 8)) (k : Nat) : List V4 := (List.range k).map (packAt f l)
theorem packs_length (f : FP) (l : List (BitVec 8)) (k : Nat) : (packs f l k).length = k := by simp [packs]
theorem packs_succ (f : FP) (l : List (BitVec 8)) (k : Nat) : packs f l (k + 1) = packs f l k ++ [packAt f l k] := by simp [packs, List.range_succ]
theorem chunkAt_length (l : List (BitVec 8)) (k : Nat) : (chunkAt l k).length = chunkLen l.length k := by
 unfold chunkAt chunkLen
 rw [List.length_take, List.length_drop]; omega
theorem chunkLen_le (n k : Nat) : chunkLen n k ≤ 31 := by unfold chunkLen; omega
theorem OwnE.grew {w : World} {base : Nat} {v : Value} {l : List V4} {x : V4} {m : Nat} (hm : l.length = m) (h : w.ownsRow base 50 4 v (m + 1) (eVals l ++ eVals [x])) : OwnE w base v (l ++ [x]) := by
 unfold OwnE
 rw [List.length_append, eVals_append, hm]
 exact h
theorem Keeps.grown {p : Nat → Prop} {B : Nat} {W W' : World} {row : Option Nat} (hg : W.grownBy W' row) (hr : ∀ k, row = some k → ¬ p k) : Keeps p false B W W' :=
 ⟨hg.size, fun k hk h => hg.block k hk (fun e => by
  rcases h with h | ⟨h, _⟩
  ·exact hr k e.symm h
  ·cases h)⟩
theorem KeepsFrom.below {B : Nat} {W W' : World} (h : Below W.heap.size W W') : KeepsFrom B W W' := ⟨h.size, fun k _ _ hk _ => (h.block k (Array.getElem?_eq_some_iff.1 hk).1).trans hk⟩
def SpI (w : World) (f : FP) (A : Option Addr) (cap : Nat) (l : List (BitVec 8)) (k : Nat) (W : World) : Prop :=
 W.heap[w.heap.size]? = some (.cells f.arr 67 (0, 0)) ∧ W.heap[w.heap.size + 1]? = some (.cells #[.slice A l.length cap] 22 (0, 0)) ∧
 W.heap[w.heap.size + 1 + 1]? = some (.cells #[.slice none 0 0] 24 (0, 0)) ∧ W.heap[w.heap.size + 1 + 1 + 1]? = some (.cells #[.int .i64 0] 27 (0, 0)) ∧
 (∃ v, W.heap[w.heap.size + 1 + 1 + 1 + 1]? = some (.cells #[v] 24 (0, 0)) ∧ OwnE W (w.heap.size + 6) v (packs f l k)) ∧ Below w.heap.size w W ∧ w.heap.size + 6 ≤ W.heap.size
theorem SpI.own (w : World) (f : FP) (A : Option Addr) (cap : Nat) (l : List (BitVec 8)) (B : Nat) (hB : w.heap.size ≤ B) : OwnFrom B (SpI w f A cap l) := by
 intro k W W' row hs hg hr
 have hr' : ∀ r, row = some r → ∃ o : Obj, W.heap[r]? = some o ∧ o.isCells = false := fun r e => (hr r e).2
 have hb : ∀ (j : Nat) (cs : Array Value) (t : TypeId), W.heap[j]? = some (.cells cs t (0, 0)) → W'.heap[j]? = some (.cells cs t (0, 0)) := fun j cs t h => own_cells (β := Unit) B j cs t () W W' row h hg hr
 obtain ⟨h1, h2, h3, h4, ⟨v, h5, h6⟩, h7, h8⟩ := hs
 exact ⟨hb _ _ _ h1, hb _ _ _ h2, hb _ _ _ h3, hb _ _ _ h4, ⟨v, hb _ _ _ h5, h6.own hg hr'⟩, h7.grown hg h7.size (fun j e => by have := (hr j e).1; omega), Nat.le_trans h8 hg.size⟩
theorem SpI.below {w W W' : World} {f : FP} {A : Option Addr} {cap : Nat} {l : List (BitVec 8)} {k : Nat} (h : SpI w f A cap l k W) (hb : Below W.heap.size W W') : SpI w f A cap l k W' := by
 obtain ⟨h1, h2, h3, h4, ⟨v, h5, h6⟩, h7, h8⟩ := h
 have hs : ∀ j o, W.heap[j]? = some o → W'.heap[j]? = some o := fun j o h => (hb.block j (Array.getElem?_eq_some_iff.1 h).1).trans h
 exact ⟨hs _ _ h1, hs _ _ h2, hs _ _ h3, hs _ _ h4, ⟨v, hs _ _ h5, h6.below hb⟩, h7.trans (hb.mono h7.size), Nat.le_trans h8 hb.size⟩
theorem validI (n : Nat) (h : n ≤ 65535) (w : World) : Calls Tryz.prog 71 #[.int .i64 n] w fun e w' => e = .returned (.bool true) ∧ w' = w :=
 (chunksValid n w).mono fun _ _ h' => ⟨by rw [h'.1, decide_eq_true ⟨by omega, by omega⟩], h'.2.symm⟩
theorem SpI.step {w W Wg : World} {f : FP} {A : Option Addr} {cap : Nat} {l : List (BitVec 8)} {k : Nat} {v v' : Value} {x : V4} (h : SpI w f A cap l k W) (h5 : W.heap[w.heap.size + 1 + 1 + 1 + 1]? = some (.cells #[v] 24 (0, 0))) (hv : OwnE W (w.heap.size + 6) v (packs f l k))
  (hx : packAt f l k = x) (hg : W.grownBy Wg v.ownBlock) (hv' : Wg.ownsRow (w.heap.size + 6) 50 4 v' (k + 1) (eVals (packs f l k) ++ eVals [x])) :
  KeepsFrom (w.heap.size + 6) W (Wg.setCell ⟨w.heap.size + 1 + 1 + 1 + 1, 0, none⟩ v') ∧ Keeps (fun j => j = w.heap.size + 5) false (w.heap.size + 6 + 2) W (Wg.setCell ⟨w.heap.size + 1 + 1 + 1 + 1, 0, none⟩ v') ∧ SpI w f A cap l (k + 1) (Wg.setCell ⟨w.heap.size + 1 + 1 + 1 + 1, 0, none⟩ v') := by
 obtain ⟨h1, h2, h3, h4, _, h7, h8⟩ := h
 have hlo : ∀ j, v.ownBlock = some j → w.heap.size + 6 ≤ j := fun j e => (hv.lt j e).1
 have hne : ∀ j, j < w.heap.size + 6 → some j ≠ v.ownBlock := fun j hj e => by have := hlo j e.symm; omega
 have hset := grownBy_setCell' Wg (w.heap.size + 1 + 1 + 1 + 1) v'
 have hb : ∀ j o, j < w.heap.size + 4 → W.heap[j]? = some o → (Wg.setCell ⟨w.heap.size + 1 + 1 + 1 + 1, 0, none⟩ v').heap[j]? = some o := fun j o hj hj' =>
  (hset.block j (Nat.lt_of_lt_of_le (Array.getElem?_eq_some_iff.1 hj').1 hg.size) (fun e => by injection e; omega)).trans ((hg.block j (Array.getElem?_eq_some_iff.1 hj').1 (hne j (by omega))).trans hj')
 have hbox : Boxed Wg (w.heap.size + 1 + 1 + 1 + 1) 24 v := Boxed.kept h5 hg (hne _ (by omega))
 have hov := OwnE.grew (packs_length f l k) hv'
 have hk1 : KeepsFrom (w.heap.size + 6) W Wg := (KeepsOthers.of_grownBy hg (fun j o e ho => by
  obtain ⟨cur, hc⟩ := hv.cells j e
  rw [hc] at ho
  injection ho with ho
  subst ho
  rfl)).from _
 refine ⟨hk1.trans (.of_grownBy hset fun j e => by injection e; omega), (Keeps.grown hg fun j e hj => by have := hlo j e; omega).trans (.setCell Wg _ v' (by simp) (by simp)), hb _ _ (by omega) h1, hb _ _ (by omega) h2, hb _ _ (by omega) h3, hb _ _ (by omega) h4, ⟨v', hbox.set v', ?_⟩, ((h7.grown hg h7.size fun j e => by have := hlo j e; omega).setCell (by simp; omega) v'), Nat.le_trans h8 (Nat.le_trans hg.size hset.size)⟩
 rw [packs_succ, hx]
 refine hov.kept hset ?_
 cases hw : v'.ownBlock with
 | none => exact .inl rfl
 | some j => exact .inr fun e => by injection e with e; have := (hov.lt j hw).1; omega
set_option maxRecDepth 100000 in
set_option maxHeartbeats 4000000 in
theorem split (f : FP) (A : Option Addr) (cap : Nat) (l : List (BitVec 8)) (hl : l.length ≤ 65535) (hcap : l.length ≤ cap) (w : World) (hS : Sees w A (byteVals l)) :
  Calls Tryz.prog 118 #[f.val, .slice A l.length cap] w fun e w' => ∃ v, e = .returned (.tuple #[v, .int .i64 0]) ∧ OwnE w' w.heap.size v (packs f l (cnt l.length)) ∧ Below w.heap.size w w' := by
 refine (callsIn_wide (n := 8)).1 ?_
 refine callsIn_of_wp_marks Tryz.func118 rfl trivial ?_ rfl
 simp only [Tryz.ntmps118, List.size_toArray, List.length_cons, List.length_nil, Nat.reduceAdd, Nat.reduceSub, Array.replicate_succ, Array.replicate_zero, List.push_toArray, List.append_toArray, List.nil_append, List.cons_append]
 obtain ⟨n, hn⟩ : ∃ n, n = l.length := ⟨_, rfl⟩
 rw [← hn] at hl hcap ⊢
 have HN := Lib.hid hn
 obtain ⟨i0, hi0, ha0, ha1, ha2⟩ := info_parts info_E
 clear hn
 gi_wp2_with fail
 refine wideCall2 (validI n hl _) ?_
 rintro e w1 ⟨rfl, rfl⟩
 gi_wp2_with fail
 refine wideCall2 (bounds n _) ?_
 rintro e w1 ⟨rfl, rfl⟩
 gi_wp2_with fail
 (obtain ⟨W0, hW0⟩ : ∃ W0 : World, W0 = ((((((w).alloc (.cells f.arr 67)).alloc (.cells #[.slice A n cap] 22)).alloc (.cells #[.slice none 0 0] 24)).alloc (.cells #[.int .i64 0] 27)).alloc (.cells #[.slice none 0 0] 24)).alloc (.cells #[.int .i64 n] 3) := ⟨_, rfl⟩); (have gW0 : ∀ (j : Nat) (o : Obj), ([Obj.cells f.arr 67, Obj.cells #[.slice A n cap] 22, Obj.cells #[.slice none 0 0] 24, Obj.cells #[.int .i64 0] 27, Obj.cells #[.slice none 0 0] 24, Obj.cells #[.int .i64 n] 3] : List Obj)[j]? = some o → W0.heap[w.heap.size + j]? = some o := by rw [hW0]; exact allocs_get w _); (have zW0 : W0.heap.size = w.heap.size + 6 := by rw [hW0]; exact allocs_size w [Obj.cells f.arr 67, Obj.cells #[.slice A n cap] 22, Obj.cells #[.slice none 0 0] 24, Obj.cells #[.int .i64 0] 27, Obj.cells #[.slice none 0 0] 24, Obj.cells #[.int .i64 n] 3]); (have bW0 : Below w.heap.size w W0 := by rw [hW0]; exact allocs_below w [Obj.cells f.arr 67, Obj.cells #[.slice A n cap] 22, Obj.cells #[.slice none 0 0] 24, Obj.cells #[.int .i64 0] 27, Obj.cells #[.slice none 0 0] 24, Obj.cells #[.int .i64 n] 3]); (rw [← hW0]); (clear hW0)
 have hz0 := zW0
 have hQ0 : SpI w f A cap l 0 W0 := ⟨gW0 0 _ rfl, by rw [← HN.out]; exact gW0 1 _ rfl, gW0 2 _ rfl, gW0 3 _ rfl, ⟨_, gW0 4 _ rfl, ownE_nil _ _⟩, bW0, by omega⟩
 have hG : Gives 7 127 #[.pointer (some ⟨w.heap.size + 1 + 1 + 1 + 1 + 1, 0, none⟩)] (fun k => k = w.heap.size + 5) false (encB n) W0 := bounds1 7 n hl (w.heap.size + 1 + 1 + 1 + 1 + 1) W0 (cell_of_block (gW0 5 _ rfl)) (fun k => k = w.heap.size + 5) rfl false
 clear gW0
 refine rangeAll (n := 8) (ps := #[19, 20]) (s := false) (encs := encB n) (by decide) rfl (enters_of Tryz.func127 (by kernel_rfl) rfl) hG (Below.refl _ _) (fun k hk => by omega) (fun k x hx => by obtain ⟨_, rfl⟩ := encB_get hx; rfl)
  (SpI w f A cap l) (SpI.own w f A cap l _ (by omega)) hQ0
  (fun k a' W => a' = { tmps := #[f.val, .slice A n cap, .pointer (some ⟨w.heap.size, 0, none⟩), .pointer (some ⟨w.heap.size + 1, 0, none⟩), .pointer (some ⟨w.heap.size + 1 + 1, 0, none⟩), .pointer (some ⟨w.heap.size + 1 + 1 + 1, 0, none⟩), .pointer (some ⟨w.heap.size + 1 + 1 + 1 + 1, 0, none⟩), .int .i64 k, .int .i64 (chunkLen n k : Nat), undef, undef, undef, .slice A n cap, .int .i64 n, .bool true, .bool false, .slice A n cap, .int .i64 n, .func (.func 127) #[] #[.pointer (some ⟨w.heap.size + 1 + 1 + 1 + 1 + 1, 0, none⟩)], .int .i64 k, .int .i64 (chunkLen n k : Nat), undef, undef, undef, undef, undef, undef, undef, undef, undef, undef, undef, undef, undef, undef, undef, undef, undef, undef, undef, undef, undef, undef, undef, undef], defers := [] } ∧ SpI w f A cap l k W)
  (fun a' k X Y row hs hg hr => ⟨hs.1, SpI.own w f A cap l _ (by omega) k X Y row hs.2 hg hr⟩) ?assign ?body ?done
 case assign =>
  intro lo k v W hx hI
  obtain ⟨hk, rfl⟩ := encB_get hx
  gi_wp2
  exact ⟨KeepsFrom.refl _ _, Keeps.refl _ _ _ _, trivial, hI⟩
 case body =>
  rintro lo k v a' W hx ⟨rfl, hI⟩
  obtain ⟨hk, rfl⟩ := encB_get hx
  have HI := Lib.hid hI
  have hkn := cnt_lt hl hk
  have hzW := hI.2.2.2.2.2.2
  have pF := aggF_of_block hI.1
  have pA : W.cell? ⟨w.heap.size + 1, 0, none⟩ = some (.slice A n cap) := by rw [HN.out]; exact cell_of_block hI.2.1
  have hd := chunkAt_length l k
  have HS := Lib.hid (show ∀ W', Below W.heap.size W W' → Sees W' (cutA A (31 * k) (31 * k + chunkLen n k)) (byteVals (chunkAt l k)) from fun W' hb => by
   have h2 := (((hS.below hI.2.2.2.2.2.1).below hb).take (31 * k + chunkLen n k)).cut (31 * k) (31 * k + chunkLen n k) (by rw [List.length_take]; omega)
   have he : byteVals (chunkAt l k) = ((byteVals l).take (31 * k + chunkLen n k)).drop (31 * k) := by
    unfold chunkAt byteVals
    rw [List.map_take, List.map_drop, List.drop_take, ← HN.out, Nat.add_sub_cancel_left]
   rw [he]; exact h2)
  rw [← HN.out] at hd
  have hcl := chunkLen_le n k
  have hcs : 31 * k + chunkLen n k ≤ n := by unfold chunkLen; omega
  have hw1 : IntKind.i64.wrap ((k : Int) * 31) = ((31 * k : Nat) : Int) := by rw [IntKind.wrap_i64]; omega
  have hw2 : IntKind.i64.wrap (((31 * k : Nat) : Int) + ((chunkLen n k : Nat) : Int)) = ((31 * k : Nat) : Int) + ((chunkLen n k : Nat) : Int) := by rw [IntKind.wrap_i64]; omega
  have hcut := fun (W : World) => cut_lhm A n cap (31 * k) (31 * k + chunkLen n k) (31 * k + chunkLen n k) (by omega) (Nat.le_refl _) (by omega) .i64 .i64 .i64 W
  rw [show 31 * k + chunkLen n k - 31 * k = chunkLen n k from by omega] at hcut
  rw [Int.natCast_add (31 * k)] at hcut
  have HP := Lib.hid (show ∀ W', Below W.heap.size W W' → Calls Tryz.prog 138 #[f.val, .slice (cutA A (31 * k) (31 * k + chunkLen n k)) (chunkLen n k) (chunkLen n k)] W' fun e w' => e = .returned (.tuple #[(packAt f l k).val, .int .i64 0]) ∧ Below W'.heap.size W' w' from fun W' hb => by
   have := bcPack f (cutA A (31 * k) (31 * k + chunkLen n k)) (chunkLen n k) (chunkAt l k) (by omega) W' (HS.out W' hb)
   rwa [hd] at this)
  clear HS hd
  clear hI hG hQ0
  obtain ⟨pk, hpk⟩ : ∃ pk, packAt f l k = pk := ⟨_, rfl⟩
  have HC := Lib.hid hpk
  rw [hpk] at HP
  clear hpk
  generalize hcn : chunkLen n k = cn at *
  generalize hko : 31 * k = ko at *
  gi_wp2
  ((have hS0 : (Below W.heap.size W W.drew ∧ aggAt W.drew 14 (w.heap.size) (0) = some (f.val) ∧ W.drew.cell? ⟨(w.heap.size + 1), 0, none⟩ = some (.slice A n cap)) := ⟨((Below.refl _ W)).drew, pF, pA⟩); (refine region_later_in (by kernel_rfl) [14, 15] [0, 1, 2, 3, 4, 5, 6, 7, 8, 9, 10, 11, 12, 13, 16] true (by kernel_rfl) (by kernel_rfl) (fun W' => (Below W.heap.size W W' ∧ aggAt W' 14 (w.heap.size) (0) = some (f.val) ∧ W'.cell? ⟨(w.heap.size + 1), 0, none⟩ = some (.slice A n cap))) hS0 ?_); (have hSB : ∀ W' W'' : World, (Below W.heap.size W W' ∧ aggAt W' 14 (w.heap.size) (0) = some (f.val) ∧ W'.cell? ⟨(w.heap.size + 1), 0, none⟩ = some (.slice A n cap)) → Below W'.heap.size W' W'' → (Below W.heap.size W W'' ∧ aggAt W'' 14 (w.heap.size) (0) = some (f.val) ∧ W''.cell? ⟨(w.heap.size + 1), 0, none⟩ = some (.slice A n cap)) := fun W' W'' ⟨h0, h1, h2⟩ hb => ⟨h0.trans (hb.mono h0.size), agg_keep h1 hb, cell_keep h2 hb⟩); (clear pF pA); (iterate 15 (refine chainL_op (by rfl) (by rfl) ?_ ?_ ?_; rotate_left; (focus (intro W' hS' K hK; (try simp only [put_some, List.set] at hK); (have hS'' := hS'); (obtain ⟨s0, s1, s2⟩ := hS''); go_simp; (first | exact hK _ hS' (Later.refl _) | (with_reducible refine Calls.mono (HP.out _ s0) ?_; rintro e W'' ⟨rfl, hb''⟩; exact hK _ (hSB _ _ hS' hb'') (Later.of hb''))); done)); (try simp only [put_some, List.set]))); (refine chainL_nil ?_))
  clear hcut hw1 hw2 HP
  refine spineL_op (by rfl) (by rfl) (fun W1 hS1 hL1 K hK => ?_)
  go_simp
  have hB1 : Below W1.heap.size W1 (W1.alloc (.cells V4.zero.arr 50)) := (Below.refl _ W1).alloc (Nat.le_refl _) _
  refine hK _ _ (fun _ => hSB _ _ hS1 hB1) ?_
  (try simp only [put_some, List.set])
  clear hK K hL1
  have hz1 : (W1.alloc (.cells V4.zero.arr 50)).heap[W1.heap.size]? = some (.cells V4.zero.arr 50 (0, 0)) := heap_alloc_new _ _
  have hle : W.heap.size ≤ W1.heap.size := hS1.1.size
  clear hB1
  generalize hbq : W1.heap.size = bq at *
  refine spineL_op (by rfl) (by rfl) (fun W2 hS2 hL2 K hK => ?_)
  have hz2 := (hL2.block bq (by simp only [World.size_alloc]; omega)).trans hz1
  have pZ := agg_of_block hz2
  go_simp
  have hS3 : Below W.heap.size W (putAgg W2 bq 0 pk.arr) := putAgg_below hS2.1 (by omega)
  have hz3 : (putAgg W2 bq 0 pk.arr).heap[bq]? = some (.cells pk.arr 50 (0, 0)) := vec_put hz2 rfl
  refine hK undef _ (fun _ => ⟨hS3, (aggAt_congr (putAgg_block _ _ _ _ _ (by omega))).trans hS2.2.1, (World.cell?_of_block (putAgg_block _ _ _ _ _ (by show w.heap.size + 1 ≠ _; omega))).trans hS2.2.2⟩) ?_
  rw [put_none]
  clear hK K
  refine spineL_nil fun W3 hL3 hS4 => ?_
  have hB3 := (hS4 rfl).1
  have hz4 := (hL3.block bq (Array.getElem?_eq_some_iff.1 hz3).1).trans hz3
  have HI3 := Lib.hid (HI.out.below hB3)
  have pk3 := agg_of_block hz4
  clear hL2 hS2 hS3 hz2 hz3 pZ hz1 hL3 hS4 hSB hS0
  have HB3 := Lib.hid hB3
  obtain ⟨w4, hw4⟩ : ∃ w4, w4 = W3.alloc (.cells (eVals [pk]).toArray 50) := ⟨_, rfl⟩
  have hb4 : Below W3.heap.size W3 w4 := by rw [hw4]; exact (Below.refl _ W3).alloc (Nat.le_refl _) _
  have hS4 : IsEs w4 W3.heap.size [pk] := by rw [hw4]; exact IsEsT.new W3 [pk] _ rfl
  have HI4 := Lib.hid (HI3.out.below hb4)
  have HB4 := Lib.hid (HB3.out.trans (hb4.mono HB3.out.size))
  obtain ⟨v, h5, h6⟩ := HI4.out.2.2.2.2.1
  obtain ⟨v3, h53, _⟩ := HI3.out.2.2.2.2.1
  obtain rfl : v = v3 := by
   have := ((hb4.block _ (Array.getElem?_eq_some_iff.1 h53).1).trans h53).symm.trans h5
   injection this with this
   injection this with this
   injection this with this
   injection this with this
   exact this.symm
  have p6 := cell_of_block h53
  have HV := Lib.hid (And.intro h5 h6)
  have hnews : ∀ j u, (eVals [pk])[j]? = some u → w4.cell? ((⟨W3.heap.size, 0, none⟩ : Addr).add j) = some u := fun j u hj => by
   obtain ⟨ad, e, h⟩ := hS4.sees.news (by simp [eVals_length])
   injection e with e
   subst e
   exact h j u hj
  have hz4 : w.heap.size + 6 ≤ w4.heap.size := HI4.out.2.2.2.2.2.2
  have hk65 : k ≤ 65535 := by omega
  clear h5 h6 h53 hb4 hS4
  gi_wp2_with (gi_at_builtin; (try rw [fold1]); rw [← hw4]; refine wpListIn_append_own w4 rfl (.tmp 40) (.tmp 42) 24 rfl (w.heap.size + 6) 50 i0 _ 4 32 Tryz.underlying24 hi0 ha0 ha1 ha2 rfl (by decide) v k (eVals (packs f l k)) rfl ?c1 ⟨W3.heap.size, 0, none⟩ 1 1 (eVals [pk]) rfl (by rw [eVals_length]; rfl) hnews (eVals_one _) (by unfold maxLen; omega) (by omega) hz4 ?_)
  case c1 =>
   have := HV.out.2
   unfold OwnE at this
   rwa [packs_length] at this
  intro v' Wg hown hg _
  rw [← hw4] at hg
  have p7 := hg.cell (cell_of_block HV.out.1) (fun e => by have h : w.heap.size + 6 ≤ w.heap.size + 1 + 1 + 1 + 1 := (HV.out.2.lt _ e.symm).1; omega)
  have HG := Lib.hid (HI4.out.step HV.out.1 HV.out.2 HC.out hg hown)
  have f7 : Wg.frozen? ⟨w.heap.size + 1 + 1 + 1 + 1, 0, none⟩ = false := Boxed.frozen (Boxed.kept (t := 24) (v := v) HV.out.1 hg (fun e => by have h : w.heap.size + 6 ≤ w.heap.size + 1 + 1 + 1 + 1 := (HV.out.2.lt _ e.symm).1; omega))
  obtain ⟨A', c', hv', -⟩ := (OwnE.grew (packs_length f l k) hown).open
  subst hv'
  clear hown hg hnews
  gi_wp2
  have HG := HG.out
  simp only [List.length_append, List.length_cons, List.length_nil, Nat.zero_add] at HG
  rw [zW0]
  exact ⟨(KeepsFrom.below HB4.out).trans HG.1, (Keeps.of_below HB4.out).trans HG.2.1, HG.2.2⟩
 case done =>
  intro D W hD hI hK
  have HI := Lib.hid hI
  rw [encB_length] at HI
  obtain ⟨v, h5, h6⟩ := HI.out.2.2.2.2.1
  have p6 := cell_of_block h5
  have p2 := cell_of_block hI.2.2.1
  have p3 := cell_of_block hI.2.2.2.1
  obtain ⟨A', c', hv', -⟩ := h6.open
  subst hv'
  have HV := Lib.hid (And.intro h5 h6)
  have f2 := Boxed.frozen hI.2.2.1
  have f3 := Boxed.frozen hI.2.2.2.1
  have hbx2 : Boxed W (w.heap.size + 1 + 1) 24 (.slice none 0 0) := hI.2.2.1
  have hbx3 : Boxed W (w.heap.size + 1 + 1 + 1) 27 (.int .i64 0) := hI.2.2.2.1
  clear hI h5 h6
  gi_wp2
  obtain ⟨V, hV⟩ : ∃ V, V = (W.setCell ⟨w.heap.size + 1 + 1, 0, none⟩ (.slice A' (packs f l (cnt ↑n)).length c')).setCell ⟨w.heap.size + 1 + 1 + 1, 0, none⟩ (.int .i64 0) := ⟨_, rfl⟩
  rw [← hV]
  have hg1 := grownBy_setCell' W (w.heap.size + 1 + 1) (.slice A' (packs f l (cnt ↑n)).length c')
  have hg2 := grownBy_setCell' (W.setCell ⟨w.heap.size + 1 + 1, 0, none⟩ (.slice A' (packs f l (cnt ↑n)).length c')) (w.heap.size + 1 + 1 + 1) (.int .i64 0)
  have hbV : Below w.heap.size w V := by rw [hV]; exact (HI.out.2.2.2.2.2.1.setCell (by simp; omega) _).setCell (by simp; omega) _
  have hn2 : ∀ j, (Value.slice A' (packs f l (cnt ↑n)).length c').ownBlock = some j → w.heap.size + 6 ≤ j := fun j e => (HV.out.2.lt j e).1
  have hov : OwnE V (w.heap.size + 6) (.slice A' (packs f l (cnt ↑n)).length c') (packs f l (cnt n)) := by
   rw [hV]
   refine (HV.out.2.kept hg1 ?_).kept hg2 ?_
   all_goals
    cases hw : (Value.slice A' (packs f l (cnt ↑n)).length c').ownBlock with
    | none => exact .inl rfl
    | some j => exact .inr fun e => by injection e with e; have := hn2 j hw; omega
  have hD' : V.heap[D]? = some (.deferred (some [])) := by
   rw [hV]
   exact (hg2.block D (Nat.lt_of_lt_of_le (Array.getElem?_eq_some_iff.1 hK).1 hg1.size) (fun e => by injection e; omega)).trans ((hg1.block D (Array.getElem?_eq_some_iff.1 hK).1 (fun e => by injection e; omega)).trans hK)
  have c2 : V.cell? ⟨w.heap.size + 1 + 1, 0, none⟩ = some (.slice A' (packs f l (cnt ↑n)).length c') := by
   rw [hV]; exact hg2.cell (Boxed.cell (hbx2.set _)) (by simp)
  have c3 : V.cell? ⟨w.heap.size + 1 + 1 + 1, 0, none⟩ = some (.int .i64 0) := by
   rw [hV]; exact Boxed.cell (Boxed.set _ (hbx3.kept hg1 (by simp)))
  refine ⟨by simp, .inl ⟨_, _, rfl, run_takeDeferred hD', ?_⟩⟩
  have hp := grownBy_putObj' V D (.deferred none)
  have hDn : w.heap.size + 6 ≤ D := by omega
  have d2 := hp.cell c2 (fun e => by injection e; simp at *; omega)
  have d3 := hp.cell c3 (fun e => by injection e; simp at *; omega)
  have hb2 : Below w.heap.size w (V.putObj D (.deferred none)) := hbV.grown hp hbV.size (fun j e => by injection e; omega)
  have hov2 : OwnE (V.putObj D (.deferred none)) (w.heap.size + 6) (.slice A' (packs f l (cnt ↑n)).length c') (packs f l (cnt n)) := hov.own hp (fun r e => by injection e with e; subst e; exact ⟨_, hD', rfl⟩)
  clear c2 c3 hV hg1 hg2 hov hbV hD' hp f2 f3 p2 p3 p6 hbx2 hbx3
  generalize V.putObj D (.deferred none) = V' at *
  have l2 : (loadVar 24 ⟨w.heap.size + 1 + 1, 0, none⟩).run Tryz.prog V' = .ok (.slice A' (packs f l (cnt ↑n)).length c') V' := by go_simp
  have l3 : (loadVar 27 ⟨w.heap.size + 1 + 1 + 1, 0, none⟩).run Tryz.prog V' = .ok (.int .i64 0) V' := by go_simp
  exact ⟨_, ret_cell_cell Tryz.results118 rfl rfl l2 l3, _, rfl, hov2.base_le (by omega), hb2⟩
end Go.Proofs.YtccgfladbibjbaaGreatDoor
