/- A range over a function that hands on values of which only a description is known. -/
import Derived.Test.YtccgfladbibjbaaGreatDoorKG20
import Derived.Test.YtccgfladbibjbaaGreatDoorKG37
import Derived.Test.YtccgfladbibjbaaGreatDoorKG33
import Derived.Test.YtccgfladbibjbaaGreatDoorKG36
namespace Go.Proofs.YtccgfladbibjbaaGreatDoor
open Go.RowKit Go.Shelf
def GivesV (n : Nat) (g : Nat) (lb : Array Value) (p : Nat → Prop) (s : Bool) (Vp : Nat → Array Value → World → Prop) (N : Nat) (w : World) : Prop :=
 ∀ (l : Nat) (J : Nat → World → Prop) (W : World), Below w.heap.size w W → OwnFrom W.heap.size J →
  (∀ (k : Nat) (x : Array Value) (W1 : World), k < N → Vp k x W1 → J k W1 → YieldAt Fence.wide (n - 1) Tryz.prog l x W1 fun e W' => e = .returned (.bool true) ∧ J (k + 1) W' ∧ Keeps p s W.heap.size W1 W') →
  J 0 W → CallsIn Fence.wide n Tryz.prog g (#[.func (.yield l) #[] #[]] ++ lb) W fun e W' => (∃ v, e = .returned v) ∧ J N W'
set_option maxHeartbeats 1000000 in
theorem rangeV {g : Operand} {ps : Array Tmp} {assign body : Code} {Q : Exit → Act → World → Prop} {a : Act} {w w0 : World} {n gf : Nat} {p : Nat → Prop} {s : Bool} {lb : Array Value} {Vp : Nat → Array Value → World → Prop} {N : Nat}
  (h1 : 1 ≤ n) (hg : a.eval g = .func (.func gf) #[] lb) (eg : ∀ args w, (callFunc gf args).run Tryz.prog w = .ok (.enter gf args) w)
  (hseq : GivesV (n - 1) gf lb p s Vp N w0) (hb0 : Below w0.heap.size w0 w) (hp : ∀ k, p k → k < w.heap.size) (hps : ∀ (k : Nat) (x : Array Value) (W : World), k < N → Vp k x W → x.size = ps.size)
  (I : Nat → World → Prop) (hI : OwnFrom w.heap.size I) (h0 : I 0 w) (M : Nat → Act → World → Prop) (hM : ∀ a', OwnFrom w.heap.size (fun k W => M k a' W))
  (hassign : ∀ (l k : Nat) (x : Array Value) (W : World), k < N → Vp k x W → I k W → assign.wpIn (Fence.wide.inRound l) (n - 1 - 1) Tryz.prog (Exit.then (fun a₁ W₁ => KeepsFrom w.heap.size W W₁ ∧ Keeps p s (w.heap.size + 2) W W₁ ∧ M k a₁ W₁) (fun _ _ _ => False))
   { tmps := (ps.zip x).foldl (fun t (p, v) => t.setIfInBounds p v) a.tmps, defers := [] } W)
  (hbody : ∀ (l k : Nat) (a₁ : Act) (W : World), k < N → M k a₁ W → body.wpIn (Fence.wide.inRound l) (n - 1 - 1) Tryz.prog (Exit.then (fun _ W' => KeepsFrom w.heap.size W W' ∧ Keeps p s (w.heap.size + 2) W W' ∧ I (k + 1) W') (fun _ _ _ => False)) a₁ W)
  (hdone : ∀ D W, w.heap.size ≤ D → I N W → W.heap[D]? = some (.deferred (some [])) → Q .normal { a with defers := { target := .collected D, args := #[] } :: a.defers } W) :
  (Code.rangeFunc g ps assign body).wpIn Fence.wide n Tryz.prog Q a w := by
 refine wpIn_rangeFunc fun fn hfn => ?_
 obtain ⟨R, hR⟩ : ∃ R : LoopState → Loop, R = fun st => { state := st, pending := none, fn, tmps := a.tmps, params := ps, assign, body, defers := w.heap.size } := ⟨_, rfl⟩
 obtain ⟨V, hV⟩ : ∃ V : World, V = (w.alloc (.deferred (some []))).alloc (.loop (R .ready)) := ⟨_, rfl⟩
 have hsz : V.heap.size = w.heap.size + 2 := by rw [hV]; simp
 have hD : V.heap[w.heap.size]? = some (.deferred (some [])) := by
  rw [hV]; exact (Below.heap_alloc _ _ _ (by simp)).trans (World.alloc_heap_new w _)
 have hL : V.heap[w.heap.size + 1]? = some (.loop (R .ready)) := by
  rw [hV]
  have := World.alloc_heap_new (w.alloc (.deferred (some []))) (.loop (R .ready))
  rwa [World.size_alloc] at this
 have hbV : Below w.heap.size w V := by rw [hV]; exact ((Below.refl _ w).alloc (Nat.le_refl _) _).alloc (by simp) _
 refine ⟨w.heap.size + 1, [{ target := .collected w.heap.size, args := #[] }], V, { target := .fn (.func gf) lb, args := #[.func (.yield (w.heap.size + 1)) #[] #[]] }, V, gf, #[.func (.yield (w.heap.size + 1)) #[] #[]] ++ lb, V,
  by rw [hV, hR]; exact run_enterLoop_outer _ _ _ _ _, by simp only [resolve, hg]; simp [go_sem], fun _ _ => trivial, by simp [invoke, go_sem, eg], fun _ => h1, ?_⟩
 -- what is known between two rounds
 refine (hseq (w.heap.size + 1) (fun k W => I k W ∧ W.heap[w.heap.size + 1]? = some (.loop (R .ready)) ∧ W.heap[w.heap.size]? = some (.deferred (some []))) V (hb0.trans (hbV.mono hb0.size))
  (OwnFrom.and (OwnFrom.later hI (by omega)) (OwnFrom.and (own_block _ _ _ (by omega)) (own_block _ _ _ (by omega)))) ?_ ⟨?_, hL, hD⟩).mono ?_
 ·rintro k x W hk0 hx ⟨hi, hl, hd⟩
  have hy := run_yield (P := Tryz.prog) (args := x) hl (by rw [hR]; exact hps k x W hk0 hx)
  refine ⟨_, _, _, _, hy, ?_⟩
  rw [hR]
  refine roundIn_of_wpIn hfn ?_
  refine wpIn_mono (hassign (w.heap.size + 1) k x W hk0 hx hi) ?_
  rintro e a₁ W₁ hp
  cases e with
  | normal =>
   obtain ⟨hk, hb, hm⟩ := hp
   have hl₁ := hk.same _ _ (by omega) hl rfl
   have hd₁ := hk.same _ _ (Nat.le_refl _) hd rfl
   have hz₁ := (Array.getElem?_eq_some_iff.1 hl₁).1
   obtain ⟨W₂, hW₂⟩ : ∃ W₂, W₂ = W₁.putObj (w.heap.size + 1) (.loop (R .busy)) := ⟨_, rfl⟩
   have hbr := run_beginRound (P := Tryz.prog) hl₁ (by rw [hR])
   refine ⟨W₂, by rw [hbr, hW₂, hR], ?_⟩
   have hl₂ : W₂.heap[w.heap.size + 1]? = some (.loop (R .busy)) := by rw [hW₂]; exact World.putObj_heap_same hz₁
   have hd₂ : W₂.heap[w.heap.size]? = some (.deferred (some [])) := by rw [hW₂]; exact (World.putObj_heap_other (by omega)).trans hd₁
   have hb₂ : Keeps p s (w.heap.size + 2) W₁ W₂ := by rw [hW₂]; exact .putObj (fun h => by have := hp _ h; omega) (by omega) _
   have hm₂ : M k a₁ W₂ := by rw [hW₂]; exact (hM a₁).putObj _ hm (by omega) hl₁ rfl
   refine wpIn_mono (hbody (w.heap.size + 1) k a₁ W₂ hk0 hm₂) ?_
   rintro e a₃ W₃ hp
   cases e with
   | normal =>
    obtain ⟨hk₃, hb₃, hi₃⟩ := hp
    have hl₃ := hk₃.same _ _ (by omega) hl₂ rfl
    have hd₃ := hk₃.same _ _ (Nat.le_refl _) hd₂ rfl
    have her := run_endRound (P := Tryz.prog) none hl₃
    refine ⟨_, _, her, rfl, ⟨hI.putObj _ hi₃ (by omega) hl₃ rfl, ?_, ?_⟩, ?_⟩
    ·rw [World.putObj_heap_same (Array.getElem?_eq_some_iff.1 hl₃).1, hR]; rfl
    ·exact (World.putObj_heap_other (by omega)).trans hd₃
    ·rw [hsz]; exact hb.trans (hb₂.trans (hb₃.trans (.putObj (fun h => by have := hp _ h; omega) (by omega) _)))
   | _ => exact hp.elim
  | _ => exact hp.elim
 ·rw [hV]; exact hI.alloc _ (hI.alloc _ h0)
 ·rintro e W ⟨⟨v, rfl⟩, hi, hl, hd⟩
  have hel := run_endLoop (P := Tryz.prog) hl (by rw [hR]; simp)
  refine ⟨none, _, by rw [hel, hR], ?_⟩
  exact hdone _ _ (Nat.le_refl _) (hI.putObj _ hi (by omega) hl rfl) ((World.putObj_heap_other (by omega)).trans hd)
end Go.Proofs.YtccgfladbibjbaaGreatDoor
namespace Go.Proofs.YtccgfladbibjbaaGreatDoor
open Go.RowKit
attribute [local go_sem ↓] add_UU sub_UU mul_UU add_UL add_LU sub_UL sub_LU mul_UL neg_at not_at and_UU or_UU xor_UU andNot_UU and_UL or_LU shr_UL shl_UL shr_UN shl_UN shl_LN quo_UL rem_UL quo_UU rem_UU
attribute [local go_sem] wrap64_N wrapi_mod wrap8_U wrap32_U wrap64_B wrap32_B wrap8_D wrapi_B wrap64_UU eq_UU ne_UU eq_UL ne_UL lt_UU le_UU
attribute [local simp] putAgg_size
attribute [local go_sem ↓] loadVar_F loadVar_E loadVar_V loadVar_B32 storeVar_F storeVar_E storeVar_V storeVar_B32 box_F box_E box_V box_B32
attribute [local go_sem ↓ high] V4.cells_val FP.cells_val
attribute [local go_sem] run_loadF run_loadE run_loadV run_loadB32 run_storeF run_storeE run_storeV run_storeB32 run_boxA aggAt_drew aggAt_drewN aggAt_alloc_new aggAt_alloc_past aggAt_setCell_other aggAt_putAgg_other aggAt_putAgg_new putAgg_drew putAgg_size putAgg_alloc_new putAgg_alloc_past putAgg_cell_other putAgg_frozen_other V4.agg_arr FP.agg_arr V4.size_arr FP.size_arr V4.fits FP.fits fitsA_agg4 lt_2 ne_2 en_2 lt_3 ne_3 en_3 lt_4 ne_4 en_4 lt_5 ne_5 en_5 lt_6 ne_6 en_6
structure BA where
 A : Option Addr
 cap : Nat
 l : List (BitVec 8)
def BA.val (x : BA) : Value := .slice x.A x.l.length x.cap
def baVals (l : List BA) : List Value := l.map BA.val
theorem baVals_length (l : List BA) : (baVals l).length = l.length := by simp [baVals]
def SeesR (w : World) (R : Option Addr) (bs : List BA) : Prop := Sees w R (baVals bs) ∧ ∀ x ∈ bs, Sees w x.A (byteVals x.l) ∧ x.l.length ≤ x.cap
theorem SeesR.below {w w' : World} {R : Option Addr} {bs : List BA} (h : SeesR w R bs) (hb : Below w.heap.size w w') : SeesR w' R bs := ⟨h.1.below hb, fun x hx => ⟨(h.2 x hx).1.below hb, (h.2 x hx).2⟩⟩
theorem SeesR.at {w : World} {R : Option Addr} {bs : List BA} (h : SeesR w R bs) (k : Nat) (hk : k < bs.length) : ∃ b o, R = some ⟨b, o, none⟩ ∧ b < w.heap.size ∧ w.cell? ⟨b, o + k, none⟩ = some bs[k].val ∧ Sees w bs[k].A (byteVals bs[k].l) ∧ bs[k].l.length ≤ bs[k].cap := by
 have hx : 0 < (baVals bs).length := by rw [baVals_length]; omega
 obtain ⟨b, o, rfl, hc⟩ := h.1 hx
 refine ⟨b, o, rfl, Sees.lt h.1 hx, ?_, h.2 _ (List.getElem_mem hk)⟩
 rw [hc _ (by rw [baVals_length]; exact hk)]
 unfold baVals
 rw [List.getElem?_map, List.getElem?_eq_getElem hk]
 rfl
theorem info_B : (Tryz.prog.info? 22).map (fun i => (i.zero, i.size, i.bytes)) = some (some (.slice none 0 0), 1, 24) := by kernel_rfl
theorem makeB (n : Nat) (hn : n ≤ 1099511627776) (w : World) : (Instr.makeSlice 37 (.int .i64 n) (.int .i64 n)).run Tryz.prog w = .ok (.slice (some ⟨w.heap.size, 0, none⟩) n n) (w.alloc (.cells (List.replicate n (Value.slice none 0 0)).toArray 22)) := by
 obtain ⟨i0, hi0, hz0, hz1, hz2⟩ := info_parts info_B
 have := run_make (P := Tryz.prog) w 37 22 i0 _ Tryz.underlying37 hi0 hz0 .i64 .i64 n n (by omega) (Int.le_refl _) (by rw [hz2]; omega) (by omega)
 rw [this, hz1, Int.toNat_natCast]
 show Result.ok _ (w.alloc (.cells (madeCells #[.slice none 0 0] (n * 1)) 22)) = _
 rw [made_nils]
structure SbI (w : World) (R : Option Addr) (l : List ShA) (ds : List Sh) (bO n i : Nat) (W : World) : Prop where
 O : ∃ bs : List BA, bs.length = i ∧ W.heap[bO]? = some (.cells (baVals bs ++ List.replicate (n - i) nilS).toArray 22 (0, 0)) ∧ (∀ x ∈ bs, (Sees W x.A (byteVals x.l) ∧ x.l.length ≤ x.cap) ∧ ∀ g o, x.A = some ⟨g, o, none⟩ → bO < g) ∧ bs.map BA.l = (ds.take i).map encR
 B : Below w.heap.size w W
 S : SeesS W R l
theorem SbI.step {w W W' : World} {R : Option Addr} {l : List ShA} {ds : List Sh} {bO n i : Nat} (h : SbI w R l ds bO n i W) (hR : ∀ g o, R = some ⟨g, o, none⟩ → g ≠ bO) (hRA : ∀ x ∈ l, ∀ g o, x.A = some ⟨g, o, none⟩ → g ≠ bO) (hw : w.heap.size ≤ bO) (hin : i < n) (hds : i < ds.length) (hb : Below W.heap.size W W') (x : BA) (hx : x.l = encR ds[i]) (hxs : Sees W' x.A (byteVals x.l)) (hxc : x.l.length ≤ x.cap) (hxb : ∀ g o, x.A = some ⟨g, o, none⟩ → bO < g) : SbI w R l ds bO n (i + 1) (W'.setCell ⟨bO, i, none⟩ x.val) := by
 obtain ⟨⟨bs, hl, O, hps, hm⟩, B, S⟩ := h
 have hZ := (Array.getElem?_eq_some_iff.1 O).1
 have hoth : ∀ k, k ≠ bO → (W'.setCell ⟨bO, i, none⟩ x.val).heap[k]? = W'.heap[k]? := fun k hk => Below.heap_setCell _ _ _ _ hk
 refine ⟨⟨bs ++ [x], by simp [hl], ?_, ?_, by rw [List.map_append, hm, List.take_succ_eq_append_getElem hds, List.map_append, List.map_singleton, List.map_singleton, hx]⟩, (B.trans (hb.mono B.size)).setCell (by simpa using hw) _, ⟨(S.below hb).1.move fun g o e hg => hoth g (hR g o e), fun x hx => ((S.below hb).2 x hx).move fun g o e hg => hoth g (hRA x hx g o e)⟩⟩
 ·have hO' := blk_below O hb rfl
  have := row_set hO' i x.val
  rw [this]
  congr 3
  have e : n - i = (n - (i + 1)) + 1 := by omega
  have hset : ∀ (a b : List Value) (j : Nat) (u : Value), a.length = j → (a ++ b).set j u = a ++ b.set 0 u := by
   intro a b j u h
   subst h
   simp
  rw [e, List.replicate_succ, hset _ _ _ _ (by rw [baVals_length, hl]), List.set_cons_zero]
  unfold baVals
  rw [List.map_append, List.append_assoc]
  rfl
 ·intro y hy
  rw [List.mem_append] at hy
  rcases hy with hy | hy
  ·exact ⟨⟨((hps y hy).1.1.below hb).move fun g o e hg => hoth g (by have := (hps y hy).2 g o e; omega), (hps y hy).1.2⟩, (hps y hy).2⟩
  ·simp at hy
   subst hy
   exact ⟨⟨hxs.move fun g o e hg => hoth g (by have := hxb g o e; omega), hxc⟩, hxb⟩
def Pa.at (q : Pa) (n : Nat) : Pa := ⟨q.field, q.thr, q.shr, n⟩
set_option maxRecDepth 20000 in
set_option maxHeartbeats 4000000 in
theorem splitBytes (q : Pa) (A1 : Option Addr) (cap1 : Nat) (s : List (BitVec 8)) (A2 : Option Addr) (cap2 : Nat) (r : List (BitVec 8)) (w : World) (L : Laid w) (hq : (q.at s.length).checkE = 0) (hr : (q.at s.length).random ≤ (r.length : Int)) (hr2 : r.length ≤ 1099511627776) (hc1 : s.length ≤ cap1) (hS1 : Sees w A1 (byteVals s)) (hS2 : Sees w A2 (byteVals r))
  (hok : ∀ x ∈ sharesV (q.at s.length) s r, checkE x = 0) :
  Calls Tryz.prog 23 #[.pointer none, q.val, .slice A1 s.length cap1, .slice A2 r.length cap2] w fun e w' => ∃ b bs, e = .returned (.tuple #[.slice (some ⟨b, 0, none⟩) bs.length bs.length, .int .i64 0]) ∧ SeesR w' (some ⟨b, 0, none⟩) bs ∧ bs.map BA.l = (sharesV (q.at s.length) s r).map encR ∧ Below w.heap.size w w' := by
 have HD := Lib.hid (fun W (hW : Below w.heap.size w W) => dealDeal (q.at s.length) A1 cap1 s A2 cap2 r W (L.to hW) hq rfl hr hr2 hc1 (hS1.below hW) (hS2.below hW))
 obtain ⟨_, _, _, z4⟩ := Pa.checkE_zero hq
 have HL := Lib.hid (fun W (hW : Below w.heap.size w W) => L.to hW)
 have hsh : (sharesV (q.at s.length) s r).length = q.shr.toNat := by unfold sharesV dealV; simp [Pa.at]
 obtain ⟨ds, hds⟩ : ∃ ds, sharesV (q.at s.length) s r = ds := ⟨_, rfl⟩
 rw [hds] at HD hok hsh ⊢
 have HOK := Lib.hid hok
 have HZ := Lib.hid (Pa.checkE_zero hq)
 clear hds L hq hr hr2 hc1 hS1 hS2 z4 hok
 obtain ⟨fd, th, sh, ln⟩ := q
 unfold Pa.val Pa.cells Pa.at at *
 simp only [] at HD hsh HZ ⊢
 have hn255 : ds.length ≤ 255 := by have := HZ.out; omega
 clear hsh
 go_enter Tryz.func23, Tryz.ntmps23
 go_wp2_with fail
 (obtain ⟨W0, hW0⟩ : ∃ W0 : World, W0 = (w).alloc (.cells #[.int .i64 fd, .int .i64 th, .int .i64 sh, .int .i64 s.length] 48) := ⟨_, rfl⟩); (have gW0 : ∀ (j : Nat) (o : Obj), ([Obj.cells #[.int .i64 fd, .int .i64 th, .int .i64 sh, .int .i64 s.length] 48] : List Obj)[j]? = some o → W0.heap[w.heap.size + j]? = some o := by rw [hW0]; exact allocs_get w _); (have zW0 : W0.heap.size = w.heap.size + 1 := by rw [hW0]; exact allocs_size w [Obj.cells #[.int .i64 fd, .int .i64 th, .int .i64 sh, .int .i64 s.length] 48]); (have bW0 : Below w.heap.size w W0 := by rw [hW0]; exact allocs_below w [Obj.cells #[.int .i64 fd, .int .i64 th, .int .i64 sh, .int .i64 s.length] 48]); (rw [← hW0]); (clear hW0)
 clear gW0 zW0
 refine (HD.out W0 bW0).mono ?_
 rintro e w1 ⟨v, l, rfl, hS, hl, hb1⟩
 have bW1 := bW0.trans (hb1.mono bW0.size)
 have hll : l.length = ds.length := by have := congrArg List.length hl; rwa [List.length_map] at this
 have hRA : ∀ x ∈ l, ∀ g o, x.A = some ⟨g, o, none⟩ → g ≠ w1.heap.size := fun x hx g o e => by
  have := ((hS.P x hx).lt g (by unfold ShA.pv; rw [e]; rfl)).2
  omega
 have hlt1 := hS.lt
 obtain ⟨R, capR, rfl, hcR, hSS⟩ := hS.open
 have hR : ∀ g o, R = some ⟨g, o, none⟩ → g ≠ w1.heap.size := fun g o e => by
  have := (hlt1 g (by rw [e]; rfl)).2
  omega
 have hmk := makeB ds.length (by omega) w1
 rw [hll] at hcR ⊢
 have H0 := Lib.hid (show SbI w R l ds w1.heap.size ds.length 0 (w1.alloc (.cells (List.replicate ds.length nilS).toArray 22)) from
  ⟨⟨[], rfl, by simpa [baVals] using heap_alloc_new w1 (.cells (List.replicate ds.length nilS).toArray 22), by simp, by simp⟩, bW1.alloc bW1.size _, hSS.below ((Below.refl _ w1).alloc (Nat.le_refl _) _)⟩)
 have hbz := bW1.size
 have HX := Lib.hid (And.intro hl (And.intro hll (And.intro hR hRA)))
 clear hS hb1 bW0 bW1 hl hRA hR hlt1 hSS HD hcR hll
 go_wp2
 clear hmk
 go_loopw [34] (fun iv W => ∃ i : Nat, i ≤ ds.length ∧ iv = .int .i64 i ∧ SbI w R l ds w1.heap.size ds.length i W) (fun iv _ => ds.length - (intOf iv).toNat)
 case atStart => exact ⟨0, by omega, rfl, H0.out⟩
 case round =>
  clear H0
  obtain ⟨i, hi, rfl, hI⟩ := hrel
  have HI := Lib.hid hI
  by_cases hlD : i < ds.length
  ·have hlt' : (i : Int) < (ds.length : Int) := by omega
   have hlt : i < l.length := by rw [HX.out.2.1]; exact hlD
   obtain ⟨b, o, rfl, hb, c0, c1, c2, c3, c4⟩ := hI.S.1.share i hlt
   have hSx := hI.S.2 _ (List.getElem_mem hlt)
   have hxs : l[i].s = ds[i] := by
    have hl := HX.out.1
    subst hl
    simp
   have hck := HOK.out _ (List.getElem_mem hlD)
   have hCC := checkE_ok hck
   rw [← hxs] at hck hCC
   have hEn := recEncode l[i].s l[i].A l[i].cap
   rw [hxs] at hEn
   have HST := Lib.hid (fun W' hb x (hx : x.l = encR ds[i]) hxs hxc hxb => hI.step (W' := W') HX.out.2.2.1 HX.out.2.2.2 hbz hlD hlD hb x hx hxs hxc hxb)
   obtain ⟨rr, hrr⟩ : ∃ rr, encR ds[i] = rr := ⟨_, rfl⟩
   rw [hrr] at hEn HST
   rw [← hxs] at hEn
   clear hrr hxs
   have hp : l[i].s.pay.length ≤ 1073741824 := by rw [hCC.2.2.2.2.1]; have := cnt_le l[i].s.len; omega
   have HC := Lib.hid (fun W (hW : Below wr.heap.size wr W) => hEn W (HL.out W (hI.B.trans (hW.mono hI.B.size))) (hSx.below hW) hp hck)
   obtain ⟨bs, hbl, hO, _, _⟩ := hI.O
   have HO := Lib.hid (And.intro hbl hO)
   generalize l[i] = x at *
   unfold Sh.val Sh.cells at HC
   clear hI hSx hck hCC hEn hp hbl hO
   obtain ⟨⟨xf, xt, xi, xn, xp⟩, xA, xc⟩ := x
   simp only [] at c0 c1 c2 c3 c4 HC
   go_wp2_with fail
   (obtain ⟨W2, hW2⟩ : ∃ W0 : World, W0 = (wr).alloc (.cells #[.int .i64 xf, .int .i64 xt, .int .i64 xi, .int .i64 xn, .slice xA xp.length xc] 26) := ⟨_, rfl⟩); (have gW2 : ∀ (j : Nat) (o : Obj), ([Obj.cells #[.int .i64 xf, .int .i64 xt, .int .i64 xi, .int .i64 xn, .slice xA xp.length xc] 26] : List Obj)[j]? = some o → W2.heap[wr.heap.size + j]? = some o := by rw [hW2]; exact allocs_get wr _); (have zW2 : W2.heap.size = wr.heap.size + 1 := by rw [hW2]; exact allocs_size wr [Obj.cells #[.int .i64 xf, .int .i64 xt, .int .i64 xi, .int .i64 xn, .slice xA xp.length xc] 26]); (have bW2 : Below wr.heap.size wr W2 := by rw [hW2]; exact allocs_below wr [Obj.cells #[.int .i64 xf, .int .i64 xt, .int .i64 xi, .int .i64 xn, .slice xA xp.length xc] 26]); (rw [← hW2]); (clear hW2)
   clear gW2
   refine (HC.out W2 bW2).mono ?_
   rintro e w3 ⟨v, rfl, hv, hb3⟩
   have bW3 := bW2.trans (hb3.mono bW2.size)
   obtain ⟨Av, cv, rfl, hcv, hSv, hAv⟩ := hv.open
   have hO3 := blk_below HO.out.2 bW3 rfl
   have hcell : w3.cell? ⟨w1.heap.size, i, none⟩ = some nilS := row_cell hO3 i (by
    rw [List.getElem?_append_right (by rw [baVals_length, HO.out.1]; exact Nat.le_refl _), baVals_length, HO.out.1, Nat.sub_self, List.getElem?_replicate, if_pos (by omega)])
   have hfr := row_frozen hO3 i
   have hz1 : w1.heap.size < wr.heap.size := (Array.getElem?_eq_some_iff.1 HO.out.2).1
   have HR := Lib.hid (HST.out w3 bW3 ⟨Av, cv, rr⟩ rfl hSv hcv (fun g o e => by have := (hAv g o e).1; omega))
   unfold BA.val at HR
   simp only [] at HR
   clear hv hb3 bW2 bW3 hSv hAv hO3 HC HST HO c0 c1 c2 c3 c4 zW2
   go_wp2
   go_roundw
   case rel => exact ⟨i + 1, by omega, by go_num, HR.out⟩
   case measure => (first | (simp [intOf]; done) | (simp [intOf]; omega))
  ·obtain hid : i = ds.length := by omega
   have HD := Lib.hid hid
   clear hI hid
   have hge : ¬ ((i : Int) < (ds.length : Int)) := by have := HD.out; omega
   go_wp2
   go_ret2
   obtain ⟨bs, hbl, hO, hps, hm⟩ := HI.out.O
   rw [HD.out, Nat.sub_self, List.replicate_zero, List.append_nil] at hO
   rw [HD.out, List.take_length] at hm
   exact ⟨w1.heap.size, bs, by rw [hbl, HD.out]; rfl, ⟨row_sees hO, fun x hx => (hps x hx).1⟩, hm, HI.out.B⟩
end Go.Proofs.YtccgfladbibjbaaGreatDoor
namespace Go.Proofs.YtccgfladbibjbaaGreatDoor
open Go.RowKit Go.Shelf
attribute [local go_sem ↓] add_UU sub_UU mul_UU add_UL add_LU sub_UL sub_LU mul_UL neg_at not_at and_UU or_UU xor_UU andNot_UU and_UL or_LU shr_UL shl_UL shr_UN shl_UN shl_LN quo_UL rem_UL quo_UU rem_UU
attribute [local go_sem] wrap64_N wrapi_mod wrap8_U wrap32_U wrap64_B wrap32_B wrap8_D wrapi_B wrap64_UU eq_UU ne_UU eq_UL ne_UL lt_UU le_UU
attribute [local simp] putAgg_size
attribute [local go_sem ↓] loadVar_F loadVar_E loadVar_V loadVar_B32 storeVar_F storeVar_E storeVar_V storeVar_B32 box_F box_E box_V box_B32
attribute [local go_sem ↓ high] V4.cells_val FP.cells_val
attribute [local go_sem] run_loadF run_loadE run_loadV run_loadB32 run_storeF run_storeE run_storeV run_storeB32 run_boxA aggAt_drew aggAt_drewN aggAt_alloc_new aggAt_alloc_past aggAt_setCell_other aggAt_putAgg_other aggAt_putAgg_new putAgg_drew putAgg_size putAgg_alloc_new putAgg_alloc_past putAgg_cell_other putAgg_frozen_other V4.agg_arr FP.agg_arr V4.size_arr FP.size_arr V4.fits FP.fits fitsA_agg4 lt_2 ne_2 en_2 lt_3 ne_3 en_3 lt_4 ne_4 en_4 lt_5 ne_5 en_5 lt_6 ne_6 en_6
attribute [local go_sem] Oper.semAt_some
theorem sharesF (A : Option Addr) (n cap : Nat) (w : World) : Calls Tryz.prog 74 #[.slice A n cap] w fun e w' => e = .returned (.func (.func 102) #[] #[.pointer (some ⟨w.heap.size, 0, none⟩)]) ∧ w' = w.alloc (.cells #[.slice A n cap] 37) := by
 go_enter Tryz.func74, Tryz.ntmps74
 go_wp2
 go_ret
 exact ⟨rfl, rfl⟩
def VSh (bs : List BA) (B k : Nat) (x : Array Value) (W : World) : Prop := ∃ X : ShA, x = #[X.s.val X.A X.cap, .int .i64 0] ∧ (∃ h : k < bs.length, X.s = recS bs[k].l) ∧ OwnE W B X.pv X.s.pay
theorem Laid.keeps {w w' : World} (h : Laid w) (hb : ∀ k, k < 3 → w'.heap[k]? = w.heap[k]?) : Laid w' :=
 ⟨fun k hk => (World.cell?_of_block (hb 0 (by decide))).trans (h.fields k hk), fun k hk => (World.cell?_of_block (hb 1 (by decide))).trans (h.start k hk), fun k hk => (World.cell?_of_block (hb 2 (by decide))).trans (h.consts k hk)⟩
theorem SeesR.keeps {p : Nat → Prop} {s : Bool} {B z : Nat} {W W' : World} {R : Option Addr} {bs : List BA} (hs : SeesR W R bs) (h : Keeps p s B W W') (hp : ∀ b, b < z → p b) (hR : ∀ b o, R = some ⟨b, o, none⟩ → b < z) (hx : ∀ x ∈ bs, ∀ b o, x.A = some ⟨b, o, none⟩ → b < z) : SeesR W' R bs :=
 ⟨hs.1.keeps h (fun b o e _ => hp b (hR b o e)), fun x hm => ⟨(hs.2 x hm).1.keeps h (fun b o e _ => hp b (hx x hm b o e)), (hs.2 x hm).2⟩⟩
set_option maxRecDepth 100000 in
set_option maxHeartbeats 1000000 in
theorem shares1 (m : Nat) (R : Option Addr) (cap : Nat) (bs : List BA) (hn : bs.length ≤ 1048576) (hlen : ∀ x ∈ bs, x.l.length ≤ 1073741824) (hok : ∀ x ∈ bs, recE x.l = 0) (Bx : Nat) (w : World) (hBx : w.heap[Bx]? = some (.cells #[.slice R bs.length cap] 37 (0, 0))) (L : Laid w) (hS : SeesR w R bs) (z : Nat) (hz : 3 ≤ z) (hR : ∀ b o, R = some ⟨b, o, none⟩ → b < z) (hA : ∀ x ∈ bs, ∀ b o, x.A = some ⟨b, o, none⟩ → b < z) (p : Nat → Prop) (hp : ∀ b, b < z → p b) (hpx : p Bx) (s : Bool) :
  GivesV m 102 #[.pointer (some ⟨Bx, 0, none⟩)] p s (VSh bs w.heap.size) bs.length w := by
 intro lo J W hW hJ hY h0
 have hBx' := (hW.block Bx (Array.getElem?_eq_some_iff.1 hBx).1).trans hBx
 have hlt0 : Bx < W.heap.size := (Array.getElem?_eq_some_iff.1 hBx').1
 have HK := Lib.hid (fun V (hV : Keeps p s W.heap.size W V) => show V.heap[Bx]? = some (.cells #[.slice R bs.length cap] 37 (0, 0)) ∧ SeesR V R bs ∧ Laid V from
  ⟨(hV.2 Bx hlt0 (.inl hpx)).trans hBx', (hS.below hW).keeps hV hp hR hA, (L.to hW).keeps fun k hk => hV.2 k (by have := (L.to hW).size; omega) (.inl (hp k (by omega)))⟩)
 have HQ := Lib.hid (And.intro hlen hok)
 have hzW := hW.size
 clear hS L hW hlen hok hR hA
 refine callsIn_of_wp Tryz.func102 rfl trivial ?_ rfl
 simp only [Tryz.ntmps102, List.size_toArray, List.length_cons, List.length_nil, Nat.reduceAdd, Nat.reduceSub, Array.replicate_succ, Array.replicate_zero, List.push_toArray, List.append_toArray, List.nil_append, List.cons_append]
 have c0 := cell_of_block hBx'
 gi_wp2
 clear c0
 gi_loopw [7] (fun i wr => ∃ k : Nat, k ≤ bs.length ∧ i = .int .i64 (k : Int) ∧ J k wr ∧ Keeps p s W.heap.size W wr) (fun i _ => bs.length - (intOf i).toNat)
 case atStart => exact ⟨0, Nat.zero_le _, rfl, h0, Keeps.refl _ _ _ _⟩
 case round =>
  obtain ⟨k, hk, rfl, hJs, hK⟩ := hrel
  by_cases hlt : k < bs.length
  ·have hm1 : (k : Int) < (bs.length : Int) := by omega
   obtain ⟨hB, hSR, hL⟩ := HK.out wr hK
   obtain ⟨b, o, rfl, hbz, hc, hsx, hcx⟩ := hSR.at k hlt
   have hm := List.getElem_mem hlt
   have hD := recDecode bs[k].A bs[k].cap bs[k].l (HQ.out.1 _ hm) hcx wr hL hsx
   rw [HQ.out.2 _ hm] at hD
   have hVx : ∀ (X : ShA) (V : World), X.s = recS bs[k].l → OwnE V w.heap.size X.pv X.s.pay → VSh bs w.heap.size k #[X.s.val X.A X.cap, .int .i64 0] V := fun X V h1 h2 => ⟨X, rfl, ⟨hlt, h1⟩, h2⟩
   have HDD := Lib.hid hD
   have HVX := Lib.hid hVx
   generalize bs[k] = x at *
   unfold BA.val at hc
   have hzr := hK.1
   clear hB hSR hL hsx hcx hm hD hVx
   gi_wp2_with fail
   refine wideCall HDD.out ?_
   rintro e W3 ⟨X, rfl, hX, hO, hb3⟩
   have hJ3 : J k W3 := hJ k wr W3 none hJs ⟨hb3.os, hb3.tape, hb3.output, hb3.size, fun j hj _ => hb3.block j hj⟩ (by simp)
   obtain ⟨fn, tmps, assign, body, hy, hR⟩ := hY k _ W3 hlt (HVX.out X W3 hX (hO.base_le (by omega))) hJ3
   have HK3 := Lib.hid (hK.trans (.of_below hb3))
   clear hX hO hb3 hc
   gi_wp2
   refine ⟨fun h => (by simp [Fence.wide] at h), hR.mono ?_⟩
   rintro e W4 ⟨rfl, hJ4, hk4⟩
   gi_wp2
   go_roundw
   case rel => exact ⟨k + 1, by omega, by go_num, hJ4, HK3.out.trans hk4⟩
   case measure => (first | (simp [intOf]; done) | (simp [intOf]; omega))
  ·obtain rfl : k = bs.length := by omega
   gi_wp2
   go_end0
   exact ⟨⟨_, rfl⟩, hJs⟩
end Go.Proofs.YtccgfladbibjbaaGreatDoor
