/- A range over a function whose rounds all go on: the iterator's word (Gives) and the loop's law (rangeAll). -/
import Derived.Test.YtccgfladbibjbaaGreatDoorProg
import Derived.RangeFuncNested
import Derived.RangeFuncBound
import Derived.RangeFuncCalls
import Derived.RangeFuncLeaves
import Derived.RangeFuncBox
import Derived.Shelf.Abstract
import Derived.Shelf.RegionOpen
import Derived.WalkKit
import Derived.OwnWalkIn
import Derived.TacticsInMore
import Derived.LoopNIn
import Derived.LoopIn
import Derived.Outline
import Derived.Test.YtccgfladbibjbaaGreatDoorKG19
namespace Go.Proofs.YtccgfladbibjbaaGreatDoor
open Go.RowKit Go.Shelf
def Keeps (p : Nat → Prop) (s : Bool) (B : Nat) (W W' : World) : Prop := W.heap.size ≤ W'.heap.size ∧ ∀ k, k < W.heap.size → (p k ∨ (s = true ∧ B ≤ k)) → W'.heap[k]? = W.heap[k]?
theorem Keeps.refl (p : Nat → Prop) (s : Bool) (B : Nat) (W : World) : Keeps p s B W W := ⟨Nat.le_refl _, fun _ _ _ => rfl⟩
theorem Keeps.trans {p : Nat → Prop} {s : Bool} {B : Nat} {X Y Z : World} (h : Keeps p s B X Y) (k : Keeps p s B Y Z) : Keeps p s B X Z :=
 ⟨Nat.le_trans h.1 k.1, fun j hj hp => (k.2 j (Nat.lt_of_lt_of_le hj h.1) hp).trans (h.2 j hj hp)⟩
theorem Keeps.of_below {p : Nat → Prop} {s : Bool} {B : Nat} {W W' : World} (h : Below W.heap.size W W') : Keeps p s B W W' := ⟨h.size, fun j hj _ => h.block j hj⟩
theorem Keeps.alloc (p : Nat → Prop) (s : Bool) (B : Nat) (W : World) (o : Obj) : Keeps p s B W (W.alloc o) := .of_below ((Below.refl _ W).alloc (Nat.le_refl _) o)
theorem Keeps.drew (p : Nat → Prop) (s : Bool) (B : Nat) (W : World) : Keeps p s B W W.drew := .of_below (Below.refl _ W).drew
theorem Keeps.setCell {p : Nat → Prop} {s : Bool} {B : Nat} (W : World) (a : Addr) (v : Value) (hp : ¬ p a.block) (hB : a.block < B) : Keeps p s B W (W.setCell a v) :=
 ⟨by simp [World.setCell], fun j _ h => Below.heap_setCell W a v j (fun e => by subst e; rcases h with h | ⟨_, h⟩; exact hp h; omega)⟩
theorem Keeps.other {p : Nat → Prop} {s : Bool} {B : Nat} {W W' : World} {b : Nat} (hz : W.heap.size ≤ W'.heap.size) (h : ∀ k, k ≠ b → k < W.heap.size → W'.heap[k]? = W.heap[k]?) (hp : ¬ p b) (hB : b < B) : Keeps p s B W W' :=
 ⟨hz, fun j hj hk => h j (fun e => by subst e; rcases hk with h | ⟨_, h⟩; exact hp h; omega) hj⟩
theorem Keeps.sub {p p' : Nat → Prop} {s s' : Bool} {B B' : Nat} {W W' : World} (h : Keeps p s B W W') (hp : ∀ k, p' k → p k ∨ (s = true ∧ B ≤ k)) (hs : s' = true → s = true ∧ B ≤ B') : Keeps p' s' B' W W' :=
 ⟨h.1, fun j hj hk => h.2 j hj (by
  rcases hk with hk | ⟨hk, hb⟩
  ·exact hp j hk
  ·exact .inr ⟨(hs hk).1, Nat.le_trans (hs hk).2 hb⟩)⟩
theorem Keeps.putObj {p : Nat → Prop} {s : Bool} {B l : Nat} {W : World} (hp : ¬ p l) (hB : l < B) (o : Obj) : Keeps p s B W (W.putObj l o) :=
 .other (by simp) (fun _ hk _ => World.putObj_heap_other hk) hp hB
theorem Keeps.both {p : Nat → Prop} {B : Nat} {W W' : World} (h : Keeps p true B W W') : KeepsFrom B W W' ∧ Keeps p true (B + 2) W W' :=
 ⟨⟨h.1, fun j _ hB hj _ => (h.2 j (Array.getElem?_eq_some_iff.1 hj).1 (.inr ⟨rfl, hB⟩)).trans hj⟩, h.sub (fun _ hk => .inl hk) (fun _ => ⟨rfl, by omega⟩)⟩
def Gives (n : Nat) (g : Nat) (lb : Array Value) (p : Nat → Prop) (s : Bool) (encs : List (Array Value)) (w : World) : Prop :=
 ∀ (l : Nat) (J : Nat → World → Prop) (W : World), Below w.heap.size w W → OwnFrom W.heap.size J →
  (∀ (k : Nat) (x : Array Value) (W1 : World), encs[k]? = some x → J k W1 → YieldAt Fence.wide (n - 1) Tryz.prog l x W1 fun e W' => e = .returned (.bool true) ∧ J (k + 1) W' ∧ Keeps p s W.heap.size W1 W') →
  J 0 W → CallsIn Fence.wide n Tryz.prog g (#[.func (.yield l) #[] #[]] ++ lb) W fun e W' => (∃ v, e = .returned v) ∧ J encs.length W'
theorem Gives.later {n g : Nat} {lb : Array Value} {p : Nat → Prop} {s : Bool} {encs : List (Array Value)} {w w' : World} (h : Gives n g lb p s encs w) (hb : Below w.heap.size w w') : Gives n g lb p s encs w' :=
 fun l J W hW hJ hY h0 => h l J W (hb.trans (hW.mono hb.size)) hJ hY h0
theorem OwnFrom.later {β : Type} {B B' : Nat} {I : β → World → Prop} (h : OwnFrom B I) (hB : B ≤ B') : OwnFrom B' I :=
 fun s W W' row hs hg hr => h s W W' row hs hg fun r e => ⟨Nat.le_trans hB (hr r e).1, (hr r e).2⟩
theorem own_block (B b : Nat) (o : Obj) (hb : b < B) {β : Type} : OwnFrom B (fun (_ : β) W => W.heap[b]? = some o) :=
 fun _ _ _ _ hs hg hr => (hg.block b (Array.getElem?_eq_some_iff.1 hs).1 (fun e => by have := (hr b e.symm).1; omega)).trans hs
set_option maxHeartbeats 1000000 in
theorem rangeAll {g : Operand} {ps : Array Tmp} {assign body : Code} {Q : Exit → Act → World → Prop} {a : Act} {w w0 : World} {n gf : Nat} {p : Nat → Prop} {s : Bool} {lb : Array Value} {encs : List (Array Value)}
  (h1 : 1 ≤ n) (hg : a.eval g = .func (.func gf) #[] lb) (eg : ∀ args w, (callFunc gf args).run Tryz.prog w = .ok (.enter gf args) w)
  (hseq : Gives (n - 1) gf lb p s encs w0) (hb0 : Below w0.heap.size w0 w) (hp : ∀ k, p k → k < w.heap.size) (hps : ∀ (k : Nat) (x : Array Value), encs[k]? = some x → x.size = ps.size)
  (I : Nat → World → Prop) (hI : OwnFrom w.heap.size I) (h0 : I 0 w) (M : Nat → Act → World → Prop) (hM : ∀ a', OwnFrom w.heap.size (fun k W => M k a' W))
  (hassign : ∀ (l k : Nat) (x : Array Value) (W : World), encs[k]? = some x → I k W → assign.wpIn (Fence.wide.inRound l) (n - 1 - 1) Tryz.prog (Exit.then (fun a₁ W₁ => KeepsFrom w.heap.size W W₁ ∧ Keeps p s (w.heap.size + 2) W W₁ ∧ M k a₁ W₁) (fun _ _ _ => False))
   { tmps := (ps.zip x).foldl (fun t (p, v) => t.setIfInBounds p v) a.tmps, defers := [] } W)
  (hbody : ∀ (l k : Nat) (x : Array Value) (a₁ : Act) (W : World), encs[k]? = some x → M k a₁ W → body.wpIn (Fence.wide.inRound l) (n - 1 - 1) Tryz.prog (Exit.then (fun _ W' => KeepsFrom w.heap.size W W' ∧ Keeps p s (w.heap.size + 2) W W' ∧ I (k + 1) W') (fun _ _ _ => False)) a₁ W)
  (hdone : ∀ D W, w.heap.size ≤ D → I encs.length W → W.heap[D]? = some (.deferred (some [])) → Q .normal { a with defers := { target := .collected D, args := #[] } :: a.defers } W) :
  (Code.rangeFunc g ps assign body).wpIn Fence.wide n Tryz.prog Q a w := by
 refine wpIn_rangeFunc fun fn hfn => ?_
 obtain ⟨R, hR⟩ : ∃ R : LoopState → Loop, R = fun st => { state := st, pending := none, fn, tmps := a.tmps, params := ps, assign, body, defers := w.heap.size } := ⟨_, rfl⟩
 obtain ⟨V, hV⟩ : ∃ V : World, V = (w.alloc (.deferred (some []))).alloc (.loop (R .ready)) := ⟨_, rfl⟩
 have hsz : V.heap.size = w.heap.size + 2 := by rw [hV]; simp
 have hD : V.heap[w.heap.size]? = some (.deferred (some [])) := by
  rw [hV]; exact (Below.heap_alloc _ _ _ (by simp)).trans (World.alloc_heap_new w _)
 have hL : V.heap[w.heap.size + 1]? = some (.loop (R .ready)) := by
  rw [hV]
  have := World.alloc_heap_new (w.alloc (.deferred (some []))) (.loop (R .ready))
  rwa [World.size_alloc] at this
 have hbV : Below w.heap.size w V := by rw [hV]; exact ((Below.refl _ w).alloc (Nat.le_refl _) _).alloc (by simp) _
 refine ⟨w.heap.size + 1, [{ target := .collected w.heap.size, args := #[] }], V, { target := .fn (.func gf) lb, args := #[.func (.yield (w.heap.size + 1)) #[] #[]] }, V, gf, #[.func (.yield (w.heap.size + 1)) #[] #[]] ++ lb, V,
  by rw [hV, hR]; exact run_enterLoop_outer _ _ _ _ _, by simp only [resolve, hg]; simp [go_sem], fun _ _ => trivial, by simp [invoke, go_sem, eg], fun _ => h1, ?_⟩
 -- what is known between two rounds
 refine (hseq (w.heap.size + 1) (fun k W => I k W ∧ W.heap[w.heap.size + 1]? = some (.loop (R .ready)) ∧ W.heap[w.heap.size]? = some (.deferred (some []))) V (hb0.trans (hbV.mono hb0.size))
  (OwnFrom.and (OwnFrom.later hI (by omega)) (OwnFrom.and (own_block _ _ _ (by omega)) (own_block _ _ _ (by omega)))) ?_ ⟨?_, hL, hD⟩).mono ?_
 ·rintro k x W hx ⟨hi, hl, hd⟩
  have hy := run_yield (P := Tryz.prog) (args := x) hl (by rw [hR]; exact hps k x hx)
  refine ⟨_, _, _, _, hy, ?_⟩
  rw [hR]
  refine roundIn_of_wpIn hfn ?_
  refine wpIn_mono (hassign (w.heap.size + 1) k x W hx hi) ?_
  rintro e a₁ W₁ hp
  cases e with
  | normal =>
   obtain ⟨hk, hb, hm⟩ := hp
   have hl₁ := hk.same _ _ (by omega) hl rfl
   have hd₁ := hk.same _ _ (Nat.le_refl _) hd rfl
   have hz₁ := (Array.getElem?_eq_some_iff.1 hl₁).1
   obtain ⟨W₂, hW₂⟩ : ∃ W₂, W₂ = W₁.putObj (w.heap.size + 1) (.loop (R .busy)) := ⟨_, rfl⟩
   have hbr := run_beginRound (P := Tryz.prog) hl₁ (by rw [hR])
   refine ⟨W₂, by rw [hbr, hW₂, hR], ?_⟩
   have hl₂ : W₂.heap[w.heap.size + 1]? = some (.loop (R .busy)) := by rw [hW₂]; exact World.putObj_heap_same hz₁
   have hd₂ : W₂.heap[w.heap.size]? = some (.deferred (some [])) := by rw [hW₂]; exact (World.putObj_heap_other (by omega)).trans hd₁
   have hb₂ : Keeps p s (w.heap.size + 2) W₁ W₂ := by rw [hW₂]; exact .putObj (fun h => by have := hp _ h; omega) (by omega) _
   have hm₂ : M k a₁ W₂ := by rw [hW₂]; exact (hM a₁).putObj _ hm (by omega) hl₁ rfl
   refine wpIn_mono (hbody (w.heap.size + 1) k x a₁ W₂ hx hm₂) ?_
   rintro e a₃ W₃ hp
   cases e with
   | normal =>
    obtain ⟨hk₃, hb₃, hi₃⟩ := hp
    have hl₃ := hk₃.same _ _ (by omega) hl₂ rfl
    have hd₃ := hk₃.same _ _ (Nat.le_refl _) hd₂ rfl
    have her := run_endRound (P := Tryz.prog) none hl₃
    refine ⟨_, _, her, rfl, ⟨hI.putObj _ hi₃ (by omega) hl₃ rfl, ?_, ?_⟩, ?_⟩
    ·rw [World.putObj_heap_same (Array.getElem?_eq_some_iff.1 hl₃).1, hR]; rfl
    ·exact (World.putObj_heap_other (by omega)).trans hd₃
    ·rw [hsz]; exact hb.trans (hb₂.trans (hb₃.trans (.putObj (fun h => by have := hp _ h; omega) (by omega) _)))
   | _ => exact hp.elim
  | _ => exact hp.elim
 ·rw [hV]; exact hI.alloc _ (hI.alloc _ h0)
 ·rintro e W ⟨⟨v, rfl⟩, hi, hl, hd⟩
  have hel := run_endLoop (P := Tryz.prog) hl (by rw [hR]; simp)
  refine ⟨none, _, by rw [hel, hR], ?_⟩
  exact hdone _ _ (Nat.le_refl _) (hI.putObj _ hi (by omega) hl rfl) ((World.putObj_heap_other (by omega)).trans hd)
end Go.Proofs.YtccgfladbibjbaaGreatDoor
namespace Go.Proofs.YtccgfladbibjbaaGreatDoor
open Go.RowKit Go.Shelf
attribute [local go_sem ↓] add_UU sub_UU mul_UU add_UL add_LU sub_UL sub_LU mul_UL neg_at not_at and_UU or_UU xor_UU andNot_UU and_UL or_LU shr_UL shl_UL shr_UN shl_UN shl_LN quo_UL rem_UL quo_UU rem_UU
attribute [local go_sem] wrap64_N wrapi_mod wrap8_U wrap32_U wrap64_B wrap32_B wrap8_D wrapi_B wrap64_UU eq_UU ne_UU eq_UL ne_UL lt_UU le_UU
attribute [local simp] putAgg_size
attribute [local go_sem ↓] loadVar_F loadVar_E loadVar_V loadVar_B32 storeVar_F storeVar_E storeVar_V storeVar_B32 box_F box_E box_V box_B32
attribute [local go_sem ↓ high] V4.cells_val FP.cells_val
attribute [local go_sem] run_loadF run_loadE run_loadV run_loadB32 run_storeF run_storeE run_storeV run_storeB32 run_boxA aggAt_drew aggAt_drewN aggAt_alloc_new aggAt_alloc_past aggAt_setCell_other aggAt_putAgg_other aggAt_putAgg_new putAgg_drew putAgg_size putAgg_alloc_new putAgg_alloc_past putAgg_cell_other putAgg_frozen_other V4.agg_arr FP.agg_arr V4.size_arr FP.size_arr V4.fits FP.fits fitsA_agg4 lt_2 ne_2 en_2 lt_3 ne_3 en_3 lt_4 ne_4 en_4 lt_5 ne_5 en_5 lt_6 ne_6 en_6
attribute [local go_sem] Oper.semAt_some
def encP (l : List (Int × V4)) : List (Array Value) := l.map fun q => #[.int .i64 q.1, q.2.val]
theorem encP_length (l : List (Int × V4)) : (encP l).length = l.length := List.length_map ..
theorem encP_get {l : List (Int × V4)} {k : Nat} {x : Array Value} (h : (encP l)[k]? = some x) : ∃ q, l[k]? = some q ∧ x = #[.int .i64 q.1, q.2.val] := by
 unfold encP at h
 rw [List.getElem?_map] at h
 cases hq : l[k]? with
 | none => rw [hq] at h; cases h
 | some q => rw [hq] at h; exact ⟨q, rfl, (Option.some.inj h).symm⟩
def fwd (l : List V4) : List (Int × V4) := (List.range l.length).map fun k : Nat => ((k : Int), l[k]?.getD V4.zero)
def bwd (l : List V4) : List (Int × V4) := (List.range l.length).map fun k : Nat => (((l.length - 1 - k : Nat) : Int), l[l.length - 1 - k]?.getD V4.zero)
theorem fwd_length (l : List V4) : (fwd l).length = l.length := by simp [fwd]
theorem bwd_length (l : List V4) : (bwd l).length = l.length := by simp [bwd]
theorem fwd_get (l : List V4) (k : Nat) (h : k < l.length) : (fwd l)[k]? = some ((k : Int), l[k]) := by
 unfold fwd
 rw [List.getElem?_map, List.getElem?_range h, Option.map_some, List.getElem?_eq_getElem h, Option.getD_some]
theorem bwd_get (l : List V4) (k m : Nat) (h : k + m + 1 = l.length) : (bwd l)[k]? = some ((m : Int), l[m]) := by
 unfold bwd
 rw [List.getElem?_map, List.getElem?_range (by omega), Option.map_some, show l.length - 1 - k = m from by omega, List.getElem?_eq_getElem (by omega), Option.getD_some]
theorem Keeps.cell {p : Nat → Prop} {s : Bool} {B : Nat} {W W' : World} (h : Keeps p s B W W') {b o : Nat} {v : Value} (hc : W.cell? ⟨b, o, none⟩ = some v) (hp : p b) : W'.cell? ⟨b, o, none⟩ = some v :=
 (World.cell?_of_block (h.2 b (World.block_lt_of_cell? W _ hc) (.inl hp))).trans hc
theorem Sees.keeps {p : Nat → Prop} {s : Bool} {B : Nat} {W W' : World} {A : Option Addr} {xs : List Value} (hs : Sees W A xs) (h : Keeps p s B W W') (hp : ∀ b o, A = some ⟨b, o, none⟩ → 0 < xs.length → p b) : Sees W' A xs := by
 intro hx
 obtain ⟨b, o, rfl, hc⟩ := hs hx
 have hlt := Sees.lt hs hx
 exact ⟨b, o, rfl, fun j hj => (World.cell?_of_block (h.2 b hlt (.inl (hp b o rfl hx)))).trans (hc j hj)⟩
theorem Keeps.putAgg {p : Nat → Prop} {s : Bool} {B : Nat} (W : World) (b o : Nat) (cs : Array Value) (hp : ¬ p b) (hB : b < B) : Keeps p s B W (putAgg W b o cs) :=
 .other (Nat.le_of_eq (putAgg_size W b o cs).symm) (fun k hk _ => putAgg_block W b o cs k hk) hp hB
theorem YieldAt.any {m m' : Nat} {P : Program} {l : Nat} {args : Array Value} {W : World} {R : Ending → World → Prop} (h : YieldAt Fence.wide m P l args W R) : YieldAt Fence.wide m' P l args W R := by
 obtain ⟨fn, tmps, assign, body, hy, hF, hR⟩ := h
 exact ⟨fn, tmps, assign, body, hy, hF, fun c cs _ => hR c cs (room_wide _)⟩
theorem RoundIn.inRound {m m' l' : Nat} {P : Program} {l : Nat} {f : FuncId} {tmps : Array Value} {assign body : Code} {W : World} {R : Ending → World → Prop} (h : RoundIn Fence.wide m P l f tmps assign body W R) : RoundIn (Fence.wide.inRound l') m' P l f tmps assign body W R :=
 ⟨h.1, fun c cs _ => h.2 c cs (room_wide _)⟩
theorem roundCall {lo m : Nat} {P : Program} {f : FuncId} {args : Array Value} {W : World} {R R' : Ending → World → Prop} (h : Calls P f args W R) (hr : ∀ e w', R e w' → R' e w') :
  Fence.wide.fn f ∧ (Fence.wide.depth.isSome = true → 1 ≤ m) ∧ CallsIn (Fence.wide.inRound lo) (m - 1) P f args W R' :=
 ⟨trivial, fun h => (by simp [Fence.wide] at h), (CallsIn.inRound lo (callsIn_wide.2 h)).mono hr⟩
theorem wideCall {m : Nat} {P : Program} {f : FuncId} {args : Array Value} {W : World} {R R' : Ending → World → Prop} (h : Calls P f args W R) (hr : ∀ e w', R e w' → R' e w') :
  Fence.wide.fn f ∧ (Fence.wide.depth.isSome = true → 1 ≤ m) ∧ CallsIn Fence.wide (m - 1) P f args W R' :=
 ⟨trivial, fun h => (by simp [Fence.wide] at h), (callsIn_wide.2 h).mono hr⟩
theorem roundCall2 {lo m : Nat} {P : Program} {f : FuncId} {args : Array Value} {W : World} {R R' : Ending → World → Prop} (h : Calls P f args W R) (hr : ∀ e w', R e w' → R' e w') :
  Fence.wide.fn f ∧ CallsIn (Fence.wide.inRound lo) m P f args W R' := ⟨trivial, (CallsIn.inRound lo (callsIn_wide.2 h)).mono hr⟩
theorem wideCall2 {m : Nat} {P : Program} {f : FuncId} {args : Array Value} {W : World} {R R' : Ending → World → Prop} (h : Calls P f args W R) (hr : ∀ e w', R e w' → R' e w') :
  Fence.wide.fn f ∧ CallsIn Fence.wide m P f args W R' := ⟨trivial, (callsIn_wide.2 h).mono hr⟩
theorem noteNil (a b c : Int) (w : World) : Calls Tryz.prog 47 #[.pointer none, .int .i64 a, .int .i64 b, .int .i64 c] w fun e w' => e = .returned (.tuple #[]) ∧ w' = w := by
 go_enter Tryz.func47, Tryz.ntmps47
 go_wp2
 refine bodyPost_end (results_none rfl _ _ _) rfl ?_
 exact ⟨rfl, rfl⟩
theorem backward (A : Option Addr) (n cap : Nat) (w : World) : Calls Tryz.prog 110 #[.slice A n cap] w fun e w' => e = .returned (.func (.func 132) #[] #[.pointer (some ⟨w.heap.size, 0, none⟩)]) ∧ w' = w.alloc (.cells #[.slice A n cap] 24) := by
 go_enter Tryz.func110, Tryz.ntmps110
 go_wp2
 go_ret
 exact ⟨rfl, rfl⟩
theorem all_ (A : Option Addr) (n cap : Nat) (w : World) : Calls Tryz.prog 134 #[.slice A n cap] w fun e w' => e = .returned (.func (.func 144) #[] #[.pointer (some ⟨w.heap.size, 0, none⟩)]) ∧ w' = w.alloc (.cells #[.slice A n cap] 24) := by
 go_enter Tryz.func134, Tryz.ntmps134
 go_wp2
 go_ret
 exact ⟨rfl, rfl⟩
set_option maxRecDepth 100000 in
set_option maxHeartbeats 1000000 in
theorem backward1 (n : Nat) (A : Option Addr) (cap : Nat) (l : List V4) (hlen : l.length ≤ 1099511627776) (Bs : Nat) (w : World) (hBs : w.cell? ⟨Bs, 0, none⟩ = some (.slice A l.length cap)) (hS : Sees w A (eVals l)) (p : Nat → Prop) (hp : p Bs) (hpA : ∀ b o, A = some ⟨b, o, none⟩ → 0 < l.length → p b) (s : Bool) :
  Gives n 132 #[.pointer (some ⟨Bs, 0, none⟩)] p s (encP (bwd l)) w := by
 intro lo J W hW hJ hY h0
 have hBs' := (hW.cell (p := ⟨Bs, 0, none⟩) (World.block_lt_of_cell? w _ hBs)).trans hBs
 have hS' := hS.below hW
 have hpA' : ∀ b o, A = some ⟨b, o, none⟩ → 0 < (eVals l).length → p b := fun b o e h => hpA b o e (by rw [eVals_length] at h; omega)
 have HW := Lib.hid (And.intro hBs' hS')
 clear hBs hS hW hBs' hS'
 rw [encP_length, bwd_length]
 refine callsIn_of_wp Tryz.func132 rfl trivial ?_ rfl
 simp only [Tryz.ntmps132, List.size_toArray, List.length_cons, List.length_nil, Nat.reduceAdd, Nat.reduceSub, Array.replicate_succ, Array.replicate_zero, List.push_toArray, List.append_toArray, List.nil_append, List.cons_append]
 have hc := HW.out.1
 have hw1 : IntKind.i64.wrap ((l.length : Int) - 1) = (l.length : Int) - 1 := by rw [IntKind.wrap_i64]; omega
 gi_wp2
 clear hc
 gi_loopw [3] (fun i wr => ∃ k : Nat, k ≤ l.length ∧ i = .int .i64 ((l.length : Int) - 1 - k) ∧ J k wr ∧ Keeps p s W.heap.size W wr) (fun i _ => (intOf i + 1).toNat)
 case atStart => exact ⟨0, Nat.zero_le _, by simp, h0, Keeps.refl _ _ _ _⟩
 case round =>
  obtain ⟨k, hk, rfl, hJs, hK⟩ := hrel
  by_cases hlt : k < l.length
  ·obtain ⟨m, hm⟩ : ∃ m, k + m + 1 = l.length := ⟨l.length - 1 - k, by omega⟩
   have he : (l.length : Int) - 1 - k = (m : Int) := by omega
   rw [he]
   have hg := bwd_get l k m hm
   have hml : m < l.length := by omega
   obtain ⟨fn, tmps, assign, body, hy, hR⟩ := hY k _ wr (show (encP (bwd l))[k]? = some _ from by unfold encP; rw [List.getElem?_map, hg]; rfl) hJs
   have hc := hK.cell HW.out.1 hp
   obtain ⟨b, o, rfl, hbl, hld⟩ := (HW.out.2.keeps hK hpA').loadE m hml
   have hm1 : (m : Int) < (l.length : Int) := by omega
   have hm0 : (m : Int) ≥ 0 := by omega
   have hw2 : IntKind.i64.wrap ((m : Int) - 1) = (m : Int) - 1 := by rw [IntKind.wrap_i64]; omega
   gi_wp2
   refine ⟨fun h => (by simp [Fence.wide] at h), hR.mono ?_⟩
   rintro e W3 ⟨rfl, hJ3, hk3⟩
   gi_wp2
   go_roundw
   case rel => exact ⟨k + 1, by omega, by congr 1 <;> omega, hJ3, hK.trans hk3⟩
   case measure => simp [intOf] <;> omega
  ·obtain rfl : k = l.length := by omega
   have hn0 : ¬ ((l.length : Int) - 1 - (l.length : Int) ≥ 0) := by omega
   gi_wp2
   go_end0
   exact ⟨⟨_, rfl⟩, hJs⟩
set_option maxRecDepth 100000 in
set_option maxHeartbeats 1000000 in
theorem all1 (n : Nat) (A : Option Addr) (cap : Nat) (l : List V4) (hlen : l.length ≤ 1099511627776) (Bs : Nat) (w : World) (hBs : w.cell? ⟨Bs, 0, none⟩ = some (.slice A l.length cap)) (hS : Sees w A (eVals l)) (p : Nat → Prop) (hpA : ∀ b o, A = some ⟨b, o, none⟩ → 0 < l.length → p b) (s : Bool) :
  Gives n 144 #[.pointer (some ⟨Bs, 0, none⟩)] p s (encP (fwd l)) w := by
 intro lo J W hW hJ hY h0
 have hBs' := (hW.cell (p := ⟨Bs, 0, none⟩) (World.block_lt_of_cell? w _ hBs)).trans hBs
 have hS' := hS.below hW
 have hpA' : ∀ b o, A = some ⟨b, o, none⟩ → 0 < (eVals l).length → p b := fun b o e h => hpA b o e (by rw [eVals_length] at h; omega)
 have HW := Lib.hid (And.intro hBs' hS')
 clear hBs hS hW hBs' hS'
 rw [encP_length, fwd_length]
 refine callsIn_of_wp Tryz.func144 rfl trivial ?_ rfl
 simp only [Tryz.ntmps144, List.size_toArray, List.length_cons, List.length_nil, Nat.reduceAdd, Nat.reduceSub, Array.replicate_succ, Array.replicate_zero, List.push_toArray, List.append_toArray, List.nil_append, List.cons_append]
 have hc := HW.out.1
 gi_wp2
 clear hc
 gi_loopw [7] (fun i wr => ∃ k : Nat, k ≤ l.length ∧ i = .int .i64 (k : Int) ∧ J k wr ∧ Keeps p s W.heap.size W wr) (fun i _ => l.length - (intOf i).toNat)
 case atStart => exact ⟨0, Nat.zero_le _, rfl, h0, Keeps.refl _ _ _ _⟩
 case round =>
  obtain ⟨k, hk, rfl, hJs, hK⟩ := hrel
  by_cases hlt : k < l.length
  ·have hg := fwd_get l k hlt
   have hm1 : (k : Int) < (l.length : Int) := by omega
   obtain ⟨b, o, rfl, hbl, hld⟩ := (HW.out.2.keeps hK hpA').loadE k hlt
   have hal := aggAt_alloc_at wr #[.int .u64 0, .int .u64 0, .int .u64 0, .int .u64 0] 50 4 _ rfl rfl
   have hJa : J k (wr.alloc (.cells (l[k]).arr 50)) := hJ.alloc _ hJs
   obtain ⟨fn, tmps, assign, body, hy, hR⟩ := hY k _ _ (show (encP (fwd l))[k]? = some _ from by unfold encP; rw [List.getElem?_map, hg]; rfl) hJa
   have hka : Keeps p s W.heap.size wr (wr.alloc (.cells (l[k]).arr 50)) := Keeps.alloc _ _ _ _ _
   clear hal
   gi_wp2
   refine ⟨fun h => (by simp [Fence.wide] at h), hR.mono ?_⟩
   rintro e W3 ⟨rfl, hJ3, hk3⟩
   gi_wp2
   go_roundw
   case rel => exact ⟨k + 1, by omega, by go_num, hJ3, hK.trans (hka.trans hk3)⟩
   case measure => simp [intOf]; omega
  ·obtain rfl : k = l.length := by omega
   gi_wp2
   go_end0
   exact ⟨⟨_, rfl⟩, hJs⟩
end Go.Proofs.YtccgfladbibjbaaGreatDoor
