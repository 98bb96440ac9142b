/- A region that draws its order: loads, reckonings and calls that keep a condition S on the world, in whatever order, and then the last operations as they stand. -/
import Derived.Test.YtccgfladbibjbaaGreatDoorProg
import Derived.StillTail
import Derived.OrdersIn
import Derived.Tactics
import Derived.TacticsIn
namespace Go.Proofs.YtccgfladbibjbaaGreatDoor
open Go
section
variable {P : Program} {S : World → Prop}
def FR (ro : Option Nat) : Fence := { Fence.wide with round := ro }
theorem callsFR {ro : Option Nat} {n : Nat} {f : FuncId} {args : Array Value} {w : World} {R : Ending → World → Prop} (h : Calls P f args w R) : CallsIn (FR ro) n P f args w R := (callsIn_wide (n := n)).2 h
theorem rowsFR {ro : Option Nat} {n : Nat} {row : String} {args : Array Value} {w : World} {R : Value → World → Prop} (h : Rows P row args w R) : RowsIn (FR ro) n P row args w R :=
 fun c cs _ => let ⟨v, w', r, s⟩ := h c cs; ⟨v, w', r, (stepsIn_wide (P := P)).2 s⟩
def noDefer (o : Oper) : Bool := match o.op with | .defer _ => false | _ => true
theorem noDefer_spec {o : Oper} (h : noDefer o = true) : ∀ c, o.op ≠ .defer c := by
 intro c e
 unfold noDefer at h
 rw [e] at h
 cases h
theorem operFR {ro : Option Nat} {n : Nat} {o : Oper} {a : Act} {w : World} {K : Act → World → Prop} {Q : Exit → Act → World → Prop} (hd : noDefer o = true) (h : o.wp P a w K Q) : o.wpIn (FR ro) n P a w K Q := by
 unfold Oper.wpIn
 refine ⟨fun _ _ => trivial, ?_⟩
 rw [Oper.semAt_eq _ _ _ (noDefer_spec hd)]
 unfold Oper.wp at h
 generalize (execOp a.eval o).run P w = r at *
 cases r with
 | halt x w' => cases x <;> exact h
 | ok x w' =>
  cases x with
  | enter f args => exact ⟨fun h => by simp [FR, Fence.wide] at h, callsFR h⟩
  | row row args => exact ⟨fun h => by simp [FR, Fence.wide] at h, rowsFR h⟩
  | round => exact h.elim
  | _ => exact h
theorem oper_weak {o : Oper} {a : Act} {w : World} {K : Act → World → Prop} {Q : Exit → Act → World → Prop} (h : o.wp P a w K (fun _ _ _ => False)) : o.wp P a w K Q := by
 unfold Oper.wp at *
 generalize (execOp a.eval o).run P w = r at *
 cases r with
 | halt x w' => cases x <;> exact h.elim
 | ok x w' =>
  cases x with
  | enter f args => exact Calls.mono h (fun e w'' he => by
    cases e with
    | returned v => exact he
    | panicked c => exact he.elim
    | outgrown => obtain ⟨_, _, h⟩ := he; exact h.elim)
  | _ => exact h
def anyG (rdy : Array Bool → List Nat) (N : Act → World → Prop) (step : Nat → (Act → World → Prop) → Act → World → Prop) : Nat → Array Bool → Act → World → Prop
 | 0, listed, a, w => rdy listed = [] ∧ N a w
 | fuel + 1, listed, a, w => (rdy listed = [] → N a w) ∧ ∀ i ∈ rdy listed, step i (anyG rdy N step fuel (listed.setIfInBounds i true)) a w
theorem anyG_plain {ops : Array Oper} {Q : Exit → Act → World → Prop} : ∀ (fuel : Nat) (listed : Array Bool), anyG (Region.ready .any ops) (Q .normal) (wpOp P ops Q) fuel listed = wpAny P .any ops Q fuel listed
 | 0, _ => rfl
 | fuel + 1, listed => by
  funext a w
  unfold anyG wpAny
  congr 1
  apply forall_congr; intro i; apply forall_congr; intro _
  rw [anyG_plain fuel]
theorem anyG_in {F : Fence} {n : Nat} {ops : Array Oper} {Q : Exit → Act → World → Prop} : ∀ (fuel : Nat) (listed : Array Bool), anyG (Region.ready .any ops) (Q .normal) (wpOpIn F n P ops Q) fuel listed = wpAnyIn F n P .any ops Q fuel listed
 | 0, _ => rfl
 | fuel + 1, listed => by
  funext a w
  unfold anyG wpAnyIn
  congr 1
  apply forall_congr; intro i; apply forall_congr; intro _
  rw [anyG_in fuel]
theorem anyIn_of_seq {F : Fence} {n : Nat} {ops : Array Oper} {Q : Exit → Act → World → Prop} : ∀ (l : List Oper) (k : Nat) (listed : Array Bool) (a : Act) (w : World), (∀ j, l[j]? = ops[k + j]?) →
  Region.seqB .any ops l.length k listed = true → wpListIn F n P ops Q l a w → wpAnyIn F n P .any ops Q l.length listed a w
 | [], _, _, _, _, _, hB, h => by
  unfold Region.seqB at hB
  exact ⟨List.isEmpty_iff.1 hB, h⟩
 | o :: l, k, listed, a, w, hl, hB, h => by
  have h0 : ops[k]? = some o := by have := (hl 0).symm; rwa [Nat.add_zero] at this
  rw [List.length_cons] at *
  unfold Region.seqB at hB
  rw [Bool.and_eq_true, decide_eq_true_eq] at hB
  unfold wpAnyIn
  rw [hB.1]
  refine ⟨fun h => (by cases h), fun i hi => ?_⟩
  obtain rfl : i = k := by simpa using hi
  refine wpOpIn_mono (K := wpListIn F n P ops Q l) (fun a' w' h' => anyIn_of_seq l (i + 1) _ a' w' (fun j => ?_) hB.2 h') ?_
  ·have := hl (j + 1); rw [List.getElem?_cons_succ] at this; rw [this]; congr 1; omega
  ·unfold wpOpIn; rw [h0]; exact h
def headB (ops : Array Oper) (h i : Nat) : Bool :=
 match ops[i]? with
 | none => false
 | some o => o.guard.isNone && noDefer o && o.after.all (fun e => !Region.binds .any e || decide (e.on < i)) &&
  (List.range h).all fun j =>
   match (ops[j]?).bind (·.dst) with
   | none => true
   | some d => (decide (i = j) || o.dst != some d) && (!(o.looksAt ops).contains d || (decide (j < i) && Region.waitsFor .any ops i j))
def heldB (ops : Array Oper) (h : Nat) : Bool :=
 Region.noSelect ops && decide (h < ops.size) && Region.sinkB .any ops h && Region.chainB .any ops h && (List.range h).all (headB ops h) &&
 Region.seqB .any ops (ops.size - h) h ((Array.range ops.size).map fun k => decide (k < h))
theorem headB_spec {ops : Array Oper} {h i : Nat} {o : Oper} (ho : ops[i]? = some o) (hB : headB ops h i = true) :
  o.guard = none ∧ noDefer o = true ∧ (∀ e ∈ o.after, Region.binds .any e = true → e.on < i) ∧
  (∀ (j : Nat) (oj : Oper) (d : Tmp), j < h → ops[j]? = some oj → oj.dst = some d → i ≠ j → o.dst ≠ some d) ∧
  (∀ (j : Nat) (oj : Oper) (d : Tmp), j < h → ops[j]? = some oj → oj.dst = some d → d ∈ o.looksAt ops → j < i ∧ Region.waitsFor .any ops i j = true) := by
 unfold headB at hB
 rw [ho] at hB
 simp only [Bool.and_eq_true] at hB
 obtain ⟨⟨⟨h1, h2⟩, h3⟩, h4⟩ := hB
 have hg : o.guard = none := by
  cases hg : o.guard with
  | none => rfl
  | some x => rw [hg] at h1; cases h1
 refine ⟨hg, h2, fun e he hb => ?_, fun j oj d hj hoj hd hne => ?_, fun j oj d hj hoj hd hm => ?_⟩
 ·have := Array.all_eq_true_iff_forall_mem.1 h3 e he
  rw [hb] at this
  simpa using this
 ·have := List.all_eq_true.1 h4 j (List.mem_range.2 hj)
  rw [hoj, Option.bind_some, hd] at this
  simp only [Bool.and_eq_true, Bool.or_eq_true, decide_eq_true_eq, bne_iff_ne] at this
  exact this.1.resolve_left hne
 ·have := List.all_eq_true.1 h4 j (List.mem_range.2 hj)
  rw [hoj, Option.bind_some, hd] at this
  simp only [Bool.and_eq_true, Bool.or_eq_true, decide_eq_true_eq, Bool.not_eq_true'] at this
  rcases this.2 with h | h
  ·have : (o.looksAt ops).contains d = true := List.contains_iff_mem.2 hm
   rw [h] at this; cases this
  ·exact h
structure Mid (ops : Array Oper) (h : Nat) (aT : Act) (listed : Array Bool) (a : Act) : Prop where
 size : a.tmps.size = aT.tmps.size
 defers : a.defers = aT.defers
 same : ∀ x : Tmp, (∀ j o, j < h → ops[j]? = some o → listed.getD j true = false → o.dst ≠ some x) → a.tmps[x]? = aT.tmps[x]?
theorem put_size (a : Act) (d : Option Tmp) (v : Value) : (a.put d v).tmps.size = a.tmps.size := by
 cases d with
 | none => rfl
 | some d => simp [Act.put]
theorem put_defs (a : Act) (d : Option Tmp) (v : Value) : (a.put d v).defers = a.defers := by cases d <;> rfl
theorem put_other (a : Act) (d : Option Tmp) (v : Value) (x : Tmp) (h : d ≠ some x) : (a.put d v).tmps[x]? = a.tmps[x]? := by
 cases d with
 | none => rfl
 | some d => simp only [Act.put]; exact Array.getElem?_setIfInBounds_ne (fun e => h (by rw [e]))
theorem put_same (a : Act) (x : Tmp) (v : Value) : (a.put (some x) v).tmps[x]? = if x < a.tmps.size then some v else none := by
 simp only [Act.put]
 rw [Array.getElem?_setIfInBounds_self]
theorem Mid.step {ops : Array Oper} {h : Nat} {aT a : Act} {listed : Array Bool} (m : Mid ops h aT listed a) {i : Nat} {o : Oper} {v : Value} (ho : ops[i]? = some o) (hv : aT.put o.dst v = aT) : Mid ops h aT (listed.setIfInBounds i true) (a.put o.dst v) := by
 refine ⟨by rw [put_size, m.size], by rw [put_defs, m.defers], fun x hx => ?_⟩
 by_cases hd : o.dst = some x
 ·have h1 : aT.tmps[x]? = (aT.put (some x) v).tmps[x]? := by rw [hd] at hv; rw [hv]
  rw [h1, hd, put_same, put_same, m.size]
 ·rw [put_other _ _ _ _ hd]
  refine m.same x fun j oj hj hoj hl => ?_
  by_cases hij : i = j
  ·subst hij
   rw [ho] at hoj
   injection hoj with hoj
   rw [← hoj]; exact hd
  ·exact hx j oj hj hoj (by rw [getD_set_ne true hij]; exact hl)
theorem Mid.done {ops : Array Oper} {h : Nat} {aT a : Act} {listed : Array Bool} (m : Mid ops h aT listed a) (hl : ∀ j, j < h → listed.getD j true = true) : a = aT := by
 obtain ⟨t, d⟩ := a
 obtain ⟨t', d'⟩ := aT
 have h1 : t = t' := by
  apply Array.ext_getElem?
  intro x
  exact m.same x fun j o hj _ hf => by rw [hl j hj] at hf; cases hf
 have h2 : d = d' := m.defers
 rw [h1, h2]
theorem Mid.exec {ops : Array Oper} {h : Nat} {aT a : Act} {listed : Array Bool} (m : Mid ops h aT listed a) {i : Nat} {o : Oper} (ho : ops[i]? = some o) (hB : headB ops h i = true) (hns : Region.noSelect ops = true)
  (hr : i ∈ Region.ready .any ops listed) : execOp a.eval o = execOp aT.eval o := by
 refine execOp_congr o (fun cs b => Region.noSelect_spec hns i o cs b ho) fun x hx => ?_
 cases x with
 | tmp t =>
  have htl : t ∈ o.looksAt ops := List.mem_append_left _ (List.mem_filterMap.2 ⟨.tmp t, by simpa using hx, rfl⟩)
  have := m.same t fun j oj hj hoj hl hd => by
   have hw := ((headB_spec ho hB).2.2.2.2 j oj t hj hoj hd htl).2
   obtain ⟨o', ho', e, he, hb, hon⟩ := Region.waitsFor_spec hw
   obtain ⟨_, oi, hoi, hall⟩ := mem_ready.1 hr
   rw [hoi] at ho'
   injection ho' with ho'
   subst ho'
   have := hall e he hb
   rw [hon, getD_both hl] at this
   cases this
  show a.tmps.getD t undef = aT.tmps.getD t undef
  rw [Array.getD_eq_getD_getElem?, Array.getD_eq_getD_getElem?, this]
 | const v => rfl
 | global g => rfl
 | func f => rfl
def toCome (listed : Array Bool) : Nat → Nat
 | 0 => 0
 | h + 1 => toCome listed h + if listed.getD h true then 0 else 1
theorem toCome_zero (listed : Array Bool) : ∀ h, toCome listed h = 0 → ∀ j, j < h → listed.getD j true = true
 | 0, _, j, hj => absurd hj (by omega)
 | h + 1, hz, j, hj => by
  unfold toCome at hz
  by_cases hjh : j = h
  ·subst hjh
   by_cases hl : listed.getD j true = true
   ·exact hl
   ·rw [if_neg hl] at hz; omega
  ·exact toCome_zero listed h (by omega) j (by omega)
theorem toCome_pos (listed : Array Bool) : ∀ h, 0 < toCome listed h → ∃ j, j < h ∧ listed.getD j true = false
 | 0, hz => absurd hz (by simp [toCome])
 | h + 1, hz => by
  unfold toCome at hz
  by_cases hl : listed.getD h true = true
  ·rw [if_pos hl] at hz
   obtain ⟨j, hj, h2⟩ := toCome_pos listed h (by omega)
   exact ⟨j, by omega, h2⟩
  ·exact ⟨h, by omega, by simpa using hl⟩
theorem toCome_set (listed : Array Bool) (i : Nat) (hi : listed.getD i true = false) : ∀ h, toCome listed h = toCome (listed.setIfInBounds i true) h + if i < h then 1 else 0
 | 0 => by simp [toCome]
 | h + 1 => by
  have ih := toCome_set listed i hi h
  unfold toCome
  by_cases hih : i = h
  ·subst hih
   have hs : i < listed.size := by
    rcases Nat.lt_or_ge i listed.size with h | h
    ·exact h
    ·rw [Array.getD_eq_getD_getElem?, Array.getElem?_eq_none h] at hi
     cases hi
   rw [hi]
   rw [if_neg (by omega : ¬ i < i)] at ih
   have : (listed.setIfInBounds i true).getD i true = true := by simp [hs]
   rw [this]
   simp
   omega
  ·rw [getD_set_ne true hih]
   have h1 : (i < h + 1) = (i < h) := by apply propext; omega
   simp only [h1]
   omega
theorem some_ready {ops : Array Oper} {h : Nat} {listed : Array Bool} (hB : ∀ i, i < h → headB ops h i = true) (hsz : listed.size = ops.size) (hn : h < ops.size) : ∀ i, i < h → listed.getD i true = false → ∃ j, j ∈ Region.ready .any ops listed := by
 intro i
 induction i using Nat.strongRecOn with
 | _ i ih =>
  intro hi hl
  obtain ⟨o, ho⟩ : ∃ o, ops[i]? = some o := ⟨ops[i]'(by omega), Array.getElem?_eq_getElem (by omega)⟩
  obtain ⟨_, _, h3, _⟩ := headB_spec ho (hB i hi)
  by_cases hall : ∀ e ∈ o.after, Region.binds .any e = true → listed.getD e.on false = true
  ·exact ⟨i, mem_ready.2 ⟨hl, o, ho, hall⟩⟩
  ·have : ∃ e ∈ o.after, Region.binds .any e = true ∧ ¬ listed.getD e.on false = true := by
    apply Classical.byContradiction
    intro hno
    exact hall fun e he hb => Classical.byContradiction fun hl => hno ⟨e, he, hb, hl⟩
   obtain ⟨e, he, hb, hne⟩ := this
   have hlt := h3 e he hb
   exact ih e.on hlt (by omega) (getD_in (by omega) (by simpa using hne))
theorem held_any {ops : Array Oper} {h : Nat} {aT : Act} {N : Act → World → Prop} {step : Nat → (Act → World → Prop) → Act → World → Prop} (hB : heldB ops h = true)
  (hs : ∀ i o K a w, ops[i]? = some o → o.guard = none → noDefer o = true → o.wp P a w K (fun _ _ _ => False) → step i K a w)
  (hops : ∀ i o, i < h → ops[i]? = some o → ∀ W, S W → o.wp P aT W (fun a' W' => a' = aT ∧ S W') (fun _ _ _ => False))
  (htail : ∀ W, S W → anyG (Region.ready .any ops) N step (ops.size - h) ((Array.range ops.size).map fun k => decide (k < h)) aT W) :
  ∀ (m : Nat) (listed : Array Bool) (a : Act) (W : World), toCome listed h = m → HeadInv .any ops h listed → Mid ops h aT listed a → S W → anyG (Region.ready .any ops) N step (m + (ops.size - h)) listed a W := by
 unfold heldB at hB
 simp only [Bool.and_eq_true, decide_eq_true_eq] at hB
 obtain ⟨⟨⟨⟨⟨hns, hn⟩, hsink⟩, hchain⟩, hheads⟩, _⟩ := hB
 have hhd : ∀ i, i < h → headB ops h i = true := fun i hi => List.all_eq_true.1 hheads i (List.mem_range.2 hi)
 intro m
 induction m with
 | zero =>
  intro listed a W hc inv mid hS
  have hl := toCome_zero listed h hc
  obtain rfl := mid.done hl
  have : listed = (Array.range ops.size).map fun k => decide (k < h) := by
   apply Array.ext
   ·rw [inv.size]; simp
   ·intro k hk hk'
    rw [Array.getElem_map, Array.getElem_range]
    have hg : listed.getD k true = listed[k] := by simp [hk]
    rw [← hg]
    by_cases hkh : k < h
    ·rw [hl k hkh, decide_eq_true hkh]
    ·rw [inv.tail k (by omega) (by rw [← inv.size]; exact hk), decide_eq_false hkh]
  rw [this, Nat.zero_add]
  exact htail W hS
 | succ m ih =>
  intro listed a W hc inv mid hS
  obtain ⟨j, hj, hjl⟩ := toCome_pos listed h (by omega)
  rw [Nat.succ_add]
  unfold anyG
  refine ⟨fun hnil => ?_, fun i hi => ?_⟩
  ·obtain ⟨k, hk⟩ := some_ready hhd inv.size hn j hj hjl
   rw [hnil] at hk; cases hk
  ·obtain ⟨hil, o, ho, _⟩ := mem_ready.1 hi
   have hih : i < h := by
    rcases Nat.lt_or_ge i h with h' | h'
    ·exact h'
    ·exact absurd hi (tail_waits hsink hchain hn inv (h - j) j rfl hj hjl i h')
   obtain ⟨hg, hd, _⟩ := headB_spec ho (hhd i hih)
   refine hs i o _ a W ho hg hd ?_
   have hop := hops i o hih ho W hS
   have hcount := toCome_set listed i hil h
   rw [if_pos hih] at hcount
   have next : ∀ v W', aT.put o.dst v = aT → S W' → anyG (Region.ready .any ops) N step (m + (ops.size - h)) (listed.setIfInBounds i true) (a.put o.dst v) W' := fun v W' hv hS' =>
    ih _ _ W' (by omega) (inv.set hi hih) (mid.step ho hv) hS'
   unfold Oper.wp at hop ⊢
   rw [mid.exec ho (hhd i hih) hns hi]
   generalize (execOp aT.eval o).run P W = r at *
   cases r with
   | halt x w' => cases x <;> exact hop
   | ok x w' =>
    cases x with
    | value v => exact next v w' hop.1 hop.2
    | skip => exact next undef w' hop.1 hop.2
    | defer d =>
     have h1 := congrArg Act.defers hop.1
     rw [put_defs] at h1
     have := congrArg List.length h1
     simp at this
    | enter f args =>
     refine Calls.mono hop (fun e w'' he => ?_)
     cases e with
     | returned v => exact next v w'' he.1 he.2
     | panicked c => exact he
     | outgrown => exact he
    | row row args => exact Rows.mono hop fun v w'' he => next v w'' he.1 he.2
    | round => exact hop
    | _ => exact hop
def chain (P : Program) (S : World → Prop) (K : Act → Prop) : List Oper → Act → Prop
 | [], a => K a
 | o :: r, a => ∃ v, (∀ W, S W → o.wp P a W (fun a' W' => a' = a.put o.dst v ∧ S W') (fun _ _ _ => False)) ∧ chain P S K r (a.put o.dst v)
theorem chain_mono {K K' : Act → Prop} (h : ∀ a, K a → K' a) : ∀ (l : List Oper) (a : Act), chain P S K l a → chain P S K' l a
 | [], a, hc => h a hc
 | _ :: r, _, ⟨v, h1, h2⟩ => ⟨v, h1, chain_mono h r _ h2⟩
theorem exec_later {ops : Array Oper} {h i : Nat} {o : Oper} (ho : ops[i]? = some o) (hB : headB ops h i = true) (hns : Region.noSelect ops = true) {a a' : Act}
  (hsame : ∀ x : Tmp, (∀ j oj, i ≤ j → j < h → ops[j]? = some oj → oj.dst ≠ some x) → a.tmps[x]? = a'.tmps[x]?) : execOp a.eval o = execOp a'.eval o := by
 refine execOp_congr o (fun cs b => Region.noSelect_spec hns i o cs b ho) fun x hx => ?_
 cases x with
 | tmp t =>
  have htl : t ∈ o.looksAt ops := List.mem_append_left _ (List.mem_filterMap.2 ⟨.tmp t, by simpa using hx, rfl⟩)
  have := hsame t fun j oj hij hj hoj hd => by
   have := ((headB_spec ho hB).2.2.2.2 j oj t hj hoj hd htl).1
   omega
  show a.tmps.getD t undef = a'.tmps.getD t undef
  rw [Array.getD_eq_getD_getElem?, Array.getD_eq_getD_getElem?, this]
 | const v => rfl
 | global g => rfl
 | func f => rfl
theorem chain_spec {ops : Array Oper} {h : Nat} (hns : Region.noSelect ops = true) (hhd : ∀ i, i < h → headB ops h i = true) {K : Act → Prop} : ∀ (l : List Oper) (k : Nat) (a : Act), k + l.length = h → (∀ j, j < l.length → l[j]? = ops[k + j]?) → chain P S K l a →
  ∃ aT, K aT ∧ aT.tmps.size = a.tmps.size ∧ aT.defers = a.defers ∧ (∀ x : Tmp, (∀ j oj, k ≤ j → j < h → ops[j]? = some oj → oj.dst ≠ some x) → aT.tmps[x]? = a.tmps[x]?) ∧
   ∀ i o, k ≤ i → i < h → ops[i]? = some o → ∀ W, S W → o.wp P aT W (fun a' W' => a' = aT ∧ S W') (fun _ _ _ => False)
 | [], k, a, hk, _, hc => ⟨a, hc, rfl, rfl, fun _ _ => rfl, fun i o h1 h2 => by simp at hk; omega⟩
 | o :: r, k, a, hk, hl, hc => by
  obtain ⟨v, hop, hc⟩ := hc
  simp only [List.length_cons] at hk
  have ho : ops[k]? = some o := by have := (hl 0 (by simp)).symm; simpa using this
  obtain ⟨aT, hK, h1, h2, h3, h4⟩ := chain_spec hns hhd r (k + 1) _ (by omega) (fun j hj => by have := hl (j + 1) (by simp; omega); rw [List.getElem?_cons_succ] at this; rw [this]; congr 1; omega) hc
  refine ⟨aT, hK, by rw [h1, put_size], by rw [h2, put_defs], fun x hx => ?_, fun i oi hi hi2 hoi W hS => ?_⟩
  ·rw [h3 x (fun j oj hj => hx j oj (by omega)), put_other _ _ _ _ (hx k o (Nat.le_refl _) (by omega) ho)]
  ·by_cases hik : i = k
   ·subst hik
    rw [ho] at hoi
    injection hoi with hoi
    subst hoi
    have hexec : execOp aT.eval o = execOp a.eval o := exec_later ho (hhd i hi2) hns fun x hx => by
     rw [h3 x (fun j oj hj => hx j oj (by omega)), put_other _ _ _ _ (hx i o (Nat.le_refl _) hi2 ho)]
    -- the value lies where it lies at the end
    have hput : ∀ u, a.put o.dst u = a.put o.dst v → aT.put o.dst u = aT := by
     intro u hu
     cases hd : o.dst with
     | none => rfl
     | some x =>
      have hx : aT.tmps[x]? = (a.put (some x) v).tmps[x]? := by
       rw [hd] at h3
       exact h3 x fun j oj hj hj2 hoj => by
        have := (headB_spec ho (hhd i hi2)).2.2.2.1
        intro e
        exact this j oj x hj2 hoj e (by omega) hd
      rw [hd] at hu
      rw [← hu, put_same] at hx
      have hsz : aT.tmps.size = a.tmps.size := by rw [h1, put_size]
      have h5 : (aT.put (some x) u).tmps = aT.tmps := by
       apply Array.ext_getElem?
       intro y
       by_cases hy : x = y
       ·subst hy
        rw [put_same, hx, hsz]
       ·rw [put_other _ _ _ _ (fun e => hy (by injection e))]
      have h6 : (aT.put (some x) u).defers = aT.defers := put_defs _ _ _
      cases hA : aT.put (some x) u
      rw [hA] at h5 h6
      subst h5
      subst h6
      rfl
    have hop := hop W hS
    unfold Oper.wp at hop ⊢
    rw [hexec]
    generalize (execOp a.eval o).run P W = res at *
    cases res with
    | halt x w' => cases x <;> exact hop
    | ok x w' =>
     cases x with
     | value u => exact ⟨hput u hop.1, hop.2⟩
     | skip => exact ⟨hput undef hop.1, hop.2⟩
     | defer d =>
      have h1 := congrArg Act.defers hop.1
      rw [put_defs, put_defs] at h1
      have := congrArg List.length h1
      simp at this
     | enter f args =>
      refine Calls.mono hop (fun e w'' he => ?_)
      cases e with
      | returned u => exact ⟨hput u he.1, he.2⟩
      | panicked c => exact he
      | outgrown => exact he
     | row row args => exact Rows.mono hop fun u w'' he => ⟨hput u he.1, he.2⟩
     | round => exact hop
     | _ => exact hop
   ·exact h4 i oi (by omega) hi2 hoi W hS
theorem held_start (ops : Array Oper) (h : Nat) : HeadInv .any ops h (Array.replicate ops.size false) :=
 ⟨by simp, fun j oj _ hl => (by rw [getD_replicate_false] at hl; cases hl), fun t _ ht => getD_in (by simpa using ht) (getD_replicate_false _ _)⟩
theorem toCome_start (m : Nat) : ∀ h, h ≤ m → toCome (Array.replicate m false) h = h
 | 0, _ => rfl
 | h + 1, hh => by
  unfold toCome
  rw [toCome_start m h (by omega), getD_in (by simp; omega) (getD_replicate_false _ _)]
  simp
theorem held_begin {l : List Oper} {h : Nat} {a : Act} {w : World} {N : Act → World → Prop} {step : Nat → (Act → World → Prop) → Act → World → Prop} (hB : heldB l.toArray h = true)
  (hs : ∀ i o K a w, l.toArray[i]? = some o → o.guard = none → noDefer o = true → o.wp P a w K (fun _ _ _ => False) → step i K a w) (hS : S w)
  (hc : chain P S (fun aT => ∀ W, S W → anyG (Region.ready .any l.toArray) N step (l.toArray.size - h) ((Array.range l.toArray.size).map fun k => decide (k < h)) aT W) (l.take h) a) :
  anyG (Region.ready .any l.toArray) N step l.toArray.size (Array.replicate l.toArray.size false) a w := by
 have hB' := hB
 unfold heldB at hB'
 simp only [Bool.and_eq_true, decide_eq_true_eq] at hB'
 obtain ⟨⟨⟨⟨⟨hns, hn⟩, _⟩, _⟩, hheads⟩, _⟩ := hB'
 have hhd : ∀ i, i < h → headB l.toArray h i = true := fun i hi => List.all_eq_true.1 hheads i (List.mem_range.2 hi)
 have hlen : l.toArray.size = l.length := by simp
 have htl : (l.take h).length = h := by rw [List.length_take]; omega
 obtain ⟨aT, hT, h1, h2, h3, h4⟩ := chain_spec hns hhd (l.take h) 0 a (by omega) (fun j hj => by rw [List.getElem?_take, if_pos (by omega)]; simp) hc
 have := held_any (P := P) (S := S) (aT := aT) hB hs (fun i o hi => h4 i o (Nat.zero_le _) hi) hT h (Array.replicate l.toArray.size false) a w (toCome_start _ h (by omega)) (held_start _ h)
  ⟨h1.symm, h2.symm, fun x hx => (h3 x fun j oj _ hj hoj => hx j oj hj hoj (getD_in (by simp; omega) (getD_replicate_false _ _))).symm⟩ hS
 rwa [show h + (l.toArray.size - h) = l.toArray.size from by omega] at this
theorem region_held {id h : Nat} {l : List Oper} {Q : Exit → Act → World → Prop} {a : Act} {w : World} (hm : P.follows .mixedOrders = true) (hB : heldB l.toArray h = true) (S : World → Prop) (hS : S w.drew)
  (hc : chain P S (fun aT => ∀ W, S W → wpList P l.toArray Q (l.drop h) aT W) (l.take h) a) : (Code.region id l.toArray true).wp P Q a w := by
 refine wp_region_any hm ?_
 rw [← anyG_plain]
 refine held_begin (P := P) (S := S) hB (fun i o K a w ho hg hd hw => ?_) hS ?_
 ·unfold wpOp
  rw [ho]
  show (if Region.wanted o _ = true then _ else _)
  have : Region.wanted o (yielded l.toArray a.tmps) = true := by unfold Region.wanted; rw [hg]
  rw [if_pos this]
  exact .inl (oper_weak hw)
 ·have hB' := hB
  unfold heldB at hB'
  simp only [Bool.and_eq_true, decide_eq_true_eq] at hB'
  have hlen : (l.drop h).length = l.toArray.size - h := by simp
  refine chain_mono (fun aT hK W hW => ?_) _ _ hc
  rw [anyG_plain, ← hlen]
  exact wpAny_of_seq (l.drop h) h _ aT W (fun j => by simp [List.getElem?_drop]) (by rw [hlen]; exact hB'.2) (hK W hW)
theorem region_held_FR {ro : Option Nat} {id h n : Nat} {l : List Oper} {Q : Exit → Act → World → Prop} {a : Act} {w : World} (hm : P.follows .mixedOrders = true) (hB : heldB l.toArray h = true) (S : World → Prop) (hS : S w.drew)
  (hc : chain P S (fun aT => ∀ W, S W → wpListIn (FR ro) n P l.toArray Q (l.drop h) aT W) (l.take h) a) : (Code.region id l.toArray true).wpIn (FR ro) n P Q a w := by
 refine wpIn_region_any hm ?_
 rw [← anyG_in]
 refine held_begin (P := P) (S := S) hB (fun i o K a w ho hg hd hw => ?_) hS ?_
 ·unfold wpOpIn
  rw [ho]
  show (if Region.wanted o _ = true then _ else _)
  have : Region.wanted o (yielded l.toArray a.tmps) = true := by unfold Region.wanted; rw [hg]
  rw [if_pos this]
  exact operFR (ro := ro) hd (oper_weak hw)
 ·have hB' := hB
  unfold heldB at hB'
  simp only [Bool.and_eq_true, decide_eq_true_eq] at hB'
  have hlen : (l.drop h).length = l.toArray.size - h := by simp
  refine chain_mono (fun aT hK W hW => ?_) _ _ hc
  rw [anyG_in, ← hlen]
  exact anyIn_of_seq (l.drop h) h _ aT W (fun j => by simp [List.getElem?_drop]) (by rw [hlen]; exact hB'.2) (hK W hW)
theorem region_held_in {id h n lo : Nat} {l : List Oper} {Q : Exit → Act → World → Prop} {a : Act} {w : World} (hm : P.follows .mixedOrders = true) (hB : heldB l.toArray h = true) (S : World → Prop) (hS : S w.drew)
  (hc : chain P S (fun aT => ∀ W, S W → wpListIn (Fence.wide.inRound lo) n P l.toArray Q (l.drop h) aT W) (l.take h) a) : (Code.region id l.toArray true).wpIn (Fence.wide.inRound lo) n P Q a w := region_held_FR (ro := some lo) hm hB S hS hc
theorem region_held_wide {id h n : Nat} {l : List Oper} {Q : Exit → Act → World → Prop} {a : Act} {w : World} (hm : P.follows .mixedOrders = true) (hB : heldB l.toArray h = true) (S : World → Prop) (hS : S w.drew)
  (hc : chain P S (fun aT => ∀ W, S W → wpListIn Fence.wide n P l.toArray Q (l.drop h) aT W) (l.take h) a) : (Code.region id l.toArray true).wpIn Fence.wide n P Q a w := region_held_FR (ro := none) hm hB S hS hc
theorem chain_op {K0 : Act → Prop} {o : Oper} {r : List Oper} {a : Act} (v : Value) (h : ∀ W, S W → ∀ K : Act → World → Prop, (∀ W', S W' → K (a.put o.dst v) W') → o.wp P a W K (fun _ _ _ => False)) (hr : chain P S K0 r (a.put o.dst v)) : chain P S K0 (o :: r) a :=
 ⟨v, fun W hW => h W hW _ fun _ h => ⟨rfl, h⟩, hr⟩
end
end Go.Proofs.YtccgfladbibjbaaGreatDoor
