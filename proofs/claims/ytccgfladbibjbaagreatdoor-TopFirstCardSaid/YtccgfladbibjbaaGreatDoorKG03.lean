/- A region that draws its order: operations that leave the world as it is, and whose value a condition S on the world settles, may come up at any time; the others come one after the other. -/
import Derived.Test.YtccgfladbibjbaaGreatDoorKG02
namespace Go.Proofs.YtccgfladbibjbaaGreatDoor
open Go
section
variable {P : Program} {S : World → Prop} {ops : Array Oper}
def NoQ : Exit → Act → World → Prop := fun _ _ _ => False
def stepV (P : Program) (ops : Array Oper) (o : Oper) (a : Act) (w : World) (K1 : Value → World → Prop) : Prop :=
 if Region.wanted o (yielded ops a.tmps) = true then o.wp P a w (fun a' w' => ∃ v, a' = a.put o.dst v ∧ K1 v w') NoQ else K1 undef w
theorem put_like {a b : Act} (hs : a.tmps.size = b.tmps.size) {d : Option Tmp} {u v : Value} (h : b.put d u = b.put d v) : a.put d u = a.put d v := by
 cases d with
 | none => rfl
 | some d =>
  by_cases hd : d < b.tmps.size
  ·have := congrArg (fun x : Act => x.tmps[d]?) h
   simp only [put_same] at this
   rw [if_pos hd, if_pos hd] at this
   injection this with this
   rw [this]
  ·have hle : a.tmps.size ≤ d := by rw [hs]; exact Nat.le_of_not_lt hd
   simp only [Act.put]
   rw [Array.setIfInBounds_eq_of_size_le hle, Array.setIfInBounds_eq_of_size_le hle]
theorem stepV_same {o : Oper} {a b : Act} {w : World} {K K' : Value → World → Prop} (hs : a.tmps.size = b.tmps.size) (he : execOp a.eval o = execOp b.eval o) (hw : Region.wanted o (yielded ops a.tmps) = Region.wanted o (yielded ops b.tmps))
  (hK : ∀ v w', K v w' → K' v w') (h : stepV P ops o b w K) : stepV P ops o a w K' := by
 unfold stepV at *
 rw [hw]
 by_cases hc : Region.wanted o (yielded ops b.tmps) = true
 ·rw [if_pos hc] at h ⊢
  unfold Oper.wp at *
  rw [he]
  have put : ∀ u w', (∃ v, b.put o.dst u = b.put o.dst v ∧ K v w') → ∃ v, a.put o.dst u = a.put o.dst v ∧ K' v w' := fun u w' ⟨v, hv, hk⟩ => ⟨v, put_like hs hv, hK v w' hk⟩
  generalize (execOp b.eval o).run P w = r at *
  cases r with
  | halt x w' => cases x <;> exact h
  | ok x w' =>
   cases x with
   | value v => exact put v w' h
   | skip => exact put undef w' h
   | enter f args =>
    refine Calls.mono h (fun e w'' he => ?_)
    cases e with
    | returned v => exact put v w'' he
    | panicked c => exact he
    | outgrown => exact he
   | row row args => exact Rows.mono h fun v w'' he => put v w'' he
   | defer d =>
    obtain ⟨v, hv, _⟩ := h
    have h1 := congrArg Act.defers hv
    rw [put_defs, put_defs] at h1
    have := congrArg List.length h1
    simp at this
   | round => exact h
   | _ => exact h
 ·rw [if_neg hc] at h ⊢
  exact hK _ _ h
def dstOf (ops : Array Oper) (j : Nat) : Option Tmp := (ops[j]?).bind (·.dst)
def freeOne (ops : Array Oper) (ss : List Nat) (i : Nat) : Bool :=
 match ops[i]? with
 | none => false
 | some o => o.after.all (fun e => !Region.binds .any e || decide (e.on < i)) && noDefer o &&
  (List.range ops.size).all fun j =>
   match dstOf ops j with
   | none => true
   | some d => (decide (i = j) || o.dst != some d) && (!(o.looksAt ops).contains d || (decide (j < i) && Region.waitsFor .any ops i j && (ss.contains i || !ss.contains j)) || (ss.contains j && decide (i < j) && Region.waitsFor .any ops j i))
def chainS (ops : Array Oper) : List Nat → Bool
 | s :: t :: r => Region.waitsFor .any ops t s && chainS ops (t :: r)
 | _ => true
def freeB (ops : Array Oper) (ss : List Nat) (keep : Bool) : Bool :=
 (ss.all fun s => decide (s < ops.size)) && Region.noSelect ops && (List.range ops.size).all (freeOne ops ss) && chainS ops ss && (keep || (List.range ops.size).all fun i => ss.contains i || Region.waitsFor .any ops (ss.getLastD 0) i)
theorem freeOne_spec {ss : List Nat} {i : Nat} {o : Oper} (ho : ops[i]? = some o) (hB : freeOne ops ss i = true) :
  (∀ e ∈ o.after, Region.binds .any e = true → e.on < i) ∧ noDefer o = true ∧ (∀ (j : Nat) (d : Tmp), j < ops.size → dstOf ops j = some d → i ≠ j → o.dst ≠ some d) ∧
  (∀ (j : Nat) (d : Tmp), j < ops.size → dstOf ops j = some d → d ∈ o.looksAt ops → (j < i ∧ Region.waitsFor .any ops i j = true ∧ (i ∈ ss ∨ j ∉ ss)) ∨ (j ∈ ss ∧ i < j ∧ Region.waitsFor .any ops j i = true)) := by
 unfold freeOne at hB
 rw [ho] at hB
 simp only [Bool.and_eq_true] at hB
 obtain ⟨⟨h1, h2⟩, h3⟩ := hB
 refine ⟨fun e he hb => ?_, h2, fun j d hj hd hne => ?_, fun j d hj hd hm => ?_⟩
 ·have := Array.all_eq_true_iff_forall_mem.1 h1 e he
  rw [hb] at this
  simpa using this
 ·have := List.all_eq_true.1 h3 j (List.mem_range.2 hj)
  rw [hd] at this
  simp only [Bool.and_eq_true, Bool.or_eq_true, decide_eq_true_eq, bne_iff_ne] at this
  exact this.1.resolve_left hne
 ·have := List.all_eq_true.1 h3 j (List.mem_range.2 hj)
  rw [hd] at this
  simp only [Bool.and_eq_true, Bool.or_eq_true, decide_eq_true_eq, Bool.not_eq_true', List.contains_iff_mem] at this
  rcases this.2 with (h | h) | h
  ·have : (o.looksAt ops).contains d = true := List.contains_iff_mem.2 hm
   rw [h] at this; cases this
  ·refine .inl ⟨h.1.1, h.1.2, h.2.imp id fun h => ?_⟩
   intro hm
   have : ss.contains j = true := List.contains_iff_mem.2 hm
   rw [h] at this; cases this
  ·exact .inr ⟨h.1.1, h.1.2, h.2⟩
theorem looks_same {i : Nat} {o : Oper} {a b : Act} (hns : Region.noSelect ops = true) (ho : ops[i]? = some o)
  (h : ∀ x : Tmp, x ∈ o.looksAt ops → a.tmps[x]? = b.tmps[x]?) : execOp a.eval o = execOp b.eval o ∧ Region.wanted o (yielded ops a.tmps) = Region.wanted o (yielded ops b.tmps) := by
 refine ⟨execOp_congr o (fun cs c => Region.noSelect_spec hns i o cs c ho) fun x hx => ?_, ?_⟩
 ·cases x with
  | tmp t =>
   have := h t (List.mem_append_left _ (List.mem_filterMap.2 ⟨.tmp t, by simpa using hx, rfl⟩))
   show a.tmps.getD t undef = b.tmps.getD t undef
   rw [Array.getD_eq_getD_getElem?, Array.getD_eq_getD_getElem?, this]
  | const v => rfl
  | global g => rfl
  | func f => rfl
 ·unfold Region.wanted
  cases hg : o.guard with
  | none => rfl
  | some gw =>
   obtain ⟨g, want⟩ := gw
   have : yielded ops a.tmps g = yielded ops b.tmps g := by
    unfold yielded
    cases ht : (ops[g]?).bind (·.dst) with
    | none => rfl
    | some t =>
     have := h t (List.mem_append_right _ (by simp [hg, ht]))
     simp [this]
   show (yielded ops a.tmps g == some want) = (yielded ops b.tmps g == some want)
   rw [this]
def FreeOK (P : Program) (S : World → Prop) (ops : Array Oper) (a : Act) (o : Oper) : Prop := ∃ v, a.put o.dst v = a ∧ ∀ W, S W → stepV P ops o a W (fun v' W' => a.put o.dst v' = a.put o.dst v ∧ W' = W)
def spineI (P : Program) (S : World → Prop) (ops : Array Oper) (keep : Bool) (N : Act → World → Prop) : List Nat → Act → World → Prop
 | [], a, w => N a w
 | [s], a, w => ∀ o, ops[s]? = some o → stepV P ops o a w (fun v w' => (keep = true → S w') ∧ N (a.put o.dst v) w')
 | s :: t :: r, a, w => ∀ o, ops[s]? = some o → stepV P ops o a w (fun v w' => S w' ∧ spineI P S ops keep N (t :: r) (a.put o.dst v) w')
structure FInv (P : Program) (S : World → Prop) (ops : Array Oper) (ss : List Nat) (listed : Array Bool) (a A : Act) (rest : List Nat) : Prop where
 size : listed.size = ops.size
 closed : ∀ j oj, ops[j]? = some oj → listed.getD j false = true → ∀ e ∈ oj.after, Region.binds .any e = true → listed.getD e.on false = true
 pre : ∃ pre, ss = pre ++ rest
 un : ∀ s ∈ rest, listed.getD s true = false
 all : ∀ s ∈ ss, listed.getD s true = false → s ∈ rest
 tsize : a.tmps.size = A.tmps.size
 defers : a.defers = A.defers
 same : ∀ x : Tmp, (∀ j, j < ops.size → j ∉ ss → listed.getD j true = false → dstOf ops j ≠ some x) → a.tmps[x]? = A.tmps[x]?
 free : ∀ j o, ops[j]? = some o → j ∉ ss → listed.getD j true = false → FreeOK P S ops A o
theorem chainS_spec : ∀ (pre : List Nat) (s t : Nat) (r : List Nat), chainS ops (pre ++ s :: t :: r) = true → Region.waitsFor .any ops t s = true
 | [], s, t, r, h => by simp only [List.nil_append, chainS, Bool.and_eq_true] at h; exact h.1
 | [x], s, t, r, h => by
  simp only [List.cons_append, List.nil_append, chainS, Bool.and_eq_true] at h
  exact h.2.1
 | x :: y :: pre, s, t, r, h => by
  simp only [List.cons_append, chainS, Bool.and_eq_true] at h
  exact chainS_spec (y :: pre) s t r h.2
theorem spine_first {ss rest : List Nat} {listed : Array Bool} {i s : Nat} (hc : chainS ops ss = true) (hp : ∃ pre, ss = pre ++ s :: rest) (hun : ∀ t ∈ s :: rest, listed.getD t true = false) (hi : i ∈ s :: rest) (hr : i ∈ Region.ready .any ops listed) : i = s := by
 obtain ⟨pre, hp⟩ := hp
 rcases List.mem_cons.1 hi with h | h
 ·exact h
 ·exfalso
  obtain ⟨l1, l2, hl⟩ := List.append_of_mem h
  -- the one ahead of i
  obtain ⟨q, l1', hq⟩ : ∃ q l1', s :: l1 = l1' ++ [q] := ⟨(s :: l1).getLast (by simp), (s :: l1).dropLast, (List.dropLast_concat_getLast (by simp)).symm⟩
  have hss : ss = (pre ++ l1') ++ q :: i :: l2 := by
   rw [hp, hl, ← List.cons_append, hq]
   simp
  rw [hss] at hc
  have hw := chainS_spec _ _ _ _ hc
  obtain ⟨o', ho', e, he, hb, hon⟩ := Region.waitsFor_spec hw
  obtain ⟨_, oi, hoi, hall⟩ := mem_ready.1 hr
  rw [hoi] at ho'
  injection ho' with ho'
  subst ho'
  have h1 := hall e he hb
  rw [hon] at h1
  have hqm : q ∈ s :: rest := by
   rw [hl, ← List.cons_append, hq]
   simp
  rw [getD_both (hun q hqm)] at h1
  cases h1
theorem ready_some {ss : List Nat} {listed : Array Bool} (hB : ∀ i, i < ops.size → freeOne ops ss i = true) (hsz : listed.size = ops.size) : ∀ i, i < ops.size → listed.getD i true = false → ∃ j, j ∈ Region.ready .any ops listed := by
 intro i
 induction i using Nat.strongRecOn with
 | _ i ih =>
  intro hi hl
  obtain ⟨o, ho⟩ : ∃ o, ops[i]? = some o := ⟨ops[i]'(by omega), Array.getElem?_eq_getElem (by omega)⟩
  obtain ⟨h3, _⟩ := freeOne_spec ho (hB i hi)
  by_cases hall : ∀ e ∈ o.after, Region.binds .any e = true → listed.getD e.on false = true
  ·exact ⟨i, mem_ready.2 ⟨hl, o, ho, hall⟩⟩
  ·have : ∃ e ∈ o.after, Region.binds .any e = true ∧ ¬ listed.getD e.on false = true := by
    apply Classical.byContradiction
    intro hno
    exact hall fun e he hb => Classical.byContradiction fun hl => hno ⟨e, he, hb, hl⟩
   obtain ⟨e, he, hb, hne⟩ := this
   have hlt := h3 e he hb
   exact ih e.on hlt (by omega) (getD_in (by omega) (by simpa using hne))
theorem free_later {ss : List Nat} {A : Act} {o os : Oper} {j s : Nat} {v : Value} (hns : Region.noSelect ops = true) (hB : ∀ i, i < ops.size → freeOne ops ss i = true) (ho : ops[j]? = some o) (hos : ops[s]? = some os) (hj : j ∉ ss) (hs : s ∈ ss) (hnw : Region.waitsFor .any ops s j ≠ true) (h : FreeOK P S ops A o) : FreeOK P S ops (A.put os.dst v) o := by
 obtain ⟨u, hu, hst⟩ := h
 have hjl := (Array.getElem?_eq_some_iff.1 ho).1
 have hsl := (Array.getElem?_eq_some_iff.1 hos).1
 have hne : j ≠ s := fun e => hj (e ▸ hs)
 have hdd : ∀ d, os.dst = some d → o.dst ≠ some d := fun d hd => (freeOne_spec ho (hB j hjl)).2.2.1 s d hsl (by unfold dstOf; rw [hos]; exact hd) hne
 have hcomm : ∀ z, (A.put os.dst v).put o.dst z = (A.put o.dst z).put os.dst v := fun z => Act.put_comm A v z hdd
 refine ⟨u, by rw [hcomm, hu], fun W hS => ?_⟩
 have hl := looks_same (a := A.put os.dst v) (b := A) hns ho fun x hx => put_other _ _ _ _ fun e => by
  have := (freeOne_spec ho (hB j hjl)).2.2.2 s x hsl (by unfold dstOf; rw [hos]; exact e) hx
  rcases this with ⟨_, _, h | h⟩ | ⟨_, _, h⟩
  ·exact hj h
  ·exact h hs
  ·exact hnw h
 exact stepV_same (put_size _ _ _) hl.1 hl.2 (fun z W' hz => ⟨by rw [hcomm, hcomm, hz.1], hz.2⟩) (hst W hS)
set_option maxHeartbeats 1000000 in
theorem free_any {ss : List Nat} {keep : Bool} {N : Act → World → Prop} {step : Nat → (Act → World → Prop) → Act → World → Prop} (hB : freeB ops ss keep = true)
  (hs : ∀ i o K a w, ops[i]? = some o → noDefer o = true → stepV P ops o a w (fun v w' => K (a.put o.dst v) w') → step i K a w) :
  ∀ (m : Nat) (listed : Array Bool) (a A : Act) (W : World) (rest : List Nat), toCome listed ops.size = m → FInv P S ops ss listed a A rest → (S W ∨ ∀ j, j < ops.size → j ∉ ss → listed.getD j true = true) → spineI P S ops keep N rest A W → anyG (Region.ready .any ops) N step m listed a W := by
 unfold freeB at hB
 simp only [Bool.and_eq_true] at hB
 obtain ⟨⟨⟨⟨_, hns⟩, hone⟩, hchain⟩, hkeep⟩ := hB
 have hB : ∀ i, i < ops.size → freeOne ops ss i = true := fun i hi => List.all_eq_true.1 hone i (List.mem_range.2 hi)
 intro m
 induction m with
 | zero =>
  intro listed a A W rest hc inv hS hsp
  have hl := toCome_zero listed ops.size hc
  have hrest : rest = [] := by
   cases rest with
   | nil => rfl
   | cons s r =>
    have h1 := inv.un s (List.mem_cons_self ..)
    by_cases hs : s < ops.size
    ·rw [hl s hs] at h1; cases h1
    ·rw [Array.getD_eq_getD_getElem?, Array.getElem?_eq_none (by rw [inv.size]; omega)] at h1
     cases h1
  subst hrest
  have haA : a = A := by
   obtain ⟨t, d⟩ := a
   obtain ⟨t', d'⟩ := A
   have h1 : t = t' := by
    apply Array.ext_getElem?
    intro x
    exact inv.same x fun j hj _ hf => by rw [hl j hj] at hf; cases hf
   have h2 : d = d' := inv.defers
   rw [h1, h2]
  subst haA
  refine ⟨?_, hsp⟩
  cases hr : Region.ready .any ops listed with
  | nil => rfl
  | cons i r =>
   have : i ∈ Region.ready .any ops listed := by rw [hr]; exact List.mem_cons_self ..
   obtain ⟨h1, o, ho, _⟩ := mem_ready.1 this
   rw [hl i (Array.getElem?_eq_some_iff.1 ho).1] at h1
   cases h1
 | succ m ih =>
  intro listed a A W rest hc inv hS hsp
  obtain ⟨j, hj, hjl⟩ := toCome_pos listed ops.size (by omega)
  unfold anyG
  refine ⟨fun hnil => ?_, fun i hi => ?_⟩
  ·obtain ⟨k, hk⟩ := ready_some hB inv.size j hj hjl
   rw [hnil] at hk; cases hk
  ·obtain ⟨hil, o, ho, hall⟩ := mem_ready.1 hi
   have hisz := (Array.getElem?_eq_some_iff.1 ho).1
   have hcount := toCome_set listed i hil ops.size
   rw [if_pos hisz] at hcount
   have hspec := freeOne_spec ho (hB i hisz)
   have hwait : ∀ k, Region.waitsFor .any ops i k = true → listed.getD k true = true := fun k hw => by
    obtain ⟨o', ho', e, he, hb, hon⟩ := Region.waitsFor_spec hw
    rw [ho] at ho'
    injection ho' with ho'
    subst ho'
    have h1 := hall e he hb
    rw [hon] at h1
    cases hk : listed.getD k true with
    | true => rfl
    | false => rw [getD_both hk] at h1; cases h1
   have hlook := looks_same (a := a) (b := A) hns ho fun x hx => inv.same x fun k hk hks hkl hd => by
    rcases hspec.2.2.2 k x hk hd hx with h | h
    ·have := hwait k h.2.1
     rw [this] at hkl; cases hkl
    ·exact hks h.1
   have hclosed : ∀ j oj, ops[j]? = some oj → (listed.setIfInBounds i true).getD j false = true → ∀ e ∈ oj.after, Region.binds .any e = true → (listed.setIfInBounds i true).getD e.on false = true := fun j oj hj hl e he hb => by
    by_cases hij : i = j
    ·subst hij
     rw [ho] at hj
     injection hj with hj
     subst hj
     exact getD_set_true (hall e he hb)
    ·rw [getD_set_ne false hij] at hl
     exact getD_set_true (inv.closed j oj hj hl e he hb)
   have hdst : dstOf ops i = o.dst := by unfold dstOf; rw [ho]; rfl
   refine hs i o _ a W ho hspec.2.1 ?_
   by_cases hiss : i ∈ ss
   ·-- one of those that come one after the other
    have hir := inv.all i hiss hil
    cases rest with
    | nil => cases hir
    | cons s r =>
     obtain rfl := spine_first hchain inv.pre inv.un hir hi
     -- what is known behind it
     have next : ∀ v W', spineI P S ops keep N r (A.put o.dst v) W' → (S W' ∨ ∀ j, j < ops.size → j ∉ ss → listed.getD j true = true) → anyG (Region.ready .any ops) N step m (listed.setIfInBounds i true) (a.put o.dst v) W' := fun v W' hsp' hS' => by
      have hir' : i ∉ r := fun hm => by
       -- i is in ss twice: no
       obtain ⟨pre, hp⟩ := inv.pre
       obtain ⟨l1, l2, hl⟩ := List.append_of_mem hm
       obtain ⟨q, l1', hq⟩ : ∃ q l1', i :: l1 = l1' ++ [q] := ⟨(i :: l1).getLast (by simp), (i :: l1).dropLast, (List.dropLast_concat_getLast (by simp)).symm⟩
       have hss : ss = (pre ++ l1') ++ q :: i :: l2 := by rw [hp, hl, ← List.cons_append, hq]; simp
       rw [hss] at hchain
       have h1 := hwait q (chainS_spec _ _ _ _ hchain)
       have hqm : q ∈ i :: r := by rw [hl, ← List.cons_append, hq]; simp
       rw [inv.un q hqm] at h1
       cases h1
      refine ih _ _ (A.put o.dst v) W' r (by omega) ⟨by simp [inv.size], hclosed, ?_, fun t ht => ?_, fun t ht htl => ?_, by rw [put_size, put_size, inv.tsize], by rw [put_defs, put_defs, inv.defers], fun x hx => ?_, fun j oj hoj hjs hjl => ?_⟩ (hS'.imp id fun h j hj hjs => ?_) hsp'
      ·obtain ⟨pre, hp⟩ := inv.pre; exact ⟨pre ++ [i], by rw [hp]; simp⟩
      ·have : i ≠ t := fun e => hir' (e ▸ ht)
       rw [getD_set_ne true this]; exact inv.un t (List.mem_cons_of_mem _ ht)
      ·by_cases hti : i = t
       ·subst hti
        have : i < listed.size := by rw [inv.size]; exact hisz
        simp [this] at htl
       ·rw [getD_set_ne true hti] at htl
        exact (List.mem_cons.1 (inv.all t ht htl)).resolve_left (fun e => hti e.symm)
      ·by_cases hdx : o.dst = some x
       ·rw [hdx, put_same, put_same, inv.tsize]
       ·rw [put_other _ _ _ _ hdx, put_other _ _ _ _ hdx]
        refine inv.same x fun j hj hjs hjl => hx j hj hjs ?_
        rw [getD_set_ne true (fun e => hjs (by rw [← e]; exact hiss))]; exact hjl
      ·have hji : i ≠ j := fun e => hjs (e ▸ hiss)
       rw [getD_set_ne true hji] at hjl
       exact free_later hns hB hoj ho hjs hiss (fun hw => by have := hwait j hw; rw [this] at hjl; cases hjl) (inv.free j oj hoj hjs hjl)
      ·rw [getD_set_ne true (fun e => hjs (by rw [← e]; exact hiss))]; exact h j hj hjs
     cases r with
     | nil =>
      refine stepV_same inv.tsize hlook.1 hlook.2 (fun v W' hv => next v W' hv.2 ?_) (hsp o ho)
      cases hk : keep with
      | true => exact .inl (hv.1 hk)
      | false =>
       right
       intro j hj hjs
       rw [hk] at hkeep
       simp only [Bool.false_or] at hkeep
       have := List.all_eq_true.1 hkeep j (List.mem_range.2 hj)
       simp only [Bool.or_eq_true, List.contains_iff_mem] at this
       have hw := this.resolve_left hjs
       obtain ⟨pre, hp⟩ := inv.pre
       rw [hp, List.getLastD_eq_getLast?, List.getLast?_append] at hw
       simp at hw
       exact hwait j hw
     | cons t r => exact stepV_same inv.tsize hlook.1 hlook.2 (fun v W' hv => next v W' hv.2 (.inl hv.1)) (hsp o ho)
   ·-- one whose value is settled
    have hSW : S W := hS.resolve_right fun h => by have := h i hisz hiss; rw [this] at hil; cases hil
    obtain ⟨u, hu, hst⟩ := inv.free i o ho hiss hil
    refine stepV_same inv.tsize hlook.1 hlook.2 (fun v W' hv => ?_) (hst W hSW)
    obtain ⟨hv, rfl⟩ := hv
    have hAv : A.put o.dst v = A := by rw [hv, hu]
    refine ih _ _ A W' rest (by omega) ⟨by simp [inv.size], hclosed, inv.pre, fun t ht => ?_, fun t ht htl => ?_, by rw [put_size, inv.tsize], by rw [put_defs, inv.defers], fun x hx => ?_, fun j oj hoj hjs hjl => ?_⟩ (.inl hSW) hsp
    ·have htss : t ∈ ss := by obtain ⟨pre, hp⟩ := inv.pre; rw [hp]; exact List.mem_append_right _ ht
     rw [getD_set_ne true (fun e => hiss (by rw [e]; exact htss))]; exact inv.un t ht
    ·rw [getD_set_ne true (fun e => hiss (by rw [e]; exact ht))] at htl
     exact inv.all t ht htl
    ·by_cases hdx : o.dst = some x
     ·have h1 : A.tmps[x]? = (A.put (some x) v).tmps[x]? := by rw [hdx] at hAv; rw [hAv]
      rw [h1, hdx, put_same, put_same, inv.tsize]
     ·rw [put_other _ _ _ _ hdx]
      refine inv.same x fun j hj hjs hjl => ?_
      by_cases hij : i = j
      ·subst hij; rw [hdst]; exact hdx
      ·exact hx j hj hjs (by rw [getD_set_ne true hij]; exact hjl)
    ·by_cases hij : i = j
     ·subst hij
      have : i < listed.size := by rw [inv.size]; exact hisz
      simp [this] at hjl
     ·rw [getD_set_ne true hij] at hjl
      exact inv.free j oj hoj hjs hjl
def chainF (P : Program) (S : World → Prop) (ops : Array Oper) (K : Act → Prop) : List Nat → Act → Prop
 | [], a => K a
 | i :: r, a => ∀ o, ops[i]? = some o → ∃ v, (∀ W, S W → stepV P ops o a W (fun v' W' => a.put o.dst v' = a.put o.dst v ∧ W' = W)) ∧ chainF P S ops K r (a.put o.dst v)
theorem chainF_op {K0 : Act → Prop} {i : Nat} {r : List Nat} {a : Act} {o : Oper} (ho : ops[i]? = some o) (v : Value)
  (h : ∀ W, S W → ∀ K : Act → World → Prop, K (a.put o.dst v) W → if Region.wanted o (yielded ops a.tmps) = true then o.wp P a W K NoQ else K (a.put o.dst undef) W) (hr : chainF P S ops K0 r (a.put o.dst v)) : chainF P S ops K0 (i :: r) a := by
 intro o' ho'
 rw [ho] at ho'
 injection ho' with ho'
 subst ho'
 refine ⟨v, fun W hS => ?_, hr⟩
 have := h W hS (fun a' w' => a' = a.put o.dst v ∧ w' = W) ⟨rfl, rfl⟩
 unfold stepV
 by_cases hc : Region.wanted o (yielded ops a.tmps) = true
 ·rw [if_pos hc] at this ⊢
  exact Oper.wp_mono (fun a' w' h => ⟨v, h.1, rfl, h.2⟩) this
 ·rw [if_neg hc] at this ⊢
  exact this
theorem wanted_none {o : Oper} (hg : o.guard = none) (y : Nat → Option Bool) : Region.wanted o y = true := by unfold Region.wanted; rw [hg]
theorem chainF_opN {K0 : Act → Prop} {i : Nat} {r : List Nat} {a : Act} {o : Oper} (ho : ops[i]? = some o) (hg : o.guard = none) (v : Value)
  (h : ∀ W, S W → ∀ K : Act → World → Prop, K (a.put o.dst v) W → o.wp P a W K NoQ) (hr : chainF P S ops K0 r (a.put o.dst v)) : chainF P S ops K0 (i :: r) a :=
 chainF_op ho v (fun W hS K hK => by rw [if_pos (wanted_none hg _)]; exact h W hS K hK) hr
theorem chainF_nil {K0 : Act → Prop} {a : Act} (h : K0 a) : chainF P S ops K0 [] a := h
theorem spine_op {keep : Bool} {N : Act → World → Prop} {s t : Nat} {r : List Nat} {a : Act} {w : World} {o : Oper} (ho : ops[s]? = some o)
  (h : ∀ K : Act → World → Prop, (∀ v w', S w' → spineI P S ops keep N (t :: r) (a.put o.dst v) w' → K (a.put o.dst v) w') → if Region.wanted o (yielded ops a.tmps) = true then o.wp P a w K NoQ else K (a.put o.dst undef) w) : spineI P S ops keep N (s :: t :: r) a w := by
 intro o' ho'
 rw [ho] at ho'
 injection ho' with ho'
 subst ho'
 have := h (fun a' w' => ∃ v, a' = a.put o.dst v ∧ S w' ∧ spineI P S ops keep N (t :: r) (a.put o.dst v) w') (fun v w' h1 h2 => ⟨v, rfl, h1, h2⟩)
 unfold stepV
 by_cases hc : Region.wanted o (yielded ops a.tmps) = true
 ·rw [if_pos hc] at this ⊢
  exact this
 ·rw [if_neg hc] at this ⊢
  obtain ⟨v, hv, h1, h2⟩ := this
  exact ⟨h1, by rw [hv]; exact h2⟩
theorem spine_opN {keep : Bool} {N : Act → World → Prop} {s t : Nat} {r : List Nat} {a : Act} {w : World} {o : Oper} (ho : ops[s]? = some o) (hg : o.guard = none)
  (h : ∀ K : Act → World → Prop, (∀ v w', S w' → spineI P S ops keep N (t :: r) (a.put o.dst v) w' → K (a.put o.dst v) w') → o.wp P a w K NoQ) : spineI P S ops keep N (s :: t :: r) a w :=
 spine_op ho fun K hK => by rw [if_pos (wanted_none hg _)]; exact h K hK
theorem spine_last {keep : Bool} {N : Act → World → Prop} {s : Nat} {a : Act} {w : World} {o : Oper} (ho : ops[s]? = some o)
  (h : ∀ K : Act → World → Prop, (∀ v w', (keep = true → S w') → N (a.put o.dst v) w' → K (a.put o.dst v) w') → if Region.wanted o (yielded ops a.tmps) = true then o.wp P a w K NoQ else K (a.put o.dst undef) w) : spineI P S ops keep N [s] a w := by
 intro o' ho'
 rw [ho] at ho'
 injection ho' with ho'
 subst ho'
 have := h (fun a' w' => ∃ v, a' = a.put o.dst v ∧ (keep = true → S w') ∧ N (a.put o.dst v) w') (fun v w' h1 h2 => ⟨v, rfl, h1, h2⟩)
 unfold stepV
 by_cases hc : Region.wanted o (yielded ops a.tmps) = true
 ·rw [if_pos hc] at this ⊢
  exact this
 ·rw [if_neg hc] at this ⊢
  obtain ⟨v, hv, h1, h2⟩ := this
  exact ⟨h1, by rw [hv]; exact h2⟩
theorem spine_lastN {keep : Bool} {N : Act → World → Prop} {s : Nat} {a : Act} {w : World} {o : Oper} (ho : ops[s]? = some o) (hg : o.guard = none)
  (h : ∀ K : Act → World → Prop, (∀ v w', (keep = true → S w') → N (a.put o.dst v) w' → K (a.put o.dst v) w') → o.wp P a w K NoQ) : spineI P S ops keep N [s] a w :=
 spine_last ho fun K hK => by rw [if_pos (wanted_none hg _)]; exact h K hK
theorem chainF_opL {l : List Oper} {K0 : Act → Prop} {i : Nat} {r : List Nat} {a : Act} {o : Oper} (ho : l[i]? = some o) (hg : o.guard = none) (v : Value)
  (h : ∀ W, S W → ∀ K : Act → World → Prop, K (a.put o.dst v) W → o.wp P a W K NoQ) (hr : chainF P S l.toArray K0 r (a.put o.dst v)) : chainF P S l.toArray K0 (i :: r) a := chainF_opN (by rw [List.getElem?_toArray]; exact ho) hg v h hr
theorem spine_opL {l : List Oper} {keep : Bool} {N : Act → World → Prop} {s t : Nat} {r : List Nat} {a : Act} {w : World} {o : Oper} (ho : l[s]? = some o) (hg : o.guard = none)
  (h : ∀ K : Act → World → Prop, (∀ v w', S w' → spineI P S l.toArray keep N (t :: r) (a.put o.dst v) w' → K (a.put o.dst v) w') → o.wp P a w K NoQ) : spineI P S l.toArray keep N (s :: t :: r) a w := spine_opN (by rw [List.getElem?_toArray]; exact ho) hg h
theorem spine_lastL {l : List Oper} {keep : Bool} {N : Act → World → Prop} {s : Nat} {a : Act} {w : World} {o : Oper} (ho : l[s]? = some o) (hg : o.guard = none)
  (h : ∀ K : Act → World → Prop, (∀ v w', (keep = true → S w') → N (a.put o.dst v) w' → K (a.put o.dst v) w') → o.wp P a w K NoQ) : spineI P S l.toArray keep N [s] a w := spine_lastN (by rw [List.getElem?_toArray]; exact ho) hg h
theorem put_some (t : List Value) (ds : List Deferred) (d : Tmp) (v : Value) : ({ tmps := t.toArray, defers := ds } : Act).put (some d) v = { tmps := (t.set d v).toArray, defers := ds } := by simp [Act.put]
theorem put_none (a : Act) (v : Value) : a.put none v = a := rfl
theorem put_whole {A : Act} {x : Tmp} {v : Value} (h : A.tmps[x]? = if x < A.tmps.size then some v else none) : A.put (some x) v = A := by
 have h5 : (A.put (some x) v).tmps = A.tmps := by
  apply Array.ext_getElem?
  intro y
  by_cases hy : x = y
  ·subst hy
   rw [put_same, h]
  ·rw [put_other _ _ _ _ (fun e => hy (by injection e))]
 have h6 : (A.put (some x) v).defers = A.defers := put_defs _ _ _
 cases hA : A.put (some x) v
 rw [hA] at h5 h6
 subst h5
 subst h6
 rfl
theorem chainF_spec {ss : List Nat} (hns : Region.noSelect ops = true) (hB : ∀ i, i < ops.size → freeOne ops ss i = true) {K : Act → Prop} : ∀ (is : List Nat) (a : Act), is.Pairwise (· < ·) → (∀ i ∈ is, i < ops.size ∧ i ∉ ss) → chainF P S ops K is a →
  ∃ A, K A ∧ A.tmps.size = a.tmps.size ∧ A.defers = a.defers ∧ (∀ x : Tmp, (∀ j ∈ is, dstOf ops j ≠ some x) → A.tmps[x]? = a.tmps[x]?) ∧ ∀ i ∈ is, ∀ o, ops[i]? = some o → FreeOK P S ops A o
 | [], a, _, _, hc => ⟨a, hc, rfl, rfl, fun _ _ => rfl, fun i hi => (by cases hi)⟩
 | i :: r, a, hp, hr, hc => by
  have hi := (hr i (List.mem_cons_self ..)).1
  have his := (hr i (List.mem_cons_self ..)).2
  obtain ⟨o, ho⟩ : ∃ o, ops[i]? = some o := ⟨ops[i]'hi, Array.getElem?_eq_getElem hi⟩
  obtain ⟨v, hst, hc⟩ := hc o ho
  have hdst : dstOf ops i = o.dst := by unfold dstOf; rw [ho]; rfl
  rw [List.pairwise_cons] at hp
  obtain ⟨A, hK, h1, h2, h3, h4⟩ := chainF_spec hns hB r _ hp.2 (fun j hj => hr j (List.mem_cons_of_mem _ hj)) hc
  have hspec := freeOne_spec ho (hB i hi)
  refine ⟨A, hK, by rw [h1, put_size], by rw [h2, put_defs], fun x hx => ?_, fun j hj oj hoj => ?_⟩
  ·rw [h3 x (fun j hj => hx j (List.mem_cons_of_mem _ hj)), put_other _ _ _ _ (by rw [← hdst]; exact hx i (List.mem_cons_self ..))]
  ·rcases List.mem_cons.1 hj with e | hjr
   ·subst e
    rw [ho] at hoj
    injection hoj with hoj
    subst hoj
    refine ⟨v, ?_, fun W hS => ?_⟩
    ·cases hd : o.dst with
     | none => rfl
     | some x =>
      refine put_whole ?_
      rw [h3 x (fun k hk hkd => by
       have hne : j ≠ k := fun e => by have := hp.1 k hk; omega
       exact hspec.2.2.1 k x (hr k (List.mem_cons_of_mem _ hk)).1 hkd hne hd), hd, put_same, h1, put_size]
    ·have hl := looks_same (a := A) (b := a) hns ho fun x hx => by
      rw [h3 x (fun k hk hkd => by
       have h1 := hp.1 k hk
       rcases hspec.2.2.2 k x (hr k (List.mem_cons_of_mem _ hk)).1 hkd hx with h | h
       ·omega
       ·exact (hr k (List.mem_cons_of_mem _ hk)).2 h.1), put_other _ _ _ _ (fun e => by
       rcases hspec.2.2.2 j x hi (by rw [hdst]; exact e) hx with h | h
       ·omega
       ·exact his h.1)]
     exact stepV_same (by rw [h1, put_size]) hl.1 hl.2 (fun z W' hz => ⟨put_like (by rw [h1, put_size]) hz.1, hz.2⟩) (hst W hS)
   ·exact h4 j hjr oj hoj
theorem free_begin {l : List Oper} {ss fs : List Nat} {keep : Bool} {a : Act} {w : World} {N : Act → World → Prop} {step : Nat → (Act → World → Prop) → Act → World → Prop} (hB : freeB l.toArray ss keep = true) (hF : fs = (List.range l.toArray.size).filter fun i => !ss.contains i)
  (hs : ∀ i o K a w, l.toArray[i]? = some o → noDefer o = true → stepV P l.toArray o a w (fun v w' => K (a.put o.dst v) w') → step i K a w) (hS : S w)
  (hc : chainF P S l.toArray (fun A => spineI P S l.toArray keep N ss A w) fs a) : anyG (Region.ready .any l.toArray) N step l.toArray.size (Array.replicate l.toArray.size false) a w := by
 have hB' := hB
 unfold freeB at hB'
 simp only [Bool.and_eq_true] at hB'
 obtain ⟨⟨⟨⟨hssz, hns⟩, hone⟩, _⟩, _⟩ := hB'
 have hone' : ∀ i, i < l.toArray.size → freeOne l.toArray ss i = true := fun i hi => List.all_eq_true.1 hone i (List.mem_range.2 hi)
 obtain ⟨A, hA, h1, h2, h3, h4⟩ := chainF_spec hns hone' fs a (by rw [hF]; exact (List.pairwise_lt_range).filter _) (fun i hi => by rw [hF] at hi; exact ⟨List.mem_range.1 (List.mem_filter.1 hi).1, by simpa using (List.mem_filter.1 hi).2⟩) hc
 have hun : ∀ j, j < l.toArray.size → (Array.replicate l.toArray.size false).getD j true = false := fun j hj => getD_in (by simpa using hj) (getD_replicate_false _ _)
 have hmem : ∀ j, j < l.toArray.size → j ∉ ss → j ∈ fs := fun j hj hjs => by
  rw [hF]
  refine List.mem_filter.2 ⟨List.mem_range.2 hj, ?_⟩
  simp [hjs]
 refine free_any (P := P) (S := S) hB hs l.toArray.size (Array.replicate l.toArray.size false) a A w ss (toCome_start _ _ (Nat.le_refl _)) ⟨by simp, fun j oj _ hl => (by rw [getD_replicate_false] at hl; cases hl), ⟨[], rfl⟩, fun s hs => ?_, fun s hs _ => hs, h1.symm, h2.symm, fun x hx => ?_, fun j o ho hjs _ => ?_⟩ (.inl hS) hA
 ·exact hun s (by have := List.all_eq_true.1 hssz s hs; simpa using this)
 ·exact (h3 x fun j hj => by
   rw [hF] at hj
   obtain ⟨hj1, hj2⟩ := List.mem_filter.1 hj
   have hj1 := List.mem_range.1 hj1
   exact hx j hj1 (by simpa using hj2) (hun j hj1)).symm
 ·exact h4 j (hmem j (Array.getElem?_eq_some_iff.1 ho).1 hjs) o ho
theorem region_free_FR {ro : Option Nat} {id n : Nat} {l : List Oper} {Q : Exit → Act → World → Prop} {a : Act} {w : World} (hm : P.follows .mixedOrders = true) (ss fs : List Nat) (keep : Bool) (hB : freeB l.toArray ss keep = true) (hF : fs = (List.range l.toArray.size).filter fun i => !ss.contains i) (S : World → Prop) (hS : S w.drew)
  (hc : chainF P S l.toArray (fun A => spineI P S l.toArray keep (Q .normal) ss A w.drew) fs a) : (Code.region id l.toArray true).wpIn (FR ro) n P Q a w := by
 refine wpIn_region_any hm ?_
 rw [← anyG_in]
 refine free_begin (P := P) (S := S) hB hF (fun i o K a w ho hd hw => ?_) hS hc
 unfold wpOpIn
 rw [ho]
 unfold stepV at hw
 by_cases hc : Region.wanted o (yielded l.toArray a.tmps) = true
 ·rw [if_pos hc] at hw
  show (if Region.wanted o _ = true then _ else _)
  rw [if_pos hc]
  exact operFR (ro := ro) hd (oper_weak (Oper.wp_mono (fun a' w' ⟨v, hv, hk⟩ => by rw [hv]; exact hk) hw))
 ·rw [if_neg hc] at hw
  show (if Region.wanted o _ = true then _ else _)
  rw [if_neg hc]
  exact ⟨fun _ _ => trivial, hw⟩
theorem region_free_wide {id n : Nat} {l : List Oper} {Q : Exit → Act → World → Prop} {a : Act} {w : World} (hm : P.follows .mixedOrders = true) (ss fs : List Nat) (keep : Bool) (hB : freeB l.toArray ss keep = true) (hF : fs = (List.range l.toArray.size).filter fun i => !ss.contains i) (S : World → Prop) (hS : S w.drew)
  (hc : chainF P S l.toArray (fun A => spineI P S l.toArray keep (Q .normal) ss A w.drew) fs a) : (Code.region id l.toArray true).wpIn Fence.wide n P Q a w := region_free_FR (ro := none) hm ss fs keep hB hF S hS hc
theorem region_free {id : Nat} {l : List Oper} {Q : Exit → Act → World → Prop} {a : Act} {w : World} (hm : P.follows .mixedOrders = true) (ss fs : List Nat) (keep : Bool) (hB : freeB l.toArray ss keep = true) (hF : fs = (List.range l.toArray.size).filter fun i => !ss.contains i) (S : World → Prop) (hS : S w.drew)
  (hc : chainF P S l.toArray (fun A => spineI P S l.toArray keep (Q .normal) ss A w.drew) fs a) : (Code.region id l.toArray true).wp P Q a w := (wpIn_wide (n := 0)).1 (region_free_wide hm ss fs keep hB hF S hS hc)
end
end Go.Proofs.YtccgfladbibjbaaGreatDoor
