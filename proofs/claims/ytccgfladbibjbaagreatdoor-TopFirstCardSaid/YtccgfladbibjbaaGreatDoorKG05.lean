/- A region that draws its order, in two phases: free operations, a spine, and operations that wait for the spine's last and are settled behind it. -/
import Derived.Test.YtccgfladbibjbaaGreatDoorKG04
namespace Go.Proofs.YtccgfladbibjbaaGreatDoor
open Go Go.RowKit
section
variable {P : Program} {S : World → Prop} {ops : Array Oper}
structure FInvP (P : Program) (S : World → Prop) (ops : Array Oper) (ss ts : List Nat) (listed : Array Bool) (a A : Act) (rest : List Nat) : Prop where
 size : listed.size = ops.size
 closed : ∀ j oj, ops[j]? = some oj → listed.getD j false = true → ∀ e ∈ oj.after, Region.binds .any e = true → listed.getD e.on false = true
 pre : ∃ pre, ss = pre ++ rest
 un : ∀ s ∈ rest, listed.getD s true = false
 all : ∀ s ∈ ss, listed.getD s true = false → s ∈ rest
 tsize : a.tmps.size = A.tmps.size
 defers : a.defers = A.defers
 same : ∀ x : Tmp, (∀ j, j < ops.size → j ∉ ss → listed.getD j true = false → dstOf ops j ≠ some x) → a.tmps[x]? = A.tmps[x]?
 free : ∀ j o, ops[j]? = some o → j ∉ ss → j ∉ ts → listed.getD j true = false → FreeOKL P S ops A o
theorem freeP_later {ss ts : List Nat} {A : Act} {o os : Oper} {j s : Nat} {v : Value} (hns : Region.noSelect ops = true) (hB : ∀ i, i < ops.size → i ∉ ts → freeOne ops ss i = true) (ho : ops[j]? = some o) (hos : ops[s]? = some os) (hj : j ∉ ss) (hjt : j ∉ ts) (hs : s ∈ ss) (hnw : Region.waitsFor .any ops s j ≠ true) (h : FreeOKL P S ops A o) : FreeOKL P S ops (A.put os.dst v) o := by
 obtain ⟨u, hu, hst⟩ := h
 have hjl := (Array.getElem?_eq_some_iff.1 ho).1
 have hsl := (Array.getElem?_eq_some_iff.1 hos).1
 have hne : j ≠ s := fun e => hj (e ▸ hs)
 have hdd : ∀ d, os.dst = some d → o.dst ≠ some d := fun d hd => (freeOne_spec ho (hB j hjl hjt)).2.2.1 s d hsl (by unfold dstOf; rw [hos]; exact hd) hne
 have hcomm : ∀ z, (A.put os.dst v).put o.dst z = (A.put o.dst z).put os.dst v := fun z => Act.put_comm A v z hdd
 refine ⟨u, by rw [hcomm, hu], fun W hS => ?_⟩
 have hl := looks_same (a := A.put os.dst v) (b := A) hns ho fun x hx => put_other _ _ _ _ fun e => by
  have := (freeOne_spec ho (hB j hjl hjt)).2.2.2 s x hsl (by unfold dstOf; rw [hos]; exact e) hx
  rcases this with ⟨_, _, h | h⟩ | ⟨_, _, h⟩
  ·exact hj h
  ·exact h hs
  ·exact hnw h
 exact stepV_same (put_size _ _ _) hl.1 hl.2 (fun z W' hz => ⟨by rw [hcomm, hcomm, hz.1], hz.2⟩) (hst W hS)
def spineP (P : Program) (S : World → Prop) (ops : Array Oper) (K0 : Act → World → Prop) : List Nat → Act → World → Prop
 | [], a, w => K0 a w
 | s :: r, a, w => ∀ o, ops[s]? = some o → ∀ W, S W → Later w W → stepV P ops o a W (fun v w' => (r ≠ [] → S w') ∧ spineP P S ops K0 r (a.put o.dst v) w')
theorem getD_same {listed : Array Bool} {k : Nat} (h : k < listed.size) : listed.getD k true = listed.getD k false := by
 rw [Array.getD_eq_getD_getElem?, Array.getD_eq_getD_getElem?, Array.getElem?_eq_getElem h]; rfl
theorem spineP_later {K0 : Act → World → Prop} {s : Nat} {r : List Nat} {a : Act} {w w' : World} (h : spineP P S ops K0 (s :: r) a w) (hl : Later w w') : spineP P S ops K0 (s :: r) a w' :=
 fun o ho W hS hW => h o ho W hS (hl.trans hW)
set_option maxHeartbeats 1000000 in
theorem phase_any {ss ts : List Nat} {last : Nat} {N : Act → World → Prop} {step : Nat → (Act → World → Prop) → Act → World → Prop} (hB0 : freeB ops [] true = true) (hB : ∀ i, i < ops.size → i ∉ ts → freeOne ops ss i = true) (hchain : chainS ops ss = true) (_hdis : ∀ s ∈ ss, s ∉ ts) (htl : ∀ t ∈ ts, t < ops.size) (htp : ts.Pairwise (· < ·))
  (hlast : ss.getLast? = some last) (hwl : ∀ i, i < ops.size → i ∉ ss → i ∉ ts → Region.waitsFor .any ops last i = true ∨ ∃ k, k < ops.size ∧ i < k ∧ k ∉ ss ∧ k ∉ ts ∧ Region.waitsFor .any ops k i = true) (hlate : ∀ t ∈ ts, ((last :: ts).any fun u => Region.waitsFor .any ops t u) = true)
  (hs : ∀ i o K a w, ops[i]? = some o → noDefer o = true → stepV P ops o a w (fun v w' => K (a.put o.dst v) w') → step i K a w) :
  ∀ (m : Nat) (listed : Array Bool) (a A : Act) (W : World) (s : Nat) (rest : List Nat), toCome listed ops.size = m → FInvP P S ops ss ts listed a A (s :: rest) → S W → (∀ t ∈ ts, listed.getD t true = false) → spineP P S ops (fun A W => chainL P (fun W' => W' = W) ops (fun A2 => N A2 W) ts A) (s :: rest) A W → anyG (Region.ready .any ops) N step m listed a W := by
 have hB0' := hB0
 unfold freeB at hB0'
 simp only [Bool.and_eq_true] at hB0'
 obtain ⟨⟨⟨⟨_, hns⟩, hone⟩, _⟩, _⟩ := hB0'
 have hone' : ∀ i, i < ops.size → freeOne ops [] i = true := fun i hi => List.all_eq_true.1 hone i (List.mem_range.2 hi)
 intro m
 induction m with
 | zero =>
  intro listed a A W s rest hc inv hS hts hsp
  have hl := toCome_zero listed ops.size hc
  have h1 := inv.un s (List.mem_cons_self ..)
  by_cases hs : s < ops.size
  ·rw [hl s hs] at h1; cases h1
  ·rw [Array.getD_eq_getD_getElem?, Array.getElem?_eq_none (by rw [inv.size]; omega)] at h1
   cases h1
 | succ m ih =>
  intro listed a A W s rest hc inv hS hts hsp
  obtain ⟨j, hj, hjl⟩ := toCome_pos listed ops.size (by omega)
  unfold anyG
  refine ⟨fun hnil => ?_, fun i hi => ?_⟩
  ·obtain ⟨k, hk⟩ := ready_some (ss := []) hone' inv.size j hj hjl
   rw [hnil] at hk; cases hk
  ·obtain ⟨hil, o, ho, hall⟩ := mem_ready.1 hi
   have hisz := (Array.getElem?_eq_some_iff.1 ho).1
   have hcount := toCome_set listed i hil ops.size
   rw [if_pos hisz] at hcount
   have hwait : ∀ k, Region.waitsFor .any ops i k = true → listed.getD k true = true := fun k hw => by
    obtain ⟨o', ho', e, he, hb, hon⟩ := Region.waitsFor_spec hw
    rw [ho] at ho'
    injection ho' with ho'
    subst ho'
    have h1 := hall e he hb
    rw [hon] at h1
    cases hk : listed.getD k true with
    | true => rfl
    | false => rw [getD_both hk] at h1; cases h1
   have hnt : i ∉ ts := fun hit => by
    obtain ⟨u, hu, huw⟩ := List.any_eq_true.1 (hlate i hit)
    have h1 := hwait u huw
    rcases List.mem_cons.1 hu with e | hut
    ·subst e
     obtain ⟨pre, hp⟩ := inv.pre
     have hlm : u ∈ s :: rest := by
      rw [hp, List.getLast?_append] at hlast
      cases hg : (s :: rest).getLast? with
      | none => simp at hg
      | some x =>
       rw [hg] at hlast
       injection hlast with hlast
       subst hlast
       exact List.mem_of_getLast? hg
     rw [inv.un u hlm] at h1
     cases h1
    ·have h2 := hts u hut
     rw [h2] at h1
     cases h1
   have hspec := freeOne_spec ho (hB i hisz hnt)
   have hlook := looks_same (a := a) (b := A) hns ho fun x hx => inv.same x fun k hk hks hkl hd => by
    rcases hspec.2.2.2 k x hk hd hx with h | h
    ·have := hwait k h.2.1
     rw [this] at hkl; cases hkl
    ·exact hks h.1
   have hclosed : ∀ j oj, ops[j]? = some oj → (listed.setIfInBounds i true).getD j false = true → ∀ e ∈ oj.after, Region.binds .any e = true → (listed.setIfInBounds i true).getD e.on false = true := fun j oj hj hl e he hb => by
    by_cases hij : i = j
    ·subst hij
     rw [ho] at hj
     injection hj with hj
     subst hj
     exact getD_set_true (hall e he hb)
    ·rw [getD_set_ne false hij] at hl
     exact getD_set_true (inv.closed j oj hj hl e he hb)
   have hdst : dstOf ops i = o.dst := by unfold dstOf; rw [ho]; rfl
   refine hs i o _ a W ho hspec.2.1 ?_
   by_cases hiss : i ∈ ss
   ·-- one of those that come one after the other
    have hir := inv.all i hiss hil
    obtain rfl := spine_first hchain inv.pre inv.un hir hi
    have hir' : i ∉ rest := fun hm => by
     obtain ⟨pre, hp⟩ := inv.pre
     obtain ⟨l1, l2, hl⟩ := List.append_of_mem hm
     obtain ⟨q, l1', hq⟩ : ∃ q l1', i :: l1 = l1' ++ [q] := ⟨(i :: l1).getLast (by simp), (i :: l1).dropLast, (List.dropLast_concat_getLast (by simp)).symm⟩
     have hss : ss = (pre ++ l1') ++ q :: i :: l2 := by rw [hp, hl, ← List.cons_append, hq]; simp
     rw [hss] at hchain
     have h1 := hwait q (chainS_spec _ _ _ _ hchain)
     have hqm : q ∈ i :: rest := by rw [hl, ← List.cons_append, hq]; simp
     rw [inv.un q hqm] at h1
     cases h1
    have hils : i < listed.size := by rw [inv.size]; exact hisz
    have hts' : ∀ t ∈ ts, (listed.setIfInBounds i true).getD t true = false := fun t ht => by
     rw [getD_set_ne true (fun e : i = t => hnt (by rw [e]; exact ht))]; exact hts t ht
    have hsame : ∀ v (x : Tmp), (∀ j, j < ops.size → j ∉ ss → (listed.setIfInBounds i true).getD j true = false → dstOf ops j ≠ some x) → (a.put o.dst v).tmps[x]? = (A.put o.dst v).tmps[x]? := fun v x hx => by
     by_cases hdx : o.dst = some x
     ·rw [hdx, put_same, put_same, inv.tsize]
     ·rw [put_other _ _ _ _ hdx, put_other _ _ _ _ hdx]
      refine inv.same x fun j hj hjs hjl => hx j hj hjs ?_
      rw [getD_set_ne true (fun e => hjs (by rw [← e]; exact hiss))]; exact hjl
    refine stepV_same inv.tsize hlook.1 hlook.2 (fun v W' hv => ?_) (hsp o ho W hS (Later.refl W))
    cases rest with
    | nil =>
     have hil' : i = last := by
      obtain ⟨pre, hp⟩ := inv.pre
      rw [hp, List.getLast?_append] at hlast
      simpa using hlast
     have hF1 : ∀ (d j : Nat), ops.size - j ≤ d → j < ops.size → j ∉ ss → j ∉ ts → listed.getD j true = true := by
      intro d
      induction d with
      | zero => intro j h hj; omega
      | succ d ihd =>
       intro j h hj hjs hjt
       rcases hwl j hj hjs hjt with hw | ⟨k, hk, hjk, hks, hkt, hw⟩
       ·rw [← hil'] at hw
        exact hwait j hw
       ·have hl := ihd k (by omega) hk hks hkt
        obtain ⟨o', ho', e, he, hb, hon⟩ := Region.waitsFor_spec hw
        rw [getD_same (by rw [inv.size]; exact hk)] at hl
        have h1 := inv.closed k o' ho' hl e he hb
        rw [hon] at h1
        rw [getD_same (by rw [inv.size]; exact hj)]
        exact h1
     have hlisted : ∀ j, j < ops.size → j ∉ ts → (listed.setIfInBounds i true).getD j true = true := fun j hj hjt => by
      by_cases hij : i = j
      ·subst hij; simp [hils]
      ·rw [getD_set_ne true hij]
       cases hg : listed.getD j true with
       | true => rfl
       | false =>
        by_cases hjs : j ∈ ss
        ·have := inv.all j hjs hg
         exact (hij (List.mem_singleton.1 this).symm).elim
        ·rw [hF1 ops.size j (by omega) hj hjs hjt] at hg
         cases hg
     obtain ⟨A2, hN, h1, h2, h3, h4⟩ := chainL_spec (P := P) (S := fun V => V = W') (ss := []) hns hone' ts (A.put o.dst v) htp (fun t ht => ⟨htl t ht, by simp⟩) hv.2
     refine freeL_any (P := P) (S := fun V => V = W') hB0 hs m _ _ A2 W' [] (by omega) ⟨by simp [inv.size], hclosed, ⟨[], rfl⟩, fun t ht => (by cases ht), fun t ht => (by cases ht), by rw [h1, put_size, put_size, inv.tsize], by rw [h2, put_defs, put_defs, inv.defers], fun x hx => ?_, fun j oj hoj _ hjl => ?_⟩ (.inl rfl) (fun _ => rfl) (fun W'' _ hW'' => by rw [hW'' rfl]; exact hN)
     ·rw [h3 x (fun t ht => hx t (htl t ht) (by simp) (hts' t ht))]
      exact hsame v x fun j hj _ hjl => hx j hj (by simp) hjl
     ·have hjz := (Array.getElem?_eq_some_iff.1 hoj).1
      by_cases hjt : j ∈ ts
      ·exact h4 j hjt oj hoj
      ·rw [hlisted j hjz hjt] at hjl; cases hjl
    | cons t r =>
     refine ih _ _ (A.put o.dst v) W' t r (by omega) ⟨by simp [inv.size], hclosed, ?_, fun t' ht => ?_, fun t' ht htl' => ?_, by rw [put_size, put_size, inv.tsize], by rw [put_defs, put_defs, inv.defers], fun x hx => hsame v x hx, fun j oj hoj hjs hjt hjl => ?_⟩ (hv.1 (by simp)) hts' hv.2
     ·obtain ⟨pre, hp⟩ := inv.pre; exact ⟨pre ++ [i], by rw [hp]; simp⟩
     ·have : i ≠ t' := fun e => hir' (e ▸ ht)
      rw [getD_set_ne true this]; exact inv.un t' (List.mem_cons_of_mem _ ht)
     ·by_cases hti : i = t'
      ·subst hti
       simp [hils] at htl'
      ·rw [getD_set_ne true hti] at htl'
       exact (List.mem_cons.1 (inv.all t' ht htl')).resolve_left (fun e => hti e.symm)
     ·have hji : i ≠ j := fun e => hjs (e ▸ hiss)
      rw [getD_set_ne true hji] at hjl
      exact freeP_later hns hB hoj ho hjs hjt hiss (fun hw => by have := hwait j hw; rw [this] at hjl; cases hjl) (inv.free j oj hoj hjs hjt hjl)
   ·-- one whose value is settled
    obtain ⟨u, hu, hst⟩ := inv.free i o ho hiss hnt hil
    refine stepV_same inv.tsize hlook.1 hlook.2 (fun v W' hv => ?_) (hst W hS)
    obtain ⟨hv, hSW', hLW⟩ := hv
    have hAv : A.put o.dst v = A := by rw [hv, hu]
    refine ih _ _ A W' s rest (by omega) ⟨by simp [inv.size], hclosed, inv.pre, fun t ht => ?_, fun t ht htl => ?_, by rw [put_size, inv.tsize], by rw [put_defs, inv.defers], fun x hx => ?_, fun j oj hoj hjs hjt hjl => ?_⟩ hSW' (fun t ht => by rw [getD_set_ne true (fun e : i = t => hnt (by rw [e]; exact ht))]; exact hts t ht) (spineP_later hsp hLW)
    ·have htss : t ∈ ss := by obtain ⟨pre, hp⟩ := inv.pre; rw [hp]; exact List.mem_append_right _ ht
     rw [getD_set_ne true (fun e => hiss (by rw [e]; exact htss))]; exact inv.un t ht
    ·rw [getD_set_ne true (fun e => hiss (by rw [e]; exact ht))] at htl
     exact inv.all t ht htl
    ·by_cases hdx : o.dst = some x
     ·have h1 : A.tmps[x]? = (A.put (some x) v).tmps[x]? := by rw [hdx] at hAv; rw [hAv]
      rw [h1, hdx, put_same, put_same, inv.tsize]
     ·rw [put_other _ _ _ _ hdx]
      refine inv.same x fun j hj hjs hjl => ?_
      by_cases hij : i = j
      ·subst hij; rw [hdst]; exact hdx
      ·exact hx j hj hjs (by rw [getD_set_ne true hij]; exact hjl)
    ·by_cases hij : i = j
     ·subst hij
      have : i < listed.size := by rw [inv.size]; exact hisz
      simp [this] at hjl
     ·rw [getD_set_ne true hij] at hjl
      exact inv.free j oj hoj hjs hjt hjl
def phaseB (ops : Array Oper) (ss ts : List Nat) (last : Nat) : Bool :=
 freeB ops [] true && ((List.range ops.size).all fun i => ts.contains i || freeOne ops ss i) && chainS ops ss && (ss.all fun s => !ts.contains s && decide (s < ops.size)) && (ts.all fun t => decide (t < ops.size)) && decide (ss.getLast? = some last) &&
  ((List.range ops.size).all fun i => ss.contains i || ts.contains i || Region.waitsFor .any ops last i || (List.range ops.size).any fun k => decide (i < k) && !ss.contains k && !ts.contains k && Region.waitsFor .any ops k i) && (ts.all fun t => (last :: ts).any fun u => Region.waitsFor .any ops t u) && decide (ts.Pairwise (· < ·))
theorem phase_begin {l : List Oper} {s last : Nat} {r fs ts : List Nat} {a : Act} {w : World} {N : Act → World → Prop} {step : Nat → (Act → World → Prop) → Act → World → Prop} (hB : phaseB l.toArray (s :: r) ts last = true) (hF : fs = (List.range l.toArray.size).filter fun i => !(s :: r).contains i && !ts.contains i)
  (hs : ∀ i o K a w, l.toArray[i]? = some o → noDefer o = true → stepV P l.toArray o a w (fun v w' => K (a.put o.dst v) w') → step i K a w) (hS : S w)
  (hc : chainL P S l.toArray (fun A => spineP P S l.toArray (fun A W => chainL P (fun W' => W' = W) l.toArray (fun A2 => N A2 W) ts A) (s :: r) A w) fs a) : anyG (Region.ready .any l.toArray) N step l.toArray.size (Array.replicate l.toArray.size false) a w := by
 unfold phaseB at hB
 simp only [Bool.and_eq_true, decide_eq_true_eq] at hB
 obtain ⟨⟨⟨⟨⟨⟨⟨⟨hB0, h1⟩, h2⟩, h3⟩, h4⟩, h5⟩, h6⟩, h7⟩, h8⟩ := hB
 have hB0' := hB0
 unfold freeB at hB0'
 simp only [Bool.and_eq_true] at hB0'
 obtain ⟨⟨⟨⟨_, hns⟩, hone⟩, _⟩, _⟩ := hB0'
 have hone' : ∀ i, i < l.toArray.size → freeOne l.toArray [] i = true := fun i hi => List.all_eq_true.1 hone i (List.mem_range.2 hi)
 obtain ⟨A, hA, g1, g2, g3, g4⟩ := chainL_spec (ss := []) hns hone' fs a (by rw [hF]; exact (List.pairwise_lt_range).filter _) (fun i hi => by rw [hF] at hi; exact ⟨List.mem_range.1 (List.mem_filter.1 hi).1, by simp⟩) hc
 have hun : ∀ j, j < l.toArray.size → (Array.replicate l.toArray.size false).getD j true = false := fun j hj => getD_in (by simpa using hj) (getD_replicate_false _ _)
 have hsz : ∀ t ∈ s :: r, t < l.toArray.size := fun t ht => by
  have := List.all_eq_true.1 h3 t ht
  simp only [Bool.and_eq_true, decide_eq_true_eq] at this
  exact this.2
 have htz : ∀ t ∈ ts, t < l.toArray.size := fun t ht => by have := List.all_eq_true.1 h4 t ht; simpa using this
 refine phase_any (P := P) (S := S) hB0 (fun i hi hit => ?_) h2 (fun t ht => ?_) htz h8 h5 (fun i hi his hit => ?_) (fun t ht => List.all_eq_true.1 h7 t ht) hs l.toArray.size (Array.replicate l.toArray.size false) a A w s r (toCome_start _ _ (Nat.le_refl _))
  ⟨by simp, fun j oj _ hl => (by rw [getD_replicate_false] at hl; cases hl), ⟨[], rfl⟩, fun t ht => hun t (hsz t ht), fun t ht _ => ht, g1.symm, g2.symm, fun x hx => ?_, fun j o ho hjs hjt _ => ?_⟩ hS (fun t ht => ?_) hA
 ·have := List.all_eq_true.1 h1 i (List.mem_range.2 hi)
  simp only [Bool.or_eq_true, List.contains_iff_mem] at this
  exact this.resolve_left hit
 ·have := List.all_eq_true.1 h3 t ht
  simp only [Bool.and_eq_true, Bool.not_eq_true'] at this
  intro hm
  have h := List.contains_iff_mem.2 hm
  rw [this.1] at h
  cases h
 ·have := List.all_eq_true.1 h6 i (List.mem_range.2 hi)
  simp only [Bool.or_eq_true, List.contains_iff_mem] at this
  rcases this with ((h | h) | h) | h
  ·exact (his h).elim
  ·exact (hit h).elim
  ·exact .inl h
  ·obtain ⟨k, hk, h⟩ := List.any_eq_true.1 h
   simp only [Bool.and_eq_true, decide_eq_true_eq, Bool.not_eq_true'] at h
   refine .inr ⟨k, List.mem_range.1 hk, h.1.1.1, fun hm => ?_, fun hm => ?_, h.2⟩
   ·have h' := List.contains_iff_mem.2 hm; rw [h.1.1.2] at h'; cases h'
   ·have h' := List.contains_iff_mem.2 hm; rw [h.1.2] at h'; cases h'
 ·exact (g3 x fun j hj => by
   rw [hF] at hj
   obtain ⟨hj1, hj2⟩ := List.mem_filter.1 hj
   simp only [Bool.and_eq_true, Bool.not_eq_true'] at hj2
   have hj1 := List.mem_range.1 hj1
   exact hx j hj1 (fun hm => by have h := List.contains_iff_mem.2 hm; rw [hj2.1] at h; cases h) (hun j hj1)).symm
 ·refine g4 j ?_ o ho
  rw [hF]
  refine List.mem_filter.2 ⟨List.mem_range.2 (Array.getElem?_eq_some_iff.1 ho).1, ?_⟩
  simp only [Bool.and_eq_true, Bool.not_eq_true']
  constructor
  ·cases h : (s :: r).contains j with
   | false => rfl
   | true => exact (hjs (List.contains_iff_mem.1 h)).elim
  ·cases h : ts.contains j with
   | false => rfl
   | true => exact (hjt (List.contains_iff_mem.1 h)).elim
 ·rw [getD_in (by simpa using htz t ht) (getD_replicate_false _ _)]
theorem region_phase_FR {ro : Option Nat} {id n : Nat} {l : List Oper} {Q : Exit → Act → World → Prop} {a : Act} {w : World} (hm : P.follows .mixedOrders = true) (s : Nat) (r fs ts : List Nat) (last : Nat) (hB : phaseB l.toArray (s :: r) ts last = true) (hF : fs = (List.range l.toArray.size).filter fun i => !(s :: r).contains i && !ts.contains i) (S : World → Prop) (hS : S w.drew)
  (hc : chainL P S l.toArray (fun A => spineP P S l.toArray (fun A W => chainL P (fun W' => W' = W) l.toArray (fun A2 => Q .normal A2 W) ts A) (s :: r) A w.drew) fs a) : (Code.region id l.toArray true).wpIn (FR ro) n P Q a w := by
 refine wpIn_region_any hm ?_
 rw [← anyG_in]
 refine phase_begin (P := P) (S := S) hB hF (fun i o K a w ho hd hw => ?_) hS hc
 unfold wpOpIn
 rw [ho]
 unfold stepV at hw
 by_cases hc : Region.wanted o (yielded l.toArray a.tmps) = true
 ·rw [if_pos hc] at hw
  show (if Region.wanted o _ = true then _ else _)
  rw [if_pos hc]
  exact operFR (ro := ro) hd (oper_weak (Oper.wp_mono (fun a' w' ⟨v, hv, hk⟩ => by rw [hv]; exact hk) hw))
 ·rw [if_neg hc] at hw
  show (if Region.wanted o _ = true then _ else _)
  rw [if_neg hc]
  exact ⟨fun _ _ => trivial, hw⟩
theorem region_phase_in {id n lo : Nat} {l : List Oper} {Q : Exit → Act → World → Prop} {a : Act} {w : World} (hm : P.follows .mixedOrders = true) (s : Nat) (r fs ts : List Nat) (last : Nat) (hB : phaseB l.toArray (s :: r) ts last = true) (hF : fs = (List.range l.toArray.size).filter fun i => !(s :: r).contains i && !ts.contains i) (S : World → Prop) (hS : S w.drew)
  (hc : chainL P S l.toArray (fun A => spineP P S l.toArray (fun A W => chainL P (fun W' => W' = W) l.toArray (fun A2 => Q .normal A2 W) ts A) (s :: r) A w.drew) fs a) : (Code.region id l.toArray true).wpIn (Fence.wide.inRound lo) n P Q a w := region_phase_FR (ro := some lo) hm s r fs ts last hB hF S hS hc
theorem region_phase_wide {id n : Nat} {l : List Oper} {Q : Exit → Act → World → Prop} {a : Act} {w : World} (hm : P.follows .mixedOrders = true) (s : Nat) (r fs ts : List Nat) (last : Nat) (hB : phaseB l.toArray (s :: r) ts last = true) (hF : fs = (List.range l.toArray.size).filter fun i => !(s :: r).contains i && !ts.contains i) (S : World → Prop) (hS : S w.drew)
  (hc : chainL P S l.toArray (fun A => spineP P S l.toArray (fun A W => chainL P (fun W' => W' = W) l.toArray (fun A2 => Q .normal A2 W) ts A) (s :: r) A w.drew) fs a) : (Code.region id l.toArray true).wpIn Fence.wide n P Q a w := region_phase_FR (ro := none) hm s r fs ts last hB hF S hS hc
theorem region_phase {id : Nat} {l : List Oper} {Q : Exit → Act → World → Prop} {a : Act} {w : World} (hm : P.follows .mixedOrders = true) (s : Nat) (r fs ts : List Nat) (last : Nat) (hB : phaseB l.toArray (s :: r) ts last = true) (hF : fs = (List.range l.toArray.size).filter fun i => !(s :: r).contains i && !ts.contains i) (S : World → Prop) (hS : S w.drew)
  (hc : chainL P S l.toArray (fun A => spineP P S l.toArray (fun A W => chainL P (fun W' => W' = W) l.toArray (fun A2 => Q .normal A2 W) ts A) (s :: r) A w.drew) fs a) : (Code.region id l.toArray true).wp P Q a w := (wpIn_wide (n := 0)).1 (region_phase_wide hm s r fs ts last hB hF S hS hc)
theorem spineP_op {l : List Oper} {K0 : Act → World → Prop} {s : Nat} {r : List Nat} {a : Act} {w : World} {o : Oper} (ho : l[s]? = some o) (hg : o.guard = none)
  (h : ∀ W, S W → Later w W → ∀ K : Act → World → Prop, (∀ v w', (r ≠ [] → S w') → spineP P S l.toArray K0 r (a.put o.dst v) w' → K (a.put o.dst v) w') → o.wp P a W K NoQ) : spineP P S l.toArray K0 (s :: r) a w := by
 intro o' ho' W hS hW
 rw [List.getElem?_toArray, ho] at ho'
 injection ho' with ho'
 subst ho'
 have := h W hS hW (fun a' w' => ∃ v, a' = a.put o.dst v ∧ (r ≠ [] → S w') ∧ spineP P S l.toArray K0 r (a.put o.dst v) w') (fun v w' h1 h2 => ⟨v, rfl, h1, h2⟩)
 unfold stepV
 rw [if_pos (wanted_none hg _)]
 exact this
theorem spineP_nil {K0 : Act → World → Prop} {a : Act} {w : World} (h : K0 a w) : spineP P S ops K0 [] a w := h
end
end Go.Proofs.YtccgfladbibjbaaGreatDoor
