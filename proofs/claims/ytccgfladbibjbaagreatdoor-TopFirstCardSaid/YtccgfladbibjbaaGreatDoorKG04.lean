/- A region that draws its order: free operations whose value is settled and that keep S and what lies below (a call that allocates), and a spine. -/
import Derived.Test.YtccgfladbibjbaaGreatDoorKG03
import Derived.Below
namespace Go.Proofs.YtccgfladbibjbaaGreatDoor
open Go Go.RowKit
section
variable {P : Program} {S : World → Prop} {ops : Array Oper}
def Later (W W' : World) : Prop := Below W.heap.size W W'
theorem Later.of {W W' : World} (h : Below W.heap.size W W') : Later W W' := h
theorem Later.refl (W : World) : Later W W := Below.refl _ W
theorem Later.trans {X Y Z : World} (h : Later X Y) (k : Later Y Z) : Later X Z := Below.trans h (Below.mono k h.size)
def FreeOKL (P : Program) (S : World → Prop) (ops : Array Oper) (a : Act) (o : Oper) : Prop := ∃ v, a.put o.dst v = a ∧ ∀ W, S W → stepV P ops o a W (fun v' W' => a.put o.dst v' = a.put o.dst v ∧ S W' ∧ Later W W')
def spineL (P : Program) (S : World → Prop) (ops : Array Oper) (keep : Bool) (N : Act → World → Prop) : List Nat → Act → World → Prop
 | [], a, w => ∀ W, Later w W → (keep = true → S W) → N a W
 | s :: r, a, w => ∀ o, ops[s]? = some o → ∀ W, S W → Later w W → stepV P ops o a W (fun v w' => (keep = true ∨ r ≠ [] → S w') ∧ spineL P S ops keep N r (a.put o.dst v) w')
theorem spineL_later {keep : Bool} {N : Act → World → Prop} {r : List Nat} {a : Act} {w w' : World} (h : spineL P S ops keep N r a w) (hl : Later w w') : spineL P S ops keep N r a w' := by
 cases r with
 | nil => exact fun W hW hS => h W (hl.trans hW) hS
 | cons s r => exact fun o ho W hS hW => h o ho W hS (hl.trans hW)
structure FInvL (P : Program) (S : World → Prop) (ops : Array Oper) (ss : List Nat) (listed : Array Bool) (a A : Act) (rest : List Nat) : Prop where
 size : listed.size = ops.size
 closed : ∀ j oj, ops[j]? = some oj → listed.getD j false = true → ∀ e ∈ oj.after, Region.binds .any e = true → listed.getD e.on false = true
 pre : ∃ pre, ss = pre ++ rest
 un : ∀ s ∈ rest, listed.getD s true = false
 all : ∀ s ∈ ss, listed.getD s true = false → s ∈ rest
 tsize : a.tmps.size = A.tmps.size
 defers : a.defers = A.defers
 same : ∀ x : Tmp, (∀ j, j < ops.size → j ∉ ss → listed.getD j true = false → dstOf ops j ≠ some x) → a.tmps[x]? = A.tmps[x]?
 free : ∀ j o, ops[j]? = some o → j ∉ ss → listed.getD j true = false → FreeOKL P S ops A o
theorem freeL_later {ss : List Nat} {A : Act} {o os : Oper} {j s : Nat} {v : Value} (hns : Region.noSelect ops = true) (hB : ∀ i, i < ops.size → freeOne ops ss i = true) (ho : ops[j]? = some o) (hos : ops[s]? = some os) (hj : j ∉ ss) (hs : s ∈ ss) (hnw : Region.waitsFor .any ops s j ≠ true) (h : FreeOKL P S ops A o) : FreeOKL P S ops (A.put os.dst v) o := by
 obtain ⟨u, hu, hst⟩ := h
 have hjl := (Array.getElem?_eq_some_iff.1 ho).1
 have hsl := (Array.getElem?_eq_some_iff.1 hos).1
 have hne : j ≠ s := fun e => hj (e ▸ hs)
 have hdd : ∀ d, os.dst = some d → o.dst ≠ some d := fun d hd => (freeOne_spec ho (hB j hjl)).2.2.1 s d hsl (by unfold dstOf; rw [hos]; exact hd) hne
 have hcomm : ∀ z, (A.put os.dst v).put o.dst z = (A.put o.dst z).put os.dst v := fun z => Act.put_comm A v z hdd
 refine ⟨u, by rw [hcomm, hu], fun W hS => ?_⟩
 have hl := looks_same (a := A.put os.dst v) (b := A) hns ho fun x hx => put_other _ _ _ _ fun e => by
  have := (freeOne_spec ho (hB j hjl)).2.2.2 s x hsl (by unfold dstOf; rw [hos]; exact e) hx
  rcases this with ⟨_, _, h | h⟩ | ⟨_, _, h⟩
  ·exact hj h
  ·exact h hs
  ·exact hnw h
 exact stepV_same (put_size _ _ _) hl.1 hl.2 (fun z W' hz => ⟨by rw [hcomm, hcomm, hz.1], hz.2⟩) (hst W hS)
set_option maxHeartbeats 1000000 in
theorem freeL_any {ss : List Nat} {keep : Bool} {N : Act → World → Prop} {step : Nat → (Act → World → Prop) → Act → World → Prop} (hB : freeB ops ss keep = true)
  (hs : ∀ i o K a w, ops[i]? = some o → noDefer o = true → stepV P ops o a w (fun v w' => K (a.put o.dst v) w') → step i K a w) :
  ∀ (m : Nat) (listed : Array Bool) (a A : Act) (W : World) (rest : List Nat), toCome listed ops.size = m → FInvL P S ops ss listed a A rest → (S W ∨ ∀ j, j < ops.size → j ∉ ss → listed.getD j true = true) → ((keep = true ∨ rest ≠ []) → S W) → spineL P S ops keep N rest A W → anyG (Region.ready .any ops) N step m listed a W := by
 unfold freeB at hB
 simp only [Bool.and_eq_true] at hB
 obtain ⟨⟨⟨⟨_, hns⟩, hone⟩, hchain⟩, hkeep⟩ := hB
 have hB : ∀ i, i < ops.size → freeOne ops ss i = true := fun i hi => List.all_eq_true.1 hone i (List.mem_range.2 hi)
 intro m
 induction m with
 | zero =>
  intro listed a A W rest hc inv hS hK hsp
  have hl := toCome_zero listed ops.size hc
  have hrest : rest = [] := by
   cases rest with
   | nil => rfl
   | cons s r =>
    have h1 := inv.un s (List.mem_cons_self ..)
    by_cases hs : s < ops.size
    ·rw [hl s hs] at h1; cases h1
    ·rw [Array.getD_eq_getD_getElem?, Array.getElem?_eq_none (by rw [inv.size]; omega)] at h1
     cases h1
  subst hrest
  have haA : a = A := by
   obtain ⟨t, d⟩ := a
   obtain ⟨t', d'⟩ := A
   have h1 : t = t' := by
    apply Array.ext_getElem?
    intro x
    exact inv.same x fun j hj _ hf => by rw [hl j hj] at hf; cases hf
   have h2 : d = d' := inv.defers
   rw [h1, h2]
  subst haA
  refine ⟨?_, hsp W (Later.refl W) fun h => hK (.inl h)⟩
  cases hr : Region.ready .any ops listed with
  | nil => rfl
  | cons i r =>
   have : i ∈ Region.ready .any ops listed := by rw [hr]; exact List.mem_cons_self ..
   obtain ⟨h1, o, ho, _⟩ := mem_ready.1 this
   rw [hl i (Array.getElem?_eq_some_iff.1 ho).1] at h1
   cases h1
 | succ m ih =>
  intro listed a A W rest hc inv hS hK hsp
  obtain ⟨j, hj, hjl⟩ := toCome_pos listed ops.size (by omega)
  unfold anyG
  refine ⟨fun hnil => ?_, fun i hi => ?_⟩
  ·obtain ⟨k, hk⟩ := ready_some hB inv.size j hj hjl
   rw [hnil] at hk; cases hk
  ·obtain ⟨hil, o, ho, hall⟩ := mem_ready.1 hi
   have hisz := (Array.getElem?_eq_some_iff.1 ho).1
   have hcount := toCome_set listed i hil ops.size
   rw [if_pos hisz] at hcount
   have hspec := freeOne_spec ho (hB i hisz)
   have hwait : ∀ k, Region.waitsFor .any ops i k = true → listed.getD k true = true := fun k hw => by
    obtain ⟨o', ho', e, he, hb, hon⟩ := Region.waitsFor_spec hw
    rw [ho] at ho'
    injection ho' with ho'
    subst ho'
    have h1 := hall e he hb
    rw [hon] at h1
    cases hk : listed.getD k true with
    | true => rfl
    | false => rw [getD_both hk] at h1; cases h1
   have hlook := looks_same (a := a) (b := A) hns ho fun x hx => inv.same x fun k hk hks hkl hd => by
    rcases hspec.2.2.2 k x hk hd hx with h | h
    ·have := hwait k h.2.1
     rw [this] at hkl; cases hkl
    ·exact hks h.1
   have hclosed : ∀ j oj, ops[j]? = some oj → (listed.setIfInBounds i true).getD j false = true → ∀ e ∈ oj.after, Region.binds .any e = true → (listed.setIfInBounds i true).getD e.on false = true := fun j oj hj hl e he hb => by
    by_cases hij : i = j
    ·subst hij
     rw [ho] at hj
     injection hj with hj
     subst hj
     exact getD_set_true (hall e he hb)
    ·rw [getD_set_ne false hij] at hl
     exact getD_set_true (inv.closed j oj hj hl e he hb)
   have hdst : dstOf ops i = o.dst := by unfold dstOf; rw [ho]; rfl
   refine hs i o _ a W ho hspec.2.1 ?_
   by_cases hiss : i ∈ ss
   ·-- one of those that come one after the other
    have hir := inv.all i hiss hil
    cases rest with
    | nil => cases hir
    | cons s r =>
     obtain rfl := spine_first hchain inv.pre inv.un hir hi
     -- what is known behind it
     have next : ∀ v W', spineL P S ops keep N r (A.put o.dst v) W' → (S W' ∨ ∀ j, j < ops.size → j ∉ ss → listed.getD j true = true) → ((keep = true ∨ r ≠ []) → S W') → anyG (Region.ready .any ops) N step m (listed.setIfInBounds i true) (a.put o.dst v) W' := fun v W' hsp' hS' hK' => by
      have hir' : i ∉ r := fun hm => by
       -- i is in ss twice: no
       obtain ⟨pre, hp⟩ := inv.pre
       obtain ⟨l1, l2, hl⟩ := List.append_of_mem hm
       obtain ⟨q, l1', hq⟩ : ∃ q l1', i :: l1 = l1' ++ [q] := ⟨(i :: l1).getLast (by simp), (i :: l1).dropLast, (List.dropLast_concat_getLast (by simp)).symm⟩
       have hss : ss = (pre ++ l1') ++ q :: i :: l2 := by rw [hp, hl, ← List.cons_append, hq]; simp
       rw [hss] at hchain
       have h1 := hwait q (chainS_spec _ _ _ _ hchain)
       have hqm : q ∈ i :: r := by rw [hl, ← List.cons_append, hq]; simp
       rw [inv.un q hqm] at h1
       cases h1
      refine ih _ _ (A.put o.dst v) W' r (by omega) ⟨by simp [inv.size], hclosed, ?_, fun t ht => ?_, fun t ht htl => ?_, by rw [put_size, put_size, inv.tsize], by rw [put_defs, put_defs, inv.defers], fun x hx => ?_, fun j oj hoj hjs hjl => ?_⟩ (hS'.imp id fun h j hj hjs => ?_) hK' hsp'
      ·obtain ⟨pre, hp⟩ := inv.pre; exact ⟨pre ++ [i], by rw [hp]; simp⟩
      ·have : i ≠ t := fun e => hir' (e ▸ ht)
       rw [getD_set_ne true this]; exact inv.un t (List.mem_cons_of_mem _ ht)
      ·by_cases hti : i = t
       ·subst hti
        have : i < listed.size := by rw [inv.size]; exact hisz
        simp [this] at htl
       ·rw [getD_set_ne true hti] at htl
        exact (List.mem_cons.1 (inv.all t ht htl)).resolve_left (fun e => hti e.symm)
      ·by_cases hdx : o.dst = some x
       ·rw [hdx, put_same, put_same, inv.tsize]
       ·rw [put_other _ _ _ _ hdx, put_other _ _ _ _ hdx]
        refine inv.same x fun j hj hjs hjl => hx j hj hjs ?_
        rw [getD_set_ne true (fun e => hjs (by rw [← e]; exact hiss))]; exact hjl
      ·have hji : i ≠ j := fun e => hjs (e ▸ hiss)
       rw [getD_set_ne true hji] at hjl
       exact freeL_later hns hB hoj ho hjs hiss (fun hw => by have := hwait j hw; rw [this] at hjl; cases hjl) (inv.free j oj hoj hjs hjl)
      ·rw [getD_set_ne true (fun e => hjs (by rw [← e]; exact hiss))]; exact h j hj hjs
     cases r with
     | nil =>
      refine stepV_same inv.tsize hlook.1 hlook.2 (fun v W' hv => next v W' hv.2 ?_ hv.1) (hsp o ho W (hK (.inr (by simp))) (Later.refl W))
      cases hk : keep with
      | true => exact .inl (hv.1 (.inl hk))
      | false =>
       right
       intro j hj hjs
       rw [hk] at hkeep
       simp only [Bool.false_or] at hkeep
       have := List.all_eq_true.1 hkeep j (List.mem_range.2 hj)
       simp only [Bool.or_eq_true, List.contains_iff_mem] at this
       have hw := this.resolve_left hjs
       obtain ⟨pre, hp⟩ := inv.pre
       rw [hp, List.getLastD_eq_getLast?, List.getLast?_append] at hw
       simp at hw
       exact hwait j hw
     | cons t r => exact stepV_same inv.tsize hlook.1 hlook.2 (fun v W' hv => next v W' hv.2 (.inl (hv.1 (.inr (by simp)))) hv.1) (hsp o ho W (hK (.inr (by simp))) (Later.refl W))
   ·-- one whose value is settled
    have hSW : S W := hS.resolve_right fun h => by have := h i hisz hiss; rw [this] at hil; cases hil
    obtain ⟨u, hu, hst⟩ := inv.free i o ho hiss hil
    refine stepV_same inv.tsize hlook.1 hlook.2 (fun v W' hv => ?_) (hst W hSW)
    obtain ⟨hv, hSW', hLW⟩ := hv
    have hAv : A.put o.dst v = A := by rw [hv, hu]
    refine ih _ _ A W' rest (by omega) ⟨by simp [inv.size], hclosed, inv.pre, fun t ht => ?_, fun t ht htl => ?_, by rw [put_size, inv.tsize], by rw [put_defs, inv.defers], fun x hx => ?_, fun j oj hoj hjs hjl => ?_⟩ (.inl hSW') (fun _ => hSW') (spineL_later hsp hLW)
    ·have htss : t ∈ ss := by obtain ⟨pre, hp⟩ := inv.pre; rw [hp]; exact List.mem_append_right _ ht
     rw [getD_set_ne true (fun e => hiss (by rw [e]; exact htss))]; exact inv.un t ht
    ·rw [getD_set_ne true (fun e => hiss (by rw [e]; exact ht))] at htl
     exact inv.all t ht htl
    ·by_cases hdx : o.dst = some x
     ·have h1 : A.tmps[x]? = (A.put (some x) v).tmps[x]? := by rw [hdx] at hAv; rw [hAv]
      rw [h1, hdx, put_same, put_same, inv.tsize]
     ·rw [put_other _ _ _ _ hdx]
      refine inv.same x fun j hj hjs hjl => ?_
      by_cases hij : i = j
      ·subst hij; rw [hdst]; exact hdx
      ·exact hx j hj hjs (by rw [getD_set_ne true hij]; exact hjl)
    ·by_cases hij : i = j
     ·subst hij
      have : i < listed.size := by rw [inv.size]; exact hisz
      simp [this] at hjl
     ·rw [getD_set_ne true hij] at hjl
      exact inv.free j oj hoj hjs hjl
def chainL (P : Program) (S : World → Prop) (ops : Array Oper) (K : Act → Prop) : List Nat → Act → Prop
 | [], a => K a
 | i :: r, a => ∀ o, ops[i]? = some o → ∃ v, (∀ W, S W → stepV P ops o a W (fun v' W' => a.put o.dst v' = a.put o.dst v ∧ S W' ∧ Later W W')) ∧ chainL P S ops K r (a.put o.dst v)
theorem chainL_op {l : List Oper} {K0 : Act → Prop} {i : Nat} {r : List Nat} {a : Act} {o : Oper} (ho : l[i]? = some o) (hg : o.guard = none) (v : Value)
  (h : ∀ W, S W → ∀ K : Act → World → Prop, (∀ W', S W' → Later W W' → K (a.put o.dst v) W') → o.wp P a W K NoQ) (hr : chainL P S l.toArray K0 r (a.put o.dst v)) : chainL P S l.toArray K0 (i :: r) a := by
 intro o' ho'
 rw [List.getElem?_toArray, ho] at ho'
 injection ho' with ho'
 subst ho'
 refine ⟨v, fun W hS => ?_, hr⟩
 have := h W hS (fun a' w' => a' = a.put o.dst v ∧ S w' ∧ Later W w') (fun W' h1 h2 => ⟨rfl, h1, h2⟩)
 unfold stepV
 rw [if_pos (wanted_none hg _)]
 exact Oper.wp_mono (fun a' w' h => ⟨v, h.1, rfl, h.2⟩) this
theorem chainL_nil {K0 : Act → Prop} {a : Act} (h : K0 a) : chainL P S ops K0 [] a := h
theorem spineL_op {l : List Oper} {keep : Bool} {N : Act → World → Prop} {s : Nat} {r : List Nat} {a : Act} {w : World} {o : Oper} (ho : l[s]? = some o) (hg : o.guard = none)
  (h : ∀ W, S W → Later w W → ∀ K : Act → World → Prop, (∀ v w', (keep = true ∨ r ≠ [] → S w') → spineL P S l.toArray keep N r (a.put o.dst v) w' → K (a.put o.dst v) w') → o.wp P a W K NoQ) : spineL P S l.toArray keep N (s :: r) a w := by
 intro o' ho' W hS hW
 rw [List.getElem?_toArray, ho] at ho'
 injection ho' with ho'
 subst ho'
 have := h W hS hW (fun a' w' => ∃ v, a' = a.put o.dst v ∧ (keep = true ∨ r ≠ [] → S w') ∧ spineL P S l.toArray keep N r (a.put o.dst v) w') (fun v w' h1 h2 => ⟨v, rfl, h1, h2⟩)
 unfold stepV
 rw [if_pos (wanted_none hg _)]
 exact this
theorem spineL_nil {keep : Bool} {N : Act → World → Prop} {a : Act} {w : World} (h : ∀ W, Later w W → (keep = true → S W) → N a W) : spineL P S ops keep N [] a w := h
theorem chainL_spec {ss : List Nat} (hns : Region.noSelect ops = true) (hB : ∀ i, i < ops.size → freeOne ops ss i = true) {K : Act → Prop} : ∀ (is : List Nat) (a : Act), is.Pairwise (· < ·) → (∀ i ∈ is, i < ops.size ∧ i ∉ ss) → chainL P S ops K is a →
  ∃ A, K A ∧ A.tmps.size = a.tmps.size ∧ A.defers = a.defers ∧ (∀ x : Tmp, (∀ j ∈ is, dstOf ops j ≠ some x) → A.tmps[x]? = a.tmps[x]?) ∧ ∀ i ∈ is, ∀ o, ops[i]? = some o → FreeOKL P S ops A o
 | [], a, _, _, hc => ⟨a, hc, rfl, rfl, fun _ _ => rfl, fun i hi => (by cases hi)⟩
 | i :: r, a, hp, hr, hc => by
  have hi := (hr i (List.mem_cons_self ..)).1
  have his := (hr i (List.mem_cons_self ..)).2
  obtain ⟨o, ho⟩ : ∃ o, ops[i]? = some o := ⟨ops[i]'hi, Array.getElem?_eq_getElem hi⟩
  obtain ⟨v, hst, hc⟩ := hc o ho
  have hdst : dstOf ops i = o.dst := by unfold dstOf; rw [ho]; rfl
  rw [List.pairwise_cons] at hp
  obtain ⟨A, hK, h1, h2, h3, h4⟩ := chainL_spec hns hB r _ hp.2 (fun j hj => hr j (List.mem_cons_of_mem _ hj)) hc
  have hspec := freeOne_spec ho (hB i hi)
  refine ⟨A, hK, by rw [h1, put_size], by rw [h2, put_defs], fun x hx => ?_, fun j hj oj hoj => ?_⟩
  ·rw [h3 x (fun j hj => hx j (List.mem_cons_of_mem _ hj)), put_other _ _ _ _ (by rw [← hdst]; exact hx i (List.mem_cons_self ..))]
  ·rcases List.mem_cons.1 hj with e | hjr
   ·subst e
    rw [ho] at hoj
    injection hoj with hoj
    subst hoj
    refine ⟨v, ?_, fun W hS => ?_⟩
    ·cases hd : o.dst with
     | none => rfl
     | some x =>
      refine put_whole ?_
      rw [h3 x (fun k hk hkd => by
       have hne : j ≠ k := fun e => by have := hp.1 k hk; omega
       exact hspec.2.2.1 k x (hr k (List.mem_cons_of_mem _ hk)).1 hkd hne hd), hd, put_same, h1, put_size]
    ·have hl := looks_same (a := A) (b := a) hns ho fun x hx => by
      rw [h3 x (fun k hk hkd => by
       have h1 := hp.1 k hk
       rcases hspec.2.2.2 k x (hr k (List.mem_cons_of_mem _ hk)).1 hkd hx with h | h
       ·omega
       ·exact (hr k (List.mem_cons_of_mem _ hk)).2 h.1), put_other _ _ _ _ (fun e => by
       rcases hspec.2.2.2 j x hi (by rw [hdst]; exact e) hx with h | h
       ·omega
       ·exact his h.1)]
     exact stepV_same (by rw [h1, put_size]) hl.1 hl.2 (fun z W' hz => ⟨put_like (by rw [h1, put_size]) hz.1, hz.2⟩) (hst W hS)
   ·exact h4 j hjr oj hoj
theorem freeL_begin {l : List Oper} {ss fs : List Nat} {keep : Bool} {a : Act} {w : World} {N : Act → World → Prop} {step : Nat → (Act → World → Prop) → Act → World → Prop} (hB : freeB l.toArray ss keep = true) (hF : fs = (List.range l.toArray.size).filter fun i => !ss.contains i)
  (hs : ∀ i o K a w, l.toArray[i]? = some o → noDefer o = true → stepV P l.toArray o a w (fun v w' => K (a.put o.dst v) w') → step i K a w) (hS : S w)
  (hc : chainL P S l.toArray (fun A => spineL P S l.toArray keep N ss A w) fs a) : anyG (Region.ready .any l.toArray) N step l.toArray.size (Array.replicate l.toArray.size false) a w := by
 have hB' := hB
 unfold freeB at hB'
 simp only [Bool.and_eq_true] at hB'
 obtain ⟨⟨⟨⟨hssz, hns⟩, hone⟩, _⟩, _⟩ := hB'
 have hone' : ∀ i, i < l.toArray.size → freeOne l.toArray ss i = true := fun i hi => List.all_eq_true.1 hone i (List.mem_range.2 hi)
 obtain ⟨A, hA, h1, h2, h3, h4⟩ := chainL_spec hns hone' fs a (by rw [hF]; exact (List.pairwise_lt_range).filter _) (fun i hi => by rw [hF] at hi; exact ⟨List.mem_range.1 (List.mem_filter.1 hi).1, by simpa using (List.mem_filter.1 hi).2⟩) hc
 have hun : ∀ j, j < l.toArray.size → (Array.replicate l.toArray.size false).getD j true = false := fun j hj => getD_in (by simpa using hj) (getD_replicate_false _ _)
 have hmem : ∀ j, j < l.toArray.size → j ∉ ss → j ∈ fs := fun j hj hjs => by
  rw [hF]
  refine List.mem_filter.2 ⟨List.mem_range.2 hj, ?_⟩
  simp [hjs]
 refine freeL_any (P := P) (S := S) hB hs l.toArray.size (Array.replicate l.toArray.size false) a A w ss (toCome_start _ _ (Nat.le_refl _)) ⟨by simp, fun j oj _ hl => (by rw [getD_replicate_false] at hl; cases hl), ⟨[], rfl⟩, fun s hs => ?_, fun s hs _ => hs, h1.symm, h2.symm, fun x hx => ?_, fun j o ho hjs _ => ?_⟩ (.inl hS) (fun _ => hS) hA
 ·exact hun s (by have := List.all_eq_true.1 hssz s hs; simpa using this)
 ·exact (h3 x fun j hj => by
   rw [hF] at hj
   obtain ⟨hj1, hj2⟩ := List.mem_filter.1 hj
   have hj1 := List.mem_range.1 hj1
   exact hx j hj1 (by simpa using hj2) (hun j hj1)).symm
 ·exact h4 j (hmem j (Array.getElem?_eq_some_iff.1 ho).1 hjs) o ho
theorem region_later_FR {ro : Option Nat} {id n : Nat} {l : List Oper} {Q : Exit → Act → World → Prop} {a : Act} {w : World} (hm : P.follows .mixedOrders = true) (ss fs : List Nat) (keep : Bool) (hB : freeB l.toArray ss keep = true) (hF : fs = (List.range l.toArray.size).filter fun i => !ss.contains i) (S : World → Prop) (hS : S w.drew)
  (hc : chainL P S l.toArray (fun A => spineL P S l.toArray keep (Q .normal) ss A w.drew) fs a) : (Code.region id l.toArray true).wpIn (FR ro) n P Q a w := by
 refine wpIn_region_any hm ?_
 rw [← anyG_in]
 refine freeL_begin (P := P) (S := S) hB hF (fun i o K a w ho hd hw => ?_) hS hc
 unfold wpOpIn
 rw [ho]
 unfold stepV at hw
 by_cases hc : Region.wanted o (yielded l.toArray a.tmps) = true
 ·rw [if_pos hc] at hw
  show (if Region.wanted o _ = true then _ else _)
  rw [if_pos hc]
  exact operFR (ro := ro) hd (oper_weak (Oper.wp_mono (fun a' w' ⟨v, hv, hk⟩ => by rw [hv]; exact hk) hw))
 ·rw [if_neg hc] at hw
  show (if Region.wanted o _ = true then _ else _)
  rw [if_neg hc]
  exact ⟨fun _ _ => trivial, hw⟩
theorem region_later_in {id n lo : Nat} {l : List Oper} {Q : Exit → Act → World → Prop} {a : Act} {w : World} (hm : P.follows .mixedOrders = true) (ss fs : List Nat) (keep : Bool) (hB : freeB l.toArray ss keep = true) (hF : fs = (List.range l.toArray.size).filter fun i => !ss.contains i) (S : World → Prop) (hS : S w.drew)
  (hc : chainL P S l.toArray (fun A => spineL P S l.toArray keep (Q .normal) ss A w.drew) fs a) : (Code.region id l.toArray true).wpIn (Fence.wide.inRound lo) n P Q a w := region_later_FR (ro := some lo) hm ss fs keep hB hF S hS hc
theorem region_later_wide {id n : Nat} {l : List Oper} {Q : Exit → Act → World → Prop} {a : Act} {w : World} (hm : P.follows .mixedOrders = true) (ss fs : List Nat) (keep : Bool) (hB : freeB l.toArray ss keep = true) (hF : fs = (List.range l.toArray.size).filter fun i => !ss.contains i) (S : World → Prop) (hS : S w.drew)
  (hc : chainL P S l.toArray (fun A => spineL P S l.toArray keep (Q .normal) ss A w.drew) fs a) : (Code.region id l.toArray true).wpIn Fence.wide n P Q a w := region_later_FR (ro := none) hm ss fs keep hB hF S hS hc
theorem region_later {id : Nat} {l : List Oper} {Q : Exit → Act → World → Prop} {a : Act} {w : World} (hm : P.follows .mixedOrders = true) (ss fs : List Nat) (keep : Bool) (hB : freeB l.toArray ss keep = true) (hF : fs = (List.range l.toArray.size).filter fun i => !ss.contains i) (S : World → Prop) (hS : S w.drew)
  (hc : chainL P S l.toArray (fun A => spineL P S l.toArray keep (Q .normal) ss A w.drew) fs a) : (Code.region id l.toArray true).wp P Q a w := (wpIn_wide (n := 0)).1 (region_later_wide hm ss fs keep hB hF S hS hc)
end
end Go.Proofs.YtccgfladbibjbaaGreatDoor
namespace Go.Proofs.YtccgfladbibjbaaGreatDoor
open Go Go.RowKit
section
variable {P : Program} {ops : Array Oper}
theorem anyG_inv {Inv : Array Bool → Act → World → Prop} {N : Act → World → Prop} {step : Nat → (Act → World → Prop) → Act → World → Prop} {ss : List Nat} (hB : ∀ i, i < ops.size → freeOne ops ss i = true)
  (hs : ∀ i o K a w, ops[i]? = some o → noDefer o = true → stepV P ops o a w (fun v w' => K (a.put o.dst v) w') → step i K a w)
  (hstep : ∀ listed a W i o, Inv listed a W → listed.size = ops.size → ops[i]? = some o → listed.getD i true = false → (∀ k, Region.waitsFor .any ops i k = true → listed.getD k true = true) → stepV P ops o a W (fun v W' => Inv (listed.setIfInBounds i true) (a.put o.dst v) W'))
  (hend : ∀ listed a W, (∀ j, j < ops.size → listed.getD j false = true) → Inv listed a W → N a W) :
  ∀ (m : Nat) (listed : Array Bool) (a : Act) (W : World), toCome listed ops.size = m → listed.size = ops.size → (∀ j oj, ops[j]? = some oj → listed.getD j false = true → ∀ e ∈ oj.after, Region.binds .any e = true → listed.getD e.on false = true) → Inv listed a W → anyG (Region.ready .any ops) N step m listed a W := by
 intro m
 induction m with
 | zero =>
  intro listed a W hc hz _ inv
  have hl := toCome_zero listed ops.size hc
  refine ⟨?_, hend listed a W (fun j hj => by
   have h := hl j hj
   rw [Array.getD_eq_getD_getElem?, Array.getElem?_eq_getElem (by omega)] at h ⊢
   exact h) inv⟩
  cases hr : Region.ready .any ops listed with
  | nil => rfl
  | cons i r =>
   have : i ∈ Region.ready .any ops listed := by rw [hr]; exact List.mem_cons_self ..
   obtain ⟨h1, o, ho, _⟩ := mem_ready.1 this
   rw [hl i (Array.getElem?_eq_some_iff.1 ho).1] at h1
   cases h1
 | succ m ih =>
  intro listed a W hc hz hcl inv
  obtain ⟨j, hj, hjl⟩ := toCome_pos listed ops.size (by omega)
  unfold anyG
  refine ⟨fun hnil => ?_, fun i hi => ?_⟩
  ·obtain ⟨k, hk⟩ := ready_some hB hz j hj hjl
   rw [hnil] at hk; cases hk
  ·obtain ⟨hil, o, ho, hall⟩ := mem_ready.1 hi
   have hisz := (Array.getElem?_eq_some_iff.1 ho).1
   have hcount := toCome_set listed i hil ops.size
   rw [if_pos hisz] at hcount
   have hspec := freeOne_spec ho (hB i hisz)
   have hwait : ∀ k, Region.waitsFor .any ops i k = true → listed.getD k true = true := fun k hw => by
    obtain ⟨o', ho', e, he, hb, hon⟩ := Region.waitsFor_spec hw
    rw [ho] at ho'
    injection ho' with ho'
    subst ho'
    have h1 := hall e he hb
    rw [hon] at h1
    cases hk : listed.getD k true with
    | true => rfl
    | false => rw [getD_both hk] at h1; cases h1
   refine hs i o _ a W ho hspec.2.1 ?_
   refine stepV_same rfl rfl rfl (fun v W' hv => ?_) (hstep listed a W i o inv hz ho hil hwait)
   refine ih _ _ W' (by omega) (by simp [hz]) (fun j oj hj hl e he hb => ?_) hv
   by_cases hij : i = j
   ·subst hij
    rw [ho] at hj
    injection hj with hj
    subst hj
    exact getD_set_true (hall e he hb)
   ·rw [getD_set_ne false hij] at hl
    exact getD_set_true (hcl j oj hj hl e he hb)
theorem done_set {listed : Array Bool} {i j : Nat} (h : (listed.setIfInBounds i true).getD j false = true) : i = j ∨ listed.getD j false = true := by
 by_cases hij : i = j
 ·exact .inl hij
 ·rw [getD_set_ne false hij] at h; exact .inr h
theorem region_inv {id : Nat} {l : List Oper} {Q : Exit → Act → World → Prop} {a : Act} {w : World} (hm : P.follows .mixedOrders = true) (hB : (List.range l.toArray.size).all (freeOne l.toArray (List.range l.toArray.size)) = true) (Inv : Array Bool → Act → World → Prop)
  (h0 : Inv (Array.replicate l.toArray.size false) a w.drew)
  (hstep : ∀ listed a W i o, Inv listed a W → listed.size = l.length → l[i]? = some o → listed.getD i true = false → (∀ k, Region.waitsFor .any l.toArray i k = true → listed.getD k true = true) → stepV P l.toArray o a W (fun v W' => Inv (listed.setIfInBounds i true) (a.put o.dst v) W'))
  (hend : ∀ listed a W, (∀ j, j < l.length → listed.getD j false = true) → Inv listed a W → Q .normal a W) : (Code.region id l.toArray true).wp P Q a w := by
 refine (wpIn_wide (n := 0)).1 ?_
 refine wpIn_region_any hm ?_
 rw [← anyG_in]
 refine anyG_inv (P := P) (Inv := Inv) (ss := List.range l.toArray.size) (fun i hi => List.all_eq_true.1 hB i (List.mem_range.2 hi)) (fun i o K a w ho hd hw => ?_) (fun listed a W i o h1 h2 h3 h4 h5 => hstep listed a W i o h1 (by simpa using h2) (by simpa using h3) h4 h5) (fun listed a W h1 h2 => hend listed a W (by simpa using h1) h2) l.toArray.size _ a w.drew (toCome_start _ _ (Nat.le_refl _)) (by simp) (fun j oj _ hl => (by rw [getD_replicate_false] at hl; cases hl)) h0
 unfold wpOpIn
 rw [ho]
 unfold stepV at hw
 by_cases hc : Region.wanted o (yielded l.toArray a.tmps) = true
 ·rw [if_pos hc] at hw
  show (if Region.wanted o _ = true then _ else _)
  rw [if_pos hc]
  exact operFR (ro := none) hd (oper_weak (Oper.wp_mono (fun a' w' ⟨v, hv, hk⟩ => by rw [hv]; exact hk) hw))
 ·rw [if_neg hc] at hw
  show (if Region.wanted o _ = true then _ else _)
  rw [if_neg hc]
  exact ⟨fun _ _ => trivial, hw⟩
theorem stepV_none {l : List Oper} {o : Oper} (hg : o.guard = none) {a : Act} {W : World} {K1 : Value → World → Prop} (h : ∀ K : Act → World → Prop, (∀ v W', K1 v W' → K (a.put o.dst v) W') → o.wp P a W K NoQ) : stepV P l.toArray o a W K1 := by
 unfold stepV
 rw [if_pos (wanted_none hg _)]
 exact h _ fun v W' hk => ⟨v, rfl, hk⟩
end
end Go.Proofs.YtccgfladbibjbaaGreatDoor
