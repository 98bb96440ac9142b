/- Slices of complex numbers; slices.Clone at them. -/
import Derived.Test.YtijbjncdiojpdaaDoorWNear
import Derived.Test.YtijbjncdiojpdaaDoorAppOwn
namespace Go.Proofs.YtijbjncdiojpdaaDoor
open Go.RowKit
attribute [local go_sem ↓] add_UU sub_UU mul_UU add_UL add_LU sub_UL sub_LU mul_UL neg_at not_at and_UU or_UU xor_UU andNot_UU and_UL or_LU shr_UL shl_UL shr_UN shl_UN quo_UL rem_UL quo_UU rem_UU
attribute [local go_sem] wrap8_U wrap32_U wrap64_B wrap32_B wrap8_D wrapi_B wrap64_UU eq_UU ne_UU eq_UL ne_UL lt_UU le_UU
attribute [local go_sem ↓] run_fadd run_fsub run_fmul run_fquo
attribute [local go_sem] fRes_some unary_neg_f run_store_complex run_store_float

/-- Block g begins with the n complex numbers X 0, X 1, .. -/
def CB (w : World) (g n : Nat) (X : Nat → Nat × Nat) : Prop := ∃ cs : Array Value, w.heap[g]? = some (.cells cs 34 (0, 0)) ∧ ∀ i, i < n → cs[i]? = some (cval (X i))
theorem CB.cell {w : World} {g n : Nat} {X : Nat → Nat × Nat} (h : CB w g n X) (k : Nat) (hk : k < n) : w.cell? ⟨g, k, none⟩ = some (cval (X k)) := by
  obtain ⟨cs, h1, h2⟩ := h
  unfold World.cell?
  simp only []
  rw [h1]
  simpa using h2 k hk
theorem CB.frozen {w : World} {g n : Nat} {X : Nat → Nat × Nat} (h : CB w g n X) (k : Nat) : w.frozen? ⟨g, k, none⟩ = false := by
  obtain ⟨cs, h1, h2⟩ := h
  unfold World.frozen?
  simp only []
  rw [h1]
  simp
theorem CB.lt {w : World} {g n : Nat} {X : Nat → Nat × Nat} (h : CB w g n X) : g < w.heap.size := by
  obtain ⟨cs, h1, _⟩ := h
  exact (Array.getElem?_eq_some_iff.1 h1).1
theorem CB.set {w : World} {g n : Nat} {X : Nat → Nat × Nat} (h : CB w g n X) (k : Nat) (p : Nat × Nat) (hk : k < n) : CB (w.setCell ⟨g, k, none⟩ (cval p)) g n (fun j => if j = k then p else X j) := by
  obtain ⟨cs, h1, h2⟩ := h
  obtain ⟨hlt, he⟩ := Array.getElem?_eq_some_iff.1 h1
  refine ⟨cs.setIfInBounds k (cval p), ?_, fun i hi => ?_⟩
  · show (w.heap.modify g _)[g]? = _
    rw [Array.getElem?_eq_getElem (by rw [Array.size_modify]; exact hlt), Array.getElem_modify_self, he]
    rfl
  · by_cases e : i = k
    · subst e
      have hs := (Array.getElem?_eq_some_iff.1 (h2 i hi)).1
      simp [hs]
    · rw [Array.getElem?_setIfInBounds_ne (fun h => e h.symm), h2 i hi]
      simp [e]
theorem CB.below {w w' : World} {g n B : Nat} {X : Nat → Nat × Nat} (h : CB w g n X) (hb : Below B w w') (hlt : g < B) : CB w' g n X := by
  obtain ⟨cs, h1, h2⟩ := h
  exact ⟨cs, (hb.block g hlt).trans h1, h2⟩
theorem CB.call {w w' : World} {g n : Nat} {X : Nat → Nat × Nat} (h : CB w g n X) (hb : Below w.heap.size w w') : CB w' g n X := h.below hb h.lt
theorem CB.alloc {w : World} {g n : Nat} {X : Nat → Nat × Nat} (h : CB w g n X) (o : Obj) : CB (w.alloc o) g n X := by
  have hl := h.lt
  obtain ⟨cs, h1, h2⟩ := h
  exact ⟨cs, (Below.heap_alloc w o g hl).trans h1, h2⟩
theorem CB.drew {w : World} {g n : Nat} {X : Nat → Nat × Nat} (h : CB w g n X) : CB w.drew g n X := h
theorem CB.drewN {w : World} {g n : Nat} {X : Nat → Nat × Nat} (h : CB w g n X) (m : Nat) : CB (w.drewN m) g n X := h
theorem CB.other {w : World} {g n : Nat} {X : Nat → Nat × Nat} (h : CB w g n X) (a : Addr) (u : Value) (hne : g ≠ a.block) : CB (w.setCell a u) g n X := by
  obtain ⟨cs, h1, h2⟩ := h
  exact ⟨cs, (Below.heap_setCell w a u g hne).trans h1, h2⟩
theorem CB.congr {w : World} {g n : Nat} {X Y : Nat → Nat × Nat} (h : CB w g n X) (e : ∀ i, i < n → X i = Y i) : CB w g n Y := by
  obtain ⟨cs, h1, h2⟩ := h
  exact ⟨cs, h1, fun i hi => by rw [h2 i hi, e i hi]⟩
theorem CB.new (w : World) (g n : Nat) (X : Nat → Nat × Nat) (hg : g = w.heap.size) : CB (w.alloc (.cells ((List.range n).map fun i => cval (X i)).toArray 34)) g n X := by
  subst hg
  exact ⟨_, heap_alloc_new w _, fun i hi => by simp [hi]⟩
theorem Row.toCB {w : World} {g n : Nat} {X : Nat → Nat × Nat} (h : Row w g 34 n (fun i => cval (X i))) : CB w g n X := ⟨_, h, fun i hi => by simp [hi]⟩

def cvals (X : Nat → Nat × Nat) (n : Nat) : List Value := (List.range n).map fun i => cval (X i)
theorem cvals_succ (X : Nat → Nat × Nat) (n : Nat) : cvals X (n + 1) = cvals X n ++ [cval (X n)] := by simp [cvals, List.range_succ]
theorem CB.of_owns {w : World} {base n : Nat} {v : Value} {X : Nat → Nat × Nat} (hn : 0 < n) (h : w.ownsRow base 34 1 v n (cvals X n)) : ∃ g cap, v = .slice (some ⟨g, 0, none⟩) n cap ∧ base ≤ g ∧ CB w g n X ∧ n ≤ cap := by
  rcases h.2 with h2 | ⟨g, cap, cur, h1, hg, hh, hc, hm, hs, ht⟩
  · omega
  · refine ⟨g, cap, h1, hg, ⟨cur, hh, fun k hk => ?_⟩, by omega⟩
    have hl : (cvals X n)[k]? = some (cval (X k)) := by simp [cvals, hk]
    rw [← ht, List.getElem?_take, if_pos (by omega)] at hl
    simpa using hl

/-- slices.Clone. -/
theorem clone (g n cap : Nat) (X : Nat → Nat × Nat) (hn : 0 < n) (hn' : n ≤ 1000) (w : World) (hc : ∀ i, i < n → w.cell? ⟨g, i, none⟩ = some (cval (X i))) :
    Calls Tryd.prog 40 #[.slice (some ⟨g, 0, none⟩) n cap] w fun e w' => ∃ g' cap', e = .returned (.slice (some ⟨g', 0, none⟩) n cap') ∧ w.heap.size ≤ g' ∧ n ≤ cap' ∧ CB w' g' n X ∧ Below w.heap.size w w' := by
  obtain ⟨i0, hi0, hz0, hz1, hz2⟩ := info_parts info_c
  have heq := fun (W : World) => Lib.run_eql_slice_nil (P := Tryd.prog) W 30 34 (some ⟨g, 0, none⟩) n cap 0 0 Tryd.underlying30
  have hnews : ∀ (W : World), (∀ i, i < n → W.cell? ⟨g, i, none⟩ = some (cval (X i))) → ∀ j u, (cvals X n)[j]? = some u → W.cell? ((⟨g, 0, none⟩ : Addr).add j) = some u := by
    intro W hW j u hj
    have hlt : j < n := by
      have := (List.getElem?_eq_some_iff.1 hj).1
      simpa [cvals] using this
    have h2 : (cvals X n)[j]? = some (cval (X j)) := by simp [cvals, hlt]
    rw [h2] at hj
    have := hW j hlt
    rw [hj] at this
    cases j with
    | zero => simpa [Addr.add] using this
    | succ j => simpa [Addr.add] using this
  have HN := Lib.hid hnews
  have HC := Lib.hid hc
  clear hnews hc
  go_enter Tryd.func40, Tryd.ntmps40
  have hown := World.ownsRow_made (base := w.heap.size) (e := 34) (size := 1) w #[] 0 (Nat.le_refl _) (Nat.zero_le _) rfl
  have HO := Lib.hid hown
  clear hown
  go_wp2_with (at_builtin; refine wpList_append_own _ rfl _ _ 30 rfl w.heap.size 34 i0 (.complex .f64 0 0) 1 16 Tryd.underlying30 hi0 hz0 hz1 hz2 rfl (by decide) _ _ _ rfl HO.out ⟨g, 0, none⟩ n cap (cvals X n) rfl ?c1 ?c2 ?c3 ?c4 ?c5 ?c6 ?_)
  case c1 => simp [cvals]
  case c2 => exact HN.out _ fun i hi => (World.cell?_of_block (w := w) (Below.heap_alloc w _ g (World.block_lt_of_cell? w ⟨g, i, none⟩ (HC.out i hi)))).trans (HC.out i hi)
  case c3 => intro u hu; simp only [cvals, List.mem_map] at hu; obtain ⟨x, _, rfl⟩ := hu; rfl
  case c4 => unfold maxLen; omega
  case c5 => omega
  case c6 => simp
  intro v1 w1 hown1 hg1 _
  have HB := Lib.hid (((Below.refl _ w).alloc (Nat.le_refl _) _).grown hg1 (by simp) (fun k hk => by simp [Value.ownBlock] at hk; omega))
  obtain ⟨g', cap', rfl, hge, hcb, hcap⟩ := CB.of_owns hn hown1
  have HCB := Lib.hid hcb
  clear hown1 hg1 hcb
  go_wp2
  go_ret
  exact ⟨g', cap', rfl, hge, hcap, HCB.out, HB.out⟩
end Go.Proofs.YtijbjncdiojpdaaDoor
