/- The walk of the law DftInverts. -/
import Derived.Test.YtijbjncdiojpdaaDoorWNum
namespace Go.Proofs.YtijbjncdiojpdaaDoor
open Go.RowKit
attribute [local go_sem ↓] add_UU sub_UU mul_UU add_UL add_LU sub_UL sub_LU mul_UL neg_at not_at and_UU or_UU xor_UU andNot_UU and_UL or_LU shr_UL shl_UL shr_UN shl_UN quo_UL rem_UL quo_UU rem_UU
attribute [local go_sem] wrap8_U wrap32_U wrap64_B wrap32_B wrap8_D wrapi_B wrap64_UU eq_UU ne_UU eq_UL ne_UL lt_UU le_UU
attribute [local go_sem ↓] run_fadd run_fsub run_fmul run_fquo
attribute [local go_sem] fRes_some unary_neg_f run_store_complex run_store_float

/-- Transform and Inverse of r zeros: as many, or none. -/
def zLen (r : Nat) : Nat := if isP (r : Int) then r else 0
theorem isP_pows (r : Nat) (h : isP (r : Int) = true) : ∃ m, m ≤ 8 ∧ r = 2 ^ m := by
  rcases isP_cases _ h with h | h | h | h | h | h | h | h | h
  · exact ⟨0, by decide, by omega⟩
  · exact ⟨1, by decide, by omega⟩
  · exact ⟨2, by decide, by omega⟩
  · exact ⟨3, by decide, by omega⟩
  · exact ⟨4, by decide, by omega⟩
  · exact ⟨5, by decide, by omega⟩
  · exact ⟨6, by decide, by omega⟩
  · exact ⟨7, by decide, by omega⟩
  · exact ⟨8, by decide, by omega⟩
theorem transformAnyZ (g r cap : Nat) (w : World) (ht : Tabs w) (hg : 2 < w.heap.size) (hc : CB w g r zeros) :
    Calls Tryd.prog 18 #[.slice (some ⟨g, 0, none⟩) r cap] w fun e w' => (∃ a c, e = .returned (.slice a (zLen r) c)) ∧ Below w.heap.size w w' := by
  cases h : isP (r : Int)
  · refine (transform_none _ r cap w h).mono ?_
    rintro e w' ⟨rfl, rfl⟩
    exact ⟨⟨none, 0, by unfold zLen; rw [h]; rfl⟩, Below.refl _ _⟩
  · obtain ⟨m, hm, rfl⟩ := isP_pows r h
    refine (transformZ m hm g cap w ht hg hc).mono ?_
    rintro e w' ⟨g', c', rfl, _, _, _, hb⟩
    exact ⟨⟨_, c', by unfold zLen; rw [h]; rfl⟩, hb⟩
theorem inverseAnyZ (g r cap : Nat) (w : World) (ht : Tabs w) (hg : 2 < w.heap.size) (hc : CB w g r zeros) :
    Calls Tryd.prog 17 #[.slice (some ⟨g, 0, none⟩) r cap] w fun e w' => (∃ a c, e = .returned (.slice a (zLen r) c)) ∧ Below w.heap.size w w' := by
  cases h : isP (r : Int)
  · refine (inverse_none _ r cap w h).mono ?_
    rintro e w' ⟨rfl, rfl⟩
    exact ⟨⟨none, 0, by unfold zLen; rw [h]; rfl⟩, Below.refl _ _⟩
  · obtain ⟨m, hm, rfl⟩ := isP_pows r h
    refine (inverseZ m hm g cap w ht hg hc).mono ?_
    rintro e w' ⟨g', c', rfl, _, _, _, hb⟩
    exact ⟨⟨_, c', by unfold zLen; rw [h]; rfl⟩, hb⟩

set_option maxRecDepth 20000 in
set_option maxHeartbeats 4000000 in
theorem walkDftInverts (vl : Value) (l : Nat) (L : Nat → Int) (p o : Int) (hp : (Lit.int .u8 p).wf = true) (ho : (Lit.int .i64 o).wf = true) (w : World) (ht : Tabs w) (hg : 2 < w.heap.size) (hL : I16s w vl l L) (sl : l * 2 ≤ 140737488351232) :
    Calls Tryd.prog 5 #[vl, .int .u8 p, .int .i64 o] w fun e w' => e = .returned (.bool true) ∧ Below w.heap.size w w' := by
  have hp0 : 0 ≤ p ∧ p ≤ 255 := by simp [Lit.wf, IntKind.min, IntKind.max, IntKind.signed, IntKind.bits] at hp; omega
  have ho0 : -9223372036854775808 ≤ o ∧ o ≤ 9223372036854775807 := by simp [Lit.wf, IntKind.min, IntKind.max, IntKind.signed, IntKind.bits] at ho; omega
  obtain ⟨m, hm⟩ : ∃ m : Nat, (m : Int) = p % 7 := ⟨(p % 7).toNat, by omega⟩
  have hm6 : m ≤ 6 := by omega
  obtain ⟨r, hr⟩ : ∃ r : Nat, (r : Int) = max (o.tmod 300) 0 := ⟨(max (o.tmod 300) 0).toNat, by omega⟩
  have ht1 := Int.tmod_lt_of_pos o (show (0 : Int) < 300 by decide)
  have hr300 : r ≤ 299 := by omega
  obtain ⟨n, hn⟩ : ∃ n, n = 2 ^ m := ⟨_, rfl⟩
  have hpb := pow_bound m (by omega)
  have hn64 : n ≤ 64 := by rw [hn]; exact Nat.le_trans (Nat.pow_le_pow_right (by decide) hm6) (by decide)
  rw [← hn] at hpb
  have hsh := shl_one m (by omega)
  rw [← hn] at hsh
  have HSh := Lib.hid hsh
  clear hsh
  obtain ⟨ok, ok2, V, hV⟩ := inverts m (by omega) (numN L l) (numN_ok L l)
  have HT := Lib.hid (fun g cap w => transform m (by omega) (numN L l) ok g cap w)
  have HT2 := Lib.hid (fun g cap w => transform m (by omega) (dftS m (numN L l)) ok2 g cap w)
  rw [← hn] at HT HT2 hV
  obtain ⟨T1, hT1⟩ : ∃ T1, T1 = dftS m (numN L l) := ⟨_, rfl⟩
  rw [← hT1] at HT HT2 hV
  obtain ⟨T2, hT2⟩ : ∃ T2, T2 = dftS m T1 := ⟨_, rfl⟩
  rw [← hT2] at HT2 hV
  have hV1 : ∀ q, q < n → cQuoBits (turned n T2 q).1 (turned n T2 q).2 (floatOfInt .f64 (n : Int)) 0 = some (V q) := fun q hq => (hV q hq).1
  have hn256 : n ≤ 256 := by omega
  have hinv := fun v w HTr => inverseN n T2 V hpb.1 hn256 v w HTr hV1
  have HI := Lib.hid hinv
  unfold SplitPost at HT HI
  have hV2 : ∀ i, i < n → nearB (numN L l i) (V i) = true := fun i hi => (hV i hi).2
  have HV := Lib.hid hV2
  clear hV2
  have HNu := Lib.hid (numbers vl l L n hn64 w hL sl)
  have HW := Lib.hid (And.intro ht hg)
  have hrem : p % 7 = (m : Int) := hm.symm
  have hrem2 : p.tmod 7 = (m : Int) := by rw [Int.tmod_eq_emod_of_nonneg hp0.1]; exact hrem
  have hsign : (o.tmod 300 < 0 ∧ r = 0) ∨ (¬ o.tmod 300 < 0 ∧ o.tmod 300 = (r : Int)) := by omega
  have hp1 := hp0.1
  have hp2 := hp0.2
  have ho1 := ho0.1
  have ho2 := ho0.2
  have hm0 : (0 : Int) ≤ (m : Int) := Int.natCast_nonneg m
  have hm6' : (m : Int) ≤ 6 := by omega
  have hr0 : (0 : Int) ≤ (r : Int) := Int.natCast_nonneg r
  have hr3 : (r : Int) ≤ 299 := by omega
  clear hinv hV1 hT1 hT2
  clear hp0 ho0 hm hr ok ok2 hV ht hg hL sl hn ht1 hp ho
  rcases hsign with ⟨hneg, rfl⟩ | ⟨hneg, hor⟩
  · go_enter Tryd.func5, Tryd.ntmps5
    go_wp2_with fail
    rw [HSh.out]
    refine HNu.out.mono ?_
    rintro e w1 ⟨rfl, hx, hb1⟩
    have H1 := Lib.hid (show CB w1 w.heap.size n (numN L l) ∧ Below w.heap.size w w1 ∧ Tabs w1 ∧ 2 < w1.heap.size ∧ w.heap.size < w1.heap.size from ⟨hx, hb1, HW.out.1.below hb1 HW.out.2, by have := hb1.size; have := HW.out.2; omega, hx.lt⟩)
    clear hx hb1 HNu
    go_wp2_with fail
    refine (HT.out _ _ _ H1.out.2.2.1 H1.out.2.2.2.1 H1.out.1).mono ?_
    rintro e w2 ⟨g2, c2, rfl, hg2, hc2, hX2, hb2⟩
    have H2 := Lib.hid (show CB w2 w.heap.size n (numN L l) ∧ CB w2 g2 n T1 ∧ Below w.heap.size w w2 ∧ Tabs w2 ∧ 2 < w2.heap.size ∧ w.heap.size < w2.heap.size from
      ⟨H1.out.1.below hb2 H1.out.2.2.2.2, hX2, H1.out.2.1.trans (hb2.mono (by have := H1.out.2.2.2.2; omega)), H1.out.2.2.1.below hb2 H1.out.2.2.2.1, by have := hb2.size; have := H1.out.2.2.2.1; omega, by have := hb2.size; have := H1.out.2.2.2.2; omega⟩)
    clear hg2 hc2 hX2 hb2 HT H1
    go_wp2_with fail
    refine (HI.out _ _ ?_).mono ?_
    · rintro W rfl
      exact HT2.out g2 _ _ H2.out.2.2.2.1 H2.out.2.2.2.2.1 H2.out.2.1
    rintro e w3 ⟨g3, c3, rfl, hg3, hc3, hX3, hb3⟩
    have H3 := Lib.hid (show CB w3 w.heap.size n (numN L l) ∧ CB w3 g3 n V ∧ Below w.heap.size w w3 ∧ Tabs w3 ∧ 2 < w3.heap.size ∧ w.heap.size < w3.heap.size from
      ⟨H2.out.1.below hb3 H2.out.2.2.2.2.2, hX3, H2.out.2.2.1.trans (hb3.mono (by have := H2.out.2.2.2.2.2; omega)), H2.out.2.2.2.1.below hb3 H2.out.2.2.2.2.1, by have := hb3.size; have := H2.out.2.2.2.2.1; omega, by have := hb3.size; have := H2.out.2.2.2.2.2; omega⟩)
    have hg3' : g3 < w3.heap.size := hX3.lt
    have hmk := make_c (0 : Nat) (by omega) w3
    obtain ⟨T, hT⟩ : ∃ T, T = w3.alloc (.cells ((List.range (0 : Nat)).map fun _ => cval (0, 0)).toArray 34) := ⟨_, rfl⟩
    rw [← hT] at hmk
    try rw [Int.natCast_zero] at hmk
    have hTb : Below w3.heap.size w3 T := by rw [hT]; exact (Below.refl _ _).alloc (Nat.le_refl _) _
    have H4 := Lib.hid (show CB T w.heap.size n (numN L l) ∧ CB T g3 n V ∧ CB T w3.heap.size (0 : Nat) zeros ∧ Below w.heap.size w T ∧ Tabs T ∧ 2 < T.heap.size ∧ w.heap.size < T.heap.size from by
      have h1 := hTb.size
      have h2 := H3.out.2.2.2.2
      refine ⟨H3.out.1.below hTb h2.2, H3.out.2.1.below hTb hg3', ?_, H3.out.2.2.1.trans (hTb.mono (by omega)), H3.out.2.2.2.1.below hTb h2.1, by omega, by omega⟩
      rw [hT]
      exact (Row.new w3 _ _ (0 : Nat) (fun _ => cval (0, 0)) rfl).toCB)
    have HIs := Lib.hid (refIs ((0 : Nat) : Int))
    clear hg3 hc3 hX3 hb3 HI HT2 H2 H3 hT hTb hg3'
    go_wp2_with fail
    refine (HIs.out _).mono ?_
    rintro e w5 ⟨he, rfl⟩
    have hz : (∃ b, e = .returned (.bool b) ∧ (b = isP ((0 : Nat) : Int))) := by
      rcases he with ⟨rfl, i, hi, hh⟩ | ⟨rfl, hh⟩
      · exact ⟨true, rfl, by rw [hh]; exact (isP_pow i (by omega)).symm⟩
      · refine ⟨false, rfl, ?_⟩
        cases h : isP ((0 : Nat) : Int)
        · rfl
        · obtain ⟨i, hi, hh2⟩ := isP_pows (0 : Nat) h
          exact absurd (by rw [hh2]) (hh i (by omega))
    obtain ⟨b, rfl, hb⟩ := hz
    clear he HIs
    have HZ := Lib.hid (show (zLen (0 : Nat) : Int) = if b then ((0 : Nat) : Int) else 0 by unfold zLen; rw [hb]; cases isP ((0 : Nat) : Int) <;> rfl)
    clear hb
    cases b
    all_goals
      have hzl := HZ.out
      simp only [Bool.false_eq_true, if_false, if_true] at hzl
      go_wp2_with fail
      refine (alive _ H4.out.2.2.2.2.1 H4.out.2.2.2.2.2.1).mono ?_
      rintro e w6 ⟨rfl, hb6⟩
      have H6 := Lib.hid (show CB w6 w.heap.size n (numN L l) ∧ CB w6 g3 n V ∧ CB w6 w3.heap.size (0 : Nat) zeros ∧ Below w.heap.size w w6 from
        ⟨H4.out.1.call hb6, H4.out.2.1.call hb6, H4.out.2.2.1.call hb6, H4.out.2.2.2.1.trans (hb6.mono (by have := H4.out.2.2.2.2.2.2; omega))⟩)
      clear hb6
      go_wp2_with fail
      refine (allTrue w.heap.size g3 n _ _ (numN L l) V (by omega) HV.out _ (fun i hi => H6.out.1.cell i hi) (fun i hi => H6.out.2.1.cell i hi)).mono ?_
      rintro e w7 ⟨rfl, hb7⟩
      have H7 := Lib.hid (show CB w7 w3.heap.size (0 : Nat) zeros ∧ Below w.heap.size w w7 ∧ Tabs w7 ∧ 2 < w7.heap.size from by
        have h1 := H6.out.2.2.2.trans (hb7.mono H6.out.2.2.2.size)
        exact ⟨H6.out.2.2.1.call hb7, h1, HW.out.1.below h1 HW.out.2, by have := h1.size; have := HW.out.2; omega⟩)
      clear hb7 H6
      go_wp2_with fail
      refine (transformAnyZ w3.heap.size (0 : Nat) (0 : Nat) _ H7.out.2.2.1 H7.out.2.2.2 H7.out.1).mono ?_
      rintro e w8 ⟨⟨a8, c8, rfl⟩, hb8⟩
      have H8 := Lib.hid (show CB w8 w3.heap.size (0 : Nat) zeros ∧ Below w.heap.size w w8 ∧ Tabs w8 ∧ 2 < w8.heap.size from by
        have h1 := H7.out.2.1.trans (hb8.mono H7.out.2.1.size)
        exact ⟨H7.out.1.call hb8, h1, HW.out.1.below h1 HW.out.2, by have := h1.size; have := HW.out.2; omega⟩)
      clear hb8 H7
      go_wp2_with fail
      refine (inverseAnyZ w3.heap.size (0 : Nat) (0 : Nat) _ H8.out.2.2.1 H8.out.2.2.2 H8.out.1).mono ?_
      rintro e w9 ⟨⟨a9, c9, rfl⟩, hb9⟩
      have H9 := Lib.hid (H8.out.2.1.trans (hb9.mono H8.out.2.1.size))
      clear hb9 H8
      go_wp2
      go_ret
      exact ⟨by simp, H9.out⟩
  · go_enter Tryd.func5, Tryd.ntmps5
    go_wp2_with fail
    rw [HSh.out]
    refine HNu.out.mono ?_
    rintro e w1 ⟨rfl, hx, hb1⟩
    have H1 := Lib.hid (show CB w1 w.heap.size n (numN L l) ∧ Below w.heap.size w w1 ∧ Tabs w1 ∧ 2 < w1.heap.size ∧ w.heap.size < w1.heap.size from ⟨hx, hb1, HW.out.1.below hb1 HW.out.2, by have := hb1.size; have := HW.out.2; omega, hx.lt⟩)
    clear hx hb1 HNu
    go_wp2_with fail
    refine (HT.out _ _ _ H1.out.2.2.1 H1.out.2.2.2.1 H1.out.1).mono ?_
    rintro e w2 ⟨g2, c2, rfl, hg2, hc2, hX2, hb2⟩
    have H2 := Lib.hid (show CB w2 w.heap.size n (numN L l) ∧ CB w2 g2 n T1 ∧ Below w.heap.size w w2 ∧ Tabs w2 ∧ 2 < w2.heap.size ∧ w.heap.size < w2.heap.size from
      ⟨H1.out.1.below hb2 H1.out.2.2.2.2, hX2, H1.out.2.1.trans (hb2.mono (by have := H1.out.2.2.2.2; omega)), H1.out.2.2.1.below hb2 H1.out.2.2.2.1, by have := hb2.size; have := H1.out.2.2.2.1; omega, by have := hb2.size; have := H1.out.2.2.2.2; omega⟩)
    clear hg2 hc2 hX2 hb2 HT H1
    go_wp2_with fail
    refine (HI.out _ _ ?_).mono ?_
    · rintro W rfl
      exact HT2.out g2 _ _ H2.out.2.2.2.1 H2.out.2.2.2.2.1 H2.out.2.1
    rintro e w3 ⟨g3, c3, rfl, hg3, hc3, hX3, hb3⟩
    have H3 := Lib.hid (show CB w3 w.heap.size n (numN L l) ∧ CB w3 g3 n V ∧ Below w.heap.size w w3 ∧ Tabs w3 ∧ 2 < w3.heap.size ∧ w.heap.size < w3.heap.size from
      ⟨H2.out.1.below hb3 H2.out.2.2.2.2.2, hX3, H2.out.2.2.1.trans (hb3.mono (by have := H2.out.2.2.2.2.2; omega)), H2.out.2.2.2.1.below hb3 H2.out.2.2.2.2.1, by have := hb3.size; have := H2.out.2.2.2.2.1; omega, by have := hb3.size; have := H2.out.2.2.2.2.2; omega⟩)
    have hg3' : g3 < w3.heap.size := hX3.lt
    have hmk := make_c r (by omega) w3
    obtain ⟨T, hT⟩ : ∃ T, T = w3.alloc (.cells ((List.range r).map fun _ => cval (0, 0)).toArray 34) := ⟨_, rfl⟩
    rw [← hT] at hmk
    try rw [Int.natCast_zero] at hmk
    have hTb : Below w3.heap.size w3 T := by rw [hT]; exact (Below.refl _ _).alloc (Nat.le_refl _) _
    have H4 := Lib.hid (show CB T w.heap.size n (numN L l) ∧ CB T g3 n V ∧ CB T w3.heap.size r zeros ∧ Below w.heap.size w T ∧ Tabs T ∧ 2 < T.heap.size ∧ w.heap.size < T.heap.size from by
      have h1 := hTb.size
      have h2 := H3.out.2.2.2.2
      refine ⟨H3.out.1.below hTb h2.2, H3.out.2.1.below hTb hg3', ?_, H3.out.2.2.1.trans (hTb.mono (by omega)), H3.out.2.2.2.1.below hTb h2.1, by omega, by omega⟩
      rw [hT]
      exact (Row.new w3 _ _ r (fun _ => cval (0, 0)) rfl).toCB)
    have HIs := Lib.hid (refIs (r : Int))
    clear hg3 hc3 hX3 hb3 HI HT2 H2 H3 hT hTb hg3'
    go_wp2_with fail
    refine (HIs.out _).mono ?_
    rintro e w5 ⟨he, rfl⟩
    have hz : (∃ b, e = .returned (.bool b) ∧ (b = isP (r : Int))) := by
      rcases he with ⟨rfl, i, hi, hh⟩ | ⟨rfl, hh⟩
      · exact ⟨true, rfl, by rw [hh]; exact (isP_pow i (by omega)).symm⟩
      · refine ⟨false, rfl, ?_⟩
        cases h : isP (r : Int)
        · rfl
        · obtain ⟨i, hi, hh2⟩ := isP_pows r h
          exact absurd (by rw [hh2]) (hh i (by omega))
    obtain ⟨b, rfl, hb⟩ := hz
    clear he HIs
    have HZ := Lib.hid (show (zLen r : Int) = if b then (r : Int) else 0 by unfold zLen; rw [hb]; cases isP (r : Int) <;> rfl)
    clear hb
    cases b
    all_goals
      have hzl := HZ.out
      simp only [Bool.false_eq_true, if_false, if_true] at hzl
      go_wp2_with fail
      refine (alive _ H4.out.2.2.2.2.1 H4.out.2.2.2.2.2.1).mono ?_
      rintro e w6 ⟨rfl, hb6⟩
      have H6 := Lib.hid (show CB w6 w.heap.size n (numN L l) ∧ CB w6 g3 n V ∧ CB w6 w3.heap.size r zeros ∧ Below w.heap.size w w6 from
        ⟨H4.out.1.call hb6, H4.out.2.1.call hb6, H4.out.2.2.1.call hb6, H4.out.2.2.2.1.trans (hb6.mono (by have := H4.out.2.2.2.2.2.2; omega))⟩)
      clear hb6
      go_wp2_with fail
      refine (allTrue w.heap.size g3 n _ _ (numN L l) V (by omega) HV.out _ (fun i hi => H6.out.1.cell i hi) (fun i hi => H6.out.2.1.cell i hi)).mono ?_
      rintro e w7 ⟨rfl, hb7⟩
      have H7 := Lib.hid (show CB w7 w3.heap.size r zeros ∧ Below w.heap.size w w7 ∧ Tabs w7 ∧ 2 < w7.heap.size from by
        have h1 := H6.out.2.2.2.trans (hb7.mono H6.out.2.2.2.size)
        exact ⟨H6.out.2.2.1.call hb7, h1, HW.out.1.below h1 HW.out.2, by have := h1.size; have := HW.out.2; omega⟩)
      clear hb7 H6
      go_wp2_with fail
      refine (transformAnyZ w3.heap.size r r _ H7.out.2.2.1 H7.out.2.2.2 H7.out.1).mono ?_
      rintro e w8 ⟨⟨a8, c8, rfl⟩, hb8⟩
      have H8 := Lib.hid (show CB w8 w3.heap.size r zeros ∧ Below w.heap.size w w8 ∧ Tabs w8 ∧ 2 < w8.heap.size from by
        have h1 := H7.out.2.1.trans (hb8.mono H7.out.2.1.size)
        exact ⟨H7.out.1.call hb8, h1, HW.out.1.below h1 HW.out.2, by have := h1.size; have := HW.out.2; omega⟩)
      clear hb8 H7
      go_wp2_with fail
      refine (inverseAnyZ w3.heap.size r r _ H8.out.2.2.1 H8.out.2.2.2 H8.out.1).mono ?_
      rintro e w9 ⟨⟨a9, c9, rfl⟩, hb9⟩
      have H9 := Lib.hid (H8.out.2.1.trans (hb9.mono H8.out.2.1.size))
      clear hb9 H8
      go_wp2
      go_ret
      exact ⟨by simp, H9.out⟩

theorem walkDftInverts' (w : World) (ht : Tabs w) (hg : 2 < w.heap.size) (vl : Value) (L : Nat → Int) (l : Nat) (hL : I16s w vl l L) (sl : l * 2 ≤ 140737488351232) (p : Int) (hp : (Lit.int .u8 p).wf = true) (o : Int) (ho : (Lit.int .i64 o).wf = true) :
    Calls Tryd.prog 5 #[vl, .int .u8 p, .int .i64 o] w fun e w' => e = .returned (.bool true) ∧ Below w.heap.size w w' := walkDftInverts vl l L p o hp ho w ht hg hL sl
end Go.Proofs.YtijbjncdiojpdaaDoor
