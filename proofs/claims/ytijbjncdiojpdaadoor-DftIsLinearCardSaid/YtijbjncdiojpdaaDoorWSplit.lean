/- The walk of dft.split. -/
import Derived.Test.YtijbjncdiojpdaaDoorDDft
import Derived.Deep.RegionHeld3
namespace Go.Proofs.YtijbjncdiojpdaaDoor
open Go.RowKit
attribute [local go_sem ↓] add_UU sub_UU mul_UU add_UL add_LU sub_UL sub_LU mul_UL neg_at not_at and_UU or_UU xor_UU andNot_UU and_UL or_LU shr_UL shl_UL shr_UN shl_UN quo_UL rem_UL quo_UU rem_UU
attribute [local go_sem] wrap8_U wrap32_U wrap64_B wrap32_B wrap8_D wrapi_B wrap64_UU eq_UU ne_UU eq_UL ne_UL lt_UU le_UU
attribute [local go_sem ↓] run_fadd run_fsub run_fmul run_fquo
attribute [local go_sem] fRes_some unary_neg_f run_store_complex run_store_float

/-- What stands while the halves are transformed. -/
def SplitH (w w' : World) (ga gb h : Nat) (X : Nat → Nat × Nat) : Prop := CB w' ga h (evens X) ∧ CB w' gb h (odds X) ∧ Below w.heap.size w w' ∧ Tabs w' ∧ 2 < w'.heap.size ∧ w.heap.size < w'.heap.size
theorem SplitH.call {w w1 w2 : World} {ga gb h : Nat} {X : Nat → Nat × Nat} {va vb : Value} (H : w1.cell? ⟨w.heap.size, 0, none⟩ = some va ∧ w1.cell? ⟨w.heap.size, 1, none⟩ = some vb ∧ SplitH w w1 ga gb h X) (hb : Below w1.heap.size w1 w2) :
    w2.cell? ⟨w.heap.size, 0, none⟩ = some va ∧ w2.cell? ⟨w.heap.size, 1, none⟩ = some vb ∧ SplitH w w2 ga gb h X := by
  obtain ⟨h1, h2, hA, hB, hb0, ht, hg, hl⟩ := H
  exact ⟨(hb.cell (p := ⟨w.heap.size, 0, none⟩) hl).trans h1, (hb.cell (p := ⟨w.heap.size, 1, none⟩) hl).trans h2, hA.call hb, hB.call hb, hb0.trans (hb.mono hb0.size), ht.below hb hg, by have := hb.size; omega, by have := hb.size; omega⟩

theorem owns_form {w : World} {base n : Nat} {e : TypeId} {v : Value} {xs : List Value} (h : w.ownsRow base e 1 v n xs) (hn : 0 < n) : ∃ g cap, v = .slice (some ⟨g, 0, none⟩) n cap := by
  rcases h.2 with h2 | ⟨g, cap, cur, h1, _⟩
  · omega
  · exact ⟨g, cap, h1⟩
theorem SplitH.pre {w w1 : World} {ga gb h : Nat} {X : Nat → Nat × Nat} {va vb : Value} (H : w1.cell? ⟨w.heap.size, 0, none⟩ = some va ∧ w1.cell? ⟨w.heap.size, 1, none⟩ = some vb ∧ SplitH w w1 ga gb h X) :
    Tabs w1 ∧ 2 < w1.heap.size ∧ CB w1 ga h (evens X) ∧ CB w1 gb h (odds X) := by
  obtain ⟨h1, h2, hA, hB, hb0, ht, hg, hl⟩ := H
  exact ⟨ht, hg, hA, hB⟩
theorem SplitH.drew {w w1 : World} {ga gb h : Nat} {X : Nat → Nat × Nat} {va vb : Value} (H : w1.cell? ⟨w.heap.size, 0, none⟩ = some va ∧ w1.cell? ⟨w.heap.size, 1, none⟩ = some vb ∧ SplitH w w1 ga gb h X) :
    w1.drew.cell? ⟨w.heap.size, 0, none⟩ = some va ∧ w1.drew.cell? ⟨w.heap.size, 1, none⟩ = some vb ∧ SplitH w w1.drew ga gb h X :=
  SplitH.call H ((Below.refl _ w1).drew)
def SplitPost (w : World) (n : Nat) (Y : Nat → Nat × Nat) : Ending → World → Prop := fun e w' => ∃ g' cap', e = .returned (.slice (some ⟨g', 0, none⟩) n cap') ∧ w.heap.size ≤ g' ∧ n ≤ cap' ∧ CB w' g' n Y ∧ Below w.heap.size w w'
def SplitC (n : Nat) (X Y : Nat → Nat × Nat) : Prop := ∀ (g cap : Nat) (w : World), Tabs w → 2 < w.heap.size → CB w g n X → Calls Tryd.prog 28 #[.slice (some ⟨g, 0, none⟩) n cap] w (SplitPost w n Y)

theorem split_one (X : Nat → Nat × Nat) : SplitC 1 X X := by
  intro g cap w ht hg hc
  have HC := Lib.hid (clone g 1 cap X (by omega) (by omega))
  have HW := Lib.hid (fun i hi => hc.cell i hi)
  go_enter Tryd.func28, Tryd.ntmps28
  go_wp2_with fail
  refine (HC.out _ HW.out).mono ?_
  rintro e w1 ⟨g', cap', rfl, hge, hcp, hcb, hb⟩
  have H := Lib.hid (And.intro hge (And.intro hcp (And.intro hcb hb)))
  clear hge hcp hcb hb
  go_wp2
  go_ret
  exact ⟨g', cap', rfl, H.out⟩

set_option maxRecDepth 20000 in
set_option maxHeartbeats 4000000 in
theorem split_two (h n : Nat) (hn : n = 2 * h) (h1 : 1 ≤ h) (h128 : h ≤ 128) (hp : isP (n : Int) = true) (X Ye Yo Y P Q : Nat → Nat × Nat) (he : SplitC h (evens X) Ye) (ho : SplitC h (odds X) Yo)
    (hR : ∀ k, k < n → rootAt n k = some (P k)) (hQ : ∀ k, k < n → cmul (P k) (Yo (k % h)) = some (Q k)) (hY : ∀ k, k < n → cadd (Ye (k % h)) (Q k) = some (Y k)) : SplitC n X Y := by
  intro g cap w ht hg hc
  have hmk : (Instr.makeSlice 71 (.int .i64 2) (.int .i64 2)).run Tryd.prog w = .ok (.slice (some ⟨w.heap.size, 0, none⟩) 2 2) (w.alloc (.cells #[.slice none 0 0, .slice none 0 0] 30)) := by kernel_rfl
  obtain ⟨i0, hi0, hz0, hz1, hz2⟩ := info_parts info_c
  have HC := Lib.hid hc
  have HT := Lib.hid ht
  unfold SplitC SplitPost at he ho
  have HE := Lib.hid he
  have HO := Lib.hid ho
  have HR := Lib.hid (roots n P hp hR)
  have HQ := Lib.hid hQ
  have HY := Lib.hid hY
  have X0 := Lib.hid (Halves.start w X)
  have hn1 : ((n : Int) == 1) = false := by rw [beq_eq_false_iff_ne]; omega
  have HN := Lib.hid hn
  have hn256 : n ≤ 256 := by omega
  clear hc ht he ho hR hQ hY hn
  go_enter Tryd.func28, Tryd.ntmps28
  go_wp2
  go_loopw [21] (fun i wr => ∃ (k : Nat) (va vb : Value), k ≤ n ∧ i = .int .i64 k ∧ Halves w wr X va vb ((k + 1) / 2) (k / 2)) (fun i _ => n - (intOf i).toNat)
  case atStart => exact ⟨0, _, _, by omega, rfl, X0.out⟩
  case round =>
    clear X0 hmk
    obtain ⟨k, va, vb, hk, rfl, hh⟩ := hrel
    by_cases hlt : k < n
    · have k0 : (0 : Int) ≤ (k : Int) := Int.natCast_nonneg k
      have hlt' : (k : Int) < (n : Int) := by omega
      have c1 := (hh.below.cell (p := ⟨g, k, none⟩) HC.out.lt).trans (HC.out.cell k hlt)
      rcases (show (∃ j, k = 2 * j) ∨ (∃ j, k = 2 * j + 1) by have := Nat.div_add_mod k 2; rcases (show k % 2 = 0 ∨ k % 2 = 1 by omega) with e | e; exact .inl ⟨k / 2, by omega⟩; exact .inr ⟨k / 2, by omega⟩) with ⟨j, hj⟩ | ⟨j, hj⟩
      · have hpar : (k : Int) % 2 = 0 := by omega
        rw [show (k + 1) / 2 = j by omega, show k / 2 = j by omega] at hh
        have HJ := Lib.hid hj
        unfold cval at c1
        clear hj
        have cA := hh.cellA
        have fA := hh.frozen 0
        have hoa := hh.oa
        have hsz := hh.lt
        have HH := Lib.hid hh
        clear hh
        go_wp2_with (at_builtin; refine wpList_append_lies rfl _ _ 30 rfl (w.heap.size + 1) 34 i0 (.complex .f64 0 0) 1 16 Tryd.underlying30 hi0 hz0 hz1 hz2 rfl (by decide) _ _ _ rfl (hoa.alloc _) ⟨wr.heap.size, 0, none⟩ 1 1 [cval (X k)] rfl (by decide) ?c1 ?c2 ?c3 ?c4 ?c5 ?c6 ?_)
        case c1 => rfl
        case c2 => exact cell_one_new _ _ _
        case c3 => intro u hu; simp at hu; subst hu; rfl
        case c4 => have := HJ.out; unfold maxLen; omega
        case c5 => have := HJ.out; omega
        case c6 => simp; omega
        intro v1 w1 hown1 hg1 hl1
        obtain ⟨g1, cap1, rfl⟩ : ∃ g1 cap1, v1 = .slice (some ⟨g1, 0, none⟩) (j + 1) cap1 := owns_form hown1 (by omega)
        have hh1 := HH.out.stepA (ob := .cells #[cval (X k)] 34) (by rw [← HJ.out]; exact hown1) hg1 hl1
        have HH1 := Lib.hid hh1
        have cK := HH.out.keepA (ob := .cells #[cval (X k)] 34) hg1
        have fK := cK.2 0
        replace cK := cK.1
        clear hown1 hg1 hl1 hh1
        go_wp2
        refine ⟨⟨k + 1, _, vb, by omega, by go_num, by rw [show (k + 1 + 1) / 2 = j + 1 by have := HJ.out; omega, show (k + 1) / 2 = j by have := HJ.out; omega]; exact HH1.out⟩, by simp [intOf]; omega⟩
      · have hpar : (k : Int) % 2 = 1 := by omega
        rw [show (k + 1) / 2 = j + 1 by omega, show k / 2 = j by omega] at hh
        have HJ := Lib.hid hj
        unfold cval at c1
        clear hj
        have cA := hh.cellB
        have fA := hh.frozen 1
        have hoa := hh.ob
        have hsz := hh.lt
        have HH := Lib.hid hh
        clear hh
        go_wp2_with (at_builtin; refine wpList_append_lies rfl _ _ 30 rfl (w.heap.size + 1) 34 i0 (.complex .f64 0 0) 1 16 Tryd.underlying30 hi0 hz0 hz1 hz2 rfl (by decide) _ _ _ rfl (hoa.alloc _) ⟨wr.heap.size, 0, none⟩ 1 1 [cval (X k)] rfl (by decide) ?c1 ?c2 ?c3 ?c4 ?c5 ?c6 ?_)
        case c1 => rfl
        case c2 => exact cell_one_new _ _ _
        case c3 => intro u hu; simp at hu; subst hu; rfl
        case c4 => have := HJ.out; unfold maxLen; omega
        case c5 => have := HJ.out; omega
        case c6 => simp; omega
        intro v1 w1 hown1 hg1 hl1
        obtain ⟨g1, cap1, rfl⟩ : ∃ g1 cap1, v1 = .slice (some ⟨g1, 0, none⟩) (j + 1) cap1 := owns_form hown1 (by omega)
        have hh1 := HH.out.stepB (ob := .cells #[cval (X k)] 34) (by rw [← HJ.out]; exact hown1) hg1 hl1
        have HH1 := Lib.hid hh1
        have cK := HH.out.keepB (ob := .cells #[cval (X k)] 34) hg1
        have fK := cK.2 1
        replace cK := cK.1
        clear hown1 hg1 hl1 hh1
        go_wp2
        refine ⟨⟨k + 1, va, _, by omega, by go_num, by rw [show (k + 1 + 1) / 2 = j + 1 by have := HJ.out; omega, show (k + 1) / 2 = j + 1 by have := HJ.out; omega]; exact HH1.out⟩, by simp [intOf]; omega⟩
    · obtain rfl : k = n := by omega
      have hN := HN.out
      rw [show (k + 1) / 2 = h by omega, show k / 2 = h by omega] at hh
      obtain ⟨ga, ca, rfl, hga, hA, _⟩ := CB.of_owns h1 hh.oa
      obtain ⟨gb, cb, rfl, hgb, hB, _⟩ := CB.of_owns h1 hh.ob
      have HS := Lib.hid (show wr.cell? ⟨w.heap.size, 0, none⟩ = some (.slice (some ⟨ga, 0, none⟩) h ca) ∧ wr.cell? ⟨w.heap.size, 1, none⟩ = some (.slice (some ⟨gb, 0, none⟩) h cb) ∧ SplitH w wr ga gb h X from
        ⟨hh.cellA, hh.cellB, hA, hB, hh.below, HT.out.below hh.below hg, by have := hh.below.size; omega, hh.lt⟩)
      have cA := hh.cellA
      have cB := hh.cellB
      have hne : ga ≠ gb := fun e => hh.dj ga rfl (by rw [e]; rfl)
      clear hh hA hB hga hgb hN
      go_wp2
      go_region_held3 (fun w' => w'.cell? ⟨w.heap.size, 0, none⟩ = some (.slice (some ⟨ga, 0, none⟩) h ca) ∧ w'.cell? ⟨w.heap.size, 1, none⟩ = some (.slice (some ⟨gb, 0, none⟩) h cb) ∧ SplitH w w' ga gb h X) (first | exact SplitH.drew HS.out | exact SplitH.call (‹_ ∧ _ ∧ SplitH w _ ga gb h X›) (by assumption))
        (first
          | (go_at_call 28; with_reducible refine (HE.out ga ca _ ?_ ?_ ?_).mono ?_; exact (SplitH.pre (w := w) (ga := ga) (gb := gb) (h := h) (X := X) (by assumption)).1; exact (SplitH.pre (w := w) (ga := ga) (gb := gb) (h := h) (X := X) (by assumption)).2.1; exact (SplitH.pre (w := w) (ga := ga) (gb := gb) (h := h) (X := X) (by assumption)).2.2.1; rintro e w1 ⟨g1, cap1, rfl, hge1, _, hcb1, hb1⟩)
          | (go_at_call 28; with_reducible refine (HO.out gb cb _ ?_ ?_ ?_).mono ?_; exact (SplitH.pre (w := w) (ga := ga) (gb := gb) (h := h) (X := X) (by assumption)).1; exact (SplitH.pre (w := w) (ga := ga) (gb := gb) (h := h) (X := X) (by assumption)).2.1; exact (SplitH.pre (w := w) (ga := ga) (gb := gb) (h := h) (X := X) (by assumption)).2.2.2; rintro e w2 ⟨g2, cap2, rfl, hge2, _, hcb2, hb2⟩))
      have HH2 := (‹_ ∧ _ ∧ SplitH w w2 ga gb h X›).2.2
      obtain ⟨_, _, hbw, htw, hgw, hlw⟩ := HH2
      have hca := hcb1.call hb2
      have hmk := make_c k (by omega) w2
      have hrow : Row (w2.alloc (.cells ((List.range k).map fun _ => cval (0, 0)).toArray 34)) w2.heap.size 34 k (fun _ => cval (0, 0)) := Row.new w2 _ _ k _ rfl
      have hba : Below w2.heap.size w2 (w2.alloc (.cells ((List.range k).map fun _ => cval (0, 0)).toArray 34)) := (Below.refl _ w2).alloc (Nat.le_refl _) _
      have hg1 := hca.lt
      have hg2 := hcb2.lt
      have T3 := Lib.hid (show Tabs (w2.alloc (.cells ((List.range k).map fun _ => cval (0, 0)).toArray 34)) ∧ 2 < (w2.alloc (.cells ((List.range k).map fun _ => cval (0, 0)).toArray 34)).heap.size from ⟨htw.below hba hgw, by simp; omega⟩)
      have K3 := Lib.hid (show CB (w2.alloc (.cells ((List.range k).map fun _ => cval (0, 0)).toArray 34)) g1 h Ye ∧ CB (w2.alloc (.cells ((List.range k).map fun _ => cval (0, 0)).toArray 34)) g2 h Yo ∧ CB (w2.alloc (.cells ((List.range k).map fun _ => cval (0, 0)).toArray 34)) w2.heap.size k (fun _ => (0, 0)) ∧ Below w.heap.size w (w2.alloc (.cells ((List.range k).map fun _ => cval (0, 0)).toArray 34)) from
        ⟨hca.alloc _, hcb2.alloc _, hrow.toCB, hbw.alloc hbw.size _⟩)
      have hsz := hbw.size
      clear hcb1 hcb2 hca hrow hba hbw htw hgw hlw hge1 hge2 hb1 hb2 HS cA cB HE HO HT HC
      rename_i hHeld
      clear hHeld
      go_wp2_with fail
      refine (HR.out _ T3.out.1 T3.out.2).mono ?_
      rintro e w3 ⟨rfl, hr3, hb3⟩
      have L3 := Lib.hid (show CB w3 g1 h Ye ∧ CB w3 g2 h Yo ∧ CB w3 w2.heap.size k (fun i => if i < 0 then Y i else (0, 0)) ∧ Row w3 (w2.heap.size + 1) 34 k (fun i => cval (P i)) ∧ Below w.heap.size w w3 from
        ⟨K3.out.1.call hb3, K3.out.2.1.call hb3, (K3.out.2.2.1.call hb3).congr fun i _ => by simp, by simpa using hr3, K3.out.2.2.2.trans (hb3.mono K3.out.2.2.2.size)⟩)
      have hw3 : w.heap.size ≤ w2.heap.size := hsz
      clear hr3 hb3 K3 T3 HR hmk
      go_wp2
      go_loopw [52] (fun j wr => ∃ m : Nat, m ≤ k ∧ j = .int .i64 m ∧ CB wr g1 h Ye ∧ CB wr g2 h Yo ∧ CB wr w2.heap.size k (fun i => if i < m then Y i else (0, 0)) ∧ Row wr (w2.heap.size + 1) 34 k (fun i => cval (P i)) ∧ Below w.heap.size w wr) (fun j _ => k - (intOf j).toNat)
      case atStart => exact ⟨0, by omega, rfl, L3.out⟩
      case round =>
        clear L3
        obtain ⟨m, hm, rfl, hE, hO, hout, hrt, hb⟩ := hrel
        have m0 : (0 : Int) ≤ (m : Int) := Int.natCast_nonneg m
        by_cases hlm : m < k
        · have hlm' : (m : Int) < (k : Int) := by omega
          obtain ⟨r, hr⟩ : ∃ r, r = m % h := ⟨_, rfl⟩
          have hrh : r < h := by rw [hr]; exact Nat.mod_lt _ (by omega)
          have hq2 : (k : Int) / 2 = (h : Int) := by have := HN.out; omega
          have hh0 : ¬ (h : Int) = 0 := by omega
          have hhp : (0 : Int) < (h : Int) := by omega
          have hrem : (m : Int) % (h : Int) = (r : Int) := by rw [hr, Int.natCast_emod]
          have r0 : (0 : Int) ≤ (r : Int) := Int.natCast_nonneg r
          have r1 : (r : Int) < (h : Int) := by omega
          have q1 := HQ.out m hlm
          have q2 := HY.out m hlm
          rw [← hr] at q1 q2
          have hmul := fun t w => run_complex_mul (P := Tryd.prog) w t (P m).1 (P m).2 (Yo r).1 (Yo r).2 (Q m).1 (Q m).2 q1
          have hadd := fun t w => run_complex_sum (P := Tryd.prog) w .add (.inl rfl) t .f64 (Ye r).1 (Ye r).2 (Q m).1 (Q m).2 (Y m).1 (Y m).2 q2
          have cE := hE.cell r hrh
          have cO := hO.cell r hrh
          have cT := hout.cell m hlm
          have fT := hout.frozen m
          have cR := hrt.cell m hlm
          simp only [Nat.lt_irrefl, if_false] at cT
          unfold cval at cE cO cT cR
          have HI := Lib.hid (And.intro hE (And.intro hO (And.intro hout (And.intro hrt hb))))
          clear hE hO hout hrt hb q1 q2 hr
          go_wp2
          go_region
          go_wp2
          refine ⟨⟨m + 1, by omega, by go_num, HI.out.1.drew.other _ _ (by simp; omega), HI.out.2.1.drew.other _ _ (by simp; omega), (HI.out.2.2.1.drew.set m (Y m) hlm).congr fun i hi => ?_, HI.out.2.2.2.1.drew.other _ _ (by simp), HI.out.2.2.2.2.drew.setCell (p := ⟨w2.heap.size, m, none⟩) (by simp; omega) _⟩, by simp [intOf]; omega⟩
          by_cases e : i = m
          · subst e
            rw [if_pos rfl, if_pos (by omega)]
          · rw [if_neg e]
            by_cases h : i < m
            · rw [if_pos h, if_pos (by omega)]
            · rw [if_neg h, if_neg (by omega)]
        · obtain rfl : m = k := by omega
          have HI := Lib.hid (And.intro hout hb)
          clear hE hO hout hrt hb
          go_wp2
          go_ret
          exact ⟨w2.heap.size, m, rfl, hw3, Nat.le_refl _, HI.out.1.congr fun i hi => by rw [if_pos hi], HI.out.2⟩
end Go.Proofs.YtijbjncdiojpdaaDoor
