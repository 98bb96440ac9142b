/- The walk of the law DftRoots. -/
import Derived.Test.YtijbjncdiojpdaaDoorWLaw1
import Derived.Test.YtijbjncdiojpdaaDoorWRootF
import Derived.Deep.RegionHeld3
namespace Go.Proofs.YtijbjncdiojpdaaDoor
open Go.RowKit
attribute [local go_sem ↓] add_UU sub_UU mul_UU add_UL add_LU sub_UL sub_LU mul_UL neg_at not_at and_UU or_UU xor_UU andNot_UU and_UL or_LU shr_UL shl_UL shr_UN shl_UN quo_UL rem_UL quo_UU rem_UU
attribute [local go_sem] wrap8_U wrap32_U wrap64_B wrap32_B wrap8_D wrapi_B wrap64_UU eq_UU ne_UU eq_UL ne_UL lt_UU le_UU
attribute [local go_sem ↓] run_fadd run_fsub run_fmul run_fquo
attribute [local go_sem] fRes_some unary_neg_f run_store_complex run_store_float

theorem rootsNone (n : Int) (h : isP n = false) (w : World) :
    Calls Tryd.prog 13 #[.int .i64 n] w fun e w' => e = .returned (.slice none 0 0) ∧ w = w' := by
  have HI := Lib.hid (isWalk n)
  rw [h] at HI
  clear h
  go_enter Tryd.func13, Tryd.ntmps13
  go_wp2_with fail
  refine (HI.out _).mono ?_
  rintro e w1 ⟨rfl, rfl⟩
  go_wp2
  go_ret
  exact ⟨rfl, rfl⟩

theorem walkRootsNone (n : Int) (h : isP n = false) (w : World) (ht : Tabs w) (hg : 2 < w.heap.size) :
    Calls Tryd.prog 4 #[.int .i64 n] w fun e w' => e = .returned (.bool true) ∧ Below w.heap.size w w' := by
  have HN := Lib.hid (rootsNone n h)
  have HI := Lib.hid (refIs n)
  have HA := Lib.hid (alive w ht hg)
  have HX := Lib.hid (show ¬ ∃ i, i < 9 ∧ n = ((2 ^ i : Nat) : Int) from fun ⟨i, h1, h2⟩ => by rw [h2, isP_pow i (by omega)] at h; cases h)
  clear ht hg h
  go_enter Tryd.func4, Tryd.ntmps4
  go_wp2_with fail
  refine (HN.out _).mono ?_
  rintro e w1 ⟨rfl, rfl⟩
  go_wp2_with fail
  refine (HI.out _).mono ?_
  rintro e w1 ⟨he, rfl⟩
  rcases he with ⟨_, he⟩ | ⟨rfl, _⟩
  · exact absurd he HX.out
  go_wp2_with fail
  refine HA.out.mono ?_
  rintro e w2 ⟨rfl, hb⟩
  have HB := Lib.hid hb
  clear hb
  go_wp2
  go_ret
  exact ⟨rfl, HB.out⟩

/-- What stands at the end. -/
def RootsH (w w' : World) : Prop := Tabs w' ∧ 2 < w'.heap.size ∧ w.heap.size < w'.heap.size ∧ Below w.heap.size w w'
theorem RootsH.call {w w1 w2 : World} {i j : Nat} {va vb : Value} (H : w1.cell? ⟨w.heap.size, i, none⟩ = some va ∧ w1.cell? ⟨w.heap.size, j, none⟩ = some vb ∧ RootsH w w1) (hb : Below w1.heap.size w1 w2) :
    w2.cell? ⟨w.heap.size, i, none⟩ = some va ∧ w2.cell? ⟨w.heap.size, j, none⟩ = some vb ∧ RootsH w w2 := by
  obtain ⟨h1, h2, ht, hg, hl, hb0⟩ := H
  exact ⟨(hb.cell (p := ⟨w.heap.size, i, none⟩) hl).trans h1, (hb.cell (p := ⟨w.heap.size, j, none⟩) hl).trans h2, ht.below hb hg, by have := hb.size; omega, by have := hb.size; omega, hb0.trans (hb.mono hb0.size)⟩
theorem RootsH.drew {w w1 : World} {i j : Nat} {va vb : Value} (H : w1.cell? ⟨w.heap.size, i, none⟩ = some va ∧ w1.cell? ⟨w.heap.size, j, none⟩ = some vb ∧ RootsH w w1) :
    w1.drew.cell? ⟨w.heap.size, i, none⟩ = some va ∧ w1.drew.cell? ⟨w.heap.size, j, none⟩ = some vb ∧ RootsH w w1.drew := RootsH.call H ((Below.refl _ w1).drew)
theorem RootsH.pre {w w1 : World} {i j : Nat} {va vb : Value} (H : w1.cell? ⟨w.heap.size, i, none⟩ = some va ∧ w1.cell? ⟨w.heap.size, j, none⟩ = some vb ∧ RootsH w w1) : Tabs w1 ∧ 2 < w1.heap.size := ⟨H.2.2.1, H.2.2.2.1⟩

set_option maxRecDepth 20000 in
set_option maxHeartbeats 4000000 in
theorem walkRootsSome (m : Nat) (hm : m ≤ 8) (w : World) (ht : Tabs w) (hg : 2 < w.heap.size) :
    Calls Tryd.prog 4 #[.int .i64 ((2 ^ m : Nat) : Int)] w fun e w' => e = .returned (.bool true) ∧ Below w.heap.size w w' := by
  have hf := allN_at rootFacts m (by omega)
  rw [Bool.and_eq_true, Bool.and_eq_true] at hf
  obtain ⟨f0, f1, f2⟩ := hf
  have HR := Lib.hid (roots (2 ^ m) (fun k => rb (k * 2 ^ (8 - m))) (isP_pow m hm) (fun k hk => root_tab m k hm hk) w ht hg)
  have HI := Lib.hid (refIs ((2 ^ m : Nat) : Int))
  have HX := Lib.hid (show ∃ i, i < 9 ∧ ((2 ^ m : Nat) : Int) = ((2 ^ i : Nat) : Int) from ⟨m, by omega, rfl⟩)
  have HN0 := Lib.hid (nearTrue _ _ f0)
  obtain ⟨n, hn⟩ : ∃ n, n = 2 ^ m := ⟨_, rfl⟩
  have hn1 : 1 ≤ n := by rw [hn]; exact Nat.one_le_two_pow
  have hn2 : n ≤ 256 := by rw [hn]; exact Nat.le_trans (Nat.pow_le_pow_right (by decide) hm) (by decide)
  obtain ⟨R, hR⟩ : ∃ R : Nat → Nat × Nat, R = fun k => rb (k * 2 ^ (8 - m)) := ⟨_, rfl⟩
  have hR0 : rb 0 = R 0 := by rw [hR]; simp
  obtain ⟨qe, qe1, qe2⟩ := prodNear'_some f1
  have HNe := Lib.hid (nearTrue _ _ qe2)
  have hF := fun k (hk : k < n) => allN_at f2 k (by rw [← hn]; exact hk)
  have hP : ∀ k, 0 < k → k < n → ∃ q, cmul (R (k - 1)) (R 1) = some q ∧ nearB (R k) q = true := by
    intro k h0 hk
    have := hF k hk
    rw [Bool.and_eq_true, Bool.or_eq_true] at this
    rcases this.1 with h | h
    · rw [beq_iff_eq] at h; omega
    · rw [hR]
      have := prodNear_some h
      simpa using this
  have hQ : ∀ k, k < n → ∃ q, cmul (R k) ((R k).1, Op.negFloat .f64 (R k).2) = some q ∧ nearB q oneC = true := by
    intro k hk
    have := hF k hk
    rw [Bool.and_eq_true] at this
    rw [hR]
    exact prodNear'_some this.2
  rw [← hn] at HR HI HX qe1 ⊢
  have HPQ := Lib.hid (And.intro hP hQ)
  rw [hR0] at HN0
  have qe1' : cmul (R (n - 1)) (R (1 % n)) = some qe := by rw [hR]; exact qe1
  have HR' := Lib.hid (show Calls Tryd.prog 13 #[.int .i64 (n : Int)] w fun e w' => e = .returned (.slice (some ⟨w.heap.size, 0, none⟩) n n) ∧ Row w' w.heap.size 34 n (fun i => cval (R i)) ∧ Below w.heap.size w w' from by
    rw [hR]
    exact HR.out)
  have HT := Lib.hid (And.intro ht hg)
  have HQE := Lib.hid qe1'
  have hnn : ((n : Int) == (n : Int)) = true := by simp
  clear f0 f1 f2 hF hP hQ qe1 qe1' HR hR hR0 hn ht hg qe2
  go_enter Tryd.func4, Tryd.ntmps4
  go_wp2_with fail
  refine HR'.out.mono ?_
  rintro e w1 ⟨rfl, hrow, hb1⟩
  have H1 := Lib.hid (And.intro hrow hb1)
  clear hrow hb1 HR'
  go_wp2_with fail
  refine (HI.out _).mono ?_
  rintro e w2 ⟨he, rfl⟩
  rcases he with ⟨rfl, _⟩ | ⟨_, he⟩
  case inr => obtain ⟨i, hi, hh⟩ := HX.out; exact absurd hh (he i hi)
  have c0 := H1.out.1.cell 0 (by omega)
  have n0 : (0 : Int) < (n : Int) := by omega
  unfold cval at c0
  unfold oneC cval at HN0
  go_wp2_with fail
  refine (HN0.out _).mono ?_
  rintro e w2 ⟨rfl, rfl⟩
  clear c0
  go_wp2
  go_loopw [29] (fun j wr => ∃ k : Nat, k ≤ n ∧ j = .int .i64 k ∧ Row wr w.heap.size 34 n (fun i => cval (R i)) ∧ Below w.heap.size w wr) (fun j _ => n - (intOf j).toNat)
  case atStart => exact ⟨0, by omega, rfl, H1.out⟩
  case round =>
    clear H1
    obtain ⟨k, hk, rfl, hr, hb⟩ := hrel
    have k0 : (0 : Int) ≤ (k : Int) := Int.natCast_nonneg k
    by_cases hlt : k < n
    · have hlt' : (k : Int) < (n : Int) := by omega
      obtain ⟨q, q1, q2⟩ := HPQ.out.2 k hlt
      have HNq := Lib.hid (nearTrue _ _ q2)
      have hmulq := fun t w => run_complex_mul (P := Tryd.prog) w t (R k).1 (R k).2 (R k).1 (Op.negFloat .f64 (R k).2) q.1 q.2 q1
      have ck := hr.cell k hlt
      unfold oneC at HNq
      unfold cval at ck HNq
      have HH := Lib.hid (And.intro hr hb)
      by_cases hk0 : k = 0
      · subst hk0
        clear hr hb q1 q2 hk k0 hlt'
        go_wp2
        go_quiet ((go_at_call 15; with_reducible exact Calls.quiet_of_same ((HNq.out _).mono fun _ _ h => ⟨h.1, h.2.symm⟩)))
        go_wp2
        refine ⟨⟨1, by omega, by go_num, HH.out.1.drewN _, below_drewN HH.out.2 _⟩, by simp [intOf]; omega⟩
      · obtain ⟨p, p1, p2⟩ := HPQ.out.1 k (by omega) hlt
        have HNp := Lib.hid (nearTrue _ _ p2)
        have hmulp := fun t w => run_complex_mul (P := Tryd.prog) w t (R (k - 1)).1 (R (k - 1)).2 (R 1).1 (R 1).2 p.1 p.2 p1
        obtain ⟨j, hj⟩ : ∃ j, j = k - 1 := ⟨_, rfl⟩
        rw [← hj] at hmulp
        have hd : decide (0 < k) = true := by simp; omega
        have hkj : (k : Int) - 1 = (j : Int) := by omega
        have j0 : (0 : Int) ≤ (j : Int) := Int.natCast_nonneg j
        have j1 : (j : Int) < (n : Int) := by omega
        have n1 : (1 : Int) < (n : Int) := by omega
        have kpos : (0 : Int) < (k : Int) := by omega
        have cj := hr.cell j (by omega)
        have c1 := hr.cell 1 (by omega)
        unfold cval at cj c1 HNp
        clear hr hb q1 q2 p1 p2 hj
        go_wp2
        go_quiet ((first | (go_at_call 15; with_reducible exact Calls.quiet_of_same ((HNq.out _).mono fun _ _ h => ⟨h.1, h.2.symm⟩)) | (go_at_call 15; with_reducible exact Calls.quiet_of_same ((HNp.out _).mono fun _ _ h => ⟨h.1, h.2.symm⟩))))
        go_wp2
        refine ⟨⟨k + 1, by omega, by go_num, HH.out.1.drewN _, below_drewN HH.out.2 _⟩, by simp [intOf]; omega⟩
    · obtain rfl : k = n := by omega
      obtain ⟨l, hl⟩ : ∃ l, l = k - 1 := ⟨_, rfl⟩
      obtain ⟨r, hr1⟩ : ∃ r, r = 1 % k := ⟨_, rfl⟩
      have hkl : (k : Int) - 1 = (l : Int) := by omega
      have l0 : (0 : Int) ≤ (l : Int) := Int.natCast_nonneg l
      have l1 : (l : Int) < (k : Int) := by omega
      have hrk : r < k := by rw [hr1]; exact Nat.mod_lt _ (by omega)
      have r0 : (0 : Int) ≤ (r : Int) := Int.natCast_nonneg r
      have r1 : (r : Int) < (k : Int) := by omega
      have hrem : (1 : Int) % (k : Int) = (r : Int) := by rw [hr1, Int.natCast_emod]; rfl
      have hrem2 : Int.tmod 1 (k : Int) = (r : Int) := by rw [Int.tmod_eq_emod_of_nonneg (by decide)]; exact hrem
      have hk256 : (k : Int) ≤ 256 := by omega
      have hwl : IntKind.i64.wrap ((k : Int) - 1) = (l : Int) := by rw [IntKind.wrap_i64]; omega
      have hwl2 : IntKind.i64.wrap (l : Int) = (l : Int) := by rw [IntKind.wrap_i64]; omega
      have hwr2 : IntKind.i64.wrap (r : Int) = (r : Int) := by rw [IntKind.wrap_i64]; omega
      have hk00 : ((k : Int) == 0) = false := by rw [beq_eq_false_iff_ne]; omega
      have hkn : ¬ k = 0 := by omega
      have HNb := Lib.hid (fun W => (HNe.out W).mono (R' := fun e w' => e = .returned (.bool true) ∧ Below W.heap.size W w') fun e w' h => ⟨h.1, by rw [← h.2]; exact Below.refl _ _⟩)
      have hk0 : ¬ (k : Int) = 0 := by omega
      have hq := HQE.out
      rw [← hl, ← hr1] at hq
      have hmul := fun t w => run_complex_mul (P := Tryd.prog) w t (R l).1 (R l).2 (R r).1 (R r).2 qe.1 qe.2 hq
      have cl := hr.cell l (by omega)
      have cr := hr.cell r hrk
      have HS := Lib.hid (show wr.cell? ⟨w.heap.size, l, none⟩ = some (cval (R l)) ∧ wr.cell? ⟨w.heap.size, r, none⟩ = some (cval (R r)) ∧ RootsH w wr from
        ⟨cl, cr, HT.out.1.below hb HT.out.2, by have := hb.size; have := HT.out.2; omega, hr.lt, hb⟩)
      unfold cval at HS HNb
      unfold oneC at HNb
      clear cl cr hq hr hb hl hr1 hlt hk
      go_wp2
      go_region_held3 (fun w' => w'.cell? ⟨w.heap.size, l, none⟩ = some (.complex .f64 (R l).1 (R l).2) ∧ w'.cell? ⟨w.heap.size, r, none⟩ = some (.complex .f64 (R r).1 (R r).2) ∧ RootsH w w') (first | exact RootsH.drew HS.out | exact RootsH.call (‹_ ∧ _ ∧ RootsH w _›) (by assumption))
        (first
          | (go_at_call 11; with_reducible refine (alive _ ?_ ?_).mono ?_; exact (RootsH.pre (w := w) (by assumption)).1; exact (RootsH.pre (w := w) (by assumption)).2; rintro e w5 ⟨rfl, hb5⟩)
          | (go_at_call 15; with_reducible refine (HNb.out _).mono ?_; rintro e w6 ⟨rfl, hb6⟩))
      have HF := Lib.hid (‹_ ∧ _ ∧ RootsH w w6›).2.2.2.2.2
      rename_i hHeld
      clear hHeld
      go_wp2
      go_ret
      exact ⟨rfl, HF.out⟩

theorem walkDftRoots' (w : World) (ht : Tabs w) (hg : 2 < w.heap.size) (n : Int) (_ : (Lit.int .i64 n).wf = true) :
    Calls Tryd.prog 4 #[.int .i64 n] w fun e w' => e = .returned (.bool true) ∧ Below w.heap.size w w' := by
  cases h : isP n
  · exact walkRootsNone n h w ht hg
  · have : ∃ m, m ≤ 8 ∧ n = ((2 ^ m : Nat) : Int) := by
      rcases isP_cases n h with h | h | h | h | h | h | h | h | h
      · exact ⟨0, by decide, h⟩
      · exact ⟨1, by decide, h⟩
      · exact ⟨2, by decide, h⟩
      · exact ⟨3, by decide, h⟩
      · exact ⟨4, by decide, h⟩
      · exact ⟨5, by decide, h⟩
      · exact ⟨6, by decide, h⟩
      · exact ⟨7, by decide, h⟩
      · exact ⟨8, by decide, h⟩
    obtain ⟨m, hm, rfl⟩ := this
    exact walkRootsSome m hm w ht hg
end Go.Proofs.YtijbjncdiojpdaaDoor
