/- The law LimbCompares, walked. -/
import Derived.Test.YtacghnepggkgpaaLimbWalks2
namespace Go.Proofs.Ytacghnepggkgpaa
open Go.RowKit
attribute [local go_sem ↓] add_UU sub_UU mul_UU add_UL add_LU sub_UL sub_LU mul_UL neg_at not_at and_UU or_UU xor_UU andNot_UU and_UL or_LU shr_UL shl_UL shr_UN shl_UN quo_UL rem_UL quo_UU rem_UU
attribute [local go_sem] wrap64_N wrapi_mod wrap8_U wrap32_U wrap64_B wrap32_B wrap8_D wrapi_B wrap64_UU eq_UU ne_UU eq_UL ne_UL lt_UU le_UU


theorem Vs.held3 {w0 : World} {b1 b2 b3 : Nat} {v1 v2 v3 : V4} {w : World} (h : Vs w0 [(b3, v3), (b2, v2), (b1, v1)] w) :
    w.cell? ⟨b1, 0, none⟩ = some (.int .u64 (U v1.x0)) ∧ w.cell? ⟨b1, 1, none⟩ = some (.int .u64 (U v1.x1)) ∧ w.cell? ⟨b1, 2, none⟩ = some (.int .u64 (U v1.x2)) ∧ w.cell? ⟨b1, 3, none⟩ = some (.int .u64 (U v1.x3)) ∧ w.cell? ⟨b2, 0, none⟩ = some (.int .u64 (U v2.x0)) ∧ w.cell? ⟨b2, 1, none⟩ = some (.int .u64 (U v2.x1)) ∧ w.cell? ⟨b2, 2, none⟩ = some (.int .u64 (U v2.x2)) ∧ w.cell? ⟨b2, 3, none⟩ = some (.int .u64 (U v2.x3)) ∧ w.cell? ⟨b3, 0, none⟩ = some (.int .u64 (U v3.x0)) ∧ w.cell? ⟨b3, 1, none⟩ = some (.int .u64 (U v3.x1)) ∧ w.cell? ⟨b3, 2, none⟩ = some (.int .u64 (U v3.x2)) ∧ w.cell? ⟨b3, 3, none⟩ = some (.int .u64 (U v3.x3)) ∧ Vs w0 [(b3, v3), (b2, v2), (b1, v1)] w := by
  obtain ⟨p0, p1, p2, p3⟩ := h.four b1 v1 (by simp)
  obtain ⟨q0, q1, q2, q3⟩ := h.four b2 v2 (by simp)
  obtain ⟨r0, r1, r2, r3⟩ := h.four b3 v3 (by simp)
  exact ⟨p0, p1, p2, p3, q0, q1, q2, q3, r0, r1, r2, r3, h⟩

/-- What the law's calls return. -/
theorem compareFacts (m : BitVec 64) (a b : V4) : ∃ z q l : Bool, (a.x0 == 0#64 && (a.x1 == 0#64 && (a.x2 == 0#64 && a.x3 == 0#64))) = z ∧ (a.x0 == b.x0 && (a.x1 == b.x1 && (a.x2 == b.x2 && a.x3 == b.x3))) = q ∧
    (∀ w, Calls Try.prog 38 #[.agg #[.int .u64 (U a.x0), .int .u64 (U a.x1), .int .u64 (U a.x2), .int .u64 (U a.x3)]] w fun e w' => e = .returned (.int .u64 (U (maskW z))) ∧ Below w.heap.size w w') ∧
    (∀ w, Calls Try.prog 39 #[.agg #[.int .u64 (U a.x0), .int .u64 (U a.x1), .int .u64 (U a.x2), .int .u64 (U a.x3)], .agg #[.int .u64 (U b.x0), .int .u64 (U b.x1), .int .u64 (U b.x2), .int .u64 (U b.x3)]] w fun e w' => e = .returned (.int .u64 (U (maskW q))) ∧ Below w.heap.size w w') ∧
    (∀ w, Calls Try.prog 37 #[.agg #[.int .u64 (U a.x0), .int .u64 (U a.x1), .int .u64 (U a.x2), .int .u64 (U a.x3)], .agg #[.int .u64 (U b.x0), .int .u64 (U b.x1), .int .u64 (U b.x2), .int .u64 (U b.x3)]] w fun e w' => e = .returned (.int .u64 (U (maskW l))) ∧ Below w.heap.size w w') ∧
    (∀ w, Calls Try.prog 40 #[.agg #[.int .u64 (U a.x0), .int .u64 (U a.x1), .int .u64 (U a.x2), .int .u64 (U a.x3)], .agg #[.int .u64 (U b.x0), .int .u64 (U b.x1), .int .u64 (U b.x2), .int .u64 (U b.x3)]] w fun e w' => e = .returned (.bool l) ∧ Below w.heap.size w w') ∧
    (∀ w, Calls Try.prog 41 #[.int .u64 (U m), .agg #[.int .u64 (U a.x0), .int .u64 (U a.x1), .int .u64 (U a.x2), .int .u64 (U a.x3)], .agg #[.int .u64 (U b.x0), .int .u64 (U b.x1), .int .u64 (U b.x2), .int .u64 (U b.x3)]] w fun e w' => e = .returned (if (m % 2#64 == 1#64) = true then a else b).val ∧ Below w.heap.size w w') := by
  refine ⟨_, _, decide (a.num < b.num), rfl, rfl, ?_, ?_, limbLess a b, refLess a b, limbChoose m a b⟩
  · have h := limbIsZero a
    rw [show decide (a = V4.zero) = (a.x0 == 0#64 && (a.x1 == 0#64 && (a.x2 == 0#64 && a.x3 == 0#64))) from by rw [Bool.eq_iff_iff, decide_eq_true_iff]; exact (vec_eq a V4.zero).symm] at h
    exact h
  · have h := limbEqual a b
    rw [show decide (a = b) = (a.x0 == b.x0 && (a.x1 == b.x1 && (a.x2 == b.x2 && a.x3 == b.x3))) from by rw [Bool.eq_iff_iff, decide_eq_true_iff]; exact (vec_eq a b).symm] at h
    exact h
theorem maskCall (z : Bool) (w : World) : Calls Try.prog 17 #[.bool z] w fun e w' => e = .returned (.int .u64 (U (maskW z))) ∧ Below w.heap.size w w' :=
  (refMask z w).mono fun e w' h => ⟨h.1, by rw [← h.2]; exact Below.refl _ _⟩

set_option maxRecDepth 20000 in
set_option maxHeartbeats 4000000 in
theorem walkLimbCompares (m : BitVec 64) (a b : V4) (w : World) :
    Calls Try.prog 14 #[.int .u64 (U m), a.val, b.val] w fun e w' => e = .returned (.bool true) ∧ Below w.heap.size w w' := by
  obtain ⟨z, q, l, hz, hq, h1, h2, h3, h4, h5⟩ := compareFacts m a b
  have heq := run_eql_four
  have HM := Lib.hid maskCall
  have H1 := Lib.hid h1
  have H2 := Lib.hid h2
  have H3 := Lib.hid h3
  have H4 := Lib.hid h4
  clear h1 h2 h3 h4
  cases hc : (m % 2#64 == 1#64)
  case false =>
    rw [hc] at h5
    simp only [Bool.false_eq_true, if_false] at h5
    unfold V4.val V4.arr at h5
    have H5 := Lib.hid h5
    clear h5
    have X0 := Lib.hid (show Vs w [(w.heap.size + 1 + 1, b), (w.heap.size + 1, b), (w.heap.size, a)] (((w.alloc (.cells a.arr 38)).alloc (.cells b.arr 38)).alloc (.cells b.arr 38)) from (((Vs.start w).box a _ rfl).box b _ (by simp)).box b _ (by simp))
    unfold V4.val V4.arr
    go_enter Try.func14, Try.ntmps14
    go_wp2
    go_region_held3 (fun w' => w'.cell? ⟨w.heap.size, 0, none⟩ = some (.int .u64 (U a.x0)) ∧ w'.cell? ⟨w.heap.size, 1, none⟩ = some (.int .u64 (U a.x1)) ∧ w'.cell? ⟨w.heap.size, 2, none⟩ = some (.int .u64 (U a.x2)) ∧ w'.cell? ⟨w.heap.size, 3, none⟩ = some (.int .u64 (U a.x3)) ∧ w'.cell? ⟨w.heap.size + 1, 0, none⟩ = some (.int .u64 (U b.x0)) ∧ w'.cell? ⟨w.heap.size + 1, 1, none⟩ = some (.int .u64 (U b.x1)) ∧ w'.cell? ⟨w.heap.size + 1, 2, none⟩ = some (.int .u64 (U b.x2)) ∧ w'.cell? ⟨w.heap.size + 1, 3, none⟩ = some (.int .u64 (U b.x3)) ∧ w'.cell? ⟨w.heap.size + 1 + 1, 0, none⟩ = some (.int .u64 (U b.x0)) ∧ w'.cell? ⟨w.heap.size + 1 + 1, 1, none⟩ = some (.int .u64 (U b.x1)) ∧ w'.cell? ⟨w.heap.size + 1 + 1, 2, none⟩ = some (.int .u64 (U b.x2)) ∧ w'.cell? ⟨w.heap.size + 1 + 1, 3, none⟩ = some (.int .u64 (U b.x3)) ∧ Vs w [(w.heap.size + 1 + 1, b), (w.heap.size + 1, b), (w.heap.size, a)] w') (first | exact (X0.out.drew).held3 | exact (Vs.call (‹_ ∧ _ ∧ _ ∧ _ ∧ _ ∧ _ ∧ _ ∧ _ ∧ _ ∧ _ ∧ _ ∧ _ ∧ Vs w _ _›).2.2.2.2.2.2.2.2.2.2.2.2 (by assumption)).held3)
      (first
        | (go_at_call 30; refine (limbAlive _).mono ?_; rintro e w' ⟨rfl, hb⟩)
        | (go_at_call 17; with_reducible refine (HM.out _ _).mono ?_; rintro e w' ⟨rfl, hb⟩)
        | (go_at_call 38; with_reducible refine (H1.out _).mono ?_; rintro e w' ⟨rfl, hb⟩)
        | (go_at_call 39; with_reducible refine (H2.out _).mono ?_; rintro e w' ⟨rfl, hb⟩)
        | (go_at_call 37; with_reducible refine (H3.out _).mono ?_; rintro e w' ⟨rfl, hb⟩)
        | (go_at_call 40; with_reducible refine (H4.out _).mono ?_; rintro e w' ⟨rfl, hb⟩)
        | (go_at_call 41; with_reducible refine (H5.out _).mono ?_; rintro e w' ⟨rfl, hb⟩))
    go_wp2
    go_ret
    exact ⟨rfl, ((‹_ ∧ _ ∧ _ ∧ _ ∧ _ ∧ _ ∧ _ ∧ _ ∧ _ ∧ _ ∧ _ ∧ _ ∧ Vs w _ _›).2.2.2.2.2.2.2.2.2.2.2.2).2⟩
  case true =>
    rw [hc] at h5
    simp only [if_true] at h5
    unfold V4.val V4.arr at h5
    have H5 := Lib.hid h5
    clear h5
    have X0 := Lib.hid (show Vs w [(w.heap.size + 1 + 1, a), (w.heap.size + 1, b), (w.heap.size, a)] (((w.alloc (.cells a.arr 38)).alloc (.cells b.arr 38)).alloc (.cells a.arr 38)) from (((Vs.start w).box a _ rfl).box b _ (by simp)).box a _ (by simp))
    unfold V4.val V4.arr
    go_enter Try.func14, Try.ntmps14
    go_wp2
    go_region_held3 (fun w' => w'.cell? ⟨w.heap.size, 0, none⟩ = some (.int .u64 (U a.x0)) ∧ w'.cell? ⟨w.heap.size, 1, none⟩ = some (.int .u64 (U a.x1)) ∧ w'.cell? ⟨w.heap.size, 2, none⟩ = some (.int .u64 (U a.x2)) ∧ w'.cell? ⟨w.heap.size, 3, none⟩ = some (.int .u64 (U a.x3)) ∧ w'.cell? ⟨w.heap.size + 1, 0, none⟩ = some (.int .u64 (U b.x0)) ∧ w'.cell? ⟨w.heap.size + 1, 1, none⟩ = some (.int .u64 (U b.x1)) ∧ w'.cell? ⟨w.heap.size + 1, 2, none⟩ = some (.int .u64 (U b.x2)) ∧ w'.cell? ⟨w.heap.size + 1, 3, none⟩ = some (.int .u64 (U b.x3)) ∧ w'.cell? ⟨w.heap.size + 1 + 1, 0, none⟩ = some (.int .u64 (U a.x0)) ∧ w'.cell? ⟨w.heap.size + 1 + 1, 1, none⟩ = some (.int .u64 (U a.x1)) ∧ w'.cell? ⟨w.heap.size + 1 + 1, 2, none⟩ = some (.int .u64 (U a.x2)) ∧ w'.cell? ⟨w.heap.size + 1 + 1, 3, none⟩ = some (.int .u64 (U a.x3)) ∧ Vs w [(w.heap.size + 1 + 1, a), (w.heap.size + 1, b), (w.heap.size, a)] w') (first | exact (X0.out.drew).held3 | exact (Vs.call (‹_ ∧ _ ∧ _ ∧ _ ∧ _ ∧ _ ∧ _ ∧ _ ∧ _ ∧ _ ∧ _ ∧ _ ∧ Vs w _ _›).2.2.2.2.2.2.2.2.2.2.2.2 (by assumption)).held3)
      (first
        | (go_at_call 30; refine (limbAlive _).mono ?_; rintro e w' ⟨rfl, hb⟩)
        | (go_at_call 17; with_reducible refine (HM.out _ _).mono ?_; rintro e w' ⟨rfl, hb⟩)
        | (go_at_call 38; with_reducible refine (H1.out _).mono ?_; rintro e w' ⟨rfl, hb⟩)
        | (go_at_call 39; with_reducible refine (H2.out _).mono ?_; rintro e w' ⟨rfl, hb⟩)
        | (go_at_call 37; with_reducible refine (H3.out _).mono ?_; rintro e w' ⟨rfl, hb⟩)
        | (go_at_call 40; with_reducible refine (H4.out _).mono ?_; rintro e w' ⟨rfl, hb⟩)
        | (go_at_call 41; with_reducible refine (H5.out _).mono ?_; rintro e w' ⟨rfl, hb⟩))
    go_wp2
    go_ret
    exact ⟨rfl, ((‹_ ∧ _ ∧ _ ∧ _ ∧ _ ∧ _ ∧ _ ∧ _ ∧ _ ∧ _ ∧ _ ∧ _ ∧ Vs w _ _›).2.2.2.2.2.2.2.2.2.2.2.2).2⟩
end Go.Proofs.Ytacghnepggkgpaa
