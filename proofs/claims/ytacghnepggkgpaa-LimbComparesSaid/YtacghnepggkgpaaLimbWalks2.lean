/- The law LimbAssembles, walked. -/
import Derived.Test.YtacghnepggkgpaaLimbWalks
namespace Go.Proofs.Ytacghnepggkgpaa
open Go.RowKit
attribute [local go_sem ↓] add_UU sub_UU mul_UU add_UL add_LU sub_UL sub_LU mul_UL neg_at not_at and_UU or_UU xor_UU andNot_UU and_UL or_LU shr_UL shl_UL shr_UN shl_UN quo_UL rem_UL quo_UU rem_UU
attribute [local go_sem] wrap64_N wrapi_mod wrap8_U wrap32_U wrap64_B wrap32_B wrap8_D wrapi_B wrap64_UU eq_UU ne_UU eq_UL ne_UL lt_UU le_UU

theorem bit_of (a : V4) (f n i : Nat) (hi : i < n) (hn : n ≤ 64) : (bitsN a f n) >>> i &&& 1#64 = bitsN a (f + i) 1 := by
  apply BitVec.eq_of_getLsbD_eq
  intro j hj
  rw [BitVec.getLsbD_and, BitVec.getLsbD_ushiftRight, bitsN_lsb, bitsN_lsb, BitVec.getLsbD_one, decide_eq_true hj]
  by_cases h : j = 0
  · subst h
    rw [Nat.add_zero, Nat.add_zero, decide_eq_true hi, decide_eq_true (show i < 64 by omega)]
    simp
  · rw [decide_eq_false (show ¬ j < 1 by omega)]
    simp [h]
theorem word_of (a : V4) (q : Nat) (hq : q < 4) : bitsN a (64 * q) 64 = a.get q := by
  apply BitVec.eq_of_getLsbD_eq
  intro j hj
  rw [bitsN_lsb, decide_eq_true hj, BitVec.getLsbD, get_bit a q j hq hj]
  simp

set_option maxRecDepth 20000 in
set_option maxHeartbeats 4000000 in
theorem walkLimbAssembles (a : V4) (b : BitVec 8) (w : World) :
    Calls Try.prog 11 #[a.val, .int .u8 (B b)] w fun e w' => e = .returned (.bool true) ∧ Below w.heap.size w w' := by
  obtain ⟨n, hn⟩ : ∃ n : Nat, n = b.toNat % 64 := ⟨_, rfl⟩
  have hn6 : n < 64 := by omega
  have hB : B b % 64 = (n : Int) := by unfold B; omega
  have n0 : (0 : Int) ≤ (n : Int) := by omega
  have n1 : (n : Int) < 64 := by omega
  have hB0 : 0 ≤ B b := (B_lt b).1
  have hB1 : B b < 256 := (B_lt b).2
  have heq := run_eql_four
  have W0 : ∀ w, Calls Try.prog 31 #[.agg #[.int .u64 (U a.x0), .int .u64 (U a.x1), .int .u64 (U a.x2), .int .u64 (U a.x3)], .int .i64 0, .int .i64 64] w fun e w' => e = .returned (.int .u64 (U (bitsN a 0 64))) ∧ Below w.heap.size w w' := limbBits a 0 64 (by decide) (by decide)
  have W1 : ∀ w, Calls Try.prog 31 #[.agg #[.int .u64 (U a.x0), .int .u64 (U a.x1), .int .u64 (U a.x2), .int .u64 (U a.x3)], .int .i64 64, .int .i64 64] w fun e w' => e = .returned (.int .u64 (U (bitsN a 64 64))) ∧ Below w.heap.size w w' := limbBits a 64 64 (by decide) (by decide)
  have W2 : ∀ w, Calls Try.prog 31 #[.agg #[.int .u64 (U a.x0), .int .u64 (U a.x1), .int .u64 (U a.x2), .int .u64 (U a.x3)], .int .i64 128, .int .i64 64] w fun e w' => e = .returned (.int .u64 (U (bitsN a 128 64))) ∧ Below w.heap.size w w' := limbBits a 128 64 (by decide) (by decide)
  have W3 : ∀ w, Calls Try.prog 31 #[.agg #[.int .u64 (U a.x0), .int .u64 (U a.x1), .int .u64 (U a.x2), .int .u64 (U a.x3)], .int .i64 192, .int .i64 64] w fun e w' => e = .returned (.int .u64 (U (bitsN a 192 64))) ∧ Below w.heap.size w w' := limbBits a 192 64 (by decide) (by decide)
  rw [show bitsN a 0 64 = a.x0 from word_of a 0 (by decide)] at W0
  rw [show bitsN a 64 64 = a.x1 from word_of a 1 (by decide)] at W1
  rw [show bitsN a 128 64 = a.x2 from word_of a 2 (by decide)] at W2
  rw [show bitsN a 192 64 = a.x3 from word_of a 3 (by decide)] at W3
  have H0 := Lib.hid W0
  have H1 := Lib.hid W1
  have H2 := Lib.hid W2
  have H3 := Lib.hid W3
  have HL := Lib.hid (limbBits a)
  have HR := Lib.hid (refBits a)
  clear W0 W1 W2 W3 hn
  have x0 : Vs w [(w.heap.size, a)] (w.alloc (.cells a.arr 38)) := (Vs.start w).box a _ rfl
  have X0 := Lib.hid x0
  clear x0
  unfold V4.val V4.arr
  go_enter Try.func11, Try.ntmps11
  go_wp2
  simp only [hB]
  clear hB
  go_loopw [6] (fun i wr => ∃ k : Nat, k ≤ 1000 ∧ i = .int .i64 k ∧ Vs w [(w.heap.size, a)] wr) (fun i _ => 1000 - (intOf i).toNat)
  case atStart => exact ⟨0, by omega, rfl, X0.out⟩
  case round =>
    clear X0
    obtain ⟨k, hk, rfl, hv⟩ := hrel
    obtain ⟨wo, rfl⟩ : ∃ wo : World, wo = wr := ⟨_, rfl⟩
    by_cases hlt : k < 256
    · have k0 : (0 : Int) ≤ (k : Int) := Int.natCast_nonneg k
      have k4 : (k : Int) < 256 := by omega
      obtain ⟨a0, a1, a2, a3⟩ := hv.four w.heap.size a (by simp)
      have HV := Lib.hid hv
      have hl : ∀ w, Calls Try.prog 31 #[a.val, .int .i64 (k : Int), .int .i64 (1 + (n : Int))] w fun e w' => e = .returned (.int .u64 (U (bitsN a k (n + 1)))) ∧ Below w.heap.size w w' := by
        rw [show 1 + (n : Int) = ((n + 1 : Nat) : Int) by omega]
        exact HL.out k (n + 1) hlt (by omega)
      have HLk := Lib.hid hl
      clear hv hl
      go_wp2_with fail
      refine (HLk.out _).mono ?_
      rintro e w1 ⟨rfl, hb1⟩
      have HV1 := Lib.hid (HV.out.call hb1)
      clear hb1 HV a0 a1 a2 a3 HLk
      go_wp2
      go_loopw [23] (fun j wr => ∃ m : Nat, m ≤ n + 1 ∧ j = .int .i64 m ∧ Vs w [(w.heap.size, a)] wr) (fun j _ => n + 1 - (intOf j).toNat)
      case atStart => exact ⟨0, by omega, rfl, HV1.out⟩
      case round =>
        obtain ⟨m, hm, rfl, hv⟩ := hrel
        have m0 : (0 : Int) ≤ (m : Int) := Int.natCast_nonneg m
        by_cases hlm : m < n + 1
        · have hlm' : (m : Int) < 1 + (n : Int) := by omega
          have m1 : (m : Int) < 65 := by omega
          have hw : IntKind.i64.wrap ((k : Int) + (m : Int)) = (k : Int) + (m : Int) := by rw [IntKind.wrap_i64]; omega
          have hbit := bit_of a k (n + 1) m hlm (by omega)
          have hl : ∀ w, Calls Try.prog 32 #[.agg #[.int .u64 (U a.x0), .int .u64 (U a.x1), .int .u64 (U a.x2), .int .u64 (U a.x3)], .int .i64 ((k : Int) + (m : Int)), .int .i64 1] w fun e w' => e = .returned (.int .u64 (U (bitsN a (k + m) 1))) ∧ Below w.heap.size w w' := by
            rw [show (k : Int) + (m : Int) = ((k + m : Nat) : Int) by omega]
            exact HR.out (k + m) 1 (by omega) (by omega)
          have HRk := Lib.hid hl
          have HV := Lib.hid hv
          clear hv hl
          go_wp2
          go_region_held3 (fun w' => w'.cell? ⟨w.heap.size, 0, none⟩ = some (.int .u64 (U a.x0)) ∧ w'.cell? ⟨w.heap.size, 1, none⟩ = some (.int .u64 (U a.x1)) ∧ w'.cell? ⟨w.heap.size, 2, none⟩ = some (.int .u64 (U a.x2)) ∧ w'.cell? ⟨w.heap.size, 3, none⟩ = some (.int .u64 (U a.x3)) ∧ Vs w [(w.heap.size, a)] w') (first | exact (HV.out.drew).held w.heap.size a (by simp) | exact (Vs.call (‹_ ∧ _ ∧ _ ∧ _ ∧ Vs w _ _›).2.2.2.2 (by assumption)).held w.heap.size a (by simp)) (first | (go_at_call 32; with_reducible refine (HRk.out _).mono ?_; rintro e w' ⟨rfl, hb⟩))
          go_wp2
          refine ⟨⟨m + 1, by omega, by go_num, (‹_ ∧ _ ∧ _ ∧ _ ∧ Vs w _ _›).2.2.2.2⟩, by simp [intOf]; omega⟩
        · obtain rfl : m = n + 1 := by omega
          have HV := Lib.hid hv
          clear hv
          go_wp2
          refine ⟨⟨k + (n + 1), by omega, by go_num, HV.out⟩, by simp [intOf]; omega⟩
    · have k4 : (256 : Int) ≤ (k : Int) := by omega
      have HV := Lib.hid hv
      clear hv
      go_wp2
      go_region_held3 (fun w' => w'.cell? ⟨w.heap.size, 0, none⟩ = some (.int .u64 (U a.x0)) ∧ w'.cell? ⟨w.heap.size, 1, none⟩ = some (.int .u64 (U a.x1)) ∧ w'.cell? ⟨w.heap.size, 2, none⟩ = some (.int .u64 (U a.x2)) ∧ w'.cell? ⟨w.heap.size, 3, none⟩ = some (.int .u64 (U a.x3)) ∧ Vs w [(w.heap.size, a)] w') (first | exact (HV.out.drew).held w.heap.size a (by simp) | exact (Vs.call (‹_ ∧ _ ∧ _ ∧ _ ∧ Vs w _ _›).2.2.2.2 (by assumption)).held w.heap.size a (by simp))
        (first
          | (go_at_call 30; refine (limbAlive _).mono ?_; rintro e w' ⟨rfl, hb⟩)
          | (go_at_call 31; with_reducible refine (H0.out _).mono ?_; rintro e w' ⟨rfl, hb⟩)
          | (go_at_call 31; with_reducible refine (H1.out _).mono ?_; rintro e w' ⟨rfl, hb⟩)
          | (go_at_call 31; with_reducible refine (H2.out _).mono ?_; rintro e w' ⟨rfl, hb⟩)
          | (go_at_call 31; with_reducible refine (H3.out _).mono ?_; rintro e w' ⟨rfl, hb⟩))
      go_wp2
      go_ret
      exact ⟨rfl, (‹_ ∧ _ ∧ _ ∧ _ ∧ Vs w _ _›).2.2.2.2.2⟩
end Go.Proofs.Ytacghnepggkgpaa
