/- Walks of the reference's Bit, Bits, Less. -/
import Derived.Test.YtacghnepggkgpaaVBits
namespace Go.Proofs.Ytacghnepggkgpaa
open Go.RowKit
attribute [local go_sem ↓] add_UU sub_UU mul_UU add_UL add_LU sub_UL sub_LU mul_UL neg_at not_at and_UU or_UU xor_UU andNot_UU and_UL or_LU shr_UL shl_UL shr_UN shl_UN quo_UL rem_UL quo_UU rem_UU
attribute [local go_sem] wrap64_N wrapi_mod wrap8_U wrap32_U wrap64_B wrap32_B wrap8_D wrapi_B wrap64_UU eq_UU ne_UU eq_UL ne_UL lt_UU le_UU

theorem refBit (a : V4) (f : Nat) (hf : f ≤ 1000) (w : World) :
    Calls Try.prog 47 #[a.val, .int .i64 (f : Int)] w fun e w' => e = .returned (.int .u64 (U (bitsN a f 1))) ∧ Below w.heap.size w w' := by
  have f0 : (0 : Int) ≤ (f : Int) := Int.natCast_nonneg f
  unfold V4.val V4.arr
  by_cases h : f < 256
  · have hq0 : (0 : Int) ≤ (f : Int) / 64 := by omega
    have hq1 : (f : Int) / 64 < 4 := by omega
    have hlt : (f : Int) ≤ 255 := by omega
    have X := Lib.hid (IsVec.newAt w 38 a _ rfl)
    have c1 := X.out.cell (f / 64) (by omega)
    have XB := Lib.hid (show Below w.heap.size w (w.alloc (.cells a.arr 38)) by go_grown)
    unfold V4.arr at c1
    go_enter Try.func47, Try.ntmps47
    go_wp2
    go_loop [5, 6] (fun x j => ∃ (m : Nat) (y : BitVec 64), m ≤ f % 64 ∧ j = .int .i64 m ∧ x = .int .u64 (U y) ∧ y.toNat = (a.get (f / 64)).toNat / 2 ^ m) (fun _ j => 64 - (intOf j).toNat)
    case atStart => exact ⟨0, _, by omega, rfl, rfl, by simp⟩
    case round =>
      obtain ⟨m, y, hm, rfl, rfl, hy⟩ := hrel
      by_cases hlm : m < f % 64
      · have hy' : (y / 2#64).toNat = (a.get (f / 64)).toNat / 2 ^ (m + 1) := by
          rw [BitVec.toNat_udiv, hy, Nat.div_div_eq_div_mul, Nat.pow_succ]; rfl
        have HY := Lib.hid hy'
        clear hy' hy c1
        have h1 : (m : Int) < (f : Int) % 64 := by omega
        go_wp2
        go_round
        case rel => exact ⟨m + 1, _, by omega, by go_num, rfl, HY.out⟩
        case measure => simp [intOf]; omega
      · obtain rfl : m = f % 64 := by omega
        have hr : U (y % 2#64) = U (bitsN a f 1) := by
          have : y % 2#64 = bitsN a f 1 := by
            apply BitVec.eq_of_toNat_eq
            have hb := bit_at a f h
            unfold bitsN
            rw [BitVec.toNat_umod, BitVec.toNat_ofNat, BitVec.toNat_ofNat, hy, pow64, show 2 % 18446744073709551616 = 2 from rfl, hb, Nat.pow_one]
            omega
          rw [this]
        have HR := Lib.hid hr
        clear hr hy c1
        go_wp2
        go_ret
        exact ⟨by rw [HR.out]; rfl, XB.out⟩
  · have hlt : (255 : Int) < (f : Int) := by omega
    have hz := Lib.hid (bitsN_high a f 1 (by omega))
    go_enter Try.func47, Try.ntmps47
    go_wp2
    go_ret
    refine ⟨by rw [hz.out]; rfl, ?_⟩
    go_grown

set_option maxHeartbeats 1000000 in
theorem refBits (a : V4) (f n : Nat) (hn : n ≤ 64) (hf : f < 9223372036854775808) (w : World) :
    Calls Try.prog 32 #[a.val, .int .i64 (f : Int), .int .i64 (n : Int)] w fun e w' => e = .returned (.int .u64 (U (bitsN a f n))) ∧ Below w.heap.size w w' := by
  have f0 : (0 : Int) ≤ (f : Int) := Int.natCast_nonneg f
  have n0 : (0 : Int) ≤ (n : Int) := Int.natCast_nonneg n
  have n1 : (n : Int) ≤ 64 := by omega
  unfold V4.val V4.arr
  have X := Lib.hid (show IsVec (w.alloc (.cells a.arr 38)) w.heap.size 38 a ∧ Below w.heap.size w (w.alloc (.cells a.arr 38)) from ⟨IsVec.newAt w 38 a _ rfl, by go_grown⟩)
  go_enter Try.func32, Try.ntmps32
  go_wp2
  go_loopw [7, 8] (fun o i wr => ∃ (m : Nat), m ≤ n ∧ i = .int .i64 ((n : Int) - 1 - m) ∧ o = .int .u64 (U (BitVec.ofNat 64 (a.num / 2 ^ (f + (n - m)) % 2 ^ m))) ∧ IsVec wr w.heap.size 38 a ∧ Below w.heap.size w wr) (fun _ i _ => (intOf i + 1).toNat)
  case atStart => exact ⟨0, by omega, by simp, by rw [Nat.pow_zero, Nat.mod_one]; rfl, X.out.1, X.out.2⟩
  case round =>
    clear X
    obtain ⟨m, hm, rfl, rfl, hv, hb⟩ := hrel
    by_cases hlm : m < n
    · have hge : (0 : Int) ≤ (n : Int) - 1 - m := by omega
      have hstep : BitVec.ofNat 64 (a.num / 2 ^ (f + (n - m)) % 2 ^ m) * 2#64 + bitsN a (f + (n - (m + 1))) 1 = BitVec.ofNat 64 (a.num / 2 ^ (f + (n - (m + 1))) % 2 ^ (m + 1)) := by
        have e := bits_step a.num (f + (n - (m + 1))) m
        rw [show f + (n - (m + 1)) + 1 = f + (n - m) by omega] at e
        rw [e, BitVec.ofNat_add, BitVec.ofNat_mul, BitVec.mul_comm]
        unfold bitsN
        rw [Nat.pow_one]
      have hi : (f : Int) + ((n : Int) - 1 - m) = ((f + (n - (m + 1)) : Nat) : Int) := by omega
      by_cases hlt : f < 256
      · have hlt' : (f : Int) ≤ 255 := by omega
        have c0 := hv.cell 0 (by omega)
        have c1 := hv.cell 1 (by omega)
        have c2 := hv.cell 2 (by omega)
        have c3 := hv.cell 3 (by omega)
        have HB := Lib.hid (And.intro hv hb)
        have HS := Lib.hid hstep
        have HI := Lib.hid hi
        have hbit := Lib.hid (refBit a (f + (n - (m + 1))) (by omega))
        clear hv hb hstep hi
        go_wp2_with fail
        rw [HI.out]
        refine (hbit.out _).mono ?_
        rintro e w1 ⟨rfl, hb1⟩
        have HB1 := Lib.hid (show IsVec w1 w.heap.size 38 a ∧ Below w.heap.size w w1 from ⟨HB.out.1.below hb1 HB.out.1.lt, HB.out.2.trans (hb1.mono HB.out.2.size)⟩)
        clear hb1 c0 c1 c2 c3
        go_wp2
        refine ⟨⟨m + 1, by omega, by go_num, by rw [HS.out], HB1.out.1, HB1.out.2⟩, by simp [intOf]; omega⟩
      · have hlt' : (255 : Int) < (f : Int) := by omega
        have hz : bitsN a (f + (n - (m + 1))) 1 = 0#64 := bitsN_high a _ 1 (by omega)
        rw [hz, BitVec.add_zero] at hstep
        have HB := Lib.hid (And.intro hv hb)
        have HS := Lib.hid hstep
        clear hv hb hstep hi hz
        go_wp2
        refine ⟨⟨m + 1, by omega, by go_num, by rw [HS.out], HB.out.1, HB.out.2⟩, by simp [intOf]; omega⟩
    · obtain rfl : m = n := by omega
      have hneg : (m : Int) - 1 - m < 0 := by omega
      have HB := Lib.hid hb
      clear hv hb
      go_wp2
      go_ret
      refine ⟨?_, HB.out⟩
      rw [Nat.sub_self, Nat.add_zero]
      rfl

theorem refBits_out (a : V4) (f n : Int) (h : f < 0 ∨ n < 0 ∨ 64 < n) (w : World) :
    Calls Try.prog 32 #[a.val, .int .i64 f, .int .i64 n] w fun e w' => e = .returned (.int .u64 (U 0#64)) ∧ Below w.heap.size w w' := by
  unfold V4.val V4.arr
  rcases (show f < 0 ∨ (0 ≤ f ∧ n < 0) ∨ (0 ≤ f ∧ 0 ≤ n ∧ 64 < n) by omega) with h1 | ⟨h1, h2⟩ | ⟨h1, h2, h3⟩
  all_goals
    go_enter Try.func32, Try.ntmps32
    go_wp2
    go_ret
    refine ⟨rfl, ?_⟩
    go_grown

theorem refLess (a b : V4) (w : World) :
    Calls Try.prog 40 #[a.val, b.val] w fun e w' => e = .returned (.bool (decide (a.num < b.num))) ∧ Below w.heap.size w w' := by
  have hn := refSub_num a b
  have la := a.num_lt
  have lb := b.num_lt
  have lv := V4.num_lt (vecN (subD (dig a) (dig b) 16).1 0 16)
  have hd : (BitVec.ofNat 64 (subD (dig a) (dig b) 16).2 == 1#64) = decide (a.num < b.num) := by
    rcases (show (subD (dig a) (dig b) 16).2 = 0 ∨ (subD (dig a) (dig b) 16).2 = 1 by omega) with e | e
    · rw [e] at hn ⊢
      rw [decide_eq_false (by omega)]; rfl
    · rw [e] at hn ⊢
      rw [decide_eq_true (by omega)]; rfl
  have HD := Lib.hid hd
  have HS := Lib.hid (refSub a b)
  clear hn la lb lv hd
  unfold V4.val V4.arr
  go_enter Try.func40, Try.ntmps40
  have X := Lib.hid (show Below w.heap.size w ((w.alloc (.cells a.arr 38)).alloc (.cells b.arr 38)) by go_grown)
  go_wp2_with fail
  refine (HS.out _).mono ?_
  rintro e w1 ⟨rfl, hb1⟩
  have H1 := Lib.hid (X.out.trans (hb1.mono X.out.size))
  clear hb1 X HS
  unfold V4.val V4.arr
  go_wp2
  go_ret
  refine ⟨by rw [← HD.out]; rfl, ?_⟩
  have hB := H1.out
  have hs := hB.size
  go_grown
end Go.Proofs.Ytacghnepggkgpaa
