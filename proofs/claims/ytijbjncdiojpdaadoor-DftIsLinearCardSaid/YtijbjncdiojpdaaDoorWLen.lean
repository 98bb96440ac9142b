/- math/bits.Len of small numbers. -/
import Derived.Test.YtijbjncdiojpdaaDoorWCheck
namespace Go.Proofs.YtijbjncdiojpdaaDoor
open Go.RowKit
attribute [local go_sem ↓] add_UU sub_UU mul_UU add_UL add_LU sub_UL sub_LU mul_UL neg_at not_at and_UU or_UU xor_UU andNot_UU and_UL or_LU shr_UL shl_UL shr_UN shl_UN quo_UL rem_UL quo_UU rem_UU
attribute [local go_sem] wrap8_U wrap32_U wrap64_B wrap32_B wrap8_D wrapi_B wrap64_UU eq_UU ne_UU eq_UL ne_UL lt_UU le_UU
attribute [local go_sem ↓] run_fadd run_fsub run_fmul run_fquo
attribute [local go_sem] fRes_some unary_neg_f run_store_complex run_store_float

def lenS (n : Nat) : Nat := if n = 0 then 0 else n.log2 + 1
set_option maxRecDepth 100000 in
set_option maxHeartbeats 4000000 in
theorem len64_0 (n : Nat) (h : 0 ≤ n ∧ n < 16) (w : World) :
    Calls Tryd.prog 33 #[.int .u64 (n : Int)] w fun e w' => e = .returned (.int .i64 (lenS n : Nat)) ∧ w = w' := by
  rcases (show n = 0 ∨ n = 1 ∨ n = 2 ∨ n = 3 ∨ n = 4 ∨ n = 5 ∨ n = 6 ∨ n = 7 ∨ n = 8 ∨ n = 9 ∨ n = 10 ∨ n = 11 ∨ n = 12 ∨ n = 13 ∨ n = 14 ∨ n = 15 by omega) with rfl | rfl | rfl | rfl | rfl | rfl | rfl | rfl | rfl | rfl | rfl | rfl | rfl | rfl | rfl | rfl
  all_goals
    go_enter Tryd.func33, Tryd.ntmps33
    go_wp2
    go_ret
    exact ⟨by kernel_rfl, rfl⟩
set_option maxRecDepth 100000 in
set_option maxHeartbeats 4000000 in
theorem len64_16 (n : Nat) (h : 16 ≤ n ∧ n < 32) (w : World) :
    Calls Tryd.prog 33 #[.int .u64 (n : Int)] w fun e w' => e = .returned (.int .i64 (lenS n : Nat)) ∧ w = w' := by
  rcases (show n = 16 ∨ n = 17 ∨ n = 18 ∨ n = 19 ∨ n = 20 ∨ n = 21 ∨ n = 22 ∨ n = 23 ∨ n = 24 ∨ n = 25 ∨ n = 26 ∨ n = 27 ∨ n = 28 ∨ n = 29 ∨ n = 30 ∨ n = 31 by omega) with rfl | rfl | rfl | rfl | rfl | rfl | rfl | rfl | rfl | rfl | rfl | rfl | rfl | rfl | rfl | rfl
  all_goals
    go_enter Tryd.func33, Tryd.ntmps33
    go_wp2
    go_ret
    exact ⟨by kernel_rfl, rfl⟩
set_option maxRecDepth 100000 in
set_option maxHeartbeats 4000000 in
theorem len64_32 (n : Nat) (h : 32 ≤ n ∧ n < 48) (w : World) :
    Calls Tryd.prog 33 #[.int .u64 (n : Int)] w fun e w' => e = .returned (.int .i64 (lenS n : Nat)) ∧ w = w' := by
  rcases (show n = 32 ∨ n = 33 ∨ n = 34 ∨ n = 35 ∨ n = 36 ∨ n = 37 ∨ n = 38 ∨ n = 39 ∨ n = 40 ∨ n = 41 ∨ n = 42 ∨ n = 43 ∨ n = 44 ∨ n = 45 ∨ n = 46 ∨ n = 47 by omega) with rfl | rfl | rfl | rfl | rfl | rfl | rfl | rfl | rfl | rfl | rfl | rfl | rfl | rfl | rfl | rfl
  all_goals
    go_enter Tryd.func33, Tryd.ntmps33
    go_wp2
    go_ret
    exact ⟨by kernel_rfl, rfl⟩
set_option maxRecDepth 100000 in
set_option maxHeartbeats 4000000 in
theorem len64_48 (n : Nat) (h : 48 ≤ n ∧ n < 64) (w : World) :
    Calls Tryd.prog 33 #[.int .u64 (n : Int)] w fun e w' => e = .returned (.int .i64 (lenS n : Nat)) ∧ w = w' := by
  rcases (show n = 48 ∨ n = 49 ∨ n = 50 ∨ n = 51 ∨ n = 52 ∨ n = 53 ∨ n = 54 ∨ n = 55 ∨ n = 56 ∨ n = 57 ∨ n = 58 ∨ n = 59 ∨ n = 60 ∨ n = 61 ∨ n = 62 ∨ n = 63 by omega) with rfl | rfl | rfl | rfl | rfl | rfl | rfl | rfl | rfl | rfl | rfl | rfl | rfl | rfl | rfl | rfl
  all_goals
    go_enter Tryd.func33, Tryd.ntmps33
    go_wp2
    go_ret
    exact ⟨by kernel_rfl, rfl⟩
set_option maxRecDepth 100000 in
set_option maxHeartbeats 4000000 in
theorem len64_64 (n : Nat) (h : 64 ≤ n ∧ n < 80) (w : World) :
    Calls Tryd.prog 33 #[.int .u64 (n : Int)] w fun e w' => e = .returned (.int .i64 (lenS n : Nat)) ∧ w = w' := by
  rcases (show n = 64 ∨ n = 65 ∨ n = 66 ∨ n = 67 ∨ n = 68 ∨ n = 69 ∨ n = 70 ∨ n = 71 ∨ n = 72 ∨ n = 73 ∨ n = 74 ∨ n = 75 ∨ n = 76 ∨ n = 77 ∨ n = 78 ∨ n = 79 by omega) with rfl | rfl | rfl | rfl | rfl | rfl | rfl | rfl | rfl | rfl | rfl | rfl | rfl | rfl | rfl | rfl
  all_goals
    go_enter Tryd.func33, Tryd.ntmps33
    go_wp2
    go_ret
    exact ⟨by kernel_rfl, rfl⟩
set_option maxRecDepth 100000 in
set_option maxHeartbeats 4000000 in
theorem len64_80 (n : Nat) (h : 80 ≤ n ∧ n < 96) (w : World) :
    Calls Tryd.prog 33 #[.int .u64 (n : Int)] w fun e w' => e = .returned (.int .i64 (lenS n : Nat)) ∧ w = w' := by
  rcases (show n = 80 ∨ n = 81 ∨ n = 82 ∨ n = 83 ∨ n = 84 ∨ n = 85 ∨ n = 86 ∨ n = 87 ∨ n = 88 ∨ n = 89 ∨ n = 90 ∨ n = 91 ∨ n = 92 ∨ n = 93 ∨ n = 94 ∨ n = 95 by omega) with rfl | rfl | rfl | rfl | rfl | rfl | rfl | rfl | rfl | rfl | rfl | rfl | rfl | rfl | rfl | rfl
  all_goals
    go_enter Tryd.func33, Tryd.ntmps33
    go_wp2
    go_ret
    exact ⟨by kernel_rfl, rfl⟩
set_option maxRecDepth 100000 in
set_option maxHeartbeats 4000000 in
theorem len64_96 (n : Nat) (h : 96 ≤ n ∧ n < 112) (w : World) :
    Calls Tryd.prog 33 #[.int .u64 (n : Int)] w fun e w' => e = .returned (.int .i64 (lenS n : Nat)) ∧ w = w' := by
  rcases (show n = 96 ∨ n = 97 ∨ n = 98 ∨ n = 99 ∨ n = 100 ∨ n = 101 ∨ n = 102 ∨ n = 103 ∨ n = 104 ∨ n = 105 ∨ n = 106 ∨ n = 107 ∨ n = 108 ∨ n = 109 ∨ n = 110 ∨ n = 111 by omega) with rfl | rfl | rfl | rfl | rfl | rfl | rfl | rfl | rfl | rfl | rfl | rfl | rfl | rfl | rfl | rfl
  all_goals
    go_enter Tryd.func33, Tryd.ntmps33
    go_wp2
    go_ret
    exact ⟨by kernel_rfl, rfl⟩
set_option maxRecDepth 100000 in
set_option maxHeartbeats 4000000 in
theorem len64_112 (n : Nat) (h : 112 ≤ n ∧ n < 128) (w : World) :
    Calls Tryd.prog 33 #[.int .u64 (n : Int)] w fun e w' => e = .returned (.int .i64 (lenS n : Nat)) ∧ w = w' := by
  rcases (show n = 112 ∨ n = 113 ∨ n = 114 ∨ n = 115 ∨ n = 116 ∨ n = 117 ∨ n = 118 ∨ n = 119 ∨ n = 120 ∨ n = 121 ∨ n = 122 ∨ n = 123 ∨ n = 124 ∨ n = 125 ∨ n = 126 ∨ n = 127 by omega) with rfl | rfl | rfl | rfl | rfl | rfl | rfl | rfl | rfl | rfl | rfl | rfl | rfl | rfl | rfl | rfl
  all_goals
    go_enter Tryd.func33, Tryd.ntmps33
    go_wp2
    go_ret
    exact ⟨by kernel_rfl, rfl⟩
theorem len64 (n : Nat) (h : n < 128) (w : World) :
    Calls Tryd.prog 33 #[.int .u64 (n : Int)] w fun e w' => e = .returned (.int .i64 (lenS n : Nat)) ∧ w = w' := by
  rcases (show (0 ≤ n ∧ n < 16) ∨ (16 ≤ n ∧ n < 32) ∨ (32 ≤ n ∧ n < 48) ∨ (48 ≤ n ∧ n < 64) ∨ (64 ≤ n ∧ n < 80) ∨ (80 ≤ n ∧ n < 96) ∨ (96 ≤ n ∧ n < 112) ∨ (112 ≤ n ∧ n < 128) by omega) with h | h | h | h | h | h | h | h
  · exact len64_0 n h w
  · exact len64_16 n h w
  · exact len64_32 n h w
  · exact len64_48 n h w
  · exact len64_64 n h w
  · exact len64_80 n h w
  · exact len64_96 n h w
  · exact len64_112 n h w
set_option maxRecDepth 100000 in
theorem len (n : Nat) (h : n < 128) (w : World) :
    Calls Tryd.prog 22 #[.int .u64 (n : Int)] w fun e w' => e = .returned (.int .i64 (lenS n : Nat)) ∧ w = w' := by
  have HL := Lib.hid (len64 n h)
  have h0 : (0 : Int) ≤ (n : Int) := Int.natCast_nonneg n
  have h1 : (n : Int) < 128 := by omega
  go_enter Tryd.func22, Tryd.ntmps22
  go_wp2_with fail
  refine (HL.out _).mono ?_
  rintro e w1 ⟨rfl, rfl⟩
  go_wp2
  go_ret
  exact ⟨rfl, rfl⟩
end Go.Proofs.YtijbjncdiojpdaaDoor
