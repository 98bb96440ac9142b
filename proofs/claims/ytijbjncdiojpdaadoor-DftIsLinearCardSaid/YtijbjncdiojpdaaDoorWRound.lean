/- math.Round, on the word. -/
import Derived.Test.YtijbjncdiojpdaaDoorWLen
namespace Go.Proofs.YtijbjncdiojpdaaDoor
open Go.RowKit
/-- The number of a word, shut from simp. -/
def nat64 (x : BitVec 64) : Nat := x.toNat
theorem shr_LU (m : Nat) (k : BitVec 64) (hm : m < 18446744073709551616) (yk : IntKind) : Op.shift .shr .u64 (no_index (OfNat.ofNat m)) yk (U k) = pure (.int .u64 (U (BitVec.ofNat 64 m >>> nat64 k))) := by
  show Op.shift .shr .u64 ((m : Nat) : Int) yk ((k.toNat : Nat) : Int) = _
  rw [lit_U m hm]
  exact shr_UN _ k.toNat yk
theorem or_UL (x : BitVec 64) (n : Nat) : Op.intBits .or .u64 (U x) (no_index (OfNat.ofNat n)) = pure (.int .u64 (U (x ||| BitVec.ofNat 64 n))) := by
  show pure (Value.int .u64 (IntKind.u64.wrap ((BitVec.ofInt 64 (U x) ||| BitVec.ofInt 64 ((n : Nat) : Int)).toNat : Int))) = _
  rw [bits_back, ofInt_U, BitVec.ofInt_natCast]
theorem lt_UL (x : BitVec 64) (n : Nat) (h : n < 18446744073709551616) : (U x < (no_index (OfNat.ofNat n) : Int)) = (x < BitVec.ofNat 64 n) := by
  show (U x < ((n : Nat) : Int)) = _
  rw [lit_U n h, lt_UU]
attribute [local go_sem ↓] add_UU sub_UU mul_UU add_UL add_LU sub_UL sub_LU mul_UL neg_at not_at and_UU or_UU xor_UU andNot_UU and_UL or_LU shr_UL shl_UL shr_UN shl_UN shr_LU or_UL quo_UL rem_UL quo_UU rem_UU
attribute [local go_sem] wrap8_U wrap32_U wrap64_B wrap32_B wrap8_D wrapi_B wrap64_UU eq_UU ne_UU eq_UL ne_UL lt_UU le_UU
attribute [local go_sem ↓] run_fadd run_fsub run_fmul run_fquo
attribute [local go_sem] fRes_some unary_neg_f run_store_complex run_store_float

/-- What math.Round does to a word. -/
def expo (X : BitVec 64) : BitVec 64 := (X >>> 52) &&& 2047#64
def roundB (X : BitVec 64) : BitVec 64 :=
  if expo X < 1023#64 then (if expo X = 1022#64 then X &&& 9223372036854775808#64 ||| 4607182418800017408#64 else X &&& 9223372036854775808#64)
  else if expo X < 1075#64 then (X + 2251799813685248#64 >>> nat64 (expo X - 1023#64)) &&& ~~~(4503599627370495#64 >>> nat64 (expo X - 1023#64))
  else X

theorem call_bitsU (x : Nat) (X : BitVec 64) (hx : (x : Int) = U X) (w : World) : (callFunc 34 #[.float .f64 x]).run Tryd.prog w = .ok (.value (.int .u64 (U X))) w := by
  rw [← hx]; exact call_bits x w
theorem call_fromU (X : BitVec 64) (w : World) : (callFunc 35 #[.int .u64 (U X)]).run Tryd.prog w = .ok (.value (.float .f64 (nat64 X))) w := call_frombits X.toNat w

theorem round (x : Nat) (hx : x < 18446744073709551616) (w : World) :
    Calls Tryd.prog 24 #[.float .f64 x] w fun e w' => e = .returned (.float .f64 (nat64 (roundB (BitVec.ofNat 64 x)))) ∧ w = w' := by
  obtain ⟨X, hX⟩ : ∃ X, X = BitVec.ofNat 64 x := ⟨_, rfl⟩
  have hxX : (x : Int) = U X := by rw [hX]; exact lit_U x hx
  rw [← hX]
  have hb := call_bitsU x X hxX
  have hf := call_fromU
  have HX := Lib.hid hxX
  clear hX hxX
  by_cases h1 : expo X < 1023#64
  · by_cases h2 : expo X = 1022#64
    · have hr : roundB X = X &&& 9223372036854775808#64 ||| 4607182418800017408#64 := by unfold roundB; rw [if_pos h1, if_pos h2]
      have HR := Lib.hid hr
      clear hr
      unfold expo at h1 h2
      have h1' : U (X >>> 52 &&& 2047#64) < 1023 := by rw [show (1023 : Int) = U 1023#64 from rfl, lt_UU]; exact h1
      have h2' : (U (X >>> 52 &&& 2047#64) == 1022) = true := by rw [h2]; rfl
      clear h1 h2
      go_enter Tryd.func24, Tryd.ntmps24
      go_wp2
      go_ret
      exact ⟨by rw [HR.out]; rfl, rfl⟩
    · have hr : roundB X = X &&& 9223372036854775808#64 := by unfold roundB; rw [if_pos h1, if_neg h2]
      have HR := Lib.hid hr
      clear hr
      unfold expo at h1 h2
      have h1' : U (X >>> 52 &&& 2047#64) < 1023 := by rw [show (1023 : Int) = U 1023#64 from rfl, lt_UU]; exact h1
      have h2' : (U (X >>> 52 &&& 2047#64) == 1022) = false := by
        rw [beq_eq_false_iff_ne]
        intro e
        apply h2
        rw [show (1022 : Int) = U 1022#64 from rfl] at e
        unfold U at e
        apply BitVec.eq_of_toNat_eq
        omega
      clear h1 h2
      go_enter Tryd.func24, Tryd.ntmps24
      go_wp2
      go_ret
      exact ⟨by rw [HR.out]; rfl, rfl⟩
  · by_cases h2 : expo X < 1075#64
    · have hr : roundB X = (X + 2251799813685248#64 >>> nat64 (expo X - 1023#64)) &&& ~~~(4503599627370495#64 >>> nat64 (expo X - 1023#64)) := by unfold roundB; rw [if_neg h1, if_pos h2]
      have HR := Lib.hid hr
      clear hr
      unfold expo at h1 h2
      have h1' : ¬ U (X >>> 52 &&& 2047#64) < 1023 := by rw [show (1023 : Int) = U 1023#64 from rfl, lt_UU]; exact h1
      have h2' : U (X >>> 52 &&& 2047#64) < 1075 := by rw [show (1075 : Int) = U 1075#64 from rfl, lt_UU]; exact h2
      clear h1 h2
      go_enter Tryd.func24, Tryd.ntmps24
      go_wp2
      go_ret
      exact ⟨by rw [HR.out]; rfl, rfl⟩
    · have hr : roundB X = X := by unfold roundB; rw [if_neg h1, if_neg h2]
      have HR := Lib.hid hr
      clear hr
      unfold expo at h1 h2
      have h1' : ¬ U (X >>> 52 &&& 2047#64) < 1023 := by rw [show (1023 : Int) = U 1023#64 from rfl, lt_UU]; exact h1
      have h2' : ¬ U (X >>> 52 &&& 2047#64) < 1075 := by rw [show (1075 : Int) = U 1075#64 from rfl, lt_UU]; exact h2
      clear h1 h2
      go_enter Tryd.func24, Tryd.ntmps24
      go_wp2
      go_ret
      exact ⟨by rw [HR.out]; rfl, rfl⟩
end Go.Proofs.YtijbjncdiojpdaaDoor
