/- dft.Inverse. -/
import Derived.Test.YtijbjncdiojpdaaDoorWInv
namespace Go.Proofs.YtijbjncdiojpdaaDoor
open Go.RowKit
attribute [local go_sem ↓] add_UU sub_UU mul_UU add_UL add_LU sub_UL sub_LU mul_UL neg_at not_at and_UU or_UU xor_UU andNot_UU and_UL or_LU shr_UL shl_UL shr_UN shl_UN quo_UL rem_UL quo_UU rem_UU
attribute [local go_sem] wrap8_U wrap32_U wrap64_B wrap32_B wrap8_D wrapi_B wrap64_UU eq_UU ne_UU eq_UL ne_UL lt_UU le_UU
attribute [local go_sem ↓] run_fadd run_fsub run_fmul run_fquo
attribute [local go_sem] fRes_some unary_neg_f run_store_complex run_store_float

/-- The transform, turned round. -/
def turned (n : Nat) (T : Nat → Nat × Nat) : Nat → Nat × Nat := fun q => if 1 ≤ q then T (n - q) else T q

set_option maxHeartbeats 2000000 in
theorem inverse (n : Nat) (T Z : Nat → Nat × Nat) (hn : 2 ≤ n) (hn' : n ≤ 256) (v : Value) (w : World)
    (HTr : ∀ W, W = w → Calls Tryd.prog 18 #[v] W (SplitPost W n T))
    (hZ : ∀ q, q < n → cQuoBits (turned n T q).1 (turned n T q).2 (floatOfInt .f64 (n : Int)) 0 = some (Z q)) :
    Calls Tryd.prog 17 #[v] w (SplitPost w n Z) := by
  have HT := Lib.hid (HTr w rfl)
  unfold SplitPost at HT
  have HZ := Lib.hid hZ
  have n1 : (1 : Int) < (n : Int) := by omega
  clear HTr hZ
  go_enter Tryd.func17, Tryd.ntmps17
  go_wp2_with fail
  refine HT.out.mono ?_
  rintro e w1 ⟨g, cap, rfl, hge, hcap, hcb, hb⟩
  have HB := Lib.hid (And.intro hge (And.intro hcb hb))
  have HR := Lib.hid (fun cap' => reverse g n cap' T hn (by omega) w1 hcb)
  clear hge hcb hb HT
  go_wp2_with fail
  refine (HR.out _).mono ?_
  rintro e w2 ⟨rfl, hc2, hb2⟩
  have H2 := Lib.hid (show w.heap.size ≤ g ∧ CB w2 g n (fun q => if q < 0 then Z q else turned n T q) ∧ Below w.heap.size w w2 from ⟨HB.out.1, hc2.congr fun q _ => by simp [turned], HB.out.2.2.trans (hb2.mono HB.out.1)⟩)
  have hge := HB.out.1
  clear hc2 hb2 HB HR
  go_wp2
  go_loopw [15] (fun j wr => ∃ k : Nat, k ≤ n ∧ j = .int .i64 k ∧ CB wr g n (fun q => if q < k then Z q else turned n T q) ∧ Below w.heap.size w wr) (fun j _ => n - (intOf j).toNat)
  case atStart => exact ⟨0, by omega, rfl, H2.out.2⟩
  case round =>
    clear H2
    obtain ⟨k, hk, rfl, hr, hb⟩ := hrel
    have k0 : (0 : Int) ≤ (k : Int) := Int.natCast_nonneg k
    by_cases hlt : k < n
    · have hlt' : (k : Int) < (n : Int) := by omega
      have hcv := ofInt_conv n
      obtain ⟨fn, hfn⟩ : ∃ v, v = floatOfInt .f64 (n : Int) := ⟨_, rfl⟩
      have hz := HZ.out k hlt
      rw [← hfn] at hcv hz
      have hquo := fun t w => (run_complex_quo (P := Tryd.prog) w t (turned n T k).1 (turned n T k).2 fn 0 (Z k).1 (Z k).2 hz).1
      have ck := hr.cell k hlt
      have fk := hr.frozen k
      simp only [Nat.lt_irrefl, if_false] at ck
      unfold cval at ck
      have HI := Lib.hid (And.intro hr hb)
      clear hr hb hz hfn
      go_wp2
      refine ⟨⟨k + 1, by omega, by go_num, (HI.out.1.set k (Z k) hlt).congr fun q hq => ?_, HI.out.2.setCell (p := ⟨g, k, none⟩) (by simpa using hge) _⟩, by simp [intOf]; omega⟩
      by_cases e : q = k
      · subst e
        rw [if_pos rfl, if_pos (by omega)]
      · rw [if_neg e]
        by_cases h : q < k
        · rw [if_pos h, if_pos (by omega)]
        · rw [if_neg h, if_neg (by omega)]
    · obtain rfl : k = n := by omega
      have HI := Lib.hid (And.intro hr hb)
      clear hr hb
      go_wp2
      go_ret
      exact ⟨g, cap, rfl, hge, hcap, HI.out.1.congr fun q hq => by rw [if_pos hq], HI.out.2⟩

/-- Of a length of which there is no transform. -/
theorem inverse_none (a : Option Addr) (n cap : Nat) (w : World) (h : isP (n : Int) = false) :
    Calls Tryd.prog 17 #[.slice a n cap] w fun e w' => e = .returned (.slice none 0 0) ∧ w = w' := by
  have HT := Lib.hid (transform_none a n cap w h)
  clear h
  go_enter Tryd.func17, Tryd.ntmps17
  go_wp2_with fail
  refine HT.out.mono ?_
  rintro e w1 ⟨rfl, rfl⟩
  go_wp2
  go_loop [15] (fun j => j = .int .i64 0) (fun j => 0)
  case atStart => rfl
  case round =>
    subst hrel
    go_wp2
    go_ret
    exact ⟨rfl, rfl⟩
end Go.Proofs.YtijbjncdiojpdaaDoor
