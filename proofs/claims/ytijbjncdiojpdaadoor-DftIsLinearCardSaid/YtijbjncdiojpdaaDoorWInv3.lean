/- dft.Inverse of one number; of every length. -/
import Derived.Test.YtijbjncdiojpdaaDoorWInv2
namespace Go.Proofs.YtijbjncdiojpdaaDoor
open Go.RowKit
attribute [local go_sem ↓] add_UU sub_UU mul_UU add_UL add_LU sub_UL sub_LU mul_UL neg_at not_at and_UU or_UU xor_UU andNot_UU and_UL or_LU shr_UL shl_UL shr_UN shl_UN quo_UL rem_UL quo_UU rem_UU
attribute [local go_sem] wrap8_U wrap32_U wrap64_B wrap32_B wrap8_D wrapi_B wrap64_UU eq_UU ne_UU eq_UL ne_UL lt_UU le_UU
attribute [local go_sem ↓] run_fadd run_fsub run_fmul run_fquo
attribute [local go_sem] fRes_some unary_neg_f run_store_complex run_store_float

set_option maxHeartbeats 2000000 in
theorem inverse1 (T Z : Nat → Nat × Nat) (v : Value) (w : World)
    (HTr : ∀ W, W = w → Calls Tryd.prog 18 #[v] W (SplitPost W 1 T))
    (hZ : cQuoBits (T 0).1 (T 0).2 (floatOfInt .f64 1) 0 = some (Z 0)) :
    Calls Tryd.prog 17 #[v] w (SplitPost w 1 Z) := by
  have HT := Lib.hid (HTr w rfl)
  unfold SplitPost at HT
  have HZ := Lib.hid hZ
  clear HTr hZ
  go_enter Tryd.func17, Tryd.ntmps17
  go_wp2_with fail
  refine HT.out.mono ?_
  rintro e w1 ⟨g, cap, rfl, hge, hcap, hcb, hb⟩
  have H2 := Lib.hid (show w.heap.size ≤ g ∧ CB w1 g 1 (fun q => if q < 0 then Z q else T q) ∧ Below w.heap.size w w1 from ⟨hge, hcb.congr fun q _ => by simp, hb⟩)
  clear hcb hb HT
  go_wp2
  go_loopw [15] (fun j wr => ∃ k : Nat, k ≤ 1 ∧ j = .int .i64 k ∧ CB wr g 1 (fun q => if q < k then Z q else T q) ∧ Below w.heap.size w wr) (fun j _ => 1 - (intOf j).toNat)
  case atStart => exact ⟨0, by omega, rfl, H2.out.2⟩
  case round =>
    clear H2
    obtain ⟨k, hk, rfl, hr, hb⟩ := hrel
    rcases (show k = 0 ∨ k = 1 by omega) with rfl | rfl
    · have hz := HZ.out
      have hquo := fun t w => (run_complex_quo (P := Tryd.prog) w t (T 0).1 (T 0).2 _ 0 (Z 0).1 (Z 0).2 hz).1
      have ck := hr.cell 0 (by decide)
      have fk := hr.frozen 0
      simp only [Nat.lt_irrefl, if_false] at ck
      unfold cval at ck
      have HI := Lib.hid (And.intro hr hb)
      clear hr hb hz
      go_wp2
      refine ⟨⟨1, by omega, by go_num, (HI.out.1.set 0 (Z 0) (by decide)).congr fun q hq => ?_, HI.out.2.setCell (p := ⟨g, 0, none⟩) (by simpa using hge) _⟩, by simp [intOf]⟩
      obtain rfl : q = 0 := by omega
      simp
    · have HI := Lib.hid (And.intro hr hb)
      clear hr hb
      go_wp2
      go_ret
      exact ⟨g, cap, rfl, hge, hcap, HI.out.1.congr fun q hq => by rw [if_pos hq], HI.out.2⟩

theorem inverseN (n : Nat) (T Z : Nat → Nat × Nat) (hn : 1 ≤ n) (hn' : n ≤ 256) (v : Value) (w : World)
    (HTr : ∀ W, W = w → Calls Tryd.prog 18 #[v] W (SplitPost W n T))
    (hZ : ∀ q, q < n → cQuoBits (turned n T q).1 (turned n T q).2 (floatOfInt .f64 (n : Int)) 0 = some (Z q)) :
    Calls Tryd.prog 17 #[v] w (SplitPost w n Z) := by
  rcases (show n = 1 ∨ 2 ≤ n by omega) with rfl | h
  · exact inverse1 T Z v w HTr (hZ 0 (by decide))
  · exact inverse n T Z h hn' v w HTr hZ
end Go.Proofs.YtijbjncdiojpdaaDoor
