/- dft.split by induction; dft.Transform. -/
import Derived.Test.YtijbjncdiojpdaaDoorWSplit
namespace Go.Proofs.YtijbjncdiojpdaaDoor
open Go.RowKit
attribute [local go_sem ↓] add_UU sub_UU mul_UU add_UL add_LU sub_UL sub_LU mul_UL neg_at not_at and_UU or_UU xor_UU andNot_UU and_UL or_LU shr_UL shl_UL shr_UN shl_UN quo_UL rem_UL quo_UU rem_UU
attribute [local go_sem] wrap8_U wrap32_U wrap64_B wrap32_B wrap8_D wrapi_B wrap64_UU eq_UU ne_UU eq_UL ne_UL lt_UU le_UU
attribute [local go_sem ↓] run_fadd run_fsub run_fmul run_fquo
attribute [local go_sem] fRes_some unary_neg_f run_store_complex run_store_float

theorem isP_pow (m : Nat) (hm : m ≤ 8) : isP ((2 ^ m : Nat) : Int) = true := by
  have key : (List.range 9).all (fun m => isP ((2 ^ m : Nat) : Int)) = true := by decide +kernel
  rw [List.all_eq_true] at key
  exact key m (by simp; omega)
theorem pow_bound (m : Nat) (hm : m ≤ 7) : 1 ≤ 2 ^ m ∧ 2 ^ m ≤ 128 := ⟨Nat.one_le_two_pow, Nat.le_trans (Nat.pow_le_pow_right (by decide) hm) (by decide)⟩

theorem split (m : Nat) : m ≤ 8 → ∀ X, dftOk m X → SplitC (2 ^ m) X (dftS m X) := by
  induction m with
  | zero => intro _ X _; exact split_one X
  | succ m ih =>
    intro hm X hok
    obtain ⟨h1, h2, h3⟩ := hok
    have hb := pow_bound m (by omega)
    refine split_two (2 ^ m) (2 ^ (m + 1)) (by rw [Nat.pow_succ]; omega) hb.1 hb.2 (isP_pow (m + 1) hm) X (dftS m (evens X)) (dftS m (odds X)) (dftS (m + 1) X) (rootR (2 ^ (m + 1))) (fun k => cget (cmul (rootR (2 ^ (m + 1)) k) (dftS m (odds X) (k % 2 ^ m)))) (ih (by omega) _ h1) (ih (by omega) _ h2) ?_ ?_ ?_
    · intro k hk
      exact cget_some (h3 k hk).1
    · intro k hk
      exact cget_some (h3 k hk).2.1
    · intro k hk
      exact cget_some (h3 k hk).2.2

theorem transform (m : Nat) (hm : m ≤ 8) (X : Nat → Nat × Nat) (hok : dftOk m X) (g cap : Nat) (w : World) (ht : Tabs w) (hg : 2 < w.heap.size) (hc : CB w g (2 ^ m) X) :
    Calls Tryd.prog 18 #[.slice (some ⟨g, 0, none⟩) (2 ^ m) cap] w (SplitPost w (2 ^ m) (dftS m X)) := by
  have HI := Lib.hid (isWalk ((2 ^ m : Nat) : Int))
  rw [isP_pow m hm] at HI
  have HS := Lib.hid (split m hm X hok g cap w ht hg hc)
  unfold SplitPost at HS
  clear hc hok ht
  generalize dftS m X = Y at *
  obtain ⟨n, hn⟩ : ∃ n, n = 2 ^ m := ⟨_, rfl⟩
  rw [← hn] at HI HS ⊢
  clear hn
  go_enter Tryd.func18, Tryd.ntmps18
  go_wp2_with fail
  refine (HI.out _).mono ?_
  rintro e w1 ⟨rfl, rfl⟩
  go_wp2_with fail
  refine HS.out.mono ?_
  rintro e w1 ⟨g', cap', rfl, hge, hcp, hcb, hb⟩
  have H := Lib.hid (And.intro hge (And.intro hcp (And.intro hcb hb)))
  clear hge hcp hcb hb
  go_wp2
  go_ret
  exact ⟨g', cap', rfl, H.out⟩

/-- Of other lengths there is none. -/
theorem transform_none (a : Option Addr) (n cap : Nat) (w : World) (h : isP (n : Int) = false) :
    Calls Tryd.prog 18 #[.slice a n cap] w fun e w' => e = .returned (.slice none 0 0) ∧ w = w' := by
  have HI := Lib.hid (isWalk (n : Int))
  rw [h] at HI
  clear h
  go_enter Tryd.func18, Tryd.ntmps18
  go_wp2_with fail
  refine (HI.out _).mono ?_
  rintro e w1 ⟨rfl, rfl⟩
  go_wp2
  go_ret
  exact ⟨rfl, rfl⟩
end Go.Proofs.YtijbjncdiojpdaaDoor
