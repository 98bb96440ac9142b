/- The walk of the law DftIsLinear. -/
import Derived.Test.YtijbjncdiojpdaaDoorWNum
import Derived.Test.YtijbjncdiojpdaaDoorWRep
import Derived.Test.YtijbjncdiojpdaaDoorFLin
namespace Go.Proofs.YtijbjncdiojpdaaDoor
open Go.RowKit
attribute [local go_sem ↓] add_UU sub_UU mul_UU add_UL add_LU sub_UL sub_LU mul_UL neg_at not_at and_UU or_UU xor_UU andNot_UU and_UL or_LU shr_UL shl_UL shr_UN shl_UN quo_UL rem_UL quo_UU rem_UU
attribute [local go_sem] wrap8_U wrap32_U wrap64_B wrap32_B wrap8_D wrapi_B wrap64_UU eq_UU ne_UU eq_UL ne_UL lt_UU le_UU
attribute [local go_sem ↓] run_fadd run_fsub run_fmul run_fquo
attribute [local go_sem] fRes_some unary_neg_f run_store_complex run_store_float

theorem lst_CB {w : World} {g n : Nat} (h : w.heap[g]? = some (.cells (lst n n).toArray 34 (0, 0))) : CB w g n ones :=
  ⟨_, h, fun i hi => by simp [lst, hi, ones, one1, cval, oneV]⟩

set_option maxRecDepth 20000 in
set_option maxHeartbeats 8000000 in
theorem walkDftIsLinear (vl : Value) (l : Nat) (L : Nat → Int) (p : Int) (hp : (Lit.int .u8 p).wf = true) (w : World) (ht : Tabs w) (hg : 2 < w.heap.size) (hL : I16s w vl l L) (sl : l * 2 ≤ 140737488351232) :
    Calls Tryd.prog 8 #[vl, .int .u8 p] w fun e w' => e = .returned (.bool true) ∧ Below w.heap.size w w' := by
  have hp0 : 0 ≤ p ∧ p ≤ 255 := by simp [Lit.wf, IntKind.min, IntKind.max, IntKind.signed, IntKind.bits] at hp; omega
  obtain ⟨m, hm⟩ : ∃ m : Nat, (m : Int) = p % 5 := ⟨(p % 5).toNat, by omega⟩
  have hm4 : m ≤ 4 := by omega
  obtain ⟨n, hn⟩ : ∃ n, n = 2 ^ m := ⟨_, rfl⟩
  have hpb := pow_bound m (by omega)
  have hn16 : n ≤ 16 := by rw [hn]; exact Nat.le_trans (Nat.pow_le_pow_right (by decide) hm4) (by decide)
  rw [← hn] at hpb
  have hsh := shl_one m (by omega)
  rw [← hn] at hsh
  have HSh := Lib.hid hsh
  clear hsh
  obtain ⟨X, hX⟩ : ∃ X, X = numN L l := ⟨_, rfl⟩
  have hXok : ∀ i, fin2 (X i) ∧ Lc (cx (X i)) 7 := fun i => by rw [hX]; exact numN_ok L l i
  obtain ⟨ok, nf⟩ := first_near m hm4 X hXok
  obtain ⟨ok1, no0, nok⟩ := ones_near m hm4
  have HS := Lib.hid (fun k (hk : k < 16) => (sF_near X hXok k (by omega)).2.2 hk)
  have HT := Lib.hid (fun g cap w => transform m (by omega) X ok g cap w)
  have HT1 := Lib.hid (fun g cap w => transform m (by omega) ones ok1 g cap w)
  have HRp := Lib.hid (repeat1 m hm4)
  rw [← hn] at HT HT1 HRp nf no0 nok
  obtain ⟨Y, hY⟩ : ∃ Y, Y = dftS m X := ⟨_, rfl⟩
  obtain ⟨O, hO⟩ : ∃ O, O = dftS m ones := ⟨_, rfl⟩
  rw [← hY] at HT nf
  rw [← hO] at HT1 no0 nok
  unfold SplitPost at HT HT1
  have HNu := Lib.hid (numbers vl l L n (by omega) w hL sl)
  rw [← hX] at HNu
  have HN1 := Lib.hid (nearTrue _ _ nf)
  have HN2 := Lib.hid (nearTrue _ _ no0)
  have HN3 := Lib.hid (fun k h0 hk => nearTrue _ _ (nok k h0 hk))
  have HW := Lib.hid (And.intro ht hg)
  unfold cval at HN1 HN2 HN3
  simp only at HN2 HN3
  have hrem : p % 5 = (m : Int) := hm.symm
  have hrem2 : p.tmod 5 = (m : Int) := by rw [Int.tmod_eq_emod_of_nonneg hp0.1]; exact hrem
  have hp1 := hp0.1
  have hp2 := hp0.2
  have hm0 : (0 : Int) ≤ (m : Int) := Int.natCast_nonneg m
  have hm4' : (m : Int) ≤ 4 := by omega
  have hn1 := hpb.1
  have n0 : (0 : Int) ≤ (n : Int) := Int.natCast_nonneg n
  have n1 : (0 : Int) < (n : Int) := by omega
  have n16 : (n : Int) ≤ 16 := by omega
  have hnn : ((n : Int) == (n : Int)) = true := by simp
  clear hp0 hm ok ok1 nf no0 nok ht hg hL sl hn hp hX hXok hY hO hpb
  go_enter Tryd.func8, Tryd.ntmps8
  go_wp2_with fail
  rw [HSh.out]
  refine HNu.out.mono ?_
  rintro e w1 ⟨rfl, hx, hb1⟩
  have H1 := Lib.hid (show CB w1 w.heap.size n X ∧ Below w.heap.size w w1 ∧ Tabs w1 ∧ 2 < w1.heap.size ∧ w.heap.size < w1.heap.size from ⟨hx, hb1, HW.out.1.below hb1 HW.out.2, by have := hb1.size; have := HW.out.2; omega, hx.lt⟩)
  clear hx hb1 HNu
  go_wp2
  go_loop [7, 9, 22] (fun s _ j => ∃ k : Nat, k ≤ n ∧ j = .int .i64 k ∧ s = .complex .f64 (sF X k).1 (sF X k).2) (fun _ _ j => n - (intOf j).toNat)
  case atStart => exact ⟨0, by omega, rfl, rfl⟩
  case round =>
    obtain ⟨k, hk, rfl, rfl⟩ := hrel
    have k0 : (0 : Int) ≤ (k : Int) := Int.natCast_nonneg k
    by_cases hlt : k < n
    · have hlt' : (k : Int) < (n : Int) := by omega
      have hs := HS.out k (by omega)
      have hadd := fun t w => run_complex_sum (P := Tryd.prog) w .add (.inl rfl) t .f64 (sF X k).1 (sF X k).2 (X k).1 (X k).2 (sF X (k + 1)).1 (sF X (k + 1)).2 hs
      have ck := H1.out.1.cell k hlt
      unfold cval at ck
      clear hs
      go_wp2
      go_round
      case rel => exact ⟨k + 1, by omega, by go_num, rfl⟩
      case measure => simp [intOf]; omega
    · obtain rfl : k = n := by omega
      clear HS hlt hk
      go_wp2_with fail
      refine (HT.out _ _ _ H1.out.2.2.1 H1.out.2.2.2.1 H1.out.1).mono ?_
      rintro e w2 ⟨g2, c2, rfl, hg2, hc2, hX2, hb2⟩
      have H2 := Lib.hid (show CB w2 g2 k Y ∧ Below w.heap.size w w2 ∧ Tabs w2 ∧ 2 < w2.heap.size from by
        have h1 := H1.out.2.1.trans (hb2.mono (Nat.le_of_lt H1.out.2.2.2.2))
        exact ⟨hX2, h1, HW.out.1.below h1 HW.out.2, by have := h1.size; have := HW.out.2; omega⟩)
      clear hg2 hc2 hX2 hb2 HT H1
      obtain ⟨T, hT⟩ : ∃ T, T = w2.alloc (.cells #[oneV] 34) := ⟨_, rfl⟩
      have hTb : Below w2.heap.size w2 T := by rw [hT]; exact (Below.refl _ _).alloc (Nat.le_refl _) _
      have hTc : T.cell? ⟨w2.heap.size, 0, none⟩ = some oneV := by rw [hT]; exact cell_new _ _ _ _ _ rfl
      have HE := Lib.hid (show T = w2.alloc (.cells #[.complex .f64 4607182418800017408 0] 34) from hT)
      have H3 := Lib.hid (show CB T g2 k Y ∧ Below w.heap.size w T from ⟨H2.out.1.call hTb, H2.out.2.1.trans (hTb.mono H2.out.2.1.size)⟩)
      have HR := Lib.hid (HRp.out w2.heap.size T hTc)
      clear hT hTb hTc HRp H2
      go_wp2_with fail
      rw [← HE.out]
      refine HR.out.mono ?_
      rintro e w4 ⟨rfl, hl4, hb4⟩
      have H4 := Lib.hid (show CB w4 g2 k Y ∧ CB w4 T.heap.size k ones ∧ Below w.heap.size w w4 ∧ Tabs w4 ∧ 2 < w4.heap.size from by
        have h1 := H3.out.2.trans (hb4.mono H3.out.2.size)
        exact ⟨H3.out.1.call hb4, lst_CB hl4, h1, HW.out.1.below h1 HW.out.2, by have := h1.size; have := HW.out.2; omega⟩)
      clear hl4 hb4 HR H3 HE
      go_wp2_with fail
      refine (HT1.out _ _ _ H4.out.2.2.2.1 H4.out.2.2.2.2 H4.out.2.1).mono ?_
      rintro e w5 ⟨g5, c5, rfl, hg5, hc5, hX5, hb5⟩
      have H5 := Lib.hid (show CB w5 g2 k Y ∧ CB w5 g5 k O ∧ Below w.heap.size w w5 ∧ Tabs w5 ∧ 2 < w5.heap.size from by
        have h1 := H4.out.2.2.1.trans (hb5.mono H4.out.2.2.1.size)
        exact ⟨H4.out.1.call hb5, hX5, h1, HW.out.1.below h1 HW.out.2, by have := h1.size; have := HW.out.2; omega⟩)
      have hck : k ≤ c5 := hc5
      have y0 := H5.out.1.cell 0 (by omega)
      have o0 := H5.out.2.1.cell 0 (by omega)
      unfold cval at y0 o0
      have hcv := ofInt_conv k
      clear hg5 hc5 hX5 hb5 HT1 H4
      go_wp2_with fail
      refine (HN1.out _).mono ?_
      rintro e w6 ⟨rfl, rfl⟩
      go_wp2_with fail
      refine (HN2.out _).mono ?_
      rintro e w6 ⟨rfl, rfl⟩
      have HA := Lib.hid (alive w5 H5.out.2.2.2.1 H5.out.2.2.2.2)
      clear y0 o0 HN1 HN2
      have hc1 : (1 : Int) ≤ (c5 : Int) := by omega
      have hk1 : (1 : Int) ≤ (k : Int) := by omega
      by_cases hone : k = 1
      · subst hone
        by_cases hcap : c5 = 1
        · subst hcap
          go_wp2
          go_loop [13, 67] (fun _ j => j = .int .i64 0) (fun _ _ => 0)
          case atStart => rfl
          case round =>
            subst hrel
            go_wp2_with fail
            refine HA.out.mono ?_
            rintro e w7 ⟨rfl, hb7⟩
            have H7 := Lib.hid (H5.out.2.2.1.trans (hb7.mono H5.out.2.2.1.size))
            clear hb7
            go_wp2
            go_ret
            exact ⟨rfl, H7.out⟩
        · go_wp2
          go_loop [13, 67] (fun _ j => j = .int .i64 0) (fun _ _ => 0)
          case atStart => rfl
          case round =>
            subst hrel
            go_wp2_with fail
            refine HA.out.mono ?_
            rintro e w7 ⟨rfl, hb7⟩
            have H7 := Lib.hid (H5.out.2.2.1.trans (hb7.mono H5.out.2.2.1.size))
            clear hb7
            go_wp2
            go_ret
            exact ⟨rfl, H7.out⟩
      · have hcap : ¬ c5 = 1 := by omega
        obtain ⟨r, hr⟩ : ∃ r, r = k - 1 := ⟨_, rfl⟩
        have hkr : (k : Int) - 1 = (r : Int) := by omega
        have HRr := Lib.hid hr
        have hr16 : (r : Int) ≤ 16 := by omega
        go_wp2
        go_loop [13, 67] (fun _ j => ∃ q : Nat, q ≤ r ∧ j = .int .i64 q) (fun _ j => r - (intOf j).toNat)
        case atStart => exact ⟨0, by omega, rfl⟩
        case round =>
          obtain ⟨q, hq, rfl⟩ := hrel
          have q0 : (0 : Int) ≤ (q : Int) := Int.natCast_nonneg q
          by_cases hqr : q < r
          · have hqr' : (q : Int) < (r : Int) := by omega
            have co := H5.out.2.1.cell (1 + q) (by have := HRr.out; omega)
            have HNq := Lib.hid (HN3.out (1 + q) (by omega) (by have := HRr.out; omega))
            unfold cval at co
            go_wp2_with fail
            refine (HNq.out _).mono ?_
            rintro e w7 ⟨rfl, rfl⟩
            go_wp2
            go_round
            case rel => exact ⟨q + 1, by omega, by go_num⟩
            case measure => simp [intOf]; omega
          · obtain rfl : q = r := by omega
            go_wp2_with fail
            refine HA.out.mono ?_
            rintro e w7 ⟨rfl, hb7⟩
            have H7 := Lib.hid (H5.out.2.2.1.trans (hb7.mono H5.out.2.2.1.size))
            clear hb7
            go_wp2
            go_ret
            exact ⟨rfl, H7.out⟩

theorem walkDftIsLinear' (w : World) (ht : Tabs w) (hg : 2 < w.heap.size) (vl : Value) (L : Nat → Int) (l : Nat) (hL : I16s w vl l L) (sl : l * 2 ≤ 140737488351232) (p : Int) (hp : (Lit.int .u8 p).wf = true) :
    Calls Tryd.prog 8 #[vl, .int .u8 p] w fun e w' => e = .returned (.bool true) ∧ Below w.heap.size w w' := walkDftIsLinear vl l L p hp w ht hg hL sl
end Go.Proofs.YtijbjncdiojpdaaDoor
