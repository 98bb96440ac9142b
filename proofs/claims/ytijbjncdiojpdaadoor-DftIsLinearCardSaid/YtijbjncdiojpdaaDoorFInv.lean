/- The inverse of a transform, up to rounding; products of transforms. -/
import Derived.Test.YtijbjncdiojpdaaDoorFFft
import Derived.Test.YtijbjncdiojpdaaDoorWInv3
namespace Go.Proofs.YtijbjncdiojpdaaDoor
open Go

theorem isNaN_fin (x : Nat) (h : fin x = true) : Op.Complex.isNaN x = false := by
  unfold fin at h
  unfold Op.Complex.isNaN
  change (Ieee.double.read x).isNaN = false
  revert h
  generalize Ieee.double.read x = d
  intro h
  cases d with
  | number s m e => rfl
  | infinity s => cases h
  | nan s f => cases h
theorem quo_facts : allN 8 (fun m => absGe (floatOfInt .f64 ((2 ^ m : Nat) : Int)) 0 && (floatBits .quo .f64 0 (floatOfInt .f64 ((2 ^ m : Nat) : Int)) == some 0 && (floatBits .mul .f64 0 0 == some 0 &&
    (floatBits .add .f64 (floatOfInt .f64 ((2 ^ m : Nat) : Int)) 0 == some (floatOfInt .f64 ((2 ^ m : Nat) : Int)) && decide (Ieee.double.read (floatOfInt .f64 ((2 ^ m : Nat) : Int)) = .number false 4503599627370496 ((m : Int) - 52)))))) = true := by decide +kernel
theorem bits_lt {op : BinOp} {x y r : Nat} (h : floatBits op .f64 x y = some r) : r < 18446744073709551616 := by
  have := floatBits_wf h
  unfold Lit.wf at this
  simpa using this
theorem val_zero : fin 0 = true ∧ val 0 = 0 := by
  have h := read_rung false 0 0 (by decide) (by decide) (by decide)
  refine ⟨h.1, ?_⟩
  have := h.2
  unfold val
  refine Eq.trans this ?_
  have l : ((0 : Nat) : Rat) = 0 := rfl
  rw [l]
  grind
theorem pw900 : pw (-900) * 1000000000000000000000000000000 ≤ eps := by
  have h : pw (-900) * pw ((100 : Nat) : Int) ≤ eps := by
    unfold eps
    rw [← pw_add]
    exact pw_mono (by decide)
  rw [pw_nat] at h
  have e : ((2 ^ 100 : Nat) : Rat) = 1267650600228229401496703205376 := rfl
  rw [e] at h
  have := pw_pos (-900)
  grind
theorem pw_inv (m : Nat) : pw (-(m : Int)) * qR m = 1 := by
  rw [qR_pow, ← pw_nat, ← pw_add, show -(m : Int) + (m : Int) = 0 by omega]
  rfl
def Cx.scale (c : Rat) (x : Cx) : Cx := ⟨c * x.re, c * x.im⟩
theorem cquo_near (m : Nat) (hm : m ≤ 7) (x : Nat × Nat) (hx : fin2 x) (B : Rat) (h1 : 1 ≤ B) (h2 : B ≤ 10000000000000000000000000000000000000000) (hB : Lc (cx x) B) :
    ∃ z, cQuoBits x.1 x.2 (floatOfInt .f64 ((2 ^ m : Nat) : Int)) 0 = some z ∧ fin2 z ∧ z.1 < 18446744073709551616 ∧ Nc (cx z) (Cx.scale (pw (-(m : Int))) (cx x)) (8 * B * eps) := by
  have hf := allN_at quo_facts m (by omega)
  simp only [Bool.and_eq_true, beq_iff_eq, decide_eq_true_eq] at hf
  obtain ⟨g1, g2, g3, g4, g5⟩ := hf
  generalize floatOfInt .f64 ((2 ^ m : Nat) : Int) = c at *
  have he := eps_small
  have he0 := eps_pos
  have h900 := pw900
  have p900 := pw_pos (-900)
  have hBd : Bd (pw (-900)) := ⟨Rat.le_refl, by
    have : pw (-900) ≤ pw 0 := pw_mono (by decide)
    have e : pw 0 = 1 := rfl
    have h3 : pw ((1 : Nat) : Int) ≤ pw 900 := pw_mono (by decide)
    rw [pw_nat] at h3
    have e2 : ((2 ^ 1 : Nat) : Rat) = 2 := rfl
    grind⟩
  have hBe := Rat.mul_nonneg (show 0 ≤ B - 1 by grind) (Rat.le_of_lt he0)
  have hBe2 := Rat.mul_nonneg (show 0 ≤ B by grind) (show 0 ≤ 1 - eps * 4000000000000000 by grind)
  have hp900e : pw (-900) * eps ≤ eps := by
    have := Rat.mul_nonneg (show 0 ≤ 1 - pw (-900) by grind) (Rat.le_of_lt he0)
    grind
  have hp900e0 := Rat.mul_nonneg (Rat.le_of_lt p900) (Rat.le_of_lt he0)
  have hz : ∀ y, fin y = true → ∃ r, floatBits .mul .f64 y 0 = some r ∧ fin r = true ∧ Near (val r) 0 (pw (-900) * eps) := by
    intro y hy
    have hv : val y * val 0 = 0 := by rw [val_zero.2]; grind
    obtain ⟨r, a1, a2, a3⟩ := mul_near y 0 hy val_zero.1 _ hBd (by rw [hv]; unfold Le; grind)
    rw [hv] at a3
    exact ⟨r, a1, a2, a3⟩
  have hBd2 : Bd (2 * B) := bd_of (by grind) (by grind)
  have hBd3 : Bd (3 * B) := bd_of (by grind) (by grind)
  have hb1 := hB.1
  have hb2 := hB.2
  change Le (val x.1) B at hb1
  change Le (val x.2) B at hb2
  have hm52 : pw (-52 - ((m : Int) - 52)) = pw (-(m : Int)) := by congr 1; omega
  have hpm0 := pw_pos (-(m : Int))
  have hpm1 : pw (-(m : Int)) ≤ 1 := by
    have : pw (-(m : Int)) ≤ pw 0 := pw_mono (by omega)
    have e : pw 0 = 1 := rfl
    grind
  have scaled : ∀ y : Rat, ∀ b : Rat, Le y b → Le (y * pw (-(m : Int))) b := by
    intro y b hy
    have := Le.mul hy (show Le (pw (-(m : Int))) 1 by unfold Le; grind)
    unfold Le at *
    grind
  have leg : ∀ a b : Nat, fin a = true → fin b = true → Le (val a) B → ∃ br n1 e, floatBits .mul .f64 b 0 = some br ∧ floatBits .add .f64 a br = some n1 ∧ floatBits .quo .f64 n1 c = some e ∧ fin e = true ∧ e < 18446744073709551616 ∧ Near (val e) (pw (-(m : Int)) * val a) (8 * B * eps) := by
    intro a b fa fb la
    obtain ⟨br, b1, b2, b3⟩ := hz b fb
    obtain ⟨n1, c1, c2, c3⟩ := add_near a br fa b2 (2 * B) hBd2 (by unfold Near Le at *; grind)
    have ln : Le (val n1) (3 * B) := by unfold Near Le at *; grind
    obtain ⟨e, d1, d2, d3⟩ := quo_near n1 c c2 _ g5 (3 * B) hBd3 (by rw [hm52]; exact scaled _ _ ln)
    rw [hm52] at d3
    refine ⟨br, n1, e, b1, c1, d1, d2, bits_lt d1, ?_⟩
    have hd : Le (val n1 - val a) (3 * (B * eps)) := by unfold Near Le at *; grind
    have hd2 := scaled _ _ hd
    rw [show (val n1 - val a) * pw (-(m : Int)) = val n1 * pw (-(m : Int)) - pw (-(m : Int)) * val a by grind] at hd2
    rw [show 3 * B * eps = 3 * (B * eps) by grind] at d3
    rw [show 8 * B * eps = 8 * (B * eps) by grind]
    generalize B * eps = E at *
    clear scaled hz
    unfold Near Le at *
    grind
  have legS : ∀ a b : Nat, fin a = true → fin b = true → Le (val a) B → ∃ br n1 e, floatBits .mul .f64 b 0 = some br ∧ floatBits .sub .f64 a br = some n1 ∧ floatBits .quo .f64 n1 c = some e ∧ fin e = true ∧ e < 18446744073709551616 ∧ Near (val e) (pw (-(m : Int)) * val a) (8 * B * eps) := by
    intro a b fa fb la
    obtain ⟨br, b1, b2, b3⟩ := hz b fb
    obtain ⟨n1, c1, c2, c3⟩ := sub_near a br fa b2 (2 * B) hBd2 (by unfold Near Le at *; grind)
    have ln : Le (val n1) (3 * B) := by unfold Near Le at *; grind
    obtain ⟨e, d1, d2, d3⟩ := quo_near n1 c c2 _ g5 (3 * B) hBd3 (by rw [hm52]; exact scaled _ _ ln)
    rw [hm52] at d3
    refine ⟨br, n1, e, b1, c1, d1, d2, bits_lt d1, ?_⟩
    have hd : Le (val n1 - val a) (3 * (B * eps)) := by unfold Near Le at *; grind
    have hd2 := scaled _ _ hd
    rw [show (val n1 - val a) * pw (-(m : Int)) = val n1 * pw (-(m : Int)) - pw (-(m : Int)) * val a by grind] at hd2
    rw [show 3 * B * eps = 3 * (B * eps) by grind] at d3
    rw [show 8 * B * eps = 8 * (B * eps) by grind]
    generalize B * eps = E at *
    clear scaled hz
    unfold Near Le at *
    grind
  obtain ⟨br, n1, e, e1, e2, e3, e4, e5, e6⟩ := leg x.1 x.2 hx.1 hx.2 hb1
  obtain ⟨ar, n2, f, f1, f2, f3, f4, f5, f6⟩ := legS x.2 x.1 hx.2 hx.1 hb2
  refine ⟨(e, f), ?_, ⟨e4, f4⟩, e5, ?_⟩
  · unfold cQuoBits
    simp only [g1, if_true, g2, g3, g4, Option.bind_some, e1, e2, e3, f1, f2, f3, isNaN_fin e e4, Bool.false_and, Bool.not_false]
  · unfold Nc Lc Le Cx.scale cx
    simp only [Cx.sub_re, Cx.sub_im]
    unfold Near at e6 f6
    clear scaled hz leg legS
    grind

/-- Back from a transform: n times the list, up to rounding. -/
theorem PP_near (m : Nat) (hm : m ≤ 7) (C : Nat → Cx) (K : Rat) (hC : ∀ c, c < 2 ^ m → Lc (C c) K) (j : Nat) (hj : j < 2 ^ m) :
    Nc (P m (P m C) (if 1 ≤ j then 2 ^ m - j else j)) (C j * ⟨qR m, 0⟩) (2 * (qR m * K) * (6 * qR m + 36) * eps) := by
  obtain ⟨n, hn⟩ : ∃ n, n = 2 ^ m := ⟨_, rfl⟩
  obtain ⟨k', hk'⟩ : ∃ k', k' = if 1 ≤ j then 2 ^ m - j else j := ⟨_, rfl⟩
  have hd : ∀ c, c < n → ((c + k') % n = 0 ↔ c = j) := by
    intro c hc
    rw [hk', ← hn]
    rw [← hn] at hj
    by_cases h1 : 1 ≤ j
    · rw [if_pos h1]
      constructor
      · intro h2
        rcases Nat.lt_or_ge (c + (n - j)) n with h3 | h3
        · rw [Nat.mod_eq_of_lt h3] at h2
          omega
        · rw [Nat.mod_eq_sub_mod h3, Nat.mod_eq_of_lt (by omega)] at h2
          omega
      · intro h2
        rw [show c + (n - j) = n by omega, Nat.mod_self]
    · rw [if_neg h1]
      constructor
      · intro h2
        rw [Nat.mod_eq_of_lt (by omega)] at h2
        omega
      · intro h2
        rw [show c + j = 0 by omega, Nat.zero_mod]
  rw [← hk']
  have e1 : P m (P m C) k' = cs n fun c => C c * cs n fun k => W (k * c * 2 ^ (7 - m)) * W (k' * k * 2 ^ (7 - m)) := by
    have h0 : P m (P m C) k' = cs n fun k => cs n fun c => C c * (W (k * c * 2 ^ (7 - m)) * W (k' * k * 2 ^ (7 - m))) := by
      show cs (2 ^ m) (fun k => cs (2 ^ m) (fun c => C c * W (k * c * 2 ^ (7 - m))) * W (k' * k * 2 ^ (7 - m))) = _
      rw [← hn]
      refine cs_congr fun k _ => ?_
      rw [← cs_mul']
      refine cs_congr fun c _ => ?_
      grind
    rw [h0, cs_swap]
    refine cs_congr fun c _ => ?_
    rw [cs_mul]
  have e2 : C j * ⟨qR m, 0⟩ = cs n fun c => C c * (if (c + k') % n = 0 then ⟨((n : Nat) : Rat), 0⟩ else 0) := by
    rw [cs_single n _ j (by rw [hn]; exact hj), if_pos ((hd j (by rw [hn]; exact hj)).2 rfl), qR_pow, hn]
    intro i hi hne
    rw [if_neg (fun h => hne ((hd i hi).1 h))]
    grind
  rw [e1, e2]
  have hq : qR m = (n : Rat) := by rw [qR_pow, hn]
  refine (cs_near (d := 2 * (K * (qR m * (6 * eps) + 36 * eps))) fun c hc => ?_).mono ?_
  · have s1 : Nc (cs n fun k => W (k * c * 2 ^ (7 - m)) * W (k' * k * 2 ^ (7 - m))) (cs n fun k => W (k * (c + k') * 2 ^ (7 - m))) (n * (6 * eps)) := by
      refine cs_near fun k _ => ?_
      have := W_mul (k * c * 2 ^ (7 - m)) (k' * k * 2 ^ (7 - m))
      rwa [show k * c * 2 ^ (7 - m) + k' * k * 2 ^ (7 - m) = k * (c + k') * 2 ^ (7 - m) by grind] at this
    have s2 := W_sum m (c + k') hm
    rw [← hn] at s2
    have s3 := s1.trans s2
    have s4 := (hC c (by rw [← hn]; exact hc)).mul s3
    unfold Nc
    rw [show C c * cs n (fun k => W (k * c * 2 ^ (7 - m)) * W (k' * k * 2 ^ (7 - m))) - C c * (if (c + k') % n = 0 then ⟨((n : Nat) : Rat), 0⟩ else 0) = C c * (cs n (fun k => W (k * c * 2 ^ (7 - m)) * W (k' * k * 2 ^ (7 - m))) - (if (c + k') % n = 0 then ⟨((n : Nat) : Rat), 0⟩ else 0)) by grind, hq]
    exact s4
  · rw [hq]
    grind

/-- The inverse of what is near a transform. -/
theorem inv_near (m : Nat) (hm : m ≤ 7) (Z : Nat → Nat × Nat) (C : Nat → Cx) (M K z B : Rat) (hM1 : 1 ≤ M) (hM2 : M ≤ 1000000000000000000000000000000) (hZ : ∀ i, i < 2 ^ m → fin2 (Z i) ∧ Lc (cx (Z i)) M)
    (hC : ∀ c, c < 2 ^ m → Lc (C c) K) (hn : ∀ k, k < 2 ^ m → Nc (cx (Z k)) (P m C k) z) (hB1 : 1 ≤ B) (hB2 : B ≤ 10000000000000000000000000000000000000000)
    (hB : 2 * (K * qR m) + (eR m * (M * eps) + qR m * (2 * z) + 2 * (qR m * K) * (6 * qR m + 36) * eps) ≤ B) :
    dftOk m Z ∧ ∀ j, j < 2 ^ m → ∃ v, cQuoBits (turned (2 ^ m) (dftS m Z) j).1 (turned (2 ^ m) (dftS m Z) j).2 (floatOfInt .f64 ((2 ^ m : Nat) : Int)) 0 = some v ∧ fin2 v ∧ v.1 < 18446744073709551616 ∧
      Nc (cx v) (C j) (8 * B * eps + pw (-(m : Int)) * (eR m * (M * eps) + qR m * (2 * z) + 2 * (qR m * K) * (6 * qR m + 36) * eps)) := by
  obtain ⟨ok, hf⟩ := fft_near m hm Z M hM1 hM2 hZ
  refine ⟨ok, fun j hj => ?_⟩
  obtain ⟨k', hk'⟩ : ∃ k', k' = if 1 ≤ j then 2 ^ m - j else j := ⟨_, rfl⟩
  have hk2 : k' < 2 ^ m := by rw [hk']; split <;> omega
  have ht : turned (2 ^ m) (dftS m Z) j = dftS m Z k' := by
    unfold turned
    rw [hk']
    split <;> rfl
  obtain ⟨f1, f2⟩ := hf k' hk2
  have g1 : Nc (P m (fun i => cx (Z i)) k') (P m (P m C) k') (qR m * (2 * z)) := by
    have := cs_near (n := 2 ^ m) (f := fun i => cx (Z i) * W (k' * i * 2 ^ (7 - m))) (g := fun i => P m C i * W (k' * i * 2 ^ (7 - m))) (d := 2 * z) fun i hi => by
      have h1 := Lc.mul (hn i hi) (W_le (k' * i * 2 ^ (7 - m)))
      unfold Nc
      rw [show cx (Z i) * W (k' * i * 2 ^ (7 - m)) - P m C i * W (k' * i * 2 ^ (7 - m)) = (cx (Z i) - P m C i) * W (k' * i * 2 ^ (7 - m)) by grind]
      exact h1.mono (by grind)
    rw [qR_pow]
    exact this
  have g2 := PP_near m hm C K hC j hj
  rw [← hk'] at g2
  have g3 := f2.trans (g1.trans g2)
  have hCj := hC j hj
  have hq0 : 0 ≤ qR m := by have := (qe_bound m hm).1; grind
  have lq : Lc (C j * ⟨qR m, 0⟩) (2 * (K * qR m)) := hCj.mul (by unfold Lc Le; simp only; grind)
  have hl := g3.lc lq
  rw [ht]
  obtain ⟨v, v1, v2, v3, v4⟩ := cquo_near m hm (dftS m Z k') f1 B hB1 hB2 (hl.mono (by grind))
  refine ⟨v, v1, v2, v3, v4.trans ?_⟩
  have hp := pw_inv m
  have hp0 := Rat.le_of_lt (pw_pos (-(m : Int)))
  rw [show eR m * (M * eps) + (qR m * (2 * z) + 2 * (qR m * K) * (6 * qR m + 36) * eps) = eR m * (M * eps) + qR m * (2 * z) + 2 * (qR m * K) * (6 * qR m + 36) * eps by grind] at g3
  generalize eR m * (M * eps) + qR m * (2 * z) + 2 * (qR m * K) * (6 * qR m + 36) * eps = E at *
  generalize pw (-(m : Int)) = p at *
  generalize qR m = q at *
  generalize C j = c at *
  generalize cx (dftS m Z k') = y at *
  unfold Nc Lc Le at g3
  obtain ⟨⟨a1, a2⟩, a3, a4⟩ := g3
  simp only [Cx.sub_re, Cx.sub_im, Cx.mul_re, Cx.mul_im] at a1 a2 a3 a4
  have b1 := Rat.mul_le_mul_of_nonneg_left a1 hp0
  have b2 := Rat.mul_le_mul_of_nonneg_left a2 hp0
  have b3 := Rat.mul_le_mul_of_nonneg_left a3 hp0
  have b4 := Rat.mul_le_mul_of_nonneg_left a4 hp0
  rw [show p * (y.re - (c.re * q - c.im * 0)) = p * y.re - c.re by grind] at b1 b2
  rw [show p * (y.im - (c.re * 0 + c.im * q)) = p * y.im - c.im by grind] at b3 b4
  rw [Rat.mul_neg] at b1 b3
  unfold Nc Lc Le Cx.scale
  simp only [Cx.sub_re, Cx.sub_im]
  exact ⟨⟨b1, b2⟩, b3, b4⟩
end Go.Proofs.YtijbjncdiojpdaaDoor
