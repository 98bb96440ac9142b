/- The transform, up to rounding, is the sum over the roots. -/
import Derived.Test.YtijbjncdiojpdaaDoorFRoot
import Derived.Test.YtijbjncdiojpdaaDoorDDft
namespace Go.Proofs.YtijbjncdiojpdaaDoor
open Go

theorem bd_of {B : Rat} (h1 : 1 ≤ B) (h2 : B ≤ 100000000000000000000000000000000000000000) : Bd B := by
  constructor
  · have : pw (-900) ≤ pw 0 := pw_mono (by decide)
    have e : pw 0 = 1 := rfl
    grind
  · have h3 : pw ((200 : Nat) : Int) ≤ pw 900 := pw_mono (by decide)
    rw [pw_nat] at h3
    have e : ((2 ^ 200 : Nat) : Rat) = 1606938044258990275541962092341162602522202993782792835301376 := rfl
    rw [e] at h3
    grind
theorem eps_small : eps * 4000000000000000 ≤ 1 := by
  have := eps_val
  have := eps_pos
  grind

theorem Near.le {x y d b : Rat} (h : Near x y d) (hy : Le y b) : Le x (b + d) := by
  unfold Near Le at *
  grind
theorem cadd_near (x y : Nat × Nat) (hx : fin2 x) (hy : fin2 y) (B : Rat) (h1 : 1 ≤ B) (h2 : B ≤ 100000000000000000000000000000000000000000) (hv : Lc (cx x + cx y) B) :
    ∃ z, cadd x y = some z ∧ fin2 z ∧ Nc (cx z) (cx x + cx y) (B * eps) := by
  obtain ⟨r, e1, f1, n1⟩ := add_near x.1 y.1 hx.1 hy.1 B (bd_of h1 h2) hv.1
  obtain ⟨s, e2, f2, n2⟩ := add_near x.2 y.2 hx.2 hy.2 B (bd_of h1 h2) hv.2
  refine ⟨(r, s), ?_, ⟨f1, f2⟩, ?_⟩
  · unfold cadd cSumBits
    rw [e1, e2]
    rfl
  · unfold Near at n1 n2
    unfold Nc Lc Le cx
    simp only [Cx.sub_re, Cx.sub_im, Cx.add_re, Cx.add_im]
    grind
theorem cmul_near (x y : Nat × Nat) (hx : fin2 x) (hy : fin2 y) (a b : Rat) (ha : Lc (cx x) a) (hb : Lc (cx y) b) (h1 : 1 ≤ a * b) (h2 : a * b ≤ 10000000000000000000000000000000000000000) :
    ∃ z, cmul x y = some z ∧ fin2 z ∧ Nc (cx z) (cx x * cx y) (5 * (a * b) * eps) := by
  have he := eps_small
  have he0 := eps_pos
  have l1 := ha.1.mul hb.1
  have l2 := ha.2.mul hb.2
  have l3 := ha.1.mul hb.2
  have l4 := ha.2.mul hb.1
  have hab0 := Rat.mul_nonneg (show 0 ≤ a * b - 1 by grind) (Rat.le_of_lt he0)
  have hab1 := Rat.mul_nonneg (show 0 ≤ a * b by grind) (show 0 ≤ 1 - eps * 4000000000000000 by grind)
  generalize a * b = B at *
  have hB := bd_of h1 (by grind)
  have hB3 : Bd (3 * B) := bd_of (by grind) (by grind)
  obtain ⟨ac, e1, f1, n1⟩ := mul_near x.1 y.1 hx.1 hy.1 B hB l1
  obtain ⟨bd, e2, f2, n2⟩ := mul_near x.2 y.2 hx.2 hy.2 B hB l2
  obtain ⟨ad, e3, f3, n3⟩ := mul_near x.1 y.2 hx.1 hy.2 B hB l3
  obtain ⟨bc, e4, f4, n4⟩ := mul_near x.2 y.1 hx.2 hy.1 B hB l4
  change Le (val x.1 * val y.1) B at l1
  change Le (val x.2 * val y.2) B at l2
  change Le (val x.1 * val y.2) B at l3
  change Le (val x.2 * val y.1) B at l4
  obtain ⟨re, e5, f5, n5⟩ := sub_near ac bd f1 f2 (3 * B) hB3 (by unfold Near Le at *; grind)
  obtain ⟨im, e6, f6, n6⟩ := add_near ad bc f3 f4 (3 * B) hB3 (by unfold Near Le at *; grind)
  refine ⟨(re, im), ?_, ⟨f5, f6⟩, ?_⟩
  · unfold cmul cMulBits
    simp only [e1, e2, e3, e4, e5, e6, Option.bind_some]
  · unfold Near at n1 n2 n3 n4 n5 n6
    unfold Nc Lc Le cx
    simp only [Cx.sub_re, Cx.sub_im, Cx.mul_re, Cx.mul_im]
    rw [show 3 * B * eps = 3 * (B * eps) by grind] at n5 n6
    rw [show 5 * B * eps = 5 * (B * eps) by grind]
    generalize B * eps = C at *
    clear hB hB3 hab0 hab1 ha hb hx hy he he0 h1 h2 l1 l2 l3 l4
    grind

/-- The sum over the roots. -/
def P (m : Nat) (X : Nat → Cx) (k : Nat) : Cx := cs (2 ^ m) fun j => X j * W (k * j * 2 ^ (7 - m))
def qR : Nat → Rat
  | 0 => 1
  | m + 1 => 2 * qR m
def eR : Nat → Rat
  | 0 => 0
  | m + 1 => 3 * eR m + 40 * qR m
theorem qR_pow (m : Nat) : qR m = ((2 ^ m : Nat) : Rat) := by
  induction m with
  | zero => rfl
  | succ m ih =>
    rw [qR, ih, Nat.pow_succ, Rat.natCast_mul]
    have : ((2 : Nat) : Rat) = 2 := rfl
    rw [this]
    grind
theorem qe_bound (m : Nat) (hm : m ≤ 7) : 1 ≤ qR m ∧ qR m ≤ 128 ∧ 0 ≤ eR m ∧ eR m ≤ 100000 := by
  rcases (show m = 0 ∨ m = 1 ∨ m = 2 ∨ m = 3 ∨ m = 4 ∨ m = 5 ∨ m = 6 ∨ m = 7 by omega) with rfl | rfl | rfl | rfl | rfl | rfl | rfl | rfl <;> simp only [qR, eR] <;> grind

theorem P_le (m : Nat) (X : Nat → Cx) (M : Rat) (h : ∀ i, i < 2 ^ m → Lc (X i) M) (k : Nat) : Lc (P m X k) (2 * (qR m * M)) := by
  refine (cs_le (b := 2 * (M * 1)) fun i hi => (h i hi).mul (W_le _)).mono ?_
  rw [qR_pow]
  grind
/-- The sum over the roots, halved. -/
theorem P_step (m : Nat) (hm : m + 1 ≤ 7) (X : Nat → Cx) (M : Rat) (h : ∀ i, i < 2 ^ (m + 1) → Lc (X i) M) (k : Nat) :
    Nc (P m (fun i => X (2 * i)) (k % 2 ^ m) + W (k * 2 ^ (7 - (m + 1))) * P m (fun i => X (2 * i + 1)) (k % 2 ^ m)) (P (m + 1) X k) (qR m * (12 * (M * eps))) := by
  have e7 : 2 ^ (7 - m) = 2 * 2 ^ (7 - (m + 1)) := by rw [show 7 - m = 7 - (m + 1) + 1 by omega, Nat.pow_succ, Nat.mul_comm]
  have e128 : 2 ^ m * 2 ^ (7 - m) = 128 := by rw [← Nat.pow_add, show m + (7 - m) = 7 by omega]
  have hk := Nat.div_add_mod k (2 ^ m)
  have hidx : ∀ i, (k % 2 ^ m * i * 2 ^ (7 - m)) % 128 = (k * i * 2 ^ (7 - m)) % 128 := by
    intro i
    generalize k % 2 ^ m = r at *
    generalize k / 2 ^ m = q at *
    rw [← hk, Nat.add_mul, Nat.add_mul, show 2 ^ m * q * i * 2 ^ (7 - m) = 128 * (q * i) by rw [← e128]; grind, Nat.mul_add_mod]
  have hP : P (m + 1) X k = cs (2 ^ m) (fun i => X (2 * i) * W (k * i * 2 ^ (7 - m))) + cs (2 ^ m) (fun i => X (2 * i + 1) * W (k * 2 ^ (7 - (m + 1)) + k * i * 2 ^ (7 - m))) := by
    unfold P
    rw [show 2 ^ (m + 1) = 2 * 2 ^ m by rw [Nat.pow_succ, Nat.mul_comm], cs_halves]
    congr 1
    · refine cs_congr fun i _ => ?_
      rw [e7, show k * (2 * i) * 2 ^ (7 - (m + 1)) = k * i * (2 * 2 ^ (7 - (m + 1))) by grind]
    · refine cs_congr fun i _ => ?_
      rw [e7, show k * (2 * i + 1) * 2 ^ (7 - (m + 1)) = k * 2 ^ (7 - (m + 1)) + k * i * (2 * 2 ^ (7 - (m + 1))) by grind]
  have hE : P m (fun i => X (2 * i)) (k % 2 ^ m) = cs (2 ^ m) (fun i => X (2 * i) * W (k * i * 2 ^ (7 - m))) := by
    unfold P
    exact cs_congr fun i _ => by rw [W_congr (hidx i)]
  have hO : W (k * 2 ^ (7 - (m + 1))) * P m (fun i => X (2 * i + 1)) (k % 2 ^ m) = cs (2 ^ m) (fun i => X (2 * i + 1) * (W (k * 2 ^ (7 - (m + 1))) * W (k * i * 2 ^ (7 - m)))) := by
    unfold P
    rw [← cs_mul]
    refine cs_congr fun i _ => ?_
    rw [W_congr (hidx i)]
    grind
  rw [hP, hE, hO]
  have hn : Nc (cs (2 ^ m) (fun i => X (2 * i + 1) * (W (k * 2 ^ (7 - (m + 1))) * W (k * i * 2 ^ (7 - m))))) (cs (2 ^ m) (fun i => X (2 * i + 1) * W (k * 2 ^ (7 - (m + 1)) + k * i * 2 ^ (7 - m)))) (((2 ^ m : Nat) : Rat) * (2 * (M * (6 * eps)))) := by
    refine cs_near fun i hi => ?_
    have h1 := (h (2 * i + 1) (by rw [Nat.pow_succ]; omega)).mul (W_mul (k * 2 ^ (7 - (m + 1))) (k * i * 2 ^ (7 - m)))
    unfold Nc
    have e : X (2 * i + 1) * (W (k * 2 ^ (7 - (m + 1))) * W (k * i * 2 ^ (7 - m)) - W (k * 2 ^ (7 - (m + 1)) + k * i * 2 ^ (7 - m))) = X (2 * i + 1) * (W (k * 2 ^ (7 - (m + 1))) * W (k * i * 2 ^ (7 - m))) - X (2 * i + 1) * W (k * 2 ^ (7 - (m + 1)) + k * i * 2 ^ (7 - m)) := by grind
    rw [← e]
    exact h1
  refine ((Nc.refl _).add hn).mono ?_
  rw [qR_pow]
  grind

theorem cget_eq {o : Option (Nat × Nat)} {z : Nat × Nat} (h : o = some z) : cget o = z := by rw [h]; rfl

theorem fft_near (m : Nat) : m ≤ 7 → ∀ (X : Nat → Nat × Nat) (M : Rat), 1 ≤ M → M ≤ 1000000000000000000000000000000 → (∀ i, i < 2 ^ m → fin2 (X i) ∧ Lc (cx (X i)) M) →
    dftOk m X ∧ ∀ k, k < 2 ^ m → fin2 (dftS m X k) ∧ Nc (cx (dftS m X k)) (P m (fun i => cx (X i)) k) (eR m * (M * eps)) := by
  induction m with
  | zero =>
    intro _ X M h1 h2 h
    refine ⟨trivial, fun k hk => ⟨(h k hk).1, ?_⟩⟩
    obtain rfl : k = 0 := by omega
    show Nc (cx (X 0)) (P 0 (fun i => cx (X i)) 0) (0 * (M * eps))
    have : P 0 (fun i => cx (X i)) 0 = cx (X 0) := by
      show (0 : Cx) + cx (X 0) * W (0 * 0 * 2 ^ (7 - 0)) = cx (X 0)
      have hw : W 0 = 1 := by
        ext
        · show ((tre 0 : Int) : Rat) * pw (-110) = ((1 : Nat) : Rat)
          have : tre 0 = 1298074214633706907132624082305024 := by decide +kernel
          rw [this]
          have := pw110
          have e1 : ((1298074214633706907132624082305024 : Int) : Rat) = 1298074214633706907132624082305024 := rfl
          have e2 : ((1 : Nat) : Rat) = 1 := rfl
          rw [e1, e2]
          grind
        · show ((tim 0 : Int) : Rat) * pw (-110) = 0
          have : tim 0 = 0 := by decide +kernel
          rw [this]
          simp
      rw [show 0 * 0 * 2 ^ (7 - 0) = 0 by decide, hw]
      grind
    rw [this]
    exact (Nc.refl _).mono (by grind)
  | succ m ih =>
    intro hm X M h1 h2 h
    have hp : 2 ^ (m + 1) = 2 * 2 ^ m := by rw [Nat.pow_succ, Nat.mul_comm]
    obtain ⟨oe, ne⟩ := ih (by omega) (evens X) M h1 h2 fun i hi => h (2 * i) (by omega)
    obtain ⟨oo, no⟩ := ih (by omega) (odds X) M h1 h2 fun i hi => h (2 * i + 1) (by omega)
    obtain ⟨q1, q2, e1, e2⟩ := qe_bound m (by omega)
    have heps := eps_pos
    have hsm := eps_small
    have hpos : 0 < 2 ^ m := Nat.two_pow_pos m
    have key : ∀ k, k < 2 ^ (m + 1) → (rootAt (2 ^ (m + 1)) k).isSome = true ∧ (cmul (rootR (2 ^ (m + 1)) k) (dftS m (odds X) (k % 2 ^ m))).isSome = true ∧
        (cadd (dftS m (evens X) (k % 2 ^ m)) (cget (cmul (rootR (2 ^ (m + 1)) k) (dftS m (odds X) (k % 2 ^ m))))).isSome = true ∧ fin2 (dftS (m + 1) X k) ∧ Nc (cx (dftS (m + 1) X k)) (P (m + 1) (fun i => cx (X i)) k) (eR (m + 1) * (M * eps)) := by
      intro k hk
      have hk' : k % 2 ^ m < 2 ^ m := Nat.mod_lt _ hpos
      obtain ⟨r, hr, fr, wr⟩ := root_word (m + 1) k hm hk
      have hrr : rootR (2 ^ (m + 1)) k = r := cget_eq hr
      obtain ⟨fE, nE⟩ := ne (k % 2 ^ m) hk'
      obtain ⟨fO, nO⟩ := no (k % 2 ^ m) hk'
      rw [show dftS (m + 1) X k = cget (cadd (dftS m (evens X) (k % 2 ^ m)) (cget (cmul (rootR (2 ^ (m + 1)) k) (dftS m (odds X) (k % 2 ^ m))))) from rfl, hrr]
      have pE := P_le m (fun i => cx (evens X i)) M (fun i hi => (h (2 * i) (by omega)).2) (k % 2 ^ m)
      have pO := P_le m (fun i => cx (odds X i)) M (fun i hi => (h (2 * i + 1) (by omega)).2) (k % 2 ^ m)
      have st := P_step m hm (fun i => cx (X i)) M (fun i hi => (h i hi).2) k
      rw [← wr] at st
      generalize dftS m (evens X) (k % 2 ^ m) = E at *
      generalize dftS m (odds X) (k % 2 ^ m) = O at *
      change Nc (P m (fun i => cx (evens X i)) (k % 2 ^ m) + cx r * P m (fun i => cx (odds X i)) (k % 2 ^ m)) _ _ at st
      generalize P m (fun i => cx (evens X i)) (k % 2 ^ m) = Pe at *
      generalize P m (fun i => cx (odds X i)) (k % 2 ^ m) = Po at *
      generalize P (m + 1) (fun i => cx (X i)) k = Pk at *
      have hqM : 1 ≤ qR m * M := by
        have := Rat.mul_nonneg (show 0 ≤ qR m - 1 by grind) (show 0 ≤ M - 1 by grind)
        grind
      have hqM2 : qR m * M ≤ 128 * 1000000000000000000000000000000 := by
        have := Rat.mul_nonneg (show 0 ≤ 128 - qR m by grind) (show 0 ≤ M by grind)
        grind
      have hMe : 0 ≤ M * eps := Rat.mul_nonneg (by grind) (by grind)
      have heM : eR m * (M * eps) ≤ qR m * M := by
        have a1 := Rat.mul_nonneg (show 0 ≤ 100000 - eR m by grind) hMe
        have a2 := Rat.mul_nonneg (show 0 ≤ M by grind) (show 0 ≤ 1 - eps * 4000000000000000 by grind)
        have a3 := Rat.mul_nonneg (show 0 ≤ qR m - 1 by grind) (show 0 ≤ M by grind)
        grind
      have heM0 : 0 ≤ eR m * (M * eps) := Rat.mul_nonneg e1 hMe
      have hqe : qR m * (12 * (M * eps)) = 12 * (qR m * M * eps) := by grind
      rw [hqe] at st
      have hge : eR (m + 1) * (M * eps) = 3 * (eR m * (M * eps)) + 40 * (qR m * M * eps) := by rw [eR]; grind
      rw [hge]
      have hqe2 := Rat.mul_nonneg (show 0 ≤ qR m * M by grind) (show 0 ≤ 1 - eps * 4000000000000000 by grind)
      have hqe3 := Rat.mul_nonneg (show 0 ≤ qR m * M by grind) (Rat.le_of_lt heps)
      generalize eR m * (M * eps) = e at *
      have bE := nE.lc pE
      have bO := nO.lc pO
      have hw : Lc (cx r) 1 := by rw [wr]; exact W_le _
      generalize qR m * M = q at *
      obtain ⟨z, c1, c2, c3⟩ := cmul_near r O fr fO 1 (3 * q) hw (bO.mono (by grind)) (by grind) (by grind)
      rw [cget_eq c1]
      have hz := c3.lc (hw.mul (bO.mono (b := 3 * q) (by grind)))
      have hz' : Lc (cx z) (7 * q) := hz.mono (by grind)
      obtain ⟨y, d1, d2, d3⟩ := cadd_near E z fE c2 (10 * q) (by grind) (by grind) ((bE.add hz').mono (by grind))
      rw [cget_eq d1]
      refine ⟨by rw [hr]; rfl, by rw [c1]; rfl, by rw [d1]; rfl, d2, ?_⟩
      have g1 := (Nc.refl (cx r)).mul nO bO hw
      have g2 := d3.trans ((nE.add (c3.trans g1)).trans st)
      refine g2.mono ?_
      grind
    exact ⟨⟨oe, oo, fun k hk => ⟨(key k hk).1, (key k hk).2.1, (key k hk).2.2.1⟩⟩, fun k hk => (key k hk).2.2.2⟩
end Go.Proofs.YtijbjncdiojpdaaDoor
