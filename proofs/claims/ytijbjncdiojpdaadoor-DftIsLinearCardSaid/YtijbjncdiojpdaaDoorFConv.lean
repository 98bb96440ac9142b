/- The product of two lists, by their transforms. -/
import Derived.Test.YtijbjncdiojpdaaDoorFInv
import Derived.Test.YtijbjncdiojpdaaDoorFRnd
import Derived.Test.YtijbjncdiojpdaaDoorWMult
namespace Go.Proofs.YtijbjncdiojpdaaDoor
open Go

/-- The product of two polynomials of less than n terms together. -/
def convC (n : Nat) (A B : Nat → Cx) (c : Nat) : Cx := cs n fun a => if a ≤ c then A a * B (c - a) else 0

theorem PQ_near (m : Nat) (A B : Nat → Cx) (a b : Rat) (la lb : Nat) (hl : la + lb ≤ 2 ^ m + 1) (hA : ∀ i, Lc (A i) a) (hB : ∀ i, Lc (B i) b) (zA : ∀ i, la ≤ i → A i = 0) (zB : ∀ i, lb ≤ i → B i = 0) (k : Nat) :
    Nc (P m A k * P m B k) (P m (convC (2 ^ m) A B) k) (qR m * (qR m * (24 * (a * b) * eps))) := by
  obtain ⟨n, hn⟩ : ∃ n, n = 2 ^ m := ⟨_, rfl⟩
  have e1 : P m A k * P m B k = cs n fun i => cs n fun j => A i * B j * (W (k * i * 2 ^ (7 - m)) * W (k * j * 2 ^ (7 - m))) := by
    show cs (2 ^ m) (fun i => A i * W (k * i * 2 ^ (7 - m))) * P m B k = _
    rw [← hn, ← cs_mul']
    refine cs_congr fun i _ => ?_
    show A i * W (k * i * 2 ^ (7 - m)) * cs (2 ^ m) (fun j => B j * W (k * j * 2 ^ (7 - m))) = _
    rw [← hn, ← cs_mul]
    refine cs_congr fun j _ => ?_
    grind
  have e2 : P m (convC (2 ^ m) A B) k = cs n fun i => cs n fun j => A i * B j * W (k * (i + j) * 2 ^ (7 - m)) := by
    have h0 : P m (convC (2 ^ m) A B) k = cs n fun i => cs n fun c => (if i ≤ c then A i * B (c - i) else 0) * W (k * c * 2 ^ (7 - m)) := by
      show cs (2 ^ m) (fun c => cs (2 ^ m) (fun i => if i ≤ c then A i * B (c - i) else 0) * W (k * c * 2 ^ (7 - m))) = _
      rw [← hn, cs_swap]
      refine cs_congr fun c _ => ?_
      rw [← cs_mul']
    rw [h0]
    refine cs_congr fun i hi => ?_
    by_cases hil : i < la
    · have s1 := cs_split i (n - i) (fun c => (if i ≤ c then A i * B (c - i) else 0) * W (k * c * 2 ^ (7 - m)))
      have s2 := cs_split (n - i) i (fun j => A i * B j * W (k * (i + j) * 2 ^ (7 - m)))
      rw [show i + (n - i) = n by omega] at s1
      rw [show n - i + i = n by omega] at s2
      rw [s1, s2]
      have z1 : cs i (fun c => (if i ≤ c then A i * B (c - i) else 0) * W (k * c * 2 ^ (7 - m))) = 0 := by
        refine (cs_congr (g := fun _ => 0) fun c hc => ?_).trans (cs_zero i)
        rw [if_neg (by omega)]
        grind
      have z2 : cs i (fun j => A i * B (n - i + j) * W (k * (i + (n - i + j)) * 2 ^ (7 - m))) = 0 := by
        refine (cs_congr (g := fun _ => 0) fun c hc => ?_).trans (cs_zero i)
        rw [zB _ (by omega)]
        grind
      rw [z1, z2]
      have z3 : cs (n - i) (fun c => (if i ≤ i + c then A i * B (i + c - i) else 0) * W (k * (i + c) * 2 ^ (7 - m))) = cs (n - i) (fun j => A i * B j * W (k * (i + j) * 2 ^ (7 - m))) := by
        refine cs_congr fun c _ => ?_
        rw [if_pos (by omega), show i + c - i = c by omega]
      rw [z3]
      grind
    · rw [zA i (by omega)]
      refine cs_congr fun c _ => ?_
      split <;> grind
  rw [e1, e2, qR_pow, ← hn]
  refine cs_near fun i _ => ?_
  refine cs_near fun j _ => ?_
  have h1 := ((hA i).mul (hB j)).mul (W_mul (k * i * 2 ^ (7 - m)) (k * j * 2 ^ (7 - m)))
  rw [show k * i * 2 ^ (7 - m) + k * j * 2 ^ (7 - m) = k * (i + j) * 2 ^ (7 - m) by grind] at h1
  unfold Nc
  rw [show A i * B j * (W (k * i * 2 ^ (7 - m)) * W (k * j * 2 ^ (7 - m))) - A i * B j * W (k * (i + j) * 2 ^ (7 - m)) = A i * B j * (W (k * i * 2 ^ (7 - m)) * W (k * j * 2 ^ (7 - m)) - W (k * (i + j) * 2 ^ (7 - m))) by grind]
  exact h1.mono (by grind)

theorem int_facts : allN 2001 (fun i => sc (floatOfInt .f64 ((i : Int) - 1000)) == some (((i : Int) - 1000) * 1298074214633706907132624082305024)) = true := by decide +kernel
/-- A small integer is a float. -/
theorem int_val (a : Int) (h1 : -1000 ≤ a) (h2 : a ≤ 1000) : fin (floatOfInt .f64 a) = true ∧ val (floatOfInt .f64 a) = (a : Rat) := by
  have h := allN_at int_facts (a + 1000).toNat (by omega)
  rw [beq_iff_eq, show (((a + 1000).toNat : Nat) : Int) - 1000 = a by omega] at h
  obtain ⟨h3, h4⟩ := sc_val _ _ h
  refine ⟨h3, ?_⟩
  rw [h4, Rat.intCast_mul]
  have := pw110
  have e1 : ((1298074214633706907132624082305024 : Int) : Rat) = 1298074214633706907132624082305024 := rfl
  rw [e1]
  grind

/-- The list as complex numbers, zero behind its end. -/
def ic (A : Nat → Int) (l : Nat) : Nat → Cx := fun i => if i < l then ⟨(A i : Rat), 0⟩ else 0
theorem pad_val (A : Nat → Int) (l : Nat) (hA : ∀ i, i < l → outB (A i) = false) (i : Nat) : fin2 (padN A l i) ∧ cx (padN A l i) = ic A l i := by
  unfold padN ic
  by_cases h : i < l
  · have h0 := hA i h
    unfold outB at h0
    rw [Bool.or_eq_false_iff, decide_eq_false_iff_not, decide_eq_false_iff_not] at h0
    obtain ⟨h1, h2⟩ := int_val (A i) (by omega) (by omega)
    rw [if_pos h, if_pos h]
    refine ⟨⟨h1, val_zero.1⟩, ?_⟩
    unfold cx
    simp only [h2, val_zero.2]
  · rw [if_neg h, if_neg h]
    refine ⟨⟨val_zero.1, val_zero.1⟩, ?_⟩
    unfold cx
    simp only [val_zero.2]
    rfl
theorem ic_le (A : Nat → Int) (l : Nat) (hA : ∀ i, i < l → outB (A i) = false) (i : Nat) : Lc (ic A l i) 1000 := by
  unfold ic
  by_cases h : i < l
  · rw [if_pos h]
    have h0 := hA i h
    unfold outB at h0
    rw [Bool.or_eq_false_iff, decide_eq_false_iff_not, decide_eq_false_iff_not] at h0
    have i1 : (A i : Rat) ≤ ((1000 : Int) : Rat) := Rat.intCast_le_intCast.2 (by omega)
    have i2 : ((-1000 : Int) : Rat) ≤ (A i : Rat) := Rat.intCast_le_intCast.2 (by omega)
    have l3 : ((1000 : Int) : Rat) = 1000 := rfl
    have l4 : ((-1000 : Int) : Rat) = -1000 := rfl
    rw [l3] at i1
    rw [l4] at i2
    unfold Lc Le
    simp only
    grind
  · rw [if_neg h]
    exact Lc.zero.mono (by grind)
/-- The coefficients of the product. -/
def convI (A B : Nat → Int) (la lb : Nat) (c : Nat) : Int := sumI la fun a => if a ≤ c ∧ c - a < lb then A a * B (c - a) else 0
theorem sumI_cx (n : Nat) (f : Nat → Int) : cs n (fun i => (⟨(f i : Rat), 0⟩ : Cx)) = ⟨((sumI n f : Int) : Rat), 0⟩ := by
  induction n with
  | zero => rfl
  | succ n ih =>
    rw [cs, ih, sumI, Rat.intCast_add]
    ext
    · rfl
    · show (0 : Rat) + 0 = 0
      grind
theorem conv_val (A B : Nat → Int) (la lb n : Nat) (hl : la ≤ n) (c : Nat) : convC n (ic A la) (ic B lb) c = ⟨((convI A B la lb c : Int) : Rat), 0⟩ := by
  unfold convC
  have s := cs_split la (n - la) (fun a => if a ≤ c then ic A la a * ic B lb (c - a) else 0)
  rw [show la + (n - la) = n by omega] at s
  rw [s]
  have z : cs (n - la) (fun i => if la + i ≤ c then ic A la (la + i) * ic B lb (c - (la + i)) else 0) = 0 := by
    refine (cs_congr (g := fun _ => 0) fun i _ => ?_).trans (cs_zero _)
    have : ic A la (la + i) = 0 := by unfold ic; rw [if_neg (by omega)]
    rw [this]
    split <;> grind
  rw [z]
  unfold convI
  rw [← sumI_cx]
  have e : cs la (fun a => if a ≤ c then ic A la a * ic B lb (c - a) else 0) = cs la (fun i => (⟨((if i ≤ c ∧ c - i < lb then A i * B (c - i) else 0 : Int) : Rat), 0⟩ : Cx)) := by
    refine cs_congr fun a ha => ?_
    by_cases h1 : a ≤ c
    · rw [if_pos h1]
      by_cases h2 : c - a < lb
      · rw [if_pos ⟨h1, h2⟩]
        unfold ic
        rw [if_pos ha, if_pos h2, Rat.intCast_mul]
        ext
        · show (A a : Rat) * (B (c - a) : Rat) - 0 * 0 = (A a : Rat) * (B (c - a) : Rat)
          grind
        · show (A a : Rat) * 0 + 0 * (B (c - a) : Rat) = 0
          grind
      · rw [if_neg (fun h => h2 h.2)]
        have : ic B lb (c - a) = 0 := by unfold ic; rw [if_neg h2]
        rw [this, Lean.Grind.Semiring.mul_zero]
        rfl
    · rw [if_neg h1, if_neg (fun h => h1 h.1)]
      rfl
  rw [e]
  grind

theorem m_bound (l : Nat) (h1 : 1 ≤ l) (h2 : l ≤ 127) : lenS (l - 1) ≤ 7 ∧ l ≤ 2 ^ lenS (l - 1) := by
  have key : allN 128 (fun l => l == 0 || (decide (lenS (l - 1) ≤ 7) && decide (l ≤ 2 ^ lenS (l - 1)))) = true := by decide +kernel
  have := allN_at key l (by omega)
  simp only [Bool.or_eq_true, beq_iff_eq, Bool.and_eq_true, decide_eq_true_eq] at this
  omega

/-- The error, for each number of levels. -/
theorem final_bound (m : Nat) (hm : m ≤ 7) (q e p : Rat) (hq : q = qR m) (he : e = eR m) (hp : p * q = 1) :
    ∃ z M K B : Rat, z = (24000000 * (q * q) + 5 * ((2001 * q) * (2001 * q)) + 2 * (e * 1000 * (2001 * q)) + 2 * (2001 * q * (e * 1000))) * eps ∧ M = 3 * ((2001 * q) * (2001 * q)) ∧ K = 2000000 * q ∧
      B = 2 * (K * q) + (e * (M * eps) + q * (2 * z) + 2 * (q * K) * (6 * q + 36) * eps) + 1 ∧ 1 ≤ M ∧ M ≤ 1000000000000000000000000000000 ∧ 1 ≤ B ∧ B ≤ 10000000000000000000000000000000000000000 ∧ z ≤ 1 ∧ K ≤ 900000000000 ∧
      8 * B * eps + p * (e * (M * eps) + q * (2 * z) + 2 * (q * K) * (6 * q + 36) * eps) < 1 / 2 := by
  have h1 := eps_small
  have h2 := eps_pos
  refine ⟨_, _, _, _, rfl, rfl, rfl, rfl, ?_⟩
  rcases (show m = 0 ∨ m = 1 ∨ m = 2 ∨ m = 3 ∨ m = 4 ∨ m = 5 ∨ m = 6 ∨ m = 7 by omega) with rfl | rfl | rfl | rfl | rfl | rfl | rfl | rfl
  all_goals
    simp only [qR, eR] at hq he
    subst hq
    subst he
    generalize eps = E at *
    have h3 := Rat.mul_nonneg (Rat.le_of_lt h2) (show 0 ≤ 1 - E * 4000000000000000 by grind)
    refine ⟨by grind, by grind, by grind, by grind, by grind, by grind, ?_⟩
  · obtain rfl : p = 1 := by grind
    grind
  · obtain rfl : p = 1 / 2 := by grind
    grind
  · obtain rfl : p = 1 / 4 := by grind
    grind
  · obtain rfl : p = 1 / 8 := by grind
    grind
  · obtain rfl : p = 1 / 16 := by grind
    grind
  · obtain rfl : p = 1 / 32 := by grind
    grind
  · obtain rfl : p = 1 / 64 := by grind
    grind
  · obtain rfl : p = 1 / 128 := by grind
    grind

theorem convI_le (A B : Nat → Int) (la lb : Nat) (hl : la ≤ 64) (hA : ∀ i, i < la → outB (A i) = false) (hB : ∀ i, i < lb → outB (B i) = false) (c : Nat) : -64000000 ≤ convI A B la lb c ∧ convI A B la lb c ≤ 64000000 := by
  have key : ∀ n, n ≤ la → -(1000000 * (n : Int)) ≤ sumI n (fun a => if a ≤ c ∧ c - a < lb then A a * B (c - a) else 0) ∧ sumI n (fun a => if a ≤ c ∧ c - a < lb then A a * B (c - a) else 0) ≤ 1000000 * (n : Int) := by
    intro n
    induction n with
    | zero => intro _; simp [sumI]
    | succ n ih =>
      intro hn
      obtain ⟨i1, i2⟩ := ih (by omega)
      rw [sumI]
      by_cases h : n ≤ c ∧ c - n < lb
      · rw [if_pos h]
        have ha := hA n (by omega)
        have hb := hB (c - n) h.2
        unfold outB at ha hb
        rw [Bool.or_eq_false_iff, decide_eq_false_iff_not, decide_eq_false_iff_not] at ha hb
        have m1 := Int.mul_nonneg (show 0 ≤ 1000 - A n by omega) (show 0 ≤ 1000 + B (c - n) by omega)
        have m2 := Int.mul_nonneg (show 0 ≤ 1000 + A n by omega) (show 0 ≤ 1000 - B (c - n) by omega)
        have m3 := Int.mul_nonneg (show 0 ≤ 1000 - A n by omega) (show 0 ≤ 1000 - B (c - n) by omega)
        have m4 := Int.mul_nonneg (show 0 ≤ 1000 + A n by omega) (show 0 ≤ 1000 + B (c - n) by omega)
        generalize B (c - n) = b at *
        generalize A n = a at *
        grind
      · rw [if_neg h]
        omega
  have := key la (Nat.le_refl _)
  unfold convI
  omega

/-- dft.Multiply gives the product. -/
theorem prod_ok (A B : Nat → Int) (la lb : Nat) (a1 : 1 ≤ la) (a2 : la ≤ 64) (b1 : 1 ≤ lb) (b2 : lb ≤ 64) (ra : ∀ i, i < la → outB (A i) = false) (rb : ∀ i, i < lb → outB (B i) = false) :
    ∃ m Xa Xb Z V, Prod A B la lb m Xa Xb Z V (convI A B la lb) := by
  obtain ⟨m, hmd⟩ : ∃ m, m = lenS (la + lb - 2) := ⟨_, rfl⟩
  have hmb := m_bound (la + lb - 1) (by omega) (by omega)
  rw [show la + lb - 1 - 1 = la + lb - 2 by omega, ← hmd] at hmb
  obtain ⟨hm, hl⟩ := hmb
  obtain ⟨z, M, K, Bd0, hz, hM, hK, hB, M1, M2, B1, B2, z1, K1, fin1⟩ := final_bound m hm (qR m) (eR m) (pw (-(m : Int))) rfl rfl (pw_inv m)
  obtain ⟨q1, q2, e1, e2⟩ := qe_bound m hm
  have heps := eps_pos
  have hsm := eps_small
  have la1 := ic_le A la ra
  have lb1 := ic_le B lb rb
  obtain ⟨oka, na⟩ := fft_near m hm (padN A la) 1000 (by grind) (by grind) (fun i _ => ⟨(pad_val A la ra i).1, by rw [(pad_val A la ra i).2]; exact la1 i⟩)
  obtain ⟨okb, nb⟩ := fft_near m hm (padN B lb) 1000 (by grind) (by grind) (fun i _ => ⟨(pad_val B lb rb i).1, by rw [(pad_val B lb rb i).2]; exact lb1 i⟩)
  have pa : (fun i => cx (padN A la i)) = ic A la := funext fun i => (pad_val A la ra i).2
  have pb : (fun i => cx (padN B lb i)) = ic B lb := funext fun i => (pad_val B lb rb i).2
  rw [pa] at na
  rw [pb] at nb
  have hee : eR m * (1000 * eps) ≤ qR m := by
    have x1 := Rat.mul_nonneg (show 0 ≤ 100000 - eR m by grind) (show 0 ≤ 1000 * eps by grind)
    grind
  have hee0 : 0 ≤ eR m * (1000 * eps) := Rat.mul_nonneg e1 (by grind)
  have hLL : 1 ≤ 2001 * qR m * (2001 * qR m) := by
    have x1 := Rat.mul_nonneg (show 0 ≤ qR m - 1 by grind) (show 0 ≤ qR m by grind)
    grind
  have hLL2 : 2001 * qR m * (2001 * qR m) ≤ 1000000000000 := by
    have x1 := Rat.mul_nonneg (show 0 ≤ 128 - qR m by grind) (show 0 ≤ qR m by grind)
    grind
  have hmul : ∀ k, k < 2 ^ m → ∃ v, cmul (dftS m (padN A la) k) (dftS m (padN B lb) k) = some v ∧ fin2 v ∧ Lc (cx v) M ∧ Nc (cx v) (P m (convC (2 ^ m) (ic A la) (ic B lb)) k) z := by
    intro k hk
    obtain ⟨fa, ca⟩ := na k hk
    obtain ⟨fb, cb⟩ := nb k hk
    have ba := ca.lc (P_le m (ic A la) 1000 (fun i _ => la1 i) k)
    have bb := cb.lc (P_le m (ic B lb) 1000 (fun i _ => lb1 i) k)
    have ba' : Lc (cx (dftS m (padN A la) k)) (2001 * qR m) := ba.mono (by grind)
    have bb' : Lc (cx (dftS m (padN B lb) k)) (2001 * qR m) := bb.mono (by grind)
    have pbb := (P_le m (ic A la) 1000 (fun i _ => la1 i) k).mono (show 2 * (qR m * 1000) ≤ 2001 * qR m by grind)
    obtain ⟨v, v1, v2, v3⟩ := cmul_near _ _ fa fb (2001 * qR m) (2001 * qR m) ba' bb' hLL (by grind)
    have n2 := ca.mul cb bb' pbb
    have n3 := PQ_near m (ic A la) (ic B lb) 1000 1000 la lb (by omega) la1 lb1 (fun i hi => by unfold ic; rw [if_neg (by omega)]) (fun i hi => by unfold ic; rw [if_neg (by omega)]) k
    refine ⟨v, v1, v2, ?_, ?_⟩
    · refine (v3.lc (ba'.mul bb')).mono ?_
      rw [hM]
      have x1 := Rat.mul_nonneg (show 0 ≤ 2001 * qR m * (2001 * qR m) by grind) (show 0 ≤ 1 - eps * 4000000000000000 by grind)
      have x2 := Rat.mul_nonneg (show 0 ≤ 2001 * qR m * (2001 * qR m) by grind) (Rat.le_of_lt heps)
      grind
    · refine (v3.trans (n2.trans n3)).mono ?_
      rw [hz]
      grind
  obtain ⟨Z, hZ⟩ : ∃ Z : Nat → Nat × Nat, Z = fun k => cget (cmul (dftS m (padN A la) k) (dftS m (padN B lb) k)) := ⟨_, rfl⟩
  have hZ2 : ∀ k, k < 2 ^ m → cmul (dftS m (padN A la) k) (dftS m (padN B lb) k) = some (Z k) ∧ fin2 (Z k) ∧ Lc (cx (Z k)) M ∧ Nc (cx (Z k)) (P m (convC (2 ^ m) (ic A la) (ic B lb)) k) z := by
    intro k hk
    obtain ⟨v, v1, v2⟩ := hmul k hk
    have : Z k = v := by rw [hZ]; exact cget_eq v1
    rw [this]
    exact ⟨v1, v2⟩
  have hC : ∀ c, Lc (convC (2 ^ m) (ic A la) (ic B lb) c) K := by
    intro c
    refine (cs_le (b := 2000000) fun a _ => ?_).mono (by rw [hK, qR_pow]; grind)
    split
    · exact ((la1 a).mul (lb1 (c - a))).mono (by grind)
    · exact Lc.zero.mono (by grind)
  obtain ⟨okz, hv⟩ := inv_near m hm Z (convC (2 ^ m) (ic A la) (ic B lb)) M K z Bd0 M1 M2 (fun i hi => ⟨(hZ2 i hi).2.1, (hZ2 i hi).2.2.1⟩) (fun c _ => hC c) (fun k hk => (hZ2 k hk).2.2.2) B1 B2 (by rw [hB]; grind)
  obtain ⟨V, hV⟩ : ∃ V : Nat → Nat × Nat, V = fun j => cget (cQuoBits (turned (2 ^ m) (dftS m Z) j).1 (turned (2 ^ m) (dftS m Z) j).2 (floatOfInt .f64 ((2 ^ m : Nat) : Int)) 0) := ⟨_, rfl⟩
  have hV2 : ∀ j, j < 2 ^ m → cQuoBits (turned (2 ^ m) (dftS m Z) j).1 (turned (2 ^ m) (dftS m Z) j).2 (floatOfInt .f64 ((2 ^ m : Nat) : Int)) 0 = some (V j) ∧ fin2 (V j) ∧ (V j).1 < 18446744073709551616 ∧ Nc (cx (V j)) (convC (2 ^ m) (ic A la) (ic B lb) j) (8 * Bd0 * eps + pw (-(m : Int)) * (eR m * (M * eps) + qR m * (2 * z) + 2 * (qR m * K) * (6 * qR m + 36) * eps)) := by
    intro j hj
    obtain ⟨v, v1, v2⟩ := hv j hj
    have : V j = v := by rw [hV]; exact cget_eq v1
    rw [this]
    exact ⟨v1, v2⟩
  refine ⟨m, dftS m (padN A la), dftS m (padN B lb), Z, V, ⟨a1, a2, b1, b2, ra, rb, hmd.symm, hm, hl, oka, okb, rfl, rfl, fun k hk => (hZ2 k hk).1, okz, fun q hq => (hV2 q hq).1, fun i hi => (hV2 i (by omega)).2.2.1, fun i hi => ?_⟩⟩
  obtain ⟨w1, w2, w3, w4⟩ := hV2 i (by omega)
  have hcl := convI_le A B la lb a2 ra rb i
  have w5 := w4.1
  rw [conv_val A B la lb (2 ^ m) (by omega) i] at w5
  change Le (val (V i).1 - ((convI A B la lb i : Int) : Rat)) _ at w5
  generalize 8 * Bd0 * eps + pw (-(m : Int)) * (eR m * (M * eps) + qR m * (2 * z) + 2 * (qR m * K) * (6 * qR m + 36) * eps) = E at *
  unfold Le at w5
  exact round_int _ w3 w2.1 _ ⟨by omega, by omega⟩ ⟨by grind, by grind⟩
end Go.Proofs.YtijbjncdiojpdaaDoor
