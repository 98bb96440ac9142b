/- The roots as numbers: their products and their sums. -/
import Derived.Test.YtijbjncdiojpdaaDoorWTab
import Derived.Test.YtijbjncdiojpdaaDoorCx
namespace Go.Proofs.YtijbjncdiojpdaaDoor
open Go

def W (j : Nat) : Cx := ⟨(tre j : Rat) * pw (-110), (tim j : Rat) * pw (-110)⟩
def cx (p : Nat × Nat) : Cx := ⟨val p.1, val p.2⟩
def fin2 (p : Nat × Nat) : Prop := fin p.1 = true ∧ fin p.2 = true

theorem tre_mod (j : Nat) : tre (j % 128) = tre j := by unfold tre nr; rw [show Nat.mod (j % 128) 128 = Nat.mod j 128 from Nat.mod_mod j 128]
theorem tim_mod (j : Nat) : tim (j % 128) = tim j := by unfold tim ni; rw [show Nat.mod (j % 128) 128 = Nat.mod j 128 from Nat.mod_mod j 128]
theorem W_mod (j : Nat) : W (j % 128) = W j := by unfold W; rw [tre_mod, tim_mod]
theorem W_congr {i j : Nat} (h : i % 128 = j % 128) : W i = W j := by rw [← W_mod i, h, W_mod]

theorem sc_val (x : Nat) (n : Int) (h : sc x = some n) : fin x = true ∧ val x = (n : Rat) * pw (-110) := by
  unfold sc at h
  unfold fin val
  revert h
  generalize Ieee.double.read x = d
  intro h
  cases d with
  | infinity s => cases h
  | nan s f => cases h
  | number s m e =>
    simp only at h
    by_cases h0 : m = 0
    · rw [if_pos h0] at h
      cases h
      subst h0
      refine ⟨rfl, ?_⟩
      show sgn s * ((0 : Nat) : Rat) * pw e = ((0 : Int) : Rat) * pw (-110)
      simp
    · rw [if_neg h0] at h
      by_cases h1 : -110 ≤ e
      · rw [if_pos h1] at h
        cases h
        refine ⟨rfl, ?_⟩
        have := signed_place s m e (-110) h1
        rw [show e - -110 = e + 110 by omega] at this
        exact this.symm
      · rw [if_neg h1] at h
        cases h
theorem tab_word (k : Nat) (hk : k < 128) : fin2 (rb (2 * k)) ∧ cx (rb (2 * k)) = W k := by
  have h := allN_at tab_sc k hk
  simp only [Bool.and_eq_true, beq_iff_eq] at h
  obtain ⟨a1, a2⟩ := sc_val _ _ h.1
  obtain ⟨b1, b2⟩ := sc_val _ _ h.2
  refine ⟨⟨a1, b1⟩, ?_⟩
  unfold cx W
  rw [a2, b2]
theorem root_word (m k : Nat) (hm : m ≤ 7) (hk : k < 2 ^ m) : ∃ r, rootAt (2 ^ m) k = some r ∧ fin2 r ∧ cx r = W (k * 2 ^ (7 - m)) := by
  have h3 : k * 2 ^ (7 - m) < 128 := by
    have h4 := Nat.mul_lt_mul_of_pos_right hk (Nat.two_pow_pos (7 - m))
    rwa [← Nat.pow_add, show m + (7 - m) = 7 by omega] at h4
  obtain ⟨h1, h2⟩ := tab_word _ h3
  refine ⟨_, root_tab m k (by omega) hk, ?_⟩
  rw [show k * 2 ^ (8 - m) = 2 * (k * 2 ^ (7 - m)) by rw [show 8 - m = 7 - m + 1 by omega, Nat.pow_succ, ← Nat.mul_assoc, Nat.mul_comm]]
  exact ⟨h1, h2⟩

theorem pw110 : pw (-110) * 1298074214633706907132624082305024 = 1 := by
  have h : pw (-110) * pw ((110 : Nat) : Int) = 1 := by rw [← pw_add]; decide
  rw [pw_nat] at h
  exact h
theorem eps220 : (374144419156711147060143317175368453031918731001856 : Rat) * (pw (-110) * pw (-110)) = eps := by
  have h : pw (-110) * pw (-110) * pw ((168 : Nat) : Int) = eps := by unfold eps; rw [← pw_add, ← pw_add]; rfl
  rw [pw_nat] at h
  have e : ((2 ^ 168 : Nat) : Rat) = 374144419156711147060143317175368453031918731001856 := rfl
  rw [e] at h
  grind
theorem eps110 : (288230376151711744 : Rat) * pw (-110) = eps := by
  have h : pw (-110) * pw ((58 : Nat) : Int) = eps := by unfold eps; rw [← pw_add]; rfl
  rw [pw_nat] at h
  have e : ((2 ^ 58 : Nat) : Rat) = 288230376151711744 := rfl
  rw [e] at h
  grind
theorem W_le (j : Nat) : Lc (W j) 1 := by
  have h := allN_at tab_le (j % 128) (Nat.mod_lt _ (by decide))
  simp only [Bool.and_eq_true, decide_eq_true_eq, tre_mod, tim_mod] at h
  have p := Rat.le_of_lt (pw_pos (-110))
  have q := pw110
  unfold Lc Le W
  have c1 := Rat.mul_le_mul_of_nonneg_right (Rat.intCast_le_intCast.2 h.1.1) p
  have c2 := Rat.mul_le_mul_of_nonneg_right (Rat.intCast_le_intCast.2 h.1.2) p
  have c3 := Rat.mul_le_mul_of_nonneg_right (Rat.intCast_le_intCast.2 h.2.1) p
  have c4 := Rat.mul_le_mul_of_nonneg_right (Rat.intCast_le_intCast.2 h.2.2) p
  have e1 : ((1298074214633706907132624082305024 : Int) : Rat) = 1298074214633706907132624082305024 := rfl
  have e2 : ((-1298074214633706907132624082305024 : Int) : Rat) = -1298074214633706907132624082305024 := rfl
  rw [e1] at c2 c4
  rw [e2] at c1 c3
  generalize pw (-110) = P at *
  grind
theorem clI_rat {x y d : Int} (h : clI x y d = true) (P : Rat) (hP : 0 ≤ P) : (x : Rat) * P - y * P ≤ d * P ∧ (y : Rat) * P - x * P ≤ d * P := by
  unfold clI at h
  rw [decide_eq_true_eq] at h
  have c1 := Rat.mul_le_mul_of_nonneg_right (Rat.intCast_le_intCast.2 h.1) hP
  have c2 := Rat.mul_le_mul_of_nonneg_right (Rat.intCast_le_intCast.2 h.2) hP
  rw [Rat.intCast_sub] at c1 c2
  grind
theorem W_mul (i j : Nat) : Nc (W i * W j) (W (i + j)) (6 * eps) := by
  have h := tab_mul (i % 128) (j % 128) (Nat.mod_lt _ (by decide)) (Nat.mod_lt _ (by decide))
  unfold mulOk at h
  have e : tre ((i % 128 + j % 128)) = tre (i + j) ∧ tim ((i % 128 + j % 128)) = tim (i + j) := by
    rw [← tre_mod (i % 128 + j % 128), ← tim_mod (i % 128 + j % 128), ← Nat.add_mod, tre_mod, tim_mod]
    exact ⟨rfl, rfl⟩
  rw [e.1, e.2, tre_mod, tre_mod, tim_mod, tim_mod, Bool.and_eq_true] at h
  have hp := Rat.le_of_lt (Rat.mul_pos (pw_pos (-110)) (pw_pos (-110)))
  have c1 := clI_rat h.1 _ hp
  have c2 := clI_rat h.2 _ hp
  have q := pw110
  have q2 := eps220
  rw [Rat.intCast_mul 6] at c1 c2
  rw [Rat.intCast_sub, Rat.intCast_mul, Rat.intCast_mul, Rat.intCast_mul] at c1
  rw [Rat.intCast_add, Rat.intCast_mul, Rat.intCast_mul, Rat.intCast_mul] at c2
  have e1 : ((1298074214633706907132624082305024 : Int) : Rat) = 1298074214633706907132624082305024 := rfl
  have e2 : ((374144419156711147060143317175368453031918731001856 : Int) : Rat) = 374144419156711147060143317175368453031918731001856 := rfl
  have e3 : ((6 : Int) : Rat) = 6 := rfl
  rw [e1, e2, e3] at c1 c2
  unfold Nc Lc Le W
  simp only [Cx.sub_re, Cx.sub_im, Cx.mul_re, Cx.mul_im]
  generalize pw (-110) = P at *
  have r1 : 1298074214633706907132624082305024 * (tre (i + j) : Rat) * (P * P) = tre (i + j) * P := by grind
  have r2 : 1298074214633706907132624082305024 * (tim (i + j) : Rat) * (P * P) = tim (i + j) * P := by grind
  have r3 : (6 : Rat) * 374144419156711147060143317175368453031918731001856 * (P * P) = 6 * eps := by grind
  rw [r1, r3] at c1
  rw [r2, r3] at c2
  generalize eps = E at *
  grind
theorem sumI_re (n : Nat) (f g : Nat → Int) : (cs n fun k => (⟨(f k : Rat) * pw (-110), (g k : Rat) * pw (-110)⟩ : Cx)).re = (sumI n f : Rat) * pw (-110) ∧
    (cs n fun k => (⟨(f k : Rat) * pw (-110), (g k : Rat) * pw (-110)⟩ : Cx)).im = (sumI n g : Rat) * pw (-110) := by
  induction n with
  | zero =>
    constructor
    · show (0 : Rat) = ((0 : Int) : Rat) * _
      simp
    · show (0 : Rat) = ((0 : Int) : Rat) * _
      simp
  | succ n ih =>
    simp only [cs, sumI, Cx.add_re, Cx.add_im, ih.1, ih.2, Rat.intCast_add]
    constructor <;> grind
theorem W_sum0 (m c : Nat) (hm : m ≤ 7) (hc : c < 2 ^ m) : Nc (cs (2 ^ m) fun k => W (k * c * 2 ^ (7 - m))) (if c = 0 then ⟨((2 ^ m : Nat) : Rat), 0⟩ else 0) (36 * eps) := by
  have h := tab_sum m c (by omega) hc
  rw [Bool.and_eq_true] at h
  have hp := Rat.le_of_lt (pw_pos (-110))
  have c1 := clI_rat h.1 _ hp
  have c2 := clI_rat h.2 _ hp
  obtain ⟨s1, s2⟩ := sumI_re (2 ^ m) (fun k => tre (k * c * 2 ^ (7 - m))) (fun k => tim (k * c * 2 ^ (7 - m)))
  have q := pw110
  have q2 := eps110
  have e2 : (((36 * 288230376151711744 : Int)) : Rat) = 36 * 288230376151711744 := by rw [Rat.intCast_mul]; rfl
  rw [e2] at c1 c2
  have r3 : (36 : Rat) * 288230376151711744 * pw (-110) = 36 * eps := by grind
  rw [r3] at c1 c2
  unfold Nc Lc Le
  rw [Cx.sub_re, Cx.sub_im]
  unfold W
  rw [s1, s2]
  have z : ((0 : Int) : Rat) = 0 := rfl
  rw [z] at c2
  by_cases h0 : c = 0
  · rw [if_pos h0] at c1 ⊢
    rw [Rat.intCast_mul] at c1
    have e1 : ((1298074214633706907132624082305024 : Int) : Rat) = 1298074214633706907132624082305024 := rfl
    rw [e1, Rat.intCast_natCast] at c1
    generalize pw (-110) = P at *
    generalize eps = E at *
    have r1 : 1298074214633706907132624082305024 * ((2 ^ m : Nat) : Rat) * P = ((2 ^ m : Nat) : Rat) := by grind
    rw [r1] at c1
    simp only
    grind
  · rw [if_neg h0] at c1 ⊢
    rw [z] at c1
    rw [Cx.zero_re, Cx.zero_im]
    generalize pw (-110) = P at *
    generalize eps = E at *
    grind
theorem W_sum (m c : Nat) (hm : m ≤ 7) : Nc (cs (2 ^ m) fun k => W (k * c * 2 ^ (7 - m))) (if c % 2 ^ m = 0 then ⟨((2 ^ m : Nat) : Rat), 0⟩ else 0) (36 * eps) := by
  have h := W_sum0 m (c % 2 ^ m) hm (Nat.mod_lt _ (Nat.two_pow_pos m))
  rw [cs_congr (g := fun k => W (k * (c % 2 ^ m) * 2 ^ (7 - m)))]
  · exact h
  · intro k _
    apply W_congr
    have e : 2 ^ m * 2 ^ (7 - m) = 128 := by rw [← Nat.pow_add, show m + (7 - m) = 7 by omega]
    have := Nat.div_add_mod c (2 ^ m)
    generalize c % 2 ^ m = r at *
    generalize c / 2 ^ m = q at *
    rw [← this, Nat.mul_add, Nat.add_mul, show k * (2 ^ m * q) * 2 ^ (7 - m) = 128 * (k * q) by rw [← e]; grind, Nat.mul_add_mod]
end Go.Proofs.YtijbjncdiojpdaaDoor
