/- dft.check and dft.Multiply of any two lists. -/
import Derived.Test.YtijbjncdiojpdaaDoorFConv
namespace Go.Proofs.YtijbjncdiojpdaaDoor
open Go.RowKit
attribute [local go_sem ↓] add_UU sub_UU mul_UU add_UL add_LU sub_UL sub_LU mul_UL neg_at not_at and_UU or_UU xor_UU andNot_UU and_UL or_LU shr_UL shl_UL shr_UN shl_UN quo_UL rem_UL quo_UU rem_UU
attribute [local go_sem] wrap8_U wrap32_U wrap64_B wrap32_B wrap8_D wrapi_B wrap64_UU eq_UU ne_UU eq_UL ne_UL lt_UU le_UU
attribute [local go_sem ↓] run_fadd run_fsub run_fmul run_fquo
attribute [local go_sem] fRes_some unary_neg_f run_store_complex run_store_float

/-- The value v is a slice of l integers, A 0, A 1, .. -/
def Ints (w : World) (v : Value) (l : Nat) (A : Nat → Int) : Prop := (l = 0 ∧ ∃ a cap, v = .slice a 0 cap) ∨ ∃ b off cap, v = .slice (some ⟨b, off, none⟩) l cap ∧ ∀ i, i < l → w.cell? ⟨b, off + i, none⟩ = some (.int .i64 (A i))
theorem Ints.form {w : World} {v : Value} {l : Nat} {A : Nat → Int} (h : Ints w v l A) : ∃ a cap, v = .slice a l cap := by
  rcases h with ⟨rfl, a, cap, rfl⟩ | ⟨b, off, cap, rfl, _⟩
  · exact ⟨a, cap, rfl⟩
  · exact ⟨_, _, rfl⟩
theorem Ints.below {w w' : World} {v : Value} {l : Nat} {A : Nat → Int} (h : Ints w v l A) (hb : Below w.heap.size w w') : Ints w' v l A := by
  rcases h with h | ⟨b, off, cap, rfl, h⟩
  · exact .inl h
  · exact .inr ⟨b, off, cap, rfl, fun i hi => (hb.cell (p := ⟨b, off + i, none⟩) (World.block_lt_of_cell? w _ (h i hi))).trans (h i hi)⟩
/-- One of the numbers is out of range. -/
def bad (A : Nat → Int) : Nat → Bool
  | 0 => false
  | l + 1 => bad A l || outB (A l)
theorem bad_false {A : Nat → Int} {l : Nat} (h : bad A l = false) (i : Nat) (hi : i < l) : outB (A i) = false := by
  induction l with
  | zero => omega
  | succ l ih =>
    simp only [bad, Bool.or_eq_false_iff] at h
    by_cases e : i = l
    · rw [e]; exact h.2
    · exact ih h.1 (by omega)
theorem bad_of {A : Nat → Int} {l : Nat} (h : ∀ i, i < l → outB (A i) = false) : bad A l = false := by
  induction l with
  | zero => rfl
  | succ l ih =>
    simp only [bad, Bool.or_eq_false_iff]
    exact ⟨ih fun i hi => h i (by omega), h l (by omega)⟩
theorem bad_true {A : Nat → Int} {l i : Nat} (hi : i < l) (h : outB (A i) = true) : bad A l = true := by
  cases hb : bad A l with
  | true => rfl
  | false => rw [bad_false hb i hi] at h; cases h

theorem indexAny (v : Value) (l : Nat) (A : Nat → Int) (hl : l ≤ 1000) (w : World) (hA : Ints w v l A) :
    Calls Tryd.prog 43 #[v, .func (.func 31) #[] #[]] w fun e w' => (∃ r : Int, e = .returned (.int .i64 r) ∧ (decide (0 ≤ r) = bad A l)) ∧ w = w' := by
  rcases hA with ⟨rfl, a, cap, rfl⟩ | ⟨b, off, cap, rfl, hA⟩
  · go_enter Tryd.func43, Tryd.ntmps43
    go_wp2
    go_loop [8] (fun j => j = .int .i64 0) (fun j => 0)
    case atStart => rfl
    case round =>
      subst hrel
      go_wp2
      go_ret
      exact ⟨⟨-1, rfl, rfl⟩, rfl⟩
  have HA := Lib.hid hA
  clear hA
  go_enter Tryd.func43, Tryd.ntmps43
  go_wp2
  go_loop [8] (fun j => ∃ k : Nat, k ≤ l ∧ j = .int .i64 k ∧ Hid (∀ i, i < k → outB (A i) = false)) (fun j => l - (intOf j).toNat)
  case atStart => exact ⟨0, by omega, rfl, Lib.hid fun i hi => by omega⟩
  case round =>
    obtain ⟨k, hk, rfl, HP⟩ := hrel
    have k0 : (0 : Int) ≤ (k : Int) := Int.natCast_nonneg k
    by_cases hlt : k < l
    · have hlt' : (k : Int) < (l : Int) := by omega
      have ck := HA.out k hlt
      have HF := Lib.hid (outWalk (A k))
      cases ho : outB (A k)
      · rw [ho] at HF
        have HO := Lib.hid ho
        clear ho
        go_wp2_with fail
        refine (HF.out _).mono ?_
        rintro e w1 ⟨rfl, rfl⟩
        go_wp2
        go_round
        case rel => exact ⟨k + 1, by omega, by go_num, Lib.hid fun i hi => by
          by_cases e : i = k
          · rw [e]; exact HO.out
          · exact HP.out i (by omega)⟩
        case measure => simp [intOf]; omega
      · rw [ho] at HF
        have HO := Lib.hid (bad_true hlt ho)
        clear ho
        go_wp2_with fail
        refine (HF.out _).mono ?_
        rintro e w1 ⟨rfl, rfl⟩
        go_wp2
        go_ret
        exact ⟨⟨k, rfl, by rw [HO.out]; simp⟩, rfl⟩
    · obtain rfl : k = l := by omega
      go_wp2
      go_ret
      exact ⟨⟨-1, rfl, by rw [bad_of HP.out]; rfl⟩, rfl⟩

theorem containsAny (v : Value) (l : Nat) (A : Nat → Int) (hl : l ≤ 1000) (w : World) (hA : Ints w v l A) :
    Calls Tryd.prog 30 #[v, .func (.func 31) #[] #[]] w fun e w' => e = .returned (.bool (bad A l)) ∧ w = w' := by
  have HI := Lib.hid (indexAny v l A hl w hA)
  clear hA
  go_enter Tryd.func30, Tryd.ntmps30
  go_wp2_with fail
  refine HI.out.mono ?_
  rintro e w1 ⟨⟨r, rfl, hr⟩, rfl⟩
  have HR := Lib.hid hr
  clear hr
  go_wp2
  go_ret
  exact ⟨by rw [← HR.out]; rfl, rfl⟩

/-- The error of two lists. -/
def mulE (A B : Nat → Int) (la lb : Nat) : Int := if 64 < la ∨ 64 < lb then 8 else if bad A la = true ∨ bad B lb = true then 19 else 0
theorem mulE_a {A B : Nat → Int} {la lb : Nat} (h : 64 < la) : mulE A B la lb = 8 := by unfold mulE; rw [if_pos (.inl h)]
theorem mulE_b {A B : Nat → Int} {la lb : Nat} (h : 64 < lb) : mulE A B la lb = 8 := by unfold mulE; rw [if_pos (.inr h)]
theorem mulE_in {A B : Nat → Int} {la lb : Nat} (ha : la ≤ 64) (hb : lb ≤ 64) : mulE A B la lb = if (bad A la || bad B lb) = true then 19 else 0 := by
  unfold mulE
  rw [if_neg (by omega)]
  simp only [Bool.or_eq_true]

theorem checkAny (V : Nat) (va vb : Value) (A B : Nat → Int) (la lb : Nat) (w : World) (h0 : w.cell? ⟨V, 0, none⟩ = some va) (h1 : w.cell? ⟨V, 1, none⟩ = some vb) (hA : Ints w va la A) (hB : Ints w vb lb B)
    (sa : la * 8 ≤ 140737488351232) (sb : lb * 8 ≤ 140737488351232) :
    Calls Tryd.prog 21 #[.slice (some ⟨V, 0, none⟩) 2 2] w fun e w' => e = .returned (.int .i64 (mulE A B la lb)) ∧ w = w' := by
  obtain ⟨a, ca, rfl⟩ := hA.form
  obtain ⟨b, cb, rfl⟩ := hB.form
  have s1 : (la : Int) ≤ 17592186043904 := by omega
  have s2 : (lb : Int) ≤ 17592186043904 := by omega
  by_cases ha : la ≤ 64
  · have HA := Lib.hid (containsAny _ la A (by omega) w hA)
    have ia : (la : Int) ≤ 64 := by omega
    by_cases hb : lb ≤ 64
    · have HB := Lib.hid (containsAny _ lb B (by omega) w hB)
      have ib : (lb : Int) ≤ 64 := by omega
      rw [mulE_in ha hb]
      generalize bad A la = x at *
      generalize bad B lb = y at *
      clear hA hB
      go_enter Tryd.func21, Tryd.ntmps21
      go_wp2
      go_loop [3, 8] (fun e j => (e = .int .i64 0 ∧ j = .int .i64 0) ∨ (j = .int .i64 1 ∧ e = .int .i64 (if x = true then 19 else 0)) ∨ (j = .int .i64 2 ∧ e = .int .i64 (if (x || y) = true then 19 else 0))) (fun _ j => 2 - (intOf j).toNat)
      case atStart => exact .inl ⟨rfl, rfl⟩
      case round =>
        rcases hrel with ⟨rfl, rfl⟩ | ⟨rfl, rfl⟩ | ⟨rfl, rfl⟩
        · cases x
          all_goals
            go_wp2_with fail
            refine HA.out.mono ?_
            rintro e w1 ⟨rfl, rfl⟩
            go_wp2
            go_round
            case rel => exact .inr (.inl ⟨rfl, rfl⟩)
            case measure => simp [intOf]
        · cases x <;> cases y
          all_goals
            go_wp2_with fail
            refine HB.out.mono ?_
            rintro e w1 ⟨rfl, rfl⟩
            go_wp2
            go_round
            case rel => exact .inr (.inr ⟨rfl, rfl⟩)
            case measure => simp [intOf]
        · cases x <;> cases y
          all_goals
            go_wp2
            go_ret
            exact ⟨rfl, rfl⟩
    · have ib : (64 : Int) < (lb : Int) := by omega
      rw [mulE_b (by omega)]
      generalize bad A la = x at *
      clear hA hB
      go_enter Tryd.func21, Tryd.ntmps21
      go_wp2
      go_loop [3, 8] (fun e j => (e = .int .i64 0 ∧ j = .int .i64 0) ∨ (j = .int .i64 1 ∧ e = .int .i64 (if x = true then 19 else 0))) (fun _ j => 2 - (intOf j).toNat)
      case atStart => exact .inl ⟨rfl, rfl⟩
      case round =>
        rcases hrel with ⟨rfl, rfl⟩ | ⟨rfl, rfl⟩
        · cases x
          all_goals
            go_wp2_with fail
            refine HA.out.mono ?_
            rintro e w1 ⟨rfl, rfl⟩
            go_wp2
            go_round
            case rel => exact .inr ⟨rfl, rfl⟩
            case measure => simp [intOf]
        · cases x
          all_goals
            go_wp2
            go_ret
            exact ⟨rfl, rfl⟩
  · have ia : (64 : Int) < (la : Int) := by omega
    rw [mulE_a (by omega)]
    clear hA hB
    go_enter Tryd.func21, Tryd.ntmps21
    go_wp2
    go_loop [3, 8] (fun e j => e = .int .i64 0 ∧ j = .int .i64 0) (fun _ j => 2 - (intOf j).toNat)
    case atStart => exact ⟨rfl, rfl⟩
    case round =>
      obtain ⟨rfl, rfl⟩ := hrel
      go_wp2
      go_ret
      exact ⟨rfl, rfl⟩

/-- The length of the product. -/
def mulL (A B : Nat → Int) (la lb : Nat) : Nat := if mulE A B la lb = 0 ∧ la ≠ 0 ∧ lb ≠ 0 then la + lb - 1 else 0
def MulPost (w : World) (A B : Nat → Int) (la lb : Nat) : Ending → World → Prop := fun e w' => ∃ v, e = .returned (.tuple #[v, .int .i64 (mulE A B la lb)]) ∧ Ints w' v (mulL A B la lb) (convI A B la lb) ∧ Below w.heap.size w w'
theorem mulE_zero {A B : Nat → Int} {la lb : Nat} (h : mulE A B la lb = 0) : la ≤ 64 ∧ lb ≤ 64 ∧ bad A la = false ∧ bad B lb = false := by
  unfold mulE at h
  by_cases h1 : 64 < la ∨ 64 < lb
  · rw [if_pos h1] at h; cases h
  · rw [if_neg h1] at h
    by_cases h2 : bad A la = true ∨ bad B lb = true
    · rw [if_pos h2] at h; cases h
    · simp only [not_or, Bool.not_eq_true] at h2
      exact ⟨by omega, by omega, h2.1, h2.2⟩
theorem mulE_cases (A B : Nat → Int) (la lb : Nat) : mulE A B la lb = 0 ∨ mulE A B la lb = 8 ∨ mulE A B la lb = 19 := by
  unfold mulE
  split
  · exact .inr (.inl rfl)
  · split
    · exact .inr (.inr rfl)
    · exact .inl rfl

set_option maxHeartbeats 2000000 in
theorem multiplyAny (va vb : Value) (A B : Nat → Int) (la lb : Nat) (w : World) (ht : Tabs w) (hg : 2 < w.heap.size) (hA : Ints w va la A) (hB : Ints w vb lb B) (sa : la * 8 ≤ 140737488351232) (sb : lb * 8 ≤ 140737488351232) :
    Calls Tryd.prog 9 #[va, vb] w (MulPost w A B la lb) := by
  by_cases hok : mulE A B la lb = 0 ∧ la ≠ 0 ∧ lb ≠ 0
  · obtain ⟨h0, h1, h2⟩ := hok
    obtain ⟨c1, c2, c3, c4⟩ := mulE_zero h0
    rcases hA with ⟨rfl, _⟩ | ⟨b, off, cap, rfl, hA⟩
    · exact absurd rfl h1
    rcases hB with ⟨rfl, _⟩ | ⟨b', off', cap', rfl, hB⟩
    · exact absurd rfl h2
    obtain ⟨m, Xa, Xb, Z, V, hP⟩ := prod_ok A B la lb (by omega) c1 (by omega) c2 (bad_false c3) (bad_false c4)
    refine (multiply A B la lb m Xa Xb Z V _ hP b off cap b' off' cap' w ht hg hA hB).mono ?_
    rintro e w' ⟨g, rfl, hge, hrow, hb⟩
    refine ⟨_, by rw [h0], ?_, hb⟩
    have hL : mulL A B la lb = la + lb - 1 := by unfold mulL; rw [if_pos ⟨h0, h1, h2⟩]
    rw [hL]
    exact .inr ⟨g, 0, _, rfl, fun i hi => by rw [Nat.zero_add]; exact hrow.cell i hi⟩
  · obtain ⟨T, hT⟩ : ∃ T, T = w.alloc (.cells #[va, vb] 22) := ⟨_, rfl⟩
    have hTb : Below w.heap.size w T := by rw [hT]; exact (Below.refl _ w).alloc (Nat.le_refl _) _
    have HCk := Lib.hid (checkAny w.heap.size va vb A B la lb T (by rw [hT]; unfold World.cell?; simp only []; rw [heap_alloc_new]; rfl) (by rw [hT]; unfold World.cell?; simp only []; rw [heap_alloc_new]; rfl) (hA.below hTb) (hB.below hTb) sa sb)
    have hL : mulL A B la lb = 0 := by unfold mulL; rw [if_neg hok]
    have HP := Lib.hid (show ∀ (a : Option Addr) (cap : Nat), Ints T (.slice a 0 cap) (mulL A B la lb) (convI A B la lb) ∧ Below w.heap.size w T from fun a cap => ⟨.inl ⟨hL, _, _, rfl⟩, hTb⟩)
    unfold MulPost
    have HE := Lib.hid hT
    obtain ⟨a, ca, rfl⟩ := hA.form
    obtain ⟨b, cb, rfl⟩ := hB.form
    have s1 : (la : Int) ≤ 17592186043904 := by omega
    have s2 : (lb : Int) ≤ 17592186043904 := by omega
    clear hT hTb hA hB ht hg hL sa sb
    have hm := mulE_cases A B la lb
    rcases (show mulE A B la lb ≠ 0 ∨ (mulE A B la lb = 0 ∧ la = 0) ∨ (mulE A B la lb = 0 ∧ la ≠ 0 ∧ lb = 0) by by_cases h1 : mulE A B la lb = 0; by_cases h2 : la = 0; exact .inr (.inl ⟨h1, h2⟩); exact .inr (.inr ⟨h1, h2, by by_cases h3 : lb = 0; exact h3; exact absurd ⟨h1, h2, h3⟩ hok⟩); exact .inl h1) with h | ⟨h, rfl⟩ | ⟨h, h2, rfl⟩
    · clear hok
      generalize mulE A B la lb = E at *
      have h' : (E == 0) = false := by rw [beq_eq_false_iff_ne]; exact h
      have h'' : (E != 0) = true := by rw [bne_iff_ne]; exact h
      have e0 : 0 ≤ E := by omega
      have e1 : E ≤ 19 := by omega
      clear hm
      go_enter Tryd.func9, Tryd.ntmps9
      go_wp2_with fail
      rw [← HE.out]
      refine HCk.out.mono ?_
      rintro e w1 ⟨rfl, rfl⟩
      clear HCk
      go_wp2
      go_ret2
      exact ⟨_, rfl, HP.out none 0⟩
    · clear hok hm
      rw [h] at HCk ⊢
      clear h
      go_enter Tryd.func9, Tryd.ntmps9
      go_wp2_with fail
      rw [← HE.out]
      refine HCk.out.mono ?_
      rintro e w1 ⟨rfl, rfl⟩
      clear HCk
      go_wp2
      go_ret2
      exact ⟨_, rfl, HP.out none 0⟩
    · clear hok hm
      rw [h] at HCk ⊢
      have hla0 : ((la : Int) == 0) = false := by rw [beq_eq_false_iff_ne]; omega
      clear h h2
      go_enter Tryd.func9, Tryd.ntmps9
      go_wp2_with fail
      rw [← HE.out]
      refine HCk.out.mono ?_
      rintro e w1 ⟨rfl, rfl⟩
      clear HCk
      go_wp2
      go_ret2
      exact ⟨_, rfl, HP.out none 0⟩
end Go.Proofs.YtijbjncdiojpdaaDoor
