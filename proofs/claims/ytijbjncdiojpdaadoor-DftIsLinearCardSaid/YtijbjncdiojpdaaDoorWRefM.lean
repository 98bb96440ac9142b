/- The reference's Multiply; slices.Equal at []int. -/
import Derived.Test.YtijbjncdiojpdaaDoorWMult2
namespace Go.Proofs.YtijbjncdiojpdaaDoor
open Go.RowKit
attribute [local go_sem ↓] add_UU sub_UU mul_UU add_UL add_LU sub_UL sub_LU mul_UL neg_at not_at and_UU or_UU xor_UU andNot_UU and_UL or_LU shr_UL shl_UL shr_UN shl_UN quo_UL rem_UL quo_UU rem_UU
attribute [local go_sem] wrap8_U wrap32_U wrap64_B wrap32_B wrap8_D wrapi_B wrap64_UU eq_UU ne_UU eq_UL ne_UL lt_UU le_UU
attribute [local go_sem ↓] run_fadd run_fsub run_fmul run_fquo
attribute [local go_sem] fRes_some unary_neg_f run_store_complex run_store_float

theorem equalInts (va vb : Value) (l : Nat) (A : Nat → Int) (hl : l ≤ 1000) (w : World) (hA : Ints w va l A) (hB : Ints w vb l A) :
    Calls Tryd.prog 12 #[va, vb] w fun e w' => e = .returned (.bool true) ∧ Below w.heap.size w w' := by
  by_cases h0 : l = 0
  · subst h0
    obtain ⟨a, ca, rfl⟩ := hA.form
    obtain ⟨b, cb, rfl⟩ := hB.form
    clear hA hB
    go_enter Tryd.func12, Tryd.ntmps12
    go_wp2
    go_loop [13] (fun j => j = .int .i64 0) (fun j => 0)
    case atStart => rfl
    case round =>
      subst hrel
      go_wp2
      go_ret
      exact ⟨rfl, Below.refl _ _⟩
  rcases hA with ⟨h, _⟩ | ⟨b, off, cap, rfl, hA⟩
  · exact absurd h h0
  rcases hB with ⟨h, _⟩ | ⟨b', off', cap', rfl, hB⟩
  · exact absurd h h0
  have HC := Lib.hid hA
  have HC' := Lib.hid hB
  clear hA hB h0
  go_enter Tryd.func12, Tryd.ntmps12
  go_wp2
  go_loopw [13] (fun i wr => ∃ k : Nat, k ≤ l ∧ i = .int .i64 k ∧ Below w.heap.size w wr) (fun i _ => l - (intOf i).toNat)
  case atStart => exact ⟨0, Nat.zero_le _, rfl, Below.refl _ _⟩
  case round =>
    obtain ⟨k, hk, rfl, hb⟩ := hrel
    have h0 : (0 : Int) ≤ (k : Int) := Int.natCast_nonneg k
    by_cases hlt : k < l
    · have c1 := (hb.cell (p := ⟨b, off + k, none⟩) (World.block_lt_of_cell? w _ (HC.out k hlt))).trans (HC.out k hlt)
      have c2 := (hb.cell (p := ⟨b', off' + k, none⟩) (World.block_lt_of_cell? w _ (HC'.out k hlt))).trans (HC'.out k hlt)
      have h1 : (k : Int) < (l : Int) := by omega
      go_wp2
      go_quiet (fail)
      go_wp2
      refine ⟨⟨k + 1, by omega, by go_num, below_drewN hb _⟩, by simp [intOf]; omega⟩
    · obtain rfl : k = l := by omega
      go_wp2
      go_ret
      exact ⟨rfl, hb⟩

/-- The product, while row i is added: j of its terms are. -/
def convP (A B : Nat → Int) (lb i j : Nat) (c : Nat) : Int := sumI i (fun a => if a ≤ c ∧ c - a < lb then A a * B (c - a) else 0) + (if i ≤ c ∧ c - i < j then A i * B (c - i) else 0)
theorem convP_zero (A B : Nat → Int) (lb c : Nat) : convP A B lb 0 0 c = 0 := by
  unfold convP
  rw [if_neg (by omega)]
  rfl
theorem convP_row (A B : Nat → Int) (lb i c : Nat) : convP A B lb i lb c = convP A B lb (i + 1) 0 c := by
  unfold convP
  rw [sumI, if_neg (c := i + 1 ≤ c ∧ c - (i + 1) < 0) (by omega)]
  omega
theorem convP_step (A B : Nat → Int) (lb i j c : Nat) : convP A B lb i (j + 1) c = if c = i + j then convP A B lb i j (i + j) + A i * B j else convP A B lb i j c := by
  by_cases h : c = i + j
  · subst h
    rw [if_pos rfl]
    unfold convP
    rw [if_pos (by omega), if_neg (c := i ≤ i + j ∧ i + j - i < j) (by omega), show i + j - i = j by omega]
    omega
  · rw [if_neg h]
    unfold convP
    by_cases h1 : i ≤ c ∧ c - i < j
    · rw [if_pos h1, if_pos (by omega)]
    · rw [if_neg h1, if_neg (by omega)]
theorem convP_end (A B : Nat → Int) (la lb c : Nat) : convP A B lb la 0 c = convI A B la lb c := by
  unfold convP convI
  rw [if_neg (by omega)]
  omega
theorem term_le {A B : Nat → Int} {la lb i j : Nat} (hA : bad A la = false) (hB : bad B lb = false) (hi : i < la) (hj : j < lb) : -1000000 ≤ A i * B j ∧ A i * B j ≤ 1000000 := by
  have ha := bad_false hA i hi
  have hb := bad_false hB j hj
  unfold outB at ha hb
  rw [Bool.or_eq_false_iff, decide_eq_false_iff_not, decide_eq_false_iff_not] at ha hb
  have m1 := Int.mul_nonneg (show 0 ≤ 1000 - A i by omega) (show 0 ≤ 1000 + B j by omega)
  have m2 := Int.mul_nonneg (show 0 ≤ 1000 + A i by omega) (show 0 ≤ 1000 - B j by omega)
  have m3 := Int.mul_nonneg (show 0 ≤ 1000 - A i by omega) (show 0 ≤ 1000 - B j by omega)
  have m4 := Int.mul_nonneg (show 0 ≤ 1000 + A i by omega) (show 0 ≤ 1000 + B j by omega)
  generalize B j = b at *
  generalize A i = a at *
  grind
theorem convP_le {A B : Nat → Int} {la lb i j : Nat} (hA : bad A la = false) (hB : bad B lb = false) (hl : la ≤ 64) (hi : i < la) (hj : j ≤ lb) (c : Nat) : -65000000 ≤ convP A B lb i j c ∧ convP A B lb i j c ≤ 65000000 := by
  have key : ∀ n, n ≤ la → -(1000000 * (n : Int)) ≤ sumI n (fun a => if a ≤ c ∧ c - a < lb then A a * B (c - a) else 0) ∧ sumI n (fun a => if a ≤ c ∧ c - a < lb then A a * B (c - a) else 0) ≤ 1000000 * (n : Int) := by
    intro n
    induction n with
    | zero => intro _; simp [sumI]
    | succ n ih =>
      intro hn
      obtain ⟨i1, i2⟩ := ih (by omega)
      rw [sumI]
      by_cases h : n ≤ c ∧ c - n < lb
      · rw [if_pos h]
        have := term_le hA hB (show n < la by omega) h.2
        omega
      · rw [if_neg h]
        omega
  have k1 := key i (by omega)
  unfold convP
  by_cases h : i ≤ c ∧ c - i < j
  · rw [if_pos h]
    have := term_le hA hB hi (show c - i < lb by omega)
    omega
  · rw [if_neg h]
    omega

set_option maxRecDepth 100000 in
set_option maxHeartbeats 4000000 in
/-- The reference's Multiply. -/
theorem refMultiply (va vb : Value) (A B : Nat → Int) (la lb : Nat) (w : World) (hA : Ints w va la A) (hB : Ints w vb lb B) (sa : la * 8 ≤ 140737488351232) (sb : lb * 8 ≤ 140737488351232) :
    Calls Tryd.prog 10 #[va, vb] w (MulPost w A B la lb) := by
  have HN := Lib.hid (show ∀ E : Int, E ≠ 0 → mulE A B la lb = E → ∀ (a : Option Addr) (cap : Nat), Ints w (.slice a 0 cap) (mulL A B la lb) (convI A B la lb) ∧ Below w.heap.size w w from fun E h0 h a cap => ⟨.inl ⟨by unfold mulL; rw [if_neg (fun h2 => h0 (h.symm.trans h2.1))], _, _, rfl⟩, Below.refl _ _⟩)
  have HN2 := Lib.hid (show la = 0 ∨ lb = 0 → ∀ (a : Option Addr) (cap : Nat), Ints w (.slice a 0 cap) (mulL A B la lb) (convI A B la lb) ∧ Below w.heap.size w w from fun h a cap => ⟨.inl ⟨by unfold mulL; rw [if_neg (by omega)], _, _, rfl⟩, Below.refl _ _⟩)
  unfold MulPost
  have HA := Lib.hid hA
  have HB := Lib.hid hB
  obtain ⟨a, ca, rfl⟩ := hA.form
  obtain ⟨b, cb, rfl⟩ := hB.form
  have s1 : (la : Int) ≤ 17592186043904 := by omega
  have s2 : (lb : Int) ≤ 17592186043904 := by omega
  clear hA hB sa sb
  by_cases ha : la ≤ 64
  · have ia : (la : Int) ≤ 64 := by omega
    by_cases hb : lb ≤ 64
    · have ib : (lb : Int) ≤ 64 := by omega
      have HE := Lib.hid (mulE_in (A := A) (B := B) ha hb)
      go_enter Tryd.func10, Tryd.ntmps10
      go_wp2
      go_loop [6] (fun j => ∃ k : Nat, k ≤ la ∧ j = .int .i64 k ∧ Hid (∀ i, i < k → outB (A i) = false)) (fun j => la - (intOf j).toNat)
      case atStart => exact ⟨0, by omega, rfl, Lib.hid fun i hi => by omega⟩
      case round =>
        obtain ⟨k, hk, rfl, HP⟩ := hrel
        have k0 : (0 : Int) ≤ (k : Int) := Int.natCast_nonneg k
        by_cases hlt : k < la
        · have hlt' : (k : Int) < (la : Int) := by omega
          obtain ⟨bk, ok, ck, hsl, hcl⟩ : ∃ bk ok ck, Value.slice a la ca = .slice (some ⟨bk, ok, none⟩) la ck ∧ w.cell? ⟨bk, ok + k, none⟩ = some (.int .i64 (A k)) := by
            rcases HA.out with ⟨h, _⟩ | ⟨b1, o1, c1, h1, h2⟩
            · omega
            · exact ⟨b1, o1, c1, h1, h2 k hlt⟩
          cases hsl
          rcases (show A k < -1000 ∨ (-1000 ≤ A k ∧ 1000 < A k) ∨ (-1000 ≤ A k ∧ A k ≤ 1000) by omega) with h | ⟨h, h2⟩ | ⟨h, h2⟩
          · have HX := Lib.hid (show mulE A B la lb = 19 by rw [HE.out, bad_true hlt (show outB (A k) = true by unfold outB; simp [h])]; rfl)
            go_wp2
            go_ret2
            exact ⟨_, by rw [HX.out]; rfl, HN.out 19 (by decide) HX.out none 0⟩
          · have HX := Lib.hid (show mulE A B la lb = 19 by rw [HE.out, bad_true hlt (show outB (A k) = true by unfold outB; simp [h2])]; rfl)
            go_wp2
            go_ret2
            exact ⟨_, by rw [HX.out]; rfl, HN.out 19 (by decide) HX.out none 0⟩
          · go_wp2
            go_round
            case rel => exact ⟨k + 1, by omega, by go_num, Lib.hid fun i hi => by
              by_cases e : i = k
              · rw [e]; unfold outB; simp; omega
              · exact HP.out i (by omega)⟩
            case measure => simp [intOf]; omega
        · obtain rfl : k = la := by omega
          have HbA := Lib.hid (bad_of HP.out)
          clear HP
          go_wp2
          go_loop [7] (fun j => ∃ q : Nat, q ≤ lb ∧ j = .int .i64 q ∧ Hid (∀ i, i < q → outB (B i) = false)) (fun j => lb - (intOf j).toNat)
          case atStart => exact ⟨0, by omega, rfl, Lib.hid fun i hi => by omega⟩
          case round =>
            obtain ⟨q, hq, rfl, HP⟩ := hrel
            have q0 : (0 : Int) ≤ (q : Int) := Int.natCast_nonneg q
            by_cases hlt : q < lb
            · have hlt' : (q : Int) < (lb : Int) := by omega
              obtain ⟨bk, ok, ck, hsl, hcl⟩ : ∃ bk ok ck, Value.slice b lb cb = .slice (some ⟨bk, ok, none⟩) lb ck ∧ w.cell? ⟨bk, ok + q, none⟩ = some (.int .i64 (B q)) := by
                rcases HB.out with ⟨h, _⟩ | ⟨b1, o1, c1, h1, h2⟩
                · omega
                · exact ⟨b1, o1, c1, h1, h2 q hlt⟩
              cases hsl
              rcases (show B q < -1000 ∨ (-1000 ≤ B q ∧ 1000 < B q) ∨ (-1000 ≤ B q ∧ B q ≤ 1000) by omega) with h | ⟨h, h2⟩ | ⟨h, h2⟩
              · have HX := Lib.hid (show mulE A B k lb = 19 by rw [HE.out, bad_true (l := lb) hlt (show outB (B q) = true by unfold outB; simp [h]), Bool.or_true]; rfl)
                go_wp2
                go_ret2
                exact ⟨_, by rw [HX.out]; rfl, HN.out 19 (by decide) HX.out none 0⟩
              · have HX := Lib.hid (show mulE A B k lb = 19 by rw [HE.out, bad_true (l := lb) hlt (show outB (B q) = true by unfold outB; simp [h2]), Bool.or_true]; rfl)
                go_wp2
                go_ret2
                exact ⟨_, by rw [HX.out]; rfl, HN.out 19 (by decide) HX.out none 0⟩
              · go_wp2
                go_round
                case rel => exact ⟨q + 1, by omega, by go_num, Lib.hid fun i hi => by
                  by_cases e : i = q
                  · rw [e]; unfold outB; simp; omega
                  · exact HP.out i (by omega)⟩
                case measure => simp [intOf]; omega
            · obtain rfl : q = lb := by omega
              have HbB := Lib.hid (bad_of HP.out)
              have HE0 := Lib.hid (show mulE A B k q = 0 by rw [HE.out, HbA.out, HbB.out]; rfl)
              clear HP HE hlt
              rcases (show k = 0 ∨ (k ≠ 0 ∧ q = 0) ∨ (k ≠ 0 ∧ q ≠ 0) by omega) with hk0 | ⟨hk0, hq0⟩ | ⟨hk0, hq0⟩
              · have HY := Lib.hid (HN2.out (.inl hk0) none 0)
                have hkz : ((k : Int) == 0) = true := by rw [hk0]; rfl
                clear hk0
                go_wp2
                go_ret2
                exact ⟨_, by rw [HE0.out]; rfl, HY.out⟩
              · have HY := Lib.hid (HN2.out (.inr hq0) none 0)
                have hkz : ((k : Int) == 0) = false := by rw [beq_eq_false_iff_ne]; omega
                have hqz : ((q : Int) == 0) = true := by rw [hq0]; rfl
                clear hk0 hq0
                go_wp2
                go_ret2
                exact ⟨_, by rw [HE0.out]; rfl, HY.out⟩
              · have hkz : ((k : Int) == 0) = false := by rw [beq_eq_false_iff_ne]; omega
                have hqz : ((q : Int) == 0) = false := by rw [beq_eq_false_iff_ne]; omega
                have HL := Lib.hid (show mulL A B k q = k + q - 1 by unfold mulL; rw [if_pos ⟨HE0.out, hk0, hq0⟩])
                rcases HA.out with ⟨h, _⟩ | ⟨b1, o1, c1, h1, h2⟩
                · exact absurd h hk0
                cases h1
                rcases HB.out with ⟨h, _⟩ | ⟨b3, o3, c3, h3, h4⟩
                · exact absurd h hq0
                cases h3
                have HcA := Lib.hid h2
                have HcB := Lib.hid h4
                obtain ⟨l, hl⟩ : ∃ l, l = k + q - 1 := ⟨_, rfl⟩
                have hab : (k : Int) + (q : Int) - 1 = (l : Int) := by omega
                have hmk := make_i l (by omega) w
                have hk1 : 1 ≤ k := by omega
                have hq1 : 1 ≤ q := by omega
                have HX := Lib.hid (show Row (w.alloc (.cells ((List.range l).map fun _ => Value.int .i64 0).toArray 3)) w.heap.size 3 l (intCells (convP A B q 0 0)) ∧ Below w.heap.size w (w.alloc (.cells ((List.range l).map fun _ => Value.int .i64 0).toArray 3)) from
                  ⟨(Row.new w _ _ l (fun _ => Value.int .i64 0) rfl).congr fun i _ => by unfold intCells; rw [convP_zero], by go_grown⟩)
                have HLL := Lib.hid hl
                clear h2 h4 hk0 hq0 HN HN2 HA HB hl
                go_wp2
                go_loopw [9] (fun j wr => ∃ i : Nat, i ≤ k ∧ j = .int .i64 i ∧ Row wr w.heap.size 3 l (intCells (convP A B q i 0)) ∧ Below w.heap.size w wr) (fun j _ => k - (intOf j).toNat)
                case atStart => exact ⟨0, by omega, rfl, HX.out⟩
                case round =>
                  clear HX hmk
                  obtain ⟨i, hi, rfl, hr, hbw⟩ := hrel
                  have i0 : (0 : Int) ≤ (i : Int) := Int.natCast_nonneg i
                  by_cases hik : i < k
                  · have hik' : (i : Int) < (k : Int) := by omega
                    have HR := Lib.hid (And.intro hr hbw)
                    clear hr hbw
                    go_wp2
                    go_loopw [10] (fun j wr => ∃ r : Nat, r ≤ q ∧ j = .int .i64 r ∧ Row wr w.heap.size 3 l (intCells (convP A B q i r)) ∧ Below w.heap.size w wr) (fun j _ => q - (intOf j).toNat)
                    case atStart => exact ⟨0, by omega, rfl, HR.out⟩
                    case round =>
                      clear HR
                      obtain ⟨r, hr, rfl, hrw, hbw⟩ := hrel
                      have r0 : (0 : Int) ≤ (r : Int) := Int.natCast_nonneg r
                      by_cases hrq : r < q
                      · have hrq' : (r : Int) < (q : Int) := by omega
                        obtain ⟨z, hz⟩ : ∃ z, z = i + r := ⟨_, rfl⟩
                        have HZ := Lib.hid hz
                        have hir : z < l := by have := HLL.out; omega
                        have z0 : (0 : Int) ≤ (z : Int) := Int.natCast_nonneg z
                        have hir' : (z : Int) < (l : Int) := by omega
                        have hcast : (i : Int) + (r : Int) = (z : Int) := by omega
                        have cA := (hbw.cell (p := ⟨b1, o1 + i, none⟩) (World.block_lt_of_cell? w _ (HcA.out i hik))).trans (HcA.out i hik)
                        have cB := (hbw.cell (p := ⟨b3, o3 + r, none⟩) (World.block_lt_of_cell? w _ (HcB.out r hrq))).trans (HcB.out r hrq)
                        have cO := hrw.cell z hir
                        have fO := hrw.frozen z
                        unfold intCells at cO
                        have t1 := term_le HbA.out HbB.out hik hrq
                        have t2 := convP_le HbA.out HbB.out ha hik (show r ≤ q by omega) z
                        obtain ⟨t11, t12⟩ := t1
                        obtain ⟨t21, t22⟩ := t2
                        obtain ⟨cv, hcv⟩ : ∃ cv, cv = convP A B q i r z := ⟨_, rfl⟩
                        rw [← hcv] at cO t21 t22
                        have HCV := Lib.hid hcv
                        have HR := Lib.hid (And.intro hrw hbw)
                        clear hrw hbw hcv hz
                        go_wp2
                        go_region
                        go_wp2
                        refine ⟨⟨r + 1, by omega, by go_num, (HR.out.1.drew.set z (.int .i64 (cv + A i * B r))).congr fun c hc => ?_, HR.out.2.drew.setCell (p := ⟨w.heap.size, z, none⟩) (by simp) _⟩, by simp [intOf]; omega⟩
                        show (if c = z then _ else Value.int .i64 (convP A B q i r c)) = Value.int .i64 (convP A B q i (r + 1) c)
                        rw [convP_step, HCV.out, HZ.out]
                        split <;> rfl
                      · obtain rfl : r = q := by omega
                        have HR := Lib.hid (And.intro hrw hbw)
                        clear hrw hbw
                        go_wp2
                        refine ⟨⟨i + 1, by omega, by go_num, HR.out.1.congr fun c hc => ?_, HR.out.2⟩, by simp [intOf]; omega⟩
                        unfold intCells
                        rw [convP_row]
                  · obtain rfl : i = k := by omega
                    have HR := Lib.hid (And.intro hr hbw)
                    clear hr hbw
                    go_wp2
                    go_ret2
                    refine ⟨_, by rw [HE0.out]; rfl, ?_, HR.out.2⟩
                    rw [HL.out, ← HLL.out]
                    exact .inr ⟨w.heap.size, 0, l, rfl, fun c hc => by rw [Nat.zero_add, HR.out.1.cell c hc]; unfold intCells; rw [convP_end]⟩
    · have ib : (64 : Int) < (lb : Int) := by omega
      have HE := Lib.hid (mulE_b (A := A) (B := B) (la := la) (show 64 < lb by omega))
      go_enter Tryd.func10, Tryd.ntmps10
      go_wp2
      go_ret2
      exact ⟨_, by rw [HE.out]; rfl, HN.out 8 (by decide) HE.out none 0⟩
  · have ia : (64 : Int) < (la : Int) := by omega
    have HE := Lib.hid (mulE_a (A := A) (B := B) (lb := lb) (show 64 < la by omega))
    go_enter Tryd.func10, Tryd.ntmps10
    go_wp2
    go_ret2
    exact ⟨_, by rw [HE.out]; rfl, HN.out 8 (by decide) HE.out none 0⟩
end Go.Proofs.YtijbjncdiojpdaaDoor
