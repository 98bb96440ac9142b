/- sharecoreref15.known, Check, Random; sharecoreref13.Count. -/
import Derived.Test.YtccgfladbibjbaaGreatDoorG28
import Derived.Test.YtccgfladbibjbaaGreatDoorG30
import Derived.Test.YtccgfladbibjbaaGreatDoorG29
namespace Go.Proofs.YtccgfladbibjbaaGreatDoor
open Go.RowKit
attribute [local go_sem ↓] add_UU sub_UU mul_UU add_UL add_LU sub_UL sub_LU mul_UL neg_at not_at and_UU or_UU xor_UU andNot_UU and_UL or_LU shr_UL shl_UL shr_UN shl_UN shl_LN quo_UL rem_UL quo_UU rem_UU
attribute [local go_sem] wrap64_N wrapi_mod wrap8_U wrap32_U wrap64_B wrap32_B wrap8_D wrapi_B wrap64_UU eq_UU ne_UU eq_UL ne_UL lt_UU le_UU

theorem refKnown (f : Int) (w : World) : Calls Tryz.prog 88 #[.int .i64 f] w fun e w' => e = .returned (.bool (decide (getE f = 0))) ∧ w' = w := by
  by_cases h1 : f = 1
  · subst h1
    have HD := Lib.hid (show decide (getE 1 = 0) = true from rfl)
    go_enter Tryz.func88, Tryz.ntmps88
    go_wp2
    go_ret
    exact ⟨by first | (rw [HD.out]; done) | (rw [HD.out]; rfl), rfl⟩
  · have e1 : (f == 1) = false := beq_eq_false_iff_ne.2 h1
    by_cases h2 : f = 2
    · subst h2
      have HD := Lib.hid (show decide (getE 2 = 0) = true from rfl)
      go_enter Tryz.func88, Tryz.ntmps88
      go_wp2
      go_ret
      exact ⟨by first | (rw [HD.out]; done) | (rw [HD.out]; rfl), rfl⟩
    · have e2 : (f == 2) = false := beq_eq_false_iff_ne.2 h2
      have HD := Lib.hid (show decide (getE f = 0) = false from by unfold getE; rw [if_neg h1, if_neg h2]; rfl)
      clear h1 h2
      go_enter Tryz.func88, Tryz.ntmps88
      go_wp2
      go_ret
      exact ⟨by first | (rw [HD.out]; done) | (rw [HD.out]; rfl), rfl⟩

theorem refCount (n : Int) (h0 : 0 ≤ n) (h1 : n ≤ 65535) (w : World) : Calls Tryz.prog 89 #[.int .i64 n] w fun e w' => e = .returned (.int .i64 (cnt n)) ∧ Below w.heap.size w w' := by
  have HC := Lib.hid (show cnt n = (n.toNat + 30) / 31 from by unfold cnt; rw [if_pos ⟨h0, h1⟩])
  have hgt : ¬ (65535 : Int) < n := by omega
  obtain ⟨c, hc⟩ : ∃ c, cnt n = c := ⟨_, rfl⟩
  have HH := Lib.hid (And.intro h0 (And.intro h1 hc))
  rw [hc]
  clear hc h0 h1
  go_enter Tryz.func89, Tryz.ntmps89
  go_wp2
  go_loopw [0, 3] (fun nv kv W => ∃ k : Nat, nv = .int .i64 (n - 31 * (k : Int)) ∧ kv = .int .i64 k ∧ k ≤ 2115 ∧ -31 < n - 31 * (k : Int) ∧ W = w) (fun nv _ _ => ((intOf nv) + 31).toNat)
  case atStart => exact ⟨0, by simp, rfl, by omega, by have := HH.out.1; omega, rfl⟩
  case round =>
    obtain ⟨k, rfl, rfl, hk, hl, rfl⟩ := hrel
    obtain ⟨r, hr⟩ : ∃ r, n - 31 * (k : Int) = r := ⟨_, rfl⟩
    have HR := Lib.hid hr
    rw [hr] at hl ⊢
    clear hr
    by_cases hp : 0 < r
    · have hw : IntKind.i64.wrap (r - 31) = r - 31 := by rw [IntKind.wrap_i64]; have := HR.out; have := HH.out; omega
      have HN := Lib.hid (show r - 31 = n - 31 * ((k + 1 : Nat) : Int) ∧ k + 1 ≤ 2115 ∧ -31 < r - 31 from by have := HR.out; have := HH.out; omega)
      clear hl
      go_wp2
      go_roundw
      case rel => exact ⟨k + 1, by rw [HN.out.1], by go_num, HN.out.2.1, by rw [← HN.out.1]; exact HN.out.2.2, trivial⟩
      case measure =>
        have := HN.out.2.2
        show ((r - 31) + 31).toNat < (r + 31).toNat
        omega
    · have hp' : ¬ (0 : Int) < r := hp
      have HE := Lib.hid (show (k : Int) = (c : Int) from by have := HR.out; have := HH.out; have := HC.out; omega)
      clear hl hp
      go_wp2
      go_ret
      exact ⟨by first | (rw [HE.out]; done) | (rw [HE.out]; rfl), Below.refl _ _⟩

theorem refCheck (p : Pa) (w : World) : Calls Tryz.prog 58 #[p.val] w fun e w' => e = .returned (.int .i64 p.checkE) ∧ Below w.heap.size w w' := by
  obtain ⟨f, t, s, l⟩ := p
  obtain ⟨r, hr⟩ : ∃ r, (⟨f, t, s, l⟩ : Pa).checkE = r := ⟨_, rfl⟩
  have HK := Lib.hid (refKnown f)
  have HR := Lib.hid hr
  rw [hr]
  clear hr
  unfold Pa.checkE at HR
  simp only [] at HR
  unfold Pa.val Pa.cells
  simp only []
  have HB := Lib.hid ((Below.refl _ w).alloc (Nat.le_refl _) (.cells #[.int .i64 f, .int .i64 t, .int .i64 s, .int .i64 l] 48))
  by_cases h0 : getE f = 0
  · have d0 : decide (getE f = 0) = true := by simpa using h0
    rw [d0] at HK
    rw [if_neg (fun h => h h0)] at HR
    clear h0 d0
    by_cases h1 : s < 1
    · rw [if_pos (fun h => by omega)] at HR
      go_enter Tryz.func58, Tryz.ntmps58
      go_wp2_with fail
      refine (HK.out _).mono ?_
      rintro e w1 ⟨rfl, rfl⟩
      go_wp2
      go_ret
      exact ⟨by first | (rw [← HR.out]; done) | (rw [← HR.out]; rfl), HB.out⟩
    · by_cases h2 : 255 < s
      · rw [if_pos (fun h => by omega)] at HR
        go_enter Tryz.func58, Tryz.ntmps58
        go_wp2_with fail
        refine (HK.out _).mono ?_
        rintro e w1 ⟨rfl, rfl⟩
        go_wp2
        go_ret
        exact ⟨by first | (rw [← HR.out]; done) | (rw [← HR.out]; rfl), HB.out⟩
      · rw [if_neg (fun h => h ⟨by omega, by omega⟩)] at HR
        by_cases h3 : t < 1
        · rw [if_pos (fun h => by omega)] at HR
          go_enter Tryz.func58, Tryz.ntmps58
          go_wp2_with fail
          refine (HK.out _).mono ?_
          rintro e w1 ⟨rfl, rfl⟩
          go_wp2
          go_ret
          exact ⟨by first | (rw [← HR.out]; done) | (rw [← HR.out]; rfl), HB.out⟩
        · by_cases h4 : s < t
          · rw [if_pos (fun h => by omega)] at HR
            go_enter Tryz.func58, Tryz.ntmps58
            go_wp2_with fail
            refine (HK.out _).mono ?_
            rintro e w1 ⟨rfl, rfl⟩
            go_wp2
            go_ret
            exact ⟨by first | (rw [← HR.out]; done) | (rw [← HR.out]; rfl), HB.out⟩
          · rw [if_neg (fun h => h ⟨by omega, by omega⟩)] at HR
            by_cases h5 : l < 0
            · rw [if_pos (fun h => by omega)] at HR
              go_enter Tryz.func58, Tryz.ntmps58
              go_wp2_with fail
              refine (HK.out _).mono ?_
              rintro e w1 ⟨rfl, rfl⟩
              go_wp2
              go_ret
              exact ⟨by first | (rw [← HR.out]; done) | (rw [← HR.out]; rfl), HB.out⟩
            · by_cases h6 : 65535 < l
              · rw [if_pos (fun h => by omega)] at HR
                go_enter Tryz.func58, Tryz.ntmps58
                go_wp2_with fail
                refine (HK.out _).mono ?_
                rintro e w1 ⟨rfl, rfl⟩
                go_wp2
                go_ret
                exact ⟨by first | (rw [← HR.out]; done) | (rw [← HR.out]; rfl), HB.out⟩
              · rw [if_neg (fun h => h ⟨by omega, by omega⟩)] at HR
                go_enter Tryz.func58, Tryz.ntmps58
                go_wp2_with fail
                refine (HK.out _).mono ?_
                rintro e w1 ⟨rfl, rfl⟩
                go_wp2
                go_ret
                exact ⟨by first | (rw [← HR.out]; done) | (rw [← HR.out]; rfl), HB.out⟩
  · have d0 : decide (getE f = 0) = false := by simpa using h0
    rw [d0] at HK
    rw [if_pos h0, show getE f = 3 from by unfold getE at h0 ⊢; split at h0 <;> (try split at h0) <;> simp_all] at HR
    clear h0 d0
    go_enter Tryz.func58, Tryz.ntmps58
    go_wp2_with fail
    refine (HK.out _).mono ?_
    rintro e w1 ⟨rfl, rfl⟩
    go_wp2
    go_ret
    exact ⟨by first | (rw [← HR.out]; done) | (rw [← HR.out]; rfl), HB.out⟩
end Go.Proofs.YtccgfladbibjbaaGreatDoor
