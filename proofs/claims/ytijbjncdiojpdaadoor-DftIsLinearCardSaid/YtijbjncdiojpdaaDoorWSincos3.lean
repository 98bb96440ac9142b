/- math.Sincos: what the specification says. -/
import Derived.Test.YtijbjncdiojpdaaDoorWSincos2
namespace Go.Proofs.YtijbjncdiojpdaaDoor
open Go.RowKit
attribute [local go_sem ↓] add_UU sub_UU mul_UU add_UL add_LU sub_UL sub_LU mul_UL neg_at not_at and_UU or_UU xor_UU andNot_UU and_UL or_LU shr_UL shl_UL shr_UN shl_UN quo_UL rem_UL quo_UU rem_UU
attribute [local go_sem] wrap8_U wrap32_U wrap64_B wrap32_B wrap8_D wrapi_B wrap64_UU eq_UU ne_UU eq_UL ne_UL lt_UU le_UU
attribute [local go_sem ↓] run_fadd run_fsub run_fmul run_fquo
attribute [local go_sem] fRes_some unary_neg_f

theorem sincosZero (x : Nat) (h : fo x 0 = some .eq) (w : World) :
    Calls Tryd.prog 26 #[.float .f64 x] w fun e w' => e = .returned (.tuple #[.float .f64 x, .float .f64 4607182418800017408]) ∧ w = w' := by
  unfold fo at h
  go_enter Tryd.func26, Tryd.ntmps26
  go_wp2
  go_ret2
  exact ⟨rfl, rfl⟩

theorem horner_cons {zz a c r : Nat} {cs : List Nat} (h : horner zz a (c :: cs) = some r) : ∃ m s, floatBits .mul .f64 a zz = some m ∧ floatBits .add .f64 m c = some s ∧ horner zz s cs = some r := by
  obtain ⟨m, h1, h⟩ := bind_some' h
  obtain ⟨s, h2, h⟩ := bind_some' h
  exact ⟨m, s, h1, h2, h⟩

theorem sincos (x s c : Nat) (h : sincosSpec x = some (s, c)) (w : World) (ht : Tabs w) :
    Calls Tryd.prog 26 #[.float .f64 x] w fun e w' => e = .returned (.tuple #[.float .f64 s, .float .f64 c]) ∧ w = w' := by
  unfold sincosSpec at h
  split at h
  · rename_i h0
    simp only [Option.some.injEq, Prod.mk.injEq] at h
    obtain ⟨rfl, rfl⟩ := h
    exact sincosZero x h0 w
  split at h
  · rename_i h1
    unfold regular at h1
    simp only [Bool.and_eq_true, beq_iff_eq, decide_eq_true_eq] at h1
    obtain ⟨k0, k1, k2, k3, k4⟩ := h1
    obtain ⟨⟨j, z⟩, hr, h⟩ := bind_some' h
    obtain ⟨zz, e9, h⟩ := bind_some' h
    obtain ⟨c', hcp, h⟩ := bind_some' h
    obtain ⟨s', hsp, hfin⟩ := bind_some' h
    replace hfin := Option.some.inj hfin
    clear h
    unfold reduce at hr
    obtain ⟨t, e1, hr⟩ := bind_some' hr
    obtain ⟨ji, ej, hr⟩ := bind_some' hr
    split at hr
    · rename_i hj
      obtain ⟨y, hy, hr⟩ := bind_some' hr
      obtain ⟨m1, e3, hr⟩ := bind_some' hr
      obtain ⟨z1, e4, hr⟩ := bind_some' hr
      obtain ⟨m2, e5, hr⟩ := bind_some' hr
      obtain ⟨z2, e6, hr⟩ := bind_some' hr
      obtain ⟨m3, e7, hr⟩ := bind_some' hr
      obtain ⟨z', e8, hr⟩ := bind_some' hr
      simp only [Option.some.injEq, Prod.mk.injEq] at hr
      obtain ⟨hjj, rfl⟩ := hr
      unfold cosPoly at hcp
      obtain ⟨h', f1, hcp⟩ := bind_some' hcp
      obtain ⟨a, f2, hcp⟩ := bind_some' hcp
      obtain ⟨q, f3, hcp⟩ := bind_some' hcp
      obtain ⟨p9, hp, hcp⟩ := bind_some' hcp
      obtain ⟨r, f14, f15⟩ := bind_some' hcp
      obtain ⟨p0, p1, f4, f5, hp⟩ := horner_cons hp
      obtain ⟨p2, p3, f6, f7, hp⟩ := horner_cons hp
      obtain ⟨p4, p5, f8, f9, hp⟩ := horner_cons hp
      obtain ⟨p6, p7, f10, f11, hp⟩ := horner_cons hp
      obtain ⟨p8, p9', f12, f13, hp⟩ := horner_cons hp
      obtain rfl : p9' = p9 := by simpa [horner] using hp
      unfold sinPoly at hsp
      obtain ⟨qs, g1, hsp⟩ := bind_some' hsp
      obtain ⟨u9, hu, hsp⟩ := bind_some' hsp
      obtain ⟨us, g12, g13⟩ := bind_some' hsp
      obtain ⟨u0, u1, g2, g3, hu⟩ := horner_cons hu
      obtain ⟨u2, u3, g4, g5, hu⟩ := horner_cons hu
      obtain ⟨u4, u5, g6, g7, hu⟩ := horner_cons hu
      obtain ⟨u6, u7, g8, g9, hu⟩ := horner_cons hu
      obtain ⟨u8, u9', g10, g11, hu⟩ := horner_cons hu
      obtain rfl : u9' = u9 := by simpa [horner] using hu
      have hjn : ji = 0 ∨ ji = 1 ∨ ji = 2 ∨ ji = 3 ∨ ji = 4 ∨ ji = 5 ∨ ji = 6 ∨ ji = 7 := by omega
      rcases hjn with rfl | rfl | rfl | rfl | rfl | rfl | rfl | rfl
      · obtain rfl : j = 0 := by rw [← hjj]; rfl
        simp [octant] at hfin
        obtain ⟨rfl, rfl⟩ := hfin
        exact sincos0 x t y m1 z1 m2 z2 m3 z' zz h' a q p0 p1 p2 p3 p4 p5 p6 p7 p8 p9' r c' qs u0 u1 u2 u3 u4 u5 u6 u7 u8 u9' us s' k0 k1 k2 k3 k4 (by simpa using hy) ⟨e1, ej, e3, e4, e5, e6, e7, e8, e9, f1, f2, f3, f4, f5, f6, f7, f8, f9, f10, f11, f12, f13, f14, f15, g1, g2, g3, g4, g5, g6, g7, g8, g9, g10, g11, g12, g13⟩ w ht
      · obtain rfl : j = 1 := by rw [← hjj]; rfl
        simp [octant] at hfin
        obtain ⟨rfl, rfl⟩ := hfin
        exact sincos1 x t y m1 z1 m2 z2 m3 z' zz h' a q p0 p1 p2 p3 p4 p5 p6 p7 p8 p9' r c' qs u0 u1 u2 u3 u4 u5 u6 u7 u8 u9' us s' k0 k1 k2 k3 k4 (by simpa [fb, one64] using hy) ⟨e1, ej, e3, e4, e5, e6, e7, e8, e9, f1, f2, f3, f4, f5, f6, f7, f8, f9, f10, f11, f12, f13, f14, f15, g1, g2, g3, g4, g5, g6, g7, g8, g9, g10, g11, g12, g13⟩ w ht
      · obtain rfl : j = 2 := by rw [← hjj]; rfl
        simp [octant] at hfin
        obtain ⟨rfl, rfl⟩ := hfin
        exact sincos2 x t y m1 z1 m2 z2 m3 z' zz h' a q p0 p1 p2 p3 p4 p5 p6 p7 p8 p9' r c' qs u0 u1 u2 u3 u4 u5 u6 u7 u8 u9' us s' k0 k1 k2 k3 k4 (by simpa using hy) ⟨e1, ej, e3, e4, e5, e6, e7, e8, e9, f1, f2, f3, f4, f5, f6, f7, f8, f9, f10, f11, f12, f13, f14, f15, g1, g2, g3, g4, g5, g6, g7, g8, g9, g10, g11, g12, g13⟩ w ht
      · obtain rfl : j = 3 := by rw [← hjj]; rfl
        simp [octant] at hfin
        obtain ⟨rfl, rfl⟩ := hfin
        exact sincos3 x t y m1 z1 m2 z2 m3 z' zz h' a q p0 p1 p2 p3 p4 p5 p6 p7 p8 p9' r c' qs u0 u1 u2 u3 u4 u5 u6 u7 u8 u9' us s' k0 k1 k2 k3 k4 (by simpa [fb, one64] using hy) ⟨e1, ej, e3, e4, e5, e6, e7, e8, e9, f1, f2, f3, f4, f5, f6, f7, f8, f9, f10, f11, f12, f13, f14, f15, g1, g2, g3, g4, g5, g6, g7, g8, g9, g10, g11, g12, g13⟩ w ht
      · obtain rfl : j = 4 := by rw [← hjj]; rfl
        simp [octant] at hfin
        obtain ⟨rfl, rfl⟩ := hfin
        exact sincos4 x t y m1 z1 m2 z2 m3 z' zz h' a q p0 p1 p2 p3 p4 p5 p6 p7 p8 p9' r c' qs u0 u1 u2 u3 u4 u5 u6 u7 u8 u9' us s' k0 k1 k2 k3 k4 (by simpa using hy) ⟨e1, ej, e3, e4, e5, e6, e7, e8, e9, f1, f2, f3, f4, f5, f6, f7, f8, f9, f10, f11, f12, f13, f14, f15, g1, g2, g3, g4, g5, g6, g7, g8, g9, g10, g11, g12, g13⟩ w ht
      · obtain rfl : j = 5 := by rw [← hjj]; rfl
        simp [octant] at hfin
        obtain ⟨rfl, rfl⟩ := hfin
        exact sincos5 x t y m1 z1 m2 z2 m3 z' zz h' a q p0 p1 p2 p3 p4 p5 p6 p7 p8 p9' r c' qs u0 u1 u2 u3 u4 u5 u6 u7 u8 u9' us s' k0 k1 k2 k3 k4 (by simpa [fb, one64] using hy) ⟨e1, ej, e3, e4, e5, e6, e7, e8, e9, f1, f2, f3, f4, f5, f6, f7, f8, f9, f10, f11, f12, f13, f14, f15, g1, g2, g3, g4, g5, g6, g7, g8, g9, g10, g11, g12, g13⟩ w ht
      · obtain rfl : j = 6 := by rw [← hjj]; rfl
        simp [octant] at hfin
        obtain ⟨rfl, rfl⟩ := hfin
        exact sincos6 x t y m1 z1 m2 z2 m3 z' zz h' a q p0 p1 p2 p3 p4 p5 p6 p7 p8 p9' r c' qs u0 u1 u2 u3 u4 u5 u6 u7 u8 u9' us s' k0 k1 k2 k3 k4 (by simpa using hy) ⟨e1, ej, e3, e4, e5, e6, e7, e8, e9, f1, f2, f3, f4, f5, f6, f7, f8, f9, f10, f11, f12, f13, f14, f15, g1, g2, g3, g4, g5, g6, g7, g8, g9, g10, g11, g12, g13⟩ w ht
      · obtain rfl : j = 7 := by rw [← hjj]; rfl
        simp [octant] at hfin
        obtain ⟨rfl, rfl⟩ := hfin
        exact sincos7 x t y m1 z1 m2 z2 m3 z' zz h' a q p0 p1 p2 p3 p4 p5 p6 p7 p8 p9' r c' qs u0 u1 u2 u3 u4 u5 u6 u7 u8 u9' us s' k0 k1 k2 k3 k4 (by simpa [fb, one64] using hy) ⟨e1, ej, e3, e4, e5, e6, e7, e8, e9, f1, f2, f3, f4, f5, f6, f7, f8, f9, f10, f11, f12, f13, f14, f15, g1, g2, g3, g4, g5, g6, g7, g8, g9, g10, g11, g12, g13⟩ w ht
    · cases hr
  · cases h
end Go.Proofs.YtijbjncdiojpdaaDoor
