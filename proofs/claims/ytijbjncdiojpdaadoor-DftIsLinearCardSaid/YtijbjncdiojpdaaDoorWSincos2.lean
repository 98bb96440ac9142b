/- The walk of math.Sincos. -/
import Derived.Test.YtijbjncdiojpdaaDoorWSincos
namespace Go.Proofs.YtijbjncdiojpdaaDoor
open Go.RowKit
attribute [local go_sem ↓] add_UU sub_UU mul_UU add_UL add_LU sub_UL sub_LU mul_UL neg_at not_at and_UU or_UU xor_UU andNot_UU and_UL or_LU shr_UL shl_UL shr_UN shl_UN quo_UL rem_UL quo_UU rem_UU
attribute [local go_sem] wrap8_U wrap32_U wrap64_B wrap32_B wrap8_D wrapi_B wrap64_UU eq_UU ne_UU eq_UL ne_UL lt_UU le_UU
attribute [local go_sem ↓] run_fadd run_fsub run_fmul run_fquo
attribute [local go_sem] fRes_some unary_neg_f

set_option maxRecDepth 20000 in
set_option maxHeartbeats 2000000 in
theorem sincos0 (x t y m1 z1 m2 z2 m3 z zz h a q p0 p1 p2 p3 p4 p5 p6 p7 p8 p9 r c qs u0 u1 u2 u3 u4 u5 u6 u7 u8 u9 us s : Nat) (k0 : fo x 0 = some .gt) (k1 : fo x x = some .eq) (k2 : fo x 4737786807993761792 = some .lt) (k3 : fo x 9218868437227405311 = some .lt) (k4 : x < 9223372036854775808)
    (hy : floatOfInt .f64 0 = y) (S : Steps x 0 t y m1 z1 m2 z2 m3 z zz h a q p0 p1 p2 p3 p4 p5 p6 p7 p8 p9 r c qs u0 u1 u2 u3 u4 u5 u6 u7 u8 u9 us s) (w : World) (ht : Tabs w) :
    Calls Tryd.prog 26 #[.float .f64 x] w fun e w' => e = .returned (.tuple #[.float .f64 s, .float .f64 c]) ∧ w = w' := by
  obtain ⟨e1, ej, e3, e4, e5, e6, e7, e8, e9, f1, f2, f3, f4, f5, f6, f7, f8, f9, f10, f11, f12, f13, f14, f15, g1, g2, g3, g4, g5, g6, g7, g8, g9, g10, g11, g12, g13⟩ := S
  obtain ⟨c0, c1, c2, c3, c4, c5, s0, s1, s2, s3, s4, s5⟩ := ht
  have HN := Lib.hid (isNaN x k1)
  have HI := Lib.hid (isInf x k4 k3)
  unfold fo at k0 k2
  clear k1 k3 k4
  have hc1 : ∀ w, (convert 35 62 (.float .f64 t)).run Tryd.prog w = .ok (.int .u64 0) w := fun w => run_convert_float_int (P := Tryd.prog) w 35 62 .f64 .u64 t _ (by kernel_rfl) Tryd.underlying62 ej
  have hb1 : Op.intBits .and .u64 0 1 = pure (.int .u64 0) := by rfl
  have hb7 : Op.intBits .and .u64 0 7 = pure (.int .u64 0) := by rfl
  clear ej

  obtain ⟨fy, hfy⟩ : ∃ v, v = floatOfInt .f64 0 := ⟨_, rfl⟩
  have hc2 : ∀ w, (convert 62 35 (.int .u64 0)).run Tryd.prog w = .ok (.float .f64 fy) w := fun w => by rw [hfy]; rfl
  rw [← hfy] at hy
  clear hfy

  subst hy

  go_enter Tryd.func26, Tryd.ntmps26
  go_wp2_with fail
  refine (HN.out _).mono ?_
  rintro e w1 ⟨rfl, rfl⟩
  go_wp2_with fail
  refine (HI.out _).mono ?_
  rintro e w1 ⟨rfl, rfl⟩
  go_wp2
  go_ret2
  exact ⟨rfl, rfl⟩

set_option maxRecDepth 20000 in
set_option maxHeartbeats 2000000 in
theorem sincos1 (x t y m1 z1 m2 z2 m3 z zz h a q p0 p1 p2 p3 p4 p5 p6 p7 p8 p9 r c qs u0 u1 u2 u3 u4 u5 u6 u7 u8 u9 us s : Nat) (k0 : fo x 0 = some .gt) (k1 : fo x x = some .eq) (k2 : fo x 4737786807993761792 = some .lt) (k3 : fo x 9218868437227405311 = some .lt) (k4 : x < 9223372036854775808)
    (hy : floatBits .add .f64 (floatOfInt .f64 1) 4607182418800017408 = some y) (S : Steps x 1 t y m1 z1 m2 z2 m3 z zz h a q p0 p1 p2 p3 p4 p5 p6 p7 p8 p9 r c qs u0 u1 u2 u3 u4 u5 u6 u7 u8 u9 us s) (w : World) (ht : Tabs w) :
    Calls Tryd.prog 26 #[.float .f64 x] w fun e w' => e = .returned (.tuple #[.float .f64 c, .float .f64 (Op.negFloat .f64 s)]) ∧ w = w' := by
  obtain ⟨e1, ej, e3, e4, e5, e6, e7, e8, e9, f1, f2, f3, f4, f5, f6, f7, f8, f9, f10, f11, f12, f13, f14, f15, g1, g2, g3, g4, g5, g6, g7, g8, g9, g10, g11, g12, g13⟩ := S
  obtain ⟨c0, c1, c2, c3, c4, c5, s0, s1, s2, s3, s4, s5⟩ := ht
  have HN := Lib.hid (isNaN x k1)
  have HI := Lib.hid (isInf x k4 k3)
  unfold fo at k0 k2
  clear k1 k3 k4
  have hc1 : ∀ w, (convert 35 62 (.float .f64 t)).run Tryd.prog w = .ok (.int .u64 1) w := fun w => run_convert_float_int (P := Tryd.prog) w 35 62 .f64 .u64 t _ (by kernel_rfl) Tryd.underlying62 ej
  have hb1 : Op.intBits .and .u64 1 1 = pure (.int .u64 1) := by rfl
  have hb7 : Op.intBits .and .u64 2 7 = pure (.int .u64 2) := by rfl
  clear ej

  obtain ⟨fy, hfy⟩ : ∃ v, v = floatOfInt .f64 1 := ⟨_, rfl⟩
  have hc2 : ∀ w, (convert 62 35 (.int .u64 1)).run Tryd.prog w = .ok (.float .f64 fy) w := fun w => by rw [hfy]; rfl
  rw [← hfy] at hy
  clear hfy

  go_enter Tryd.func26, Tryd.ntmps26
  go_wp2_with fail
  refine (HN.out _).mono ?_
  rintro e w1 ⟨rfl, rfl⟩
  go_wp2_with fail
  refine (HI.out _).mono ?_
  rintro e w1 ⟨rfl, rfl⟩
  go_wp2
  go_ret2
  exact ⟨rfl, rfl⟩

set_option maxRecDepth 20000 in
set_option maxHeartbeats 2000000 in
theorem sincos2 (x t y m1 z1 m2 z2 m3 z zz h a q p0 p1 p2 p3 p4 p5 p6 p7 p8 p9 r c qs u0 u1 u2 u3 u4 u5 u6 u7 u8 u9 us s : Nat) (k0 : fo x 0 = some .gt) (k1 : fo x x = some .eq) (k2 : fo x 4737786807993761792 = some .lt) (k3 : fo x 9218868437227405311 = some .lt) (k4 : x < 9223372036854775808)
    (hy : floatOfInt .f64 2 = y) (S : Steps x 2 t y m1 z1 m2 z2 m3 z zz h a q p0 p1 p2 p3 p4 p5 p6 p7 p8 p9 r c qs u0 u1 u2 u3 u4 u5 u6 u7 u8 u9 us s) (w : World) (ht : Tabs w) :
    Calls Tryd.prog 26 #[.float .f64 x] w fun e w' => e = .returned (.tuple #[.float .f64 c, .float .f64 (Op.negFloat .f64 s)]) ∧ w = w' := by
  obtain ⟨e1, ej, e3, e4, e5, e6, e7, e8, e9, f1, f2, f3, f4, f5, f6, f7, f8, f9, f10, f11, f12, f13, f14, f15, g1, g2, g3, g4, g5, g6, g7, g8, g9, g10, g11, g12, g13⟩ := S
  obtain ⟨c0, c1, c2, c3, c4, c5, s0, s1, s2, s3, s4, s5⟩ := ht
  have HN := Lib.hid (isNaN x k1)
  have HI := Lib.hid (isInf x k4 k3)
  unfold fo at k0 k2
  clear k1 k3 k4
  have hc1 : ∀ w, (convert 35 62 (.float .f64 t)).run Tryd.prog w = .ok (.int .u64 2) w := fun w => run_convert_float_int (P := Tryd.prog) w 35 62 .f64 .u64 t _ (by kernel_rfl) Tryd.underlying62 ej
  have hb1 : Op.intBits .and .u64 2 1 = pure (.int .u64 0) := by rfl
  have hb7 : Op.intBits .and .u64 2 7 = pure (.int .u64 2) := by rfl
  clear ej

  obtain ⟨fy, hfy⟩ : ∃ v, v = floatOfInt .f64 2 := ⟨_, rfl⟩
  have hc2 : ∀ w, (convert 62 35 (.int .u64 2)).run Tryd.prog w = .ok (.float .f64 fy) w := fun w => by rw [hfy]; rfl
  rw [← hfy] at hy
  clear hfy

  subst hy

  go_enter Tryd.func26, Tryd.ntmps26
  go_wp2_with fail
  refine (HN.out _).mono ?_
  rintro e w1 ⟨rfl, rfl⟩
  go_wp2_with fail
  refine (HI.out _).mono ?_
  rintro e w1 ⟨rfl, rfl⟩
  go_wp2
  go_ret2
  exact ⟨rfl, rfl⟩

set_option maxRecDepth 20000 in
set_option maxHeartbeats 2000000 in
theorem sincos3 (x t y m1 z1 m2 z2 m3 z zz h a q p0 p1 p2 p3 p4 p5 p6 p7 p8 p9 r c qs u0 u1 u2 u3 u4 u5 u6 u7 u8 u9 us s : Nat) (k0 : fo x 0 = some .gt) (k1 : fo x x = some .eq) (k2 : fo x 4737786807993761792 = some .lt) (k3 : fo x 9218868437227405311 = some .lt) (k4 : x < 9223372036854775808)
    (hy : floatBits .add .f64 (floatOfInt .f64 3) 4607182418800017408 = some y) (S : Steps x 3 t y m1 z1 m2 z2 m3 z zz h a q p0 p1 p2 p3 p4 p5 p6 p7 p8 p9 r c qs u0 u1 u2 u3 u4 u5 u6 u7 u8 u9 us s) (w : World) (ht : Tabs w) :
    Calls Tryd.prog 26 #[.float .f64 x] w fun e w' => e = .returned (.tuple #[.float .f64 (Op.negFloat .f64 s), .float .f64 (Op.negFloat .f64 c)]) ∧ w = w' := by
  obtain ⟨e1, ej, e3, e4, e5, e6, e7, e8, e9, f1, f2, f3, f4, f5, f6, f7, f8, f9, f10, f11, f12, f13, f14, f15, g1, g2, g3, g4, g5, g6, g7, g8, g9, g10, g11, g12, g13⟩ := S
  obtain ⟨c0, c1, c2, c3, c4, c5, s0, s1, s2, s3, s4, s5⟩ := ht
  have HN := Lib.hid (isNaN x k1)
  have HI := Lib.hid (isInf x k4 k3)
  unfold fo at k0 k2
  clear k1 k3 k4
  have hc1 : ∀ w, (convert 35 62 (.float .f64 t)).run Tryd.prog w = .ok (.int .u64 3) w := fun w => run_convert_float_int (P := Tryd.prog) w 35 62 .f64 .u64 t _ (by kernel_rfl) Tryd.underlying62 ej
  have hb1 : Op.intBits .and .u64 3 1 = pure (.int .u64 1) := by rfl
  have hb7 : Op.intBits .and .u64 4 7 = pure (.int .u64 4) := by rfl
  clear ej

  obtain ⟨fy, hfy⟩ : ∃ v, v = floatOfInt .f64 3 := ⟨_, rfl⟩
  have hc2 : ∀ w, (convert 62 35 (.int .u64 3)).run Tryd.prog w = .ok (.float .f64 fy) w := fun w => by rw [hfy]; rfl
  rw [← hfy] at hy
  clear hfy

  go_enter Tryd.func26, Tryd.ntmps26
  go_wp2_with fail
  refine (HN.out _).mono ?_
  rintro e w1 ⟨rfl, rfl⟩
  go_wp2_with fail
  refine (HI.out _).mono ?_
  rintro e w1 ⟨rfl, rfl⟩
  go_wp2
  go_ret2
  exact ⟨rfl, rfl⟩

set_option maxRecDepth 20000 in
set_option maxHeartbeats 2000000 in
theorem sincos4 (x t y m1 z1 m2 z2 m3 z zz h a q p0 p1 p2 p3 p4 p5 p6 p7 p8 p9 r c qs u0 u1 u2 u3 u4 u5 u6 u7 u8 u9 us s : Nat) (k0 : fo x 0 = some .gt) (k1 : fo x x = some .eq) (k2 : fo x 4737786807993761792 = some .lt) (k3 : fo x 9218868437227405311 = some .lt) (k4 : x < 9223372036854775808)
    (hy : floatOfInt .f64 4 = y) (S : Steps x 4 t y m1 z1 m2 z2 m3 z zz h a q p0 p1 p2 p3 p4 p5 p6 p7 p8 p9 r c qs u0 u1 u2 u3 u4 u5 u6 u7 u8 u9 us s) (w : World) (ht : Tabs w) :
    Calls Tryd.prog 26 #[.float .f64 x] w fun e w' => e = .returned (.tuple #[.float .f64 (Op.negFloat .f64 s), .float .f64 (Op.negFloat .f64 c)]) ∧ w = w' := by
  obtain ⟨e1, ej, e3, e4, e5, e6, e7, e8, e9, f1, f2, f3, f4, f5, f6, f7, f8, f9, f10, f11, f12, f13, f14, f15, g1, g2, g3, g4, g5, g6, g7, g8, g9, g10, g11, g12, g13⟩ := S
  obtain ⟨c0, c1, c2, c3, c4, c5, s0, s1, s2, s3, s4, s5⟩ := ht
  have HN := Lib.hid (isNaN x k1)
  have HI := Lib.hid (isInf x k4 k3)
  unfold fo at k0 k2
  clear k1 k3 k4
  have hc1 : ∀ w, (convert 35 62 (.float .f64 t)).run Tryd.prog w = .ok (.int .u64 4) w := fun w => run_convert_float_int (P := Tryd.prog) w 35 62 .f64 .u64 t _ (by kernel_rfl) Tryd.underlying62 ej
  have hb1 : Op.intBits .and .u64 4 1 = pure (.int .u64 0) := by rfl
  have hb7 : Op.intBits .and .u64 4 7 = pure (.int .u64 4) := by rfl
  clear ej

  obtain ⟨fy, hfy⟩ : ∃ v, v = floatOfInt .f64 4 := ⟨_, rfl⟩
  have hc2 : ∀ w, (convert 62 35 (.int .u64 4)).run Tryd.prog w = .ok (.float .f64 fy) w := fun w => by rw [hfy]; rfl
  rw [← hfy] at hy
  clear hfy

  subst hy

  go_enter Tryd.func26, Tryd.ntmps26
  go_wp2_with fail
  refine (HN.out _).mono ?_
  rintro e w1 ⟨rfl, rfl⟩
  go_wp2_with fail
  refine (HI.out _).mono ?_
  rintro e w1 ⟨rfl, rfl⟩
  go_wp2
  go_ret2
  exact ⟨rfl, rfl⟩

set_option maxRecDepth 20000 in
set_option maxHeartbeats 2000000 in
theorem sincos5 (x t y m1 z1 m2 z2 m3 z zz h a q p0 p1 p2 p3 p4 p5 p6 p7 p8 p9 r c qs u0 u1 u2 u3 u4 u5 u6 u7 u8 u9 us s : Nat) (k0 : fo x 0 = some .gt) (k1 : fo x x = some .eq) (k2 : fo x 4737786807993761792 = some .lt) (k3 : fo x 9218868437227405311 = some .lt) (k4 : x < 9223372036854775808)
    (hy : floatBits .add .f64 (floatOfInt .f64 5) 4607182418800017408 = some y) (S : Steps x 5 t y m1 z1 m2 z2 m3 z zz h a q p0 p1 p2 p3 p4 p5 p6 p7 p8 p9 r c qs u0 u1 u2 u3 u4 u5 u6 u7 u8 u9 us s) (w : World) (ht : Tabs w) :
    Calls Tryd.prog 26 #[.float .f64 x] w fun e w' => e = .returned (.tuple #[.float .f64 (Op.negFloat .f64 c), .float .f64 s]) ∧ w = w' := by
  obtain ⟨e1, ej, e3, e4, e5, e6, e7, e8, e9, f1, f2, f3, f4, f5, f6, f7, f8, f9, f10, f11, f12, f13, f14, f15, g1, g2, g3, g4, g5, g6, g7, g8, g9, g10, g11, g12, g13⟩ := S
  obtain ⟨c0, c1, c2, c3, c4, c5, s0, s1, s2, s3, s4, s5⟩ := ht
  have HN := Lib.hid (isNaN x k1)
  have HI := Lib.hid (isInf x k4 k3)
  unfold fo at k0 k2
  clear k1 k3 k4
  have hc1 : ∀ w, (convert 35 62 (.float .f64 t)).run Tryd.prog w = .ok (.int .u64 5) w := fun w => run_convert_float_int (P := Tryd.prog) w 35 62 .f64 .u64 t _ (by kernel_rfl) Tryd.underlying62 ej
  have hb1 : Op.intBits .and .u64 5 1 = pure (.int .u64 1) := by rfl
  have hb7 : Op.intBits .and .u64 6 7 = pure (.int .u64 6) := by rfl
  clear ej

  obtain ⟨fy, hfy⟩ : ∃ v, v = floatOfInt .f64 5 := ⟨_, rfl⟩
  have hc2 : ∀ w, (convert 62 35 (.int .u64 5)).run Tryd.prog w = .ok (.float .f64 fy) w := fun w => by rw [hfy]; rfl
  rw [← hfy] at hy
  clear hfy

  go_enter Tryd.func26, Tryd.ntmps26
  go_wp2_with fail
  refine (HN.out _).mono ?_
  rintro e w1 ⟨rfl, rfl⟩
  go_wp2_with fail
  refine (HI.out _).mono ?_
  rintro e w1 ⟨rfl, rfl⟩
  go_wp2
  go_ret2
  exact ⟨rfl, rfl⟩

set_option maxRecDepth 20000 in
set_option maxHeartbeats 2000000 in
theorem sincos6 (x t y m1 z1 m2 z2 m3 z zz h a q p0 p1 p2 p3 p4 p5 p6 p7 p8 p9 r c qs u0 u1 u2 u3 u4 u5 u6 u7 u8 u9 us s : Nat) (k0 : fo x 0 = some .gt) (k1 : fo x x = some .eq) (k2 : fo x 4737786807993761792 = some .lt) (k3 : fo x 9218868437227405311 = some .lt) (k4 : x < 9223372036854775808)
    (hy : floatOfInt .f64 6 = y) (S : Steps x 6 t y m1 z1 m2 z2 m3 z zz h a q p0 p1 p2 p3 p4 p5 p6 p7 p8 p9 r c qs u0 u1 u2 u3 u4 u5 u6 u7 u8 u9 us s) (w : World) (ht : Tabs w) :
    Calls Tryd.prog 26 #[.float .f64 x] w fun e w' => e = .returned (.tuple #[.float .f64 (Op.negFloat .f64 c), .float .f64 s]) ∧ w = w' := by
  obtain ⟨e1, ej, e3, e4, e5, e6, e7, e8, e9, f1, f2, f3, f4, f5, f6, f7, f8, f9, f10, f11, f12, f13, f14, f15, g1, g2, g3, g4, g5, g6, g7, g8, g9, g10, g11, g12, g13⟩ := S
  obtain ⟨c0, c1, c2, c3, c4, c5, s0, s1, s2, s3, s4, s5⟩ := ht
  have HN := Lib.hid (isNaN x k1)
  have HI := Lib.hid (isInf x k4 k3)
  unfold fo at k0 k2
  clear k1 k3 k4
  have hc1 : ∀ w, (convert 35 62 (.float .f64 t)).run Tryd.prog w = .ok (.int .u64 6) w := fun w => run_convert_float_int (P := Tryd.prog) w 35 62 .f64 .u64 t _ (by kernel_rfl) Tryd.underlying62 ej
  have hb1 : Op.intBits .and .u64 6 1 = pure (.int .u64 0) := by rfl
  have hb7 : Op.intBits .and .u64 6 7 = pure (.int .u64 6) := by rfl
  clear ej

  obtain ⟨fy, hfy⟩ : ∃ v, v = floatOfInt .f64 6 := ⟨_, rfl⟩
  have hc2 : ∀ w, (convert 62 35 (.int .u64 6)).run Tryd.prog w = .ok (.float .f64 fy) w := fun w => by rw [hfy]; rfl
  rw [← hfy] at hy
  clear hfy

  subst hy

  go_enter Tryd.func26, Tryd.ntmps26
  go_wp2_with fail
  refine (HN.out _).mono ?_
  rintro e w1 ⟨rfl, rfl⟩
  go_wp2_with fail
  refine (HI.out _).mono ?_
  rintro e w1 ⟨rfl, rfl⟩
  go_wp2
  go_ret2
  exact ⟨rfl, rfl⟩

set_option maxRecDepth 20000 in
set_option maxHeartbeats 2000000 in
theorem sincos7 (x t y m1 z1 m2 z2 m3 z zz h a q p0 p1 p2 p3 p4 p5 p6 p7 p8 p9 r c qs u0 u1 u2 u3 u4 u5 u6 u7 u8 u9 us s : Nat) (k0 : fo x 0 = some .gt) (k1 : fo x x = some .eq) (k2 : fo x 4737786807993761792 = some .lt) (k3 : fo x 9218868437227405311 = some .lt) (k4 : x < 9223372036854775808)
    (hy : floatBits .add .f64 (floatOfInt .f64 7) 4607182418800017408 = some y) (S : Steps x 7 t y m1 z1 m2 z2 m3 z zz h a q p0 p1 p2 p3 p4 p5 p6 p7 p8 p9 r c qs u0 u1 u2 u3 u4 u5 u6 u7 u8 u9 us s) (w : World) (ht : Tabs w) :
    Calls Tryd.prog 26 #[.float .f64 x] w fun e w' => e = .returned (.tuple #[.float .f64 s, .float .f64 c]) ∧ w = w' := by
  obtain ⟨e1, ej, e3, e4, e5, e6, e7, e8, e9, f1, f2, f3, f4, f5, f6, f7, f8, f9, f10, f11, f12, f13, f14, f15, g1, g2, g3, g4, g5, g6, g7, g8, g9, g10, g11, g12, g13⟩ := S
  obtain ⟨c0, c1, c2, c3, c4, c5, s0, s1, s2, s3, s4, s5⟩ := ht
  have HN := Lib.hid (isNaN x k1)
  have HI := Lib.hid (isInf x k4 k3)
  unfold fo at k0 k2
  clear k1 k3 k4
  have hc1 : ∀ w, (convert 35 62 (.float .f64 t)).run Tryd.prog w = .ok (.int .u64 7) w := fun w => run_convert_float_int (P := Tryd.prog) w 35 62 .f64 .u64 t _ (by kernel_rfl) Tryd.underlying62 ej
  have hb1 : Op.intBits .and .u64 7 1 = pure (.int .u64 1) := by rfl
  have hb7 : Op.intBits .and .u64 8 7 = pure (.int .u64 0) := by rfl
  clear ej

  obtain ⟨fy, hfy⟩ : ∃ v, v = floatOfInt .f64 7 := ⟨_, rfl⟩
  have hc2 : ∀ w, (convert 62 35 (.int .u64 7)).run Tryd.prog w = .ok (.float .f64 fy) w := fun w => by rw [hfy]; rfl
  rw [← hfy] at hy
  clear hfy

  go_enter Tryd.func26, Tryd.ntmps26
  go_wp2_with fail
  refine (HN.out _).mono ?_
  rintro e w1 ⟨rfl, rfl⟩
  go_wp2_with fail
  refine (HI.out _).mono ?_
  rintro e w1 ⟨rfl, rfl⟩
  go_wp2
  go_ret2
  exact ⟨rfl, rfl⟩

end Go.Proofs.YtijbjncdiojpdaaDoor
