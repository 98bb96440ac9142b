/- sharecoreref15.Random; sharecoretop.right. -/
import Derived.Test.YtccgfladbibjbaaGreatDoorT15
namespace Go.Proofs.YtccgfladbibjbaaGreatDoor
open Go.RowKit
attribute [local go_sem ↓] add_UU sub_UU mul_UU add_UL add_LU sub_UL sub_LU mul_UL neg_at not_at and_UU or_UU xor_UU andNot_UU and_UL or_LU shr_UL shl_UL shr_UN shl_UN shl_LN quo_UL rem_UL quo_UU rem_UU
attribute [local go_sem] wrap64_N wrapi_mod wrap8_U wrap32_U wrap64_B wrap32_B wrap8_D wrapi_B wrap64_UU eq_UU ne_UU eq_UL ne_UL lt_UU le_UU

set_option maxRecDepth 20000 in
set_option maxHeartbeats 1000000 in
theorem refRandom (p : Pa) (hp : p.checkE = 0) (w : World) : Calls Tryz.prog 59 #[p.val] w fun e w' => e = .returned (.int .i64 p.random) ∧ Below w.heap.size w w' := by
  have HK := Lib.hid (refCheck p)
  have HR := Lib.hid (show p.random = 64 * (p.thr - 1) * (cnt p.len : Nat) from if_pos hp)
  obtain ⟨_, z2, z3, z4⟩ := Pa.checkE_zero hp
  rw [hp] at HK
  have HC := Lib.hid (refCount p.len z4.1 z4.2)
  have hcl := cnt_le p.len
  obtain ⟨f, t, s, l⟩ := p
  unfold Pa.val Pa.cells at *
  simp only [] at *
  obtain ⟨c, hc⟩ : ∃ c, cnt l = c := ⟨_, rfl⟩
  rw [hc] at HR HC hcl
  have hb1 : 0 ≤ 64 * (t - 1) ∧ 64 * (t - 1) ≤ 16256 := by omega
  have hw1 : IntKind.i64.wrap (t - 1) = t - 1 := by rw [IntKind.wrap_i64]; omega
  have hw2 : IntKind.i64.wrap (64 * (t - 1)) = 64 * (t - 1) := by rw [IntKind.wrap_i64]; omega
  have hw3 : IntKind.i64.wrap (64 * (t - 1) * (c : Int)) = 64 * (t - 1) * (c : Int) := by
    have h1 : 0 ≤ 64 * (t - 1) * (c : Int) := Int.mul_nonneg hb1.1 (by omega)
    have h2 : 64 * (t - 1) * (c : Int) ≤ 16256 * 2115 := Int.mul_le_mul hb1.2 (by omega) (by omega) (by omega)
    rw [IntKind.wrap_i64]
    generalize 64 * (t - 1) * (c : Int) = y at *
    omega
  clear hp z2 z3 z4 hc hb1 hcl
  go_enter Tryz.func59, Tryz.ntmps59
  go_wp2_with fail
  (obtain ⟨W0, hW0⟩ : ∃ W0 : World, W0 = (w).alloc (.cells #[.int .i64 f, .int .i64 t, .int .i64 s, .int .i64 l] 48) := ⟨_, rfl⟩); (have gW0 : ∀ (j : Nat) (o : Obj), ([Obj.cells #[.int .i64 f, .int .i64 t, .int .i64 s, .int .i64 l] 48] : List Obj)[j]? = some o → W0.heap[w.heap.size + j]? = some o := by rw [hW0]; exact allocs_get w _); (have zW0 : W0.heap.size = w.heap.size + 1 := by rw [hW0]; exact allocs_size w [Obj.cells #[.int .i64 f, .int .i64 t, .int .i64 s, .int .i64 l] 48]); (have bW0 : Below w.heap.size w W0 := by rw [hW0]; exact allocs_below w [Obj.cells #[.int .i64 f, .int .i64 t, .int .i64 s, .int .i64 l] 48]); (rw [← hW0]); (clear hW0)
  have g0 : W0.heap[w.heap.size]? = some (.cells #[.int .i64 f, .int .i64 t, .int .i64 s, .int .i64 l] 48 (0, 0)) := gW0 0 _ rfl
  refine (HK.out _).mono ?_
  rintro e w1 ⟨rfl, hb⟩
  obtain ⟨c0, c1, c2, c3⟩ := pa_cells (blk_below g0 hb rfl)
  have HB := Lib.hid (bW0.trans (hb.mono bW0.size))
  clear g0 gW0 bW0 zW0 hb HK c0 c2
  go_wp2_with fail
  ((have hS0 : (Below w1.heap.size w1 w1.drew ∧ w1.drew.cell? ⟨(w.heap.size), (1), none⟩ = some (.int .i64 t) ∧ w1.drew.cell? ⟨(w.heap.size), (3), none⟩ = some (.int .i64 l)) := ⟨((Below.refl _ w1)).drew, c1, c3⟩); (refine region_later (by kernel_rfl) [8] [0, 1, 2, 3, 4, 5, 6, 7] true (by kernel_rfl) (by kernel_rfl) (fun W' => (Below w1.heap.size w1 W' ∧ W'.cell? ⟨(w.heap.size), (1), none⟩ = some (.int .i64 t) ∧ W'.cell? ⟨(w.heap.size), (3), none⟩ = some (.int .i64 l))) hS0 ?_); (have hSB : ∀ W' W'' : World, (Below w1.heap.size w1 W' ∧ W'.cell? ⟨(w.heap.size), (1), none⟩ = some (.int .i64 t) ∧ W'.cell? ⟨(w.heap.size), (3), none⟩ = some (.int .i64 l)) → Below W'.heap.size W' W'' → (Below w1.heap.size w1 W'' ∧ W''.cell? ⟨(w.heap.size), (1), none⟩ = some (.int .i64 t) ∧ W''.cell? ⟨(w.heap.size), (3), none⟩ = some (.int .i64 l)) := fun W' W'' ⟨h0, h1, h2⟩ hb => ⟨h0.trans (hb.mono h0.size), cell_keep h1 hb, cell_keep h2 hb⟩); (clear c1 c3); (iterate 8 (refine chainL_op (by rfl) (by rfl) ?_ ?_ ?_; rotate_left; (focus (intro W' hS' K hK; (try simp only [put_some, List.set] at hK); (have hS'' := hS'); (obtain ⟨s0, s1, s2⟩ := hS''); go_simp; (first | exact hK _ hS' (Later.refl _) | (with_reducible refine Calls.mono (HC.out _) ?_; rintro e W'' ⟨rfl, hb''⟩; exact hK _ (hSB _ _ hS' hb'') (Later.of hb''))); done)); (try simp only [put_some, List.set]))); (refine chainL_nil ?_))
  refine spineL_op (by rfl) (by rfl) (fun X1 hS1 hL1 K hK => ?_)
  go_simp
  refine hK _ _ (fun _ => hS1) ?_
  (try simp only [put_some, List.set])
  refine spineL_nil fun X2 hL2 hS2 => ?_
  have HB2 := Lib.hid (HB.out.trans ((hS2 rfl).1.mono HB.out.size))
  clear hS1 hS2 hL1 hL2 hSB hS0 K hK
  go_wp2
  go_ret
  exact ⟨by first | (rw [HR.out]; done) | (rw [HR.out]; rfl), HB2.out⟩

set_option maxRecDepth 100000 in
set_option maxHeartbeats 4000000 in
theorem topRight (p : Pa) (A1 A2 : Option Addr) (n c1 m c2 : Nat) (w : World) :
    Calls Tryz.prog 22 #[.agg #[.int .i64 p.field, .int .i64 p.thr, .int .i64 p.shr, .int .i64 p.len, .slice A1 n c1, .slice A2 m c2]] w fun e w' => ∃ r : Bool, e = .returned (.bool r) ∧ (r = true → p.len = n ∧ p.checkE = 0 ∧ p.random ≤ (m : Int) ∧ p.shr ≤ 8 ∧ n ≤ 70 ∧ m < 5000) ∧ Below w.heap.size w w' := by
  have HK := Lib.hid (refCheck p)
  have HRn := Lib.hid (refRandom p)
  have HT := Lib.hid (show p.len = (n : Int) → p.checkE = 0 → p.random ≤ (m : Int) → p.shr ≤ 8 → n ≤ 70 → m < 5000 → (p.len = (n : Int) ∧ p.checkE = 0 ∧ p.random ≤ (m : Int) ∧ p.shr ≤ 8 ∧ n ≤ 70 ∧ m < 5000) from fun a b c d e f => ⟨a, b, c, d, e, f⟩)
  obtain ⟨ck, hck⟩ : ∃ ck, p.checkE = ck := ⟨_, rfl⟩
  obtain ⟨rd, hrd⟩ : ∃ rd, p.random = rd := ⟨_, rfl⟩
  rw [hck, hrd] at HRn HT
  rw [hck] at HK
  rw [hck, hrd]
  clear hck hrd
  obtain ⟨f, t, s, l⟩ := p
  unfold Pa.val Pa.cells at *
  simp only [] at *
  have HB0 := Lib.hid ((Below.refl _ w).alloc (Nat.le_refl _) (.cells #[.int .i64 f, .int .i64 t, .int .i64 s, .int .i64 l, .slice A1 n c1, .slice A2 m c2] 60))
  by_cases h1 : l = (n : Int)
  · subst h1
    by_cases h2 : (n : Int) ≤ 70
    · by_cases h3 : s ≤ 8
      · by_cases h4 : ck = 0
        · subst h4
          have HRd := Lib.hid (HRn.out rfl)
          clear HRn
          by_cases h5 : rd ≤ (m : Int)
          · by_cases h6 : (m : Int) < 5000
            · have HTT := Lib.hid (HT.out rfl rfl h5 h3 (by omega) (by omega))
              go_enter Tryz.func22, Tryz.ntmps22
              go_wp2_with fail
              (obtain ⟨W0, hW0⟩ : ∃ W0 : World, W0 = (w).alloc (.cells #[.int .i64 f, .int .i64 t, .int .i64 s, .int .i64 n, .slice A1 n c1, .slice A2 m c2] 60) := ⟨_, rfl⟩); (have gW0 : ∀ (j : Nat) (o : Obj), ([Obj.cells #[.int .i64 f, .int .i64 t, .int .i64 s, .int .i64 n, .slice A1 n c1, .slice A2 m c2] 60] : List Obj)[j]? = some o → W0.heap[w.heap.size + j]? = some o := by rw [hW0]; exact allocs_get w _); (have zW0 : W0.heap.size = w.heap.size + 1 := by rw [hW0]; exact allocs_size w [Obj.cells #[.int .i64 f, .int .i64 t, .int .i64 s, .int .i64 n, .slice A1 n c1, .slice A2 m c2] 60]); (have bW0 : Below w.heap.size w W0 := by rw [hW0]; exact allocs_below w [Obj.cells #[.int .i64 f, .int .i64 t, .int .i64 s, .int .i64 n, .slice A1 n c1, .slice A2 m c2] 60]); (rw [← hW0]); (clear hW0)
              have g0 : W0.heap[w.heap.size]? = some (.cells #[.int .i64 f, .int .i64 t, .int .i64 s, .int .i64 n, .slice A1 n c1, .slice A2 m c2] 60 (0, 0)) := gW0 0 _ rfl
              have x0 : W0.cell? ⟨w.heap.size, 0, none⟩ = some (.int .i64 f) := row_cell (cs := [_, _, _, _, _, _]) g0 0 rfl
              have x1 : W0.cell? ⟨w.heap.size, 1, none⟩ = some (.int .i64 t) := row_cell (cs := [_, _, _, _, _, _]) g0 1 rfl
              have x2 : W0.cell? ⟨w.heap.size, 2, none⟩ = some (.int .i64 s) := row_cell (cs := [_, _, _, _, _, _]) g0 2 rfl
              have x3 : W0.cell? ⟨w.heap.size, 3, none⟩ = some (.int .i64 n) := row_cell (cs := [_, _, _, _, _, _]) g0 3 rfl
              have x4 : W0.cell? ⟨w.heap.size, 4, none⟩ = some (.slice A1 n c1) := row_cell (cs := [_, _, _, _, _, _]) g0 4 rfl
              have x5 : W0.cell? ⟨w.heap.size, 5, none⟩ = some (.slice A2 m c2) := row_cell (cs := [_, _, _, _, _, _]) g0 5 rfl
              have HB := Lib.hid bW0
              clear gW0 zW0 g0 bW0 HT
              ((have hS0 : (Below W0.heap.size W0 W0.drew ∧ W0.drew.cell? ⟨(w.heap.size), (0), none⟩ = some (.int .i64 f) ∧ W0.drew.cell? ⟨(w.heap.size), (1), none⟩ = some (.int .i64 t) ∧ W0.drew.cell? ⟨(w.heap.size), (2), none⟩ = some (.int .i64 s) ∧ W0.drew.cell? ⟨(w.heap.size), (3), none⟩ = some (.int .i64 n) ∧ W0.drew.cell? ⟨(w.heap.size), (4), none⟩ = some (.slice A1 n c1) ∧ W0.drew.cell? ⟨(w.heap.size), (5), none⟩ = some (.slice A2 m c2)) := ⟨((Below.refl _ W0)).drew, x0, x1, x2, x3, x4, x5⟩); (refine region_later (by kernel_rfl) [40] [0, 1, 2, 3, 4, 5, 6, 7, 8, 9, 10, 11, 12, 13, 14, 15, 16, 17, 18, 19, 20, 21, 22, 23, 24, 25, 26, 27, 28, 29, 30, 31, 32, 33, 34, 35, 36, 37, 38, 39] true (by kernel_rfl) (by kernel_rfl) (fun W' => (Below W0.heap.size W0 W' ∧ W'.cell? ⟨(w.heap.size), (0), none⟩ = some (.int .i64 f) ∧ W'.cell? ⟨(w.heap.size), (1), none⟩ = some (.int .i64 t) ∧ W'.cell? ⟨(w.heap.size), (2), none⟩ = some (.int .i64 s) ∧ W'.cell? ⟨(w.heap.size), (3), none⟩ = some (.int .i64 n) ∧ W'.cell? ⟨(w.heap.size), (4), none⟩ = some (.slice A1 n c1) ∧ W'.cell? ⟨(w.heap.size), (5), none⟩ = some (.slice A2 m c2))) hS0 ?_); (have hSB : ∀ W' W'' : World, (Below W0.heap.size W0 W' ∧ W'.cell? ⟨(w.heap.size), (0), none⟩ = some (.int .i64 f) ∧ W'.cell? ⟨(w.heap.size), (1), none⟩ = some (.int .i64 t) ∧ W'.cell? ⟨(w.heap.size), (2), none⟩ = some (.int .i64 s) ∧ W'.cell? ⟨(w.heap.size), (3), none⟩ = some (.int .i64 n) ∧ W'.cell? ⟨(w.heap.size), (4), none⟩ = some (.slice A1 n c1) ∧ W'.cell? ⟨(w.heap.size), (5), none⟩ = some (.slice A2 m c2)) → Below W'.heap.size W' W'' → (Below W0.heap.size W0 W'' ∧ W''.cell? ⟨(w.heap.size), (0), none⟩ = some (.int .i64 f) ∧ W''.cell? ⟨(w.heap.size), (1), none⟩ = some (.int .i64 t) ∧ W''.cell? ⟨(w.heap.size), (2), none⟩ = some (.int .i64 s) ∧ W''.cell? ⟨(w.heap.size), (3), none⟩ = some (.int .i64 n) ∧ W''.cell? ⟨(w.heap.size), (4), none⟩ = some (.slice A1 n c1) ∧ W''.cell? ⟨(w.heap.size), (5), none⟩ = some (.slice A2 m c2)) := fun W' W'' ⟨h0, h1, h2, h3, h4, h5, h6⟩ hb => ⟨h0.trans (hb.mono h0.size), cell_keep h1 hb, cell_keep h2 hb, cell_keep h3 hb, cell_keep h4 hb, cell_keep h5 hb, cell_keep h6 hb⟩); (clear x0 x1 x2 x3 x4 x5); (iterate 40 (first | ((first | (refine chainL_op (by rfl) (by rfl) ?_ ?_ ?_) | (refine chainL_opG (by rfl) (by rfl) ?_ ?_ ?_)); rotate_left; (focus (intro W' hS' K hK; (try simp only [put_some, List.set] at hK); (have hS'' := hS'); (obtain ⟨s0, s1, s2, s3, s4, s5, s6⟩ := hS''); go_simp; (first | exact hK _ hS' (Later.refl _) | (with_reducible refine Calls.mono (HK.out _) ?_; rintro e W'' ⟨rfl, hb''⟩; exact hK _ (hSB _ _ hS' hb'') (Later.of hb'')) | (with_reducible refine Calls.mono (HRd.out _) ?_; rintro e W'' ⟨rfl, hb''⟩; exact hK _ (hSB _ _ hS' hb'') (Later.of hb''))); done)); (try simp only [put_some, List.set])) | ((refine chainL_opU (by rfl) (by rfl) ?_); (try simp only [put_some, List.set])))); (refine chainL_nil ?_))
              refine spineL_op (by rfl) (by rfl) (fun X1 hS1 hL1 K hK => ?_)
              go_simp
              refine hK _ _ (fun _ => hS1) ?_
              (try simp only [put_some, List.set])
              refine spineL_nil fun X2 hL2 hS2 => ?_
              have HB2 := Lib.hid (HB.out.trans ((hS2 rfl).1.mono HB.out.size))
              clear hS1 hS2 hL1 hL2 hSB hS0 K hK
              go_wp2
              go_ret
              exact ⟨true, rfl, fun _ => HTT.out, HB2.out⟩
            · have E6 := Lib.hid (show decide ((m : Int) < 5000) = false from by simpa using h6)
              clear h6
              go_enter Tryz.func22, Tryz.ntmps22
              go_wp2_with fail
              (obtain ⟨W0, hW0⟩ : ∃ W0 : World, W0 = (w).alloc (.cells #[.int .i64 f, .int .i64 t, .int .i64 s, .int .i64 n, .slice A1 n c1, .slice A2 m c2] 60) := ⟨_, rfl⟩); (have gW0 : ∀ (j : Nat) (o : Obj), ([Obj.cells #[.int .i64 f, .int .i64 t, .int .i64 s, .int .i64 n, .slice A1 n c1, .slice A2 m c2] 60] : List Obj)[j]? = some o → W0.heap[w.heap.size + j]? = some o := by rw [hW0]; exact allocs_get w _); (have zW0 : W0.heap.size = w.heap.size + 1 := by rw [hW0]; exact allocs_size w [Obj.cells #[.int .i64 f, .int .i64 t, .int .i64 s, .int .i64 n, .slice A1 n c1, .slice A2 m c2] 60]); (have bW0 : Below w.heap.size w W0 := by rw [hW0]; exact allocs_below w [Obj.cells #[.int .i64 f, .int .i64 t, .int .i64 s, .int .i64 n, .slice A1 n c1, .slice A2 m c2] 60]); (rw [← hW0]); (clear hW0)
              have g0 : W0.heap[w.heap.size]? = some (.cells #[.int .i64 f, .int .i64 t, .int .i64 s, .int .i64 n, .slice A1 n c1, .slice A2 m c2] 60 (0, 0)) := gW0 0 _ rfl
              have x0 : W0.cell? ⟨w.heap.size, 0, none⟩ = some (.int .i64 f) := row_cell (cs := [_, _, _, _, _, _]) g0 0 rfl
              have x1 : W0.cell? ⟨w.heap.size, 1, none⟩ = some (.int .i64 t) := row_cell (cs := [_, _, _, _, _, _]) g0 1 rfl
              have x2 : W0.cell? ⟨w.heap.size, 2, none⟩ = some (.int .i64 s) := row_cell (cs := [_, _, _, _, _, _]) g0 2 rfl
              have x3 : W0.cell? ⟨w.heap.size, 3, none⟩ = some (.int .i64 n) := row_cell (cs := [_, _, _, _, _, _]) g0 3 rfl
              have x4 : W0.cell? ⟨w.heap.size, 4, none⟩ = some (.slice A1 n c1) := row_cell (cs := [_, _, _, _, _, _]) g0 4 rfl
              have x5 : W0.cell? ⟨w.heap.size, 5, none⟩ = some (.slice A2 m c2) := row_cell (cs := [_, _, _, _, _, _]) g0 5 rfl
              have HB := Lib.hid bW0
              clear gW0 zW0 g0 bW0 HT
              ((have hS0 : (Below W0.heap.size W0 W0.drew ∧ W0.drew.cell? ⟨(w.heap.size), (0), none⟩ = some (.int .i64 f) ∧ W0.drew.cell? ⟨(w.heap.size), (1), none⟩ = some (.int .i64 t) ∧ W0.drew.cell? ⟨(w.heap.size), (2), none⟩ = some (.int .i64 s) ∧ W0.drew.cell? ⟨(w.heap.size), (3), none⟩ = some (.int .i64 n) ∧ W0.drew.cell? ⟨(w.heap.size), (4), none⟩ = some (.slice A1 n c1) ∧ W0.drew.cell? ⟨(w.heap.size), (5), none⟩ = some (.slice A2 m c2)) := ⟨((Below.refl _ W0)).drew, x0, x1, x2, x3, x4, x5⟩); (refine region_later (by kernel_rfl) [40] [0, 1, 2, 3, 4, 5, 6, 7, 8, 9, 10, 11, 12, 13, 14, 15, 16, 17, 18, 19, 20, 21, 22, 23, 24, 25, 26, 27, 28, 29, 30, 31, 32, 33, 34, 35, 36, 37, 38, 39] true (by kernel_rfl) (by kernel_rfl) (fun W' => (Below W0.heap.size W0 W' ∧ W'.cell? ⟨(w.heap.size), (0), none⟩ = some (.int .i64 f) ∧ W'.cell? ⟨(w.heap.size), (1), none⟩ = some (.int .i64 t) ∧ W'.cell? ⟨(w.heap.size), (2), none⟩ = some (.int .i64 s) ∧ W'.cell? ⟨(w.heap.size), (3), none⟩ = some (.int .i64 n) ∧ W'.cell? ⟨(w.heap.size), (4), none⟩ = some (.slice A1 n c1) ∧ W'.cell? ⟨(w.heap.size), (5), none⟩ = some (.slice A2 m c2))) hS0 ?_); (have hSB : ∀ W' W'' : World, (Below W0.heap.size W0 W' ∧ W'.cell? ⟨(w.heap.size), (0), none⟩ = some (.int .i64 f) ∧ W'.cell? ⟨(w.heap.size), (1), none⟩ = some (.int .i64 t) ∧ W'.cell? ⟨(w.heap.size), (2), none⟩ = some (.int .i64 s) ∧ W'.cell? ⟨(w.heap.size), (3), none⟩ = some (.int .i64 n) ∧ W'.cell? ⟨(w.heap.size), (4), none⟩ = some (.slice A1 n c1) ∧ W'.cell? ⟨(w.heap.size), (5), none⟩ = some (.slice A2 m c2)) → Below W'.heap.size W' W'' → (Below W0.heap.size W0 W'' ∧ W''.cell? ⟨(w.heap.size), (0), none⟩ = some (.int .i64 f) ∧ W''.cell? ⟨(w.heap.size), (1), none⟩ = some (.int .i64 t) ∧ W''.cell? ⟨(w.heap.size), (2), none⟩ = some (.int .i64 s) ∧ W''.cell? ⟨(w.heap.size), (3), none⟩ = some (.int .i64 n) ∧ W''.cell? ⟨(w.heap.size), (4), none⟩ = some (.slice A1 n c1) ∧ W''.cell? ⟨(w.heap.size), (5), none⟩ = some (.slice A2 m c2)) := fun W' W'' ⟨h0, h1, h2, h3, h4, h5, h6⟩ hb => ⟨h0.trans (hb.mono h0.size), cell_keep h1 hb, cell_keep h2 hb, cell_keep h3 hb, cell_keep h4 hb, cell_keep h5 hb, cell_keep h6 hb⟩); (clear x0 x1 x2 x3 x4 x5); (iterate 40 (first | ((first | (refine chainL_op (by rfl) (by rfl) ?_ ?_ ?_) | (refine chainL_opG (by rfl) (by rfl) ?_ ?_ ?_)); rotate_left; (focus (intro W' hS' K hK; (try simp only [put_some, List.set] at hK); (have hS'' := hS'); (obtain ⟨s0, s1, s2, s3, s4, s5, s6⟩ := hS''); go_simp; (first | exact hK _ hS' (Later.refl _) | (with_reducible refine Calls.mono (HK.out _) ?_; rintro e W'' ⟨rfl, hb''⟩; exact hK _ (hSB _ _ hS' hb'') (Later.of hb'')) | (with_reducible refine Calls.mono (HRd.out _) ?_; rintro e W'' ⟨rfl, hb''⟩; exact hK _ (hSB _ _ hS' hb'') (Later.of hb''))); done)); (try simp only [put_some, List.set, E6.out])) | ((refine chainL_opU (by rfl) (by rfl) ?_); (try simp only [put_some, List.set])))); (refine chainL_nil ?_))
              refine spineL_op (by rfl) (by rfl) (fun X1 hS1 hL1 K hK => ?_)
              go_simp
              refine hK _ _ (fun _ => hS1) ?_
              (try simp only [put_some, List.set])
              refine spineL_nil fun X2 hL2 hS2 => ?_
              have HB2 := Lib.hid (HB.out.trans ((hS2 rfl).1.mono HB.out.size))
              clear hS1 hS2 hL1 hL2 hSB hS0 K hK
              go_wp2
              go_ret
              exact ⟨false, rfl, (fun h => by cases h), HB2.out⟩
          · have E5 := Lib.hid (show decide (rd ≤ (m : Int)) = false from by simpa using h5)
            clear h5
            go_enter Tryz.func22, Tryz.ntmps22
            go_wp2_with fail
            (obtain ⟨W0, hW0⟩ : ∃ W0 : World, W0 = (w).alloc (.cells #[.int .i64 f, .int .i64 t, .int .i64 s, .int .i64 n, .slice A1 n c1, .slice A2 m c2] 60) := ⟨_, rfl⟩); (have gW0 : ∀ (j : Nat) (o : Obj), ([Obj.cells #[.int .i64 f, .int .i64 t, .int .i64 s, .int .i64 n, .slice A1 n c1, .slice A2 m c2] 60] : List Obj)[j]? = some o → W0.heap[w.heap.size + j]? = some o := by rw [hW0]; exact allocs_get w _); (have zW0 : W0.heap.size = w.heap.size + 1 := by rw [hW0]; exact allocs_size w [Obj.cells #[.int .i64 f, .int .i64 t, .int .i64 s, .int .i64 n, .slice A1 n c1, .slice A2 m c2] 60]); (have bW0 : Below w.heap.size w W0 := by rw [hW0]; exact allocs_below w [Obj.cells #[.int .i64 f, .int .i64 t, .int .i64 s, .int .i64 n, .slice A1 n c1, .slice A2 m c2] 60]); (rw [← hW0]); (clear hW0)
            have g0 : W0.heap[w.heap.size]? = some (.cells #[.int .i64 f, .int .i64 t, .int .i64 s, .int .i64 n, .slice A1 n c1, .slice A2 m c2] 60 (0, 0)) := gW0 0 _ rfl
            have x0 : W0.cell? ⟨w.heap.size, 0, none⟩ = some (.int .i64 f) := row_cell (cs := [_, _, _, _, _, _]) g0 0 rfl
            have x1 : W0.cell? ⟨w.heap.size, 1, none⟩ = some (.int .i64 t) := row_cell (cs := [_, _, _, _, _, _]) g0 1 rfl
            have x2 : W0.cell? ⟨w.heap.size, 2, none⟩ = some (.int .i64 s) := row_cell (cs := [_, _, _, _, _, _]) g0 2 rfl
            have x3 : W0.cell? ⟨w.heap.size, 3, none⟩ = some (.int .i64 n) := row_cell (cs := [_, _, _, _, _, _]) g0 3 rfl
            have x4 : W0.cell? ⟨w.heap.size, 4, none⟩ = some (.slice A1 n c1) := row_cell (cs := [_, _, _, _, _, _]) g0 4 rfl
            have x5 : W0.cell? ⟨w.heap.size, 5, none⟩ = some (.slice A2 m c2) := row_cell (cs := [_, _, _, _, _, _]) g0 5 rfl
            have HB := Lib.hid bW0
            clear gW0 zW0 g0 bW0 HT
            ((have hS0 : (Below W0.heap.size W0 W0.drew ∧ W0.drew.cell? ⟨(w.heap.size), (0), none⟩ = some (.int .i64 f) ∧ W0.drew.cell? ⟨(w.heap.size), (1), none⟩ = some (.int .i64 t) ∧ W0.drew.cell? ⟨(w.heap.size), (2), none⟩ = some (.int .i64 s) ∧ W0.drew.cell? ⟨(w.heap.size), (3), none⟩ = some (.int .i64 n) ∧ W0.drew.cell? ⟨(w.heap.size), (4), none⟩ = some (.slice A1 n c1) ∧ W0.drew.cell? ⟨(w.heap.size), (5), none⟩ = some (.slice A2 m c2)) := ⟨((Below.refl _ W0)).drew, x0, x1, x2, x3, x4, x5⟩); (refine region_later (by kernel_rfl) [40] [0, 1, 2, 3, 4, 5, 6, 7, 8, 9, 10, 11, 12, 13, 14, 15, 16, 17, 18, 19, 20, 21, 22, 23, 24, 25, 26, 27, 28, 29, 30, 31, 32, 33, 34, 35, 36, 37, 38, 39] true (by kernel_rfl) (by kernel_rfl) (fun W' => (Below W0.heap.size W0 W' ∧ W'.cell? ⟨(w.heap.size), (0), none⟩ = some (.int .i64 f) ∧ W'.cell? ⟨(w.heap.size), (1), none⟩ = some (.int .i64 t) ∧ W'.cell? ⟨(w.heap.size), (2), none⟩ = some (.int .i64 s) ∧ W'.cell? ⟨(w.heap.size), (3), none⟩ = some (.int .i64 n) ∧ W'.cell? ⟨(w.heap.size), (4), none⟩ = some (.slice A1 n c1) ∧ W'.cell? ⟨(w.heap.size), (5), none⟩ = some (.slice A2 m c2))) hS0 ?_); (have hSB : ∀ W' W'' : World, (Below W0.heap.size W0 W' ∧ W'.cell? ⟨(w.heap.size), (0), none⟩ = some (.int .i64 f) ∧ W'.cell? ⟨(w.heap.size), (1), none⟩ = some (.int .i64 t) ∧ W'.cell? ⟨(w.heap.size), (2), none⟩ = some (.int .i64 s) ∧ W'.cell? ⟨(w.heap.size), (3), none⟩ = some (.int .i64 n) ∧ W'.cell? ⟨(w.heap.size), (4), none⟩ = some (.slice A1 n c1) ∧ W'.cell? ⟨(w.heap.size), (5), none⟩ = some (.slice A2 m c2)) → Below W'.heap.size W' W'' → (Below W0.heap.size W0 W'' ∧ W''.cell? ⟨(w.heap.size), (0), none⟩ = some (.int .i64 f) ∧ W''.cell? ⟨(w.heap.size), (1), none⟩ = some (.int .i64 t) ∧ W''.cell? ⟨(w.heap.size), (2), none⟩ = some (.int .i64 s) ∧ W''.cell? ⟨(w.heap.size), (3), none⟩ = some (.int .i64 n) ∧ W''.cell? ⟨(w.heap.size), (4), none⟩ = some (.slice A1 n c1) ∧ W''.cell? ⟨(w.heap.size), (5), none⟩ = some (.slice A2 m c2)) := fun W' W'' ⟨h0, h1, h2, h3, h4, h5, h6⟩ hb => ⟨h0.trans (hb.mono h0.size), cell_keep h1 hb, cell_keep h2 hb, cell_keep h3 hb, cell_keep h4 hb, cell_keep h5 hb, cell_keep h6 hb⟩); (clear x0 x1 x2 x3 x4 x5); (iterate 40 (first | ((first | (refine chainL_op (by rfl) (by rfl) ?_ ?_ ?_) | (refine chainL_opG (by rfl) (by rfl) ?_ ?_ ?_)); rotate_left; (focus (intro W' hS' K hK; (try simp only [put_some, List.set] at hK); (have hS'' := hS'); (obtain ⟨s0, s1, s2, s3, s4, s5, s6⟩ := hS''); go_simp; (first | exact hK _ hS' (Later.refl _) | (with_reducible refine Calls.mono (HK.out _) ?_; rintro e W'' ⟨rfl, hb''⟩; exact hK _ (hSB _ _ hS' hb'') (Later.of hb'')) | (with_reducible refine Calls.mono (HRd.out _) ?_; rintro e W'' ⟨rfl, hb''⟩; exact hK _ (hSB _ _ hS' hb'') (Later.of hb''))); done)); (try simp only [put_some, List.set, E5.out])) | ((refine chainL_opU (by rfl) (by rfl) ?_); (try simp only [put_some, List.set])))); (refine chainL_nil ?_))
            refine spineL_op (by rfl) (by rfl) (fun X1 hS1 hL1 K hK => ?_)
            go_simp
            refine hK _ _ (fun _ => hS1) ?_
            (try simp only [put_some, List.set])
            refine spineL_nil fun X2 hL2 hS2 => ?_
            have HB2 := Lib.hid (HB.out.trans ((hS2 rfl).1.mono HB.out.size))
            clear hS1 hS2 hL1 hL2 hSB hS0 K hK
            go_wp2
            go_ret
            exact ⟨false, rfl, (fun h => by cases h), HB2.out⟩
        · have E4 := Lib.hid (show (ck == 0) = false from beq_eq_false_iff_ne.2 h4)
          clear h4 HRn
          go_enter Tryz.func22, Tryz.ntmps22
          go_wp2_with fail
          (obtain ⟨W0, hW0⟩ : ∃ W0 : World, W0 = (w).alloc (.cells #[.int .i64 f, .int .i64 t, .int .i64 s, .int .i64 n, .slice A1 n c1, .slice A2 m c2] 60) := ⟨_, rfl⟩); (have gW0 : ∀ (j : Nat) (o : Obj), ([Obj.cells #[.int .i64 f, .int .i64 t, .int .i64 s, .int .i64 n, .slice A1 n c1, .slice A2 m c2] 60] : List Obj)[j]? = some o → W0.heap[w.heap.size + j]? = some o := by rw [hW0]; exact allocs_get w _); (have zW0 : W0.heap.size = w.heap.size + 1 := by rw [hW0]; exact allocs_size w [Obj.cells #[.int .i64 f, .int .i64 t, .int .i64 s, .int .i64 n, .slice A1 n c1, .slice A2 m c2] 60]); (have bW0 : Below w.heap.size w W0 := by rw [hW0]; exact allocs_below w [Obj.cells #[.int .i64 f, .int .i64 t, .int .i64 s, .int .i64 n, .slice A1 n c1, .slice A2 m c2] 60]); (rw [← hW0]); (clear hW0)
          have g0 : W0.heap[w.heap.size]? = some (.cells #[.int .i64 f, .int .i64 t, .int .i64 s, .int .i64 n, .slice A1 n c1, .slice A2 m c2] 60 (0, 0)) := gW0 0 _ rfl
          have x0 : W0.cell? ⟨w.heap.size, 0, none⟩ = some (.int .i64 f) := row_cell (cs := [_, _, _, _, _, _]) g0 0 rfl
          have x1 : W0.cell? ⟨w.heap.size, 1, none⟩ = some (.int .i64 t) := row_cell (cs := [_, _, _, _, _, _]) g0 1 rfl
          have x2 : W0.cell? ⟨w.heap.size, 2, none⟩ = some (.int .i64 s) := row_cell (cs := [_, _, _, _, _, _]) g0 2 rfl
          have x3 : W0.cell? ⟨w.heap.size, 3, none⟩ = some (.int .i64 n) := row_cell (cs := [_, _, _, _, _, _]) g0 3 rfl
          have x4 : W0.cell? ⟨w.heap.size, 4, none⟩ = some (.slice A1 n c1) := row_cell (cs := [_, _, _, _, _, _]) g0 4 rfl
          have x5 : W0.cell? ⟨w.heap.size, 5, none⟩ = some (.slice A2 m c2) := row_cell (cs := [_, _, _, _, _, _]) g0 5 rfl
          have HB := Lib.hid bW0
          clear gW0 zW0 g0 bW0 HT
          ((have hS0 : (Below W0.heap.size W0 W0.drew ∧ W0.drew.cell? ⟨(w.heap.size), (0), none⟩ = some (.int .i64 f) ∧ W0.drew.cell? ⟨(w.heap.size), (1), none⟩ = some (.int .i64 t) ∧ W0.drew.cell? ⟨(w.heap.size), (2), none⟩ = some (.int .i64 s) ∧ W0.drew.cell? ⟨(w.heap.size), (3), none⟩ = some (.int .i64 n) ∧ W0.drew.cell? ⟨(w.heap.size), (4), none⟩ = some (.slice A1 n c1) ∧ W0.drew.cell? ⟨(w.heap.size), (5), none⟩ = some (.slice A2 m c2)) := ⟨((Below.refl _ W0)).drew, x0, x1, x2, x3, x4, x5⟩); (refine region_later (by kernel_rfl) [40] [0, 1, 2, 3, 4, 5, 6, 7, 8, 9, 10, 11, 12, 13, 14, 15, 16, 17, 18, 19, 20, 21, 22, 23, 24, 25, 26, 27, 28, 29, 30, 31, 32, 33, 34, 35, 36, 37, 38, 39] true (by kernel_rfl) (by kernel_rfl) (fun W' => (Below W0.heap.size W0 W' ∧ W'.cell? ⟨(w.heap.size), (0), none⟩ = some (.int .i64 f) ∧ W'.cell? ⟨(w.heap.size), (1), none⟩ = some (.int .i64 t) ∧ W'.cell? ⟨(w.heap.size), (2), none⟩ = some (.int .i64 s) ∧ W'.cell? ⟨(w.heap.size), (3), none⟩ = some (.int .i64 n) ∧ W'.cell? ⟨(w.heap.size), (4), none⟩ = some (.slice A1 n c1) ∧ W'.cell? ⟨(w.heap.size), (5), none⟩ = some (.slice A2 m c2))) hS0 ?_); (have hSB : ∀ W' W'' : World, (Below W0.heap.size W0 W' ∧ W'.cell? ⟨(w.heap.size), (0), none⟩ = some (.int .i64 f) ∧ W'.cell? ⟨(w.heap.size), (1), none⟩ = some (.int .i64 t) ∧ W'.cell? ⟨(w.heap.size), (2), none⟩ = some (.int .i64 s) ∧ W'.cell? ⟨(w.heap.size), (3), none⟩ = some (.int .i64 n) ∧ W'.cell? ⟨(w.heap.size), (4), none⟩ = some (.slice A1 n c1) ∧ W'.cell? ⟨(w.heap.size), (5), none⟩ = some (.slice A2 m c2)) → Below W'.heap.size W' W'' → (Below W0.heap.size W0 W'' ∧ W''.cell? ⟨(w.heap.size), (0), none⟩ = some (.int .i64 f) ∧ W''.cell? ⟨(w.heap.size), (1), none⟩ = some (.int .i64 t) ∧ W''.cell? ⟨(w.heap.size), (2), none⟩ = some (.int .i64 s) ∧ W''.cell? ⟨(w.heap.size), (3), none⟩ = some (.int .i64 n) ∧ W''.cell? ⟨(w.heap.size), (4), none⟩ = some (.slice A1 n c1) ∧ W''.cell? ⟨(w.heap.size), (5), none⟩ = some (.slice A2 m c2)) := fun W' W'' ⟨h0, h1, h2, h3, h4, h5, h6⟩ hb => ⟨h0.trans (hb.mono h0.size), cell_keep h1 hb, cell_keep h2 hb, cell_keep h3 hb, cell_keep h4 hb, cell_keep h5 hb, cell_keep h6 hb⟩); (clear x0 x1 x2 x3 x4 x5); (iterate 40 (first | ((first | (refine chainL_op (by rfl) (by rfl) ?_ ?_ ?_) | (refine chainL_opG (by rfl) (by rfl) ?_ ?_ ?_)); rotate_left; (focus (intro W' hS' K hK; (try simp only [put_some, List.set] at hK); (have hS'' := hS'); (obtain ⟨s0, s1, s2, s3, s4, s5, s6⟩ := hS''); go_simp; (first | exact hK _ hS' (Later.refl _) | (with_reducible refine Calls.mono (HK.out _) ?_; rintro e W'' ⟨rfl, hb''⟩; exact hK _ (hSB _ _ hS' hb'') (Later.of hb''))); done)); (try simp only [put_some, List.set, E4.out])) | ((refine chainL_opU (by rfl) (by rfl) ?_); (try simp only [put_some, List.set])))); (refine chainL_nil ?_))
          refine spineL_op (by rfl) (by rfl) (fun X1 hS1 hL1 K hK => ?_)
          go_simp
          refine hK _ _ (fun _ => hS1) ?_
          (try simp only [put_some, List.set])
          refine spineL_nil fun X2 hL2 hS2 => ?_
          have HB2 := Lib.hid (HB.out.trans ((hS2 rfl).1.mono HB.out.size))
          clear hS1 hS2 hL1 hL2 hSB hS0 K hK
          go_wp2
          go_ret
          exact ⟨false, rfl, (fun h => by cases h), HB2.out⟩
      · have E3 := Lib.hid (show decide (s ≤ 8) = false from by simpa using h3)
        clear h3
        go_enter Tryz.func22, Tryz.ntmps22
        go_wp2_with fail
        (obtain ⟨W0, hW0⟩ : ∃ W0 : World, W0 = (w).alloc (.cells #[.int .i64 f, .int .i64 t, .int .i64 s, .int .i64 n, .slice A1 n c1, .slice A2 m c2] 60) := ⟨_, rfl⟩); (have gW0 : ∀ (j : Nat) (o : Obj), ([Obj.cells #[.int .i64 f, .int .i64 t, .int .i64 s, .int .i64 n, .slice A1 n c1, .slice A2 m c2] 60] : List Obj)[j]? = some o → W0.heap[w.heap.size + j]? = some o := by rw [hW0]; exact allocs_get w _); (have zW0 : W0.heap.size = w.heap.size + 1 := by rw [hW0]; exact allocs_size w [Obj.cells #[.int .i64 f, .int .i64 t, .int .i64 s, .int .i64 n, .slice A1 n c1, .slice A2 m c2] 60]); (have bW0 : Below w.heap.size w W0 := by rw [hW0]; exact allocs_below w [Obj.cells #[.int .i64 f, .int .i64 t, .int .i64 s, .int .i64 n, .slice A1 n c1, .slice A2 m c2] 60]); (rw [← hW0]); (clear hW0)
        have g0 : W0.heap[w.heap.size]? = some (.cells #[.int .i64 f, .int .i64 t, .int .i64 s, .int .i64 n, .slice A1 n c1, .slice A2 m c2] 60 (0, 0)) := gW0 0 _ rfl
        have x0 : W0.cell? ⟨w.heap.size, 0, none⟩ = some (.int .i64 f) := row_cell (cs := [_, _, _, _, _, _]) g0 0 rfl
        have x1 : W0.cell? ⟨w.heap.size, 1, none⟩ = some (.int .i64 t) := row_cell (cs := [_, _, _, _, _, _]) g0 1 rfl
        have x2 : W0.cell? ⟨w.heap.size, 2, none⟩ = some (.int .i64 s) := row_cell (cs := [_, _, _, _, _, _]) g0 2 rfl
        have x3 : W0.cell? ⟨w.heap.size, 3, none⟩ = some (.int .i64 n) := row_cell (cs := [_, _, _, _, _, _]) g0 3 rfl
        have x4 : W0.cell? ⟨w.heap.size, 4, none⟩ = some (.slice A1 n c1) := row_cell (cs := [_, _, _, _, _, _]) g0 4 rfl
        have x5 : W0.cell? ⟨w.heap.size, 5, none⟩ = some (.slice A2 m c2) := row_cell (cs := [_, _, _, _, _, _]) g0 5 rfl
        have HB := Lib.hid bW0
        clear gW0 zW0 g0 bW0 HT
        ((have hS0 : (Below W0.heap.size W0 W0.drew ∧ W0.drew.cell? ⟨(w.heap.size), (0), none⟩ = some (.int .i64 f) ∧ W0.drew.cell? ⟨(w.heap.size), (1), none⟩ = some (.int .i64 t) ∧ W0.drew.cell? ⟨(w.heap.size), (2), none⟩ = some (.int .i64 s) ∧ W0.drew.cell? ⟨(w.heap.size), (3), none⟩ = some (.int .i64 n) ∧ W0.drew.cell? ⟨(w.heap.size), (4), none⟩ = some (.slice A1 n c1) ∧ W0.drew.cell? ⟨(w.heap.size), (5), none⟩ = some (.slice A2 m c2)) := ⟨((Below.refl _ W0)).drew, x0, x1, x2, x3, x4, x5⟩); (refine region_later (by kernel_rfl) [40] [0, 1, 2, 3, 4, 5, 6, 7, 8, 9, 10, 11, 12, 13, 14, 15, 16, 17, 18, 19, 20, 21, 22, 23, 24, 25, 26, 27, 28, 29, 30, 31, 32, 33, 34, 35, 36, 37, 38, 39] true (by kernel_rfl) (by kernel_rfl) (fun W' => (Below W0.heap.size W0 W' ∧ W'.cell? ⟨(w.heap.size), (0), none⟩ = some (.int .i64 f) ∧ W'.cell? ⟨(w.heap.size), (1), none⟩ = some (.int .i64 t) ∧ W'.cell? ⟨(w.heap.size), (2), none⟩ = some (.int .i64 s) ∧ W'.cell? ⟨(w.heap.size), (3), none⟩ = some (.int .i64 n) ∧ W'.cell? ⟨(w.heap.size), (4), none⟩ = some (.slice A1 n c1) ∧ W'.cell? ⟨(w.heap.size), (5), none⟩ = some (.slice A2 m c2))) hS0 ?_); (have hSB : ∀ W' W'' : World, (Below W0.heap.size W0 W' ∧ W'.cell? ⟨(w.heap.size), (0), none⟩ = some (.int .i64 f) ∧ W'.cell? ⟨(w.heap.size), (1), none⟩ = some (.int .i64 t) ∧ W'.cell? ⟨(w.heap.size), (2), none⟩ = some (.int .i64 s) ∧ W'.cell? ⟨(w.heap.size), (3), none⟩ = some (.int .i64 n) ∧ W'.cell? ⟨(w.heap.size), (4), none⟩ = some (.slice A1 n c1) ∧ W'.cell? ⟨(w.heap.size), (5), none⟩ = some (.slice A2 m c2)) → Below W'.heap.size W' W'' → (Below W0.heap.size W0 W'' ∧ W''.cell? ⟨(w.heap.size), (0), none⟩ = some (.int .i64 f) ∧ W''.cell? ⟨(w.heap.size), (1), none⟩ = some (.int .i64 t) ∧ W''.cell? ⟨(w.heap.size), (2), none⟩ = some (.int .i64 s) ∧ W''.cell? ⟨(w.heap.size), (3), none⟩ = some (.int .i64 n) ∧ W''.cell? ⟨(w.heap.size), (4), none⟩ = some (.slice A1 n c1) ∧ W''.cell? ⟨(w.heap.size), (5), none⟩ = some (.slice A2 m c2)) := fun W' W'' ⟨h0, h1, h2, h3, h4, h5, h6⟩ hb => ⟨h0.trans (hb.mono h0.size), cell_keep h1 hb, cell_keep h2 hb, cell_keep h3 hb, cell_keep h4 hb, cell_keep h5 hb, cell_keep h6 hb⟩); (clear x0 x1 x2 x3 x4 x5); (iterate 40 (first | ((first | (refine chainL_op (by rfl) (by rfl) ?_ ?_ ?_) | (refine chainL_opG (by rfl) (by rfl) ?_ ?_ ?_)); rotate_left; (focus (intro W' hS' K hK; (try simp only [put_some, List.set] at hK); (have hS'' := hS'); (obtain ⟨s0, s1, s2, s3, s4, s5, s6⟩ := hS''); go_simp; (first | exact hK _ hS' (Later.refl _) | (with_reducible refine Calls.mono (HK.out _) ?_; rintro e W'' ⟨rfl, hb''⟩; exact hK _ (hSB _ _ hS' hb'') (Later.of hb''))); done)); (try simp only [put_some, List.set, E3.out])) | ((refine chainL_opU (by rfl) (by rfl) ?_); (try simp only [put_some, List.set])))); (refine chainL_nil ?_))
        refine spineL_op (by rfl) (by rfl) (fun X1 hS1 hL1 K hK => ?_)
        go_simp
        refine hK _ _ (fun _ => hS1) ?_
        (try simp only [put_some, List.set])
        refine spineL_nil fun X2 hL2 hS2 => ?_
        have HB2 := Lib.hid (HB.out.trans ((hS2 rfl).1.mono HB.out.size))
        clear hS1 hS2 hL1 hL2 hSB hS0 K hK
        go_wp2
        go_ret
        exact ⟨false, rfl, (fun h => by cases h), HB2.out⟩
    · have E2 := Lib.hid (show decide ((n : Int) ≤ 70) = false from by simpa using h2)
      clear h2
      go_enter Tryz.func22, Tryz.ntmps22
      go_wp2_with fail
      (obtain ⟨W0, hW0⟩ : ∃ W0 : World, W0 = (w).alloc (.cells #[.int .i64 f, .int .i64 t, .int .i64 s, .int .i64 n, .slice A1 n c1, .slice A2 m c2] 60) := ⟨_, rfl⟩); (have gW0 : ∀ (j : Nat) (o : Obj), ([Obj.cells #[.int .i64 f, .int .i64 t, .int .i64 s, .int .i64 n, .slice A1 n c1, .slice A2 m c2] 60] : List Obj)[j]? = some o → W0.heap[w.heap.size + j]? = some o := by rw [hW0]; exact allocs_get w _); (have zW0 : W0.heap.size = w.heap.size + 1 := by rw [hW0]; exact allocs_size w [Obj.cells #[.int .i64 f, .int .i64 t, .int .i64 s, .int .i64 n, .slice A1 n c1, .slice A2 m c2] 60]); (have bW0 : Below w.heap.size w W0 := by rw [hW0]; exact allocs_below w [Obj.cells #[.int .i64 f, .int .i64 t, .int .i64 s, .int .i64 n, .slice A1 n c1, .slice A2 m c2] 60]); (rw [← hW0]); (clear hW0)
      have g0 : W0.heap[w.heap.size]? = some (.cells #[.int .i64 f, .int .i64 t, .int .i64 s, .int .i64 n, .slice A1 n c1, .slice A2 m c2] 60 (0, 0)) := gW0 0 _ rfl
      have x0 : W0.cell? ⟨w.heap.size, 0, none⟩ = some (.int .i64 f) := row_cell (cs := [_, _, _, _, _, _]) g0 0 rfl
      have x1 : W0.cell? ⟨w.heap.size, 1, none⟩ = some (.int .i64 t) := row_cell (cs := [_, _, _, _, _, _]) g0 1 rfl
      have x2 : W0.cell? ⟨w.heap.size, 2, none⟩ = some (.int .i64 s) := row_cell (cs := [_, _, _, _, _, _]) g0 2 rfl
      have x3 : W0.cell? ⟨w.heap.size, 3, none⟩ = some (.int .i64 n) := row_cell (cs := [_, _, _, _, _, _]) g0 3 rfl
      have x4 : W0.cell? ⟨w.heap.size, 4, none⟩ = some (.slice A1 n c1) := row_cell (cs := [_, _, _, _, _, _]) g0 4 rfl
      have x5 : W0.cell? ⟨w.heap.size, 5, none⟩ = some (.slice A2 m c2) := row_cell (cs := [_, _, _, _, _, _]) g0 5 rfl
      have HB := Lib.hid bW0
      clear gW0 zW0 g0 bW0 HT
      ((have hS0 : (Below W0.heap.size W0 W0.drew ∧ W0.drew.cell? ⟨(w.heap.size), (0), none⟩ = some (.int .i64 f) ∧ W0.drew.cell? ⟨(w.heap.size), (1), none⟩ = some (.int .i64 t) ∧ W0.drew.cell? ⟨(w.heap.size), (2), none⟩ = some (.int .i64 s) ∧ W0.drew.cell? ⟨(w.heap.size), (3), none⟩ = some (.int .i64 n) ∧ W0.drew.cell? ⟨(w.heap.size), (4), none⟩ = some (.slice A1 n c1) ∧ W0.drew.cell? ⟨(w.heap.size), (5), none⟩ = some (.slice A2 m c2)) := ⟨((Below.refl _ W0)).drew, x0, x1, x2, x3, x4, x5⟩); (refine region_later (by kernel_rfl) [40] [0, 1, 2, 3, 4, 5, 6, 7, 8, 9, 10, 11, 12, 13, 14, 15, 16, 17, 18, 19, 20, 21, 22, 23, 24, 25, 26, 27, 28, 29, 30, 31, 32, 33, 34, 35, 36, 37, 38, 39] true (by kernel_rfl) (by kernel_rfl) (fun W' => (Below W0.heap.size W0 W' ∧ W'.cell? ⟨(w.heap.size), (0), none⟩ = some (.int .i64 f) ∧ W'.cell? ⟨(w.heap.size), (1), none⟩ = some (.int .i64 t) ∧ W'.cell? ⟨(w.heap.size), (2), none⟩ = some (.int .i64 s) ∧ W'.cell? ⟨(w.heap.size), (3), none⟩ = some (.int .i64 n) ∧ W'.cell? ⟨(w.heap.size), (4), none⟩ = some (.slice A1 n c1) ∧ W'.cell? ⟨(w.heap.size), (5), none⟩ = some (.slice A2 m c2))) hS0 ?_); (have hSB : ∀ W' W'' : World, (Below W0.heap.size W0 W' ∧ W'.cell? ⟨(w.heap.size), (0), none⟩ = some (.int .i64 f) ∧ W'.cell? ⟨(w.heap.size), (1), none⟩ = some (.int .i64 t) ∧ W'.cell? ⟨(w.heap.size), (2), none⟩ = some (.int .i64 s) ∧ W'.cell? ⟨(w.heap.size), (3), none⟩ = some (.int .i64 n) ∧ W'.cell? ⟨(w.heap.size), (4), none⟩ = some (.slice A1 n c1) ∧ W'.cell? ⟨(w.heap.size), (5), none⟩ = some (.slice A2 m c2)) → Below W'.heap.size W' W'' → (Below W0.heap.size W0 W'' ∧ W''.cell? ⟨(w.heap.size), (0), none⟩ = some (.int .i64 f) ∧ W''.cell? ⟨(w.heap.size), (1), none⟩ = some (.int .i64 t) ∧ W''.cell? ⟨(w.heap.size), (2), none⟩ = some (.int .i64 s) ∧ W''.cell? ⟨(w.heap.size), (3), none⟩ = some (.int .i64 n) ∧ W''.cell? ⟨(w.heap.size), (4), none⟩ = some (.slice A1 n c1) ∧ W''.cell? ⟨(w.heap.size), (5), none⟩ = some (.slice A2 m c2)) := fun W' W'' ⟨h0, h1, h2, h3, h4, h5, h6⟩ hb => ⟨h0.trans (hb.mono h0.size), cell_keep h1 hb, cell_keep h2 hb, cell_keep h3 hb, cell_keep h4 hb, cell_keep h5 hb, cell_keep h6 hb⟩); (clear x0 x1 x2 x3 x4 x5); (iterate 40 (first | ((first | (refine chainL_op (by rfl) (by rfl) ?_ ?_ ?_) | (refine chainL_opG (by rfl) (by rfl) ?_ ?_ ?_)); rotate_left; (focus (intro W' hS' K hK; (try simp only [put_some, List.set] at hK); (have hS'' := hS'); (obtain ⟨s0, s1, s2, s3, s4, s5, s6⟩ := hS''); go_simp; (first | exact hK _ hS' (Later.refl _) | (with_reducible refine Calls.mono (HK.out _) ?_; rintro e W'' ⟨rfl, hb''⟩; exact hK _ (hSB _ _ hS' hb'') (Later.of hb''))); done)); (try simp only [put_some, List.set, E2.out])) | ((refine chainL_opU (by rfl) (by rfl) ?_); (try simp only [put_some, List.set])))); (refine chainL_nil ?_))
      refine spineL_op (by rfl) (by rfl) (fun X1 hS1 hL1 K hK => ?_)
      go_simp
      refine hK _ _ (fun _ => hS1) ?_
      (try simp only [put_some, List.set])
      refine spineL_nil fun X2 hL2 hS2 => ?_
      have HB2 := Lib.hid (HB.out.trans ((hS2 rfl).1.mono HB.out.size))
      clear hS1 hS2 hL1 hL2 hSB hS0 K hK
      go_wp2
      go_ret
      exact ⟨false, rfl, (fun h => by cases h), HB2.out⟩
  · have E1 := Lib.hid (show (l == (n : Int)) = false from beq_eq_false_iff_ne.2 h1)
    clear h1
    go_enter Tryz.func22, Tryz.ntmps22
    go_wp2_with fail
    (obtain ⟨W0, hW0⟩ : ∃ W0 : World, W0 = (w).alloc (.cells #[.int .i64 f, .int .i64 t, .int .i64 s, .int .i64 l, .slice A1 n c1, .slice A2 m c2] 60) := ⟨_, rfl⟩); (have gW0 : ∀ (j : Nat) (o : Obj), ([Obj.cells #[.int .i64 f, .int .i64 t, .int .i64 s, .int .i64 l, .slice A1 n c1, .slice A2 m c2] 60] : List Obj)[j]? = some o → W0.heap[w.heap.size + j]? = some o := by rw [hW0]; exact allocs_get w _); (have zW0 : W0.heap.size = w.heap.size + 1 := by rw [hW0]; exact allocs_size w [Obj.cells #[.int .i64 f, .int .i64 t, .int .i64 s, .int .i64 l, .slice A1 n c1, .slice A2 m c2] 60]); (have bW0 : Below w.heap.size w W0 := by rw [hW0]; exact allocs_below w [Obj.cells #[.int .i64 f, .int .i64 t, .int .i64 s, .int .i64 l, .slice A1 n c1, .slice A2 m c2] 60]); (rw [← hW0]); (clear hW0)
    have g0 : W0.heap[w.heap.size]? = some (.cells #[.int .i64 f, .int .i64 t, .int .i64 s, .int .i64 l, .slice A1 n c1, .slice A2 m c2] 60 (0, 0)) := gW0 0 _ rfl
    have x0 : W0.cell? ⟨w.heap.size, 0, none⟩ = some (.int .i64 f) := row_cell (cs := [_, _, _, _, _, _]) g0 0 rfl
    have x1 : W0.cell? ⟨w.heap.size, 1, none⟩ = some (.int .i64 t) := row_cell (cs := [_, _, _, _, _, _]) g0 1 rfl
    have x2 : W0.cell? ⟨w.heap.size, 2, none⟩ = some (.int .i64 s) := row_cell (cs := [_, _, _, _, _, _]) g0 2 rfl
    have x3 : W0.cell? ⟨w.heap.size, 3, none⟩ = some (.int .i64 l) := row_cell (cs := [_, _, _, _, _, _]) g0 3 rfl
    have x4 : W0.cell? ⟨w.heap.size, 4, none⟩ = some (.slice A1 n c1) := row_cell (cs := [_, _, _, _, _, _]) g0 4 rfl
    have x5 : W0.cell? ⟨w.heap.size, 5, none⟩ = some (.slice A2 m c2) := row_cell (cs := [_, _, _, _, _, _]) g0 5 rfl
    have HB := Lib.hid bW0
    clear gW0 zW0 g0 bW0 HT
    ((have hS0 : (Below W0.heap.size W0 W0.drew ∧ W0.drew.cell? ⟨(w.heap.size), (0), none⟩ = some (.int .i64 f) ∧ W0.drew.cell? ⟨(w.heap.size), (1), none⟩ = some (.int .i64 t) ∧ W0.drew.cell? ⟨(w.heap.size), (2), none⟩ = some (.int .i64 s) ∧ W0.drew.cell? ⟨(w.heap.size), (3), none⟩ = some (.int .i64 l) ∧ W0.drew.cell? ⟨(w.heap.size), (4), none⟩ = some (.slice A1 n c1) ∧ W0.drew.cell? ⟨(w.heap.size), (5), none⟩ = some (.slice A2 m c2)) := ⟨((Below.refl _ W0)).drew, x0, x1, x2, x3, x4, x5⟩); (refine region_later (by kernel_rfl) [40] [0, 1, 2, 3, 4, 5, 6, 7, 8, 9, 10, 11, 12, 13, 14, 15, 16, 17, 18, 19, 20, 21, 22, 23, 24, 25, 26, 27, 28, 29, 30, 31, 32, 33, 34, 35, 36, 37, 38, 39] true (by kernel_rfl) (by kernel_rfl) (fun W' => (Below W0.heap.size W0 W' ∧ W'.cell? ⟨(w.heap.size), (0), none⟩ = some (.int .i64 f) ∧ W'.cell? ⟨(w.heap.size), (1), none⟩ = some (.int .i64 t) ∧ W'.cell? ⟨(w.heap.size), (2), none⟩ = some (.int .i64 s) ∧ W'.cell? ⟨(w.heap.size), (3), none⟩ = some (.int .i64 l) ∧ W'.cell? ⟨(w.heap.size), (4), none⟩ = some (.slice A1 n c1) ∧ W'.cell? ⟨(w.heap.size), (5), none⟩ = some (.slice A2 m c2))) hS0 ?_); (have hSB : ∀ W' W'' : World, (Below W0.heap.size W0 W' ∧ W'.cell? ⟨(w.heap.size), (0), none⟩ = some (.int .i64 f) ∧ W'.cell? ⟨(w.heap.size), (1), none⟩ = some (.int .i64 t) ∧ W'.cell? ⟨(w.heap.size), (2), none⟩ = some (.int .i64 s) ∧ W'.cell? ⟨(w.heap.size), (3), none⟩ = some (.int .i64 l) ∧ W'.cell? ⟨(w.heap.size), (4), none⟩ = some (.slice A1 n c1) ∧ W'.cell? ⟨(w.heap.size), (5), none⟩ = some (.slice A2 m c2)) → Below W'.heap.size W' W'' → (Below W0.heap.size W0 W'' ∧ W''.cell? ⟨(w.heap.size), (0), none⟩ = some (.int .i64 f) ∧ W''.cell? ⟨(w.heap.size), (1), none⟩ = some (.int .i64 t) ∧ W''.cell? ⟨(w.heap.size), (2), none⟩ = some (.int .i64 s) ∧ W''.cell? ⟨(w.heap.size), (3), none⟩ = some (.int .i64 l) ∧ W''.cell? ⟨(w.heap.size), (4), none⟩ = some (.slice A1 n c1) ∧ W''.cell? ⟨(w.heap.size), (5), none⟩ = some (.slice A2 m c2)) := fun W' W'' ⟨h0, h1, h2, h3, h4, h5, h6⟩ hb => ⟨h0.trans (hb.mono h0.size), cell_keep h1 hb, cell_keep h2 hb, cell_keep h3 hb, cell_keep h4 hb, cell_keep h5 hb, cell_keep h6 hb⟩); (clear x0 x1 x2 x3 x4 x5); (iterate 40 (first | ((first | (refine chainL_op (by rfl) (by rfl) ?_ ?_ ?_) | (refine chainL_opG (by rfl) (by rfl) ?_ ?_ ?_)); rotate_left; (focus (intro W' hS' K hK; (try simp only [put_some, List.set] at hK); (have hS'' := hS'); (obtain ⟨s0, s1, s2, s3, s4, s5, s6⟩ := hS''); go_simp; (first | exact hK _ hS' (Later.refl _) | (with_reducible refine Calls.mono (HK.out _) ?_; rintro e W'' ⟨rfl, hb''⟩; exact hK _ (hSB _ _ hS' hb'') (Later.of hb''))); done)); (try simp only [put_some, List.set, E1.out])) | ((refine chainL_opU (by rfl) (by rfl) ?_); (try simp only [put_some, List.set])))); (refine chainL_nil ?_))
    refine spineL_op (by rfl) (by rfl) (fun X1 hS1 hL1 K hK => ?_)
    go_simp
    refine hK _ _ (fun _ => hS1) ?_
    (try simp only [put_some, List.set])
    refine spineL_nil fun X2 hL2 hS2 => ?_
    have HB2 := Lib.hid (HB.out.trans ((hS2 rfl).1.mono HB.out.size))
    clear hS1 hS2 hL1 hL2 hSB hS0 K hK
    go_wp2
    go_ret
    exact ⟨false, rfl, (fun h => by cases h), HB2.out⟩
end Go.Proofs.YtccgfladbibjbaaGreatDoor
