/- Walk of the reference's Sub on digits. -/
import Derived.Test.YtacghnepggkgpaaWRefAdd
namespace Go.Proofs.Ytacghnepggkgpaa
open Go.RowKit
attribute [local go_sem ↓] add_UU sub_UU mul_UU add_UL add_LU sub_UL sub_LU mul_UL neg_at not_at and_UU or_UU xor_UU andNot_UU and_UL or_LU shr_UL shl_UL shr_UN shl_UN quo_UL rem_UL quo_UU rem_UU
attribute [local go_sem] wrap64_N wrapi_mod wrap8_U wrap32_U wrap64_B wrap32_B wrap8_D wrapi_B wrap64_UU eq_UU ne_UU eq_UL ne_UL lt_UU le_UU

/-- The state of the subtraction after k digits. -/
def subD (x y : Nat → Nat) : Nat → (Nat → Nat) × Nat
  | 0 => (x, 0)
  | k + 1 => (fun j => if j = k then ((subD x y k).1 k + 65536 - y k - (subD x y k).2) % 65536 else (subD x y k).1 j, if (subD x y k).1 k < y k + (subD x y k).2 then 1 else 0)
theorem subD_bd (x y : Nat → Nat) (hx : ∀ p, x p < 65536) (k : Nat) : (∀ p, (subD x y k).1 p < 65536) ∧ (subD x y k).2 ≤ 1 := by
  induction k with
  | zero => exact ⟨hx, Nat.zero_le _⟩
  | succ k ih =>
    refine ⟨fun p => ?_, ?_⟩
    · show (if p = k then _ else _) < 65536
      split
      · exact Nat.mod_lt _ (by decide)
      · exact ih.1 p
    · show (if _ then 1 else 0) ≤ 1
      split <;> omega

set_option maxHeartbeats 2000000 in
theorem refSub (a b : V4) (w : World) :
    Calls Try.prog 36 #[a.val, b.val] w fun e w' => e = .returned (.tuple #[(vecN (subD (dig a) (dig b) 16).1 0 16).val, .int .u64 (U (BitVec.ofNat 64 (subD (dig a) (dig b) 16).2))]) ∧ Below w.heap.size w w' := by
  have HA := Lib.hid (digits a)
  have HB := Lib.hid (digits b)
  unfold V4.val V4.arr
  go_enter Try.func36, Try.ntmps36
  have X := Lib.hid (show IsVec (((w.alloc (.cells a.arr 38)).alloc (.cells b.arr 38)).alloc (.cells V4.zero.arr 38)) (w.heap.size + 1) 38 b ∧ IsVec (((w.alloc (.cells a.arr 38)).alloc (.cells b.arr 38)).alloc (.cells V4.zero.arr 38)) (w.heap.size + 1 + 1) 38 V4.zero ∧ Below w.heap.size w (((w.alloc (.cells a.arr 38)).alloc (.cells b.arr 38)).alloc (.cells V4.zero.arr 38)) from
    ⟨(IsVec.newAt _ _ _ _ (by simp)).alloc _, IsVec.newAt _ _ _ _ (by simp), by go_grown⟩)
  go_wp2_with fail
  refine (HA.out _).mono ?_
  rintro e w1 ⟨v1, rfl, hown1, hb1⟩
  obtain ⟨gx, capx, rfl, hgx, hdx⟩ := Digs.of_owns hown1
  have hvb : IsVec w1 (w.heap.size + 1) 38 b := X.out.1.below hb1 (by simp)
  have hvr : IsVec w1 (w.heap.size + 1 + 1) 38 V4.zero := X.out.2.1.below hb1 (by simp)
  have hB1 : Below w.heap.size w w1 := X.out.2.2.trans (hb1.mono (by simp; omega))
  have b0 := hvb.cell 0 (by omega)
  have b1 := hvb.cell 1 (by omega)
  have b2 := hvb.cell 2 (by omega)
  have b3 := hvb.cell 3 (by omega)
  have hgx' : w.heap.size + 1 + 1 < gx := by simp at hgx; omega
  have hgx2 := hdx.lt
  have Y := Lib.hid (And.intro hdx (And.intro hvr hB1))
  clear hown1 hb1 hdx hvr hB1 hvb X hgx
  go_wp2_with fail
  refine (HB.out _).mono ?_
  rintro e w2 ⟨v2, rfl, hown2, hb2⟩
  obtain ⟨gy, capy, rfl, hgy, hdy⟩ := Digs.of_owns hown2
  have hxy : gx < gy := by omega
  have Z := Lib.hid (show Digs w2 gx 16 (dig a) ∧ Digs w2 gy 16 (dig b) ∧ IsVec w2 (w.heap.size + 1 + 1) 38 V4.zero ∧ Below w.heap.size w w2 from
    ⟨Y.out.1.below hb2 hgx2, hdy, Y.out.2.1.below hb2 (by omega), Y.out.2.2.trans (hb2.mono Y.out.2.2.size)⟩)
  clear hown2 hb2 hdy Y hgy b0 b1 b2 b3 hgx2 HA HB
  go_wp2
  go_loopw [8, 9] (fun c i wr => ∃ k : Nat, k ≤ 16 ∧ i = .int .i64 k ∧ c = .int .i64 ((subD (dig a) (dig b) k).2 : Nat) ∧ Digs wr gx 16 (subD (dig a) (dig b) k).1 ∧ Digs wr gy 16 (dig b) ∧ IsVec wr (w.heap.size + 1 + 1) 38 V4.zero ∧ Below w.heap.size w wr) (fun _ i _ => 16 - (intOf i).toNat)
  case atStart => exact ⟨0, by omega, rfl, rfl, Z.out.1, Z.out.2.1, Z.out.2.2.1, Z.out.2.2.2⟩
  case round =>
    clear Z
    obtain ⟨k, hk, rfl, rfl, hx, hy, hv, hb⟩ := hrel
    have hbd := subD_bd (dig a) (dig b) (dig_lt a) k
    by_cases hlt : k < 16
    · have c1 := hx.cell k hlt
      have f1 := hx.frozen k
      have c2 := hy.cell k hlt
      have bx := hbd.1 k
      have bY := dig_lt b k
      have bc := hbd.2
      have HR := Lib.hid (And.intro hx (And.intro hy (And.intro hv hb)))
      clear hx hy hv hb hbd
      have k0 : (0 : Int) ≤ (k : Int) := Int.natCast_nonneg k
      have k4 : (k : Int) < 16 := by omega
      by_cases hs : (subD (dig a) (dig b) k).1 k < dig b k + (subD (dig a) (dig b) k).2
      · have hneg : ((subD (dig a) (dig b) k).1 k : Int) - dig b k - (subD (dig a) (dig b) k).2 < 0 := by omega
        have hs2 : ((subD (dig a) (dig b) k).1 k : Int) - dig b k - (subD (dig a) (dig b) k).2 + 65536 = ((((subD (dig a) (dig b) k).1 k + 65536 - dig b k - (subD (dig a) (dig b) k).2) % 65536 : Nat) : Int) := by omega
        have hc2 : (subD (dig a) (dig b) (k + 1)).2 = 1 := by simp [subD, hs]
        go_wp2
        go_quiet (fail)
        go_wp2
        refine ⟨⟨k + 1, by omega, by go_num, by rw [hc2]; rfl, (HR.out.1.drewN nq).set k hlt _, (HR.out.2.1.drewN nq).other _ _ (by simp; omega), (HR.out.2.2.1.drewN nq).other _ _ (by simp; omega), (below_drewN'' HR.out.2.2.2 nq).setCell (p := ⟨gx, k, none⟩) (by simp; omega) _⟩, by simp [intOf]; omega⟩
      · have hneg : ¬ ((subD (dig a) (dig b) k).1 k : Int) - dig b k - (subD (dig a) (dig b) k).2 < 0 := by omega
        have hs2 : ((subD (dig a) (dig b) k).1 k : Int) - dig b k - (subD (dig a) (dig b) k).2 = ((((subD (dig a) (dig b) k).1 k + 65536 - dig b k - (subD (dig a) (dig b) k).2) % 65536 : Nat) : Int) := by omega
        have hc2 : (subD (dig a) (dig b) (k + 1)).2 = 0 := by simp [subD, hs]
        go_wp2
        go_quiet (fail)
        go_wp2
        refine ⟨⟨k + 1, by omega, by go_num, by rw [hc2]; rfl, (HR.out.1.drewN nq).set k hlt _, (HR.out.2.1.drewN nq).other _ _ (by simp; omega), (HR.out.2.2.1.drewN nq).other _ _ (by simp; omega), (below_drewN'' HR.out.2.2.2 nq).setCell (p := ⟨gx, k, none⟩) (by simp; omega) _⟩, by simp [intOf]; omega⟩
    · obtain rfl : k = 16 := by omega
      have bc := hbd.2
      have hvec := vec gx 16 capx 0 (subD (dig a) (dig b) 16).1 wr (by omega) (by omega) (by omega) (fun i hi => by rw [Nat.zero_add]; exact hx.cell i hi)
      have HV := Lib.hid hvec
      have HR := Lib.hid (And.intro hv hb)
      clear hx hy hv hb hbd hvec
      go_wp2_with fail
      refine HV.out.mono ?_
      rintro e w3 ⟨rfl, hb3⟩
      have hvr : IsVec w3 (w.heap.size + 1 + 1) 38 V4.zero := HR.out.1.below hb3 HR.out.1.lt
      have e0 := hvr.cell 0 (by omega)
      have e1 := hvr.cell 1 (by omega)
      have e2 := hvr.cell 2 (by omega)
      have e3 := hvr.cell 3 (by omega)
      have f0 := hvr.frozen 0
      have f1 := hvr.frozen 1
      have f2 := hvr.frozen 2
      have f3 := hvr.frozen 3
      have H3 := Lib.hid (HR.out.2.trans (hb3.mono HR.out.2.size))
      clear hvr hb3
      unfold V4.val V4.arr
      go_wp2
      refine bodyPost_ret (v := .tuple #[(vecN (subD (dig a) (dig b) 16).1 0 16).val, .int .u64 (U (BitVec.ofNat 64 (subD (dig a) (dig b) 16).2))]) (by simp [results, Try.results36, go_sem, e0, e1, e2, e3]; rfl) rfl ⟨rfl, ?_⟩
      have hB := H3.out
      go_grown
end Go.Proofs.Ytacghnepggkgpaa
