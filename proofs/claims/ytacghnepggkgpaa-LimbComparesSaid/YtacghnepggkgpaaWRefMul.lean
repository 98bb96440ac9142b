/- Walk of the reference's Mul on digits. -/
import Derived.Test.YtacghnepggkgpaaWRefSub
namespace Go.Proofs.Ytacghnepggkgpaa
open Go.RowKit
attribute [local go_sem ↓] add_UU sub_UU mul_UU add_UL add_LU sub_UL sub_LU mul_UL neg_at not_at and_UU or_UU xor_UU andNot_UU and_UL or_LU shr_UL shl_UL shr_UN shl_UN quo_UL rem_UL quo_UU rem_UU
attribute [local go_sem] wrap64_N wrapi_mod wrap8_U wrap32_U wrap64_B wrap32_B wrap8_D wrapi_B wrap64_UU eq_UU ne_UU eq_UL ne_UL lt_UU le_UU

/-- A row of the multiplication after j digits. -/
def mulDin (x y : Nat → Nat) (i : Nat) (o : Nat → Nat) : Nat → (Nat → Nat) × Nat
  | 0 => (o, 0)
  | j + 1 => (fun p => if p = i + j then ((mulDin x y i o j).1 (i + j) + x i * y j + (mulDin x y i o j).2) % 65536 else (mulDin x y i o j).1 p, ((mulDin x y i o j).1 (i + j) + x i * y j + (mulDin x y i o j).2) / 65536)
/-- The multiplication after i rows. -/
def mulDout (x y : Nat → Nat) : Nat → Nat → Nat
  | 0 => fun _ => 0
  | i + 1 => fun p => if p = i + 16 then (mulDin x y i (mulDout x y i) 16).1 (i + 16) + (mulDin x y i (mulDout x y i) 16).2 else (mulDin x y i (mulDout x y i) 16).1 p

theorem prod_le {a b : Nat} (ha : a < 65536) (hb : b < 65536) : a * b ≤ 4294836225 := Nat.mul_le_mul (show a ≤ 65535 by omega) (show b ≤ 65535 by omega)

theorem mulDin_bd (x y : Nat → Nat) (i : Nat) (o : Nat → Nat) (hx : ∀ p, x p < 65536) (hy : ∀ p, y p < 65536) (ho : ∀ p, o p < 65536) (j : Nat) : (∀ p, (mulDin x y i o j).1 p < 65536) ∧ (mulDin x y i o j).2 < 65536 ∧ ∀ p, i + j ≤ p → (mulDin x y i o j).1 p = o p := by
  induction j with
  | zero => exact ⟨ho, (by decide : (0 : Nat) < 65536), fun _ _ => rfl⟩
  | succ j ih =>
    refine ⟨fun p => ?_, ?_, fun p hp => ?_⟩
    · show (if p = i + j then _ else _) < 65536
      split
      · exact Nat.mod_lt _ (by decide)
      · exact ih.1 p
    · show (_ + x i * y j + _) / 65536 < 65536
      have h1 := ih.1 (i + j)
      have h2 := ih.2.1
      have h3 := prod_le (hx i) (hy j)
      omega
    · show (if p = i + j then _ else _) = _
      rw [if_neg (by omega)]
      exact ih.2.2 p (by omega)
theorem mulDout_bd (x y : Nat → Nat) (hx : ∀ p, x p < 65536) (hy : ∀ p, y p < 65536) (i : Nat) : (∀ p, mulDout x y i p < 65536) ∧ ∀ p, i + 16 ≤ p → mulDout x y i p = 0 := by
  induction i with
  | zero => exact ⟨fun _ => (by decide : (0 : Nat) < 65536), fun _ _ => rfl⟩
  | succ i ih =>
    have hin := mulDin_bd x y i (mulDout x y i) hx hy ih.1 16
    refine ⟨fun p => ?_, fun p hp => ?_⟩
    · show (if p = i + 16 then _ else _) < 65536
      split
      · rw [hin.2.2 _ (Nat.le_refl _), ih.2 _ (Nat.le_refl _)]
        have := hin.2.1
        omega
      · exact hin.1 p
    · show (if p = i + 16 then _ else _) = 0
      rw [if_neg (by omega), hin.2.2 p (by omega), ih.2 p (by omega)]

theorem Digs.newAt (w : World) (n : Nat) (hn : n = w.heap.size) : Digs (w.alloc (.cells (List.replicate 33 (.int .i64 0)).toArray 3)) n 33 (fun _ => 0) :=
  ⟨_, IsBlk.newAt w _ _ n hn, fun k hk => by rw [List.getElem?_replicate, if_pos hk]; rfl⟩

/-- What a round of Mul's loops keeps. -/
structure RMulI (a b : V4) (w : World) (gx gy gz : Nat) (X : Nat → Nat) (wr : World) : Prop where
  x : Digs wr gx 16 (dig a)
  y : Digs wr gy 16 (dig b)
  z : Digs wr gz 33 X
  lo : IsVec wr (w.heap.size + 1 + 1) 38 V4.zero
  hi : IsVec wr (w.heap.size + 1 + 1 + 1) 38 V4.zero
  below : Below w.heap.size w wr
theorem RMulI.drewN {a b : V4} {w : World} {gx gy gz : Nat} {X : Nat → Nat} {wr : World} (h : RMulI a b w gx gy gz X wr) (n : Nat) : RMulI a b w gx gy gz X (wr.drewN n) := ⟨h.x.drewN n, h.y.drewN n, h.z.drewN n, h.lo.drewN n, h.hi.drewN n, below_drewN'' h.below n⟩
theorem RMulI.set {a b : V4} {w : World} {gx gy gz : Nat} {X : Nat → Nat} {wr : World} (h : RMulI a b w gx gy gz X wr) (h1 : w.heap.size + 1 + 1 + 1 < gx) (h2 : gx < gz) (h3 : gy < gz) (k : Nat) (hk : k < 33) (x : Nat) : RMulI a b w gx gy gz (fun j => if j = k then x else X j) (wr.setCell ⟨gz, k, none⟩ (.int .i64 ((x : Nat) : Int))) :=
  ⟨h.x.other _ _ (by simp; omega), h.y.other _ _ (by simp; omega), h.z.set k hk x, h.lo.other _ _ (by simp; omega), h.hi.other _ _ (by simp; omega), h.below.setCell (p := ⟨gz, k, none⟩) (by simp; omega) _⟩

set_option maxHeartbeats 4000000 in
theorem refMul (a b : V4) (w : World) :
    Calls Try.prog 29 #[a.val, b.val] w fun e w' => e = .returned (.tuple #[(vecN (mulDout (dig a) (dig b) 16) 0 16).val, (vecN (mulDout (dig a) (dig b) 16) 16 16).val]) ∧ Below w.heap.size w w' := by
  have hmk : ∀ w, (Instr.makeSlice 59 (.int .i64 33) (.int .i64 33)).run Try.prog w = .ok (.slice (some ⟨w.heap.size, 0, none⟩) 33 33) (w.alloc (.cells (List.replicate 33 (.int .i64 0)).toArray 3)) := fun _ => by kernel_rfl
  have HA := Lib.hid (digits a)
  have HB := Lib.hid (digits b)
  unfold V4.val V4.arr
  go_enter Try.func29, Try.ntmps29
  have X := Lib.hid (show IsVec ((((w.alloc (.cells a.arr 38)).alloc (.cells b.arr 38)).alloc (.cells V4.zero.arr 38)).alloc (.cells V4.zero.arr 38)) (w.heap.size + 1) 38 b ∧ IsVec ((((w.alloc (.cells a.arr 38)).alloc (.cells b.arr 38)).alloc (.cells V4.zero.arr 38)).alloc (.cells V4.zero.arr 38)) (w.heap.size + 1 + 1) 38 V4.zero ∧ IsVec ((((w.alloc (.cells a.arr 38)).alloc (.cells b.arr 38)).alloc (.cells V4.zero.arr 38)).alloc (.cells V4.zero.arr 38)) (w.heap.size + 1 + 1 + 1) 38 V4.zero ∧ Below w.heap.size w ((((w.alloc (.cells a.arr 38)).alloc (.cells b.arr 38)).alloc (.cells V4.zero.arr 38)).alloc (.cells V4.zero.arr 38)) from
    ⟨((IsVec.newAt _ _ _ _ (by simp)).alloc _).alloc _, (IsVec.newAt _ _ _ _ (by simp)).alloc _, IsVec.newAt _ _ _ _ (by simp), by go_grown⟩)
  go_wp2_with fail
  refine (HA.out _).mono ?_
  rintro e w1 ⟨v1, rfl, hown1, hb1⟩
  obtain ⟨gx, capx, rfl, hgx, hdx⟩ := Digs.of_owns hown1
  have hvb : IsVec w1 (w.heap.size + 1) 38 b := X.out.1.below hb1 (by simp)
  have hvr : IsVec w1 (w.heap.size + 1 + 1) 38 V4.zero := X.out.2.1.below hb1 (by simp)
  have hvs : IsVec w1 (w.heap.size + 1 + 1 + 1) 38 V4.zero := X.out.2.2.1.below hb1 (by simp)
  have hB1 : Below w.heap.size w w1 := X.out.2.2.2.trans (hb1.mono (by simp; omega))
  have b0 := hvb.cell 0 (by omega)
  have b1 := hvb.cell 1 (by omega)
  have b2 := hvb.cell 2 (by omega)
  have b3 := hvb.cell 3 (by omega)
  have hgx' : w.heap.size + 1 + 1 + 1 < gx := by simp at hgx; omega
  have hgx2 := hdx.lt
  have Y := Lib.hid (And.intro hdx (And.intro hvr (And.intro hvs hB1)))
  clear hown1 hb1 hdx hvr hvs hB1 hvb X hgx
  go_wp2_with fail
  refine (HB.out _).mono ?_
  rintro e w2 ⟨v2, rfl, hown2, hb2⟩
  obtain ⟨gy, capy, rfl, hgy, hdy⟩ := Digs.of_owns hown2
  have hxy : gx < gy := by omega
  have hyz := hdy.lt
  have Z := Lib.hid (show RMulI a b w gx gy w2.heap.size (mulDout (dig a) (dig b) 0) (w2.alloc (.cells (List.replicate 33 (.int .i64 0)).toArray 3)) from
    ⟨(Y.out.1.below hb2 hgx2).alloc _, hdy.alloc _, Digs.newAt _ _ rfl, (Y.out.2.1.below hb2 (by omega)).alloc _, (Y.out.2.2.1.below hb2 (by omega)).alloc _, (Y.out.2.2.2.trans (hb2.mono Y.out.2.2.2.size)).alloc (by have := Y.out.2.2.2.size; have := hb2.size; omega) _⟩)
  clear hown2 hb2 hdy Y hgy b0 b1 b2 b3 hgx2 HA HB
  go_wp2
  go_loopw [9] (fun i wr => ∃ k : Nat, k ≤ 16 ∧ i = .int .i64 k ∧ RMulI a b w gx gy w2.heap.size (mulDout (dig a) (dig b) k) wr) (fun i _ => 16 - (intOf i).toNat)
  case atStart => exact ⟨0, by omega, rfl, Z.out⟩
  case round =>
    clear Z
    obtain ⟨i, hk, rfl, hI⟩ := hrel
    obtain ⟨wo, rfl⟩ : ∃ wo : World, wo = wr := ⟨_, rfl⟩
    have hobd := mulDout_bd (dig a) (dig b) (dig_lt a) (dig_lt b) i
    by_cases hlt : i < 16
    · have HI := Lib.hid hI
      clear hI
      have k0 : (0 : Int) ≤ (i : Int) := Int.natCast_nonneg i
      have k4 : (i : Int) < 16 := by omega
      go_wp2
      go_loopw [10, 11] (fun c j wr => ∃ m : Nat, m ≤ 16 ∧ j = .int .i64 m ∧ c = .int .i64 ((mulDin (dig a) (dig b) i (mulDout (dig a) (dig b) i) m).2 : Nat) ∧ RMulI a b w gx gy w2.heap.size (mulDin (dig a) (dig b) i (mulDout (dig a) (dig b) i) m).1 wr) (fun _ j _ => 16 - (intOf j).toNat)
      case atStart => exact ⟨0, by omega, rfl, rfl, HI.out⟩
      case round =>
        obtain ⟨m, hm, rfl, rfl, hJ⟩ := hrel
        have hbd := mulDin_bd (dig a) (dig b) i (mulDout (dig a) (dig b) i) (dig_lt a) (dig_lt b) hobd.1 m
        by_cases hlm : m < 16
        · have c1 := hJ.x.cell i hlt
          have c2 := hJ.y.cell m hlm
          have c3 := hJ.z.cell (i + m) (by omega)
          have f3 := hJ.z.frozen (i + m)
          have m0 : (0 : Int) ≤ (m : Int) := Int.natCast_nonneg m
          have m4 : (m : Int) < 16 := by omega
          have b1 := hbd.1 (i + m)
          have b2 := hbd.2.1
          have b3 := prod_le (dig_lt a i) (dig_lt b m)
          have HJ := Lib.hid hJ
          clear hJ hbd hobd
          have p1 : (0 : Int) ≤ (dig a i : Int) * (dig b m : Int) ∧ (dig a i : Int) * (dig b m : Int) ≤ 4294836225 := by rw [← Int.natCast_mul]; omega
          go_wp2
          go_quiet (fail)
          go_wp2
          refine ⟨⟨m + 1, by omega, by go_num, rfl, (HJ.out.drewN nq).set hgx' (by omega) hyz (i + m) (by omega) _⟩, by simp [intOf]; omega⟩
        · obtain rfl : m = 16 := by omega
          have c3 := hJ.z.cell (i + 16) (by omega)
          have f3 := hJ.z.frozen (i + 16)
          have b1 := hbd.1 (i + 16)
          have b2 := hbd.2.1
          have HJ := Lib.hid hJ
          clear hJ hbd hobd
          go_wp2
          refine ⟨⟨i + 1, by omega, by go_num, HJ.out.set hgx' (by omega) hyz (i + 16) (by omega) _⟩, by simp [intOf]; omega⟩
    · obtain rfl : i = 16 := by omega
      have v0 := fun wr (hz : Digs wr w2.heap.size 33 (mulDout (dig a) (dig b) 16)) => vec w2.heap.size 33 33 0 (mulDout (dig a) (dig b) 16) wr (by omega) (by omega) (by omega) (fun i hi => by rw [Nat.zero_add]; exact hz.cell i (by omega))
      have v1 := fun wr (hz : Digs wr w2.heap.size 33 (mulDout (dig a) (dig b) 16)) => vec w2.heap.size 33 33 16 (mulDout (dig a) (dig b) 16) wr (by omega) (by omega) (by omega) (fun i hi => hz.cell (16 + i) (by omega))
      have V0 := Lib.hid v0
      have V1 := Lib.hid v1
      have HR := Lib.hid hI
      clear hI hobd v0 v1
      go_wp2_with fail
      refine (V0.out _ HR.out.z).mono ?_
      rintro e w3 ⟨rfl, hb3⟩
      have HR3 := Lib.hid (show Digs w3 w2.heap.size 33 (mulDout (dig a) (dig b) 16) ∧ IsVec w3 (w.heap.size + 1 + 1) 38 V4.zero ∧ IsVec w3 (w.heap.size + 1 + 1 + 1) 38 V4.zero ∧ Below w.heap.size w w3 from ⟨HR.out.z.below hb3 HR.out.z.lt, HR.out.lo.below hb3 HR.out.lo.lt, HR.out.hi.below hb3 HR.out.hi.lt, HR.out.below.trans (hb3.mono HR.out.below.size)⟩)
      clear hb3 HR
      go_wp2_with fail
      refine (V1.out _ HR3.out.1).mono ?_
      rintro e w4 ⟨rfl, hb4⟩
      have hlo := HR3.out.2.1.below hb4 HR3.out.2.1.lt
      have hhi := HR3.out.2.2.1.below hb4 HR3.out.2.2.1.lt
      have l0 := hlo.cell 0 (by omega)
      have l1 := hlo.cell 1 (by omega)
      have l2 := hlo.cell 2 (by omega)
      have l3 := hlo.cell 3 (by omega)
      have h0 := hhi.cell 0 (by omega)
      have h1 := hhi.cell 1 (by omega)
      have h2 := hhi.cell 2 (by omega)
      have h3 := hhi.cell 3 (by omega)
      have fl0 := hlo.frozen 0
      have fl1 := hlo.frozen 1
      have fl2 := hlo.frozen 2
      have fl3 := hlo.frozen 3
      have fh0 := hhi.frozen 0
      have fh1 := hhi.frozen 1
      have fh2 := hhi.frozen 2
      have fh3 := hhi.frozen 3
      have H3 := Lib.hid (HR3.out.2.2.2.trans (hb4.mono HR3.out.2.2.2.size))
      clear hb4 hlo hhi HR3
      unfold V4.val V4.arr
      go_wp2
      refine bodyPost_ret (v := .tuple #[(vecN (mulDout (dig a) (dig b) 16) 0 16).val, (vecN (mulDout (dig a) (dig b) 16) 16 16).val]) (by simp [results, Try.results29, go_sem, l0, l1, l2, l3, h0, h1, h2, h3]; exact ⟨rfl, rfl⟩) rfl ⟨rfl, ?_⟩
      have hB := H3.out
      go_grown
end Go.Proofs.Ytacghnepggkgpaa
