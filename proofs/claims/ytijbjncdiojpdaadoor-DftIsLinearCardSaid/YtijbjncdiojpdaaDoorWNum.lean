/- The law's numbers. -/
import Derived.Test.YtijbjncdiojpdaaDoorWLaw1
import Derived.Test.YtijbjncdiojpdaaDoorFNear
import Derived.BigRegion
namespace Go.Proofs.YtijbjncdiojpdaaDoor
open Go.RowKit
attribute [local go_sem ↓] add_UU sub_UU mul_UU add_UL add_LU sub_UL sub_LU mul_UL neg_at not_at and_UU or_UU xor_UU andNot_UU and_UL or_LU shr_UL shl_UL shr_UN shl_UN quo_UL rem_UL quo_UU rem_UU
attribute [local go_sem] wrap8_U wrap32_U wrap64_B wrap32_B wrap8_D wrapi_B wrap64_UU eq_UU ne_UU eq_UL ne_UL lt_UU le_UU
attribute [local go_sem ↓] run_fadd run_fsub run_fmul run_fquo
attribute [local go_sem] fRes_some unary_neg_f run_store_complex run_store_float

/-- The value v is a slice of l small integers. -/
def I16s (w : World) (v : Value) (l : Nat) (A : Nat → Int) : Prop := (l = 0 ∧ ∃ a cap, v = .slice a 0 cap) ∨ ∃ b off cap, v = .slice (some ⟨b, off, none⟩) l cap ∧ ∀ i, i < l → w.cell? ⟨b, off + i, none⟩ = some (.int .i16 (A i))
theorem I16s.form {w : World} {v : Value} {l : Nat} {A : Nat → Int} (h : I16s w v l A) : ∃ a cap, v = .slice a l cap := by
  rcases h with ⟨rfl, a, cap, rfl⟩ | ⟨b, off, cap, rfl, _⟩
  · exact ⟨a, cap, rfl⟩
  · exact ⟨_, _, rfl⟩
def rem7 (L : Nat → Int) (i : Nat) : Int := (L i).tmod 7
theorem rem7_le (L : Nat → Int) (i : Nat) : -6 ≤ rem7 L i ∧ rem7 L i ≤ 6 := by
  unfold rem7
  have h1 := Int.tmod_lt_of_pos (L i) (show (0 : Int) < 7 by decide)
  have h2 := Int.lt_tmod_of_pos (L i) (show (0 : Int) < 7 by decide)
  omega
def numN (L : Nat → Int) (l : Nat) : Nat → Nat × Nat := fun i => if 2 * i + 1 < l then (floatOfInt .f64 (rem7 L (2 * i)), floatOfInt .f64 (rem7 L (2 * i + 1))) else (0, 0)
theorem numN_ok (L : Nat → Int) (l : Nat) (i : Nat) : fin2 (numN L l i) ∧ Lc (cx (numN L l i)) 7 := by
  unfold numN
  by_cases h : 2 * i + 1 < l
  · rw [if_pos h]
    have r1 := rem7_le L (2 * i)
    have r2 := rem7_le L (2 * i + 1)
    obtain ⟨f1, v1⟩ := int_val (rem7 L (2 * i)) (by omega) (by omega)
    obtain ⟨f2, v2⟩ := int_val (rem7 L (2 * i + 1)) (by omega) (by omega)
    refine ⟨⟨f1, f2⟩, ?_⟩
    unfold cx
    simp only [v1, v2]
    have l1 : ((6 : Int) : Rat) = 6 := rfl
    have l2 : ((-6 : Int) : Rat) = -6 := rfl
    have a1 := Rat.intCast_le_intCast.2 r1.1
    have a2 := Rat.intCast_le_intCast.2 r1.2
    have a3 := Rat.intCast_le_intCast.2 r2.1
    have a4 := Rat.intCast_le_intCast.2 r2.2
    rw [l1] at a2 a4
    rw [l2] at a1 a3
    unfold Lc Le
    simp only
    grind
  · rw [if_neg h]
    refine ⟨⟨val_zero.1, val_zero.1⟩, ?_⟩
    unfold cx
    simp only [val_zero.2]
    unfold Lc Le
    simp only
    grind

theorem wrap16_in (n : Int) (h : -32768 ≤ n ∧ n ≤ 32767) : IntKind.i16.wrap n = n := by
  simp [IntKind.wrap, IntKind.bits, IntKind.signed]
  split <;> omega

set_option maxRecDepth 20000 in
set_option maxHeartbeats 4000000 in
theorem numbers (vl : Value) (l : Nat) (L : Nat → Int) (n : Nat) (hn : n ≤ 64) (w : World) (hL : I16s w vl l L) (sl : l * 2 ≤ 140737488351232) :
    Calls Tryd.prog 16 #[vl, .int .i64 (n : Int)] w fun e w' => e = .returned (.slice (some ⟨w.heap.size, 0, none⟩) n n) ∧ CB w' w.heap.size n (numN L l) ∧ Below w.heap.size w w' := by
  have hmk := make_c n (by omega) w
  have X := Lib.hid (show CB (w.alloc (.cells ((List.range n).map fun _ => cval (0, 0)).toArray 34)) w.heap.size n (fun i => if i < 0 then numN L l i else (0, 0)) ∧ Below w.heap.size w (w.alloc (.cells ((List.range n).map fun _ => cval (0, 0)).toArray 34)) from ⟨(Row.new w _ _ n (fun _ => cval (0, 0)) rfl).toCB.congr fun i _ => by simp, by go_grown⟩)
  have HL := Lib.hid hL
  obtain ⟨a, ca, rfl⟩ := hL.form
  have s1 : (l : Int) ≤ 70368744175616 := by omega
  have hn' : (n : Int) ≤ 64 := by omega
  clear hL sl
  go_enter Tryd.func16, Tryd.ntmps16
  go_wp2
  go_loopw [11] (fun j wr => ∃ k : Nat, k ≤ n ∧ j = .int .i64 k ∧ CB wr w.heap.size n (fun i => if i < k then numN L l i else (0, 0)) ∧ Below w.heap.size w wr) (fun j _ => n - (intOf j).toNat)
  case atStart => exact ⟨0, by omega, rfl, X.out⟩
  case round =>
    clear X hmk
    obtain ⟨k, hk, rfl, hr, hb⟩ := hrel
    have k0 : (0 : Int) ≤ (k : Int) := Int.natCast_nonneg k
    by_cases hlt : k < n
    · have hlt' : (k : Int) < (n : Int) := by omega
      have hw1 : IntKind.i64.wrap (2 * (k : Int)) = 2 * (k : Int) := by rw [IntKind.wrap_i64]; omega
      have hw2 : IntKind.i64.wrap (2 * (k : Int) + 1) = 2 * (k : Int) + 1 := by rw [IntKind.wrap_i64]; omega
      by_cases hin : 2 * k + 1 < l
      · obtain ⟨z, hz⟩ : ∃ z, z = 2 * k := ⟨_, rfl⟩
        obtain ⟨z1, hz1⟩ : ∃ z1, z1 = 2 * k + 1 := ⟨_, rfl⟩
        have e1 : 2 * (k : Int) = (z : Int) := by omega
        have e2 : (z : Int) + 1 = (z1 : Int) := by omega
        rw [e1] at hw1 hw2
        rw [e2] at hw2
        obtain ⟨bk, ok, ck, hsl, hc1, hc2⟩ : ∃ bk ok ck, Value.slice a l ca = .slice (some ⟨bk, ok, none⟩) l ck ∧ w.cell? ⟨bk, ok + z, none⟩ = some (.int .i16 (L z)) ∧ w.cell? ⟨bk, ok + z1, none⟩ = some (.int .i16 (L z1)) := by
          rcases HL.out with ⟨h, _⟩ | ⟨b1, o1, c1, h1, h2⟩
          · omega
          · exact ⟨b1, o1, c1, h1, h2 z (by omega), h2 z1 (by omega)⟩
        cases hsl
        have c1 := (hb.cell (p := ⟨bk, ok + z, none⟩) (World.block_lt_of_cell? w _ hc1)).trans hc1
        have c2 := (hb.cell (p := ⟨bk, ok + z1, none⟩) (World.block_lt_of_cell? w _ hc2)).trans hc2
        have co := hr.cell k hlt
        have fo := hr.frozen k
        simp only [Nat.lt_irrefl, if_false] at co
        unfold cval at co
        have r1 := rem7_le L z
        have r2 := rem7_le L z1
        obtain ⟨y1, hy1⟩ : ∃ y, y = rem7 L z := ⟨_, rfl⟩
        obtain ⟨y2, hy2⟩ : ∃ y, y = rem7 L z1 := ⟨_, rfl⟩
        have t1 : (L z).tmod 7 = y1 := hy1.symm
        have t2 : (L z1).tmod 7 = y2 := hy2.symm
        rw [← hy1] at r1
        rw [← hy2] at r2
        obtain ⟨r11, r12⟩ := r1
        obtain ⟨r21, r22⟩ := r2
        have w1 : IntKind.i16.wrap y1 = y1 := wrap16_in _ (by omega)
        have w2 : IntKind.i16.wrap y2 = y2 := wrap16_in _ (by omega)
        have hv1 : ∀ w, (convert 41 35 (.int .i16 y1)).run Tryd.prog w = .ok (.float .f64 (floatOfInt .f64 y1)) w := fun w => by rfl
        have hv2 : ∀ w, (convert 41 35 (.int .i16 y2)).run Tryd.prog w = .ok (.float .f64 (floatOfInt .f64 y2)) w := fun w => by rfl
        have z0 : (0 : Int) ≤ (z : Int) := Int.natCast_nonneg z
        have z10 : (0 : Int) ≤ (z1 : Int) := Int.natCast_nonneg z1
        have zl : (z : Int) < (l : Int) := by omega
        have zl1 : (z1 : Int) < (l : Int) := by omega
        have HY := Lib.hid (And.intro hy1 (And.intro hy2 (And.intro hz hz1)))
        have HI := Lib.hid (And.intro hr hb)
        have HIN := Lib.hid hin
        clear hr hb hc1 hc2 hy1 hy2 hz hz1 hin
        go_wp2
        go_region
        go_wp2
        refine ⟨⟨k + 1, by omega, by go_num, (HI.out.1.drew.set k (floatOfInt .f64 y1, floatOfInt .f64 y2) hlt).congr fun q hq => ?_, HI.out.2.drew.setCell (p := ⟨w.heap.size, k, none⟩) (by simp) _⟩, by simp [intOf]; omega⟩
        by_cases e : q = k
        · subst e
          rw [if_pos rfl, if_pos (by omega)]
          unfold numN
          rw [if_pos HIN.out, HY.out.1, HY.out.2.1, HY.out.2.2.1, HY.out.2.2.2]
        · rw [if_neg e]
          by_cases h : q < k
          · rw [if_pos h, if_pos (by omega)]
          · rw [if_neg h, if_neg (by omega)]
      · have hin' : (l : Int) ≤ 2 * (k : Int) + 1 := by omega
        have HI := Lib.hid (And.intro hr hb)
        have HIN := Lib.hid hin
        clear hr hb hin
        go_wp2
        refine ⟨⟨k + 1, by omega, by go_num, HI.out.1.congr fun q hq => ?_, HI.out.2⟩, by simp [intOf]; omega⟩
        by_cases h : q < k
        · rw [if_pos h, if_pos (by omega)]
        · rw [if_neg h]
          by_cases e : q = k
          · subst e
            rw [if_pos (by omega)]
            unfold numN
            rw [if_neg HIN.out]
          · rw [if_neg (by omega)]
    · obtain rfl : k = n := by omega
      have HI := Lib.hid (And.intro hr hb)
      clear hr hb
      go_wp2
      go_ret
      exact ⟨rfl, HI.out.1.congr fun q hq => by rw [if_pos hq], HI.out.2⟩
end Go.Proofs.YtijbjncdiojpdaaDoor
