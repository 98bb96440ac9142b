/- Walks of dft.is, the reference's Is, dft.Roots. -/
import Derived.Test.YtijbjncdiojpdaaDoorWSincos3
import Derived.Test.YtijbjncdiojpdaaDoorRow
namespace Go.Proofs.YtijbjncdiojpdaaDoor
open Go.RowKit
attribute [local go_sem ↓] add_UU sub_UU mul_UU add_UL add_LU sub_UL sub_LU mul_UL neg_at not_at and_UU or_UU xor_UU andNot_UU and_UL or_LU shr_UL shl_UL shr_UN shl_UN quo_UL rem_UL quo_UU rem_UU
attribute [local go_sem] wrap8_U wrap32_U wrap64_B wrap32_B wrap8_D wrapi_B wrap64_UU eq_UU ne_UU eq_UL ne_UL lt_UU le_UU
attribute [local go_sem ↓] run_fadd run_fsub run_fmul run_fquo
attribute [local go_sem] fRes_some unary_neg_f run_store_complex run_store_float

/-- n and n - 1, bit by bit. -/
def andP (n : Int) : Int := IntKind.i64.wrap ((BitVec.ofInt 64 n &&& BitVec.ofInt 64 (n - 1)).toNat : Int)
theorem andP_eq (n : Int) : Op.intBits .and .i64 n (n - 1) = pure (.int .i64 (andP n)) := rfl
def isP (n : Int) : Bool := decide (1 ≤ n) && (decide (n ≤ 256) && andP n == 0)

theorem isWalk (n : Int) (w : World) :
    Calls Tryd.prog 25 #[.int .i64 n] w fun e w' => e = .returned (.bool (isP n)) ∧ w = w' := by
  have ha := andP_eq n
  rcases (show n < 1 ∨ (1 ≤ n ∧ 256 < n) ∨ (1 ≤ n ∧ n ≤ 256) by omega) with h1 | ⟨h1, h2⟩ | ⟨h1, h2⟩
  · go_enter Tryd.func25, Tryd.ntmps25
    go_wp2
    go_ret
    exact ⟨by rw [show isP n = false from by unfold isP; rw [decide_eq_false (by omega)]; rfl]; rfl, rfl⟩
  · go_enter Tryd.func25, Tryd.ntmps25
    go_wp2
    go_ret
    exact ⟨by rw [show isP n = false from by unfold isP; rw [decide_eq_false (show ¬ n ≤ 256 by omega)]; simp]; rfl, rfl⟩
  · go_enter Tryd.func25, Tryd.ntmps25
    go_wp2
    go_ret
    exact ⟨by rw [show isP n = (andP n == 0) from by unfold isP; rw [decide_eq_true h1, decide_eq_true h2]; rfl]; rfl, rfl⟩

/-- The lengths of which there is a transform. -/
theorem isP_cases (n : Int) (h : isP n = true) : n = 1 ∨ n = 2 ∨ n = 4 ∨ n = 8 ∨ n = 16 ∨ n = 32 ∨ n = 64 ∨ n = 128 ∨ n = 256 := by
  have key : (List.range 257).all (fun k => !(isP (k : Int)) || (k == 1 || (k == 2 || (k == 4 || (k == 8 || (k == 16 || (k == 32 || (k == 64 || (k == 128 || k == 256))))))))) = true := by decide +kernel
  have hb : 1 ≤ n ∧ n ≤ 256 := by
    unfold isP at h
    simp only [Bool.and_eq_true, decide_eq_true_eq] at h
    exact ⟨h.1, h.2.1⟩
  rw [List.all_eq_true] at key
  have hk := key n.toNat (by simp; omega)
  rw [show ((n.toNat : Nat) : Int) = n by omega, h] at hk
  simp at hk
  omega

theorem pow_le_eight (m : Nat) (hm : m ≤ 9) (h : 2 ^ m ≤ 256) : m ≤ 8 := by
  rcases (show m ≤ 8 ∨ m = 9 by omega) with h1 | rfl
  · exact h1
  · exact absurd h (by decide)

theorem refIs (n : Int) (w : World) :
    Calls Tryd.prog 14 #[.int .i64 n] w fun e w' => (e = .returned (.bool true) ∧ (∃ i, i < 9 ∧ n = ((2 ^ i : Nat) : Int)) ∨ e = .returned (.bool false) ∧ (∀ i, i < 9 → n ≠ ((2 ^ i : Nat) : Int))) ∧ w = w' := by
  go_enter Tryd.func14, Tryd.ntmps14
  go_wp2
  go_loop [3] (fun k => ∃ (v : Nat), k = .int .i64 (v : Int) ∧ v ≤ 512 ∧ 1 ≤ v ∧ Hid (∃ m, m ≤ 9 ∧ v = 2 ^ m ∧ ∀ i, i < m → n ≠ ((2 ^ i : Nat) : Int))) (fun k => 1000 - (intOf k).toNat)
  case atStart => exact ⟨1, rfl, by omega, by omega, Lib.hid ⟨0, by omega, rfl, fun i hi => by omega⟩⟩
  case round =>
    obtain ⟨v, rfl, hv, hv1, H⟩ := hrel
    have v0 : (0 : Int) ≤ (v : Int) := Int.natCast_nonneg v
    by_cases hlt : v ≤ 256
    · have hlt' : (v : Int) ≤ 256 := by omega
      by_cases he : n = (v : Int)
      · subst he
        go_wp2
        go_ret
        refine ⟨.inl ⟨rfl, ?_⟩, rfl⟩
        obtain ⟨m, h1, rfl, h3⟩ := H.out
        exact ⟨m, by have := pow_le_eight m h1 hlt; omega, rfl⟩
      · go_wp2
        go_round
        case rel =>
          refine ⟨v * 2, by go_num, by omega, by omega, ?_⟩
          obtain ⟨m, h1, rfl, h3⟩ := H.out
          refine Lib.hid ⟨m + 1, by have := pow_le_eight m h1 hlt; omega, by rw [Nat.pow_succ], fun i hi => ?_⟩
          rcases (show i < m ∨ i = m by omega) with hi' | rfl
          · exact h3 i hi'
          · exact he
        case measure => simp [intOf]; omega
    · have hgt : (256 : Int) < (v : Int) := by omega
      go_wp2
      go_ret
      refine ⟨.inr ⟨rfl, ?_⟩, rfl⟩
      obtain ⟨m, h1, rfl, h3⟩ := H.out
      intro i hi
      refine h3 i ?_
      rcases (show m ≤ 8 ∨ 9 ≤ m by omega) with hm | hm
      · exact absurd (Nat.pow_le_pow_right (show 0 < 2 by decide) hm) (by rw [show (2 : Nat) ^ 8 = 256 from by decide]; omega)
      · omega

theorem info_c : (Tryd.prog.info? 34).map (fun i => (i.zero, i.size, i.bytes)) = some (some (.complex .f64 0 0), 1, 16) := by kernel_rfl
theorem info_parts {t : TypeId} {z : Value} {n b : Nat} (h : (Tryd.prog.info? t).map (fun i => (i.zero, i.size, i.bytes)) = some (some z, n, b)) :
    ∃ i, Tryd.prog.info? t = some i ∧ i.zero = some z ∧ i.size = n ∧ i.bytes = b := by
  cases hi : Tryd.prog.info? t with
  | none => rw [hi] at h; cases h
  | some i =>
    rw [hi] at h
    simp only [Option.map_some, Option.some.injEq, Prod.mk.injEq] at h
    exact ⟨i, rfl, h.1, h.2.1, h.2.2⟩

def cval (p : Nat × Nat) : Value := .complex .f64 p.1 p.2
/-- A new slice of n complex zeros. -/
theorem make_c (n : Nat) (hn : n ≤ 1000) (w : World) : (Instr.makeSlice 30 (.int .i64 (n : Int)) (.int .i64 (n : Int))).run Tryd.prog w = .ok (.slice (some ⟨w.heap.size, 0, none⟩) n n) (w.alloc (.cells ((List.range n).map fun _ => cval (0, 0)).toArray 34)) := by
  obtain ⟨i, hi, hz, hs, hb⟩ := info_parts info_c
  have h := run_makeSlice (P := Tryd.prog) w 30 34 i _ Tryd.underlying30 hi hz .i64 .i64 (n : Int) (n : Int) (by omega) (by omega) (by rw [hs]; simp; omega) (by rw [hb]; omega) (by omega)
  rw [hs, Nat.mul_one, show (Value.complex .f64 0 0).cells = #[.complex .f64 0 0] from rfl, madeCells_one] at h
  simpa [cval] using h

theorem ofInt_conv (k : Nat) (w : World) : (convert 3 35 (.int .i64 (k : Int))).run Tryd.prog w = .ok (.float .f64 (floatOfInt .f64 (k : Int))) w := by rfl

theorem Tabs.below {w w' : World} (h : Tabs w) (hb : Below w.heap.size w w') (hg : 2 < w.heap.size) : Tabs w' := by
  unfold Tabs at *
  have h1 : ∀ i, w'.cell? ⟨1, i, none⟩ = w.cell? ⟨1, i, none⟩ := fun i => hb.cell (p := ⟨1, i, none⟩) (by show 1 < _; omega)
  have h2 : ∀ i, w'.cell? ⟨2, i, none⟩ = w.cell? ⟨2, i, none⟩ := fun i => hb.cell (p := ⟨2, i, none⟩) (by show 2 < _; omega)
  simp only [h1, h2]
  exact h
set_option maxHeartbeats 2000000 in
/-- dft.Roots. -/
theorem roots (n : Nat) (R : Nat → Nat × Nat) (hp : isP (n : Int) = true) (hR : ∀ k, k < n → rootAt n k = some (R k)) (w : World) (ht : Tabs w) (hg : 2 < w.heap.size) :
    Calls Tryd.prog 13 #[.int .i64 (n : Int)] w fun e w' => e = .returned (.slice (some ⟨w.heap.size, 0, none⟩) n n) ∧ Row w' w.heap.size 34 n (fun i => cval (R i)) ∧ Below w.heap.size w w' := by
  have hn : n ≤ 256 := by
    unfold isP at hp
    simp only [Bool.and_eq_true, decide_eq_true_eq] at hp
    omega
  have hmk := make_c n (by omega) w
  have X := Lib.hid (show Row (w.alloc (.cells ((List.range n).map fun _ => cval (0, 0)).toArray 34)) w.heap.size 34 n (fun i => if i < 0 then cval (R i) else cval (0, 0)) ∧ Below w.heap.size w (w.alloc (.cells ((List.range n).map fun _ => cval (0, 0)).toArray 34)) from ⟨(Row.new w _ _ n _ rfl).congr fun i _ => by simp, by go_grown⟩)
  have HI := Lib.hid (isWalk (n : Int))
  have HR := Lib.hid hR
  have HT := Lib.hid ht
  clear hR ht
  go_enter Tryd.func13, Tryd.ntmps13
  go_wp2_with fail
  rw [hp] at HI
  refine (HI.out _).mono ?_
  rintro e w1 ⟨rfl, rfl⟩
  clear HI hp
  go_wp2
  go_loopw [14] (fun j wr => ∃ k : Nat, k ≤ n ∧ j = .int .i64 k ∧ Row wr w.heap.size 34 n (fun i => if i < k then cval (R i) else cval (0, 0)) ∧ Below w.heap.size w wr) (fun j _ => n - (intOf j).toNat)
  case atStart => exact ⟨0, by omega, rfl, X.out⟩
  case round =>
    clear X hmk
    obtain ⟨k, hk, rfl, hr, hb⟩ := hrel
    have k0 : (0 : Int) ≤ (k : Int) := Int.natCast_nonneg k
    by_cases hlt : k < n
    · have hlt' : (k : Int) < (n : Int) := by omega
      have hcv1 := ofInt_conv k
      have hcv2 := ofInt_conv n
      obtain ⟨fk, hfk⟩ : ∃ v, v = floatOfInt .f64 (k : Int) := ⟨_, rfl⟩
      obtain ⟨fn, hfn⟩ : ∃ v, v = floatOfInt .f64 (n : Int) := ⟨_, rfl⟩
      have hroot := HR.out k hlt
      unfold rootAt angle at hroot
      rw [← hfk, ← hfn] at hroot
      rw [← hfk] at hcv1
      rw [← hfn] at hcv2
      obtain ⟨x, hx, hroot⟩ := bind_some' hroot
      obtain ⟨a, ha, hx⟩ := bind_some' hx
      obtain ⟨⟨s, c⟩, hsc, hroot⟩ := bind_some' hroot
      replace hroot := Option.some.inj hroot
      unfold fb at ha hx
      have HS := Lib.hid (sincos x s c hsc)
      have HB := Lib.hid (And.intro hr hb)
      have HE := Lib.hid hroot
      have f1 := hr.frozen k
      have c1 := hr.cell k hlt
      have hgB := hr.lt
      simp only [Nat.lt_irrefl, if_false, cval] at c1
      clear hr hb hroot hsc hfk hfn
      go_wp2_with fail
      refine (HS.out _ ?_).mono ?_
      · exact HT.out.below HB.out.2 hg
      rintro e w2 ⟨rfl, rfl⟩
      go_wp2
      refine ⟨⟨k + 1, by omega, by go_num, (HB.out.1.set k _).congr fun i hi => ?_, HB.out.2.setCell (p := ⟨w.heap.size, k, none⟩) (by simp) _⟩, by simp [intOf]; omega⟩
      by_cases e : i = k
      · subst e
        rw [if_pos rfl, if_pos (by omega), ← HE.out]
        rfl
      · rw [if_neg e]
        by_cases h : i < k
        · rw [if_pos h, if_pos (by omega)]
        · rw [if_neg h, if_neg (by omega)]
    · obtain rfl : k = n := by omega
      have HB := Lib.hid (And.intro hr hb)
      clear hr hb
      go_wp2
      go_ret
      exact ⟨rfl, HB.out.1.congr fun i hi => by rw [if_pos hi], HB.out.2⟩
end Go.Proofs.YtijbjncdiojpdaaDoor
