/- The six laws of package mask, walked: each returns true and writes nothing that was there. -/
import Derived.Test.YtacghnepggkgpaaMaskAlive
namespace Go.Proofs.Ytacghnepggkgpaa
open Go.RowKit
attribute [local go_sem ↓] add_UU sub_UU mul_UU add_UL add_LU sub_UL sub_LU mul_UL neg_at not_at and_UU or_UU xor_UU andNot_UU and_UL or_LU shr_UL shl_UL shr_UN shl_UN quo_UL rem_UL quo_UU rem_UU
attribute [local go_sem] wrap8_U wrap32_U wrap64_B wrap32_B wrap8_D wrapi_B wrap64_UU eq_UU ne_UU eq_UL ne_UL lt_UU le_UU

theorem walkMaskBits (a : BitVec 64) (w : World) :
    Calls Try.prog 3 #[.int .u64 (U a)] w fun e w' => e = .returned (.bool true) ∧ Below w.heap.size w w' := by
  cases hc : (a % 2#64 == 1#64)
  all_goals
    have hv : fromBitW a = maskW (a % 2#64 == 1#64) := fromBitW_eq a
    rw [hc] at hv
    simp only [maskW, Bool.false_eq_true, if_false, if_true] at hv
    go_enter Try.func3, Try.ntmps3
    go_wp2_with fail
    refine (alive _).mono ?_
    rintro e w1 ⟨rfl, hb1⟩
    go_wp2_with fail
    refine (fromBit a _).mono ?_
    rintro e w2 ⟨rfl, rfl⟩
    go_wp2_with fail
    refine (refMask _ _).mono ?_
    rintro e w2 ⟨rfl, rfl⟩
    go_wp2
    go_ret
    exact ⟨rfl, hb1⟩

theorem walkMaskCompares (a b : BitVec 64) (w : World) :
    Calls Try.prog 4 #[.int .u64 (U a), .int .u64 (U b)] w fun e w' => e = .returned (.bool true) ∧ Below w.heap.size w w' := by
  have hv : equalW a b = maskW (decide (a = b)) := equalW_eq a b
  have hu : lessW a b = maskW (decide (a < b)) := lessW_eq a b
  rw [show decide (a = b) = (a == b) from rfl] at hv
  cases hc : (a == b) <;> cases hd : decide (a < b)
  all_goals
    rw [hc] at hv
    rw [hd] at hu
    simp only [maskW, Bool.false_eq_true, if_false, if_true] at hv hu
    go_enter Try.func4, Try.ntmps4
    go_wp2_with fail
    refine (alive _).mono ?_
    rintro e w1 ⟨rfl, hb1⟩
    go_wp2_with fail
    refine (equal a b _).mono ?_
    rintro e w2 ⟨rfl, hb2⟩
    go_wp2_with fail
    refine (refMask _ _).mono ?_
    rintro e w3 ⟨rfl, rfl⟩
    go_wp2_with fail
    refine (less a b _).mono ?_
    rintro e w3 ⟨rfl, rfl⟩
    go_wp2_with fail
    refine (refMask _ _).mono ?_
    rintro e w3 ⟨rfl, rfl⟩
    go_wp2
    go_ret
    exact ⟨rfl, hb1.trans (hb2.mono hb1.size)⟩

theorem walkMaskChooses (m a b : BitVec 64) (w : World) :
    Calls Try.prog 5 #[.int .u64 (U m), .int .u64 (U a), .int .u64 (U b)] w fun e w' => e = .returned (.bool true) ∧ Below w.heap.size w w' := by
  have hu : chooseW (lessW a b) a b = if decide (a < b) then a else b := by rw [lessW_eq, chooseW_mask]
  have h3 : (a < b ∧ ¬ b < a) ∨ (¬ a < b ∧ b < a) ∨ a = b := by
    simp only [BitVec.lt_def, ← BitVec.toNat_inj]; omega
  rcases h3 with ⟨hd, hd'⟩ | ⟨hd, hd'⟩ | rfl
  case' inr.inr => have hd : ¬ a < a := BitVec.lt_irrefl a
  all_goals
    simp only [hd, decide_true, decide_false, Bool.false_eq_true, if_false, if_true] at hu
    go_enter Try.func5, Try.ntmps5
    go_wp2_with fail
    refine (alive _).mono ?_
    rintro e w1 ⟨rfl, hb1⟩
    go_wp2_with fail
    refine (choose m _ _ _).mono ?_
    rintro e w2 ⟨rfl, rfl⟩
    go_wp2_with fail
    refine (refChoose m _ _ _).mono ?_
    rintro e w2 ⟨rfl, rfl⟩
    go_wp2_with fail
    refine (less _ _ _).mono ?_
    rintro e w3 ⟨rfl, rfl⟩
    go_wp2_with fail
    refine (choose _ _ _ _).mono ?_
    rintro e w3 ⟨rfl, rfl⟩
    go_wp2
    go_ret
    exact ⟨rfl, hb1⟩

theorem walkMaskTrichotomy (a b : BitVec 64) (w : World) :
    Calls Try.prog 6 #[.int .u64 (U a), .int .u64 (U b)] w fun e w' => e = .returned (.bool true) ∧ Below w.heap.size w w' := by
  have h3 : (a < b ∧ ¬ b < a ∧ ¬ a = b) ∨ (¬ a < b ∧ b < a ∧ ¬ a = b) ∨ (¬ a < b ∧ ¬ b < a ∧ a = b) := by
    simp only [BitVec.lt_def, ← BitVec.toNat_inj]; omega
  have e1 := lessW_eq a b
  have e2 := lessW_eq b a
  have e3 := equalW_eq a b
  have e4 : zeroW (a ^^^ b) = equalW a b := rfl
  rcases h3 with ⟨h1, h2, h3⟩ | ⟨h1, h2, h3⟩ | ⟨h1, h2, h3⟩
  all_goals
    first | rw [decide_eq_true h1] at e1 | rw [decide_eq_false h1] at e1
    first | rw [decide_eq_true h2] at e2 | rw [decide_eq_false h2] at e2
    first | rw [decide_eq_true h3] at e3 | rw [decide_eq_false h3] at e3
    rw [e3] at e4
    simp only [maskW, Bool.false_eq_true, if_false, if_true] at e1 e2 e3 e4
    clear h1 h2 h3
    go_enter Try.func6, Try.ntmps6
    go_wp2_with fail
    refine (less _ _ _).mono ?_
    rintro e w1 ⟨rfl, rfl⟩
    go_wp2_with fail
    refine (less _ _ _).mono ?_
    rintro e w1 ⟨rfl, rfl⟩
    go_wp2_with fail
    refine (equal _ _ _).mono ?_
    rintro e w1 ⟨rfl, hb1⟩
    go_wp2_with fail
    refine (alive _).mono ?_
    rintro e w2 ⟨rfl, hb2⟩
    go_wp2_with fail
    refine (isZero_one _ _ _ (cellNew _ _ _ 0) _).mono ?_
    rintro e w3 ⟨rfl, rfl⟩
    go_wp2
    go_ret
    exact ⟨rfl, (hb1.trans (hb2.mono hb1.size)).alloc (Nat.le_trans hb1.size hb2.size) _⟩


/-- What slices.Clone leaves, as a slice that holds the words. -/
theorem us_of_owns {w : World} {base : Nat} {v : Value} {xs : List (BitVec 64)} (h : w.ownsRow base 22 1 v xs.length (words xs)) :
    (v = .slice none 0 0 ∧ xs = []) ∨ ∃ g cap, v = .slice (some ⟨g, 0, none⟩) xs.length cap ∧ base ≤ g ∧ ∀ i, i < xs.length → w.cell? ⟨g, i, none⟩ = some (.int .u64 (U (xs[i]?.getD 0#64))) := by
  rcases h.2 with ⟨h1, h2⟩ | ⟨g, cap, cur, h1, hg, hh, hn, hm, hs, ht⟩
  · exact .inl ⟨h1, List.eq_nil_of_length_eq_zero h2⟩
  · refine .inr ⟨g, cap, h1, hg, fun i hi => ?_⟩
    unfold World.cell?
    simp only []
    rw [hh]
    show cur[i]? = _
    have hl : (words xs)[i]? = some (.int .u64 (U (xs[i]?.getD 0#64))) := by
      unfold words
      rw [List.getElem?_map, List.getElem?_eq_getElem hi]
      rfl
    rw [← ht] at hl
    rw [List.getElem?_take] at hl
    split at hl
    · simpa using hl
    · cases hl

theorem equal_zero (a a' : Option Addr) (cap cap' : Nat) (w : World) :
    Calls Try.prog 25 #[.slice a 0 cap, .slice a' 0 cap'] w fun e w' => e = .returned (.bool true) ∧ Below w.heap.size w w' := by
  go_enter Try.func25, Try.ntmps25
  go_wp2
  refine wp_loop_rounds 1 ?_
  rw [rounds_succ]
  go_wp2
  go_ret
  exact ⟨rfl, Below.refl _ _⟩

/-- slices.Equal of a slice that holds xs and of one that owns xs. -/
theorem equal_owns (s v : Value) (xs : List (BitVec 64)) (w : World) (base : Nat) (hl : xs.length * 8 ≤ 140737488351232) (hs : Us w s xs) (hv : w.ownsRow base 22 1 v xs.length (words xs)) :
    Calls Try.prog 25 #[s, v] w fun e w' => e = .returned (.bool true) ∧ Below w.heap.size w w' := by
  rcases us_of_owns hv with ⟨rfl, rfl⟩ | ⟨g, cap, rfl, hg, hc⟩
  · rcases hs with ⟨_, _, rfl, _⟩ | ⟨b, off, cap, rfl, _⟩
    · exact equal_zero _ _ _ _ w
    · exact equal_zero _ _ _ _ w
  · rcases hs with ⟨_, _, rfl, rfl⟩ | ⟨b, off, cap', rfl, hc'⟩
    · exact equal_zero _ _ _ _ w
    · exact equal_same b off cap' g 0 cap xs w hl hc' (fun i hi => by rw [Nat.zero_add]; exact hc i hi)

theorem Us.below {w w' : World} {s : Value} {xs : List (BitVec 64)} (h : Us w s xs) (hb : Below w.heap.size w w') : Us w' s xs := by
  rcases h with h | ⟨b, off, cap, rfl, hc⟩
  · exact .inl h
  · exact .inr ⟨b, off, cap, rfl, fun i hi => (hb.cell (p := ⟨b, off + i, none⟩) (World.block_lt_of_cell? w _ (hc i hi))).trans (hc i hi)⟩

theorem Us.us0 {w : World} {s : Value} {xs : List (BitVec 64)} (h : Us w s xs) : Us0 w.heap.size w s xs := by
  rcases h with ⟨_, _, rfl, rfl⟩ | ⟨b, off, cap, rfl, hc⟩
  · exact .inl ⟨_, _, rfl, rfl⟩
  · by_cases hn : xs = []
    · subst hn; exact .inl ⟨_, _, rfl, rfl⟩
    · have h0 : 0 < xs.length := List.length_pos_iff.2 hn
      exact .inr ⟨b, off, cap, rfl, World.block_lt_of_cell? w _ (hc 0 h0), hc⟩

theorem Us.len {w : World} {s : Value} {xs : List (BitVec 64)} (h : Us w s xs) : ∃ a cap, s = .slice a xs.length cap := by
  rcases h with ⟨_, _, rfl, rfl⟩ | ⟨b, off, cap, rfl, hc⟩
  · exact ⟨_, _, rfl⟩
  · exact ⟨_, _, rfl⟩

/-- slices.Clone. -/
theorem clone (s : Value) (xs : List (BitVec 64)) (w : World) (hl : xs.length * 8 ≤ 140737488351232) (h : Us w s xs) :
    Calls Try.prog 23 #[s] w fun e w' => ∃ v, e = .returned v ∧ w'.ownsRow w.heap.size 22 1 v xs.length (words xs) ∧ Below w.heap.size w w' := by
  rcases h with ⟨a, cap, rfl, rfl⟩ | ⟨b, off, cap, rfl, hc⟩
  · cases a with
    | none => exact (clone_nil cap w).mono fun e w' ⟨he, hw⟩ => ⟨_, he, World.ownsRow_nil _ _ _ _, hw ▸ Below.refl _ _⟩
    | some ad => exact clone_zero ad cap w
  · exact clone_some b off cap xs w hl hc

theorem big_walk_alive (w : World) (n : Nat) (a : Option Addr) (cap : Nat) (hn : 1000 < n) (hn' : n ≤ 140737488351232) :
    Calls Try.prog 7 #[.slice a n cap] w fun e w' => e = .returned (.bool true) ∧ Below w.heap.size w w' := by
  have h : (1000 : Int) < (n : Int) := by omega
  go_enter Try.func7, Try.ntmps7
  go_wp2_with fail
  refine (alive _).mono ?_
  rintro e w1 ⟨rfl, hb1⟩
  go_wp2
  go_ret
  exact ⟨rfl, hb1⟩

theorem walkMaskZeros (s : Value) (xs : List (BitVec 64)) (w : World) (hl : xs.length * 8 ≤ 140737488351232) (hs : Us w s xs) :
    Calls Try.prog 7 #[s] w fun e w' => e = .returned (.bool true) ∧ Below w.heap.size w w' := by
  obtain ⟨a, cap, rfl⟩ := hs.len
  by_cases hbig : 1000 < xs.length
  · exact big_walk_alive w _ a cap hbig (by omega)
  · have hlen : (xs.length : Int) ≤ 1000 := by omega
    have hz : zeroW (orAll xs) = maskW (allZero xs) := zeroW_eq _
    cases hz0 : allZero xs
    all_goals
      rw [hz0] at hz
      simp only [maskW, Bool.false_eq_true, if_false, if_true] at hz
      go_enter Try.func7, Try.ntmps7
      go_wp2_with fail
      refine (clone _ xs _ hl hs).mono ?_
      rintro e w1 ⟨v, rfl, hv, hb1⟩
      go_wp2_with fail
      refine (alive _).mono ?_
      rintro e w2 ⟨rfl, hb2⟩
      have hv2 : w2.ownsRow w.heap.size 22 1 v xs.length (words xs) := hv.kept (row := none) ⟨hb2.os, hb2.tape, hb2.output, hb2.size, fun k hk _ => hb2.block k hk⟩ (by cases hvb : v.ownBlock <;> simp)
      have hs2 : Us w2 (.slice a xs.length cap) xs := (hs.below hb1).below hb2
      go_wp2_with fail
      refine (isZero _ xs _ (by unfold maxLen; omega) hs2).mono ?_
      rintro e w3 ⟨rfl, rfl⟩
      go_wp2_with fail
      refine (refIsZero _ xs _ (by unfold maxLen; omega) hs2).mono ?_
      rintro e w3 ⟨rfl, rfl⟩
      go_wp2_with fail
      refine (refMask _ _).mono ?_
      rintro e w3 ⟨rfl, rfl⟩
      go_wp2_with fail
      refine (equal_owns _ v xs _ _ hl hs2 hv2).mono ?_
      rintro e w3 ⟨rfl, hb3⟩
      go_wp2
      go_ret
      exact ⟨rfl, (hb1.trans (hb2.mono hb1.size)).trans (hb3.mono (Nat.le_trans hb1.size hb2.size))⟩


theorem big_walk_tables (w : World) (n : Nat) (a : Option Addr) (cap : Nat) (i : BitVec 64) (hn : 1000 < n) (hn' : n ≤ 140737488351232) :
    Calls Try.prog 8 #[.slice a n cap, .int .u64 (U i)] w fun e w' => e = .returned (.bool true) ∧ Below w.heap.size w w' := by
  have h : (1000 : Int) < (n : Int) := by omega
  go_enter Try.func8, Try.ntmps8
  go_wp2_with fail
  refine (alive _).mono ?_
  rintro e w1 ⟨rfl, hb1⟩
  go_wp2
  go_ret
  exact ⟨rfl, hb1⟩

/-- The element that the reference hands back. -/
def tableV (xs : List (BitVec 64)) (i : BitVec 64) : BitVec 64 := if i.toNat < xs.length then xs[i.toNat]?.getD 0#64 else 0#64

theorem refTable (s : Value) (xs : List (BitVec 64)) (i : BitVec 64) (w : World) (hl : xs.length * 8 ≤ 140737488351232) (hs : Us w s xs) :
    Calls Try.prog 27 #[s, .int .u64 (U i)] w fun e w' => e = .returned (.int .u64 (U (tableV xs i))) ∧ w = w' := by
  by_cases hi : i.toNat < xs.length
  · rcases hs with ⟨_, _, rfl, rfl⟩ | ⟨b, off, cap, rfl, hc⟩
    · simp at hi
    · have hc' := hc _ hi
      rw [List.getElem?_eq_getElem hi, Option.getD_some] at hc'
      have hv : tableV xs i = xs[i.toNat] := by unfold tableV; rw [if_pos hi, List.getElem?_eq_getElem hi, Option.getD_some]
      rw [hv]
      exact refTable_in b off cap xs i w hl hi hc'
  · obtain ⟨a, cap, rfl⟩ := hs.len
    have hv : tableV xs i = 0#64 := by unfold tableV; rw [if_neg hi]
    rw [hv]
    exact refTable_out a _ cap i w hl (by omega)

theorem walkMaskTables (s : Value) (xs : List (BitVec 64)) (i : BitVec 64) (w : World) (hl : xs.length * 8 ≤ 140737488351232) (hs : Us w s xs) :
    Calls Try.prog 8 #[s, .int .u64 (U i)] w fun e w' => e = .returned (.bool true) ∧ Below w.heap.size w w' := by
  obtain ⟨a, cap, rfl⟩ := hs.len
  by_cases hbig : 1000 < xs.length
  · exact big_walk_tables w _ a cap i hbig (by omega)
  · have hlen : (xs.length : Int) ≤ 1000 := by omega
    have hz : tabT i (upto (entry xs) xs.length) = tableV xs i := tabT_upto i xs (by omega) _ (Nat.le_refl _)
    go_enter Try.func8, Try.ntmps8
    go_wp2_with fail
    refine (clone _ xs _ hl hs).mono ?_
    rintro e w1 ⟨v, rfl, hv, hb1⟩
    go_wp2_with fail
    refine (alive _).mono ?_
    rintro e w2 ⟨rfl, hb2⟩
    have hv2 : w2.ownsRow w.heap.size 22 1 v xs.length (words xs) := hv.kept (row := none) ⟨hb2.os, hb2.tape, hb2.output, hb2.size, fun k hk _ => hb2.block k hk⟩ (by cases hvb : v.ownBlock <;> simp)
    have hs2 : Us w2 (.slice a xs.length cap) xs := (hs.below hb1).below hb2
    go_wp2_with fail
    refine (table a xs.length cap xs i hl _ hs2.us0).mono ?_
    rintro e w3 ⟨rfl, hb3⟩
    have hv3 : w3.ownsRow w.heap.size 22 1 v xs.length (words xs) := hv2.kept (row := none) ⟨hb3.os, hb3.tape, hb3.output, hb3.size, fun k hk _ => hb3.block k hk⟩ (by cases hvb : v.ownBlock <;> simp)
    have hs3 : Us w3 (.slice a xs.length cap) xs := hs2.below hb3
    go_wp2_with fail
    refine (refTable _ xs i _ hl hs3).mono ?_
    rintro e w4 ⟨rfl, rfl⟩
    go_wp2_with fail
    refine (equal_owns _ v xs _ _ hl hs3 hv3).mono ?_
    rintro e w4 ⟨rfl, hb4⟩
    go_wp2
    go_ret
    exact ⟨rfl, ((hb1.trans (hb2.mono hb1.size)).trans (hb3.mono (Nat.le_trans hb1.size hb2.size))).trans (hb4.mono (Nat.le_trans (Nat.le_trans hb1.size hb2.size) hb3.size))⟩

end Go.Proofs.Ytacghnepggkgpaa
