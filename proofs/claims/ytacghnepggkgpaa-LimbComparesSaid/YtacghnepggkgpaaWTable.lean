/- The iterator of mask.Table and Table itself. -/
import Derived.Test.YtacghnepggkgpaaWMask
import Derived.RangeFuncNested
import Derived.RangeFuncBound
import Derived.RangeFuncCalls
import Derived.RangeFuncLeaves
import Derived.RangeFuncBox
import Derived.Shelf.Abstract
import Derived.Shelf.RegionOpen
import Derived.OwnWalkIn
import Derived.TacticsInMore
import Derived.LoopNIn
import Derived.LoopIn
import Derived.Outline
namespace Go.Proofs.Ytacghnepggkgpaa
open Go.RowKit Go.Shelf
attribute [local go_sem] Oper.semAt_some
attribute [local go_sem ↓] add_UU sub_UU mul_UU add_UL add_LU sub_UL sub_LU mul_UL neg_at not_at and_UU or_UU xor_UU andNot_UU and_UL or_LU shr_UL shl_UL shr_UN shl_UN quo_UL rem_UL quo_UU rem_UU
attribute [local go_sem] wrap8_U wrap32_U wrap64_B wrap32_B wrap8_D wrapi_B wrap64_UU eq_UU ne_UU eq_UL ne_UL lt_UU le_UU

/-- What has come when k rounds are over. -/
def upto {α : Type} (f : Nat → α) (k : Nat) : List α := (List.range k).map f
theorem upto_succ {α : Type} (f : Nat → α) (k : Nat) : upto f (k + 1) = upto f k ++ [f k] := by simp [upto, List.range_succ]
theorem upto_length {α : Type} (f : Nat → α) (k : Nat) : (upto f k).length = k := by simp [upto]

/-- The pair that round j of the table's iterator hands on. -/
def entry (xs : List (BitVec 64)) (j : Nat) : BitVec 64 × BitVec 64 := (BitVec.ofNat 64 j, xs[j]?.getD 0#64)

theorem KeepsOthers.of_below {W W' : World} (h : Below W.heap.size W W') : KeepsOthers W W' :=
  ⟨h.size, fun k _o hk _ => (h.block k (Array.getElem?_eq_some_iff.1 hk).1).trans hk⟩

set_option maxRecDepth 100000 in
set_option maxHeartbeats 2000000 in
theorem entries1_in (F : Fence) (n : Nat) (h8 : F.fn 50) (hro : F.round = none) (hn : 1 ≤ n) (l Bs n₀ b off cap : Nat) (xs : List (BitVec 64)) (hreach : xs.length * 8 ≤ 140737488351232) (hb : b < n₀) (J Jx : List (BitVec 64 × BitVec 64) → World → Prop)
    (hY : ∀ pre x W, J pre W → pre.length < xs.length → YieldAt F (n - 1) Try.prog l #[.int .u64 (U x.1), .int .u64 (U x.2)] W fun e W' =>
      (e = .returned (.bool true) ∧ J (pre ++ [x]) W' ∧ Below n₀ W W') ∨ (e = .returned (.bool false) ∧ Jx (pre ++ [x]) W'))
    (W : World) (hBs : W.cell? ⟨Bs, 0, none⟩ = some (.slice (some ⟨b, off, none⟩) xs.length cap)) (hc : ∀ j, j < xs.length → W.cell? ⟨b, off + j, none⟩ = some (.int .u64 (U (xs[j]?.getD 0#64)))) (h0 : J [] W) :
    CallsIn F n Try.prog 50 #[.func (.yield l) #[] #[], .pointer (some ⟨Bs, 0, none⟩)] W fun e W' => (∃ v, e = .returned v) ∧
      ((∃ ys, ys = upto (entry xs) xs.length ∧ J ys W') ∨ (∃ pre, (∃ k, k ≤ xs.length ∧ pre = upto (entry xs) k) ∧ Jx pre W')) := by
  refine callsIn_of_wp Try.func50 rfl h8 ?_ hro
  simp only [Try.ntmps50, List.size_toArray, List.length_cons, List.length_nil, Nat.reduceAdd, Nat.reduceSub, Array.replicate_succ, Array.replicate_zero, List.push_toArray, List.append_toArray, List.nil_append, List.cons_append]
  gi_wp2
  gi_loopw [7] (fun i wr => ∃ k : Nat, k ≤ xs.length ∧ i = .int .i64 k ∧ J (upto (entry xs) k) wr ∧ Below n₀ W wr)
    (fun i _ => xs.length - (intOf i).toNat)
  case atStart => exact ⟨0, Nat.zero_le _, rfl, h0, Below.refl _ _⟩
  case round =>
    obtain ⟨k, hk, rfl, hJs, hnx⟩ := hrel
    have hcx : k < xs.length → wr.cell? ⟨b, off + k, none⟩ = some (.int .u64 (U (xs[k]?.getD 0#64))) := fun h => (hnx.cell (p := ⟨b, off + k, none⟩) hb).trans (hc k h)
    by_cases hlt : k < xs.length
    · obtain ⟨fn, tmps, assign, body, hy, hR⟩ := hY _ (entry xs k) wr hJs (by rw [upto_length]; exact hlt)
      dsimp only [entry] at hy
      have hcx' := hcx hlt
      rw [List.getElem?_eq_getElem hlt, Option.getD_some] at hcx' hy
      rw [← lit_U k (by omega)] at hy
      clear hcx hc
      gi_wp2
      refine hR.mono ?_
      rintro e W3 (⟨rfl, hJ3, hk3⟩ | ⟨rfl, hJx3⟩)
      · gi_wp2
        go_roundw
        case rel => exact ⟨k + 1, by omega, by simp, by rw [upto_succ]; exact hJ3, hnx.trans hk3⟩
        case measure => simp [intOf]; omega
      · gi_wp2
        refine bodyPost_ret (results_none rfl _ _ _) rfl ?_
        exact ⟨⟨_, rfl⟩, .inr ⟨_, ⟨k + 1, by omega, (upto_succ _ _).symm⟩, hJx3⟩⟩
    · obtain rfl : k = xs.length := by omega
      gi_wp2
      go_end0
      exact ⟨⟨_, rfl⟩, .inl ⟨_, rfl, hJs⟩⟩

set_option maxRecDepth 100000 in
set_option maxHeartbeats 1000000 in
theorem entries1_nil_in (F : Fence) (n : Nat) (h8 : F.fn 50) (hro : F.round = none) (l Bs : Nat) (a : Option Addr) (cap : Nat) (J : List (BitVec 64 × BitVec 64) → World → Prop) (W : World) (hBs : W.cell? ⟨Bs, 0, none⟩ = some (.slice a 0 cap)) (h0 : J [] W) :
    CallsIn F n Try.prog 50 #[.func (.yield l) #[] #[], .pointer (some ⟨Bs, 0, none⟩)] W fun e W' => (∃ v, e = .returned v) ∧ J [] W' := by
  refine callsIn_of_wp Try.func50 rfl h8 ?_ hro
  simp only [Try.ntmps50, List.size_toArray, List.length_cons, List.length_nil, Nat.reduceAdd, Nat.reduceSub, Array.replicate_succ, Array.replicate_zero, List.push_toArray, List.append_toArray, List.nil_append, List.cons_append]
  gi_wp2
  gi_loopw [7] (fun i wr => i = .int .i64 0 ∧ J [] wr) (fun _ _ => 0)
  case atStart => exact ⟨rfl, h0⟩
  case round =>
    obtain ⟨rfl, hJs⟩ := hrel
    gi_wp2
    go_end0
    exact ⟨⟨_, rfl⟩, hJs⟩

theorem entries_in (F : Fence) (n : Nat) (h6 : F.fn 42) (hro : F.round = none) (a : Option Addr) (len cap : Nat) (w : World) :
    CallsIn F n Try.prog 42 #[.slice a len cap] w fun e w' => e = .returned (.func (.func 50) #[] #[.pointer (some ⟨w.heap.size, 0, none⟩)]) ∧ w' = w.alloc (.cells #[.slice a len cap] 32) := by
  refine callsIn_of_wp Try.func42 rfl h6 ?_ hro
  simp only [Try.ntmps42, List.size_toArray, List.length_cons, List.length_nil, Nat.reduceAdd, Nat.reduceSub, Array.replicate_succ, Array.replicate_zero, List.push_toArray, List.append_toArray, List.nil_append, List.cons_append]
  gi_wp2
  go_ret
  exact ⟨rfl, rfl⟩

/-- A slice value that holds words, all of them in a block below n₀. -/
def Us0 (n₀ : Nat) (W : World) (s : Value) (xs : List (BitVec 64)) : Prop :=
  (∃ a cap, s = .slice a 0 cap ∧ xs = []) ∨ ∃ b off cap, s = .slice (some ⟨b, off, none⟩) xs.length cap ∧ b < n₀ ∧ ∀ j, j < xs.length → W.cell? ⟨b, off + j, none⟩ = some (.int .u64 (U (xs[j]?.getD 0#64)))
theorem Us0.below {n₀ : Nat} {A B : World} (h : Below n₀ A B) {s : Value} {xs : List (BitVec 64)} : Us0 n₀ A s xs → Us0 n₀ B s xs
  | .inl e => .inl e
  | .inr ⟨b, off, cap, e, hb, hc⟩ => .inr ⟨b, off, cap, e, hb, fun j hj => (h.cell (p := ⟨b, off + j, none⟩) hb).trans (hc j hj)⟩

theorem entries_stops (F : Fence) (n : Nat) (h8 : F.fn 50) (hro : F.round = none) (hn : 1 ≤ n) (Bs n₀ : Nat) (sv : Value) (xs : List (BitVec 64)) (hreach : xs.length * 8 ≤ 140737488351232) (w : World) (hBs : Bs < w.heap.size) (hn₀ : n₀ ≤ w.heap.size)
    (hc : w.cell? ⟨Bs, 0, none⟩ = some sv) (hI : Us0 n₀ w sv xs) :
    SeqStopsK F n Try.prog 50 #[.pointer (some ⟨Bs, 0, none⟩)] (fun x : BitVec 64 × BitVec 64 => #[Value.int .u64 (U x.1), Value.int .u64 (U x.2)]) (Below n₀) (fun ys => ys = upto (entry xs) xs.length)
      (fun pre => ∃ k, k ≤ xs.length ∧ pre = upto (entry xs) k) xs.length w := fun l J Jx W hW _ _ hY h0 => by
  have hc' := (hW.cell (p := ⟨Bs, 0, none⟩) hBs).trans hc
  rcases hI.below (hW.mono hn₀) with ⟨a, cap, rfl, rfl⟩ | ⟨b, off, cap, rfl, hb, hcs⟩
  · exact (entries1_nil_in F n h8 hro l Bs a cap J W hc' h0).mono fun e W' ⟨he, hj⟩ => ⟨he, .inl ⟨_, rfl, hj⟩⟩
  · exact entries1_in F n h8 hro hn l Bs n₀ b off cap xs hreach hb J Jx hY W hc' hcs h0

/-- What Table has gathered. -/
def tabT (i : BitVec 64) : List (BitVec 64 × BitVec 64) → BitVec 64 := List.foldl (fun s p => s ||| (equalW i p.1 &&& p.2)) 0#64
theorem tabT_snoc (i : BitVec 64) (pre : List (BitVec 64 × BitVec 64)) (x : BitVec 64 × BitVec 64) : tabT i (pre ++ [x]) = tabT i pre ||| (equalW i x.1 &&& x.2) := by simp [tabT]

set_option maxRecDepth 100000 in
set_option maxHeartbeats 2000000 in
theorem table (a : Option Addr) (len cap : Nat) (xs : List (BitVec 64)) (i : BitVec 64) (hreach : xs.length * 8 ≤ 140737488351232) (w : World) (hI : Us0 w.heap.size w (.slice a len cap) xs) :
    Calls Try.prog 26 #[.slice a len cap, .int .u64 (U i)] w fun e W' => e = .returned (.int .u64 (U (tabT i (upto (entry xs) xs.length)))) ∧ Below w.heap.size w W' := by
  refine (callsIn_wide (n := 3)).1 ?_
  refine callsIn_of_wp_marks Try.func26 rfl trivial ?_ rfl
  simp only [Try.ntmps26, List.size_toArray, List.length_cons, List.length_nil, Nat.reduceAdd, Nat.reduceSub, Array.replicate_succ, Array.replicate_zero, List.push_toArray, List.append_toArray, List.nil_append, List.cons_append]
  gi_wp2_with (refine ⟨trivial, ?_⟩; gi_at_call 42; refine (entries_in Fence.wide 2 trivial rfl _ _ _ _).mono ?_; rintro e w' ⟨rfl, rfl⟩)
  have bI := Boxed.new w 22 (.int .u64 (U i))
  have bO := Boxed.new (w.alloc (.cells #[.int .u64 (U i)] 22)) 22 (.int .u64 0)
  have bN := Boxed.new ((w.alloc (.cells #[.int .u64 (U i)] 22)).alloc (.cells #[.int .u64 0] 22)) 32 (.slice a len cap)
  simp only [World.size_alloc] at bO bN
  have hB0 : Below w.heap.size w (((w.alloc (.cells #[.int .u64 (U i)] 22)).alloc (.cells #[.int .u64 0] 22)).alloc (.cells #[.slice a len cap] 32)) := (((Below.refl _ w).alloc (Nat.le_refl _) _).alloc (by simp) _).alloc (by simp; omega) _
  refine wpIn_rangeFunc_ownG (F := Fence.wide) (n := 3) rfl (by omega) (gf := 50) (lb := #[.pointer (some ⟨w.heap.size + 1 + 1, 0, none⟩)]) rfl trivial (enters_of Try.func50 (by kernel_rfl) rfl)
    (entries_stops Fence.wide 2 trivial rfl (by omega) (w.heap.size + 1 + 1) w.heap.size _ xs hreach _ (by simp) (by simp; omega) bN.cell (hI.below hB0)) belowK_t (belowK_b (by simp; omega)) (Below.refl _ _) (fun _ => rfl)
    (fun pre W => (W.cell? ⟨w.heap.size, 0, none⟩ = some (.int .u64 (U i)) ∧ W.cell? ⟨w.heap.size + 1, 0, none⟩ = some (.int .u64 (U (tabT i pre))) ∧ W.frozen? ⟨w.heap.size + 1, 0, none⟩ = false) ∧ Below w.heap.size w W)
    (fun _ _ _ => False)
    (OwnFrom.and (Own.from (fun s A B row hs hg hr => ⟨cell_kept hs.1 hg hr, cell_kept hs.2.1 hg hr, (frozen_kept hs.2.1 hg hr).trans hs.2.2⟩) _) (ownFrom_below (Nat.le_refl _) (by simp; omega)))
    (fun _ _ _ _ _ hs _ _ => hs)
    ⟨⟨((bI.alloc _).alloc _).cell, (bO.alloc _).cell, (bO.alloc _).frozen⟩, hB0⟩
    (fun x => { tmps := #[.slice a len cap, .int .u64 (U i), undef, .pointer (some ⟨w.heap.size, 0, none⟩), .int .u64 0, .pointer (some ⟨w.heap.size + 1, 0, none⟩), .int .u64 (U x.1), .int .u64 (U x.2), .slice a len cap, .func (.func 50) #[] #[.pointer (some ⟨w.heap.size + 1 + 1, 0, none⟩)], .int .u64 (U x.1), .int .u64 (U x.2), undef, undef, undef, undef, undef, undef, undef, undef], defers := [] }) ?assign ?body ?done ?stop
  case assign =>
    intro l x W K hK
    gi_wp2
    exact hK
  case body =>
    rintro l pre x W ⟨⟨hci, hc, hf⟩, hB⟩ _
    have hmx : Try.prog.follows .mixedOrders = true := by kernel_rfl
    have hd : 1 ≤ 1 := Nat.le_refl _
    have hlt : w.heap.size + 1 < W.heap.size := World.block_lt_of_cell? W _ hc
    gi_wp2
    gi_region_with_o (refine ⟨trivial, ?_⟩; gi_at_call 18; refine (CallsIn.inRound l (callsIn_wide.2 (equal i x.1 _))).mono ?_; rintro e w' ⟨rfl, hb'⟩; have hc' := (hb'.cell (p := ⟨w.heap.size + 1, 0, none⟩) hlt).trans hc; have hf' := (hb'.frozen (p := ⟨w.heap.size + 1, 0, none⟩) hlt).trans hf; have hci' := (hb'.cell (p := ⟨w.heap.size, 0, none⟩) (Nat.lt_of_succ_lt hlt)).trans hci)
    all_goals gi_wp2
    all_goals
      have hbb : Below w.heap.size W w' := (Below.refl _ W).drew.trans (hb'.mono (show w.heap.size ≤ W.heap.size from Nat.le_of_lt (Nat.lt_of_succ_lt hlt)))
      refine ⟨(((KeepsOthers.drew W).trans (KeepsOthers.of_below hb')).trans (KeepsOthers.setCell _ _ _)).from _, hbb.setCell (p := ⟨w.heap.size + 1, 0, none⟩) (Nat.le_succ _) _, ⟨?_, ?_, ?_⟩, (hB.trans hbb).setCell (p := ⟨w.heap.size + 1, 0, none⟩) (Nat.le_succ _) _⟩
      · rw [World.cell?_of_block (w := w') (Below.heap_setCell w' _ _ _ (show w.heap.size ≠ w.heap.size + 1 by omega))]; exact hci'
      · rw [tabT_snoc]; exact World.cell?_setCell_same' _ _ _ (by rw [hc']; rfl)
      · rw [World.frozen?_setCell]; exact hf'
  case done =>
    rintro D ys W hD rfl ⟨⟨_, hc, _⟩, hB⟩ hK
    gi_wp2
    refine ⟨by simp, .inl ⟨_, _, rfl, run_takeDeferred hK, ?_⟩⟩
    exact ⟨_, results_tmp rfl _ _ _, rfl, hB.trans (belowK_b (w := w) (Nat.le_refl _) W D _ _ (by simp at hD; omega) hK rfl rfl)⟩
  case stop =>
    rintro D c pre W _ _ h _
    exact h.elim
end Go.Proofs.Ytacghnepggkgpaa
