/- slices.Clone, slices.Equal at []uint64, the reference's Table. -/
import Derived.Test.YtacghnepggkgpaaWTable
import Derived.Deep.QuietTactic
import Derived.BigQuiet
namespace Go.Proofs.Ytacghnepggkgpaa
open Go.RowKit
attribute [local go_sem ↓] add_UU sub_UU mul_UU add_UL add_LU sub_UL sub_LU mul_UL neg_at not_at and_UU or_UU xor_UU andNot_UU and_UL or_LU shr_UL shl_UL shr_UN shl_UN quo_UL rem_UL quo_UU rem_UU
attribute [local go_sem] wrap8_U wrap32_U wrap64_B wrap32_B wrap8_D wrapi_B wrap64_UU eq_UU ne_UU eq_UL ne_UL lt_UU le_UU

theorem toNat_U (x : BitVec 64) : (U x).toNat = x.toNat := rfl
attribute [local go_sem] toNat_U

theorem info_u64 : (Try.prog.info? 22).map (fun i => (i.zero, i.size, i.bytes)) = some (some (.int .u64 0), 1, 8) := by kernel_rfl

def words (xs : List (BitVec 64)) : List Value := xs.map fun x => Value.int .u64 (U x)

theorem refTable_in (b off cap : Nat) (xs : List (BitVec 64)) (i : BitVec 64) (w : World) (hl : xs.length * 8 ≤ 140737488351232) (hi : i.toNat < xs.length) (hc : w.cell? ⟨b, off + i.toNat, none⟩ = some (.int .u64 (U xs[i.toNat]))) :
    Calls Try.prog 27 #[.slice (some ⟨b, off, none⟩) xs.length cap, .int .u64 (U i)] w fun e w' => e = .returned (.int .u64 (U xs[i.toNat])) ∧ w = w' := by
  have h1 : U i < (xs.length : Int) := by unfold U; omega
  have h2 : 0 ≤ U i := (U_lt i).1
  go_enter Try.func27, Try.ntmps27
  go_wp2
  go_ret
  exact ⟨rfl, rfl⟩

theorem refTable_out (a : Option Addr) (len cap : Nat) (i : BitVec 64) (w : World) (hl : len * 8 ≤ 140737488351232) (hi : len ≤ i.toNat) :
    Calls Try.prog 27 #[.slice a len cap, .int .u64 (U i)] w fun e w' => e = .returned (.int .u64 (U 0#64)) ∧ w = w' := by
  have h1 : (len : Int) ≤ U i := by unfold U; omega
  go_enter Try.func27, Try.ntmps27
  go_wp2
  go_ret
  exact ⟨rfl, rfl⟩

theorem below_drewN {B : Nat} {a w : World} (h : Below B a w) (n : Nat) : Below B a (w.drewN n) := ⟨h.os, h.tape, h.output, h.size, h.block⟩

/-- slices.Clone of a slice that is not nil. -/
theorem clone_some (b off cap : Nat) (xs : List (BitVec 64)) (w : World) (hl : xs.length * 8 ≤ 140737488351232) (hc : ∀ i, i < xs.length → w.cell? ⟨b, off + i, none⟩ = some (.int .u64 (U (xs[i]?.getD 0#64)))) :
    Calls Try.prog 23 #[.slice (some ⟨b, off, none⟩) xs.length cap] w fun e w' => ∃ v, e = .returned v ∧ w'.ownsRow w.heap.size 22 1 v xs.length (words xs) ∧ Below w.heap.size w w' := by
  obtain ⟨i0, hi0, hz0, hz1, hz2⟩ := info_parts info_u64
  have heq := fun (W : World) => Lib.run_eql_slice_nil (P := Try.prog) W 32 22 (some ⟨b, off, none⟩) xs.length cap 0 0 Try.underlying32
  have hnews : ∀ (W : World), (∀ i, i < xs.length → W.cell? ⟨b, off + i, none⟩ = some (.int .u64 (U (xs[i]?.getD 0#64)))) → ∀ j u, (words xs)[j]? = some u → W.cell? ((⟨b, off, none⟩ : Addr).add j) = some u := by
    intro W hW j u hj
    simp only [words, List.getElem?_map, Option.map_eq_some_iff] at hj
    obtain ⟨x, hx, rfl⟩ := hj
    have hlt := (List.getElem?_eq_some_iff.1 hx).1
    have := hW j hlt
    rw [hx] at this
    cases j with
    | zero => simpa [Addr.add] using this
    | succ j => simpa [Addr.add] using this
  have HN := Lib.hid hnews
  have HC := Lib.hid hc
  clear hnews hc
  go_enter Try.func23, Try.ntmps23
  have hown := World.ownsRow_made (base := w.heap.size) (e := 22) (size := 1) w #[] 0 (Nat.le_refl _) (Nat.zero_le _) rfl
  have HO := Lib.hid hown
  clear hown
  go_wp2_with (at_builtin; refine wpList_append_own _ rfl _ _ 32 rfl w.heap.size 22 i0 (.int .u64 0) 1 8 Try.underlying32 hi0 hz0 hz1 hz2 rfl (by decide) _ _ _ rfl HO.out ⟨b, off, none⟩ xs.length cap (words xs) rfl ?c1 ?c2 ?c3 ?c4 ?c5 ?c6 ?_)
  case c1 => simp [words]
  case c2 => exact HN.out _ fun i hi => (World.cell?_of_block (w := w) (Below.heap_alloc w _ b (World.block_lt_of_cell? w ⟨b, off + i, none⟩ (HC.out i hi)))).trans (HC.out i hi)
  case c3 => intro u hu; simp only [words, List.mem_map] at hu; obtain ⟨x, _, rfl⟩ := hu; rfl
  case c4 => unfold maxLen; omega
  case c5 => omega
  case c6 => simp
  intro v1 w1 hown1 hg1 _
  go_wp2
  go_ret
  exact ⟨v1, rfl, by simpa using hown1, ((Below.refl _ w).alloc (Nat.le_refl _) _).grown hg1 (by simp) (fun k hk => by simp [Value.ownBlock] at hk; omega)⟩

/-- slices.Clone of a slice without elements that is not nil. -/
theorem clone_zero (ad : Addr) (cap : Nat) (w : World) :
    Calls Try.prog 23 #[.slice (some ad) 0 cap] w fun e w' => ∃ v, e = .returned v ∧ w'.ownsRow w.heap.size 22 1 v 0 (words []) ∧ Below w.heap.size w w' := by
  obtain ⟨i0, hi0, hz0, hz1, hz2⟩ := info_parts info_u64
  have heq := fun (W : World) => Lib.run_eql_slice_nil (P := Try.prog) W 32 22 (some ad) 0 cap 0 0 Try.underlying32
  go_enter Try.func23, Try.ntmps23
  have hown := World.ownsRow_made (base := w.heap.size) (e := 22) (size := 1) w #[] 0 (Nat.le_refl _) (Nat.zero_le _) rfl
  have HO := Lib.hid hown
  clear hown
  go_wp2_with (at_builtin; refine wpList_append_own _ rfl _ _ 32 rfl w.heap.size 22 i0 (.int .u64 0) 1 8 Try.underlying32 hi0 hz0 hz1 hz2 rfl (by decide) _ _ _ rfl HO.out ad 0 cap [] rfl ?c1 ?c2 ?c3 ?c4 ?c5 ?c6 ?_)
  case c1 => rfl
  case c2 => intro j u hj; simp at hj
  case c3 => intro u hu; cases hu
  case c4 => decide
  case c5 => decide
  case c6 => simp
  intro v1 w1 hown1 hg1 _
  go_wp2
  go_ret
  exact ⟨v1, rfl, by simpa [words] using hown1, ((Below.refl _ w).alloc (Nat.le_refl _) _).grown hg1 (by simp) (fun k hk => by simp [Value.ownBlock] at hk; omega)⟩

/-- slices.Clone of nil. -/
theorem clone_nil (cap : Nat) (w : World) :
    Calls Try.prog 23 #[.slice none 0 cap] w fun e w' => e = .returned (.slice none 0 0) ∧ w = w' := by
  have heq := fun (W : World) => Lib.run_eql_slice_nil (P := Try.prog) W 32 22 none 0 cap 0 0 Try.underlying32
  go_enter Try.func23, Try.ntmps23
  go_wp2
  go_ret
  exact ⟨rfl, rfl⟩

/-- slices.Equal of two slices that hold the same words. -/
theorem equal_same (b off cap b' off' cap' : Nat) (xs : List (BitVec 64)) (w : World) (hl : xs.length * 8 ≤ 140737488351232) (hc : ∀ i, i < xs.length → w.cell? ⟨b, off + i, none⟩ = some (.int .u64 (U (xs[i]?.getD 0#64)))) (hc' : ∀ i, i < xs.length → w.cell? ⟨b', off' + i, none⟩ = some (.int .u64 (U (xs[i]?.getD 0#64)))) :
    Calls Try.prog 25 #[.slice (some ⟨b, off, none⟩) xs.length cap, .slice (some ⟨b', off', none⟩) xs.length cap'] w fun e w' => e = .returned (.bool true) ∧ Below w.heap.size w w' := by
  have HC := Lib.hid hc
  have HC' := Lib.hid hc'
  clear hc hc'
  go_enter Try.func25, Try.ntmps25
  go_wp2
  go_loopw [13] (fun i wr => ∃ k : Nat, k ≤ xs.length ∧ i = .int .i64 k ∧ Below w.heap.size w wr) (fun i _ => xs.length - (intOf i).toNat)
  case atStart => exact ⟨0, Nat.zero_le _, rfl, Below.refl _ _⟩
  case round =>
    obtain ⟨k, hk, rfl, hb⟩ := hrel
    by_cases hlt : k < xs.length
    · have c1 := (hb.cell (p := ⟨b, off + k, none⟩) (World.block_lt_of_cell? w _ (HC.out k hlt))).trans (HC.out k hlt)
      have c2 := (hb.cell (p := ⟨b', off' + k, none⟩) (World.block_lt_of_cell? w _ (HC'.out k hlt))).trans (HC'.out k hlt)
      rw [List.getElem?_eq_getElem hlt, Option.getD_some] at c1 c2
      have h0 : (0 : Int) ≤ (k : Int) := Int.natCast_nonneg k
      have h1 : (k : Int) < (xs.length : Int) := by omega
      go_wp2
      go_quiet (fail)
      go_wp2
      go_roundw
      case rel => exact ⟨k + 1, by omega, by go_num, below_drewN hb _⟩
      case measure => simp [intOf]; omega
    · go_wp2
      go_ret
      exact ⟨rfl, hb⟩
end Go.Proofs.Ytacghnepggkgpaa
