/- slices.Repeat of one complex number. -/
import Derived.Test.YtijbjncdiojpdaaDoorWAlive
import Derived.Laws.CopyOwn
import Derived.Deep.RegionLaw
namespace Go.Proofs.YtijbjncdiojpdaaDoor
open Go.RowKit
attribute [local go_sem ↓] add_UU sub_UU mul_UU add_UL add_LU sub_UL sub_LU mul_UL neg_at not_at and_UU or_UU xor_UU andNot_UU and_UL or_LU shr_UL shl_UL shr_UN shl_UN quo_UL rem_UL quo_UU rem_UU
attribute [local go_sem] wrap8_U wrap32_U wrap64_B wrap32_B wrap8_D wrapi_B wrap64_UU eq_UU ne_UU eq_UL ne_UL lt_UU le_UU
attribute [local go_sem ↓] run_fadd run_fsub run_fmul run_fquo
attribute [local go_sem] fRes_some unary_neg_f run_store_complex run_store_float

theorem mul64_one (m : Nat) (hm : m ≤ 4) (w : World) :
    Calls Tryd.prog 42 #[.int .u64 1, .int .u64 ((2 ^ m : Nat) : Int)] w fun e w' => e = .returned (.tuple #[.int .u64 0, .int .u64 ((2 ^ m : Nat) : Int)]) ∧ w = w' := by
  rcases (show m = 0 ∨ m = 1 ∨ m = 2 ∨ m = 3 ∨ m = 4 by omega) with rfl | rfl | rfl | rfl | rfl
  all_goals
    go_enter Tryd.func42, Tryd.ntmps42
    go_wp2
    go_ret2
    exact ⟨by kernel_rfl, rfl⟩
theorem mul_one (m : Nat) (hm : m ≤ 4) (w : World) :
    Calls Tryd.prog 29 #[.int .u64 1, .int .u64 ((2 ^ m : Nat) : Int)] w fun e w' => e = .returned (.tuple #[.int .u64 0, .int .u64 ((2 ^ m : Nat) : Int)]) ∧ w = w' := by
  have HM := Lib.hid (mul64_one m hm)
  obtain ⟨n, hn⟩ : ∃ n, n = 2 ^ m := ⟨_, rfl⟩
  rw [← hn] at HM ⊢
  clear hn
  go_enter Tryd.func29, Tryd.ntmps29
  go_wp2_with fail
  refine (HM.out _).mono ?_
  rintro e w1 ⟨rfl, rfl⟩
  go_wp2
  go_ret2
  exact ⟨rfl, rfl⟩

def oneV : Value := .complex .f64 4607182418800017408 0
def lst (n k : Nat) : List Value := (List.range n).map fun i => if i < k then oneV else .complex .f64 0 0
theorem lst_length (n k : Nat) : (lst n k).length = n := by simp [lst]
theorem lst_splice (n k c : Nat) (h : k + c ≤ n) : splice (lst n k) k (List.replicate c oneV) = lst n (k + c) := by
  apply List.ext_getElem?
  intro i
  unfold splice lst
  by_cases h1 : i < k
  · rw [List.getElem?_append_left (by simp; omega)]
    simp [h1, show i < n by omega, show i < k + c by omega]
  · rw [List.getElem?_append_right (by simp; omega)]
    by_cases h2 : i < k + c
    · rw [List.getElem?_append_left (by simp; omega)]
      simp [show i < n by omega, h2, show i - min k n < c by omega]
    · rw [List.getElem?_append_right (by simp; omega)]
      by_cases h3 : i < n
      · simp [h2, h1, h3, show k + c + (i - min k n - c) = i by omega]
      · rw [List.getElem?_eq_none (by simp; omega), List.getElem?_eq_none (by simp; omega)]
theorem lst_cell {w : World} {g n k : Nat} {t : TypeId} (h : w.heap[g]? = some (.cells (lst n k).toArray t (0, 0))) (i : Nat) (hi : i < k) (hk : k ≤ n) : w.cell? ⟨g, i, none⟩ = some oneV := by
  unfold World.cell?
  simp only []
  rw [h]
  simp [lst, hi, show i < n by omega]

set_option maxRecDepth 20000 in
set_option maxHeartbeats 4000000 in
theorem repeat1 (m : Nat) (hm : m ≤ 4) (g : Nat) (w : World) (hc : w.cell? ⟨g, 0, none⟩ = some oneV) :
    Calls Tryd.prog 20 #[.slice (some ⟨g, 0, none⟩) 1 1, .int .i64 ((2 ^ m : Nat) : Int)] w fun e w' =>
      e = .returned (.slice (some ⟨w.heap.size, 0, none⟩) (2 ^ m : Nat) (2 ^ m : Nat)) ∧ w'.heap[w.heap.size]? = some (.cells (lst (2 ^ m) (2 ^ m)).toArray 34 (0, 0)) ∧ Below w.heap.size w w' := by
  have HM := Lib.hid (mul_one m hm)
  obtain ⟨n, hn⟩ : ∃ n, n = 2 ^ m := ⟨_, rfl⟩
  have hn1 : 1 ≤ n := by rw [hn]; exact Nat.one_le_two_pow
  have hn2 : n ≤ 16 := by rw [hn]; exact Nat.le_trans (Nat.pow_le_pow_right (by decide) hm) (by decide)
  rw [← hn] at HM ⊢
  clear hn hm
  have n0 : (0 : Int) ≤ (n : Int) := Int.natCast_nonneg n
  have n16 : (n : Int) ≤ 16 := by omega
  have hmk := make_c n (by omega) w
  obtain ⟨T, hT⟩ : ∃ T, T = w.alloc (.cells ((List.range n).map fun _ => cval (0, 0)).toArray 34) := ⟨_, rfl⟩
  rw [← hT] at hmk
  have hTg : T.heap[w.heap.size]? = some (.cells (lst n 0).toArray 34 (0, 0)) := by
    rw [hT, heap_alloc_new]
    congr 3
  have hTb : Below w.heap.size w T := by rw [hT]; exact (Below.refl _ w).alloc (Nat.le_refl _) _
  have hTc : T.cell? ⟨g, 0, none⟩ = some oneV := (hTb.cell (p := ⟨g, 0, none⟩) (World.block_lt_of_cell? w _ hc)).trans hc
  have hsz : (Tryd.prog.info? 34).map (·.size) = some 1 := by kernel_rfl
  have HT := Lib.hid (And.intro hTg (And.intro hTb hTc))
  have HZ := Lib.hid hsz
  clear hT hTg hTb hTc hsz hc
  go_enter Tryd.func20, Tryd.ntmps20
  go_wp2_with fail
  refine (HM.out _).mono ?_
  rintro e w1 ⟨rfl, rfl⟩
  go_wp2_with (refine wpList_copy_splice rfl (.tmp 31) (.tmp 32) 30 30 rfl 34 Tryd.underlying30 HZ.out _ _ _ _ _ _ rfl rfl w.heap.size 0 (lst n 0) 34 HT.out.1 [oneV] ?c1 ?c2 ?c3 ?c4 w.heap.size w HT.out.2.1 (Nat.le_refl _) ?_)
  case c1 => show 1 = min 1 n; omega
  case c2 =>
    intro j v hj
    cases j with
    | zero =>
      have : oneV = v := by simpa using hj
      rw [← this]
      exact HT.out.2.2
    | succ j => simp at hj
  case c3 => rw [lst_length]; simp; omega
  case c4 => intro v hv; simp at hv; subst hv; rfl
  intro w2 hg2 hb2
  have H2 := Lib.hid (show w2.heap[w.heap.size]? = some (.cells (lst n 1).toArray 34 (0, 0)) ∧ Below w.heap.size w w2 from by
    have := hg2.out
    rw [show [oneV] = List.replicate 1 oneV from rfl, lst_splice n 0 1 (by omega)] at this
    exact ⟨this, hb2⟩)
  clear hg2 hb2 HT HM hmk
  go_wp2
  go_loopw [8] (fun j wr => ∃ k : Nat, 1 ≤ k ∧ k ≤ n ∧ j = .int .i64 k ∧ wr.heap[w.heap.size]? = some (.cells (lst n k).toArray 34 (0, 0)) ∧ Below w.heap.size w wr) (fun j _ => n - (intOf j).toNat)
  case atStart => exact ⟨1, by omega, by omega, rfl, H2.out⟩
  case round =>
    clear H2
    obtain ⟨k, hk1, hk, rfl, hr, hb⟩ := hrel
    have k0 : (0 : Int) ≤ (k : Int) := Int.natCast_nonneg k
    by_cases hlt : k < n
    · have hlt' : (k : Int) < (n : Int) := by omega
      have hle' : (k : Int) ≤ (n : Int) := by omega
      obtain ⟨c, hcd⟩ : ∃ c, c = min k (n - k) := ⟨_, rfl⟩
      have hc1 : 1 ≤ c := by omega
      have hcn : k + c ≤ n := by omega
      have hnk : ¬ n = k := by omega
      have HC := Lib.hid hcd
      have HH := Lib.hid (And.intro hr hb)
      have S1 := Lib.hid (show (List.replicate c oneV).length = Nat.min k (n - k) by rw [List.length_replicate]; exact hcd)
      have S2 := Lib.hid (show ∀ j v, (List.replicate c oneV)[j]? = some v → wr.drew.cell? ((⟨w.heap.size, 0, none⟩ : Addr).add j) = some v from by
        intro j v hj
        have hjc : j < c := by
          have := (List.getElem?_eq_some_iff.1 hj).1
          simpa using this
        have hv : v = oneV := by
          simp [hjc] at hj
          exact hj.symm
        rw [hv, Go.WideShapes.add_plain, Nat.zero_add]
        exact lst_cell (w := wr.drew) hr j (by omega) hk)
      have S3 := Lib.hid (show k + (List.replicate c oneV).length ≤ (lst n k).length by rw [List.length_replicate, lst_length]; exact hcn)
      have S4 := Lib.hid (show ∀ v ∈ List.replicate c oneV, v.oneCell' = true from fun v hv => by rw [List.eq_of_mem_replicate hv]; rfl)
      clear hr hb hcd
      go_wp2
      go_region_law (refine step_copy_splice rfl (.tmp 41) (.tmp 44) 30 30 rfl 34 Tryd.underlying30 HZ.out (some ⟨w.heap.size, k, none⟩) (some ⟨w.heap.size, 0, none⟩) (n - k) (n - k) k n (by simp [Act.eval, Act.put]) (by simp [Act.eval, Act.put]) w.heap.size k (lst n k) 34 HH.out.1 (List.replicate c oneV) S1.out (fun _ => ⟨rfl, _, rfl, S2.out⟩) S3.out S4.out w.heap.size w HH.out.2.drew (Nat.le_refl _) ?_; intro w4 hg4 hb4)
      have HF := Lib.hid (show w4.heap[w.heap.size]? = some (.cells (lst n (k + c)).toArray 34 (0, 0)) ∧ Below w.heap.size w w4 from by
        have := hg4.out
        rw [lst_splice n k c hcn] at this
        exact ⟨this, hb4⟩)
      have c0 : (0 : Int) ≤ (c : Int) := Int.natCast_nonneg c
      have c16 : (k : Int) + (c : Int) ≤ 16 := by omega
      have hwr : IntKind.i64.wrap ((k : Int) + (c : Int)) = (k : Int) + (c : Int) := by rw [IntKind.wrap_i64]; omega
      clear hg4 hb4 S1 S2 S3 S4 HH
      simp [Act.put, hwr]
      go_wp2
      exact ⟨⟨k + c, by omega, hcn, by rw [Int.natCast_add], HF.out⟩, by simp [intOf]; omega⟩
    · obtain rfl : k = n := by omega
      have HH := Lib.hid (And.intro hr hb)
      clear hr hb
      go_wp2
      go_ret
      exact ⟨rfl, HH.out⟩
end Go.Proofs.YtijbjncdiojpdaaDoor
