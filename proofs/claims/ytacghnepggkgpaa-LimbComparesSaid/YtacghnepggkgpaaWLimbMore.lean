/- Walks of limb.IsZero, Equal, Less, Choose, Bits. -/
import Derived.Test.YtacghnepggkgpaaWRefBits
import Derived.Test.YtacghnepggkgpaaMaskLaw
import Derived.Deep.RegionWith
namespace Go.Proofs.Ytacghnepggkgpaa
open Go.RowKit
theorem shl_LN (m n : Nat) (hm : m < 18446744073709551616) (yk : IntKind) : Op.shift .shl .u64 (no_index (OfNat.ofNat m)) yk (n : Int) = pure (.int .u64 (U (BitVec.ofNat 64 m <<< n))) := by
  show Op.shift .shl .u64 ((m : Nat) : Int) yk (n : Int) = _
  rw [lit_U m hm]
  exact shl_UN _ n yk
attribute [local go_sem ↓] add_UU sub_UU mul_UU add_UL add_LU sub_UL sub_LU mul_UL neg_at not_at and_UU or_UU xor_UU andNot_UU and_UL or_LU shr_UL shl_UL shr_UN shl_UN shl_LN quo_UL rem_UL quo_UU rem_UU
attribute [local go_sem] wrap64_N wrapi_mod wrap8_U wrap32_U wrap64_B wrap32_B wrap8_D wrapi_B wrap64_UU eq_UU ne_UU eq_UL ne_UL lt_UU le_UU

instance : DecidableEq V4 := fun a b => decidable_of_iff (a.num = b.num) ⟨V4.ext_num, fun h => congrArg _ h⟩

theorem four_get (a : V4) (i : Nat) (h : i < 4) : ([a.x0, a.x1, a.x2, a.x3][i]?.getD 0#64) = a.get i := by
  match i, h with
  | 0, _ => rfl
  | 1, _ => rfl
  | 2, _ => rfl
  | 3, _ => rfl
theorem orAll_four (a : V4) : zeroW (orAll [a.x0, a.x1, a.x2, a.x3]) = maskW (decide (a = V4.zero)) := by
  rw [zeroW_eq]
  congr 1
  rw [decide_eq_decide, orAll_zero]
  constructor
  · intro h
    have h0 := h 0 (by simp)
    have h1 := h 1 (by simp)
    have h2 := h 2 (by simp)
    have h3 := h 3 (by simp)
    cases a
    simp at h0 h1 h2 h3
    subst h0 h1 h2 h3
    rfl
  · rintro rfl i h
    match i, h with
    | 0, _ => rfl
    | 1, _ => rfl
    | 2, _ => rfl
    | 3, _ => rfl

theorem limbIsZero (a : V4) (w : World) :
    Calls Try.prog 38 #[a.val] w fun e w' => e = .returned (.int .u64 (U (maskW (decide (a = V4.zero))))) ∧ Below w.heap.size w w' := by
  have hz := isZero_some w.heap.size 0 4 [a.x0, a.x1, a.x2, a.x3] (w.alloc (.cells a.arr 38)) (by show 4 ≤ maxLen; unfold maxLen; omega) (fun i hi => by
    rw [Nat.zero_add, (IsVec.newAt w _ a _ rfl).cell i hi, four_get a i hi])
  rw [orAll_four] at hz
  have HZ := Lib.hid hz
  clear hz
  unfold V4.val V4.arr
  go_enter Try.func38, Try.ntmps38
  go_wp2_with fail
  refine (HZ.out).mono ?_
  rintro e w1 ⟨rfl, rfl⟩
  go_wp2
  go_ret
  refine ⟨rfl, ?_⟩
  unfold V4.arr
  go_grown

/-- The words of a number, xored with another's, as far as k. -/
def xorN (a b : V4) : Nat → V4
  | 0 => a
  | k + 1 => (xorN a b k).set k (a.get k ^^^ b.get k)
theorem xorN_get (a b : V4) (k : Nat) (h : k < 4) : (xorN a b k).get k = a.get k := by
  match k, h with
  | 0, _ => rfl
  | 1, _ => rfl
  | 2, _ => rfl
  | 3, _ => rfl
theorem xor_eq (a b : V4) : decide (xorN a b 4 = V4.zero) = decide (a = b) := by
  rw [decide_eq_decide]
  have e : xorN a b 4 = ⟨a.x0 ^^^ b.x0, a.x1 ^^^ b.x1, a.x2 ^^^ b.x2, a.x3 ^^^ b.x3⟩ := rfl
  rw [e]
  cases a; cases b
  simp [V4.zero]

theorem limbEqual (a b : V4) (w : World) :
    Calls Try.prog 39 #[a.val, b.val] w fun e w' => e = .returned (.int .u64 (U (maskW (decide (a = b))))) ∧ Below w.heap.size w w' := by
  have X := Lib.hid (show IsVec ((w.alloc (.cells a.arr 38)).alloc (.cells b.arr 38)) w.heap.size 38 a ∧ IsVec ((w.alloc (.cells a.arr 38)).alloc (.cells b.arr 38)) (w.heap.size + 1) 38 b ∧ Below w.heap.size w ((w.alloc (.cells a.arr 38)).alloc (.cells b.arr 38)) from ⟨(IsVec.newAt w _ a _ rfl).alloc _, IsVec.newAt _ _ b _ (by simp), by go_grown⟩)
  unfold V4.val V4.arr
  go_enter Try.func39, Try.ntmps39
  go_wp2
  go_loopw [6] (fun i wr => ∃ k : Nat, k ≤ 4 ∧ i = .int .i64 k ∧ IsVec wr w.heap.size 38 (xorN a b k) ∧ IsVec wr (w.heap.size + 1) 38 b ∧ Below w.heap.size w wr) (fun i _ => 4 - (intOf i).toNat)
  case atStart => exact ⟨0, by omega, rfl, X.out⟩
  case round =>
    clear X
    obtain ⟨k, hk, rfl, ha, hv, hb⟩ := hrel
    by_cases hlt : k < 4
    · have c1 := ha.cell k hlt
      rw [xorN_get a b k hlt] at c1
      have f1 := ha.frozen k
      have c2 := hv.cell k hlt
      have HI := Lib.hid (And.intro ha (And.intro hv hb))
      clear ha hv hb
      have k0 : (0 : Int) ≤ (k : Int) := Int.natCast_nonneg k
      have k4 : (k : Int) < 4 := by omega
      go_wp2
      go_region
      go_wp2
      refine ⟨⟨k + 1, by omega, by go_num, HI.out.1.drew.set k hlt _, HI.out.2.1.drew.other _ _ (by simp), HI.out.2.2.drew.setCell (p := ⟨w.heap.size, k, none⟩) (by simp) _⟩, by simp [intOf]; omega⟩
    · obtain rfl : k = 4 := by omega
      have c0 := ha.cell 0 (by omega)
      have c1 := ha.cell 1 (by omega)
      have c2 := ha.cell 2 (by omega)
      have c3 := ha.cell 3 (by omega)
      have hz := limbIsZero (xorN a b 4)
      rw [xor_eq] at hz
      have HZ := Lib.hid hz
      have HB := Lib.hid hb
      clear ha hv hb hz
      go_wp2_with fail
      refine (HZ.out _).mono ?_
      rintro e w1 ⟨rfl, hb1⟩
      have H1 := Lib.hid (HB.out.trans (hb1.mono HB.out.size))
      clear hb1
      go_wp2
      go_ret
      exact ⟨rfl, H1.out⟩

theorem fromBitW_bw (c : Bool) : fromBitW (bw c) = maskW c := by cases c <;> decide

theorem limbLess (a b : V4) (w : World) :
    Calls Try.prog 37 #[a.val, b.val] w fun e w' => e = .returned (.int .u64 (U (maskW (decide (a.num < b.num))))) ∧ Below w.heap.size w w' := by
  have hd := fromBitW_bw (chainN subF a b 4).2
  rw [sub_borrow] at hd
  have HD := Lib.hid hd
  have HS := Lib.hid (limbSub a b)
  have X := Lib.hid (show Below w.heap.size w ((w.alloc (.cells a.arr 38)).alloc (.cells b.arr 38)) by go_grown)
  clear hd
  unfold V4.val V4.arr
  go_enter Try.func37, Try.ntmps37
  go_wp2_with fail
  refine (HS.out _).mono ?_
  rintro e w1 ⟨rfl, hb1⟩
  have H1 := Lib.hid (X.out.trans (hb1.mono X.out.size))
  clear hb1 X HS
  unfold V4.val V4.arr
  go_wp2_with fail
  refine (fromBit _ _).mono ?_
  rintro e w2 ⟨rfl, rfl⟩
  go_wp2
  go_ret
  refine ⟨by rw [← HD.out, sub_borrow]; rfl, ?_⟩
  have hB := H1.out
  have hs := hB.size
  go_grown

/-- The words of a choice, as far as k. -/
def chooseN (m : BitVec 64) (a b : V4) : Nat → V4
  | 0 => a
  | k + 1 => (chooseN m a b k).set k (chooseW m (a.get k) (b.get k))
theorem chooseN_get (m : BitVec 64) (a b : V4) (k : Nat) (h : k < 4) : (chooseN m a b k).get k = a.get k := by
  match k, h with
  | 0, _ => rfl
  | 1, _ => rfl
  | 2, _ => rfl
  | 3, _ => rfl
theorem chooseN_four (m : BitVec 64) (a b : V4) : chooseN (fromBitW m) a b 4 = if (m % 2#64 == 1#64) = true then a else b := by
  rw [fromBitW_eq]
  show V4.mk (chooseW _ a.x0 b.x0) (chooseW _ a.x1 b.x1) (chooseW _ a.x2 b.x2) (chooseW _ a.x3 b.x3) = _
  rw [chooseW_mask, chooseW_mask, chooseW_mask, chooseW_mask]
  cases m % 2#64 == 1#64 <;> rfl

set_option maxHeartbeats 1000000 in
theorem limbChoose (m : BitVec 64) (a b : V4) (w : World) :
    Calls Try.prog 41 #[.int .u64 (U m), a.val, b.val] w fun e w' => e = .returned (if (m % 2#64 == 1#64) = true then a else b).val ∧ Below w.heap.size w w' := by
  obtain ⟨r, hr⟩ : ∃ r, r = (if (m % 2#64 == 1#64) = true then a else b) := ⟨_, rfl⟩
  rw [← hr]
  have HC := Lib.hid (hr ▸ chooseN_four m a b : chooseN (fromBitW m) a b 4 = r)
  clear hr
  have X := Lib.hid (show IsVec (((w.alloc (.cells a.arr 38)).alloc (.cells b.arr 38)).alloc (.cells V4.zero.arr 38)) w.heap.size 38 a ∧ IsVec (((w.alloc (.cells a.arr 38)).alloc (.cells b.arr 38)).alloc (.cells V4.zero.arr 38)) (w.heap.size + 1) 38 b ∧ IsVec (((w.alloc (.cells a.arr 38)).alloc (.cells b.arr 38)).alloc (.cells V4.zero.arr 38)) (w.heap.size + 1 + 1) 38 V4.zero ∧ Below w.heap.size w (((w.alloc (.cells a.arr 38)).alloc (.cells b.arr 38)).alloc (.cells V4.zero.arr 38)) from ⟨((IsVec.newAt w _ a _ rfl).alloc _).alloc _, (IsVec.newAt _ _ b _ (by simp)).alloc _, IsVec.newAt _ _ _ _ (by simp), by go_grown⟩)
  unfold V4.val V4.arr
  go_enter Try.func41, Try.ntmps41
  go_wp2_with fail
  refine (fromBit _ _).mono ?_
  rintro e w1 ⟨rfl, rfl⟩
  go_wp2
  go_loopw [10] (fun i wr => ∃ k : Nat, k ≤ 4 ∧ i = .int .i64 k ∧ IsVec wr w.heap.size 38 (chooseN (fromBitW m) a b k) ∧ IsVec wr (w.heap.size + 1) 38 b ∧ IsVec wr (w.heap.size + 1 + 1) 38 V4.zero ∧ Below w.heap.size w wr) (fun i _ => 4 - (intOf i).toNat)
  case atStart => exact ⟨0, by omega, rfl, X.out⟩
  case round =>
    clear X
    obtain ⟨k, hk, rfl, ha, hv, hz, hb⟩ := hrel
    by_cases hlt : k < 4
    · have c1 := ha.cell k hlt
      rw [chooseN_get _ a b k hlt] at c1
      have f1 := ha.frozen k
      have c2 := hv.cell k hlt
      have HI := Lib.hid (And.intro ha (And.intro hv (And.intro hz hb)))
      clear ha hv hz hb
      have k0 : (0 : Int) ≤ (k : Int) := Int.natCast_nonneg k
      have k4 : (k : Int) < 4 := by omega
      go_wp2
      go_region_with (go_at_call 20; refine (choose _ _ _ _).mono ?_; rintro e w' ⟨rfl, rfl⟩)
      all_goals
        go_wp2
        refine ⟨⟨k + 1, by omega, by go_num, HI.out.1.drew.set k hlt _, HI.out.2.1.drew.other _ _ (by simp), HI.out.2.2.1.drew.other _ _ (by simp; omega), HI.out.2.2.2.drew.setCell (p := ⟨w.heap.size, k, none⟩) (by simp) _⟩, by simp [intOf]; omega⟩
    · obtain rfl : k = 4 := by omega
      rw [HC.out] at ha
      have c0 := ha.cell 0 (by omega)
      have c1 := ha.cell 1 (by omega)
      have c2 := ha.cell 2 (by omega)
      have c3 := ha.cell 3 (by omega)
      have d0 := hz.cell 0 (by omega)
      have d1 := hz.cell 1 (by omega)
      have d2 := hz.cell 2 (by omega)
      have d3 := hz.cell 3 (by omega)
      have f0 := hz.frozen 0
      have f1 := hz.frozen 1
      have f2 := hz.frozen 2
      have f3 := hz.frozen 3
      have HB := Lib.hid hb
      clear ha hv hb hz HC
      go_wp2
      refine bodyPost_ret (v := r.val) (by simp [results, Try.results41, go_sem, d0, d1, d2, d3]; rfl) rfl ⟨rfl, ?_⟩
      have hB := HB.out
      go_grown

set_option maxRecDepth 8000 in
set_option maxHeartbeats 1000000 in
theorem limbBits (a : V4) (f n : Nat) (hf : f < 256) (hn : n ≤ 64) (w : World) :
    Calls Try.prog 31 #[a.val, .int .i64 (f : Int), .int .i64 (n : Int)] w fun e w' => e = .returned (.int .u64 (U (bitsN a f n))) ∧ Below w.heap.size w w' := by
  obtain ⟨q, hq⟩ : ∃ q, q = f / 64 := ⟨_, rfl⟩
  obtain ⟨s, hs⟩ : ∃ s, s = f % 64 := ⟨_, rfl⟩
  have hqs : 64 * q + s = f := by omega
  have hq4 : q < 4 := by omega
  have hs6 : s < 64 := by omega
  have hqi : (f : Int) / 64 = (q : Int) := by omega
  have hsi : (f : Int) % 64 = (s : Int) := by omega
  obtain ⟨r, hr⟩ : ∃ r, r = 64 - s := ⟨_, rfl⟩
  have h6i : 64 - (s : Int) = (r : Int) := by omega
  have f0 : (0 : Int) ≤ (f : Int) := by omega
  have f1 : (f : Int) < 256 := by omega
  have n0 : (0 : Int) ≤ (n : Int) := by omega
  have n1 : (n : Int) ≤ 64 := by omega
  have X := Lib.hid (show IsVec (w.alloc (.cells a.arr 38)) w.heap.size 38 a ∧ Below w.heap.size w (w.alloc (.cells a.arr 38)) from ⟨IsVec.newAt w 38 a _ rfl, by go_grown⟩)
  have c1 := X.out.1.cell q hq4
  have q0 : (0 : Int) ≤ (q : Int) := by omega
  have q4 : (q : Int) < 4 := by omega
  unfold V4.arr at c1
  unfold V4.val V4.arr
  clear hq hs
  by_cases hq3 : q + 1 < 4
  · have hq3' : (q : Int) + 1 < 4 := by omega
    have hq30 : (0 : Int) ≤ (q : Int) + 1 := by omega
    have c2 := X.out.1.cell (q + 1) hq3
    unfold V4.arr at c2
    by_cases hn64 : n < 64
    · have hn' : (n : Int) < 64 := by omega
      have hR := bits_mid a q s n hq3 hs6 hn64
      rw [hqs, ← hr] at hR
      have HR := Lib.hid hR
      clear hR hqs hr
      go_enter Try.func31, Try.ntmps31
      go_wp2
      go_ret
      exact ⟨by rw [← HR.out]; rfl, X.out.2⟩
    · obtain rfl : n = 64 := by omega
      have hR := bits_mid64 a q s hq3 hs6
      rw [hqs, ← hr] at hR
      have HR := Lib.hid hR
      clear hR hqs hr
      go_enter Try.func31, Try.ntmps31
      go_wp2
      go_ret
      exact ⟨by rw [← HR.out]; rfl, X.out.2⟩
  · obtain rfl : q = 3 := by omega
    by_cases hn64 : n < 64
    · have hn' : (n : Int) < 64 := by omega
      have hR := bits_last a s n hn64
      rw [hqs] at hR
      have HR := Lib.hid hR
      clear hR hqs hr
      go_enter Try.func31, Try.ntmps31
      go_wp2
      go_ret
      exact ⟨by rw [← HR.out]; rfl, X.out.2⟩
    · obtain rfl : n = 64 := by omega
      have hR := bits_last64 a s
      rw [hqs] at hR
      have HR := Lib.hid hR
      clear hR hqs hr
      go_enter Try.func31, Try.ntmps31
      go_wp2
      go_ret
      exact ⟨by rw [← HR.out]; rfl, X.out.2⟩

theorem limbBits_out (a : V4) (f n : Int) (h : f < 0 ∨ 256 ≤ f ∨ n < 0 ∨ 64 < n) (w : World) :
    Calls Try.prog 31 #[a.val, .int .i64 f, .int .i64 n] w fun e w' => e = .returned (.int .u64 (U 0#64)) ∧ Below w.heap.size w w' := by
  unfold V4.val V4.arr
  rcases (show f < 0 ∨ (0 ≤ f ∧ 256 ≤ f) ∨ (0 ≤ f ∧ f < 256 ∧ n < 0) ∨ (0 ≤ f ∧ f < 256 ∧ 0 ≤ n ∧ 64 < n) by omega) with h1 | ⟨h1, h2⟩ | ⟨h1, h2, h3⟩ | ⟨h1, h2, h3, h4⟩
  all_goals
    go_enter Try.func31, Try.ntmps31
    go_wp2
    go_ret
    refine ⟨rfl, ?_⟩
    go_grown
end Go.Proofs.Ytacghnepggkgpaa
