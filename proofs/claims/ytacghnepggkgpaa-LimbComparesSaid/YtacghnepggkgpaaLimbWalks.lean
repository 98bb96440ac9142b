/- The laws of package limb, walked: each returns true and writes nothing that was there. -/
import Derived.Test.YtacghnepggkgpaaLimbAlive
namespace Go.Proofs.Ytacghnepggkgpaa
open Go.RowKit
attribute [local go_sem ↓] add_UU sub_UU mul_UU add_UL add_LU sub_UL sub_LU mul_UL neg_at not_at and_UU or_UU xor_UU andNot_UU and_UL or_LU shr_UL shl_UL shr_UN shl_UN quo_UL rem_UL quo_UU rem_UU
attribute [local go_sem] wrap64_N wrapi_mod wrap8_U wrap32_U wrap64_B wrap32_B wrap8_D wrapi_B wrap64_UU eq_UU ne_UU eq_UL ne_UL lt_UU le_UU

/-- The numbers that lie in blocks of their own, and that nothing of w0 is written. -/
def Vs (w0 : World) (vs : List (Nat × V4)) (w : World) : Prop := (∀ p, p ∈ vs → IsVec w p.1 38 p.2) ∧ Below w0.heap.size w0 w
theorem Vs.start (w : World) : Vs w [] w := ⟨fun _ h => (by cases h), Below.refl _ w⟩
theorem Vs.box {w0 : World} {vs : List (Nat × V4)} {w : World} (h : Vs w0 vs w) (v : V4) (n : Nat) (hn : n = w.heap.size) : Vs w0 ((n, v) :: vs) (w.alloc (.cells v.arr 38)) := by
  refine ⟨fun p hp => ?_, h.2.alloc h.2.size _⟩
  rcases List.mem_cons.1 hp with rfl | hp
  · exact IsVec.newAt w _ v _ hn
  · exact (h.1 p hp).alloc _
theorem Vs.call {w0 : World} {vs : List (Nat × V4)} {w w' : World} (h : Vs w0 vs w) (hb : Below w.heap.size w w') : Vs w0 vs w' :=
  ⟨fun p hp => (h.1 p hp).below hb (h.1 p hp).lt, h.2.trans (hb.mono h.2.size)⟩
theorem Vs.drew {w0 : World} {vs : List (Nat × V4)} {w : World} (h : Vs w0 vs w) : Vs w0 vs w.drew := ⟨h.1, h.2.drew⟩
theorem Vs.four {w0 : World} {vs : List (Nat × V4)} {w : World} (h : Vs w0 vs w) (b : Nat) (v : V4) (hm : (b, v) ∈ vs) :
    w.cell? ⟨b, 0, none⟩ = some (.int .u64 (U v.x0)) ∧ w.cell? ⟨b, 1, none⟩ = some (.int .u64 (U v.x1)) ∧ w.cell? ⟨b, 2, none⟩ = some (.int .u64 (U v.x2)) ∧ w.cell? ⟨b, 3, none⟩ = some (.int .u64 (U v.x3)) :=
  ⟨(h.1 _ hm).cell 0 (by omega), (h.1 _ hm).cell 1 (by omega), (h.1 _ hm).cell 2 (by omega), (h.1 _ hm).cell 3 (by omega)⟩
theorem Vs.lt {w0 : World} {vs : List (Nat × V4)} {w : World} (h : Vs w0 vs w) (b : Nat) (v : V4) (hm : (b, v) ∈ vs) : b < w.heap.size := (h.1 _ hm).lt

theorem addBoth (a b : V4) : ∃ (r : V4) (c : BitVec 64), (∀ w, Calls Try.prog 33 #[a.val, b.val] w fun e w' => e = .returned (.tuple #[r.val, .int .u64 (U c)]) ∧ Below w.heap.size w w') ∧ (∀ w, Calls Try.prog 34 #[a.val, b.val] w fun e w' => e = .returned (.tuple #[r.val, .int .u64 (U c)]) ∧ Below w.heap.size w w') := by
  refine ⟨_, _, limbAdd a b, ?_⟩
  rw [(add_agree a b).1, (add_agree a b).2]
  exact refAdd a b
theorem subBoth (a b : V4) : ∃ (r : V4) (c : BitVec 64), (∀ w, Calls Try.prog 35 #[a.val, b.val] w fun e w' => e = .returned (.tuple #[r.val, .int .u64 (U c)]) ∧ Below w.heap.size w w') ∧ (∀ w, Calls Try.prog 36 #[a.val, b.val] w fun e w' => e = .returned (.tuple #[r.val, .int .u64 (U c)]) ∧ Below w.heap.size w w') := by
  refine ⟨_, _, limbSub a b, ?_⟩
  rw [(sub_agree a b).1, (sub_agree a b).2]
  exact refSub a b
theorem mulBoth (a b : V4) : ∃ (lo hi : V4), (∀ w, Calls Try.prog 28 #[a.val, b.val] w fun e w' => e = .returned (.tuple #[lo.val, hi.val]) ∧ Below w.heap.size w w') ∧ (∀ w, Calls Try.prog 29 #[a.val, b.val] w fun e w' => e = .returned (.tuple #[lo.val, hi.val]) ∧ Below w.heap.size w w') ∧ (∀ w, Calls Try.prog 28 #[b.val, a.val] w fun e w' => e = .returned (.tuple #[lo.val, hi.val]) ∧ Below w.heap.size w w') := by
  refine ⟨vecN (mulDout (dig a) (dig b) 16) 0 16, vecN (mulDout (dig a) (dig b) 16) 16 16, fun w => (limbMul a b w).mono ?_, refMul a b, fun w => (limbMul b a w).mono ?_⟩
  · rintro e w' ⟨lo, hi, rfl, hm, hb⟩
    obtain ⟨rfl, rfl⟩ := mul_agree a b lo hi hm
    exact ⟨rfl, hb⟩
  · rintro e w' ⟨lo, hi, rfl, hm, hb⟩
    have h1 := limbMul_num b a lo hi hm
    have h2 := refMul_num a b
    rw [Nat.mul_comm b.num] at h1
    have l1 := V4.num_lt lo
    have l2 := V4.num_lt (vecN (mulDout (dig a) (dig b) 16) 0 16)
    obtain rfl : lo = vecN (mulDout (dig a) (dig b) 16) 0 16 := V4.ext_num (by omega)
    obtain rfl : hi = vecN (mulDout (dig a) (dig b) 16) 16 16 := V4.ext_num (by omega)
    exact ⟨rfl, hb⟩

set_option maxHeartbeats 2000000 in
theorem walkLimbAdds (a b : V4) (w : World) :
    Calls Try.prog 12 #[a.val, b.val] w fun e w' => e = .returned (.bool true) ∧ Below w.heap.size w w' := by
  obtain ⟨r, c, h1, h2⟩ := addBoth a b
  obtain ⟨s, d, h3, h4⟩ := subBoth a b
  have H1 := Lib.hid h1
  have H2 := Lib.hid h2
  have H3 := Lib.hid h3
  have H4 := Lib.hid h4
  clear h1 h2 h3 h4
  have heq := run_eql_four
  have X0 := Lib.hid (show Vs w [(w.heap.size + 1, b), (w.heap.size, a)] ((w.alloc (.cells a.arr 38)).alloc (.cells b.arr 38)) from ((Vs.start w).box a _ rfl).box b _ (by simp))
  unfold V4.val V4.arr
  go_enter Try.func12, Try.ntmps12
  go_wp2_with fail
  refine (H1.out _).mono ?_
  rintro e w1 ⟨rfl, hb1⟩
  have x1 := (X0.out.call hb1).box r _ rfl
  obtain ⟨a0, a1, a2, a3⟩ := x1.four w.heap.size a (by simp)
  obtain ⟨b0, b1, b2, b3⟩ := x1.four (w.heap.size + 1) b (by simp)
  have X1 := Lib.hid x1
  clear X0 x1 hb1 H1
  unfold V4.val
  unfold V4.arr at a0 a1 a2 a3 b0 b1 b2 b3
  unfold V4.arr
  go_wp2_with fail
  refine (H2.out _).mono ?_
  rintro e w2 ⟨rfl, hb2⟩
  have x2 := (X1.out.call hb2).box r _ rfl
  clear a0 a1 a2 a3 b0 b1 b2 b3
  obtain ⟨a0, a1, a2, a3⟩ := x2.four w.heap.size a (by simp)
  obtain ⟨b0, b1, b2, b3⟩ := x2.four (w.heap.size + 1) b (by simp)
  have X2 := Lib.hid x2
  clear X1 x2 hb2 H2
  unfold V4.val
  unfold V4.arr at a0 a1 a2 a3 b0 b1 b2 b3
  unfold V4.arr
  go_wp2_with fail
  refine (H3.out _).mono ?_
  rintro e w3 ⟨rfl, hb3⟩
  have x3 := (X2.out.call hb3).box s _ rfl
  clear a0 a1 a2 a3 b0 b1 b2 b3
  obtain ⟨a0, a1, a2, a3⟩ := x3.four w.heap.size a (by simp)
  obtain ⟨b0, b1, b2, b3⟩ := x3.four (w.heap.size + 1) b (by simp)
  have X3 := Lib.hid x3
  clear X2 x3 hb3 H3
  unfold V4.val
  unfold V4.arr at a0 a1 a2 a3 b0 b1 b2 b3
  unfold V4.arr
  go_wp2_with fail
  refine (H4.out _).mono ?_
  rintro e w4 ⟨rfl, hb4⟩
  have x4 := (X3.out.call hb4).box s _ rfl
  clear a0 a1 a2 a3 b0 b1 b2 b3
  have X4 := Lib.hid x4
  clear X3 x4 hb4 H4
  unfold V4.val V4.arr
  go_wp2_with fail
  refine (limbAlive _).mono ?_
  rintro e w5 ⟨rfl, hb5⟩
  have x5 := X4.out.call hb5
  obtain ⟨a0, a1, a2, a3⟩ := x5.four w1.heap.size r (by simp)
  obtain ⟨b0, b1, b2, b3⟩ := x5.four w2.heap.size r (by simp)
  obtain ⟨c0, c1, c2, c3⟩ := x5.four w3.heap.size s (by simp)
  obtain ⟨d0, d1, d2, d3⟩ := x5.four w4.heap.size s (by simp)
  have X5 := Lib.hid x5
  clear X4 x5 hb5
  go_wp2
  go_ret
  exact ⟨rfl, X5.out.2⟩

set_option maxHeartbeats 2000000 in
theorem walkLimbMultiplies (a b : V4) (w : World) :
    Calls Try.prog 9 #[a.val, b.val] w fun e w' => e = .returned (.bool true) ∧ Below w.heap.size w w' := by
  obtain ⟨r, s, h1, h2, h3⟩ := mulBoth a b
  have H1 := Lib.hid h1
  have H2 := Lib.hid h2
  have H3 := Lib.hid h3
  clear h1 h2 h3
  have heq := run_eql_four
  have X0 := Lib.hid (show Vs w [(w.heap.size + 1, b), (w.heap.size, a)] ((w.alloc (.cells a.arr 38)).alloc (.cells b.arr 38)) from ((Vs.start w).box a _ rfl).box b _ (by simp))
  unfold V4.val V4.arr
  go_enter Try.func9, Try.ntmps9
  go_wp2_with fail
  refine (H1.out _).mono ?_
  rintro e w1 ⟨rfl, hb1⟩
  have x1 := ((X0.out.call hb1).box r _ rfl).box s (w1.heap.size + 1) (by simp)
  obtain ⟨a0, a1, a2, a3⟩ := x1.four w.heap.size a (by simp)
  obtain ⟨b0, b1, b2, b3⟩ := x1.four (w.heap.size + 1) b (by simp)
  have X1 := Lib.hid x1
  clear X0 x1 hb1 H1
  unfold V4.val
  unfold V4.arr at a0 a1 a2 a3 b0 b1 b2 b3
  unfold V4.arr
  go_wp2_with fail
  refine (H2.out _).mono ?_
  rintro e w2 ⟨rfl, hb2⟩
  have x2 := ((X1.out.call hb2).box r _ rfl).box s (w2.heap.size + 1) (by simp)
  clear a0 a1 a2 a3 b0 b1 b2 b3
  obtain ⟨a0, a1, a2, a3⟩ := x2.four w.heap.size a (by simp)
  obtain ⟨b0, b1, b2, b3⟩ := x2.four (w.heap.size + 1) b (by simp)
  have X2 := Lib.hid x2
  clear X1 x2 hb2 H2
  unfold V4.val
  unfold V4.arr at a0 a1 a2 a3 b0 b1 b2 b3
  unfold V4.arr
  go_wp2_with fail
  refine (H3.out _).mono ?_
  rintro e w3 ⟨rfl, hb3⟩
  have x3 := ((X2.out.call hb3).box r _ rfl).box s (w3.heap.size + 1) (by simp)
  clear a0 a1 a2 a3 b0 b1 b2 b3
  have X3 := Lib.hid x3
  clear X2 x3 hb3 H3
  unfold V4.val V4.arr
  go_wp2_with fail
  refine (limbAlive _).mono ?_
  rintro e w5 ⟨rfl, hb5⟩
  have x5 := X3.out.call hb5
  obtain ⟨a0, a1, a2, a3⟩ := x5.four w1.heap.size r (by simp)
  obtain ⟨b0, b1, b2, b3⟩ := x5.four w2.heap.size r (by simp)
  obtain ⟨c0, c1, c2, c3⟩ := x5.four w3.heap.size r (by simp)
  obtain ⟨d0, d1, d2, d3⟩ := x5.four (w1.heap.size + 1) s (by simp)
  obtain ⟨e0, e1, e2, e3⟩ := x5.four (w2.heap.size + 1) s (by simp)
  obtain ⟨f0, f1, f2, f3⟩ := x5.four (w3.heap.size + 1) s (by simp)
  have X5 := Lib.hid x5
  clear X3 x5 hb5
  go_wp2
  go_ret
  exact ⟨rfl, X5.out.2⟩

theorem invFacts (a b : V4) : ∃ (r : V4) (c m : BitVec 64), (∀ w, Calls Try.prog 33 #[a.val, b.val] w fun e w' => e = .returned (.tuple #[r.val, .int .u64 (U c)]) ∧ Below w.heap.size w w') ∧ (∀ w, Calls Try.prog 35 #[r.val, b.val] w fun e w' => e = .returned (.tuple #[a.val, .int .u64 (U c)]) ∧ Below w.heap.size w w') ∧
    (∀ w, Calls Try.prog 37 #[r.val, b.val] w fun e w' => e = .returned (.int .u64 (U m)) ∧ Below w.heap.size w w') ∧ (∀ w, Calls Try.prog 17 #[.bool (c == 1#64)] w fun e w' => e = .returned (.int .u64 (U m)) ∧ w = w') := by
  have h1 := chain_add_num a b
  have h2 := chain_sub_num (chainN addF a b 4).1 b
  have la := a.num_lt
  have l2 := V4.num_lt (chainN subF (chainN addF a b 4).1 b 4).1
  have b1 := bw_le (chainN addF a b 4).2
  have b2 := bw_le (chainN subF (chainN addF a b 4).1 b 4).2
  have e1 : (chainN subF (chainN addF a b 4).1 b 4).1 = a := V4.ext_num (by omega)
  have e2 : bw (chainN subF (chainN addF a b 4).1 b 4).2 = bw (chainN addF a b 4).2 := by
    apply BitVec.eq_of_toNat_eq
    omega
  have e3 : decide ((chainN addF a b 4).1.num < b.num) = (bw (chainN addF a b 4).2 == 1#64) := by
    rw [← sub_borrow, ← e2]
    cases (chainN subF (chainN addF a b 4).1 b 4).2 <;> rfl
  refine ⟨(chainN addF a b 4).1, bw (chainN addF a b 4).2, maskW (bw (chainN addF a b 4).2 == 1#64), limbAdd a b, ?_, ?_, fun w => refMask _ w⟩
  · have h := limbSub (chainN addF a b 4).1 b
    rw [e1, e2] at h
    exact h
  · have h := limbLess (chainN addF a b 4).1 b
    rw [e3] at h
    exact h

set_option maxHeartbeats 2000000 in
theorem walkLimbInverts (a b : V4) (w : World) :
    Calls Try.prog 13 #[a.val, b.val] w fun e w' => e = .returned (.bool true) ∧ Below w.heap.size w w' := by
  obtain ⟨r, c, m, h1, h2, h3, h4⟩ := invFacts a b
  have H1 := Lib.hid h1
  have H2 := Lib.hid h2
  have H3 := Lib.hid h3
  have H4 := Lib.hid h4
  clear h1 h2 h3 h4
  have heq := run_eql_four
  have X0 := Lib.hid (show Vs w [(w.heap.size + 1, b), (w.heap.size, a)] ((w.alloc (.cells a.arr 38)).alloc (.cells b.arr 38)) from ((Vs.start w).box a _ rfl).box b _ (by simp))
  unfold V4.val V4.arr
  go_enter Try.func13, Try.ntmps13
  go_wp2_with fail
  refine (H1.out _).mono ?_
  rintro e w1 ⟨rfl, hb1⟩
  have x1 := (X0.out.call hb1).box r _ rfl
  obtain ⟨a0, a1, a2, a3⟩ := x1.four w1.heap.size r (by simp)
  obtain ⟨b0, b1, b2, b3⟩ := x1.four (w.heap.size + 1) b (by simp)
  have X1 := Lib.hid x1
  clear X0 x1 hb1 H1
  unfold V4.val
  unfold V4.arr at a0 a1 a2 a3 b0 b1 b2 b3
  unfold V4.arr
  go_wp2_with fail
  refine (H2.out _).mono ?_
  rintro e w2 ⟨rfl, hb2⟩
  have x2 := (X1.out.call hb2).box a _ rfl
  clear a0 a1 a2 a3 b0 b1 b2 b3
  have X2 := Lib.hid x2
  clear X1 x2 hb2 H2
  unfold V4.val V4.arr
  go_wp2_with fail
  refine (limbAlive _).mono ?_
  rintro e w3 ⟨rfl, hb3⟩
  have x3 := X2.out.call hb3
  obtain ⟨a0, a1, a2, a3⟩ := x3.four w2.heap.size a (by simp)
  obtain ⟨b0, b1, b2, b3⟩ := x3.four w.heap.size a (by simp)
  obtain ⟨c0, c1, c2, c3⟩ := x3.four w1.heap.size r (by simp)
  obtain ⟨d0, d1, d2, d3⟩ := x3.four (w.heap.size + 1) b (by simp)
  have X3 := Lib.hid x3
  clear X2 x3 hb3
  go_wp2_with fail
  refine (H3.out _).mono ?_
  rintro e w4 ⟨rfl, hb4⟩
  have X4 := Lib.hid (X3.out.call hb4)
  clear X3 hb4
  go_wp2_with fail
  refine (H4.out _).mono ?_
  rintro e w5 ⟨rfl, rfl⟩
  go_wp2
  go_ret
  exact ⟨rfl, X4.out.2⟩

theorem Vs.held {w0 : World} {vs : List (Nat × V4)} {w : World} (h : Vs w0 vs w) (b : Nat) (v : V4) (hm : (b, v) ∈ vs) :
    w.cell? ⟨b, 0, none⟩ = some (.int .u64 (U v.x0)) ∧ w.cell? ⟨b, 1, none⟩ = some (.int .u64 (U v.x1)) ∧ w.cell? ⟨b, 2, none⟩ = some (.int .u64 (U v.x2)) ∧ w.cell? ⟨b, 3, none⟩ = some (.int .u64 (U v.x3)) ∧ Vs w0 vs w :=
  ⟨(h.1 _ hm).cell 0 (by omega), (h.1 _ hm).cell 1 (by omega), (h.1 _ hm).cell 2 (by omega), (h.1 _ hm).cell 3 (by omega), h⟩

theorem bitsBoth (a : V4) (f n : Int) (hf : f < 9223372036854775808) : ∃ x : BitVec 64, (∀ w, Calls Try.prog 31 #[a.val, .int .i64 f, .int .i64 n] w fun e w' => e = .returned (.int .u64 (U x)) ∧ Below w.heap.size w w') ∧ (∀ w, Calls Try.prog 32 #[a.val, .int .i64 f, .int .i64 n] w fun e w' => e = .returned (.int .u64 (U x)) ∧ Below w.heap.size w w') := by
  by_cases h : f < 0 ∨ n < 0 ∨ 64 < n
  · exact ⟨0#64, limbBits_out a f n (by omega), refBits_out a f n h⟩
  · obtain ⟨k, rfl⟩ : ∃ k : Nat, f = (k : Int) := ⟨f.toNat, by omega⟩
    obtain ⟨m, rfl⟩ : ∃ m : Nat, n = (m : Int) := ⟨n.toNat, by omega⟩
    by_cases h2 : k < 256
    · exact ⟨bitsN a k m, limbBits a k m h2 (by omega), refBits a k m (by omega) (by omega)⟩
    · have hr := refBits a k m (by omega) (by omega)
      rw [bitsN_high a k m (by omega)] at hr
      exact ⟨0#64, limbBits_out a k m (by omega), hr⟩

set_option maxHeartbeats 2000000 in
theorem walkLimbBits (a : V4) (f n : Int) (hf : f < 9223372036854775808) (w : World) :
    Calls Try.prog 10 #[a.val, .int .i64 f, .int .i64 n] w fun e w' => e = .returned (.bool true) ∧ Below w.heap.size w w' := by
  obtain ⟨x, h1, h2⟩ := bitsBoth a f n hf
  have H1 := Lib.hid h1
  have H2 := Lib.hid h2
  clear h1 h2
  have x0 : Vs w [(w.heap.size, a)] (w.alloc (.cells a.arr 38)) := (Vs.start w).box a _ rfl
  have X0 := Lib.hid x0
  clear x0
  unfold V4.val V4.arr
  go_enter Try.func10, Try.ntmps10
  go_wp2
  go_region_held3 (fun w' => w'.cell? ⟨w.heap.size, 0, none⟩ = some (.int .u64 (U a.x0)) ∧ w'.cell? ⟨w.heap.size, 1, none⟩ = some (.int .u64 (U a.x1)) ∧ w'.cell? ⟨w.heap.size, 2, none⟩ = some (.int .u64 (U a.x2)) ∧ w'.cell? ⟨w.heap.size, 3, none⟩ = some (.int .u64 (U a.x3)) ∧ Vs w [(w.heap.size, a)] w') (first | exact (X0.out.drew).held w.heap.size a (by simp) | exact (Vs.call (‹_ ∧ _ ∧ _ ∧ _ ∧ Vs w _ _›).2.2.2.2 (by assumption)).held w.heap.size a (by simp))
    (first
      | (go_at_call 30; refine (limbAlive _).mono ?_; rintro e w' ⟨rfl, hb⟩)
      | (go_at_call 31; refine (H1.out _).mono ?_; rintro e w' ⟨rfl, hb⟩)
      | (go_at_call 32; refine (H2.out _).mono ?_; rintro e w' ⟨rfl, hb⟩))
  go_wp2
  go_ret
  exact ⟨rfl, (‹_ ∧ _ ∧ _ ∧ _ ∧ Vs w _ _›).2.2.2.2.2⟩
end Go.Proofs.Ytacghnepggkgpaa
