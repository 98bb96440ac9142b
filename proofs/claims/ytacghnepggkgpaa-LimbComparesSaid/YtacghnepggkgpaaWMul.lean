/- Walks of bits.Mul64 and limb.Mul. -/
import Derived.Test.YtacghnepggkgpaaWLimb
namespace Go.Proofs.Ytacghnepggkgpaa
open Go.RowKit
attribute [local go_sem ↓] add_UU sub_UU mul_UU add_UL add_LU sub_UL sub_LU mul_UL neg_at not_at and_UU or_UU xor_UU andNot_UU and_UL or_LU shr_UL shl_UL shr_UN shl_UN quo_UL rem_UL quo_UU rem_UU
attribute [local go_sem] wrap8_U wrap32_U wrap64_B wrap32_B wrap8_D wrapi_B wrap64_UU eq_UU ne_UU eq_UL ne_UL lt_UU le_UU

def mulHi (x y : BitVec 64) : BitVec 64 := BitVec.ofNat 64 (x.toNat * y.toNat / 18446744073709551616)

theorem and32 (z : BitVec 64) : (z &&& 4294967295#64).toNat = z.toNat % 4294967296 := by
  rw [BitVec.toNat_and]
  exact Nat.and_two_pow_sub_one_eq_mod z.toNat 32

theorem mulHi_eq (x y : BitVec 64) :
    (x >>> 32 * y >>> 32 + (x >>> 32 * (y &&& 4294967295#64) + ((x &&& 4294967295#64) * (y &&& 4294967295#64)) >>> 32) >>> 32 +
        (((x >>> 32 * (y &&& 4294967295#64) + ((x &&& 4294967295#64) * (y &&& 4294967295#64)) >>> 32) &&& 4294967295#64) + (x &&& 4294967295#64) * y >>> 32) >>> 32) = mulHi x y := by
  apply BitVec.eq_of_toNat_eq
  have h := mul64_arith (x.toNat : Int) (y.toNat : Int) (by omega) (by have := x.isLt; omega) (by omega) (by have := y.isLt; omega)
  unfold mulHi
  have hb : x.toNat * y.toNat / 18446744073709551616 < 2 ^ 64 := by
    have : x.toNat * y.toNat < 18446744073709551616 * 18446744073709551616 := Nat.mul_lt_mul_of_lt_of_lt x.isLt y.isLt
    exact Nat.div_lt_of_lt_mul this
  rw [BitVec.toNat_ofNat, Nat.mod_eq_of_lt hb]
  simp only [BitVec.toNat_add, BitVec.toNat_mul, BitVec.toNat_ushiftRight, and32, Nat.shiftRight_eq_div_pow]
  have e : (2 : Nat) ^ 32 = 4294967296 := by decide
  have e' : (2 : Nat) ^ 64 = 18446744073709551616 := by decide
  rw [e, e']
  have x1 : (x.toNat : Int) / 4294967296 = ((x.toNat / 4294967296 : Nat) : Int) := by omega
  have x0 : (x.toNat : Int) % 4294967296 = ((x.toNat % 4294967296 : Nat) : Int) := by omega
  have y1 : (y.toNat : Int) / 4294967296 = ((y.toNat / 4294967296 : Nat) : Int) := by omega
  have y0 : (y.toNat : Int) % 4294967296 = ((y.toNat % 4294967296 : Nat) : Int) := by omega
  rw [x1, x0, y1, y0] at h
  simp only [← Int.natCast_mul] at h
  generalize x.toNat / 4294967296 * (y.toNat / 4294967296) = A at h ⊢
  generalize x.toNat / 4294967296 * (y.toNat % 4294967296) = B' at h ⊢
  generalize x.toNat % 4294967296 * (y.toNat % 4294967296) = C' at h ⊢
  generalize x.toNat % 4294967296 * (y.toNat / 4294967296) = D' at h ⊢
  generalize x.toNat * y.toNat = E' at h ⊢
  clear x1 x0 y1 y0 hb e e'
  omega

theorem mul64 (x y : BitVec 64) (w : World) :
    Calls Try.prog 43 #[.int .u64 (U x), .int .u64 (U y)] w fun e w' => e = .returned (.tuple #[.int .u64 (U (mulHi x y)), .int .u64 (U (x * y))]) ∧ w = w' := by
  have HE := Lib.hid (mulHi_eq x y)
  go_enter Try.func43, Try.ntmps43
  go_wp2
  go_ret2
  refine ⟨?_, rfl⟩
  rw [← HE.out]
  rfl

theorem below_drewN' {B : Nat} {a w : World} (h : Below B a w) (n : Nat) : Below B a (w.drewN n) := ⟨h.os, h.tape, h.output, h.size, h.block⟩

def mulStep (x y o c : BitVec 64) : BitVec 64 × BitVec 64 :=
  ((addF (addF (x * y) o false).1 c false).1, mulHi x y + bw (addF (x * y) o false).2 + bw (addF (addF (x * y) o false).1 c false).2)
def mulIn (a b : V4) (i : Nat) (out : List (BitVec 64)) : Nat → List (BitVec 64) × BitVec 64
  | 0 => (out, 0#64)
  | j + 1 => ((mulIn a b i out j).1.set (i + j) (mulStep (a.get i) (b.get j) ((mulIn a b i out j).1[i + j]?.getD 0#64) (mulIn a b i out j).2).1,
      (mulStep (a.get i) (b.get j) ((mulIn a b i out j).1[i + j]?.getD 0#64) (mulIn a b i out j).2).2)
def mulOut (a b : V4) : Nat → List (BitVec 64)
  | 0 => List.replicate 8 0#64
  | i + 1 => (mulIn a b i (mulOut a b i) 4).1.set (i + 4) (mulIn a b i (mulOut a b i) 4).2

theorem mulIn_len (a b : V4) (i : Nat) (out : List (BitVec 64)) (j : Nat) : (mulIn a b i out j).1.length = out.length := by
  induction j with
  | zero => rfl
  | succ j ih => simp [mulIn, ih]
theorem mulOut_len (a b : V4) (i : Nat) : (mulOut a b i).length = 8 := by
  induction i with
  | zero => rfl
  | succ i ih => simp [mulOut, mulIn_len, ih]

theorem call_add0 (x y : BitVec 64) (w : World) : (callFunc 44 #[.int .u64 (U x), .int .u64 (U y), .int .u64 0]).run Try.prog w = .ok (.value (.tuple #[.int .u64 (U (addF x y false).1), .int .u64 (U (bw (addF x y false).2))])) w :=
  call_add x y false w

theorem eight {α : Type} (l : List α) (h : l.length = 8) : ∃ o0 o1 o2 o3 o4 o5 o6 o7, l = [o0, o1, o2, o3, o4, o5, o6, o7] := by
  match l, h with
  | [a, b, c, d, e, f, g, i], _ => exact ⟨a, b, c, d, e, f, g, i, rfl⟩

/-- What a round of Mul's loops keeps. -/
structure MulI (a b : V4) (w : World) (out : List (BitVec 64)) (wr : World) : Prop where
  a : IsVec wr w.heap.size 38 a
  b : IsVec wr (w.heap.size + 1) 38 b
  lo : IsVec wr (w.heap.size + 1 + 1) 38 V4.zero
  hi : IsVec wr (w.heap.size + 1 + 1 + 1) 38 V4.zero
  out : IsBlk wr (w.heap.size + 1 + 1 + 1 + 1) 55 (wordVals out)
  below : Below w.heap.size w wr

theorem MulI.drew {a b : V4} {w wr : World} {out : List (BitVec 64)} (h : MulI a b w out wr) : MulI a b w out wr.drew := ⟨h.a, h.b, h.lo, h.hi, h.out, h.below.drew⟩
theorem MulI.drewN {a b : V4} {w wr : World} {out : List (BitVec 64)} (h : MulI a b w out wr) (n : Nat) : MulI a b w out (wr.drewN n) := ⟨h.a, h.b, h.lo, h.hi, h.out, below_drewN' h.below n⟩
theorem MulI.set {a b : V4} {w wr : World} {out : List (BitVec 64)} (h : MulI a b w out wr) (k : Nat) (x : BitVec 64) : MulI a b w (out.set k x) (wr.setCell ⟨w.heap.size + 1 + 1 + 1 + 1, k, none⟩ (.int .u64 (U x))) :=
  ⟨h.a.other _ _ (by simp; omega), h.b.other _ _ (by simp), h.lo.other _ _ (by simp), h.hi.other _ _ (by simp), by have := h.out.set k (.int .u64 (U x)); rwa [wordVals_set] at this, h.below.setCell (p := ⟨w.heap.size + 1 + 1 + 1 + 1, k, none⟩) (by simp; omega) _⟩

set_option maxHeartbeats 4000000 in
theorem limbMul (a b : V4) (w : World) :
    Calls Try.prog 28 #[a.val, b.val] w fun e w' => ∃ lo hi : V4, e = .returned (.tuple #[lo.val, hi.val]) ∧ mulOut a b 4 = [lo.x0, lo.x1, lo.x2, lo.x3, hi.x0, hi.x1, hi.x2, hi.x3] ∧ Below w.heap.size w w' := by
  have hcall := call_add0
  unfold V4.val V4.arr
  go_enter Try.func28, Try.ntmps28
  go_wp2
  have X := Lib.hid (show MulI a b w (mulOut a b 0) (((((w.alloc (.cells a.arr 38)).alloc (.cells b.arr 38)).alloc (.cells V4.zero.arr 38)).alloc (.cells V4.zero.arr 38)).alloc (.cells (wordVals (mulOut a b 0)).toArray 55)) from
    ⟨((((IsVec.newAt w _ a _ rfl).alloc _).alloc _).alloc _).alloc _, (((IsVec.newAt _ _ b _ (by simp)).alloc _).alloc _).alloc _, ((IsVec.newAt _ _ _ _ (by simp)).alloc _).alloc _, (IsVec.newAt _ _ _ _ (by simp)).alloc _, IsBlk.newAt _ _ _ _ (by simp), by go_grown⟩)
  go_loopw [13] (fun i wr => ∃ k : Nat, k ≤ 4 ∧ i = .int .i64 k ∧ MulI a b w (mulOut a b k) wr) (fun i _ => 4 - (intOf i).toNat)
  case atStart => exact ⟨0, by omega, rfl, X.out⟩
  case round =>
    clear X
    obtain ⟨i, hk, rfl, hI⟩ := hrel
    obtain ⟨wo, rfl⟩ : ∃ wo : World, wo = wr := ⟨_, rfl⟩
    by_cases hlt : i < 4
    · have HI := Lib.hid hI
      clear hI
      have k0 : (0 : Int) ≤ (i : Int) := Int.natCast_nonneg i
      have k4 : (i : Int) < 4 := by omega
      go_wp2
      go_loopw [8, 16] (fun c j wr => ∃ m : Nat, m ≤ 4 ∧ j = .int .i64 m ∧ c = .int .u64 (U (mulIn a b i (mulOut a b i) m).2) ∧ MulI a b w (mulIn a b i (mulOut a b i) m).1 wr) (fun _ j _ => 4 - (intOf j).toNat)
      case atStart => exact ⟨0, by omega, rfl, rfl, HI.out⟩
      case round =>
        obtain ⟨m, hm, rfl, rfl, hJ⟩ := hrel
        by_cases hlm : m < 4
        · have c1 := hJ.a.cell i hlt
          have c2 := hJ.b.cell m hlm
          have hlen : i + m < (mulIn a b i (mulOut a b i) m).1.length := by rw [mulIn_len, mulOut_len]; omega
          have c3 := (hJ.out.cell (i + m)).trans (wordVals_get _ _ hlen)
          have f3 := hJ.out.frozen (i + m)
          have m0 : (0 : Int) ≤ (m : Int) := Int.natCast_nonneg m
          have m4 : (m : Int) < 4 := by omega
          have HJ := Lib.hid hJ
          rw [List.getElem?_eq_getElem hlen, Option.getD_some] at c3
          clear hJ
          go_wp2
          go_quiet ((go_at_call 43; exact Calls.quiet_of_same ((mul64 _ _ _).mono fun _ _ h => ⟨h.1, h.2.symm⟩)))
          go_wp2
          have hg : (mulIn a b i (mulOut a b i) m).1[i + m]?.getD 0#64 = (mulIn a b i (mulOut a b i) m).1[i + m] := by rw [List.getElem?_eq_getElem hlen, Option.getD_some]
          refine ⟨⟨m + 1, by omega, by go_num, ?_, ?_⟩, by simp [intOf]; omega⟩
          · simp only [mulIn, mulStep, hg]
          · have := (HJ.out.drewN nq).set (i + m) (addF (addF (a.get i * b.get m) (mulIn a b i (mulOut a b i) m).1[i + m] false).1 (mulIn a b i (mulOut a b i) m).2 false).1
            simp only [mulIn, mulStep, hg]
            exact this
        · obtain rfl : m = 4 := by omega
          have hlen : i + 4 < (mulIn a b i (mulOut a b i) 4).1.length := by rw [mulIn_len, mulOut_len]; omega
          have c3 := (hJ.out.cell (i + 4)).trans (wordVals_get _ _ hlen)
          have f3 := hJ.out.frozen (i + 4)
          have HJ := Lib.hid hJ
          clear hJ
          go_wp2
          refine ⟨⟨i + 1, by omega, by go_num, HJ.out.set (i + 4) _⟩, by simp [intOf]; omega⟩
    · obtain rfl : i = 4 := by omega
      obtain ⟨o0, o1, o2, o3, o4, o5, o6, o7, ho⟩ := eight _ (mulOut_len a b 4)
      have hO := hI.out
      rw [ho] at hO
      have c0 := hO.cell 0
      have c1 := hO.cell 1
      have c2 := hO.cell 2
      have c3 := hO.cell 3
      have c4 := hO.cell 4
      have c5 := hO.cell 5
      have c6 := hO.cell 6
      have c7 := hO.cell 7
      have l0 := hI.lo.cell 0 (by omega)
      have l1 := hI.lo.cell 1 (by omega)
      have l2 := hI.lo.cell 2 (by omega)
      have l3 := hI.lo.cell 3 (by omega)
      have h0 := hI.hi.cell 0 (by omega)
      have h1 := hI.hi.cell 1 (by omega)
      have h2 := hI.hi.cell 2 (by omega)
      have h3 := hI.hi.cell 3 (by omega)
      have fl0 := hI.lo.frozen 0
      have fl1 := hI.lo.frozen 1
      have fl2 := hI.lo.frozen 2
      have fl3 := hI.lo.frozen 3
      have fh0 := hI.hi.frozen 0
      have fh1 := hI.hi.frozen 1
      have fh2 := hI.hi.frozen 2
      have fh3 := hI.hi.frozen 3
      simp only [wordVals, List.map_cons, List.map_nil, List.getElem?_cons_zero, List.getElem?_cons_succ] at c0 c1 c2 c3 c4 c5 c6 c7
      have HO := Lib.hid ho
      have HI := Lib.hid hI.below
      have hat := fun (a : Option Addr) (cap : Nat) (W : World) => run_arrayAt (P := Try.prog) (w := W) 38 22 4 a 4 cap Try.underlying38 (Nat.le_refl _)
      clear hI hO ho
      go_wp2
      go_region
      go_wp2
      refine bodyPost_ret (v := .tuple #[(V4.mk o0 o1 o2 o3).val, (V4.mk o4 o5 o6 o7).val]) (by simp [results, Try.results28, go_sem, l0, l1, l2, l3, h0, h1, h2, h3]; exact ⟨rfl, rfl⟩) rfl ⟨⟨o0, o1, o2, o3⟩, ⟨o4, o5, o6, o7⟩, rfl, HO.out, ?_⟩
      have hB := HI.out
      go_grown
end Go.Proofs.Ytacghnepggkgpaa
