/- Walks of the reference's Digits, Vec. -/
import Derived.Test.YtacghnepggkgpaaWLimb
import Derived.Maps.AppendAt
namespace Go.Proofs.Ytacghnepggkgpaa
open Go.RowKit

theorem wrapi_mod (y : BitVec 64) : IntKind.i64.wrap (U (y % 65536#64)) = (y.toNat : Int) % 65536 := by
  rw [IntKind.wrap_i64]
  unfold U
  rw [BitVec.toNat_umod]
  show (((y.toNat % 65536 : Nat) : Int) + _) % _ - _ = _
  omega
attribute [local go_sem ↓] add_UU sub_UU mul_UU add_UL add_LU sub_UL sub_LU mul_UL neg_at not_at and_UU or_UU xor_UU andNot_UU and_UL or_LU shr_UL shl_UL shr_UN shl_UN quo_UL rem_UL quo_UU rem_UU
attribute [local go_sem] wrapi_mod wrap8_U wrap32_U wrap64_B wrap32_B wrap8_D wrapi_B wrap64_UU eq_UU ne_UU eq_UL ne_UL lt_UU le_UU

/-- Digit p of a number in base 65536. -/
def dig (a : V4) (p : Nat) : Nat := (a.get (p / 4)).toNat / 65536 ^ (p % 4) % 65536
def digs (a : V4) (n : Nat) : List Value := (List.range n).map fun p => Value.int .i64 (dig a p : Nat)
theorem digs_succ (a : V4) (n : Nat) : digs a (n + 1) = digs a n ++ [Value.int .i64 (dig a n : Nat)] := by simp [digs, List.range_succ]
theorem digs_len (a : V4) (n : Nat) : (digs a n).length = n := by simp [digs]

theorem info_int : (Try.prog.info? 3).map (fun i => (i.zero, i.size, i.bytes)) = some (some (.int .i64 0), 1, 8) := by kernel_rfl

theorem digits_step {w wr w1 : World} {o v1 : Value} {a : V4} {n : Nat} {y : BitVec 64} {ob : Obj} (hown : wr.ownsRow (w.heap.size + 1) 3 1 o n (digs a n)) (hv : IsVec wr w.heap.size 38 a) (hb : Below w.heap.size w wr)
    (hd : dig a n = y.toNat % 65536) (hown1 : w1.ownsRow (w.heap.size + 1) 3 1 v1 (n + 1) (digs a n ++ [.int .i64 ((y.toNat : Int) % 65536)])) (hg : (wr.alloc ob).grownBy w1 o.ownBlock) :
    w1.ownsRow (w.heap.size + 1) 3 1 v1 (n + 1) (digs a (n + 1)) ∧ IsVec w1 w.heap.size 38 a ∧ Below w.heap.size w w1 := by
  have hk : ∀ k, o.ownBlock = some k → w.heap.size + 1 ≤ k := fun k e => (hown.lt k e).1
  refine ⟨?_, ?_, ?_⟩
  · rw [digs_succ, hd, Int.natCast_emod]; exact hown1
  · exact (hg.block w.heap.size (by have := hv.lt; simp; omega) (fun e => by have := hk _ e.symm; omega)).trans (hv.alloc ob)
  · exact (hb.alloc hb.size ob).grown hg (by have := hb.size; simp; omega) (fun k e => by have := hk k e; omega)

set_option maxHeartbeats 2000000 in
theorem digits (a : V4) (w : World) :
    Calls Try.prog 45 #[a.val] w fun e w' => ∃ v, e = .returned v ∧ w'.ownsRow (w.heap.size + 1) 3 1 v 16 (digs a 16) ∧ Below w.heap.size w w' := by
  obtain ⟨i0, hi0, hz0, hz1, hz2⟩ := info_parts info_int
  unfold V4.val V4.arr
  go_enter Try.func45, Try.ntmps45
  go_wp2
  have X := Lib.hid (show IsVec (w.alloc (.cells a.arr 38)) w.heap.size 38 a ∧ Below w.heap.size w (w.alloc (.cells a.arr 38)) from ⟨IsVec.newAt w _ a _ rfl, by go_grown⟩)
  go_loopw [3, 4] (fun o i wr => ∃ k : Nat, k ≤ 4 ∧ i = .int .i64 k ∧ wr.ownsRow (w.heap.size + 1) 3 1 o (4 * k) (digs a (4 * k)) ∧ IsVec wr w.heap.size 38 a ∧ Below w.heap.size w wr) (fun _ i _ => 4 - (intOf i).toNat)
  case atStart => exact ⟨0, by omega, rfl, World.ownsRow_nil _ _ _ _, X.out.1, X.out.2⟩
  case round =>
    clear X
    obtain ⟨i, hk, rfl, hown, hv, hb⟩ := hrel
    obtain ⟨wo, rfl⟩ : ∃ wo : World, wo = wr := ⟨_, rfl⟩
    by_cases hlt : i < 4
    · have c1 := hv.cell i hlt
      have HI := Lib.hid (And.intro hown (And.intro hv hb))
      clear hown hv hb
      have k0 : (0 : Int) ≤ (i : Int) := Int.natCast_nonneg i
      have k4 : (i : Int) < 4 := by omega
      go_wp2
      go_loopw [3, 5, 6] (fun o x j wr => ∃ (m : Nat) (y : BitVec 64), m ≤ 4 ∧ j = .int .i64 m ∧ x = .int .u64 (U y) ∧ y.toNat = (a.get i).toNat / 65536 ^ m ∧ wr.ownsRow (w.heap.size + 1) 3 1 o (4 * i + m) (digs a (4 * i + m)) ∧ IsVec wr w.heap.size 38 a ∧ Below w.heap.size w wr) (fun _ _ j _ => 4 - (intOf j).toNat)
      case atStart => exact ⟨0, _, by omega, rfl, rfl, by simp, HI.out.1, HI.out.2.1, HI.out.2.2⟩
      case round =>
        obtain ⟨m, y, hm, rfl, rfl, hy, hown, hv, hb⟩ := hrel
        by_cases hlm : m < 4
        · have hd : dig a (4 * i + m) = y.toNat % 65536 := by
            unfold dig
            rw [show (4 * i + m) / 4 = i by omega, show (4 * i + m) % 4 = m by omega, hy]
          have hy' : (y / 65536#64).toNat = (a.get i).toNat / 65536 ^ (m + 1) := by
            rw [BitVec.toNat_udiv, hy, Nat.div_div_eq_div_mul, Nat.pow_succ]; rfl
          have HD := Lib.hid hd
          have HY := Lib.hid hy'
          have HB := Lib.hid (And.intro hv hb)
          have hsz : w.heap.size + 1 ≤ wr.heap.size := hv.lt
          clear hd hy hy' hv hb
          go_wp2_with (at_builtin; refine wpList_append_own _ rfl _ _ 59 rfl (w.heap.size + 1) 3 i0 (.int .i64 0) 1 8 Try.underlying59 hi0 hz0 hz1 hz2 rfl (by decide) _ _ _ rfl (hown.alloc _) ⟨wr.heap.size, 0, none⟩ 1 1 [.int .i64 ((y.toNat : Int) % 65536)] rfl rfl ?c1 ?c2 ?c3 ?c4 ?c5 ?_)
          case c1 => exact cell_one_new _ _ _
          case c2 => intro u hu; simp at hu; subst hu; rfl
          case c3 => unfold maxLen; omega
          case c4 => omega
          case c5 => simp; omega
          intro v1 w1 hown1 hg1 _
          have HR := Lib.hid (digits_step hown HB.out.1 HB.out.2 HD.out hown1 hg1)
          clear hown1 hg1
          go_wp2
          refine ⟨⟨m + 1, _, by omega, by go_num, rfl, HY.out, ?_, HR.out.2.1, HR.out.2.2⟩, by simp [intOf]; omega⟩
          exact HR.out.1
        · obtain rfl : m = 4 := by omega
          have HR := Lib.hid (And.intro hown (And.intro hv hb))
          clear hown hv hb hy
          go_wp2
          refine ⟨⟨i + 1, by omega, by go_num, ?_, HR.out.2.1, HR.out.2.2⟩, by simp [intOf]; omega⟩
          exact HR.out.1
    · obtain rfl : i = 4 := by omega
      have HR := Lib.hid (And.intro hown (And.intro hv hb))
      clear hown hv hb
      go_wp2
      go_ret
      exact ⟨_, rfl, HR.out.1, HR.out.2.2⟩
end Go.Proofs.Ytacghnepggkgpaa
