/- Plain facts on 64-bit words as natural numbers: masks, the carry of a subtraction read off its top bits, the bitwise choice. No program in sight. -/
import Derived.Laws.BitsAll
import Derived.Laws.Entries
import Derived.Test.YtccgfladbibjbaaGreatDoorProg
import Derived.Test.YtccgfladbibjbaaGreatDoorKG01
import Derived.WalkSpells
import Derived.Lib.Hide
import Derived.Handy
import Derived.RegionTactic
import Derived.BigRegion
import Derived.Deep.QuietTactic
import Derived.BigQuiet
import Derived.StillTailTactics
namespace Go.Proofs.YtccgfladbibjbaaGreatDoor
theorem top_bit (y : Nat) (h : y < 18446744073709551616) : y / 9223372036854775808 = if y.testBit 63 then 1 else 0 := by
 rw [Nat.testBit_eq_decide_div_mod_eq]
 have : (2 : Nat) ^ 63 = 9223372036854775808 := by decide
 rw [this]
 by_cases hy : 9223372036854775808 ≤ y
 ·have e : y / 9223372036854775808 = 1 := by omega
  simp [e]
 ·have e : y / 9223372036854775808 = 0 := by omega
  simp [e]
theorem not_word (x i : Nat) (h : x < 18446744073709551616) : (18446744073709551615 - x).testBit i = (decide (i < 64) && !x.testBit i) := by
 have := Nat.testBit_two_pow_sub_succ (x := x) (n := 64) (by simpa using h) i
 have e : 2 ^ 64 - (x + 1) = 18446744073709551615 - x := by omega
 rwa [e] at this
theorem bit63 (x : Nat) (h : x < 18446744073709551616) : x.testBit 63 = decide (9223372036854775808 ≤ x) := by
 have t := top_bit x h
 by_cases hx : 9223372036854775808 ≤ x
 ·have e : x / 9223372036854775808 = 1 := by omega
  rw [e] at t
  cases hb : x.testBit 63 <;> simp_all
 ·have e : x / 9223372036854775808 = 0 := by omega
  rw [e] at t
  cases hb : x.testBit 63 <;> simp_all
theorem or_lt (a b : Nat) (h : a < 18446744073709551616) (h' : b < 18446744073709551616) : a ||| b < 18446744073709551616 := Nat.or_lt_two_pow (n := 64) h h'
theorem zero_top (u : Nat) (hu : u < 18446744073709551616) :
  (18446744073709551615 - (u ||| (18446744073709551616 - u) % 18446744073709551616)) / 9223372036854775808 = if u = 0 then 1 else 0 := by
 have hd : (18446744073709551616 - u) % 18446744073709551616 < 18446744073709551616 := Nat.mod_lt _ (by decide)
 have ho := or_lt _ _ hu hd
 rw [top_bit _ (by omega), not_word _ 63 ho, Nat.testBit_or, bit63 u hu, bit63 _ hd]
 by_cases h : u = 0
 ·subst h; simp
 ·by_cases h1 : 9223372036854775808 ≤ u
  ·simp [h, h1]
  ·have : 9223372036854775808 ≤ (18446744073709551616 - u) % 18446744073709551616 := by omega
   simp [h, this]
end Go.Proofs.YtccgfladbibjbaaGreatDoor
namespace Go.Proofs.YtccgfladbibjbaaGreatDoor
open Go.RowKit
attribute [local go_sem ↓] add_UU sub_UU mul_UU add_UL add_LU sub_UL sub_LU mul_UL neg_at not_at and_UU or_UU xor_UU andNot_UU and_UL or_LU shr_UL shl_UL shr_UN shl_UN quo_UL rem_UL quo_UU rem_UU
attribute [local go_sem] wrap8_U wrap32_U wrap64_B wrap32_B wrap8_D wrapi_B wrap64_UU eq_UU ne_UU eq_UL ne_UL lt_UU le_UU
def fromBitW (x : BitVec 64) : BitVec 64 := -(x &&& 1#64)
theorem fromBit (x : BitVec 64) (w : World) :
  Calls Tryz.prog 101 #[.int .u64 (U x)] w fun e w' => e = .returned (.int .u64 (U (fromBitW x))) ∧ w = w' := by
 go_enter Tryz.func101, Tryz.ntmps101
 go_wp2
 go_ret
 exact ⟨rfl, rfl⟩
def orAll (l : List (BitVec 64)) : BitVec 64 := l.foldl (fun a b => a ||| b) 0#64
theorem orAll_succ (xs : List (BitVec 64)) (k : Nat) (h : k < xs.length) : orAll (xs.take (k + 1)) = orAll (xs.take k) ||| xs[k] := by
 unfold orAll
 rw [List.take_succ_eq_append_getElem h, List.foldl_append]
 rfl
def zeroW (u : BitVec 64) : BitVec 64 := fromBitW ((~~~(u ||| -u)) >>> 63)
theorem isZero_some (b off cap : Nat) (xs : List (BitVec 64)) (w : World) (hl : xs.length ≤ maxLen) (hc : ∀ i, i < xs.length → w.cell? ⟨b, off + i, none⟩ = some (.int .u64 (U (xs[i]?.getD 0#64)))) :
  Calls Tryz.prog 128 #[.slice (some ⟨b, off, none⟩) xs.length cap] w fun e w' => e = .returned (.int .u64 (U (zeroW (orAll xs)))) ∧ w = w' := by
 unfold maxLen at hl
 go_enter Tryz.func128, Tryz.ntmps128
 go_wp2
 go_loop [3, 8] (fun u i => ∃ k : Nat, k ≤ xs.length ∧ i = .int .i64 k ∧ u = .int .u64 (U (orAll (xs.take k)))) (fun _ i => xs.length - (intOf i).toNat)
 case atStart => exact ⟨0, Nat.zero_le _, rfl, rfl⟩
 case round =>
  obtain ⟨k, hk, rfl, rfl⟩ := hrel
  by_cases hlt : k < xs.length
  ·have hcell := hc k hlt
   have HS := Lib.hid (orAll_succ xs k hlt)
   clear hc
   go_wp2
   go_round
   case rel => exact ⟨k + 1, by omega, by go_num, by rw [HS.out]⟩
   case measure => simp [intOf]; omega
  ·have HT := Lib.hid (show xs.take k = xs from List.take_of_length_le (by omega))
   clear hc
   go_wp2_with (go_at_call 101; refine (fromBit _ _).mono ?_; rintro e w' ⟨rfl, rfl⟩)
   go_ret
   exact ⟨by rw [HT.out]; rfl, rfl⟩
theorem cellNew (w : World) (cs : Array Value) (t : TypeId) (i : Nat) : (w.alloc (.cells cs t)).cell? ⟨w.heap.size, i, none⟩ = cs[i]? := by
 unfold World.cell?
 have h : (w.alloc (.cells cs t)).heap[w.heap.size]? = some (.cells cs t) := heap_alloc_new w _
 simp only []
 rw [h]
 rfl
def equalW (a b : BitVec 64) : BitVec 64 := zeroW (a ^^^ b)
theorem isZero_one (x : BitVec 64) (b : Nat) (w : World) (hc : w.cell? ⟨b, 0, none⟩ = some (.int .u64 (U x))) (cap : Nat) :
  Calls Tryz.prog 128 #[.slice (some ⟨b, 0, none⟩) 1 cap] w fun e w' => e = .returned (.int .u64 (U (zeroW x))) ∧ w = w' := by
 refine (isZero_some b 0 cap [x] w (Nat.le_trans (m := 1) (Nat.le_refl _) (by decide)) (fun i hi => ?_)).mono (fun e w' h => ?_)
 ·obtain rfl : i = 0 := by simpa using hi
  simpa using hc
 ·simpa [orAll] using h
theorem equal (a b : BitVec 64) (w : World) :
  Calls Tryz.prog 153 #[.int .u64 (U a), .int .u64 (U b)] w fun e w' => e = .returned (.int .u64 (U (equalW a b))) ∧ Below w.heap.size w w' := by
 go_enter Tryz.func153, Tryz.ntmps153
 have hc : (w.alloc (.cells #[.int .u64 (U (a ^^^ b))] 44)).cell? ⟨w.heap.size, 0, none⟩ = some (.int .u64 (U (a ^^^ b))) := cellNew w _ _ 0
 go_wp2_with (go_at_call 128; refine (isZero_one (a ^^^ b) _ _ (by assumption) _).mono ?_; rintro e w' ⟨rfl, rfl⟩)
 go_ret
 exact ⟨rfl, (Below.refl _ _).alloc (Nat.le_refl _) _⟩
def chooseW (m a b : BitVec 64) : BitVec 64 := b ^^^ (m &&& (a ^^^ b))
theorem choose (m a b : BitVec 64) (w : World) :
  Calls Tryz.prog 142 #[.int .u64 (U m), .int .u64 (U a), .int .u64 (U b)] w fun e w' => e = .returned (.int .u64 (U (chooseW m a b))) ∧ w = w' := by
 go_enter Tryz.func142, Tryz.ntmps142
 go_wp2
 go_ret
 exact ⟨rfl, rfl⟩
theorem orAll_cons (x : BitVec 64) (xs : List (BitVec 64)) : orAll (x :: xs) = x ||| orAll xs := by
 unfold orAll
 have h : ∀ (l : List (BitVec 64)) (a b : BitVec 64), l.foldl (fun a b => a ||| b) (a ||| b) = a ||| l.foldl (fun a b => a ||| b) b := by
  intro l
  induction l with
  | nil => intro a b; rfl
  | cons y l ih => intro a b; simp only [List.foldl_cons]; rw [BitVec.or_assoc, ih]
 simp only [List.foldl_cons]
 rw [show (0#64 ||| x) = x ||| 0#64 from BitVec.or_comm _ _, h]
theorem or_zero64 (a b : BitVec 64) : a ||| b = 0#64 ↔ a = 0#64 ∧ b = 0#64 := by
 constructor
 ·intro h
  constructor
  ·apply BitVec.eq_of_getLsbD_eq
   intro i hi
   have := congrArg (fun z : BitVec 64 => z.getLsbD i) h
   simp at this
   simp [this.1]
  ·apply BitVec.eq_of_getLsbD_eq
   intro i hi
   have := congrArg (fun z : BitVec 64 => z.getLsbD i) h
   simp at this
   simp [this.2]
 ·rintro ⟨rfl, rfl⟩; rfl
theorem orAll_zero (xs : List (BitVec 64)) : orAll xs = 0#64 ↔ ∀ i, (h : i < xs.length) → xs[i] = 0#64 := by
 induction xs with
 | nil => simp [orAll]
 | cons x xs ih =>
  rw [orAll_cons, or_zero64, ih]
  constructor
  ·rintro ⟨h1, h2⟩ i hi
   cases i with
   | zero => exact h1
   | succ i => exact h2 i (by simpa using hi)
  ·intro h
   exact ⟨h 0 (by simp), fun i hi => h (i + 1) (by simpa using hi)⟩
end Go.Proofs.YtccgfladbibjbaaGreatDoor
namespace Go.Proofs.YtccgfladbibjbaaGreatDoor
abbrev ones : BitVec 64 := 18446744073709551615#64
def maskW (c : Bool) : BitVec 64 := if c then ones else 0#64
theorem top_lit (y : BitVec 64) : y >>> 63 = if y.toNat / 9223372036854775808 = 1 then 1#64 else 0#64 := by
 apply BitVec.eq_of_toNat_eq
 rw [BitVec.toNat_ushiftRight, Nat.shiftRight_eq_div_pow]
 have h := y.isLt
 have e : (2 : Nat) ^ 63 = 9223372036854775808 := by decide
 rw [e]
 split
 ·rename_i h1; rw [h1]; rfl
 ·rename_i h1
  have : y.toNat / 9223372036854775808 = 0 := by omega
  rw [this]; rfl
theorem fromBitW_eq (x : BitVec 64) : fromBitW x = maskW (x % 2#64 == 1#64) := by
 have h : x &&& 1#64 = if (x % 2#64 == 1#64) then 1#64 else 0#64 := by
  have h2 : x % 2#64 = x &&& 1#64 := by
   apply BitVec.eq_of_toNat_eq
   rw [BitVec.toNat_umod, BitVec.toNat_and]
   show x.toNat % 2 = x.toNat &&& 1
   rw [Nat.and_one_is_mod]
  rw [← h2]
  have hc : x % 2#64 = 0#64 ∨ x % 2#64 = 1#64 := by
   have := Nat.mod_lt x.toNat (show 0 < 2 by decide)
   rcases (show x.toNat % 2 = 0 ∨ x.toNat % 2 = 1 by omega) with h | h
   ·exact .inl (BitVec.eq_of_toNat_eq (by rw [BitVec.toNat_umod]; exact h))
   ·exact .inr (BitVec.eq_of_toNat_eq (by rw [BitVec.toNat_umod]; exact h))
  rcases hc with h | h <;> rw [h] <;> rfl
 unfold fromBitW
 rw [h]
 cases (x % 2#64 == 1#64) <;> decide
theorem zeroW_eq (u : BitVec 64) : zeroW u = maskW (decide (u = 0#64)) := by
 unfold zeroW
 rw [top_lit]
 have h := zero_top u.toNat u.isLt
 have e : (~~~(u ||| -u)).toNat = 18446744073709551615 - (u.toNat ||| (18446744073709551616 - u.toNat) % 18446744073709551616) := by
  rw [BitVec.toNat_not, BitVec.toNat_or, BitVec.toNat_neg]
 rw [e, h]
 have e2 : (u.toNat = 0) ↔ (u = 0#64) := ⟨fun h => BitVec.eq_of_toNat_eq h, fun h => by rw [h]; rfl⟩
 by_cases hu : u = 0#64
 ·rw [if_pos (e2.2 hu)]; simp only [hu, decide_true]; decide
 ·rw [if_neg (fun h => hu (e2.1 h))]; simp only [hu, decide_false]; decide
theorem chooseW_mask (c : Bool) (a b : BitVec 64) : chooseW (maskW c) a b = if c then a else b := by
 unfold chooseW
 cases c
 ·show b ^^^ (0#64 &&& (a ^^^ b)) = b
  rw [BitVec.zero_and, BitVec.xor_zero]
 ·show b ^^^ (BitVec.allOnes 64 &&& (a ^^^ b)) = a
  rw [BitVec.allOnes_and, BitVec.xor_comm a b, ← BitVec.xor_assoc, BitVec.xor_self, BitVec.zero_xor]
end Go.Proofs.YtccgfladbibjbaaGreatDoor
namespace Go.Proofs.YtccgfladbibjbaaGreatDoor
open Go.RowKit
attribute [local go_sem ↓] add_UU sub_UU mul_UU add_UL add_LU sub_UL sub_LU mul_UL neg_at not_at and_UU or_UU xor_UU andNot_UU and_UL or_LU shr_UL shl_UL shr_UN shl_UN quo_UL rem_UL quo_UU rem_UU
attribute [local go_sem] wrap8_U wrap32_U wrap64_B wrap32_B wrap8_D wrapi_B wrap64_UU eq_UU ne_UU eq_UL ne_UL lt_UU le_UU
theorem call_add (x y : BitVec 64) (c : Bool) (w : World) : (callFunc 107 #[.int .u64 (U x), .int .u64 (U y), .int .u64 (U (bw c))]).run Tryz.prog w = .ok (.value (.tuple #[.int .u64 (U (addF x y c).1), .int .u64 (U (bw (addF x y c).2))])) w := by
 rw [run_callFunc_extern (e := add64Entry) Tryz.func107 (by kernel_rfl) (by kernel_rfl) (by kernel_rfl) (by kernel_rfl), run_addEntry]
 rfl
theorem call_sub (x y : BitVec 64) (c : Bool) (w : World) : (callFunc 125 #[.int .u64 (U x), .int .u64 (U y), .int .u64 (U (bw c))]).run Tryz.prog w = .ok (.value (.tuple #[.int .u64 (U (subF x y c).1), .int .u64 (U (bw (subF x y c).2))])) w := by
 rw [run_callFunc_extern (e := sub64Entry) Tryz.func125 (by kernel_rfl) (by kernel_rfl) (by kernel_rfl) (by kernel_rfl), run_subEntry]
 rfl
set_option maxHeartbeats 1000000 in
theorem chain_add (a b : V4) (w : World) :
  Calls Tryz.prog 126 #[.agg #[.func (.func 107) #[] #[]], a.val, b.val] w fun e w' => e = .returned (.tuple #[(chainN addF a b 4).1.val, .int .u64 (U (bw (chainN addF a b 4).2))]) ∧ Below w.heap.size w w' := by
 have hcall := call_add
 unfold V4.val V4.arr
 go_enter Tryz.func126, Tryz.ntmps126
 go_wp2
 have hb4 : Below w.heap.size w ((((w.alloc (.cells #[.func (.func 107) #[] #[]] 190)).alloc (.cells a.arr 45)).alloc (.cells b.arr 45)).alloc (.cells V4.zero.arr 45)) := by go_grown
 have vc := (World.cell?_alloc_past (w := (((w.alloc (.cells #[.func (.func 107) #[] #[]] 190)).alloc (.cells a.arr 45)).alloc (.cells b.arr 45))) (.cells V4.zero.arr 45) w.heap.size 0 (by simp; omega)).trans ((World.cell?_alloc_past (w := ((w.alloc (.cells #[.func (.func 107) #[] #[]] 190)).alloc (.cells a.arr 45))) (.cells b.arr 45) w.heap.size 0 (by simp; omega)).trans ((World.cell?_alloc_past (w := (w.alloc (.cells #[.func (.func 107) #[] #[]] 190))) (.cells a.arr 45) w.heap.size 0 (by simp)).trans (cellNew w #[.func (.func 107) #[] #[]] 190 0)))
 have va := ((IsVec.newAt (w.alloc (.cells #[.func (.func 107) #[] #[]] 190)) 45 a (w.heap.size + 1) (by simp)).alloc (.cells b.arr 45)).alloc (.cells V4.zero.arr 45)
 have vb := (IsVec.newAt ((w.alloc (.cells #[.func (.func 107) #[] #[]] 190)).alloc (.cells a.arr 45)) 45 b (w.heap.size + 1 + 1) (by simp)).alloc (.cells V4.zero.arr 45)
 have vo := IsVec.newAt (((w.alloc (.cells #[.func (.func 107) #[] #[]] 190)).alloc (.cells a.arr 45)).alloc (.cells b.arr 45)) 45 V4.zero (w.heap.size + 1 + 1 + 1) (by simp)
 have X := Lib.hid (And.intro vc (And.intro va (And.intro vb (And.intro vo hb4))))
 clear vc va vb vo hb4
 go_loopw [7, 9] (fun c i wr => ∃ k : Nat, k ≤ 4 ∧ i = .int .i64 k ∧ c = .int .u64 (U (bw (chainN addF a b k).2)) ∧ wr.cell? ⟨w.heap.size, 0, none⟩ = some (.func (.func 107) #[] #[]) ∧ IsVec wr (w.heap.size + 1) 45 a ∧ IsVec wr (w.heap.size + 1 + 1) 45 b ∧ IsVec wr (w.heap.size + 1 + 1 + 1) 45 (chainN addF a b k).1 ∧ Below w.heap.size w wr) (fun _ i _ => 4 - (intOf i).toNat)
 case atStart => exact ⟨0, by omega, rfl, rfl, X.out.1, X.out.2.1, X.out.2.2.1, X.out.2.2.2.1, X.out.2.2.2.2⟩
 case round =>
  obtain ⟨k, hk, rfl, rfl, hc, ha, hb, ho, hbel⟩ := hrel
  by_cases hlt : k < 4
  ·have c1 := ha.cell k hlt
   have c2 := hb.cell k hlt
   have c3 := ho.cell k hlt
   have f3 := ho.frozen k
   have k0 : (0 : Int) ≤ (k : Int) := Int.natCast_nonneg k
   have k4 : (k : Int) < 4 := by omega
   have HX := Lib.hid (And.intro ha (And.intro hb (And.intro ho hbel)))
   clear ha hb ho hbel
   go_wp2
   go_region
   go_wp2
   go_roundw
   case rel =>
    obtain ⟨ha, hb, ho, hbel⟩ := HX.out
    have e1 : wr.heap.size = wr.heap.size := rfl
    refine ⟨k + 1, by omega, by go_num, rfl, ?_, ?_, ?_, ?_, ?_⟩
    ·exact (World.cell?_of_block (w := wr) (Below.heap_setCell wr _ _ _ (by simp; omega))).trans hc
    ·exact (ha.drew).other _ _ (by simp)
    ·exact (hb.drew).other _ _ (by simp)
    ·exact (ho.drew).set k hlt _
    ·exact hbel.drew.setCell (p := ⟨w.heap.size + 1 + 1 + 1, k, none⟩) (by simp; omega) _
   case measure => simp [intOf]; omega
  ·obtain rfl : k = 4 := by omega
   have d0 := ho.cell 0 (by omega)
   have d1 := ho.cell 1 (by omega)
   have d2 := ho.cell 2 (by omega)
   have d3 := ho.cell 3 (by omega)
   have f0 := ho.frozen 0
   have f1 := ho.frozen 1
   have f2 := ho.frozen 2
   have f3 := ho.frozen 3
   go_wp2
   refine bodyPost_ret (v := .tuple #[(chainN addF a b 4).1.val, .int .u64 (U (bw (chainN addF a b 4).2))]) (by simp [results, Tryz.results126, go_sem, d0, d1, d2, d3]; rfl) rfl ⟨rfl, ?_⟩
   go_grown
set_option maxHeartbeats 1000000 in
theorem chain_sub (a b : V4) (w : World) :
  Calls Tryz.prog 126 #[.agg #[.func (.func 125) #[] #[]], a.val, b.val] w fun e w' => e = .returned (.tuple #[(chainN subF a b 4).1.val, .int .u64 (U (bw (chainN subF a b 4).2))]) ∧ Below w.heap.size w w' := by
 have hcall := call_sub
 unfold V4.val V4.arr
 go_enter Tryz.func126, Tryz.ntmps126
 go_wp2
 have hb4 : Below w.heap.size w ((((w.alloc (.cells #[.func (.func 125) #[] #[]] 190)).alloc (.cells a.arr 45)).alloc (.cells b.arr 45)).alloc (.cells V4.zero.arr 45)) := by go_grown
 have vc := (World.cell?_alloc_past (w := (((w.alloc (.cells #[.func (.func 125) #[] #[]] 190)).alloc (.cells a.arr 45)).alloc (.cells b.arr 45))) (.cells V4.zero.arr 45) w.heap.size 0 (by simp; omega)).trans ((World.cell?_alloc_past (w := ((w.alloc (.cells #[.func (.func 125) #[] #[]] 190)).alloc (.cells a.arr 45))) (.cells b.arr 45) w.heap.size 0 (by simp; omega)).trans ((World.cell?_alloc_past (w := (w.alloc (.cells #[.func (.func 125) #[] #[]] 190))) (.cells a.arr 45) w.heap.size 0 (by simp)).trans (cellNew w #[.func (.func 125) #[] #[]] 190 0)))
 have va := ((IsVec.newAt (w.alloc (.cells #[.func (.func 125) #[] #[]] 190)) 45 a (w.heap.size + 1) (by simp)).alloc (.cells b.arr 45)).alloc (.cells V4.zero.arr 45)
 have vb := (IsVec.newAt ((w.alloc (.cells #[.func (.func 125) #[] #[]] 190)).alloc (.cells a.arr 45)) 45 b (w.heap.size + 1 + 1) (by simp)).alloc (.cells V4.zero.arr 45)
 have vo := IsVec.newAt (((w.alloc (.cells #[.func (.func 125) #[] #[]] 190)).alloc (.cells a.arr 45)).alloc (.cells b.arr 45)) 45 V4.zero (w.heap.size + 1 + 1 + 1) (by simp)
 have X := Lib.hid (And.intro vc (And.intro va (And.intro vb (And.intro vo hb4))))
 clear vc va vb vo hb4
 go_loopw [7, 9] (fun c i wr => ∃ k : Nat, k ≤ 4 ∧ i = .int .i64 k ∧ c = .int .u64 (U (bw (chainN subF a b k).2)) ∧ wr.cell? ⟨w.heap.size, 0, none⟩ = some (.func (.func 125) #[] #[]) ∧ IsVec wr (w.heap.size + 1) 45 a ∧ IsVec wr (w.heap.size + 1 + 1) 45 b ∧ IsVec wr (w.heap.size + 1 + 1 + 1) 45 (chainN subF a b k).1 ∧ Below w.heap.size w wr) (fun _ i _ => 4 - (intOf i).toNat)
 case atStart => exact ⟨0, by omega, rfl, rfl, X.out.1, X.out.2.1, X.out.2.2.1, X.out.2.2.2.1, X.out.2.2.2.2⟩
 case round =>
  obtain ⟨k, hk, rfl, rfl, hc, ha, hb, ho, hbel⟩ := hrel
  by_cases hlt : k < 4
  ·have c1 := ha.cell k hlt
   have c2 := hb.cell k hlt
   have c3 := ho.cell k hlt
   have f3 := ho.frozen k
   have k0 : (0 : Int) ≤ (k : Int) := Int.natCast_nonneg k
   have k4 : (k : Int) < 4 := by omega
   have HX := Lib.hid (And.intro ha (And.intro hb (And.intro ho hbel)))
   clear ha hb ho hbel
   go_wp2
   go_region
   go_wp2
   go_roundw
   case rel =>
    obtain ⟨ha, hb, ho, hbel⟩ := HX.out
    have e1 : wr.heap.size = wr.heap.size := rfl
    refine ⟨k + 1, by omega, by go_num, rfl, ?_, ?_, ?_, ?_, ?_⟩
    ·exact (World.cell?_of_block (w := wr) (Below.heap_setCell wr _ _ _ (by simp; omega))).trans hc
    ·exact (ha.drew).other _ _ (by simp)
    ·exact (hb.drew).other _ _ (by simp)
    ·exact (ho.drew).set k hlt _
    ·exact hbel.drew.setCell (p := ⟨w.heap.size + 1 + 1 + 1, k, none⟩) (by simp; omega) _
   case measure => simp [intOf]; omega
  ·obtain rfl : k = 4 := by omega
   have d0 := ho.cell 0 (by omega)
   have d1 := ho.cell 1 (by omega)
   have d2 := ho.cell 2 (by omega)
   have d3 := ho.cell 3 (by omega)
   have f0 := ho.frozen 0
   have f1 := ho.frozen 1
   have f2 := ho.frozen 2
   have f3 := ho.frozen 3
   go_wp2
   refine bodyPost_ret (v := .tuple #[(chainN subF a b 4).1.val, .int .u64 (U (bw (chainN subF a b 4).2))]) (by simp [results, Tryz.results126, go_sem, d0, d1, d2, d3]; rfl) rfl ⟨rfl, ?_⟩
   go_grown
end Go.Proofs.YtccgfladbibjbaaGreatDoor
namespace Go.Proofs.YtccgfladbibjbaaGreatDoor
open Go.RowKit
attribute [local go_sem ↓] add_UU sub_UU mul_UU add_UL add_LU sub_UL sub_LU mul_UL neg_at not_at and_UU or_UU xor_UU andNot_UU and_UL or_LU shr_UL shl_UL shr_UN shl_UN quo_UL rem_UL quo_UU rem_UU
attribute [local go_sem] wrap8_U wrap32_U wrap64_B wrap32_B wrap8_D wrapi_B wrap64_UU eq_UU ne_UU eq_UL ne_UL lt_UU le_UU
set_option maxHeartbeats 1000000 in
theorem limbAdd (a b : V4) (w : World) :
  Calls Tryz.prog 116 #[a.val, b.val] w fun e w' => e = .returned (.tuple #[(chainN addF a b 4).1.val, .int .u64 (U (bw (chainN addF a b 4).2))]) ∧ Below w.heap.size w w' := by
 have HC := Lib.hid (chain_add a b)
 unfold V4.val V4.arr
 go_enter Tryz.func116, Tryz.ntmps116
 go_wp2_with fail
 refine (HC.out _).mono ?_
 rintro e w1 ⟨rfl, hb1⟩
 have ho : IsVec w1 (w.heap.size + 1 + 1) 45 V4.zero := (IsVec.newAt ((w.alloc (.cells a.arr 45)).alloc (.cells b.arr 45)) 45 V4.zero (w.heap.size + 1 + 1) (by simp)).below hb1 (by simp)
 have d0 := ho.cell 0 (by omega)
 have d1 := ho.cell 1 (by omega)
 have d2 := ho.cell 2 (by omega)
 have d3 := ho.cell 3 (by omega)
 have f0 := ho.frozen 0
 have f1 := ho.frozen 1
 have f2 := ho.frozen 2
 have f3 := ho.frozen 3
 have hB : Below w.heap.size w w1 := ((((Below.refl _ w).alloc (Nat.le_refl _) _).alloc (by simp) _).alloc (by simp; omega) _).trans (hb1.mono (by simp; omega))
 have HB := Lib.hid hB
 clear hb1 hB ho
 unfold V4.val V4.arr
 go_wp2
 refine bodyPost_ret (v := .tuple #[(chainN addF a b 4).1.val, .int .u64 (U (bw (chainN addF a b 4).2))]) (by simp [results, Tryz.results116, go_sem, d0, d1, d2, d3]; rfl) rfl ⟨rfl, ?_⟩
 have hB := HB.out
 go_grown
set_option maxHeartbeats 1000000 in
theorem limbSub (a b : V4) (w : World) :
  Calls Tryz.prog 100 #[a.val, b.val] w fun e w' => e = .returned (.tuple #[(chainN subF a b 4).1.val, .int .u64 (U (bw (chainN subF a b 4).2))]) ∧ Below w.heap.size w w' := by
 have HC := Lib.hid (chain_sub a b)
 unfold V4.val V4.arr
 go_enter Tryz.func100, Tryz.ntmps100
 go_wp2_with fail
 refine (HC.out _).mono ?_
 rintro e w1 ⟨rfl, hb1⟩
 have ho : IsVec w1 (w.heap.size + 1 + 1) 45 V4.zero := (IsVec.newAt ((w.alloc (.cells a.arr 45)).alloc (.cells b.arr 45)) 45 V4.zero (w.heap.size + 1 + 1) (by simp)).below hb1 (by simp)
 have d0 := ho.cell 0 (by omega)
 have d1 := ho.cell 1 (by omega)
 have d2 := ho.cell 2 (by omega)
 have d3 := ho.cell 3 (by omega)
 have f0 := ho.frozen 0
 have f1 := ho.frozen 1
 have f2 := ho.frozen 2
 have f3 := ho.frozen 3
 have hB : Below w.heap.size w w1 := ((((Below.refl _ w).alloc (Nat.le_refl _) _).alloc (by simp) _).alloc (by simp; omega) _).trans (hb1.mono (by simp; omega))
 have HB := Lib.hid hB
 clear hb1 hB ho
 unfold V4.val V4.arr
 go_wp2
 refine bodyPost_ret (v := .tuple #[(chainN subF a b 4).1.val, .int .u64 (U (bw (chainN subF a b 4).2))]) (by simp [results, Tryz.results100, go_sem, d0, d1, d2, d3]; rfl) rfl ⟨rfl, ?_⟩
 have hB := HB.out
 go_grown
end Go.Proofs.YtccgfladbibjbaaGreatDoor
namespace Go.Proofs.YtccgfladbibjbaaGreatDoor
open Go.RowKit
attribute [local go_sem ↓] add_UU sub_UU mul_UU add_UL add_LU sub_UL sub_LU mul_UL neg_at not_at and_UU or_UU xor_UU andNot_UU and_UL or_LU shr_UL shl_UL shr_UN shl_UN quo_UL rem_UL quo_UU rem_UU
attribute [local go_sem] wrap8_U wrap32_U wrap64_B wrap32_B wrap8_D wrapi_B wrap64_UU eq_UU ne_UU eq_UL ne_UL lt_UU le_UU
def mulHi (x y : BitVec 64) : BitVec 64 := BitVec.ofNat 64 (x.toNat * y.toNat / 18446744073709551616)
theorem and32 (z : BitVec 64) : (z &&& 4294967295#64).toNat = z.toNat % 4294967296 := by
 rw [BitVec.toNat_and]
 exact Nat.and_two_pow_sub_one_eq_mod z.toNat 32
theorem mulHi_eq (x y : BitVec 64) :
  (x >>> 32 * y >>> 32 + (x >>> 32 * (y &&& 4294967295#64) + ((x &&& 4294967295#64) * (y &&& 4294967295#64)) >>> 32) >>> 32 +
    (((x >>> 32 * (y &&& 4294967295#64) + ((x &&& 4294967295#64) * (y &&& 4294967295#64)) >>> 32) &&& 4294967295#64) + (x &&& 4294967295#64) * y >>> 32) >>> 32) = mulHi x y := by
 apply BitVec.eq_of_toNat_eq
 have h := mul64_arith (x.toNat : Int) (y.toNat : Int) (by omega) (by have := x.isLt; omega) (by omega) (by have := y.isLt; omega)
 unfold mulHi
 have hb : x.toNat * y.toNat / 18446744073709551616 < 2 ^ 64 := by
  have : x.toNat * y.toNat < 18446744073709551616 * 18446744073709551616 := Nat.mul_lt_mul_of_lt_of_lt x.isLt y.isLt
  exact Nat.div_lt_of_lt_mul this
 rw [BitVec.toNat_ofNat, Nat.mod_eq_of_lt hb]
 simp only [BitVec.toNat_add, BitVec.toNat_mul, BitVec.toNat_ushiftRight, and32, Nat.shiftRight_eq_div_pow]
 have e : (2 : Nat) ^ 32 = 4294967296 := by decide
 have e' : (2 : Nat) ^ 64 = 18446744073709551616 := by decide
 rw [e, e']
 have x1 : (x.toNat : Int) / 4294967296 = ((x.toNat / 4294967296 : Nat) : Int) := by omega
 have x0 : (x.toNat : Int) % 4294967296 = ((x.toNat % 4294967296 : Nat) : Int) := by omega
 have y1 : (y.toNat : Int) / 4294967296 = ((y.toNat / 4294967296 : Nat) : Int) := by omega
 have y0 : (y.toNat : Int) % 4294967296 = ((y.toNat % 4294967296 : Nat) : Int) := by omega
 rw [x1, x0, y1, y0] at h
 simp only [← Int.natCast_mul] at h
 generalize x.toNat / 4294967296 * (y.toNat / 4294967296) = A at h ⊢
 generalize x.toNat / 4294967296 * (y.toNat % 4294967296) = B' at h ⊢
 generalize x.toNat % 4294967296 * (y.toNat % 4294967296) = C' at h ⊢
 generalize x.toNat % 4294967296 * (y.toNat / 4294967296) = D' at h ⊢
 generalize x.toNat * y.toNat = E' at h ⊢
 clear x1 x0 y1 y0 hb e e'
 omega
theorem mul64 (x y : BitVec 64) (w : World) :
  Calls Tryz.prog 129 #[.int .u64 (U x), .int .u64 (U y)] w fun e w' => e = .returned (.tuple #[.int .u64 (U (mulHi x y)), .int .u64 (U (x * y))]) ∧ w = w' := by
 have HE := Lib.hid (mulHi_eq x y)
 go_enter Tryz.func129, Tryz.ntmps129
 go_wp2
 go_ret2
 refine ⟨?_, rfl⟩
 rw [← HE.out]
 rfl
theorem call_add0 (x y : BitVec 64) (w : World) : (callFunc 107 #[.int .u64 (U x), .int .u64 (U y), .int .u64 0]).run Tryz.prog w = .ok (.value (.tuple #[.int .u64 (U (addF x y false).1), .int .u64 (U (bw (addF x y false).2))])) w :=
 call_add x y false w
end Go.Proofs.YtccgfladbibjbaaGreatDoor
