/- Walks of package mask: what each function returns, as a bit vector. -/
import Derived.Test.YtacghnepggkgpaaProg
import Derived.Test.YtacghnepggkgpaaBv
import Derived.Test.YtacghnepggkgpaaWord
import Derived.WalkSpells
import Derived.Lib.Hide
namespace Go.Proofs.Ytacghnepggkgpaa
open Go.RowKit
attribute [local go_sem ↓] add_UU sub_UU mul_UU add_UL add_LU sub_UL sub_LU mul_UL neg_at not_at and_UU or_UU xor_UU andNot_UU and_UL or_LU shr_UL shl_UL shr_UN shl_UN quo_UL rem_UL quo_UU rem_UU
attribute [local go_sem] wrap8_U wrap32_U wrap64_B wrap32_B wrap8_D wrapi_B wrap64_UU eq_UU ne_UU eq_UL ne_UL lt_UU le_UU

/-- FromBit. -/
def fromBitW (x : BitVec 64) : BitVec 64 := -(x &&& 1#64)

theorem fromBit (x : BitVec 64) (w : World) :
    Calls Try.prog 16 #[.int .u64 (U x)] w fun e w' => e = .returned (.int .u64 (U (fromBitW x))) ∧ w = w' := by
  go_enter Try.func16, Try.ntmps16
  go_wp2
  go_ret
  exact ⟨rfl, rfl⟩

def lessW (a b : BitVec 64) : BitVec 64 := fromBitW (((~~~a &&& b) ||| (~~~(a ^^^ b) &&& (a - b))) >>> 63)

theorem less (a b : BitVec 64) (w : World) :
    Calls Try.prog 19 #[.int .u64 (U a), .int .u64 (U b)] w fun e w' => e = .returned (.int .u64 (U (lessW a b))) ∧ w = w' := by
  go_enter Try.func19, Try.ntmps19
  go_wp2_with (go_at_call 16; refine (fromBit _ _).mono ?_; rintro e w' ⟨rfl, rfl⟩)
  go_ret
  exact ⟨rfl, rfl⟩


/-- The slice value s holds the words xs. -/
def Us (w : World) (s : Value) (xs : List (BitVec 64)) : Prop :=
  (∃ a cap, s = .slice a 0 cap ∧ xs = []) ∨ ∃ b off cap, s = .slice (some ⟨b, off, none⟩) xs.length cap ∧ ∀ i, i < xs.length → w.cell? ⟨b, off + i, none⟩ = some (.int .u64 (U (xs[i]?.getD 0)))

def orAll (l : List (BitVec 64)) : BitVec 64 := l.foldl (fun a b => a ||| b) 0#64
theorem orAll_succ (xs : List (BitVec 64)) (k : Nat) (h : k < xs.length) : orAll (xs.take (k + 1)) = orAll (xs.take k) ||| xs[k] := by
  unfold orAll
  rw [List.take_succ_eq_append_getElem h, List.foldl_append]
  rfl

def zeroW (u : BitVec 64) : BitVec 64 := fromBitW ((~~~(u ||| -u)) >>> 63)

theorem isZero_some (b off cap : Nat) (xs : List (BitVec 64)) (w : World) (hl : xs.length ≤ maxLen) (hc : ∀ i, i < xs.length → w.cell? ⟨b, off + i, none⟩ = some (.int .u64 (U (xs[i]?.getD 0#64)))) :
    Calls Try.prog 22 #[.slice (some ⟨b, off, none⟩) xs.length cap] w fun e w' => e = .returned (.int .u64 (U (zeroW (orAll xs)))) ∧ w = w' := by
  unfold maxLen at hl
  go_enter Try.func22, Try.ntmps22
  go_wp2
  go_loop [3, 8] (fun u i => ∃ k : Nat, k ≤ xs.length ∧ i = .int .i64 k ∧ u = .int .u64 (U (orAll (xs.take k)))) (fun _ i => xs.length - (intOf i).toNat)
  case atStart => exact ⟨0, Nat.zero_le _, rfl, rfl⟩
  case round =>
    obtain ⟨k, hk, rfl, rfl⟩ := hrel
    by_cases hlt : k < xs.length
    · have hcell := hc k hlt
      have HS := Lib.hid (orAll_succ xs k hlt)
      clear hc
      go_wp2
      go_round
      case rel => exact ⟨k + 1, by omega, by go_num, by rw [HS.out]⟩
      case measure => simp [intOf]; omega
    · have HT := Lib.hid (show xs.take k = xs from List.take_of_length_le (by omega))
      clear hc
      go_wp2_with (go_at_call 16; refine (fromBit _ _).mono ?_; rintro e w' ⟨rfl, rfl⟩)
      go_ret
      exact ⟨by rw [HT.out]; rfl, rfl⟩


theorem isZero_nil (a : Option Addr) (cap : Nat) (w : World) : Calls Try.prog 22 #[.slice a 0 cap] w fun e w' => e = .returned (.int .u64 (U (zeroW 0#64))) ∧ w = w' := by
  go_enter Try.func22, Try.ntmps22
  go_wp2
  go_loop [3, 8] (fun u i => i = .int .i64 0 ∧ u = .int .u64 (U 0#64)) (fun _ _ => 0)
  case atStart => exact ⟨rfl, rfl⟩
  case round =>
    obtain ⟨rfl, rfl⟩ := hrel
    go_wp2_with (go_at_call 16; refine (fromBit _ _).mono ?_; rintro e w' ⟨rfl, rfl⟩)
    go_ret
    exact ⟨rfl, rfl⟩

theorem isZero (s : Value) (xs : List (BitVec 64)) (w : World) (hl : xs.length ≤ maxLen) (h : Us w s xs) :
    Calls Try.prog 22 #[s] w fun e w' => e = .returned (.int .u64 (U (zeroW (orAll xs)))) ∧ w = w' := by
  rcases h with ⟨a, cap, rfl, rfl⟩ | ⟨b, off, cap, rfl, hc⟩
  · exact isZero_nil a cap w
  · exact isZero_some b off cap xs w hl hc

theorem cellNew (w : World) (cs : Array Value) (t : TypeId) (i : Nat) : (w.alloc (.cells cs t)).cell? ⟨w.heap.size, i, none⟩ = cs[i]? := by
  unfold World.cell?
  have h : (w.alloc (.cells cs t)).heap[w.heap.size]? = some (.cells cs t) := heap_alloc_new w _
  simp only []
  rw [h]
  rfl

def equalW (a b : BitVec 64) : BitVec 64 := zeroW (a ^^^ b)

theorem isZero_one (x : BitVec 64) (b : Nat) (w : World) (hc : w.cell? ⟨b, 0, none⟩ = some (.int .u64 (U x))) (cap : Nat) :
    Calls Try.prog 22 #[.slice (some ⟨b, 0, none⟩) 1 cap] w fun e w' => e = .returned (.int .u64 (U (zeroW x))) ∧ w = w' := by
  refine (isZero_some b 0 cap [x] w (Nat.le_trans (m := 1) (Nat.le_refl _) (by decide)) (fun i hi => ?_)).mono (fun e w' h => ?_)
  · obtain rfl : i = 0 := by simpa using hi
    simpa using hc
  · simpa [orAll] using h

theorem equal (a b : BitVec 64) (w : World) :
    Calls Try.prog 18 #[.int .u64 (U a), .int .u64 (U b)] w fun e w' => e = .returned (.int .u64 (U (equalW a b))) ∧ Below w.heap.size w w' := by
  go_enter Try.func18, Try.ntmps18
  have hc : (w.alloc (.cells #[.int .u64 (U (a ^^^ b))] 22)).cell? ⟨w.heap.size, 0, none⟩ = some (.int .u64 (U (a ^^^ b))) := cellNew w _ _ 0
  go_wp2_with (go_at_call 22; refine (isZero_one (a ^^^ b) _ _ (by assumption) _).mono ?_; rintro e w' ⟨rfl, rfl⟩)
  go_ret
  exact ⟨rfl, (Below.refl _ _).alloc (Nat.le_refl _) _⟩

def chooseW (m a b : BitVec 64) : BitVec 64 := b ^^^ (m &&& (a ^^^ b))

theorem choose (m a b : BitVec 64) (w : World) :
    Calls Try.prog 20 #[.int .u64 (U m), .int .u64 (U a), .int .u64 (U b)] w fun e w' => e = .returned (.int .u64 (U (chooseW m a b))) ∧ w = w' := by
  go_enter Try.func20, Try.ntmps20
  go_wp2
  go_ret
  exact ⟨rfl, rfl⟩

theorem refMask (c : Bool) (w : World) :
    Calls Try.prog 17 #[.bool c] w fun e w' => e = .returned (.int .u64 (U (if c then 18446744073709551615#64 else 0#64))) ∧ w = w' := by
  cases c
  all_goals
    go_enter Try.func17, Try.ntmps17
    go_wp2
    go_ret
    exact ⟨rfl, rfl⟩


/-- One step of the reference's Choose. -/
theorem choose_step (X m a b k out un : Nat) (hX : X = b ^^^ (m &&& (a ^^^ b))) (hu : un = 2 ^ k) (ho : out = X % 2 ^ k) :
    (if (if m / un % 2 = 1 then a else b) / un % 2 = 1 then out + un else out) = X % 2 ^ (k + 1) := by
  subst hu ho
  rw [Nat.mod_pow_succ]
  have hb := choose_bit m a b k
  rw [← hX] at hb
  simp only [Nat.testBit_eq_decide_div_mod_eq] at hb
  have h2 := Nat.mod_lt (X / 2 ^ k) (show 0 < 2 by decide)
  by_cases hm : m / 2 ^ k % 2 = 1
  · simp only [hm, if_true, decide_true] at hb ⊢
    by_cases hx : a / 2 ^ k % 2 = 1
    · simp [hx] at hb; simp [hx, hb]
    · simp [hx] at hb; simp [hx, hb]
  · simp only [hm, if_false, decide_false, Bool.false_eq_true] at hb ⊢
    by_cases hx : b / 2 ^ k % 2 = 1
    · simp [hx] at hb; simp [hx, hb]
    · simp [hx] at hb; simp [hx, hb]

theorem bit_test (y un : BitVec 64) : (y / un % 2#64 == 1#64) = decide (y.toNat / un.toNat % 2 = 1) := by
  rw [Bool.eq_iff_iff, beq_iff_eq, decide_eq_true_iff, ← BitVec.toNat_inj, BitVec.toNat_umod, BitVec.toNat_udiv]
  rfl

set_option maxHeartbeats 1000000 in
theorem refChoose (m a b : BitVec 64) (w : World) :
    Calls Try.prog 21 #[.int .u64 (U m), .int .u64 (U a), .int .u64 (U b)] w fun e w' => e = .returned (.int .u64 (U (chooseW m a b))) ∧ w = w' := by
  have hX : (chooseW m a b).toNat = b.toNat ^^^ (m.toNat &&& (a.toNat ^^^ b.toNat)) := by simp [chooseW]
  have HX := Lib.hid hX
  clear hX
  go_enter Try.func21, Try.ntmps21
  go_wp2
  go_loop [7, 8, 9] (fun o u i => ∃ (k : Nat) (out un : BitVec 64), k ≤ 64 ∧ i = .int .i64 k ∧ o = .int .u64 (U out) ∧ u = .int .u64 (U un) ∧ un.toNat = 2 ^ k % 18446744073709551616 ∧ out.toNat = (chooseW m a b).toNat % 2 ^ k) (fun _ _ i => 64 - (intOf i).toNat)
  case atStart => exact ⟨0, 0#64, 1#64, by omega, rfl, rfl, rfl, rfl, (Nat.mod_one _).symm⟩
  case round =>
    obtain ⟨k, out, un, hk, rfl, rfl, rfl, hun, hout⟩ := hrel
    by_cases hlt : k < 64
    · have hp : 2 ^ k < 18446744073709551616 := Nat.lt_of_lt_of_le (Nat.pow_lt_pow_right (by decide) hlt) (by decide)
      rw [Nat.mod_eq_of_lt hp] at hun
      have hne : un.toNat ≠ 0 := by rw [hun]; exact Nat.ne_of_gt (Nat.two_pow_pos k)
      have HS := Lib.hid (choose_step _ m.toNat a.toNat b.toNat k out.toNat un.toNat HX.out hun hout)
      have HU := Lib.hid hun
      have HO := Lib.hid hout
      clear hun hout hp
      have key : ∀ (x : BitVec 64), x = (if m.toNat / un.toNat % 2 = 1 then a else b) → ((x / un % 2#64 == 1#64) = true → (out + un).toNat = (chooseW m a b).toNat % 2 ^ (k + 1)) ∧ ((x / un % 2#64 == 1#64) = false → out.toNat = (chooseW m a b).toNat % 2 ^ (k + 1)) := by
        intro x hx
        have hs := HS.out
        have hx' : x.toNat = if m.toNat / un.toNat % 2 = 1 then a.toNat else b.toNat := by rw [hx]; split <;> rfl
        rw [← hx'] at hs
        rw [bit_test]
        constructor
        · intro h
          rw [if_pos (of_decide_eq_true h)] at hs
          rw [BitVec.toNat_add, hs]
          have : (chooseW m a b).toNat % 2 ^ (k + 1) < 2 ^ 64 := Nat.lt_of_le_of_lt (Nat.mod_le _ _) (chooseW m a b).isLt
          rw [Nat.mod_eq_of_lt this]
        · intro h
          rw [if_neg (of_decide_eq_false h)] at hs
          exact hs
      have hun' : (un * 2#64).toNat = 2 ^ (k + 1) % 18446744073709551616 := by
        rw [BitVec.toNat_mul, HU.out, Nat.pow_succ]; rfl
      have HN := Lib.hid hun'
      have HK := Lib.hid key
      clear hun' key
      cases hm : (m / un % 2#64 == 1#64)
      · have hmn : ¬ m.toNat / un.toNat % 2 = 1 := by rw [bit_test] at hm; exact of_decide_eq_false hm
        have HKb := Lib.hid (HK.out b (by rw [if_neg hmn]))
        clear hmn
        cases hx : (b / un % 2#64 == 1#64)
        all_goals
          go_wp2
          go_round
          case rel => exact ⟨k + 1, _, _, by omega, by go_num, rfl, rfl, HN.out, by first | exact HKb.out.2 hx | exact HKb.out.1 hx⟩
          case measure => simp [intOf]; omega
      · have hmn : m.toNat / un.toNat % 2 = 1 := by rw [bit_test] at hm; exact of_decide_eq_true hm
        have HKa := Lib.hid (HK.out a (by rw [if_pos hmn]))
        clear hmn
        cases hx : (a / un % 2#64 == 1#64)
        all_goals
          go_wp2
          go_round
          case rel => exact ⟨k + 1, _, _, by omega, by go_num, rfl, rfl, HN.out, by first | exact HKa.out.2 hx | exact HKa.out.1 hx⟩
          case measure => simp [intOf]; omega
    · obtain rfl : k = 64 := by omega
      have HO := Lib.hid (show out = chooseW m a b from BitVec.eq_of_toNat_eq (by rw [hout]; exact Nat.mod_eq_of_lt (chooseW m a b).isLt))
      clear hout hun
      go_wp2
      go_ret
      exact ⟨by rw [HO.out]; rfl, rfl⟩


theorem orAll_cons (x : BitVec 64) (xs : List (BitVec 64)) : orAll (x :: xs) = x ||| orAll xs := by
  unfold orAll
  have h : ∀ (l : List (BitVec 64)) (a b : BitVec 64), l.foldl (fun a b => a ||| b) (a ||| b) = a ||| l.foldl (fun a b => a ||| b) b := by
    intro l
    induction l with
    | nil => intro a b; rfl
    | cons y l ih => intro a b; simp only [List.foldl_cons]; rw [BitVec.or_assoc, ih]
  simp only [List.foldl_cons]
  rw [show (0#64 ||| x) = x ||| 0#64 from BitVec.or_comm _ _, h]

theorem or_zero64 (a b : BitVec 64) : a ||| b = 0#64 ↔ a = 0#64 ∧ b = 0#64 := by
  constructor
  · intro h
    constructor
    · apply BitVec.eq_of_getLsbD_eq
      intro i hi
      have := congrArg (fun z : BitVec 64 => z.getLsbD i) h
      simp at this
      simp [this.1]
    · apply BitVec.eq_of_getLsbD_eq
      intro i hi
      have := congrArg (fun z : BitVec 64 => z.getLsbD i) h
      simp at this
      simp [this.2]
  · rintro ⟨rfl, rfl⟩; rfl

theorem orAll_zero (xs : List (BitVec 64)) : orAll xs = 0#64 ↔ ∀ i, (h : i < xs.length) → xs[i] = 0#64 := by
  induction xs with
  | nil => simp [orAll]
  | cons x xs ih =>
    rw [orAll_cons, or_zero64, ih]
    constructor
    · rintro ⟨h1, h2⟩ i hi
      cases i with
      | zero => exact h1
      | succ i => exact h2 i (by simpa using hi)
    · intro h
      exact ⟨h 0 (by simp), fun i hi => h (i + 1) (by simpa using hi)⟩

def allZero (xs : List (BitVec 64)) : Bool := decide (orAll xs = 0#64)

theorem refIsZero_some (b off cap : Nat) (xs : List (BitVec 64)) (w : World) (hl : xs.length ≤ maxLen) (hc : ∀ i, i < xs.length → w.cell? ⟨b, off + i, none⟩ = some (.int .u64 (U (xs[i]?.getD 0#64)))) :
    Calls Try.prog 24 #[.slice (some ⟨b, off, none⟩) xs.length cap] w fun e w' => e = .returned (.bool (allZero xs)) ∧ w = w' := by
  unfold maxLen at hl
  go_enter Try.func24, Try.ntmps24
  go_wp2
  go_loop [3] (fun i => ∃ k : Nat, k ≤ xs.length ∧ i = .int .i64 k ∧ ∀ j, (h : j < xs.length) → j < k → xs[j] = 0#64) (fun i => xs.length - (intOf i).toNat)
  case atStart => exact ⟨0, Nat.zero_le _, rfl, fun j _ h => by omega⟩
  case round =>
    obtain ⟨k, hk, rfl, hz⟩ := hrel
    have HZ := Lib.hid hz
    clear hz
    by_cases hlt : k < xs.length
    · have hcell := hc k hlt
      rw [List.getElem?_eq_getElem hlt, Option.getD_some] at hcell
      clear hc
      cases h0 : (xs[k] != 0#64)
      · have HE := Lib.hid (show xs[k] = 0#64 by simpa using h0)
        go_wp2
        go_round
        case rel => exact ⟨k + 1, by omega, by go_num, fun j hj hjk => (Nat.lt_or_ge j k).elim (fun h => HZ.out j hj h) (fun h => by obtain rfl : j = k := (by omega); exact HE.out)⟩
        case measure => simp [intOf]; omega
      · have HA := Lib.hid (show allZero xs = false from decide_eq_false fun h => by have := (orAll_zero xs).1 h k hlt; simp [this] at h0)
        go_wp2
        go_ret
        exact ⟨by rw [HA.out]; rfl, rfl⟩
    · have HA := Lib.hid (show allZero xs = true from decide_eq_true ((orAll_zero xs).2 fun i hi => HZ.out i hi (by omega)))
      clear hc
      go_wp2
      go_ret
      exact ⟨by rw [HA.out]; rfl, rfl⟩

theorem refIsZero_nil (a : Option Addr) (cap : Nat) (w : World) : Calls Try.prog 24 #[.slice a 0 cap] w fun e w' => e = .returned (.bool true) ∧ w = w' := by
  go_enter Try.func24, Try.ntmps24
  go_wp2
  refine wp_loop_rounds 1 ?_
  rw [rounds_succ]
  go_wp2
  go_ret
  exact ⟨rfl, rfl⟩

theorem refIsZero (s : Value) (xs : List (BitVec 64)) (w : World) (hl : xs.length ≤ maxLen) (h : Us w s xs) :
    Calls Try.prog 24 #[s] w fun e w' => e = .returned (.bool (allZero xs)) ∧ w = w' := by
  rcases h with ⟨a, cap, rfl, rfl⟩ | ⟨b, off, cap, rfl, hc⟩
  · exact refIsZero_nil a cap w
  · exact refIsZero_some b off cap xs w hl hc

end Go.Proofs.Ytacghnepggkgpaa
