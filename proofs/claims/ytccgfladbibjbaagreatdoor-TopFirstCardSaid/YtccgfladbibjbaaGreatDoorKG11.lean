/- Words of 32 bits as bit vectors. No program in sight. -/
import Derived.Test.YtccgfladbibjbaaGreatDoorKG01
import Derived.Test.YtccgfladbibjbaaGreatDoorKG09
import Derived.Deep.MidRow
import Derived.Laws.NewBlocks
import Derived.Laws.ResultCell
namespace Go.Proofs.YtccgfladbibjbaaGreatDoor
open Go
section
variable (x y : BitVec 32) (n : Nat)
theorem add_DD : Op.intArith .add .u32 (D x) (D y) = pure (.int .u32 (D (x + y))) := by
 simp only [Op.intArith, wrap32_D, BitVec.ofInt_add, ofInt_D]
theorem mul_DD : Op.intArith .mul .u32 (D x) (D y) = pure (.int .u32 (D (x * y))) := by
 simp only [Op.intArith, wrap32_D, BitVec.ofInt_mul, ofInt_D]
theorem ofInt_lit32 : BitVec.ofInt 32 (no_index (OfNat.ofNat n) : Int) = BitVec.ofNat 32 n := BitVec.ofInt_natCast 32 n
theorem mul_DL : Op.intArith .mul .u32 (D x) (no_index (OfNat.ofNat n)) = pure (.int .u32 (D (x * BitVec.ofNat 32 n))) := by
 simp only [Op.intArith, wrap32_D, BitVec.ofInt_mul, ofInt_D, ofInt_lit32]
theorem bits_back32 (z : BitVec 32) : IntKind.u32.wrap (z.toNat : Int) = D z := by
 rw [wrap32_D, BitVec.ofInt_natCast, BitVec.ofNat_toNat, BitVec.setWidth_eq]
theorem and_DD : Op.intBits .and .u32 (D x) (D y) = pure (.int .u32 (D (x &&& y))) := by
 show pure (Value.int .u32 (IntKind.u32.wrap ((BitVec.ofInt 32 (D x) &&& BitVec.ofInt 32 (D y)).toNat : Int))) = _
 rw [bits_back32, ofInt_D, ofInt_D]
theorem or_DD : Op.intBits .or .u32 (D x) (D y) = pure (.int .u32 (D (x ||| y))) := by
 show pure (Value.int .u32 (IntKind.u32.wrap ((BitVec.ofInt 32 (D x) ||| BitVec.ofInt 32 (D y)).toNat : Int))) = _
 rw [bits_back32, ofInt_D, ofInt_D]
theorem xor_DD : Op.intBits .xor .u32 (D x) (D y) = pure (.int .u32 (D (x ^^^ y))) := by
 show pure (Value.int .u32 (IntKind.u32.wrap ((BitVec.ofInt 32 (D x) ^^^ BitVec.ofInt 32 (D y)).toNat : Int))) = _
 rw [bits_back32, ofInt_D, ofInt_D]
theorem not_D : Op.unary .xor (.int .u32 (D x)) = pure (.int .u32 (D (~~~x))) := by
 simp only [Op.unary, Op.intBits, signed_u32, Bool.false_eq_true, if_false]
 show pure (Value.int .u32 (IntKind.u32.wrap ((BitVec.ofInt 32 IntKind.u32.max ^^^ BitVec.ofInt 32 (D x)).toNat : Int))) = _
 rw [wrap32_D, ofInt_D, BitVec.ofInt_natCast, BitVec.ofNat_toNat, BitVec.setWidth_eq]
 have : BitVec.ofInt 32 IntKind.u32.max = BitVec.allOnes 32 := by decide
 rw [this, BitVec.allOnes_xor]
theorem notD_at : Op.intBits .xor .u32 (if IntKind.u32.signed = true then -1 else IntKind.u32.max) (D x) = pure (.int .u32 (D (~~~x))) := not_D x
theorem shrD_val (k : Nat) : (D x).fdiv (2 ^ min k 32) = D (x >>> k) := by
 have hp : (0 : Int) ≤ 2 ^ min k 32 := Int.pow_nonneg (by decide)
 rw [Int.fdiv_eq_ediv_of_nonneg _ hp]
 unfold D
 rw [BitVec.toNat_ushiftRight, Nat.shiftRight_eq_div_pow]
 have e : (2 : Int) ^ min k 32 = ((2 ^ min k 32 : Nat) : Int) := by rw [Int.natCast_pow]; rfl
 rw [e, ← Int.natCast_ediv]
 congr 1
 rcases Nat.le_total k 32 with h | h
 ·rw [Nat.min_eq_left h]
 ·rw [Nat.min_eq_right h, Nat.div_eq_of_lt x.isLt, Nat.div_eq_of_lt (Nat.lt_of_lt_of_le x.isLt (Nat.pow_le_pow_right (by decide) h))]
theorem shlD_pow (k : Nat) : IntKind.u32.wrap (D x * 2 ^ k) = D (x <<< k) := by
 rw [wrap32_D]
 congr 1
 apply BitVec.eq_of_toNat_eq
 rw [BitVec.toNat_shiftLeft, BitVec.toNat_ofInt, Nat.shiftLeft_eq]
 have h : D x * 2 ^ k = ((x.toNat * 2 ^ k : Nat) : Int) := by unfold D; simp
 rw [h]
 omega
theorem shlD_val (k : Nat) : IntKind.u32.wrap (D x * 2 ^ min k 32) = D (x <<< k) := by
 rw [shlD_pow]
 congr 1
 rcases Nat.le_total k 32 with h | h
 ·rw [Nat.min_eq_left h]
 ·rw [Nat.min_eq_right h]
  have a : x <<< 32 = 0#32 := by
   apply BitVec.eq_of_toNat_eq
   rw [BitVec.toNat_shiftLeft, Nat.shiftLeft_eq, Nat.mul_mod_left]
   rfl
  have b : x <<< k = 0#32 := by
   apply BitVec.eq_of_toNat_eq
   rw [BitVec.toNat_shiftLeft, Nat.shiftLeft_eq]
   obtain ⟨d, rfl⟩ := Nat.exists_eq_add_of_le h
   rw [Nat.pow_add, ← Nat.mul_assoc, Nat.mul_right_comm, Nat.mul_mod_left]
   rfl
  rw [a, b]
theorem shr_DL (yk : IntKind) : Op.shift .shr .u32 (D x) yk (no_index (OfNat.ofNat n)) = pure (.int .u32 (D (x >>> n))) := by
 have h0 : ¬ ((no_index (OfNat.ofNat n) : Int) < 0) := by show ¬ ((n : Nat) : Int) < 0; omega
 unfold Op.shift
 rw [if_neg h0]
 show pure (Value.int .u32 ((D x).fdiv (2 ^ min n 32))) = _
 rw [shrD_val]
theorem shl_DL (yk : IntKind) : Op.shift .shl .u32 (D x) yk (no_index (OfNat.ofNat n)) = pure (.int .u32 (D (x <<< n))) := by
 have h0 : ¬ ((no_index (OfNat.ofNat n) : Int) < 0) := by show ¬ ((n : Nat) : Int) < 0; omega
 unfold Op.shift
 rw [if_neg h0]
 show pure (Value.int .u32 (IntKind.u32.wrap (D x * 2 ^ min n 32))) = _
 rw [shlD_val]
theorem shr_DN (yk : IntKind) : Op.shift .shr .u32 (D x) yk (n : Int) = pure (.int .u32 (D (x >>> n))) := shr_DL x n yk
theorem shl_DN (yk : IntKind) : Op.shift .shl .u32 (D x) yk (n : Int) = pure (.int .u32 (D (x <<< n))) := shl_DL x n yk
theorem quo_DD (h : y.toNat ≠ 0) : Op.intDiv .quo .u32 (D x) (D y) = pure (.int .u32 (D (x / y))) := by
 have h0 : ¬ (D y = 0) := by unfold D; omega
 unfold Op.intDiv
 rw [if_neg h0]
 show pure (Value.int .u32 (IntKind.u32.wrap ((D x).tdiv (D y)))) = _
 rw [wrap32_D]
 congr 3
 apply BitVec.eq_of_toNat_eq
 unfold D
 rw [Int.tdiv_eq_ediv_of_nonneg (by omega), ← Int.natCast_ediv, BitVec.ofInt_natCast, BitVec.toNat_ofNat, BitVec.toNat_udiv]
 exact Nat.mod_eq_of_lt (Nat.lt_of_le_of_lt (Nat.div_le_self _ _) x.isLt)
theorem rem_DD (h : y.toNat ≠ 0) : Op.intDiv .rem .u32 (D x) (D y) = pure (.int .u32 (D (x % y))) := by
 have h0 : ¬ (D y = 0) := by unfold D; omega
 unfold Op.intDiv
 rw [if_neg h0]
 show pure (Value.int .u32 ((D x).tmod (D y))) = _
 unfold D
 rw [Int.tmod_eq_emod_of_nonneg (by omega), ← Int.natCast_emod, BitVec.toNat_umod]
theorem quo_DL (h : n ≠ 0) (h' : n < 4294967296) : Op.intDiv .quo .u32 (D x) (no_index (OfNat.ofNat n)) = pure (.int .u32 (D (x / BitVec.ofNat 32 n))) := by
 show Op.intDiv .quo .u32 (D x) ((n : Nat) : Int) = _
 rw [lit_D n h']
 exact quo_DD x _ (by rw [BitVec.toNat_ofNat, Nat.mod_eq_of_lt (by omega)]; exact h)
theorem rem_DL (h : n ≠ 0) (h' : n < 4294967296) : Op.intDiv .rem .u32 (D x) (no_index (OfNat.ofNat n)) = pure (.int .u32 (D (x % BitVec.ofNat 32 n))) := by
 show Op.intDiv .rem .u32 (D x) ((n : Nat) : Int) = _
 rw [lit_D n h']
 exact rem_DD x _ (by rw [BitVec.toNat_ofNat, Nat.mod_eq_of_lt (by omega)]; exact h)
end
end Go.Proofs.YtccgfladbibjbaaGreatDoor
namespace Go.Proofs.YtccgfladbibjbaaGreatDoor
open Go.RowKit
def aggAt (w : World) (n b o : Nat) : Option Value :=
 match w.heap[b]? with
 | some (.cells cs _ fz) => if fz = (0, 0) ∧ o + n ≤ cs.size then some (.agg (cs.extract o (o + n))) else none
 | _ => none
def putAgg (w : World) (b o : Nat) (cs : Array Value) : World := w.setCells b o cs.toList
theorem aggAt_some {w : World} {n b o : Nat} {v : Value} (h : aggAt w n b o = some v) : ∃ cs t, w.heap[b]? = some (.cells cs t (0, 0)) ∧ o + n ≤ cs.size ∧ v = .agg (cs.extract o (o + n)) := by
 unfold aggAt at h
 split at h
 ·rename_i cs t fz hw
  split at h
  ·rename_i hc
   obtain ⟨hz, hs⟩ := hc
   rw [hz] at hw
   exact ⟨cs, t, hw, hs, (Option.some.inj h).symm⟩
  ·cases h
 ·cases h
theorem aggAt_of {w : World} {n b o : Nat} {cs : Array Value} {t : TypeId} (h : w.heap[b]? = some (.cells cs t (0, 0))) (hs : o + n ≤ cs.size) : aggAt w n b o = some (.agg (cs.extract o (o + n))) := by
 unfold aggAt
 rw [h]
 exact if_pos ⟨rfl, hs⟩
theorem aggAt_whole {w : World} {n b : Nat} {cs : Array Value} {t : TypeId} (h : w.heap[b]? = some (.cells cs t (0, 0))) (hs : cs.size = n) : aggAt w n b 0 = some (.agg cs) := by
 rw [aggAt_of h (by omega)]
 subst hs
 simp
theorem aggAt_congr {w w' : World} {n b o : Nat} (h : w'.heap[b]? = w.heap[b]?) : aggAt w' n b o = aggAt w n b o := by unfold aggAt; rw [h]
theorem aggAt_lt {w : World} {n b o : Nat} {v : Value} (h : aggAt w n b o = some v) : b < w.heap.size := by
 obtain ⟨cs, t, hw, _, _⟩ := aggAt_some h
 exact (Array.getElem?_eq_some_iff.1 hw).1
theorem aggAt_range {w : World} {n b o : Nat} {cs : Array Value} (h : aggAt w n b o = some (.agg cs)) : w.rangeAt b o cs.toList := by
 obtain ⟨C, t, hw, hs, he⟩ := aggAt_some h
 rw [Value.agg.injEq] at he
 rw [he]
 exact World.rangeAt_of_block hw o n
theorem aggAt_there {w : World} {n b o : Nat} {v : Value} (h : aggAt w n b o = some v) : w.there b o n := by
 obtain ⟨C, t, hw, hs, he⟩ := aggAt_some h
 intro j hj
 refine ⟨?_, ?_⟩
 ·unfold World.cell?
  simp only []
  rw [hw]
  simp
  omega
 ·unfold World.frozen?
  simp only []
  rw [hw]
  simp
theorem aggAt_drew (w : World) (n b o : Nat) : aggAt w.drew n b o = aggAt w n b o := rfl
theorem aggAt_drewN (w : World) (m n b o : Nat) : aggAt (w.drewN m) n b o = aggAt w n b o := rfl
theorem aggAt_alloc_at (w : World) (c : Array Value) (t : TypeId) (n b : Nat) (hb : b = w.heap.size) (hs : c.size = n) : aggAt (w.alloc (.cells c t)) n b 0 = some (.agg c) := by
 subst hb
 exact aggAt_whole (heap_alloc_new w _) hs
def aggPart (w : World) (n b o : Nat) : Option Value := aggAt w n b o
theorem aggAt_alloc_new (w : World) (c : Array Value) (t : TypeId) (n b : Nat) (hb : b = w.heap.size) : aggAt (w.alloc (.cells c t)) n b 0 = if c.size = n then some (.agg c) else aggPart (w.alloc (.cells c t)) n b 0 := by
 split
 ·rename_i hs
  exact aggAt_alloc_at w c t n b hb hs
 ·rfl
theorem aggAt_alloc_past (w : World) (ob : Obj) (n b o : Nat) (hb : b < w.heap.size) : aggAt (w.alloc ob) n b o = aggAt w n b o := aggAt_congr (Below.heap_alloc w ob b hb)
theorem aggAt_setCell_other (w : World) (a : Addr) (u : Value) (n b o : Nat) (hb : b ≠ a.block) : aggAt (w.setCell a u) n b o = aggAt w n b o := aggAt_congr (Below.heap_setCell w a u b hb)
theorem setCells_other (b : Nat) : ∀ (vs : List Value) (o : Nat) (w : World) (k : Nat), k ≠ b → (w.setCells b o vs).heap[k]? = w.heap[k]?
 | [], _, _, _, _ => rfl
 | v :: r, o, w, k, h => by
  rw [World.setCells, setCells_other b r (o + 1) _ k h]
  exact Below.heap_setCell w ⟨b, o, none⟩ v k h
theorem setCells_drew (b : Nat) : ∀ (vs : List Value) (o : Nat) (w : World), w.drew.setCells b o vs = (w.setCells b o vs).drew
 | [], _, _ => rfl
 | v :: r, o, w => by
  rw [World.setCells, World.setCells, World.setCell_drew, setCells_drew b r (o + 1)]
theorem size_setCells (b : Nat) : ∀ (vs : List Value) (o : Nat) (w : World), (w.setCells b o vs).heap.size = w.heap.size
 | [], _, _ => rfl
 | v :: r, o, w => by
  rw [World.setCells, size_setCells b r (o + 1)]
  simp [World.setCell]
theorem setCells_below {B : Nat} {a : World} (b : Nat) (hb : B ≤ b) : ∀ (vs : List Value) (o : Nat) (w : World), Below B a w → Below B a (w.setCells b o vs)
 | [], _, _, h => h
 | v :: r, o, _, h => setCells_below b hb r (o + 1) _ (h.setCell (p := ⟨b, o, none⟩) hb v)
theorem setCells_alloc_past (b : Nat) (ob : Obj) : ∀ (vs : List Value) (o : Nat) (w : World), b < w.heap.size → (w.alloc ob).setCells b o vs = (w.setCells b o vs).alloc ob
 | [], _, _, _ => rfl
 | v :: r, o, w, h => by
  rw [World.setCells, World.setCells, World.setCell_alloc_past ob b o v h, setCells_alloc_past b ob r (o + 1) _ (by simp [World.setCell]; exact h)]
def spliced (C : Array Value) (o : Nat) (cs : List Value) : Array Value := (C.toList.take o ++ cs ++ C.toList.drop (o + cs.length)).toArray
theorem setCells_block (b : Nat) (t : TypeId) : ∀ (vs : List Value) (o : Nat) (w : World) (C : Array Value), w.heap[b]? = some (.cells C t (0, 0)) → o + vs.length ≤ C.size →
  (w.setCells b o vs).heap[b]? = some (.cells (spliced C o vs) t (0, 0))
 | [], o, _, C, h, _ => by
  rw [World.setCells, h]
  unfold spliced
  simp
 | v :: r, o, w, C, h, hs => by
  have h1 : (w.setCell ⟨b, o, none⟩ v).heap[b]? = some (.cells (C.setIfInBounds o v) t (0, 0)) := by
   obtain ⟨hlt, he⟩ := Array.getElem?_eq_some_iff.1 h
   show (w.heap.modify b _)[b]? = _
   rw [Array.getElem?_eq_getElem (by rw [Array.size_modify]; exact hlt), Array.getElem_modify_self, he]
   rfl
  have hlen : (v :: r).length = r.length + 1 := rfl
  rw [World.setCells, setCells_block b t r (o + 1) _ _ h1 (by rw [Array.size_setIfInBounds]; omega)]
  congr 2
  unfold spliced
  congr 1
  have ho : o < C.toList.length := by simp; omega
  rw [Array.toList_setIfInBounds, List.drop_set_of_lt (by omega), show o + 1 + r.length = o + (v :: r).length from by rw [hlen]; omega]
  congr 1
  rw [List.take_add_one, List.take_set_of_le (Nat.le_refl _), List.getElem?_set_self ho]
  simp
theorem spliced_size (C : Array Value) (o : Nat) (cs : List Value) (h : o + cs.length ≤ C.size) : (spliced C o cs).size = C.size := by
 unfold spliced
 simp
 omega
theorem spliced_extract (C : Array Value) (o : Nat) (cs : Array Value) (h : o + cs.size ≤ C.size) : (spliced C o cs.toList).extract o (o + cs.size) = cs := by
 apply Array.ext'
 unfold spliced
 rw [Array.toList_extract]
 simp only [List.extract_eq_take_drop, Nat.add_sub_cancel_left]
 rw [List.append_assoc, List.drop_append_of_le_length (by simp; omega), List.drop_take_self, List.nil_append, List.take_append_of_le_length (by simp), ← Array.length_toList, List.take_length]
theorem putAgg_drew (w : World) (b o : Nat) (cs : Array Value) : putAgg w.drew b o cs = (putAgg w b o cs).drew := setCells_drew b _ o w
theorem putAgg_size (w : World) (b o : Nat) (cs : Array Value) : (putAgg w b o cs).heap.size = w.heap.size := size_setCells b _ o w
theorem putAgg_block (w : World) (b o : Nat) (cs : Array Value) (k : Nat) (h : k ≠ b) : (putAgg w b o cs).heap[k]? = w.heap[k]? := setCells_other b _ o w k h
theorem aggAt_putAgg_other (w : World) (b o : Nat) (cs : Array Value) (n k j : Nat) (h : k ≠ b) : aggAt (putAgg w b o cs) n k j = aggAt w n k j := aggAt_congr (putAgg_block w b o cs k h)
theorem aggAt_putAgg_same {w : World} {b o n : Nat} {cs : Array Value} {v : Value} (h : aggAt w n b o = some v) (hs : cs.size = n) : aggAt (putAgg w b o cs) n b o = some (.agg cs) := by
 obtain ⟨C, t, hw, hl, _⟩ := aggAt_some h
 subst hs
 have h1 := setCells_block b t cs.toList o w C hw (by simpa using hl)
 unfold putAgg
 rw [aggAt_of h1 (by rw [spliced_size _ _ _ (by simpa using hl)]; exact hl), spliced_extract C o cs hl]
theorem aggAt_putAgg_new (w : World) (b o n : Nat) (cs : Array Value) : aggAt (putAgg w b o cs) n b o = if cs.size = n then (if (aggAt w n b o).isSome = true then some (.agg cs) else aggPart (putAgg w b o cs) n b o) else aggPart (putAgg w b o cs) n b o := by
 split
 ·rename_i hs
  split
  ·rename_i h
   obtain ⟨v, hv⟩ := Option.isSome_iff_exists.1 h
   exact aggAt_putAgg_same hv hs
  ·rfl
 ·rfl
theorem putAgg_alloc_at (w : World) (c : Array Value) (t : TypeId) (b : Nat) (cs : Array Value) (hb : b = w.heap.size) (hs : c.size = cs.size) : putAgg (w.alloc (.cells c t)) b 0 cs = w.alloc (.cells cs t) := by
 subst hb
 unfold putAgg
 have h1 := setCells_block w.heap.size t cs.toList 0 _ c (heap_alloc_new w _) (by simp; omega)
 have hspl : spliced c 0 cs.toList = cs := by
  unfold spliced
  have : List.drop (0 + cs.toList.length) c.toList = [] := by
   rw [List.drop_eq_nil_iff]
   simp
   omega
  rw [this]
  simp
 rw [hspl] at h1
 have h2 : ((w.alloc (.cells c t)).setCells w.heap.size 0 cs.toList).heap = (w.alloc (.cells cs t)).heap := by
  apply Array.ext_getElem?
  intro i
  by_cases hi : i = w.heap.size
  ·subst hi
   rw [h1, heap_alloc_new]
  ·rw [setCells_other _ _ _ _ _ hi]
   show (w.heap.push _)[i]? = (w.heap.push _)[i]?
   rw [Array.getElem?_push, Array.getElem?_push, if_neg hi, if_neg hi]
 have h3 : ∀ (vs : List Value) (o : Nat) (W : World) (b : Nat), { W.setCells b o vs with heap := W.heap } = W := by
  intro vs
  induction vs with
  | nil => intro o W b; rfl
  | cons v r ih =>
   intro o W b
   rw [World.setCells]
   have := ih (o + 1) (W.setCell ⟨b, o, none⟩ v) b
   have h4 : { (W.setCell ⟨b, o, none⟩ v).setCells b (o + 1) r with heap := W.heap } = { (W.setCell ⟨b, o, none⟩ v) with heap := W.heap } := by
    have := congrArg (fun X : World => { X with heap := W.heap }) this
    exact this
   rw [h4]
   rfl
 have h5 := h3 cs.toList 0 (w.alloc (.cells c t)) w.heap.size
 calc (w.alloc (.cells c t)).setCells w.heap.size 0 cs.toList
   = { { (w.alloc (.cells c t)).setCells w.heap.size 0 cs.toList with heap := (w.alloc (.cells c t)).heap } with heap := ((w.alloc (.cells c t)).setCells w.heap.size 0 cs.toList).heap } := rfl
  _ = { (w.alloc (.cells c t)) with heap := ((w.alloc (.cells c t)).setCells w.heap.size 0 cs.toList).heap } := by rw [h5]
  _ = { (w.alloc (.cells c t)) with heap := (w.alloc (.cells cs t)).heap } := by rw [h2]
  _ = w.alloc (.cells cs t) := rfl
def putRest (w : World) (b o : Nat) (cs : Array Value) : World := putAgg w b o cs
theorem putAgg_alloc_new (w : World) (c : Array Value) (t : TypeId) (b : Nat) (cs : Array Value) (hb : b = w.heap.size) : putAgg (w.alloc (.cells c t)) b 0 cs = if c.size = cs.size then w.alloc (.cells cs t) else putRest (w.alloc (.cells c t)) b 0 cs := by
 split
 ·rename_i hs
  exact putAgg_alloc_at w c t b cs hb hs
 ·rfl
theorem putAgg_alloc_past (w : World) (ob : Obj) (b o : Nat) (cs : Array Value) (hb : b < w.heap.size) : putAgg (w.alloc ob) b o cs = (putAgg w b o cs).alloc ob := setCells_alloc_past b ob _ o w hb
theorem putAgg_below {B b o : Nat} {a w : World} {cs : Array Value} (h : Below B a w) (hb : B ≤ b) : Below B a (putAgg w b o cs) := setCells_below b hb _ o w h
theorem putAgg_cell_other (w : World) (b o : Nat) (cs : Array Value) (a : Addr) (h : a.block ≠ b) : (putAgg w b o cs).cell? a = w.cell? a := World.cell?_of_block (putAgg_block w b o cs _ h)
theorem putAgg_frozen_other (w : World) (b o : Nat) (cs : Array Value) (a : Addr) (h : a.block ≠ b) : (putAgg w b o cs).frozen? a = w.frozen? a := World.frozen?_of_block (putAgg_block w b o cs _ h)
theorem lt_2 (n : Nat) : n < n + 1 + 1 := by omega
theorem ne_2 (n : Nat) : (n = n + 1 + 1) = False := by simp; omega
theorem en_2 (n : Nat) : (n + 1 + 1 = n) = False := by simp; omega
theorem lt_3 (n : Nat) : n < n + 1 + 1 + 1 := by omega
theorem ne_3 (n : Nat) : (n = n + 1 + 1 + 1) = False := by simp; omega
theorem en_3 (n : Nat) : (n + 1 + 1 + 1 = n) = False := by simp; omega
theorem lt_4 (n : Nat) : n < n + 1 + 1 + 1 + 1 := by omega
theorem ne_4 (n : Nat) : (n = n + 1 + 1 + 1 + 1) = False := by simp; omega
theorem en_4 (n : Nat) : (n + 1 + 1 + 1 + 1 = n) = False := by simp; omega
theorem lt_5 (n : Nat) : n < n + 1 + 1 + 1 + 1 + 1 := by omega
theorem ne_5 (n : Nat) : (n = n + 1 + 1 + 1 + 1 + 1) = False := by simp; omega
theorem en_5 (n : Nat) : (n + 1 + 1 + 1 + 1 + 1 = n) = False := by simp; omega
theorem lt_6 (n : Nat) : n < n + 1 + 1 + 1 + 1 + 1 + 1 := by omega
theorem ne_6 (n : Nat) : (n = n + 1 + 1 + 1 + 1 + 1 + 1) = False := by simp; omega
theorem en_6 (n : Nat) : (n + 1 + 1 + 1 + 1 + 1 + 1 = n) = False := by simp; omega
theorem kept {N : Nat} {W W' : World} (hb : Below N W W') : (∀ n b o, b < N → aggAt W' n b o = aggAt W n b o) ∧ (∀ b o, b < N → W'.cell? ⟨b, o, none⟩ = W.cell? ⟨b, o, none⟩) ∧
  (∀ b o, b < N → W'.frozen? ⟨b, o, none⟩ = W.frozen? ⟨b, o, none⟩) ∧ W.heap.size ≤ W'.heap.size :=
 ⟨fun _ b _ h => aggAt_congr (hb.block b h), fun b o h => hb.cell (p := ⟨b, o, none⟩) h, fun b o h => hb.frozen (p := ⟨b, o, none⟩) h, hb.size⟩
def loadA (t : TypeId) (_n : Nat) (a : Addr) : Sem Value := loadVar t a
def storeA (t : TypeId) (_n : Nat) (a : Addr) (v : Value) : Sem Unit := storeVar t a v
def fitsA (n : Nat) (v : Value) : Bool := v.cells.size == n && v.cells.all (·.oneCell')
theorem run_loadA {t : TypeId} {n : Nat} (d : TypeDesc) (hu : Tryz.prog.underlying t = some d) (hd : d.isRow = true) (hi : (Tryz.prog.info? t).map (·.size) = some n) (b o : Nat) (w : World) (h : (aggAt w n b o).isSome = true) :
  (loadA t n ⟨b, o, none⟩).run Tryz.prog w = .ok ((aggAt w n b o).getD undef) w := by
 obtain ⟨v, hv⟩ := Option.isSome_iff_exists.1 h
 rw [hv]
 obtain ⟨C, t', hw, hs, rfl⟩ := aggAt_some hv
 have := run_loadVar_mid (P := Tryz.prog) w b o t (C.extract o (o + n)).toList d (aggAt_range hv) hu hd (by rw [hi]; simp; omega)
 rw [Array.toArray_toList] at this
 exact this
theorem run_storeA {t : TypeId} {n : Nat} (hi : (Tryz.prog.info? t).map (·.size) = some n) (b o : Nat) (v : Value) (w : World) (h : (aggAt w n b o).isSome = true) (hf : fitsA n v = true) :
  (storeA t n ⟨b, o, none⟩ v).run Tryz.prog w = .ok () (putAgg w b o v.cells) := by
 obtain ⟨old, hv⟩ := Option.isSome_iff_exists.1 h
 unfold fitsA at hf
 rw [Bool.and_eq_true, beq_iff_eq] at hf
 have ht := aggAt_there hv
 rw [← hf.1] at ht
 have h2 : (storeVar t ⟨b, o, none⟩ v).run Tryz.prog w = (storeVar t ⟨b, o, none⟩ (.agg v.cells)).run Tryz.prog w := by
  unfold storeVar
  have : (Value.agg v.cells).cells = v.cells := rfl
  rw [this]
 unfold storeA
 rw [h2]
 exact run_storeVar_mid (P := Tryz.prog) w b o t v.cells ht (by rw [hi, hf.1]) hf.2
theorem loadVar_at {t : TypeId} {n : Nat} (d : TypeDesc) (hu : Tryz.prog.underlying t = some d) (hd : d.isRow = true) (hi : (Tryz.prog.info? t).map (·.size) = some n) {b o : Nat} {w : World} {v : Value} (h : aggAt w n b o = some v) :
  (loadVar t ⟨b, o, none⟩).run Tryz.prog w = .ok v w := by
 have := run_loadA d hu hd hi b o w (by rw [h]; rfl)
 rw [h] at this
 exact this
theorem ret_cell {fn : Func} {s : Tmp} {ty : TypeId} {tmps : Array Value} {w : World} {a : Addr} {v : Value} (h : fn.results = #[.cell s ty]) (hp : tmps.getD s undef = .pointer (some a)) (hv : (loadVar ty a).run Tryz.prog w = .ok v w) :
  (results fn tmps).run Tryz.prog w = .ok v w := by
 have q : tmps[s]?.getD undef = .pointer (some a) := by simpa using hp
 simp only [results, h]
 simp [q, hv, asAddr]
theorem ret_cell_tmp {fn : Func} {s u : Tmp} {ty : TypeId} {tmps : Array Value} {w : World} {a : Addr} {v : Value} (h : fn.results = #[.cell s ty, .tmp u]) (hp : tmps.getD s undef = .pointer (some a)) (hv : (loadVar ty a).run Tryz.prog w = .ok v w) :
  (results fn tmps).run Tryz.prog w = .ok (.tuple #[v, tmps.getD u undef]) w := by
 rw [results_cell_tmp h, hp]
 simp [hv, asAddr, Result.andThen]
theorem end_c {fn : Func} {R : Ending → World → Prop} {x : Act} {s : Tmp} {ty : TypeId} {w : World} {a : Addr} {v : Value} (h : fn.results = #[.cell s ty]) (hp : x.tmps.getD s undef = .pointer (some a)) (hv : (loadVar ty a).run Tryz.prog w = .ok v w)
  (hd : x.defers = []) (hR : R (.returned v) w) : bodyPost Tryz.prog fn R .ret x w := bodyPost_ret (ret_cell h hp hv) hd hR
theorem end_ct {fn : Func} {R : Ending → World → Prop} {x : Act} {s u : Tmp} {ty : TypeId} {w : World} {a : Addr} {v : Value} (h : fn.results = #[.cell s ty, .tmp u]) (hp : x.tmps.getD s undef = .pointer (some a)) (hv : (loadVar ty a).run Tryz.prog w = .ok v w)
  (hd : x.defers = []) (hR : R (.returned (.tuple #[v, x.tmps.getD u undef])) w) : bodyPost Tryz.prog fn R .ret x w := bodyPost_ret (ret_cell_tmp h hp hv) hd hR
def boxA (t : TypeId) (v : Value) : Sem Value := Instr.box t v
theorem run_boxA (t : TypeId) (v : Value) (w : World) : (boxA t v).run Tryz.prog w = .ok (.pointer (some ⟨w.heap.size, 0, none⟩)) (w.alloc (.cells v.cells t)) := by
 unfold boxA Instr.box newVar newRow
 simp [go_sem]
theorem V4.agg_arr (v : V4) : Value.agg v.arr = v.val := rfl
theorem FP.agg_arr (f : FP) : Value.agg f.arr = f.val := rfl
theorem V4.cells_val (v : V4) : v.val.cells = v.arr := rfl
theorem FP.cells_val (f : FP) : f.val.cells = f.arr := rfl
theorem V4.size_arr (v : V4) : v.arr.size = 4 := rfl
theorem FP.size_arr (f : FP) : f.arr.size = 14 := rfl
theorem V4.fits (v : V4) : fitsA 4 v.val = true := by simp [fitsA, V4.val, V4.arr, Value.cells, Value.oneCell']
theorem FP.fits (f : FP) : fitsA 14 f.val = true := by simp [fitsA, FP.val, FP.arr, Value.cells, Value.oneCell']
end Go.Proofs.YtccgfladbibjbaaGreatDoor
namespace Go.Proofs.YtccgfladbibjbaaGreatDoor
open Go.RowKit
theorem loadVar_F (a : Addr) : loadVar 67 a = loadA 67 14 a := rfl
theorem loadVar_E (a : Addr) : loadVar 50 a = loadA 50 4 a := rfl
theorem loadVar_V (a : Addr) : loadVar 45 a = loadA 45 4 a := rfl
theorem loadVar_B32 (a : Addr) : loadVar 64 a = loadA 64 32 a := rfl
theorem storeVar_F (a : Addr) (v : Value) : storeVar 67 a v = storeA 67 14 a v := rfl
theorem storeVar_E (a : Addr) (v : Value) : storeVar 50 a v = storeA 50 4 a v := rfl
theorem storeVar_V (a : Addr) (v : Value) : storeVar 45 a v = storeA 45 4 a v := rfl
theorem storeVar_B32 (a : Addr) (v : Value) : storeVar 64 a v = storeA 64 32 a v := rfl
theorem run_loadF (b o : Nat) (w : World) (h : (aggAt w 14 b o).isSome = true) : (loadA 67 14 ⟨b, o, none⟩).run Tryz.prog w = .ok ((aggAt w 14 b o).getD undef) w := run_loadA _ Tryz.underlying67 rfl (by kernel_rfl) b o w h
theorem run_loadE (b o : Nat) (w : World) (h : (aggAt w 4 b o).isSome = true) : (loadA 50 4 ⟨b, o, none⟩).run Tryz.prog w = .ok ((aggAt w 4 b o).getD undef) w := run_loadA _ Tryz.underlying50 rfl (by kernel_rfl) b o w h
theorem run_loadV (b o : Nat) (w : World) (h : (aggAt w 4 b o).isSome = true) : (loadA 45 4 ⟨b, o, none⟩).run Tryz.prog w = .ok ((aggAt w 4 b o).getD undef) w := run_loadA _ Tryz.underlying45 rfl (by kernel_rfl) b o w h
theorem run_loadB32 (b o : Nat) (w : World) (h : (aggAt w 32 b o).isSome = true) : (loadA 64 32 ⟨b, o, none⟩).run Tryz.prog w = .ok ((aggAt w 32 b o).getD undef) w := run_loadA _ Tryz.underlying64 rfl (by kernel_rfl) b o w h
theorem run_storeF (b o : Nat) (v : Value) (w : World) (h : (aggAt w 14 b o).isSome = true) (hf : fitsA 14 v = true) : (storeA 67 14 ⟨b, o, none⟩ v).run Tryz.prog w = .ok () (putAgg w b o v.cells) := run_storeA (by kernel_rfl) b o v w h hf
theorem run_storeE (b o : Nat) (v : Value) (w : World) (h : (aggAt w 4 b o).isSome = true) (hf : fitsA 4 v = true) : (storeA 50 4 ⟨b, o, none⟩ v).run Tryz.prog w = .ok () (putAgg w b o v.cells) := run_storeA (by kernel_rfl) b o v w h hf
theorem run_storeV (b o : Nat) (v : Value) (w : World) (h : (aggAt w 4 b o).isSome = true) (hf : fitsA 4 v = true) : (storeA 45 4 ⟨b, o, none⟩ v).run Tryz.prog w = .ok () (putAgg w b o v.cells) := run_storeA (by kernel_rfl) b o v w h hf
theorem run_storeB32 (b o : Nat) (v : Value) (w : World) (h : (aggAt w 32 b o).isSome = true) (hf : fitsA 32 v = true) : (storeA 64 32 ⟨b, o, none⟩ v).run Tryz.prog w = .ok () (putAgg w b o v.cells) := run_storeA (by kernel_rfl) b o v w h hf
theorem fitsA_agg4 (k : IntKind) (a b c d : Int) : fitsA 4 (.agg #[.int k a, .int k b, .int k c, .int k d]) = true := by simp [fitsA, Value.cells, Value.oneCell']
theorem box_F (v : Value) : Instr.box 67 v = boxA 67 v := rfl
theorem box_E (v : Value) : Instr.box 50 v = boxA 50 v := rfl
theorem box_V (v : Value) : Instr.box 45 v = boxA 45 v := rfl
theorem box_B32 (v : Value) : Instr.box 64 v = boxA 64 v := rfl
theorem atF {b o : Nat} {w : World} {v : Value} (h : aggAt w 14 b o = some v) : (loadVar 67 ⟨b, o, none⟩).run Tryz.prog w = .ok v w := loadVar_at _ Tryz.underlying67 rfl (by kernel_rfl) h
theorem atE {b o : Nat} {w : World} {v : Value} (h : aggAt w 4 b o = some v) : (loadVar 50 ⟨b, o, none⟩).run Tryz.prog w = .ok v w := loadVar_at _ Tryz.underlying50 rfl (by kernel_rfl) h
theorem atV {b o : Nat} {w : World} {v : Value} (h : aggAt w 4 b o = some v) : (loadVar 45 ⟨b, o, none⟩).run Tryz.prog w = .ok v w := loadVar_at _ Tryz.underlying45 rfl (by kernel_rfl) h
theorem atB32 {b o : Nat} {w : World} {v : Value} (h : aggAt w 32 b o = some v) : (loadVar 64 ⟨b, o, none⟩).run Tryz.prog w = .ok v w := loadVar_at _ Tryz.underlying64 rfl (by kernel_rfl) h
theorem IsF.parts {w : World} {b : Nat} {f : FP} (h : IsF w b f) : aggAt w 14 b 0 = some f.val ∧ aggAt w 4 b 1 = some f.p.val ∧ aggAt w 4 b 6 = some f.one.val ∧ aggAt w 4 b 10 = some f.sq.val :=
 ⟨aggAt_whole h rfl, aggAt_of h (by rw [FP.size_arr]; decide), aggAt_of h (by rw [FP.size_arr]; decide), aggAt_of h (by rw [FP.size_arr]; decide)⟩
end Go.Proofs.YtccgfladbibjbaaGreatDoor
namespace Go.Proofs.YtccgfladbibjbaaGreatDoor
open Go.RowKit
attribute [local go_sem ↓] add_DD mul_DD mul_DL and_DD or_DD xor_DD notD_at shr_DL shl_DL shr_DN shl_DN quo_DL rem_DL
attribute [local go_sem] wrap32_B wrap8_D
def rotrW (x : BitVec 32) (n : Nat) : BitVec 32 := x <<< (32 - n) ||| x >>> n
theorem and31 (n : Nat) (h0 : 0 < n) (hn : n < 32) : bits .and .u64 (18446744073709551616 - (n : Int)) 31 = ((32 - n : Nat) : Int) := by
 show IntKind.u64.wrap (((18446744073709551616 - (n : Int)) % 2 ^ IntKind.u64.bits).toNat &&& ((31 : Int) % 2 ^ IntKind.u64.bits).toNat : Nat) = _
 have e1 : ((18446744073709551616 - (n : Int)) % 2 ^ IntKind.u64.bits).toNat = 18446744073709551616 - n := by
  rw [show ((2 : Int) ^ IntKind.u64.bits) = 18446744073709551616 from by decide]
  omega
 have e2 : ((31 : Int) % 2 ^ IntKind.u64.bits).toNat = 2 ^ 5 - 1 := by decide
 rw [e1, e2, Nat.and_two_pow_sub_one_eq_mod, IntKind.wrap_u64]
 omega
theorem rotateLeft (x : BitVec 32) (n : Nat) (h0 : 0 < n) (hn : n < 32) (w : World) :
  Calls Tryz.prog 141 #[.int .u32 (D x), .int .i64 (-(n : Int))] w fun e w' => e = .returned (.int .u32 (D (rotrW x n))) ∧ w = w' := by
 have hc : IntKind.u64.wrap (-(n : Int)) = 18446744073709551616 - n := by rw [IntKind.wrap_u64]; omega
 have ha := and31 n h0 hn
 have HX := Lib.hid (show rotrW x n = x <<< (32 - n) ||| x >>> n from rfl)
 rw [HX.out]
 obtain ⟨m, hm⟩ : ∃ m, m = 32 - n := ⟨_, rfl⟩
 rw [← hm] at ha ⊢
 have hw : IntKind.u64.wrap (32 - (m : Int)) = (n : Int) := by rw [IntKind.wrap_u64]; omega
 have HM := Lib.hid hm
 clear hm
 go_enter Tryz.func141, Tryz.ntmps141
 go_wp2
 go_ret
 exact ⟨rfl, rfl⟩
theorem shaRotr (x : BitVec 32) (n : Nat) (h0 : 0 < n) (hn : n < 32) (w : World) :
  Calls Tryz.prog 122 #[.int .u32 (D x), .int .i64 n] w fun e w' => e = .returned (.int .u32 (D (rotrW x n))) ∧ w = w' := by
 have HR := Lib.hid (rotateLeft x n h0 hn)
 have hw : IntKind.i64.wrap (-(n : Int)) = -(n : Int) := by rw [IntKind.wrap_i64]; omega
 go_enter Tryz.func122, Tryz.ntmps122
 go_wp2_with fail
 refine (HR.out _).mono ?_
 rintro e w1 ⟨rfl, rfl⟩
 go_wp2
 go_ret
 exact ⟨rfl, rfl⟩
end Go.Proofs.YtccgfladbibjbaaGreatDoor
