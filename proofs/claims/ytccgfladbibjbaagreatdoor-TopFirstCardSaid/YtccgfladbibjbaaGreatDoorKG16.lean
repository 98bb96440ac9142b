/- Appending what a slice sees; slices.Clone of bytes. -/
import Derived.Test.YtccgfladbibjbaaGreatDoorKG13
import Derived.Maps.AppendAt
import Derived.RegionTactic
import Derived.Lib.BufferMore
import Derived.Lib.AppendZeros
import Derived.Laws.BytesArg
namespace Go.Proofs.YtccgfladbibjbaaGreatDoor
open Go.RowKit
attribute [local go_sem ↓] add_UU sub_UU mul_UU add_UL add_LU sub_UL sub_LU mul_UL neg_at not_at and_UU or_UU xor_UU andNot_UU and_UL or_LU shr_UL shl_UL shr_UN shl_UN shl_LN quo_UL rem_UL quo_UU rem_UU
attribute [local go_sem] wrap64_N wrapi_mod wrap8_U wrap32_U wrap64_B wrap32_B wrap8_D wrapi_B wrap64_UU eq_UU ne_UU eq_UL ne_UL lt_UU le_UU
theorem run_append_sees {P : Program} (w : World) (base : Nat) (t ty e : TypeId) (i : TypeInfo) (z : Value) (size bytes : Nat) (ht : P.underlying t = some (.slice e)) (hi : P.info? e = some i) (hz : i.zero = some z)
  (hsize : i.size = size) (hby : i.bytes = bytes) (hzs : z.cells.size = size) (hsz : 0 < size) (v : Value) (n : Nat) (xs : List Value) (hown : w.ownsRow base e size v n xs)
  (A : Option Addr) (m c : Nat) (news : List Value) (hl : news.length = m * size) (hs : Sees w A news) (h1 : ∀ u ∈ news, u.oneCell' = true)
  (h63 : n + m ≤ maxLen) (hbytes : (n + m) * bytes ≤ 140737488355328) (hbase : base ≤ w.heap.size) :
  ∃ v' w', (Builtin.append_ #[t, t] ty #[v, .slice A m c]).run P w = .ok v' w' ∧ w'.ownsRow base e size v' (n + m) (xs ++ news) ∧ w.grownBy w' v.ownBlock ∧ (v'.ownBlock = v.ownBlock ∨ v'.ownBlock = some w.heap.size) := by
 cases A with
 | some ad =>
  have hnews : ∀ j u, news[j]? = some u → w.cell? (ad.add j) = some u := by
   intro j u hj
   obtain ⟨b, o, e, hc⟩ := hs (by have := (List.getElem?_eq_some_iff.1 hj).1; omega)
   injection e with e
   subst e
   rw [Addr.add_mid, hc j (List.getElem?_eq_some_iff.1 hj).1, hj]
  obtain ⟨v', w', h2, h3, h4, _, h5⟩ := run_append_own_at (P := P) w base t ty e i z size bytes ht hi hz hsize hby hzs hsz v n xs hown ad m c news hl hnews h1 h63 hbytes hbase
  exact ⟨v', w', h2, h3, h4, h5⟩
 | none =>
  have hn : news = [] := by
   cases news with
   | nil => rfl
   | cons a b => obtain ⟨b, o, e, _⟩ := hs (by simp); cases e
  subst hn
  have hm : m = 0 := by
   rcases Nat.eq_zero_or_pos m with h | h
   ·exact h
   ·have := Nat.mul_pos h hsz; simp at hl; omega
  subst hm
  refine ⟨v, w, ?_, by simpa using hown, ⟨rfl, rfl, rfl, Nat.le_refl _, fun _ _ _ => rfl⟩, .inl rfl⟩
  rcases hown.2 with ⟨rfl, rfl⟩ | ⟨g, cap, cur, rfl, _, _, hnc, _⟩
  ·simp [Builtin.append_, run_underlying ht, sizeOf, typeInfo, hi, Builtin.lenOf, Builtin.firstCells]
  ·simp [Builtin.append_, run_underlying ht, sizeOf, typeInfo, hi, Builtin.lenOf, Builtin.firstCells, hnc, storeCells]
section
variable {P : Program} {w : World}
theorem wp_append_sees {o : Oper} {a : Act} {K : Act → World → Prop} {Q : Exit → Act → World → Prop} (s x : Operand) (t : TypeId)
  (ho : o.op = .call { callee := .builtin .append, args := #[s, x], argTypes := #[t, t] }) (base : Nat) (e : TypeId) (i : TypeInfo) (z : Value) (size bytes : Nat) (ht : P.underlying t = some (.slice e)) (hi : P.info? e = some i) (hz : i.zero = some z)
  (hsize : i.size = size) (hby : i.bytes = bytes) (hzs : z.cells.size = size) (hsz : 0 < size) (v : Value) (n : Nat) (xs : List Value) (hs : a.eval s = v) (hown : w.ownsRow base e size v n xs)
  (A : Option Addr) (m c : Nat) (news : List Value) (hx : a.eval x = .slice A m c) (hl : news.length = m * size) (hnews : Sees w A news) (h1 : ∀ u ∈ news, u.oneCell' = true)
  (h63 : n + m ≤ maxLen) (hbytes : (n + m) * bytes ≤ 140737488355328) (hbase : base ≤ w.heap.size)
  (h : ∀ v' w', w'.ownsRow base e size v' (n + m) (xs ++ news) → w.grownBy w' v.ownBlock → (v'.ownBlock = v.ownBlock ∨ v'.ownBlock = some w.heap.size) → K (a.put o.dst v') w') : o.wp P a w K Q := by
 obtain ⟨v', w', hr, h2, h3, h4⟩ := run_append_sees (P := P) w base t o.type e i z size bytes ht hi hz hsize hby hzs hsz v n xs hown A m c news hl hnews h1 h63 hbytes hbase
 unfold Oper.wp execOp
 simp only [ho, resolve, invoke, builtin, Sem.run_bind, Sem.run_pure, Result.andThen_ok, List.map_toArray, List.map_cons, List.map_nil, hs, hx, hr]
 exact h v' w' h2 h3 h4
theorem wpList_append_sees {ops : Array Oper} {rest : List Oper} {o : Oper} {a : Act} {Q : Exit → Act → World → Prop} (hgd : o.guard = none) (s x : Operand) (t : TypeId)
  (ho : o.op = .call { callee := .builtin .append, args := #[s, x], argTypes := #[t, t] }) (base : Nat) (e : TypeId) (i : TypeInfo) (z : Value) (size bytes : Nat) (ht : P.underlying t = some (.slice e)) (hi : P.info? e = some i) (hz : i.zero = some z)
  (hsize : i.size = size) (hby : i.bytes = bytes) (hzs : z.cells.size = size) (hsz : 0 < size) (v : Value) (n : Nat) (xs : List Value) (hs : a.eval s = v) (hown : w.ownsRow base e size v n xs)
  (A : Option Addr) (m c : Nat) (news : List Value) (hx : a.eval x = .slice A m c) (hl : news.length = m * size) (hnews : Sees w A news) (h1 : ∀ u ∈ news, u.oneCell' = true)
  (h63 : n + m ≤ maxLen) (hbytes : (n + m) * bytes ≤ 140737488355328) (hbase : base ≤ w.heap.size)
  (h : ∀ v' w', w'.ownsRow base e size v' (n + m) (xs ++ news) → w.grownBy w' v.ownBlock → (v'.ownBlock = v.ownBlock ∨ v'.ownBlock = some w.heap.size) → wpList P ops Q rest (a.put o.dst v') w') : wpList P ops Q (o :: rest) a w :=
 wpList_plain hgd fun _ hK => wp_append_sees s x t ho base e i z size bytes ht hi hz hsize hby hzs hsz v n xs hs hown A m c news hx hl hnews h1 h63 hbytes hbase fun v' w' h2 h3 h4 => hK _ _ (h v' w' h2 h3 h4)
end
theorem byteVals_one (l : List (BitVec 8)) : ∀ u ∈ byteVals l, u.oneCell' = true := by
 intro u hu
 obtain ⟨x, _, rfl⟩ := List.mem_map.1 hu
 rfl
theorem byteVals_append (a b : List (BitVec 8)) : byteVals (a ++ b) = byteVals a ++ byteVals b := List.map_append
def OwnB (w : World) (base : Nat) (v : Value) (l : List (BitVec 8)) : Prop := w.ownsRow base 5 1 v l.length (byteVals l)
theorem ownB_nil (w : World) (base : Nat) : OwnB w base (.slice none 0 0) [] := World.ownsRow_nil w base _ _
theorem OwnB.open {w : World} {base : Nat} {v : Value} {l : List (BitVec 8)} (h : OwnB w base v l) : ∃ A cap, v = .slice A l.length cap ∧ l.length ≤ cap ∧ Sees w A (byteVals l) ∧ (∀ g o, A = some ⟨g, o, none⟩ → base ≤ g ∧ o = 0) := owns_open h
theorem OwnB.kept {w w' : World} {base : Nat} {v : Value} {l : List (BitVec 8)} {row : Option Nat} (h : OwnB w base v l) (hg : w.grownBy w' row) (hne : v.ownBlock = none ∨ v.ownBlock ≠ row) : OwnB w' base v l := World.ownsRow.kept h hg hne
theorem OwnB.below {w w' : World} {base : Nat} {v : Value} {l : List (BitVec 8)} (h : OwnB w base v l) (hb : Below w.heap.size w w') : OwnB w' base v l :=
 World.ownsRow.kept (row := none) h ⟨hb.os, hb.tape, hb.output, hb.size, fun k hk _ => hb.block k hk⟩ (by cases v.ownBlock <;> simp)
theorem OwnB.base_le {w : World} {base base' : Nat} {v : Value} {l : List (BitVec 8)} (h : OwnB w base v l) (hb : base' ≤ base) : OwnB w base' v l := by
 refine ⟨h.1, ?_⟩
 rcases h.2 with h2 | ⟨g, cap, cur, h1, h2, h3⟩
 ·exact .inl h2
 ·exact .inr ⟨g, cap, cur, h1, by omega, h3⟩
theorem OwnB.lt {w : World} {base : Nat} {v : Value} {l : List (BitVec 8)} (h : OwnB w base v l) (k : Nat) (hk : v.ownBlock = some k) : base ≤ k ∧ k < w.heap.size := World.ownsRow.lt h k hk
set_option maxHeartbeats 1000000 in
set_option maxRecDepth 20000 in
theorem cloneB (A : Option Addr) (cap : Nat) (l : List (BitVec 8)) (hl : l.length ≤ 1099511627776) (w : World) (hs : Sees w A (byteVals l)) :
  Calls Tryz.prog 92 #[.slice A l.length cap] w fun e w' => ∃ v, e = .returned v ∧ OwnB w' w.heap.size v l ∧ Below w.heap.size w w' := by
 obtain ⟨i0, hi0, hz0, hz1, hz2⟩ := info_parts info_u8
 have heq := fun (W : World) => Lib.run_eql_slice_nil (P := Tryz.prog) W 22 5 A l.length cap 0 0 Tryz.underlying22
 have HS := Lib.hid hs
 clear hs
 cases A with
 | none =>
  have hl0 : l = [] := by
   cases l with
   | nil => rfl
   | cons a b => obtain ⟨b, o, e, _⟩ := HS.out (by simp [byteVals]); cases e
  subst hl0
  have heq0 := fun (W : World) => Lib.run_eql_slice_nil (P := Tryz.prog) W 22 5 none 0 cap 0 0 Tryz.underlying22
  clear heq
  go_enter Tryz.func92, Tryz.ntmps92
  go_wp2
  go_ret
  exact ⟨_, rfl, ownB_nil _ _, Below.refl _ _⟩
 | some ad =>
  have HO := Lib.hid (World.ownsRow_made (base := w.heap.size) (e := 5) (size := 1) w #[] 0 (Nat.le_refl _) (Nat.zero_le _) rfl)
  go_enter Tryz.func92, Tryz.ntmps92
  go_wp2_with (at_builtin; refine wpList_append_sees rfl _ _ 22 rfl w.heap.size 5 i0 (.int .u8 0) 1 1 Tryz.underlying22 hi0 hz0 hz1 hz2 rfl (by decide) _ _ _ rfl HO.out (some ad) l.length cap (byteVals l) rfl ?c1 ?c2 (byteVals_one l) ?c4 ?c5 ?c6 ?_)
  case c1 => rw [byteVals_length, Nat.mul_one]
  case c2 => exact HS.out.alloc _
  case c4 => unfold maxLen; omega
  case c5 => omega
  case c6 => simp
  intro v1 w1 hown1 hg1 _
  have HB := Lib.hid (show OwnB w1 w.heap.size v1 l ∧ Below w.heap.size w w1 from ⟨by simpa [OwnB] using hown1, (((Below.refl _ w).alloc (Nat.le_refl _) _).grown hg1 (by simp) (fun k hk => by simp [Value.ownBlock] at hk; omega))⟩)
  clear hown1 hg1
  go_wp2
  go_ret
  exact ⟨v1, rfl, HB.out⟩
end Go.Proofs.YtccgfladbibjbaaGreatDoor
namespace Go.Proofs.YtccgfladbibjbaaGreatDoor
open Go.RowKit
set_option maxRecDepth 20000 in
set_option maxHeartbeats 1000000 in
theorem growNil (n : Nat) (hn : n ≤ 1099511627776) (w : World) :
  Calls Tryz.prog 99 #[.slice none 0 0, .int .i64 n] w fun e w' => ∃ v, e = .returned v ∧ OwnB w' w.heap.size v [] ∧ Below w.heap.size w w' := by
 obtain ⟨i0, hi0, hz0, hz1, hz2⟩ := info_parts info_u8
 have hw0 : IntKind.i64.wrap (n : Int) = (n : Int) := by rw [IntKind.wrap_i64]; omega
 have hneg : ¬ (n : Int) < 0 := by omega
 have hc1 : ∀ W, (Instr.sliceAt 22 (.slice none 0 0) none (some (.int .i64 0)) none).run Tryz.prog W = .ok (.slice none 0 0) W := cut_h none 0 0 0 (Nat.le_refl _) .i64
 by_cases h0 : n = 0
 ·subst h0
  rw [show ((0 : Nat) : Int) = 0 from rfl] at *
  go_enter Tryz.func99, Tryz.ntmps99
  go_wp2
  go_ret
  exact ⟨_, rfl, ownB_nil _ _, Below.refl _ _⟩
 ·have hpos : 0 < (n : Int) := by omega
  have hr := fun ty => Lib.run_append_nil_zeros (P := Tryz.prog) w 22 3 ty 5 i0 (.int .u8 0) .i64 .i64 Tryz.underlying22 (by kernel_rfl) hi0 hz0 n (by omega) (by rw [hz1]; decide) (by omega) (by rw [hz2]; omega)
  have hge := grownCap_ge w n 0 5
  have hle := grownCap_le_maxLen w n 0 5 (show n ≤ maxLen from by unfold maxLen; omega)
  go_enter Tryz.func99, Tryz.ntmps99
  go_wp2_with (at_builtin; refine Lib.wpList_append_run _ rfl _ _ 22 3 rfl (.slice none 0 0) (.int .i64 n) rfl rfl _ _ (hr _) ?_)
  generalize hcp : grownCap w n 0 5 = cp at *
  have hc2 : ∀ W, (Instr.sliceAt 22 (.slice (some ⟨w.heap.size, 0, none⟩) n cp) none (some (.int .i64 0)) none).run Tryz.prog W = .ok (.slice (some ⟨w.heap.size, 0, none⟩) 0 cp) W := cut_h (some ⟨w.heap.size, 0, none⟩) n cp 0 (by omega) .i64
  have HO := Lib.hid (show OwnB (w.drew.alloc (.cells (Builtin.zeroCells (Value.int .u8 0).cells n ++ Builtin.zeroCells (Value.int .u8 0).cells (cp - n)) 5)) w.heap.size (.slice (some ⟨w.heap.size, 0, none⟩) 0 cp) [] from
   ⟨rfl, .inr ⟨w.heap.size, cp, _, rfl, Nat.le_refl _, heap_alloc_new w.drew _, Nat.zero_le _, hle, by
    rw [Array.size_append, size_zeroCells, size_zeroCells]
    show n * 1 + (cp - n) * 1 = cp * 1
    omega, by rw [List.length_nil, Nat.zero_mul, List.take_zero]; rfl⟩⟩)
  have HB := Lib.hid (show Below w.heap.size w (w.drew.alloc (.cells (Builtin.zeroCells (Value.int .u8 0).cells n ++ Builtin.zeroCells (Value.int .u8 0).cells (cp - n)) 5)) from ((Below.refl _ w).drew).alloc (Nat.le_refl _) _)
  clear hr hcp
  go_wp2
  go_ret
  exact ⟨_, rfl, HO.out, HB.out⟩
def sz2 (a b : Nat) : Nat → Nat
 | 0 => 0
 | 1 => a
 | _ => a + b
def cat2 {α : Type} (a b : List α) : Nat → List α
 | 0 => []
 | 1 => a
 | _ => a ++ b
set_option maxRecDepth 20000 in
set_option maxHeartbeats 1000000 in
theorem concat2 (g : Nat) (A A' : Option Addr) (c c' : Nat) (l l' : List (BitVec 8)) (w : World) (h0 : w.cell? ⟨g, 0, none⟩ = some (.slice A l.length c)) (h1 : w.cell? ⟨g, 1, none⟩ = some (.slice A' l'.length c')) (hS : Sees w A (byteVals l)) (hS' : Sees w A' (byteVals l'))
  (hn : l.length + l'.length ≤ 1099511627776) :
  Calls Tryz.prog 70 #[.slice (some ⟨g, 0, none⟩) 2 2] w fun e w' => ∃ v, e = .returned v ∧ OwnB w' w.heap.size v (l ++ l') ∧ Below w.heap.size w w' := by
 obtain ⟨i0, hi0, hz0, hz1, hz2⟩ := info_parts info_u8
 have HG := Lib.hid (growNil (l.length + l'.length) hn w)
 have HS := Lib.hid (And.intro hS hS')
 clear hS hS'
 have hgl := World.block_lt_of_cell? w _ h0
 go_enter Tryz.func70, Tryz.ntmps70
 go_wp2
 go_loop [3, 5, 11] (fun s x i => ∃ t : Nat, t ≤ 2 ∧ i = .int .i64 t ∧ s = .int .i64 (sz2 l.length l'.length t : Nat)) (fun _ _ i => 2 - (intOf i).toNat)
 case atStart => exact ⟨0, by omega, rfl, rfl⟩
 case round =>
  obtain ⟨t, ht, rfl, rfl⟩ := hrel
  rcases (by omega : t = 0 ∨ t = 1 ∨ t = 2) with rfl | rfl | rfl
  ·rw [show ((0 : Nat) : Int) = 0 from rfl, show ((sz2 l.length l'.length 0 : Nat) : Int) = 0 from rfl]
   have hw1 : IntKind.i64.wrap (l.length : Int) = (l.length : Int) := by rw [IntKind.wrap_i64]; omega
   have hneg : ¬ (l.length : Int) < 0 := by omega
   go_wp2
   go_round
   case rel => exact ⟨1, by omega, rfl, rfl⟩
   case measure => simp [intOf]
  ·rw [show ((1 : Nat) : Int) = 1 from rfl, show ((sz2 l.length l'.length 1 : Nat) : Int) = (l.length : Int) from rfl]
   have hw1 : IntKind.i64.wrap ((l.length : Int) + (l'.length : Int)) = (l.length : Int) + (l'.length : Int) := by rw [IntKind.wrap_i64]; omega
   have hneg : ¬ (l.length : Int) + (l'.length : Int) < 0 := by omega
   go_wp2
   go_round
   case rel => exact ⟨2, by omega, rfl, by simp [sz2]⟩
   case measure => simp [intOf]
  ·rw [show ((2 : Nat) : Int) = 2 from rfl]
   have hs2 : sz2 l.length l'.length 2 = l.length + l'.length := rfl
   rw [hs2]
   go_wp2_with fail
   refine HG.out.mono ?_
   rintro e w1 ⟨v1, rfl, hO1, hb1⟩
   have HB := Lib.hid (And.intro hO1 hb1)
   clear hO1 hb1 HG
   go_wp2
   go_loopw [6, 8, 27] (fun v x i W => ∃ t : Nat, t ≤ 2 ∧ i = .int .i64 t ∧ OwnB W w.heap.size v (cat2 l l' t) ∧ Below w.heap.size w W) (fun _ _ i _ => 2 - (intOf i).toNat)
   case atStart => exact ⟨0, by omega, rfl, HB.out.1, HB.out.2⟩
   case round =>
    clear HB
    obtain ⟨t, ht, rfl, hO, hB⟩ := hrel
    have hc0 := (hB.cell (p := ⟨g, 0, none⟩) hgl).trans h0
    have hc1 := (hB.cell (p := ⟨g, 1, none⟩) hgl).trans h1
    have HX := Lib.hid (And.intro hO (And.intro hB (And.intro (HS.out.1.below hB) (HS.out.2.below hB))))
    have hsz := hB.size
    clear hO hB
    rcases (by omega : t = 0 ∨ t = 1 ∨ t = 2) with rfl | rfl | rfl
    ·rw [show ((0 : Nat) : Int) = 0 from rfl]
     go_wp2_with (at_builtin; refine wpList_append_sees rfl _ _ 22 rfl w.heap.size 5 i0 (.int .u8 0) 1 1 Tryz.underlying22 hi0 hz0 hz1 hz2 rfl (by decide) _ _ _ rfl HX.out.1 A l.length c (byteVals l) rfl ?c1 HX.out.2.2.1 (byteVals_one l) ?c4 ?c5 hsz ?_)
     case c1 => rw [byteVals_length, Nat.mul_one]
     case c4 => show 0 + l.length ≤ maxLen; unfold maxLen; omega
     case c5 => show (0 + l.length) * 1 ≤ _; omega
     intro v2 w2 hown2 hg2 _
     have H2 := Lib.hid (show OwnB w2 w.heap.size v2 (cat2 l l' 1) ∧ Below w.heap.size w w2 from ⟨by simpa [OwnB, cat2, byteVals] using hown2, HX.out.2.1.grown hg2 hsz (fun k hk => (HX.out.1.lt k hk).1)⟩)
     clear hown2 hg2 HX
     go_wp2
     go_roundw
     case rel => exact ⟨1, by omega, rfl, H2.out⟩
     case measure => simp [intOf]
    ·rw [show ((1 : Nat) : Int) = 1 from rfl]
     go_wp2_with (at_builtin; refine wpList_append_sees rfl _ _ 22 rfl w.heap.size 5 i0 (.int .u8 0) 1 1 Tryz.underlying22 hi0 hz0 hz1 hz2 rfl (by decide) _ _ _ rfl HX.out.1 A' l'.length c' (byteVals l') rfl ?c1 HX.out.2.2.2 (byteVals_one l') ?c4 ?c5 hsz ?_)
     case c1 => rw [byteVals_length, Nat.mul_one]
     case c4 => show l.length + l'.length ≤ maxLen; unfold maxLen; omega
     case c5 => show (l.length + l'.length) * 1 ≤ _; omega
     intro v2 w2 hown2 hg2 _
     have H2 := Lib.hid (show OwnB w2 w.heap.size v2 (l ++ l') ∧ Below w.heap.size w w2 from ⟨by unfold OwnB; rw [List.length_append, byteVals_append]; exact hown2, HX.out.2.1.grown hg2 hsz (fun k hk => (HX.out.1.lt k hk).1)⟩)
     clear hown2 hg2 HX
     go_wp2
     go_roundw
     case rel => exact ⟨2, by omega, rfl, H2.out⟩
     case measure => simp [intOf]
    ·rw [show ((2 : Nat) : Int) = 2 from rfl]
     go_wp2
     go_ret
     exact ⟨_, rfl, HX.out.1, HX.out.2.1⟩
end Go.Proofs.YtccgfladbibjbaaGreatDoor
namespace Go.Proofs.YtccgfladbibjbaaGreatDoor
open Go.RowKit
attribute [local go_sem ↓] add_UU sub_UU mul_UU add_UL add_LU sub_UL sub_LU mul_UL neg_at not_at and_UU or_UU xor_UU andNot_UU and_UL or_LU shr_UL shl_UL shr_UN shl_UN shl_LN quo_UL rem_UL quo_UU rem_UU
attribute [local go_sem] wrap64_N wrapi_mod wrap8_U wrap32_U wrap64_B wrap32_B wrap8_D wrapi_B wrap64_UU eq_UU ne_UU eq_UL ne_UL lt_UU le_UU
theorem conv_zero (w : World) (A : Option Addr) (c : Nat) : (convert 22 9 (.slice A 0 c)).run Tryz.prog w = .ok (.string ByteArray.empty) w := by
 rw [run_convert_bytes_string w 22 9 5 _ 0 c Tryz.underlying22 Tryz.underlying5 Tryz.underlying9]
 cases A <;> simp [Conv.bytesToString, loadCells]
 all_goals rfl
theorem conv_bytes (l : List (BitVec 8)) : ∃ s : ByteArray, ∀ (w : World) (A : Option Addr) (c : Nat), Sees w A (byteVals l) → (convert 22 9 (.slice A l.length c)).run Tryz.prog w = .ok (.string s) w := by
 by_cases h0 : l.length = 0
 ·rw [h0]
  exact ⟨_, fun w A c _ => conv_zero w A c⟩
 ·refine ⟨strOfNums (l.map B), fun w A c hs => ?_⟩
  obtain ⟨b, o, rfl, hc⟩ := hs (by rw [byteVals_length]; omega)
  refine run_convert_bytes_arg w 22 5 Tryz.underlying22 Tryz.underlying5 b o l.length c (l.map B) (by rw [List.length_map]) (fun i hi => ?_) 9 Tryz.underlying9
  rw [hc i (by rw [byteVals_length]; exact hi), byteVals_get l i hi]
  congr 2
  rw [List.getD_eq_getElem?_getD, List.getElem?_map, List.getElem?_eq_getElem hi]
  rfl
theorem bytesEq (l : List (BitVec 8)) (A1 A2 : Option Addr) (c1 c2 : Nat) (w : World) (h1 : Sees w A1 (byteVals l)) (h2 : Sees w A2 (byteVals l)) :
  Calls Tryz.prog 11 #[.slice A1 l.length c1, .slice A2 l.length c2] w fun e w' => e = .returned (.bool true) ∧ w' = w := by
 obtain ⟨s, hs⟩ := conv_bytes l
 have q1 := hs w A1 c1 h1
 have q2 := hs w A2 c2 h2
 clear hs h1 h2
 generalize l.length = n at *
 go_enter Tryz.func11, Tryz.ntmps11
 go_wp2
 go_ret
 exact ⟨rfl, rfl⟩
end Go.Proofs.YtccgfladbibjbaaGreatDoor
