/- dft.Multiply of two lists within the limits. -/
import Derived.Test.YtijbjncdiojpdaaDoorWRound
import Derived.Test.YtijbjncdiojpdaaDoorWInv3
namespace Go.Proofs.YtijbjncdiojpdaaDoor
open Go.RowKit
attribute [local go_sem ↓] add_UU sub_UU mul_UU add_UL add_LU sub_UL sub_LU mul_UL neg_at not_at and_UU or_UU xor_UU andNot_UU and_UL or_LU shr_UL shl_UL shr_UN shl_UN quo_UL rem_UL quo_UU rem_UU
attribute [local go_sem] wrap8_U wrap32_U wrap64_B wrap32_B wrap8_D wrapi_B wrap64_UU eq_UU ne_UU eq_UL ne_UL lt_UU le_UU
attribute [local go_sem ↓] run_fadd run_fsub run_fmul run_fquo
attribute [local go_sem] fRes_some unary_neg_f run_store_complex run_store_float

theorem info_i : (Tryd.prog.info? 3).map (fun i => (i.zero, i.size, i.bytes)) = some (some (.int .i64 0), 1, 8) := by kernel_rfl
theorem make_i (n : Nat) (hn : n ≤ 1000) (w : World) : (Instr.makeSlice 22 (.int .i64 (n : Int)) (.int .i64 (n : Int))).run Tryd.prog w = .ok (.slice (some ⟨w.heap.size, 0, none⟩) n n) (w.alloc (.cells ((List.range n).map fun _ => .int .i64 0).toArray 3)) := by
  obtain ⟨i, hi, hz, hs, hb⟩ := info_parts info_i
  have h := run_makeSlice (P := Tryd.prog) w 22 3 i _ Tryd.underlying22 hi hz .i64 .i64 (n : Int) (n : Int) (by omega) (by omega) (by rw [hs]; simp; omega) (by rw [hb]; omega) (by omega)
  rw [hs, Nat.mul_one, show (Value.int .i64 0).cells = #[.int .i64 0] from rfl, madeCells_one] at h
  simpa using h

theorem shl_one (m : Nat) (hm : m ≤ 7) : wrap64 (2 ^ m) = ((2 ^ m : Nat) : Int) := by
  rcases (show m = 0 ∨ m = 1 ∨ m = 2 ∨ m = 3 ∨ m = 4 ∨ m = 5 ∨ m = 6 ∨ m = 7 by omega) with rfl | rfl | rfl | rfl | rfl | rfl | rfl | rfl <;> simp [wrap64]

def intCells (C : Nat → Int) : Nat → Value := fun i => .int .i64 (C i)

/-- What is known of two lists and their product. -/
structure Prod (A B : Nat → Int) (la lb m : Nat) (Xa Xb Z V : Nat → Nat × Nat) (C : Nat → Int) : Prop where
  a1 : 1 ≤ la
  a2 : la ≤ 64
  b1 : 1 ≤ lb
  b2 : lb ≤ 64
  ra : ∀ i, i < la → outB (A i) = false
  rb : ∀ i, i < lb → outB (B i) = false
  hm : lenS (la + lb - 2) = m
  hm7 : m ≤ 7
  hl : la + lb - 1 ≤ 2 ^ m
  oka : dftOk m (padN A la)
  okb : dftOk m (padN B lb)
  xa : Xa = dftS m (padN A la)
  xb : Xb = dftS m (padN B lb)
  mul : ∀ k, k < 2 ^ m → cMulBits (Xa k).1 (Xa k).2 (Xb k).1 (Xb k).2 = some (Z k)
  okz : dftOk m Z
  quo : ∀ q, q < 2 ^ m → cQuoBits (turned (2 ^ m) (dftS m Z) q).1 (turned (2 ^ m) (dftS m Z) q).2 (floatOfInt .f64 ((2 ^ m : Nat) : Int)) 0 = some (V q)
  rlt : ∀ i, i < la + lb - 1 → (V i).1 < 18446744073709551616
  rnd : ∀ i, i < la + lb - 1 → floatToIntVal .f64 (nat64 (roundB (BitVec.ofNat 64 (V i).1))) .i64 = some (C i)

theorem cells_alloc {w : World} {b off l : Nat} {A : Nat → Value} (h : ∀ i, i < l → w.cell? ⟨b, off + i, none⟩ = some (A i)) (o : Obj) : ∀ i, i < l → (w.alloc o).cell? ⟨b, off + i, none⟩ = some (A i) := fun i hi =>
  (((Below.refl w.heap.size w).alloc (Nat.le_refl _) o).cell (p := ⟨b, off + i, none⟩) (World.block_lt_of_cell? w _ (h i hi))).trans (h i hi)

set_option maxRecDepth 20000 in
set_option maxHeartbeats 4000000 in
theorem multiply (A B : Nat → Int) (la lb m : Nat) (Xa Xb Z V : Nat → Nat × Nat) (C : Nat → Int) (H : Prod A B la lb m Xa Xb Z V C) (ba oa ca bb ob cb : Nat) (w : World) (ht : Tabs w) (hg : 2 < w.heap.size)
    (hA : ∀ i, i < la → w.cell? ⟨ba, oa + i, none⟩ = some (.int .i64 (A i))) (hB : ∀ i, i < lb → w.cell? ⟨bb, ob + i, none⟩ = some (.int .i64 (B i))) :
    Calls Tryd.prog 9 #[.slice (some ⟨ba, oa, none⟩) la ca, .slice (some ⟨bb, ob, none⟩) lb cb] w fun e w' =>
      ∃ g, e = .returned (.tuple #[.slice (some ⟨g, 0, none⟩) ((la + lb - 1 : Nat) : Nat) (la + lb - 1 : Nat), .int .i64 0]) ∧ w.heap.size ≤ g ∧ Row w' g 3 (la + lb - 1) (intCells C) ∧ Below w.heap.size w w' := by
  obtain ⟨a1, a2, b1, b2, ra, rb, hm, hm7, hlp, oka, okb, xa, xb, mul, okz, quo, rlt, rnd⟩ := H
  obtain ⟨T, hT⟩ : ∃ T, T = w.alloc (.cells #[.slice (some ⟨ba, oa, none⟩) la ca, .slice (some ⟨bb, ob, none⟩) lb cb] 22) := ⟨_, rfl⟩
  have hTA := cells_alloc (A := fun i => .int .i64 (A i)) hA (.cells #[.slice (some ⟨ba, oa, none⟩) la ca, .slice (some ⟨bb, ob, none⟩) lb cb] 22)
  have hTB := cells_alloc (A := fun i => .int .i64 (B i)) hB (.cells #[.slice (some ⟨ba, oa, none⟩) la ca, .slice (some ⟨bb, ob, none⟩) lb cb] 22)
  rw [← hT] at hTA hTB
  have hTb : Below w.heap.size w T := by rw [hT]; exact (Below.refl _ w).alloc (Nat.le_refl _) _
  have hT0 : T.heap.size = w.heap.size + 1 := by rw [hT]; simp
  have HCk := Lib.hid (checkOk w.heap.size (some ⟨ba, oa, none⟩) (some ⟨bb, ob, none⟩) la ca lb cb a2 b2 T (by rw [hT]; unfold World.cell?; simp only []; rw [heap_alloc_new]; rfl) (by rw [hT]; unfold World.cell?; simp only []; rw [heap_alloc_new]; rfl)
    (containsNone ba oa la ca A (by omega) T hTA ra) (containsNone bb ob lb cb B (by omega) T hTB rb))
  obtain ⟨l, hl⟩ : ∃ l, l = la + lb - 1 := ⟨_, rfl⟩
  rw [← hl] at hlp rlt rnd ⊢
  have hmk := make_i l (by omega) T
  have HLen := Lib.hid (len (la + lb - 2) (by omega))
  rw [hm] at HLen
  obtain ⟨l1, hl1⟩ : ∃ l1, l1 = la + lb - 2 := ⟨_, rfl⟩
  rw [← hl1] at HLen
  have hshl := shl_one m hm7
  obtain ⟨n, hn⟩ : ∃ n, n = 2 ^ m := ⟨_, rfl⟩
  have hpb := pow_bound m hm7
  rw [← hn] at hpb
  have HTa := Lib.hid (fun g cap w => transform m (by omega) (padN A la) oka g cap w)
  have HTb := Lib.hid (fun g cap w => transform m (by omega) (padN B lb) okb g cap w)
  have HTz := Lib.hid (fun g cap w => transform m (by omega) Z okz g cap w)
  rw [← hn] at hshl
  have HSh := Lib.hid hshl
  clear hshl
  rw [← hn] at HTa HTb HTz hlp mul quo
  rw [← xa] at HTa
  rw [← xb] at HTb
  unfold SplitPost at HTa HTb
  have HI := Lib.hid (fun v w HTr => inverseN n (dftS m Z) V hpb.1 (by omega) v w HTr quo)
  unfold SplitPost at HI
  have HMul := Lib.hid mul
  have HRn := Lib.hid (And.intro rlt rnd)
  have HNN := Lib.hid hn
  obtain ⟨T2, hT2⟩ : ∃ T2, T2 = T.alloc (.cells ((List.range l).map fun _ => Value.int .i64 0).toArray 3) := ⟨_, rfl⟩
  have hTb2 : Below w.heap.size w T2 := by rw [hT2]; exact hTb.alloc hTb.size _
  have hT20 : T2.heap.size = w.heap.size + 2 := by rw [hT2]; simp [hT0]
  have hrow : Row T2 (w.heap.size + 1) 3 l (intCells fun i => if i < 0 then C i else 0) := by
    rw [hT2]
    exact (Row.new T _ _ l (fun _ => Value.int .i64 0) hT0.symm).congr fun i _ => by simp [intCells]
  have hA2 := cells_alloc (A := fun i => .int .i64 (A i)) hTA (.cells ((List.range l).map fun _ => Value.int .i64 0).toArray 3)
  have hB2 := cells_alloc (A := fun i => .int .i64 (B i)) hTB (.cells ((List.range l).map fun _ => Value.int .i64 0).toArray 3)
  rw [← hT2] at hA2 hB2
  have hpa := padded ba oa la ca n A (by omega) (by omega) T2 hA2
  rw [hT20] at hpa
  have HPa := Lib.hid hpa
  clear hpa
  have hla0 : ((la : Int) == 0) = false := by rw [beq_eq_false_iff_ne]; omega
  have hlb0 : ((lb : Int) == 0) = false := by rw [beq_eq_false_iff_ne]; omega
  have hab : (la : Int) + (lb : Int) - 1 = (l : Int) := by omega
  have hl1' : (l : Int) - 1 = (l1 : Int) := by omega
  have hl10 : (0 : Int) ≤ (l1 : Int) := Int.natCast_nonneg l1
  have hl11 : (l1 : Int) < 200 := by omega
  have HT0 := Lib.hid ht
  have HK := Lib.hid (And.intro hrow (And.intro hTb2 (And.intro hT20 hB2)))
  rw [hT0, ← hT2] at hmk
  have HE := Lib.hid hT
  have HG := Lib.hid hg
  have HLb := Lib.hid (show lb ≤ n by omega)
  have HLl := Lib.hid hlp
  have hla1 : 1 ≤ l := by omega
  have hT20' := hT20
  clear hT hT2 hTA hTB hTb hTb2 hA2 hB2 hrow hA hB ht hg ra rb hm oka okb xa xb mul okz quo rlt rnd hl hl1 hn hlp hT20
  go_enter Tryd.func9, Tryd.ntmps9
  go_wp2_with fail
  rw [← HE.out]
  refine HCk.out.mono ?_
  rintro e w1 ⟨rfl, rfl⟩
  clear HCk
  go_wp2_with fail
  refine (HLen.out _).mono ?_
  rintro e w1 ⟨rfl, rfl⟩
  clear HLen
  go_wp2_with fail
  rw [HSh.out]
  refine HPa.out.mono ?_
  rintro e w3 ⟨rfl, hc3, hb3⟩
  have K3 := Lib.hid (show Tabs w3 ∧ 2 < w3.heap.size ∧ CB w3 (w.heap.size + 2) n (padN A la) ∧ Row w3 (w.heap.size + 1) 3 l (intCells fun i => if i < 0 then C i else 0) ∧ Below w.heap.size w w3 ∧ (∀ i, i < lb → w3.cell? ⟨bb, ob + i, none⟩ = some (.int .i64 (B i))) from by
    have h1 := HK.out.2.1.trans (hb3.mono (by omega))
    have h2 := h1.size
    have h3 := HG.out
    refine ⟨HT0.out.below h1 h3, by omega, hc3, HK.out.1.below hb3 (by omega), h1, fun i hi => ?_⟩
    have h4 := HK.out.2.2.2 i hi
    have h5 := World.block_lt_of_cell? _ _ h4
    exact (hb3.cell (p := ⟨bb, ob + i, none⟩) (by simpa [hT20'] using h5)).trans h4)
  clear hc3 hb3 HPa HK hT20' hmk HE
  go_wp2_with fail
  refine (HTa.out _ _ _ K3.out.1 K3.out.2.1 K3.out.2.2.1).mono ?_
  rintro e w4 ⟨gx, capx, rfl, hgx, hcx, hX, hb4⟩
  have K4 := Lib.hid (show Tabs w4 ∧ 2 < w4.heap.size ∧ CB w4 gx n Xa ∧ Row w4 (w.heap.size + 1) 3 l (intCells fun i => if i < 0 then C i else 0) ∧ Below w.heap.size w w4 ∧ w.heap.size + 2 < gx from by
    have h1 := K3.out.2.2.1.lt
    have h2 := hb4.size
    have h3 := K3.out.2.1
    exact ⟨K3.out.1.below hb4 h3, by omega, hX, K3.out.2.2.2.1.below hb4 (by omega), K3.out.2.2.2.2.1.trans (hb4.mono (by omega)), by omega⟩)
  have HPb := Lib.hid (padded bb ob lb cb n B (by have := HLb.out; omega) (by omega) w4 (fun i hi => (hb4.cell (p := ⟨bb, ob + i, none⟩) (World.block_lt_of_cell? _ _ (K3.out.2.2.2.2.2 i hi))).trans (K3.out.2.2.2.2.2 i hi)))
  clear hgx hcx hX hb4 K3 HTa
  go_wp2_with fail
  refine HPb.out.mono ?_
  rintro e w5 ⟨rfl, hc5, hb5⟩
  have K5 := Lib.hid (show Tabs w5 ∧ 2 < w5.heap.size ∧ CB w5 w4.heap.size n (padN B lb) ∧ CB w5 gx n Xa ∧ Row w5 (w.heap.size + 1) 3 l (intCells fun i => if i < 0 then C i else 0) ∧ Below w.heap.size w w5 ∧ w.heap.size + 2 < gx ∧ gx < w4.heap.size from by
    have h1 := K4.out.2.2.1.lt
    have h2 := hb5.size
    have h3 := K4.out.2.1
    have h4 := K4.out.2.2.2.2.2
    exact ⟨K4.out.1.below hb5 h3, by omega, hc5, K4.out.2.2.1.call hb5, K4.out.2.2.2.1.below hb5 (by omega), K4.out.2.2.2.2.1.trans (hb5.mono (by omega)), h4, h1⟩)
  clear hc5 hb5 HPb K4
  go_wp2_with fail
  refine (HTb.out _ _ _ K5.out.1 K5.out.2.1 K5.out.2.2.1).mono ?_
  rintro e w6 ⟨gy, capy, rfl, hgy, hcy, hY, hb6⟩
  have hxy : gx ≠ gy := by
    have h1 := K5.out.2.2.1.lt
    have h2 := K5.out.2.2.2.2.2.2.2
    omega
  have hgx : w.heap.size + 2 < gx := K5.out.2.2.2.2.2.2.1
  have K6 := Lib.hid (show CB w6 gx n (fun q => if q < 0 then Z q else Xa q) ∧ CB w6 gy n Xb ∧ Row w6 (w.heap.size + 1) 3 l (intCells fun i => if i < 0 then C i else 0) ∧ Below w.heap.size w w6 from by
    have h1 := K5.out.2.2.2.2.2.1.size
    have h2 := K5.out.2.2.2.1.lt
    exact ⟨(K5.out.2.2.2.1.call hb6).congr fun q _ => by simp, hY, K5.out.2.2.2.2.1.below hb6 (by omega), K5.out.2.2.2.2.2.1.trans (hb6.mono (by omega))⟩)
  clear hgy hcy hY hb6 K5 HTb
  go_wp2
  go_loopw [54] (fun j wr => ∃ k : Nat, k ≤ n ∧ j = .int .i64 k ∧ CB wr gx n (fun q => if q < k then Z q else Xa q) ∧ CB wr gy n Xb ∧ Row wr (w.heap.size + 1) 3 l (intCells fun i => if i < 0 then C i else 0) ∧ Below w.heap.size w wr) (fun j _ => n - (intOf j).toNat)
  case atStart => exact ⟨0, by omega, rfl, K6.out⟩
  case round =>
    clear K6
    obtain ⟨k, hk, rfl, hx, hy, hr, hb⟩ := hrel
    have k0 : (0 : Int) ≤ (k : Int) := Int.natCast_nonneg k
    by_cases hlt : k < n
    · have hlt' : (k : Int) < (n : Int) := by omega
      have hmul := fun t w => run_complex_mul (P := Tryd.prog) w t (Xa k).1 (Xa k).2 (Xb k).1 (Xb k).2 (Z k).1 (Z k).2 (HMul.out k hlt)
      have cx := hx.cell k hlt
      have fx := hx.frozen k
      have cy := hy.cell k hlt
      simp only [Nat.lt_irrefl, if_false] at cx
      unfold cval at cx cy
      have HH := Lib.hid (And.intro hx (And.intro hy (And.intro hr hb)))
      clear hx hy hr hb
      go_wp2
      go_region
      go_wp2
      refine ⟨⟨k + 1, by omega, by go_num, (HH.out.1.drew.set k (Z k) hlt).congr fun q hq => ?_, HH.out.2.1.drew.other _ _ (by simpa using hxy.symm), HH.out.2.2.1.drew.other _ _ (by simp; omega), HH.out.2.2.2.drew.setCell (p := ⟨gx, k, none⟩) (by simp; omega) _⟩, by simp [intOf]; omega⟩
      by_cases e : q = k
      · subst e
        rw [if_pos rfl, if_pos (by omega)]
      · rw [if_neg e]
        by_cases h : q < k
        · rw [if_pos h, if_pos (by omega)]
        · rw [if_neg h, if_neg (by omega)]
    · obtain rfl : k = n := by omega
      have HH := Lib.hid (show CB wr gx k Z ∧ Row wr (w.heap.size + 1) 3 l (intCells fun i => if i < 0 then C i else 0) ∧ Below w.heap.size w wr from ⟨hx.congr fun q hq => by rw [if_pos hq], hr, hb⟩)
      clear hx hy hr hb
      go_wp2_with fail
      refine (HI.out _ _ ?_).mono ?_
      · rintro W rfl
        have h1 := HH.out.2.2.size
        have h2 := HG.out
        exact HTz.out gx _ _ (HT0.out.below HH.out.2.2 h2) (by omega) HH.out.1
      rintro e w7 ⟨gz, capz, rfl, hgz, hcz, hV, hb7⟩
      have h1 := HH.out.2.2.size
      have h2 := HH.out.2.1.lt
      have K7 := Lib.hid (show CB w7 gz k V ∧ Row w7 (w.heap.size + 1) 3 l (intCells fun i => if i < 0 then C i else 0) ∧ Below w.heap.size w w7 from ⟨hV, HH.out.2.1.below hb7 h2, HH.out.2.2.trans (hb7.mono h1)⟩)
      have hzne : gz ≠ w.heap.size + 1 := by omega
      have hlc : (l : Int) ≤ (capz : Int) := by have := HLl.out; omega
      have hlk : l ≤ k := HLl.out
      clear h1 h2 hV hb7 hgz HH HTz HI
      go_wp2
      go_loopw [74] (fun j wr => ∃ i : Nat, i ≤ l ∧ j = .int .i64 i ∧ CB wr gz k V ∧ Row wr (w.heap.size + 1) 3 l (intCells fun q => if q < i then C q else 0) ∧ Below w.heap.size w wr) (fun j _ => l - (intOf j).toNat)
      case atStart => exact ⟨0, by omega, rfl, K7.out⟩
      case round =>
        clear K7
        obtain ⟨i, hi, rfl, hv, hr, hb⟩ := hrel
        have i0 : (0 : Int) ≤ (i : Int) := Int.natCast_nonneg i
        by_cases hil : i < l
        · have hil' : (i : Int) < (l : Int) := by omega
          have cv := hv.cell i (by omega)
          unfold cval at cv
          have cr := hr.cell i hil
          have fr := hr.frozen i
          unfold intCells at cr
          simp only [Nat.lt_irrefl, if_false] at cr
          have HRd := Lib.hid (round (V i).1 (HRn.out.1 i hil))
          have hcv := fun w => run_convert_float_int (P := Tryd.prog) w 35 3 .f64 .i64 _ _ rfl rfl (HRn.out.2 i hil)
          have HH := Lib.hid (And.intro hv (And.intro hr hb))
          clear hv hr hb
          go_wp2_with fail
          refine (HRd.out _).mono ?_
          rintro e w8 ⟨rfl, rfl⟩
          go_wp2
          refine ⟨⟨i + 1, by omega, by go_num, HH.out.1.other _ _ (by simpa using hzne), (HH.out.2.1.set i _).congr fun q hq => ?_, HH.out.2.2.setCell (p := ⟨w.heap.size + 1, i, none⟩) (by simp) _⟩, by simp [intOf]; omega⟩
          show (if q = i then _ else Value.int .i64 (if q < i then C q else 0)) = Value.int .i64 (if q < i + 1 then C q else 0)
          by_cases e : q = i
          · subst e
            rw [if_pos rfl, if_pos (by omega)]
          · rw [if_neg e]
            by_cases h : q < i
            · rw [if_pos h, if_pos (by omega)]
            · rw [if_neg h, if_neg (by omega)]
        · obtain rfl : i = l := by omega
          have HH := Lib.hid (And.intro hr hb)
          clear hv hr hb
          go_wp2
          go_ret2
          exact ⟨w.heap.size + 1, rfl, by omega, HH.out.1.congr fun q hq => by show Value.int .i64 (if q < i then C q else 0) = Value.int .i64 (C q); rw [if_pos hq], HH.out.2⟩
end Go.Proofs.YtijbjncdiojpdaaDoor
