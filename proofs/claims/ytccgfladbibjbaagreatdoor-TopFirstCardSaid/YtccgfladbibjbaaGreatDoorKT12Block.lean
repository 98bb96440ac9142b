/- sharecoreref12.block. -/
import Derived.Test.YtccgfladbibjbaaGreatDoorKT12Rot
import Derived.Test.YtccgfladbibjbaaGreatDoorKP12
import Derived.Test.YtccgfladbibjbaaGreatDoorKTAppS
import Derived.Test.YtccgfladbibjbaaGreatDoorKG13
import Derived.Test.YtccgfladbibjbaaGreatDoorKG02
import Derived.Test.YtccgfladbibjbaaGreatDoorKG21
import Derived.Test.YtccgfladbibjbaaGreatDoorKG05
namespace Go.Proofs.YtccgfladbibjbaaGreatDoor
open Go.RowKit
attribute [local go_sem ↓] add_DD mul_DD mul_DL and_DD or_DD xor_DD notD_at shr_DL shl_DL shr_DN shl_DN quo_DL rem_DL
attribute [local go_sem] wrap32_B wrap8_D
theorem info_D : (Tryz.prog.info? 116).map (fun i => (i.zero, i.size, i.bytes)) = some (some (.int .u32 0), 1, 4) := by kernel_rfl
theorem dVals_append (a b : List (BitVec 32)) : dVals (a ++ b) = dVals a ++ dVals b := by simp [dVals]
theorem dVals_one : ∀ (l : List (BitVec 32)), ∀ u ∈ dVals l, u.oneCell' = true := fun l u h => by
 unfold dVals at h
 obtain ⟨x, _, rfl⟩ := List.mem_map.1 h
 rfl
def OwnD (w : World) (base : Nat) (v : Value) (l : List (BitVec 32)) : Prop := w.ownsRow base 116 1 v l.length (dVals l)
theorem ownD_nil (w : World) (base : Nat) : OwnD w base (.slice none 0 0) [] := World.ownsRow_nil w base _ _
theorem OwnD.open {w : World} {base : Nat} {v : Value} {l : List (BitVec 32)} (h : OwnD w base v l) : ∃ A cap, v = .slice A l.length cap ∧ l.length ≤ cap ∧ Sees w A (dVals l) ∧ (∀ g o, A = some ⟨g, o, none⟩ → base ≤ g ∧ o = 0) := by
 have := owns_open (xs := dVals l) h
 exact this
theorem OwnD.kept {w w' : World} {base : Nat} {v : Value} {l : List (BitVec 32)} {row : Option Nat} (h : OwnD w base v l) (hg : w.grownBy w' row) (hne : v.ownBlock = none ∨ v.ownBlock ≠ row) : OwnD w' base v l := World.ownsRow.kept h hg hne
theorem OwnD.lt {w : World} {base : Nat} {v : Value} {l : List (BitVec 32)} (h : OwnD w base v l) (k : Nat) (hk : v.ownBlock = some k) : base ≤ k ∧ k < w.heap.size := World.ownsRow.lt h k hk
theorem OwnD.below {w w' : World} {base : Nat} {v : Value} {l : List (BitVec 32)} (h : OwnD w base v l) (hb : Below w.heap.size w w') : OwnD w' base v l := by
 refine h.kept (row := none) ⟨hb.os, hb.tape, hb.output, hb.size, fun k hk _ => hb.block k hk⟩ ?_
 cases hv : v.ownBlock with
 | none => exact .inl rfl
 | some k => exact .inr (by simp)
theorem OwnD.grew {w : World} {base : Nat} {v : Value} {l : List (BitVec 32)} {x : BitVec 32} {m : Nat} (hm : l.length = m) (h : w.ownsRow base 116 1 v (m + 1) (dVals l ++ dVals [x])) : OwnD w base v (l ++ [x]) := by
 unfold OwnD
 rw [List.length_append, dVals_append, hm]
 exact h
theorem Sees.word {w : World} {b o : Nat} {l : List (BitVec 32)} (h : Sees w (some ⟨b, o, none⟩) (dVals l)) (j : Nat) (hj : j < l.length) : w.cell? ⟨b, o + j, none⟩ = some (.int .u32 (D (dw l j))) := by
 obtain ⟨b', o', e, hc⟩ := h (by rw [dVals_length]; omega)
 injection e with e
 injection e with e1 e2
 subst e1 e2
 rw [hc j (by rw [dVals_length]; exact hj), dVals_get l j hj]
 rfl
theorem Sees.byte {w : World} {b o : Nat} {l : List (BitVec 8)} (h : Sees w (some ⟨b, o, none⟩) (byteVals l)) (j : Nat) (hj : j < l.length) : w.cell? ⟨b, o + j, none⟩ = some (.int .u8 (B (l[j]?.getD 0#8))) := by
 obtain ⟨b', o', e, hc⟩ := h (by rw [byteVals_length]; omega)
 injection e with e
 injection e with e1 e2
 subst e1 e2
 rw [hc j (by rw [byteVals_length]; exact hj), byteVals_get l j hj]
theorem seesD_of {w : World} {b : Nat} {l : List (BitVec 32)} {t : TypeId} (h : w.heap[b]? = some (.cells (dVals l).toArray t (0, 0))) : Sees w (some ⟨b, 0, none⟩) (dVals l) := by
 intro _
 refine ⟨b, 0, rfl, fun j hj => ?_⟩
 unfold World.cell?
 rw [Nat.zero_add]
 simp only [h]
 simp
def kL : List (BitVec 32) := (List.range 64).map kW
theorem kL_at (t : Nat) (h : t < 64) : dw kL t = kW t := by
 unfold dw kL
 rw [List.getElem?_map, List.getElem?_range h]
 rfl
structure BlI (w : World) (l : List (BitVec 8)) (v : Value) (t : Nat) (W : World) : Prop where
 O : OwnD W w.heap.size v (rwL l t)
 L : Below w.heap.size w W
theorem BlI.grown {w W W' : World} {l : List (BitVec 8)} {v v' : Value} {t : Nat} {x : BitVec 32} (h : BlI w l v t W) (hx : x = rwN l (rwL l t) t) (hg : W.grownBy W' v.ownBlock) (ho : W'.ownsRow w.heap.size 116 1 v' (t + 1) (dVals (rwL l t) ++ dVals [x])) : BlI w l v' (t + 1) W' := by
 refine ⟨?_, h.L.grown hg h.L.size (fun k e => by have := (h.O.lt k e).1; omega)⟩
 rw [rwL, ← hx]
 exact OwnD.grew (rwL_length l t) ho
theorem BlI.below {w W W' : World} {l : List (BitVec 8)} {v : Value} {t : Nat} (h : BlI w l v t W) (hb : Below W.heap.size W W') : BlI w l v t W' := ⟨h.O.below hb, h.L.trans (hb.mono h.L.size)⟩
structure B2 (w : World) (bw ow : Nat) (s : S8) (xs : List (BitVec 32)) (v : Value) (t : Nat) (W : World) : Prop where
 S : ∃ A c, v = .slice A 8 c ∧ Sees W A (dVals (roundsS s xs t).list)
 N : 0 < t → ∃ g, v = .slice (some ⟨g, 0, none⟩) 8 8 ∧ w.heap.size ≤ g ∧ IsDs W g 116 (roundsS s xs t).list
 WS : Sees W (some ⟨bw, ow, none⟩) (dVals xs)
 L : Below w.heap.size w W
theorem B2.below {w W W' : World} {bw ow : Nat} {s : S8} {xs : List (BitVec 32)} {v : Value} {t : Nat} (h : B2 w bw ow s xs v t W) (hb : Below W.heap.size W W') : B2 w bw ow s xs v t W' := by
 obtain ⟨⟨A, c, e, h1⟩, h2, h3, h4⟩ := h
 refine ⟨⟨A, c, e, h1.below hb⟩, fun q => ?_, h3.below hb, h4.trans (hb.mono h4.size)⟩
 obtain ⟨g, e1, e2, e3⟩ := h2 q
 exact ⟨g, e1, e2, e3.call hb e3.lt⟩
theorem B2.next {w W W' : World} {bw ow : Nat} {s : S8} {xs : List (BitVec 32)} {v : Value} {t : Nat} {r : S8} (h : B2 w bw ow s xs v t W) (hb : Below W.heap.size W W') (hr : roundsS s xs (t + 1) = r) : B2 w bw ow s xs (.slice (some ⟨W'.heap.size, 0, none⟩) 8 8) (t + 1) (W'.alloc (.cells (dVals r.list).toArray 116)) := by
 have hn : IsDs (W'.alloc (.cells (dVals r.list).toArray 116)) W'.heap.size 116 r.list := heap_alloc_new _ _
 have h1 := h.below hb
 have h2 := h1.below ((Below.refl _ W').alloc (Nat.le_refl _) (.cells (dVals r.list).toArray 116))
 exact ⟨⟨_, _, rfl, by rw [hr]; exact seesD_of hn⟩, fun _ => ⟨_, rfl, h1.L.size, by rw [hr]; exact hn⟩, h2.WS, h2.L⟩
structure B3 (w : World) (g : Nat) (s st : S8) (i : Nat) (W : World) : Prop where
 V : IsDs W g 116 (addT s st i)
 L : Below w.heap.size w W
set_option maxRecDepth 100000 in
set_option maxHeartbeats 4000000 in
theorem refBlock (A K R : Option Addr) (ca ck cr : Nat) (s : S8) (l : List (BitVec 8)) (hl : l.length = 64) (w : World) (hA : Sees w A (dVals s.list)) (hK : Sees w K (dVals kL)) (hR : Sees w R (byteVals l)) :
  Calls Tryz.prog 65 #[.slice A 8 ca, .slice K 64 ck, .slice R 64 cr] w fun e w' => ∃ b, e = .returned (.slice (some ⟨b, 0, none⟩) 8 8) ∧ w.heap.size ≤ b ∧ IsDs w' b 116 (afterS s l).list ∧ Below w.heap.size w w' := by
 obtain ⟨i0, hi0, ia0, ia1, ia2⟩ := info_parts info_D
 obtain ⟨ba, oa, rfl, -⟩ := hA (by rw [dVals_length, S8.length]; decide)
 obtain ⟨bk, ok, rfl, -⟩ := hK (by rw [dVals_length]; exact (by decide : 0 < 64))
 obtain ⟨br, oo, rfl, -⟩ := hR (by rw [byteVals_length]; omega)
 have hba := Sees.lt hA (by rw [dVals_length, S8.length]; decide)
 have hbk := Sees.lt hK (by rw [dVals_length]; exact (by decide : 0 < 64))
 have hbr := Sees.lt hR (by rw [byteVals_length]; omega)
 have HA := Lib.hid (fun W (hW : Below w.heap.size w W) => hA.below hW)
 have HK := Lib.hid (fun W (hW : Below w.heap.size w W) => hK.below hW)
 have HR := Lib.hid (fun W (hW : Below w.heap.size w W) => hR.below hW)
 have HL := Lib.hid hl
 clear hA hK hR hl
 go_enter Tryz.func65, Tryz.ntmps65
 go_wp2
 go_loopw [7, 8] (fun v tv W => ∃ t : Nat, t ≤ 64 ∧ tv = .int .i64 t ∧ BlI w l v t W) (fun _ tv _ => 64 - (intOf tv).toNat)
 case atStart => exact ⟨0, by omega, rfl, ownD_nil _ _, Below.refl _ _⟩
 case round =>
  obtain ⟨t, ht, rfl, hI⟩ := hrel
  by_cases h64 : t < 64
  ·have h64' : (t : Int) < 64 := by omega
   have HI := Lib.hid hI
   by_cases h16 : t < 16
   ·have h16' : (t : Int) < 16 := by omega
    have HX := Lib.hid (show rword l t = rwN l (rwL l t) t from by unfold rwN; rw [if_pos h16])
    have hsee := HR.out wr hI.L
    have x0 := hsee.byte (4 * t) (by rw [HL.out]; omega)
    have x1 := hsee.byte (4 * t + 1) (by rw [HL.out]; omega)
    have x2 := hsee.byte (4 * t + 2) (by rw [HL.out]; omega)
    have x3 := hsee.byte (4 * t + 3) (by rw [HL.out]; omega)
    unfold rword at HX
    generalize l[4 * t]?.getD 0#8 = y0 at *
    generalize l[4 * t + 1]?.getD 0#8 = y1 at *
    generalize l[4 * t + 2]?.getD 0#8 = y2 at *
    generalize l[4 * t + 3]?.getD 0#8 = y3 at *
    obtain ⟨q0, hq0⟩ : ∃ q, q = 4 * t := ⟨_, rfl⟩
    have hw0 : IntKind.i64.wrap (4 * (t : Int)) = (q0 : Int) := by rw [IntKind.wrap_i64]; omega
    rw [← hq0] at x0 x1 x2 x3
    obtain ⟨q1, hq1⟩ : ∃ q, q = q0 + 1 := ⟨_, rfl⟩
    obtain ⟨q2, hq2⟩ : ∃ q, q = q0 + 2 := ⟨_, rfl⟩
    obtain ⟨q3, hq3⟩ : ∃ q, q = q0 + 3 := ⟨_, rfl⟩
    have hw1 : IntKind.i64.wrap ((q0 : Int) + 1) = (q1 : Int) := by rw [IntKind.wrap_i64]; omega
    have hw2 : IntKind.i64.wrap ((q0 : Int) + 2) = (q2 : Int) := by rw [IntKind.wrap_i64]; omega
    have hw3 : IntKind.i64.wrap ((q0 : Int) + 3) = (q3 : Int) := by rw [IntKind.wrap_i64]; omega
    rw [← hq1] at x1
    rw [← hq2] at x2
    rw [← hq3] at x3
    have l0 : (q0 : Int) < 64 := by omega
    have l1 : (q1 : Int) < 64 := by omega
    have l2 : (q2 : Int) < 64 := by omega
    have l3 : (q3 : Int) < 64 := by omega
    clear hq0 hq1 hq2 hq3 hsee hI
    go_wp2_with fail
    ((have hS0 : (Below w.heap.size w wr.drew ∧ wr.drew.cell? ⟨(br), (oo + q0), none⟩ = some (.int .u8 (B y0)) ∧ wr.drew.cell? ⟨(br), (oo + q1), none⟩ = some (.int .u8 (B y1)) ∧ wr.drew.cell? ⟨(br), (oo + q2), none⟩ = some (.int .u8 (B y2)) ∧ wr.drew.cell? ⟨(br), (oo + q3), none⟩ = some (.int .u8 (B y3))) := ⟨(HI.out.L).drew, x0, x1, x2, x3⟩); (refine region_free (by kernel_rfl) [34, 35, 36] [0, 1, 2, 3, 4, 5, 6, 7, 8, 9, 10, 11, 12, 13, 14, 15, 16, 17, 18, 19, 20, 21, 22, 23, 24, 25, 26, 27, 28, 29, 30, 31, 32, 33] false (by kernel_rfl) (by kernel_rfl) (fun W' => (Below w.heap.size w W' ∧ W'.cell? ⟨(br), (oo + q0), none⟩ = some (.int .u8 (B y0)) ∧ W'.cell? ⟨(br), (oo + q1), none⟩ = some (.int .u8 (B y1)) ∧ W'.cell? ⟨(br), (oo + q2), none⟩ = some (.int .u8 (B y2)) ∧ W'.cell? ⟨(br), (oo + q3), none⟩ = some (.int .u8 (B y3)))) hS0 ?_); (have hSB : ∀ W' W'' : World, (Below w.heap.size w W' ∧ W'.cell? ⟨(br), (oo + q0), none⟩ = some (.int .u8 (B y0)) ∧ W'.cell? ⟨(br), (oo + q1), none⟩ = some (.int .u8 (B y1)) ∧ W'.cell? ⟨(br), (oo + q2), none⟩ = some (.int .u8 (B y2)) ∧ W'.cell? ⟨(br), (oo + q3), none⟩ = some (.int .u8 (B y3))) → Below W'.heap.size W' W'' → (Below w.heap.size w W'' ∧ W''.cell? ⟨(br), (oo + q0), none⟩ = some (.int .u8 (B y0)) ∧ W''.cell? ⟨(br), (oo + q1), none⟩ = some (.int .u8 (B y1)) ∧ W''.cell? ⟨(br), (oo + q2), none⟩ = some (.int .u8 (B y2)) ∧ W''.cell? ⟨(br), (oo + q3), none⟩ = some (.int .u8 (B y3))) := fun W' W'' ⟨h0, h1, h2, h3, h4⟩ hb => ⟨h0.trans (hb.mono h0.size), cell_keep h1 hb, cell_keep h2 hb, cell_keep h3 hb, cell_keep h4 hb⟩); (clear x0 x1 x2 x3); (iterate 34 (refine chainF_opL (by rfl) (by rfl) ?_ ?_ ?_; rotate_left; (focus (intro W' hS' K hK; (try simp only [put_some, List.set] at hK); (have hS'' := hS'); (obtain ⟨s0, s1, s2, s3, s4⟩ := hS''); go_simp; (exact hK); done)); (try simp only [put_some, List.set]))); (refine chainF_nil ?_))
    obtain ⟨z, hz⟩ : ∃ z, z = y0.setWidth 32 * 16777216#32 + y1.setWidth 32 * 65536#32 + y2.setWidth 32 * 256#32 + y3.setWidth 32 := ⟨_, rfl⟩
    have HZ := Lib.hid (show z = rwN l (rwL l t) t from by rw [hz]; exact HX.out)
    have HI1 := Lib.hid (HI.out.below (Below.refl _ wr).drew)
    generalize wr.drew = W1 at *
    refine spine_opL (by rfl) (by rfl) (fun K hK => ?_)
    (try simp only [put_some, List.set] at hK)
    go_simp
    rw [← hz] at hK ⊢
    have hB1 : Below W1.heap.size W1 (W1.alloc (.cells #[.int .u32 (D z)] 116)) := (Below.refl _ W1).alloc (Nat.le_refl _) _
    have hS2 := hSB _ _ hS0 hB1
    refine hK _ _ hS2 ?_
    have HI3 := Lib.hid (And.intro (HI1.out.below hB1) (show Sees (W1.alloc (.cells #[.int .u32 (D z)] 116)) (some ⟨W1.heap.size, 0, none⟩) (dVals [z]) from seesD_of (heap_alloc_new W1 (.cells (dVals [z]).toArray 116))))
    have hz3 : w.heap.size ≤ (W1.alloc (.cells #[.int .u32 (D z)] 116)).heap.size := HI3.out.1.L.size
    have hzz : w.heap.size ≤ W1.heap.size := HI1.out.L.size
    clear hK K hB1 hS0 hSB hz
    generalize hbq : W1.heap.size = bq at *
    generalize hw2 : W1.alloc (.cells #[.int .u32 (D z)] 116) = W2 at *
    have hsz2 : bq < W2.heap.size := by rw [← hw2, World.size_alloc]; omega
    refine spine_opL (by rfl) (by rfl) (fun K hK => ?_)
    (try simp only [put_some, List.set] at hK)
    refine wp_append_stays (.tmp 26) (.tmp 60) 113 rfl w.heap.size 116 i0 _ 1 4 Tryz.underlying113 hi0 ia0 ia1 ia2 rfl (by decide) (u7) t (dVals (rwL l t)) rfl ?c1 bq 1 1 (dVals [z]) rfl rfl HI3.out.2 (dVals_one _) (by unfold maxLen; omega) (by omega) hz3 (fun v' w4 hown hg hst => ?_)
    case c1 =>
     have := HI3.out.1.O
     unfold OwnD at this
     rwa [rwL_length] at this
    have HR4 := Lib.hid (HI3.out.1.grown (v' := v') (x := z) HZ.out hg hown)
    refine hK _ _ ⟨HR4.out.L, (World.cell?_of_block (hg.block br (by omega) (fun e => by have := (HI3.out.1.O.lt br e.symm).1; omega))).trans hS2.2.1, (World.cell?_of_block (hg.block br (by omega) (fun e => by have := (HI3.out.1.O.lt br e.symm).1; omega))).trans hS2.2.2.1, (World.cell?_of_block (hg.block br (by omega) (fun e => by have := (HI3.out.1.O.lt br e.symm).1; omega))).trans hS2.2.2.2.1, (World.cell?_of_block (hg.block br (by omega) (fun e => by have := (HI3.out.1.O.lt br e.symm).1; omega))).trans hS2.2.2.2.2⟩ ?_
    clear hK K hown hg HI3 hst hS2
    (refine spine_lastL (by rfl) (by rfl) (fun K hK => ?_); go_simp)
    refine hK _ _ (fun h => by cases h) ?_
    (try simp only [put_some, List.set])
    clear hK K
    go_wp2
    go_roundw
    case rel => exact ⟨t + 1, by omega, by go_num, HR4.out⟩
    case measure => (first | (simp [intOf]; done) | (simp [intOf]; omega))
   ·have h16' : ¬ (t : Int) < 16 := by omega
    obtain ⟨Aw, cw, rfl, hcw, hsw, hw00⟩ := hI.O.open
    obtain ⟨bw, ow, rfl, -⟩ := hsw (by rw [dVals_length, rwL_length]; omega)
    obtain rfl : ow = 0 := (hw00 _ _ rfl).2
    clear hw00
    rw [rwL_length] at hcw
    have HX := Lib.hid (show sg1 (dw (rwL l t) (t - 2)) + dw (rwL l t) (t - 7) + sg0 (dw (rwL l t) (t - 15)) + dw (rwL l t) (t - 16) = rwN l (rwL l t) t from by unfold rwN; rw [if_neg h16])
    have HX7 := Lib.hid (show (dVals (rwL l t))[t - 7]? = some (.int .u32 (D (dw (rwL l t) (t - 7)))) from dVals_get _ _ (by rw [rwL_length]; omega))
    have HX16 := Lib.hid (show (dVals (rwL l t))[t - 16]? = some (.int .u32 (D (dw (rwL l t) (t - 16)))) from dVals_get _ _ (by rw [rwL_length]; omega))
    have x2 := hsw.word (t - 2) (by rw [rwL_length]; omega)
    have x7 := hsw.word (t - 7) (by rw [rwL_length]; omega)
    have x15 := hsw.word (t - 15) (by rw [rwL_length]; omega)
    have x16 := hsw.word (t - 16) (by rw [rwL_length]; omega)
    have HI := Lib.hid (show BlI w l (.slice (some ⟨bw, 0, none⟩) t cw) t wr from by have := HI.out; rwa [rwL_length] at this)
    rw [rwL_length]
    rw [Nat.zero_add] at x2 x7 x15 x16
    generalize dw (rwL l t) (t - 2) = y2 at *
    generalize dw (rwL l t) (t - 7) = y7 at *
    generalize dw (rwL l t) (t - 15) = y15 at *
    generalize dw (rwL l t) (t - 16) = y16 at *
    obtain ⟨q2, hq2⟩ : ∃ q, q = t - 2 := ⟨_, rfl⟩
    obtain ⟨q7, hq7⟩ : ∃ q, q = t - 7 := ⟨_, rfl⟩
    obtain ⟨q15, hq15⟩ : ∃ q, q = t - 15 := ⟨_, rfl⟩
    obtain ⟨q16, hq16⟩ : ∃ q, q = t - 16 := ⟨_, rfl⟩
    have hw2 : IntKind.i64.wrap ((t : Int) - 2) = (q2 : Int) := by rw [IntKind.wrap_i64]; omega
    have hw7 : IntKind.i64.wrap ((t : Int) - 7) = (q7 : Int) := by rw [IntKind.wrap_i64]; omega
    have hw15 : IntKind.i64.wrap ((t : Int) - 15) = (q15 : Int) := by rw [IntKind.wrap_i64]; omega
    have hw16 : IntKind.i64.wrap ((t : Int) - 16) = (q16 : Int) := by rw [IntKind.wrap_i64]; omega
    rw [← hq2] at x2
    rw [← hq7] at x7 HX7
    rw [← hq15] at x15
    rw [← hq16] at x16 HX16
    have l2 : (q2 : Int) < (t : Int) := by omega
    have l7 : (q7 : Int) < (t : Int) := by omega
    have l15 : (q15 : Int) < (t : Int) := by omega
    have l16 : (q16 : Int) < (t : Int) := by omega
    clear hq2 hq7 hq15 hq16 hsw hI
    go_wp2_with fail
    refine (refRotr y2 17 (by decide) _).mono ?_
    rintro e w1 ⟨rfl, rfl⟩
    go_wp2_with fail
    refine (refRotr y2 19 (by decide) _).mono ?_
    rintro e w1 ⟨rfl, rfl⟩
    go_wp2_with fail
    refine (refShr y2 10 (by decide) _).mono ?_
    rintro e w1 ⟨rfl, rfl⟩
    go_wp2_with fail
    refine (refRotr y15 7 (by decide) _).mono ?_
    rintro e w1 ⟨rfl, rfl⟩
    go_wp2_with fail
    refine (refRotr y15 18 (by decide) _).mono ?_
    rintro e w1 ⟨rfl, rfl⟩
    go_wp2_with fail
    refine (refShr y15 3 (by decide) _).mono ?_
    rintro e wr ⟨rfl, rfl⟩
    go_wp2_with fail
    clear x2 x15
    ((have hS0 : (Below w.heap.size w wr.drew ∧ wr.drew.cell? ⟨(bw), (q7), none⟩ = some (.int .u32 (D y7)) ∧ wr.drew.cell? ⟨(bw), (q16), none⟩ = some (.int .u32 (D y16))) := ⟨(HI.out.L).drew, x7, x16⟩); (refine region_free (by kernel_rfl) [16, 17, 18] [0, 1, 2, 3, 4, 5, 6, 7, 8, 9, 10, 11, 12, 13, 14, 15] false (by kernel_rfl) (by kernel_rfl) (fun W' => (Below w.heap.size w W' ∧ W'.cell? ⟨(bw), (q7), none⟩ = some (.int .u32 (D y7)) ∧ W'.cell? ⟨(bw), (q16), none⟩ = some (.int .u32 (D y16)))) hS0 ?_); (have hSB : ∀ W' W'' : World, (Below w.heap.size w W' ∧ W'.cell? ⟨(bw), (q7), none⟩ = some (.int .u32 (D y7)) ∧ W'.cell? ⟨(bw), (q16), none⟩ = some (.int .u32 (D y16))) → Below W'.heap.size W' W'' → (Below w.heap.size w W'' ∧ W''.cell? ⟨(bw), (q7), none⟩ = some (.int .u32 (D y7)) ∧ W''.cell? ⟨(bw), (q16), none⟩ = some (.int .u32 (D y16))) := fun W' W'' ⟨h0, h1, h2⟩ hb => ⟨h0.trans (hb.mono h0.size), cell_keep h1 hb, cell_keep h2 hb⟩); (clear x7 x16); (iterate 16 (refine chainF_opL (by rfl) (by rfl) ?_ ?_ ?_; rotate_left; (focus (intro W' hS' K hK; (try simp only [put_some, List.set] at hK); (have hS'' := hS'); (obtain ⟨s0, s1, s2⟩ := hS''); go_simp; (exact hK); done)); (try simp only [put_some, List.set]))); (refine chainF_nil ?_))
    obtain ⟨z, hz⟩ : ∃ z, z = (rotrW y2 17 ^^^ rotrW y2 19 ^^^ y2 >>> 10) + y7 + (rotrW y15 7 ^^^ rotrW y15 18 ^^^ y15 >>> 3) + y16 := ⟨_, rfl⟩
    have HZ := Lib.hid (show z = rwN l (rwL l t) t from by rw [hz]; exact HX.out)
    have HI1 := Lib.hid (HI.out.below (Below.refl _ wr).drew)
    generalize wr.drew = W1 at *
    refine spine_opL (by rfl) (by rfl) (fun K hK => ?_)
    (try simp only [put_some, List.set] at hK)
    go_simp
    rw [← hz] at hK ⊢
    have hB1 : Below W1.heap.size W1 (W1.alloc (.cells #[.int .u32 (D z)] 116)) := (Below.refl _ W1).alloc (Nat.le_refl _) _
    have hS2 := hSB _ _ hS0 hB1
    refine hK _ _ hS2 ?_
    have HI3 := Lib.hid (And.intro (HI1.out.below hB1) (show Sees (W1.alloc (.cells #[.int .u32 (D z)] 116)) (some ⟨W1.heap.size, 0, none⟩) (dVals [z]) from seesD_of (heap_alloc_new W1 (.cells (dVals [z]).toArray 116))))
    have hz3 : w.heap.size ≤ (W1.alloc (.cells #[.int .u32 (D z)] 116)).heap.size := HI3.out.1.L.size
    have hzz : w.heap.size ≤ W1.heap.size := HI1.out.L.size
    clear hK K hB1 hS0 hSB hz
    generalize hbq : W1.heap.size = bq at *
    generalize hw2 : W1.alloc (.cells #[.int .u32 (D z)] 116) = W2 at *
    have hsz2 : bq < W2.heap.size := by rw [← hw2, World.size_alloc]; omega
    refine spine_opL (by rfl) (by rfl) (fun K hK => ?_)
    (try simp only [put_some, List.set] at hK)
    refine wp_append_stays (.tmp 88) (.tmp 104) 113 rfl w.heap.size 116 i0 _ 1 4 Tryz.underlying113 hi0 ia0 ia1 ia2 rfl (by decide) (.slice (some ⟨bw, 0, none⟩) t cw) t (dVals (rwL l t)) rfl ?c1 bq 1 1 (dVals [z]) rfl rfl HI3.out.2 (dVals_one _) (by unfold maxLen; omega) (by omega) hz3 (fun v' w4 hown hg hst => ?_)
    case c1 =>
     have := HI3.out.1.O
     unfold OwnD at this
     rwa [rwL_length] at this
    have HR4 := Lib.hid (HI3.out.1.grown (v' := v') (x := z) HZ.out hg hown)
    refine hK _ _ ⟨HR4.out.L, hst bw rfl q7 _ HX7.out, hst bw rfl q16 _ HX16.out⟩ ?_
    clear hK K hown hg HI3 hst hS2
    (refine spine_lastL (by rfl) (by rfl) (fun K hK => ?_); go_simp)
    refine hK _ _ (fun h => by cases h) ?_
    (try simp only [put_some, List.set])
    clear hK K
    go_wp2
    go_roundw
    case rel => exact ⟨t + 1, by omega, by go_num, HR4.out⟩
    case measure => (first | (simp [intOf]; done) | (simp [intOf]; omega))
  ·obtain rfl : t = 64 := by omega
   obtain ⟨Aw, cw, rfl, hcw, hsw, -⟩ := hI.O.open
   rw [rwL_length] at hcw ⊢
   rw [rwL_all] at hsw
   obtain ⟨xs, hxs⟩ : ∃ xs, sch l 64 = xs := ⟨_, rfl⟩
   have hxl : xs.length = 64 := by rw [← hxs]; exact sch_length l 64
   have HXS := Lib.hid hxs
   rw [hxs] at hsw
   obtain ⟨bw, ow, rfl, -⟩ := hsw (by rw [dVals_length, hxl]; decide)
   have HI := Lib.hid (show Below w.heap.size w wr from hI.L)
   have HO := Lib.hid (World.ownsRow_made (base := wr.heap.size) (e := 116) (size := 1) wr #[] 0 (Nat.le_refl _) (Nat.zero_le _) rfl)
   have HSA := Lib.hid ((HA.out wr hI.L).alloc (.cells #[] 116))
   have HSW := Lib.hid (fun W (hW : Below wr.heap.size wr W) => hsw.below hW)
   clear hI hsw hxs
   rw [show ((64 : Nat) : Int) = 64 from rfl]
   go_wp2_with (at_builtin; refine wpList_append_sees rfl _ _ 113 rfl wr.heap.size 116 i0 _ 1 4 Tryz.underlying113 hi0 ia0 ia1 ia2 rfl (by decide) _ _ _ rfl HO.out (some ⟨ba, oa, none⟩) 8 ca (dVals s.list) rfl rfl ?c2 (dVals_one _) ?c4 ?c5 ?c6 ?_)
   case c2 => exact HSA.out
   case c4 => unfold maxLen; omega
   case c5 => omega
   case c6 => simp
   intro v1 w1 hown1 hg1 _
   obtain ⟨A1, c1, rfl, hc1, hs1, -⟩ := owns_open (xs := dVals s.list) (by simpa using hown1)
   have hb1 : Below wr.heap.size wr w1 := ((Below.refl _ wr).alloc (Nat.le_refl _) _).grown hg1 (by simp) (fun k hk => by simp [Value.ownBlock] at hk; omega)
   have H2 := Lib.hid (show B2 w bw ow s xs (.slice A1 8 c1) 0 w1 from ⟨⟨_, _, rfl, hs1⟩, fun q => absurd q (by decide), HSW.out w1 hb1, HI.out.trans (hb1.mono HI.out.size)⟩)
   clear hown1 hg1 hs1 hb1 HO HSA HSW HI
   go_wp2
   go_loopw [13, 14] (fun v tv W => ∃ t : Nat, t ≤ 64 ∧ tv = .int .i64 t ∧ B2 w bw ow s xs v t W) (fun _ tv _ => 64 - (intOf tv).toNat)
   case atStart => exact ⟨0, by omega, rfl, H2.out⟩
   case round =>
    clear H2
    obtain ⟨t, ht, rfl, hB⟩ := hrel
    by_cases h64 : t < 64
    ·have h64' : (t : Int) < 64 := by omega
     have HB := Lib.hid hB
     obtain ⟨Av, cv, rfl, hSv⟩ := hB.S
     obtain ⟨bv, ov, rfl, -⟩ := hSv (by rw [dVals_length, S8.length]; decide)
     have HE := Lib.hid (show roundsS s xs (t + 1) = roundS (roundsS s xs t) (kW t) (dw xs t) from rfl)
     have hk := (HK.out wr hB.L).word t (by show t < 64; omega)
     rw [kL_at t h64] at hk
     have hx := hB.WS.word t (by rw [hxl]; omega)
     clear hB
     generalize roundsS s xs t = st at HE hSv
     generalize kW t = k at *
     generalize dw xs t = x at *
     obtain ⟨sa, sb, sc, sd, se, sf, sg, sh⟩ := st
     have HV := Lib.hid (fun W (hW : Below wr.heap.size wr W) => hSv.below hW)
     have v0 : wr.cell? ⟨bv, ov, none⟩ = some (.int .u32 (D sa)) := hSv.word 0 (by rw [S8.length]; decide)
     have v4 : wr.cell? ⟨bv, ov + 4, none⟩ = some (.int .u32 (D se)) := hSv.word 4 (by rw [S8.length]; decide)
     have v5 : wr.cell? ⟨bv, ov + 5, none⟩ = some (.int .u32 (D sf)) := hSv.word 5 (by rw [S8.length]; decide)
     have v6 : wr.cell? ⟨bv, ov + 6, none⟩ = some (.int .u32 (D sg)) := hSv.word 6 (by rw [S8.length]; decide)
     have v7 : wr.cell? ⟨bv, ov + 7, none⟩ = some (.int .u32 (D sh)) := hSv.word 7 (by rw [S8.length]; decide)
     clear hSv
     go_wp2_with fail
     clear v0 v4
     ((have hS0 : (Below wr.heap.size wr wr.drew ∧ wr.drew.cell? ⟨(bv), (ov + 5), none⟩ = some (.int .u32 (D sf)) ∧ wr.drew.cell? ⟨(bv), (ov + 6), none⟩ = some (.int .u32 (D sg)) ∧ wr.drew.cell? ⟨(bv), (ov + 7), none⟩ = some (.int .u32 (D sh)) ∧ wr.drew.cell? ⟨(bk), (ok + t), none⟩ = some (.int .u32 (D k)) ∧ wr.drew.cell? ⟨(bw), (ow + t), none⟩ = some (.int .u32 (D x))) := ⟨((Below.refl _ wr)).drew, v5, v6, v7, hk, hx⟩); (refine region_later (by kernel_rfl) [35] [0, 1, 2, 3, 4, 5, 6, 7, 8, 9, 10, 11, 12, 13, 14, 15, 16, 17, 18, 19, 20, 21, 22, 23, 24, 25, 26, 27, 28, 29, 30, 31, 32, 33, 34] true (by kernel_rfl) (by kernel_rfl) (fun W' => (Below wr.heap.size wr W' ∧ W'.cell? ⟨(bv), (ov + 5), none⟩ = some (.int .u32 (D sf)) ∧ W'.cell? ⟨(bv), (ov + 6), none⟩ = some (.int .u32 (D sg)) ∧ W'.cell? ⟨(bv), (ov + 7), none⟩ = some (.int .u32 (D sh)) ∧ W'.cell? ⟨(bk), (ok + t), none⟩ = some (.int .u32 (D k)) ∧ W'.cell? ⟨(bw), (ow + t), none⟩ = some (.int .u32 (D x)))) hS0 ?_); (have hSB : ∀ W' W'' : World, (Below wr.heap.size wr W' ∧ W'.cell? ⟨(bv), (ov + 5), none⟩ = some (.int .u32 (D sf)) ∧ W'.cell? ⟨(bv), (ov + 6), none⟩ = some (.int .u32 (D sg)) ∧ W'.cell? ⟨(bv), (ov + 7), none⟩ = some (.int .u32 (D sh)) ∧ W'.cell? ⟨(bk), (ok + t), none⟩ = some (.int .u32 (D k)) ∧ W'.cell? ⟨(bw), (ow + t), none⟩ = some (.int .u32 (D x))) → Below W'.heap.size W' W'' → (Below wr.heap.size wr W'' ∧ W''.cell? ⟨(bv), (ov + 5), none⟩ = some (.int .u32 (D sf)) ∧ W''.cell? ⟨(bv), (ov + 6), none⟩ = some (.int .u32 (D sg)) ∧ W''.cell? ⟨(bv), (ov + 7), none⟩ = some (.int .u32 (D sh)) ∧ W''.cell? ⟨(bk), (ok + t), none⟩ = some (.int .u32 (D k)) ∧ W''.cell? ⟨(bw), (ow + t), none⟩ = some (.int .u32 (D x))) := fun W' W'' ⟨h0, h1, h2, h3, h4, h5⟩ hb => ⟨h0.trans (hb.mono h0.size), cell_keep h1 hb, cell_keep h2 hb, cell_keep h3 hb, cell_keep h4 hb, cell_keep h5 hb⟩); (clear v5 v6 v7 hk hx); (iterate 35 (refine chainL_op (by rfl) (by rfl) ?_ ?_ ?_; rotate_left; (focus (intro W' hS' K hK; (try simp only [put_some, List.set] at hK); (have hS'' := hS'); (obtain ⟨s0, s1, s2, s3, s4, s5⟩ := hS''); go_simp; (first | exact hK _ hS' (Later.refl _) | (with_reducible refine Calls.mono (rotI _ _ (by decide) (by decide) _) ?_; rintro e W'' ⟨rfl, hb''⟩; exact hK _ (hSB _ _ hS' hb'') (Later.of hb''))); done)); (try simp only [put_some, List.set]))); (refine chainL_nil ?_))
     refine spineL_op (by rfl) (by rfl) (fun X1 hS1 hL1 K hK => ?_)
     (try simp only [put_some, List.set] at hK)
     go_simp
     refine hK _ _ (fun _ => hS1) ?_
     refine spineL_nil fun w2 hL2 hS2 => ?_
     have hb2 := (hS2 rfl).1
     clear hS1 hS2 hL1 hL2 hSB hS0 K hK
     have HB2 := Lib.hid (HB.out.below hb2)
     have hVV := HV.out w2 hb2
     have HV2 := Lib.hid (fun W (hW : Below w2.heap.size w2 W) => hVV.below hW)
     have v1 : w2.cell? ⟨bv, ov + 1, none⟩ = some (.int .u32 (D sb)) := hVV.word 1 (by rw [S8.length]; decide)
     have v2 : w2.cell? ⟨bv, ov + 2, none⟩ = some (.int .u32 (D sc)) := hVV.word 2 (by rw [S8.length]; decide)
     have HT1 := Lib.hid (show sh + (rotZ se 6 ^^^ rotZ se 11 ^^^ rotZ se 25) + (se &&& sf ^^^ ~~~se &&& sg) + k + x = t1W ⟨sa, sb, sc, sd, se, sf, sg, sh⟩ k x from rt1_eq sa sb sc sd se sf sg sh k x)
     generalize sh + (rotZ se 6 ^^^ rotZ se 11 ^^^ rotZ se 25) + (se &&& sf ^^^ ~~~se &&& sg) + k + x = T1 at *
     clear hb2 hVV HB HV
     go_wp2_with fail
     ((have hS0 : (Below w2.heap.size w2 w2.drew ∧ w2.drew.cell? ⟨(bv), (ov + 1), none⟩ = some (.int .u32 (D sb)) ∧ w2.drew.cell? ⟨(bv), (ov + 2), none⟩ = some (.int .u32 (D sc))) := ⟨((Below.refl _ w2)).drew, v1, v2⟩); (refine region_later (by kernel_rfl) [28] [0, 1, 2, 3, 4, 5, 6, 7, 8, 9, 10, 11, 12, 13, 14, 15, 16, 17, 18, 19, 20, 21, 22, 23, 24, 25, 26, 27] true (by kernel_rfl) (by kernel_rfl) (fun W' => (Below w2.heap.size w2 W' ∧ W'.cell? ⟨(bv), (ov + 1), none⟩ = some (.int .u32 (D sb)) ∧ W'.cell? ⟨(bv), (ov + 2), none⟩ = some (.int .u32 (D sc)))) hS0 ?_); (have hSB : ∀ W' W'' : World, (Below w2.heap.size w2 W' ∧ W'.cell? ⟨(bv), (ov + 1), none⟩ = some (.int .u32 (D sb)) ∧ W'.cell? ⟨(bv), (ov + 2), none⟩ = some (.int .u32 (D sc))) → Below W'.heap.size W' W'' → (Below w2.heap.size w2 W'' ∧ W''.cell? ⟨(bv), (ov + 1), none⟩ = some (.int .u32 (D sb)) ∧ W''.cell? ⟨(bv), (ov + 2), none⟩ = some (.int .u32 (D sc))) := fun W' W'' ⟨h0, h1, h2⟩ hb => ⟨h0.trans (hb.mono h0.size), cell_keep h1 hb, cell_keep h2 hb⟩); (clear v1 v2); (iterate 28 (refine chainL_op (by rfl) (by rfl) ?_ ?_ ?_; rotate_left; (focus (intro W' hS' K hK; (try simp only [put_some, List.set] at hK); (have hS'' := hS'); (obtain ⟨s0, s1, s2⟩ := hS''); go_simp; (first | exact hK _ hS' (Later.refl _) | (with_reducible refine Calls.mono (rotI _ _ (by decide) (by decide) _) ?_; rintro e W'' ⟨rfl, hb''⟩; exact hK _ (hSB _ _ hS' hb'') (Later.of hb''))); done)); (try simp only [put_some, List.set]))); (refine chainL_nil ?_))
     refine spineL_op (by rfl) (by rfl) (fun X1 hS1 hL1 K hK => ?_)
     (try simp only [put_some, List.set] at hK)
     go_simp
     refine hK _ _ (fun _ => hS1) ?_
     refine spineL_nil fun w3 hL2 hS2 => ?_
     have hb2 := (hS2 rfl).1
     clear hS1 hS2 hL1 hL2 hSB hS0 K hK
     have HB3 := Lib.hid (HB2.out.below hb2)
     have hVV := HV2.out w3 hb2
     have v1 : w3.cell? ⟨bv, ov + 1, none⟩ = some (.int .u32 (D sb)) := hVV.word 1 (by rw [S8.length]; decide)
     have v2 : w3.cell? ⟨bv, ov + 2, none⟩ = some (.int .u32 (D sc)) := hVV.word 2 (by rw [S8.length]; decide)
     have v3 : w3.cell? ⟨bv, ov + 3, none⟩ = some (.int .u32 (D sd)) := hVV.word 3 (by rw [S8.length]; decide)
     have v5 : w3.cell? ⟨bv, ov + 5, none⟩ = some (.int .u32 (D sf)) := hVV.word 5 (by rw [S8.length]; decide)
     have v6 : w3.cell? ⟨bv, ov + 6, none⟩ = some (.int .u32 (D sg)) := hVV.word 6 (by rw [S8.length]; decide)
     have HT2 := Lib.hid (show (rotZ sa 2 ^^^ rotZ sa 13 ^^^ rotZ sa 22) + (sa &&& sb ^^^ sa &&& sc ^^^ sb &&& sc) = t2W ⟨sa, sb, sc, sd, se, sf, sg, sh⟩ from rt2_eq sa sb sc sd se sf sg sh)
     generalize (rotZ sa 2 ^^^ rotZ sa 13 ^^^ rotZ sa 22) + (sa &&& sb ^^^ sa &&& sc ^^^ sb &&& sc) = T2 at *
     clear hb2 hVV HB2 HV2
     go_wp2_with fail
     ((have hS0 : (Below w3.heap.size w3 w3.drew ∧ w3.drew.cell? ⟨(bv), (ov + 1), none⟩ = some (.int .u32 (D sb)) ∧ w3.drew.cell? ⟨(bv), (ov + 2), none⟩ = some (.int .u32 (D sc)) ∧ w3.drew.cell? ⟨(bv), (ov + 3), none⟩ = some (.int .u32 (D sd)) ∧ w3.drew.cell? ⟨(bv), (ov + 5), none⟩ = some (.int .u32 (D sf)) ∧ w3.drew.cell? ⟨(bv), (ov + 6), none⟩ = some (.int .u32 (D sg))) := ⟨((Below.refl _ w3)).drew, v1, v2, v3, v5, v6⟩); (refine region_free (by kernel_rfl) [22, 23] [0, 1, 2, 3, 4, 5, 6, 7, 8, 9, 10, 11, 12, 13, 14, 15, 16, 17, 18, 19, 20, 21] false (by kernel_rfl) (by kernel_rfl) (fun W' => (Below w3.heap.size w3 W' ∧ W'.cell? ⟨(bv), (ov + 1), none⟩ = some (.int .u32 (D sb)) ∧ W'.cell? ⟨(bv), (ov + 2), none⟩ = some (.int .u32 (D sc)) ∧ W'.cell? ⟨(bv), (ov + 3), none⟩ = some (.int .u32 (D sd)) ∧ W'.cell? ⟨(bv), (ov + 5), none⟩ = some (.int .u32 (D sf)) ∧ W'.cell? ⟨(bv), (ov + 6), none⟩ = some (.int .u32 (D sg)))) hS0 ?_); (have hSB : ∀ W' W'' : World, (Below w3.heap.size w3 W' ∧ W'.cell? ⟨(bv), (ov + 1), none⟩ = some (.int .u32 (D sb)) ∧ W'.cell? ⟨(bv), (ov + 2), none⟩ = some (.int .u32 (D sc)) ∧ W'.cell? ⟨(bv), (ov + 3), none⟩ = some (.int .u32 (D sd)) ∧ W'.cell? ⟨(bv), (ov + 5), none⟩ = some (.int .u32 (D sf)) ∧ W'.cell? ⟨(bv), (ov + 6), none⟩ = some (.int .u32 (D sg))) → Below W'.heap.size W' W'' → (Below w3.heap.size w3 W'' ∧ W''.cell? ⟨(bv), (ov + 1), none⟩ = some (.int .u32 (D sb)) ∧ W''.cell? ⟨(bv), (ov + 2), none⟩ = some (.int .u32 (D sc)) ∧ W''.cell? ⟨(bv), (ov + 3), none⟩ = some (.int .u32 (D sd)) ∧ W''.cell? ⟨(bv), (ov + 5), none⟩ = some (.int .u32 (D sf)) ∧ W''.cell? ⟨(bv), (ov + 6), none⟩ = some (.int .u32 (D sg))) := fun W' W'' ⟨h0, h1, h2, h3, h4, h5⟩ hb => ⟨h0.trans (hb.mono h0.size), cell_keep h1 hb, cell_keep h2 hb, cell_keep h3 hb, cell_keep h4 hb, cell_keep h5 hb⟩); (clear v1 v2 v3 v5 v6); (iterate 22 (refine chainF_opL (by rfl) (by rfl) ?_ ?_ ?_; rotate_left; (focus (intro W' hS' K hK; (try simp only [put_some, List.set] at hK); (have hS'' := hS'); (obtain ⟨s0, s1, s2, s3, s4, s5⟩ := hS''); go_simp; (exact hK); done)); (try simp only [put_some, List.set]))); (refine chainF_nil ?_))
     have HB4 := Lib.hid (HB3.out.below (Below.refl _ w3).drew)
     generalize w3.drew = w4 at *
     have HR := Lib.hid (HB4.out.next (Below.refl _ w4) (r := ⟨T1 + T2, sa, sb, sc, sd + T1, se, sf, sg⟩) (by rw [HE.out, HT1.out, HT2.out]; rfl))
     refine spine_opL (by rfl) (by rfl) (fun K hK => ?_)
     (try simp only [put_some, List.set] at hK)
     go_simp
     refine hK _ _ (hSB _ _ hS0 ((Below.refl _ w4).alloc (Nat.le_refl _) _)) ?_
     clear hK K hS0 hSB
     (refine spine_lastL (by rfl) (by rfl) (fun K hK => ?_); go_simp)
     refine hK _ _ (fun h => by cases h) ?_
     (try simp only [put_some, List.set])
     clear hK K
     go_wp2
     go_roundw
     case rel => exact ⟨t + 1, by omega, by go_num, HR.out⟩
     case measure => (first | (simp [intOf]; done) | (simp [intOf]; omega))
    ·obtain rfl : t = 64 := by omega
     obtain ⟨g, rfl, hg, hD⟩ := hB.N (by decide)
     obtain ⟨st, hst⟩ : ∃ st, roundsS s xs 64 = st := ⟨_, rfl⟩
     rw [hst] at hD
     have HSS := Lib.hid (show (afterS s l).list = addT s st 8 from by rw [addT_last, ← hst, ← HXS.out]; rfl)
     have H3 := Lib.hid (show B3 w g s st 0 wr from ⟨by rw [addT_zero]; exact hD, hB.L⟩)
     clear hB hD hst
     go_wp2
     go_loopw [19] (fun iv W => ∃ i : Nat, i ≤ 8 ∧ iv = .int .i64 i ∧ B3 w g s st i W) (fun iv _ => 8 - (intOf iv).toNat)
     case atStart => exact ⟨0, by omega, rfl, H3.out⟩
     case round =>
      clear H3
      obtain ⟨i, hi, rfl, hB⟩ := hrel
      by_cases hlt : i < 8
      ·have hlt' : (i : Int) < 8 := by omega
       have c1 : wr.cell? ⟨g, i, none⟩ = some (.int .u32 (D (dw st.list i))) := (hB.V.cell i (by rw [addT_length]; exact hlt)).trans (by rw [addT_get s st i hlt]; rfl)
       have c2 := (HA.out wr hB.L).word i (by rw [S8.length]; exact hlt)
       have HE := Lib.hid (addT_succ s st i hlt)
       have HB := Lib.hid hB
       clear hB
       generalize dw st.list i = y at *
       generalize dw s.list i = x at *
       go_wp2_with fail
       ((have hS0 : (Below wr.heap.size wr wr.drew ∧ wr.drew.cell? ⟨(g), (i), none⟩ = some (.int .u32 (D y)) ∧ wr.drew.cell? ⟨(ba), (oa + i), none⟩ = some (.int .u32 (D x))) := ⟨((Below.refl _ wr)).drew, c1, c2⟩); (refine region_free (by kernel_rfl) [10] [0, 1, 2, 3, 4, 5, 6, 7, 8, 9] false (by kernel_rfl) (by kernel_rfl) (fun W' => (Below wr.heap.size wr W' ∧ W'.cell? ⟨(g), (i), none⟩ = some (.int .u32 (D y)) ∧ W'.cell? ⟨(ba), (oa + i), none⟩ = some (.int .u32 (D x)))) hS0 ?_); (have hSB : ∀ W' W'' : World, (Below wr.heap.size wr W' ∧ W'.cell? ⟨(g), (i), none⟩ = some (.int .u32 (D y)) ∧ W'.cell? ⟨(ba), (oa + i), none⟩ = some (.int .u32 (D x))) → Below W'.heap.size W' W'' → (Below wr.heap.size wr W'' ∧ W''.cell? ⟨(g), (i), none⟩ = some (.int .u32 (D y)) ∧ W''.cell? ⟨(ba), (oa + i), none⟩ = some (.int .u32 (D x))) := fun W' W'' ⟨h0, h1, h2⟩ hb => ⟨h0.trans (hb.mono h0.size), cell_keep h1 hb, cell_keep h2 hb⟩); (clear c1 c2); (iterate 10 (refine chainF_opL (by rfl) (by rfl) ?_ ?_ ?_; rotate_left; (focus (intro W' hS' K hK; (try simp only [put_some, List.set] at hK); (have hS'' := hS'); (obtain ⟨s0, s1, s2⟩ := hS''); go_simp; (exact hK); done)); (try simp only [put_some, List.set]))); (refine chainF_nil ?_))
       have HB1 := Lib.hid (show B3 w g s st i wr.drew from ⟨HB.out.V, HB.out.L.drew⟩)
       have c1 := hS0.2.1
       have fr : wr.drew.frozen? ⟨g, i, none⟩ = false := HB.out.V.frozen i
       generalize wr.drew = w1 at *
       have HN := Lib.hid (show B3 w g s st (i + 1) (w1.setCell ⟨g, i, none⟩ (.int .u32 (D (y + x)))) from ⟨by rw [HE.out]; exact HB1.out.V.set i _, HB1.out.L.setCell hg _⟩)
       clear hS0 hSB HB
       refine spine_lastL (by rfl) (by rfl) (fun K hK => ?_)
       go_simp
       refine hK undef _ (fun h => by cases h) ?_
       rw [put_none]
       clear hK K
       go_wp2
       go_roundw
       case rel => exact ⟨i + 1, by omega, by go_num, HN.out⟩
       case measure => (first | (simp [intOf]; done) | (simp [intOf]; omega))
      ·obtain rfl : i = 8 := by omega
       go_wp2
       go_ret
       exact ⟨g, rfl, hg, by rw [HSS.out]; exact hB.V, hB.L⟩
end Go.Proofs.YtccgfladbibjbaaGreatDoor
