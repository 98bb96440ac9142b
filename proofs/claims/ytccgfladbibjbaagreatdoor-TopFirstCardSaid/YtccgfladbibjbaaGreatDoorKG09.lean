/- Package field: Contains, Subtract; mont's multiplyAdd. -/
import Derived.Test.YtccgfladbibjbaaGreatDoorKG08
import Derived.Deep.RegionHeld3
namespace Go.Proofs.YtccgfladbibjbaaGreatDoor
open Go.RowKit
attribute [local go_sem ↓] add_UU sub_UU mul_UU add_UL add_LU sub_UL sub_LU mul_UL neg_at not_at and_UU or_UU xor_UU andNot_UU and_UL or_LU shr_UL shl_UL shr_UN shl_UN shl_LN quo_UL rem_UL quo_UU rem_UU
attribute [local go_sem] wrap64_N wrapi_mod wrap8_U wrap32_U wrap64_B wrap32_B wrap8_D wrapi_B wrap64_UU eq_UU ne_UU eq_UL ne_UL lt_UU le_UU
structure FP where
 id : Int
 p : V4
 inv : BitVec 64
 one : V4
 sq : V4
def FP.arr (f : FP) : Array Value := #[.int .i64 f.id, .int .u64 (U f.p.x0), .int .u64 (U f.p.x1), .int .u64 (U f.p.x2), .int .u64 (U f.p.x3), .int .u64 (U f.inv), .int .u64 (U f.one.x0), .int .u64 (U f.one.x1), .int .u64 (U f.one.x2), .int .u64 (U f.one.x3), .int .u64 (U f.sq.x0), .int .u64 (U f.sq.x1), .int .u64 (U f.sq.x2), .int .u64 (U f.sq.x3)]
def FP.val (f : FP) : Value := .agg f.arr
def IsF (w : World) (b : Nat) (f : FP) : Prop := w.heap[b]? = some (.cells f.arr 67 (0, 0))
theorem IsF.cell {w : World} {b : Nat} {f : FP} (h : IsF w b f) (k : Nat) : w.cell? ⟨b, k, none⟩ = f.arr[k]? := by
 unfold World.cell?
 simp only []
 rw [show w.heap[b]? = _ from h]
 rfl
theorem IsF.newAt (w : World) (f : FP) (n : Nat) (hn : n = w.heap.size) : IsF (w.alloc (.cells f.arr 67)) n f := by subst hn; exact heap_alloc_new w _
theorem IsF.below {w w' : World} {b B : Nat} {f : FP} (h : IsF w b f) (hb : Below B w w') (hlt : b < B) : IsF w' b f := (hb.block b hlt).trans h
theorem IsF.lt {w : World} {b : Nat} {f : FP} (h : IsF w b f) : b < w.heap.size := (Array.getElem?_eq_some_iff.1 h).1
theorem IsF.alloc {w : World} {b : Nat} {f : FP} (h : IsF w b f) (o : Obj) : IsF (w.alloc o) b f := (Below.heap_alloc w o b h.lt).trans h
theorem IsF.mod {w : World} {b : Nat} {f : FP} (h : IsF w b f) : w.cell? ⟨b, 1, none⟩ = some (.int .u64 (U f.p.x0)) ∧ w.cell? ⟨b, 2, none⟩ = some (.int .u64 (U f.p.x1)) ∧ w.cell? ⟨b, 3, none⟩ = some (.int .u64 (U f.p.x2)) ∧ w.cell? ⟨b, 4, none⟩ = some (.int .u64 (U f.p.x3)) :=
 ⟨h.cell 1, h.cell 2, h.cell 3, h.cell 4⟩
theorem contains (f : FP) (a : V4) (w : World) :
  Calls Tryz.prog 37 #[f.val, a.val] w fun e w' => e = .returned (.int .u64 (U (maskW (decide (a.num < f.p.num))))) ∧ Below w.heap.size w w' := by
 have hF := (IsF.newAt w f _ rfl).alloc (.cells a.arr 45)
 have hV := IsVec.newAt (w.alloc (.cells f.arr 67)) 45 a (w.heap.size + 1) (by simp)
 obtain ⟨m0, m1, m2, m3⟩ := hF.mod
 have a0 := hV.cell 0 (by omega)
 have a1 := hV.cell 1 (by omega)
 have a2 := hV.cell 2 (by omega)
 have a3 := hV.cell 3 (by omega)
 have HL := Lib.hid (limbLess a f.p)
 clear hF hV
 unfold FP.arr V4.arr at m0 m1 m2 m3 a0 a1 a2 a3
 unfold V4.val V4.arr at HL
 unfold FP.val FP.arr V4.val V4.arr
 go_enter Tryz.func37, Tryz.ntmps37
 go_wp2_with fail
 refine (HL.out _).mono ?_
 rintro e w1 ⟨rfl, hb1⟩
 have HB := Lib.hid ((((Below.refl _ w).alloc (Nat.le_refl _) _).alloc (by simp) _).trans (hb1.mono (by simp; omega)))
 clear hb1
 go_wp2
 go_ret
 exact ⟨rfl, HB.out⟩
theorem multiplyAdd (a b c d : BitVec 64) (w : World) :
  Calls Tryz.prog 106 #[.int .u64 (U a), .int .u64 (U b), .int .u64 (U c), .int .u64 (U d)] w fun e w' => e = .returned (.tuple #[.int .u64 (U (mulStep a b c d).2), .int .u64 (U (mulStep a b c d).1)]) ∧ w = w' := by
 have HM := Lib.hid (mul64 a b)
 have hcall := call_add0
 go_enter Tryz.func106, Tryz.ntmps106
 go_wp2_with fail
 refine (HM.out _).mono ?_
 rintro e w1 ⟨rfl, rfl⟩
 go_wp2
 go_ret2
 exact ⟨rfl, rfl⟩
end Go.Proofs.YtccgfladbibjbaaGreatDoor
namespace Go.Proofs.YtccgfladbibjbaaGreatDoor
open Go.RowKit
attribute [local go_sem ↓] add_UU sub_UU mul_UU add_UL add_LU sub_UL sub_LU mul_UL neg_at not_at and_UU or_UU xor_UU andNot_UU and_UL or_LU shr_UL shl_UL shr_UN shl_UN shl_LN quo_UL rem_UL quo_UU rem_UU
attribute [local go_sem] wrap64_N wrapi_mod wrap8_U wrap32_U wrap64_B wrap32_B wrap8_D wrapi_B wrap64_UU eq_UU ne_UU eq_UL ne_UL lt_UU le_UU
def subP (p a : V4) (c : BitVec 64) : V4 := if ((fromBitW (bw (chainN subF a p 4).2) &&& ~~~fromBitW c) % 2#64 == 1#64) = true then a else (chainN subF a p 4).1
def zcell (w : World) (b i : Nat) : Value := (w.cell? ⟨b, i, none⟩).getD undef
theorem zcell_eq {w : World} {b i : Nat} {v : Value} (h : w.cell? ⟨b, i, none⟩ = some v) : w.cell? ⟨b, i, none⟩ = some (zcell w b i) := by unfold zcell; rw [h]; rfl
def SubI (w0 w : World) (a d : V4) (db : Nat) : Prop := IsVec w (w0.heap.size + 1) 45 a ∧ IsVec w db 45 d ∧ (∃ z, IsVec w (w0.heap.size + 1 + 1) 45 z) ∧ Below w0.heap.size w0 w ∧ w0.heap.size + 1 + 1 < db
theorem SubI.call {w0 w w' : World} {a d : V4} {db : Nat} (h : SubI w0 w a d db) (hb : Below w.heap.size w w') : SubI w0 w' a d db :=
 ⟨h.1.below hb h.1.lt, h.2.1.below hb h.2.1.lt, h.2.2.1.imp fun _ hz => hz.below hb hz.lt, h.2.2.2.1.trans (hb.mono h.2.2.2.1.size), h.2.2.2.2⟩
theorem SubI.stored {w0 w : World} {a d : V4} {db : Nat} (h : SubI w0 w a d db) (r : V4) : SubI w0 ((((w.setCell ⟨w0.heap.size + 1 + 1, 0, none⟩ (.int .u64 (U r.x0))).setCell ⟨w0.heap.size + 1 + 1, 1, none⟩ (.int .u64 (U r.x1))).setCell ⟨w0.heap.size + 1 + 1, 2, none⟩ (.int .u64 (U r.x2))).setCell ⟨w0.heap.size + 1 + 1, 3, none⟩ (.int .u64 (U r.x3))) a d db := by
 obtain ⟨h1, h2, ⟨z, hz⟩, h4, h5⟩ := h
 have hne : w0.heap.size + 1 ≠ w0.heap.size + 1 + 1 := by omega
 have hne2 : db ≠ w0.heap.size + 1 + 1 := by omega
 refine ⟨(((h1.other _ _ hne).other _ _ hne).other _ _ hne).other _ _ hne, (((h2.other _ _ hne2).other _ _ hne2).other _ _ hne2).other _ _ hne2, ⟨_, (((hz.set 0 (by decide) r.x0).set 1 (by decide) r.x1).set 2 (by decide) r.x2).set 3 (by decide) r.x3⟩, ?_, h5⟩
 exact (((h4.setCell (p := ⟨w0.heap.size + 1 + 1, 0, none⟩) (by simp; omega) _).setCell (p := ⟨w0.heap.size + 1 + 1, 1, none⟩) (by simp; omega) _).setCell (p := ⟨w0.heap.size + 1 + 1, 2, none⟩) (by simp; omega) _).setCell (p := ⟨w0.heap.size + 1 + 1, 3, none⟩) (by simp; omega) _
theorem SubI.full {w0 w : World} {a d : V4} {db : Nat} (h : SubI w0 w a d db) : w.cell? ⟨w0.heap.size + 1, 0, none⟩ = some (.int .u64 (U a.x0)) ∧ w.cell? ⟨w0.heap.size + 1, 1, none⟩ = some (.int .u64 (U a.x1)) ∧ w.cell? ⟨w0.heap.size + 1, 2, none⟩ = some (.int .u64 (U a.x2)) ∧ w.cell? ⟨w0.heap.size + 1, 3, none⟩ = some (.int .u64 (U a.x3)) ∧ w.cell? ⟨db, 0, none⟩ = some (.int .u64 (U d.x0)) ∧ w.cell? ⟨db, 1, none⟩ = some (.int .u64 (U d.x1)) ∧ w.cell? ⟨db, 2, none⟩ = some (.int .u64 (U d.x2)) ∧ w.cell? ⟨db, 3, none⟩ = some (.int .u64 (U d.x3)) ∧ w.cell? ⟨w0.heap.size + 1 + 1, 0, none⟩ = some (zcell w (w0.heap.size + 1 + 1) 0) ∧ w.frozen? ⟨w0.heap.size + 1 + 1, 0, none⟩ = false ∧ w.cell? ⟨w0.heap.size + 1 + 1, 1, none⟩ = some (zcell w (w0.heap.size + 1 + 1) 1) ∧ w.frozen? ⟨w0.heap.size + 1 + 1, 1, none⟩ = false ∧ w.cell? ⟨w0.heap.size + 1 + 1, 2, none⟩ = some (zcell w (w0.heap.size + 1 + 1) 2) ∧ w.frozen? ⟨w0.heap.size + 1 + 1, 2, none⟩ = false ∧ w.cell? ⟨w0.heap.size + 1 + 1, 3, none⟩ = some (zcell w (w0.heap.size + 1 + 1) 3) ∧ w.frozen? ⟨w0.heap.size + 1 + 1, 3, none⟩ = false ∧ SubI w0 w a d db :=
 let ⟨h1, h2, ⟨_, hz⟩, _, _⟩ := h
 ⟨h1.cell 0 (by decide), h1.cell 1 (by decide), h1.cell 2 (by decide), h1.cell 3 (by decide), h2.cell 0 (by decide), h2.cell 1 (by decide), h2.cell 2 (by decide), h2.cell 3 (by decide),
  zcell_eq (hz.cell 0 (by decide)), hz.frozen 0, zcell_eq (hz.cell 1 (by decide)), hz.frozen 1, zcell_eq (hz.cell 2 (by decide)), hz.frozen 2, zcell_eq (hz.cell 3 (by decide)), hz.frozen 3, h⟩
theorem setCell_block (w : World) (b k : Nat) (u : Value) : (w.setCell ⟨b, k, none⟩ u).heap[b]? = (w.heap[b]?).map fun o => match o with | .cells cs t fz => .cells (cs.setIfInBounds k u) t fz | o => o := by
 show (w.heap.modify b _)[b]? = _
 by_cases hb : b < w.heap.size
 ·rw [Array.getElem?_eq_getElem (by rw [Array.size_modify]; exact hb), Array.getElem_modify_self, Array.getElem?_eq_getElem hb]
  rfl
 ·rw [Array.getElem?_eq_none (by rw [Array.size_modify]; omega), Array.getElem?_eq_none (by omega)]
  rfl
theorem stored_vec {w : World} {b : Nat} {t : TypeId} {z r : V4} (h : IsVec ((((w.setCell ⟨b, 0, none⟩ (.int .u64 (U r.x0))).setCell ⟨b, 1, none⟩ (.int .u64 (U r.x1))).setCell ⟨b, 2, none⟩ (.int .u64 (U r.x2))).setCell ⟨b, 3, none⟩ (.int .u64 (U r.x3))) b t z) :
  IsVec ((((w.setCell ⟨b, 0, none⟩ (.int .u64 (U r.x0))).setCell ⟨b, 1, none⟩ (.int .u64 (U r.x1))).setCell ⟨b, 2, none⟩ (.int .u64 (U r.x2))).setCell ⟨b, 3, none⟩ (.int .u64 (U r.x3))) b t r := by
 unfold IsVec at *
 rw [setCell_block, setCell_block, setCell_block, setCell_block] at *
 cases ho : w.heap[b]? with
 | none => rw [ho] at h; cases h
 | some o =>
  rw [ho] at h
  cases o with
  | cells cs ty fz =>
   simp only [Option.map_some, Option.some.injEq, Obj.cells.injEq] at h ⊢
   obtain ⟨h1, h2, h3⟩ := h
   refine ⟨?_, h2, h3⟩
   have hs : cs.size = 4 := by
    have := congrArg Array.size h1
    simpa [V4.arr] using this
   apply Array.ext
   ·simp [hs, V4.arr]
   ·intro i hi _
    simp [hs] at hi
    match i, hi with
    | 0, _ => simp [V4.arr, hs]
    | 1, _ => simp [V4.arr, hs]
    | 2, _ => simp [V4.arr, hs]
    | 3, _ => simp [V4.arr]
  | _ => simp at h
set_option maxRecDepth 20000 in
set_option maxHeartbeats 4000000 in
theorem subtract (f : FP) (a : V4) (c : BitVec 64) (w : World) :
  Calls Tryz.prog 108 #[f.val, a.val, .int .u64 (U c)] w fun e w' => e = .returned (subP f.p a c).val ∧ Below w.heap.size w w' := by
 have hF := ((IsF.newAt w f _ rfl).alloc (.cells a.arr 45)).alloc (.cells V4.zero.arr 45)
 have hV := (IsVec.newAt (w.alloc (.cells f.arr 67)) 45 a (w.heap.size + 1) (by simp)).alloc (.cells V4.zero.arr 45)
 have hZ := IsVec.newAt ((w.alloc (.cells f.arr 67)).alloc (.cells a.arr 45)) 45 V4.zero (w.heap.size + 1 + 1) (by simp)
 obtain ⟨m0, m1, m2, m3⟩ := hF.mod
 have a0 := hV.cell 0 (by omega)
 have a1 := hV.cell 1 (by omega)
 have a2 := hV.cell 2 (by omega)
 have a3 := hV.cell 3 (by omega)
 have HB0 := Lib.hid (show Below w.heap.size w (((w.alloc (.cells f.arr 67)).alloc (.cells a.arr 45)).alloc (.cells V4.zero.arr 45)) from by go_grown)
 have HL := Lib.hid (limbSub a f.p)
 obtain ⟨d, hd⟩ : ∃ d, d = (chainN subF a f.p 4).1 := ⟨_, rfl⟩
 obtain ⟨bo, hbo⟩ : ∃ bo, bo = bw (chainN subF a f.p 4).2 := ⟨_, rfl⟩
 have HR := Lib.hid (show subP f.p a c = if ((fromBitW bo &&& ~~~fromBitW c) % 2#64 == 1#64) = true then a else d by rw [hd, hbo]; rfl)
 rw [← hd, ← hbo] at HL
 have HVZ := Lib.hid (And.intro hV hZ)
 clear hF hV hZ hd hbo
 have HM1 := Lib.hid (fun W => (fromBit bo W).mono (R' := fun e w' => e = .returned (.int .u64 (U (fromBitW bo))) ∧ Below W.heap.size W w') fun e w' h => ⟨h.1, by rw [← h.2]; exact Below.refl _ _⟩)
 have HM2 := Lib.hid (fun W => (fromBit c W).mono (R' := fun e w' => e = .returned (.int .u64 (U (fromBitW c))) ∧ Below W.heap.size W w') fun e w' h => ⟨h.1, by rw [← h.2]; exact Below.refl _ _⟩)
 have HC := Lib.hid (limbChoose (fromBitW bo &&& ~~~fromBitW c) a d)
 rw [← HR.out] at HC
 generalize subP f.p a c = r at *
 clear HR
 unfold FP.arr V4.arr at m0 m1 m2 m3 a0 a1 a2 a3
 unfold V4.val V4.arr at HL HC
 unfold FP.val FP.arr V4.val V4.arr
 go_enter Tryz.func108, Tryz.ntmps108
 go_wp2_with fail
 refine (HL.out _).mono ?_
 rintro e w1 ⟨rfl, hb1⟩
 have HS := Lib.hid (show SubI w (w1.alloc (.cells d.arr 45)) a d w1.heap.size from by
  have h1 := HVZ.out.1.below hb1 (by simp)
  have h2 := HVZ.out.2.below hb1 (by simp)
  have h3 := hb1.size
  simp at h3
  exact ⟨h1.alloc _, IsVec.newAt w1 _ d _ rfl, ⟨_, h2.alloc _⟩, (HB0.out.trans (hb1.mono (by simp; omega))).alloc (by omega) _, by omega⟩)
 clear hb1 m0 m1 m2 m3 a0 a1 a2 a3 HVZ HB0 HL
 go_wp2
 go_region_held3 (fun w' => w'.cell? ⟨w.heap.size + 1, 0, none⟩ = some (.int .u64 (U a.x0)) ∧ w'.cell? ⟨w.heap.size + 1, 1, none⟩ = some (.int .u64 (U a.x1)) ∧ w'.cell? ⟨w.heap.size + 1, 2, none⟩ = some (.int .u64 (U a.x2)) ∧ w'.cell? ⟨w.heap.size + 1, 3, none⟩ = some (.int .u64 (U a.x3)) ∧ w'.cell? ⟨w1.heap.size, 0, none⟩ = some (.int .u64 (U d.x0)) ∧ w'.cell? ⟨w1.heap.size, 1, none⟩ = some (.int .u64 (U d.x1)) ∧ w'.cell? ⟨w1.heap.size, 2, none⟩ = some (.int .u64 (U d.x2)) ∧ w'.cell? ⟨w1.heap.size, 3, none⟩ = some (.int .u64 (U d.x3)) ∧ w'.cell? ⟨w.heap.size + 1 + 1, 0, none⟩ = some (zcell w' (w.heap.size + 1 + 1) 0) ∧ w'.frozen? ⟨w.heap.size + 1 + 1, 0, none⟩ = false ∧ w'.cell? ⟨w.heap.size + 1 + 1, 1, none⟩ = some (zcell w' (w.heap.size + 1 + 1) 1) ∧ w'.frozen? ⟨w.heap.size + 1 + 1, 1, none⟩ = false ∧ w'.cell? ⟨w.heap.size + 1 + 1, 2, none⟩ = some (zcell w' (w.heap.size + 1 + 1) 2) ∧ w'.frozen? ⟨w.heap.size + 1 + 1, 2, none⟩ = false ∧ w'.cell? ⟨w.heap.size + 1 + 1, 3, none⟩ = some (zcell w' (w.heap.size + 1 + 1) 3) ∧ w'.frozen? ⟨w.heap.size + 1 + 1, 3, none⟩ = false ∧ SubI w w' a d w1.heap.size) (first | exact (SubI.call HS.out ((Below.refl _ _).drew)).full | exact (SubI.call (‹_ ∧ _ ∧ _ ∧ _ ∧ _ ∧ _ ∧ _ ∧ _ ∧ _ ∧ _ ∧ _ ∧ _ ∧ _ ∧ _ ∧ _ ∧ _ ∧ SubI w _ a d w1.heap.size›).2.2.2.2.2.2.2.2.2.2.2.2.2.2.2.2 (by assumption)).full | exact (SubI.stored (‹_ ∧ _ ∧ _ ∧ _ ∧ _ ∧ _ ∧ _ ∧ _ ∧ _ ∧ _ ∧ _ ∧ _ ∧ _ ∧ _ ∧ _ ∧ _ ∧ SubI w w4 a d w1.heap.size›).2.2.2.2.2.2.2.2.2.2.2.2.2.2.2.2 r).full)
  (first
   | (go_at_call 101; with_reducible refine (HM1.out _).mono ?_; rintro e w2 ⟨rfl, hb2⟩)
   | (go_at_call 101; with_reducible refine (HM2.out _).mono ?_; rintro e w3 ⟨rfl, hb3⟩)
   | (go_at_call 130; with_reducible refine (HC.out _).mono ?_; rintro e w4 ⟨rfl, hb4⟩))
 have hF := (‹_ ∧ _ ∧ _ ∧ _ ∧ _ ∧ _ ∧ _ ∧ _ ∧ _ ∧ _ ∧ _ ∧ _ ∧ _ ∧ _ ∧ _ ∧ _ ∧ SubI w _ a d w1.heap.size›).2.2.2.2.2.2.2.2.2.2.2.2.2.2.2.2
 rename_i hHeld
 clear hHeld
 obtain ⟨_, _, ⟨z, hz⟩, hB, _⟩ := hF
 have hz := stored_vec hz
 have d0 := hz.cell 0 (by omega)
 have d1 := hz.cell 1 (by omega)
 have d2 := hz.cell 2 (by omega)
 have d3 := hz.cell 3 (by omega)
 have HB := Lib.hid hB
 clear hz hB
 go_wp2
 refine bodyPost_ret (v := .agg #[.int .u64 (U r.x0), .int .u64 (U r.x1), .int .u64 (U r.x2), .int .u64 (U r.x3)]) (by simp [results, Tryz.results108, go_sem, d0, d1, d2, d3]; exact ⟨rfl, rfl, rfl, rfl⟩) rfl ⟨rfl, HB.out⟩
end Go.Proofs.YtccgfladbibjbaaGreatDoor
