/- lagrange.Check, where all is well. -/
import Derived.Test.YtccgfladbibjbaaGreatDoorKG24
import Derived.Maps.OwnSet
import Derived.Maps.OwnOps
import Derived.Test.YtccgfladbibjbaaGreatDoorKG03
namespace Go.Proofs.YtccgfladbibjbaaGreatDoor
open Go.RowKit Go.Maps
attribute [local go_sem ↓] add_UU sub_UU mul_UU add_UL add_LU sub_UL sub_LU mul_UL neg_at not_at and_UU or_UU xor_UU andNot_UU and_UL or_LU shr_UL shl_UL shr_UN shl_UN shl_LN quo_UL rem_UL quo_UU rem_UU
attribute [local go_sem] wrap64_N wrapi_mod wrap8_U wrap32_U wrap64_B wrap32_B wrap8_D wrapi_B wrap64_UU eq_UU ne_UU eq_UL ne_UL lt_UU le_UU
theorem law3 : Keyed Tryz.prog 3 := int_keyed Tryz.underlying3
def setT (xs : List Int) : Nat → DataW Unit
 | 0 => .map []
 | k + 1 => (setT xs k).put (.int .i64 (atI xs k)) (.lit (.bool true))
def okPts (xs : List Int) : Prop := (∀ j, j < xs.length → 1 ≤ atI xs j ∧ atI xs j ≤ 255) ∧ ∀ j k, j < xs.length → k < xs.length → atI xs j = atI xs k → j = k
theorem setT_has (xs : List Int) (x : Int) : ∀ k, (∀ j, j < k → atI xs j ≠ x) → Maps.has (setT xs k) (.int .i64 x) = false
 | 0, _ => rfl
 | k + 1, h => by
  rw [setT, has_put_other (fun e => h k (Nat.lt_succ_self k) (by injection e with _ e; exact e.symm))]
  exact setT_has xs x k fun j hj => h j (by omega)
set_option maxRecDepth 100000 in
set_option maxHeartbeats 4000000 in
theorem lagCheck (A : Option Addr) (cap : Nat) (xs : List Int) (hn : xs.length ≤ 1073741824) (hok : okPts xs) (w : World) (hS : Sees w A (iVals xs)) :
  Calls Tryz.prog 111 #[.slice A xs.length cap] w fun e w' => e = .returned (.int .i64 0) ∧ Below w.heap.size w w' := by
 have hmm := @run_makeMap Tryz.prog
 have HS := Lib.hid hS
 clear hS
 go_enter Tryz.func111, Tryz.ntmps111
 go_wp2
 clear hmm
 go_loopw [5, 9] (fun _ iv W => ∃ k : Nat, k ≤ xs.length ∧ iv = .int .i64 k ∧ W.ownsMap Tryz.prog 3 (plainElem Tryz.prog 4) w.heap.size k (setT xs k) ∧ Maps.size (setT xs k) = k ∧ Below w.heap.size w W) (fun _ iv _ => xs.length - (intOf iv).toNat)
 case atStart => exact ⟨0, by omega, rfl, World.ownsMap_made _ _ _ _, rfl, (Below.refl _ w).alloc (Nat.le_refl _) _⟩
 case round =>
  obtain ⟨k, hk, rfl, hO, hz, hB⟩ := hrel
  by_cases hlt : k < xs.length
  ·have hlt' : (k : Int) < (xs.length : Int) := by omega
   obtain ⟨b, o, rfl, hb⟩ := HS.out.addr (by rw [iVals_length]; omega)
   have hc := (HS.out.below hB).int k hlt
   have hx := hok.1 k hlt
   have hx1 : ¬ atI xs k < 1 := by omega
   have hx2 : ¬ atI xs k > 255 := by omega
   have hx3 : ¬ 255 < atI xs k := by omega
   have HX := Lib.hid (show Maps.size (setT xs (k + 1)) = k + 1 from by
    rw [setT, size_put (hO.tidy law3), setT_has xs (atI xs k) k (fun j hj e => by have := hok.2 j k (by omega) hlt e; omega)]
    simp [hz])
   have HD := Lib.hid (show setT xs (k + 1) = (setT xs k).put (.int .i64 (atI xs k)) (.lit (.bool true)) from rfl)
   have HO := Lib.hid (And.intro hO hB)
   have hwf : (Lit.int .i64 (atI xs k)).wf = true := WalkArith.wf_i64 (by omega)
   generalize atI xs k = x at *
   clear hO hB hz hx
   go_wp2_with (at_mapUpdate; refine wpList_mapUpdate_own _ rfl _ _ _ 196 rfl 3 4 law3 Tryz.underlying196 _ w.heap.size k _ rfl HO.out.1 (by unfold maxLen; omega) _ _ _ rfl rfl (keyOf_int_mk Tryz.underlying3 hwf) _ [] (plainElem_bool Tryz.underlying4 true) ?_; intro w1 hown1 hgrow1)
   have H1 := Lib.hid (And.intro hown1 (HO.out.2.grown hgrow1 HO.out.2.size (fun j hj => by cases hj; exact Nat.le_refl _)))
   clear hown1 hgrow1
   go_wp2
   go_roundw
   case rel => exact ⟨k + 1, by omega, by go_num, by rw [HD.out]; exact H1.out.1, HX.out, H1.out.2⟩
   case measure => (first | (simp [intOf]; done) | (simp [intOf]; omega))
  ·obtain rfl : k = xs.length := by omega
   have hnl : ¬ ((Maps.size (setT xs xs.length) : Nat) : Int) < (xs.length : Int) := by rw [hz]; omega
   have HO := Lib.hid (And.intro hO hB)
   clear hB
   go_wp2_with (at_len; refine wpList_len_own _ rfl _ 196 rfl 3 4 Tryz.underlying196 _ w.heap.size _ _ rfl HO.out.1 ?_)
   go_ret
   exact ⟨rfl, HO.out.2⟩
end Go.Proofs.YtccgfladbibjbaaGreatDoor
namespace Go.Proofs.YtccgfladbibjbaaGreatDoor
open Go.RowKit
attribute [local go_sem ↓] add_UU sub_UU mul_UU add_UL add_LU sub_UL sub_LU mul_UL neg_at not_at and_UU or_UU xor_UU andNot_UU and_UL or_LU shr_UL shl_UL shr_UN shl_UN shl_LN quo_UL rem_UL quo_UU rem_UU
attribute [local go_sem] wrap64_N wrapi_mod wrap8_U wrap32_U wrap64_B wrap32_B wrap8_D wrapi_B wrap64_UU eq_UU ne_UU eq_UL ne_UL lt_UU le_UU
attribute [local simp] putAgg_size
attribute [local go_sem ↓] loadVar_F loadVar_E loadVar_V loadVar_B32 storeVar_F storeVar_E storeVar_V storeVar_B32 box_F box_E box_V box_B32
attribute [local go_sem ↓ high] V4.cells_val FP.cells_val
attribute [local go_sem] run_loadF run_loadE run_loadV run_loadB32 run_storeF run_storeE run_storeV run_storeB32 run_boxA aggAt_drew aggAt_drewN aggAt_alloc_new aggAt_alloc_past aggAt_setCell_other aggAt_putAgg_other aggAt_putAgg_new putAgg_drew putAgg_size putAgg_alloc_new putAgg_alloc_past putAgg_cell_other putAgg_frozen_other V4.agg_arr FP.agg_arr V4.size_arr FP.size_arr V4.fits FP.fits fitsA_agg4 lt_2 ne_2 en_2 lt_3 ne_3 en_3 lt_4 ne_4 en_4 lt_5 ne_5 en_5 lt_6 ne_6 en_6
def TwoI (f : FP) (w : World) (g : Nat) (p : List V4) (D : Nat) (o : List V4) (W : World) : Prop := W.heap[w.heap.size]? = some (.cells f.arr 67 (0, 0)) ∧ IsEs W g p ∧ IsEs W D o ∧ Below w.heap.size w W
theorem TwoI.below {f : FP} {w W W' : World} {g D : Nat} {p o : List V4} (h : TwoI f w g p D o W) (hb : Below W.heap.size W W') : TwoI f w g p D o W' :=
 ⟨(hb.block _ (Array.getElem?_eq_some_iff.1 h.1).1).trans h.1, h.2.1.below hb, h.2.2.1.below hb, h.2.2.2.trans (hb.mono h.2.2.2.size)⟩
theorem TwoI.put {f : FP} {w W : World} {g D : Nat} {p o : List V4} (h : TwoI f w g p D o W) (h1 : w.heap.size < D) (h2 : g ≠ D) (k : Nat) (hk : k < o.length) (v : V4) : TwoI f w g p D (o.set k v) (putAgg W D (k * 4) v.arr) :=
 ⟨(putAgg_block _ _ _ _ _ (by omega)).trans h.1, h.2.1.other h2, h.2.2.1.put k hk v, putAgg_below h.2.2.2 (by omega)⟩
theorem set_set {α : Type} (l : List α) (i : Nat) (a b : α) : (l.set i a).set i b = l.set i b := List.set_set ..
def weights (f : FP) (xs : List Int) : List V4 := batch f (wts f (pts f xs))
set_option maxRecDepth 100000 in
set_option maxHeartbeats 4000000 in
theorem lagWeights (f : FP) (A : Option Addr) (cap : Nat) (xs : List Int) (hn0 : 0 < xs.length) (hn : xs.length ≤ 1048576) (hok : okPts xs) (w : World) (hS : Sees w A (iVals xs)) :
  Calls Tryz.prog 83 #[.pointer none, f.val, .slice A xs.length cap] w fun e w' => ∃ b, e = .returned (.tuple #[.slice (some ⟨b, 0, none⟩) xs.length xs.length, .int .i64 0]) ∧ w.heap.size ≤ b ∧ IsEs w' b (weights f xs) ∧ Below w.heap.size w w' := by
 have hb0 : Below w.heap.size w (w.alloc (.cells f.arr 67)) := (by repeat (first | with_reducible assumption | with_reducible exact Below.refl _ _ | (with_reducible refine putAgg_below ?_ (by first | omega | (simp; done) | (simp; omega))) | (with_reducible refine Below.alloc ?_ (by first | omega | (simp; done) | (simp; omega)) _) | (with_reducible refine Below.setCell ?_ (by first | omega | (simp; done) | (simp; omega)) _) | (with_reducible refine Below.drew ?_) | (with_reducible refine Below.trans ?_ (Below.mono (by with_reducible assumption) (by first | omega | (simp; done) | (simp; omega))))))
 have HC := Lib.hid (lagCheck A cap xs (by omega) hok _ (hS.below hb0))
 have HF := Lib.hid (show (w.alloc (.cells f.arr 67)).heap[w.heap.size]? = some (.cells f.arr 67 (0, 0)) from IsF.newAt w f _ rfl)
 have HS := Lib.hid hS
 have HB0 := Lib.hid hb0
 clear hS hb0
 go_enter Tryz.func83, Tryz.ntmps83
 go_wp2_with fail
 refine HC.out.mono ?_
 rintro e w1 ⟨rfl, hb1⟩
 have hF1 := (hb1.block w.heap.size (by simp)).trans HF.out
 have HB1 := Lib.hid (HB0.out.trans (hb1.mono (by simp)))
 have hz1 : w.heap.size < w1.heap.size := (Array.getElem?_eq_some_iff.1 hF1).1
 have pF := aggF_of_block hF1
 have HF1 := Lib.hid hF1
 clear hb1 HC HF HB0 hF1
 go_wp2_with fail
 refine (points f A cap xs (by omega) w1 (HS.out.below HB1.out)).mono ?_
 rintro e w2 ⟨g, rfl, hg, hE, hb2⟩
 have hlen : (pts f xs).length = xs.length := pts_length f xs
 obtain ⟨p, hp⟩ : ∃ p, p = pts f xs := ⟨_, rfl⟩
 rw [← hp] at hE hlen
 have HP := Lib.hid (show weights f xs = batch f (wts f p) from by rw [hp]; rfl)
 obtain ⟨n, hnn⟩ : ∃ n, n = xs.length := ⟨_, rfl⟩
 rw [← hnn] at hlen hn0 hn ⊢
 have hmk := makeE n (by omega)
 have hgz := hE.lt
 have HI0 := Lib.hid (show TwoI f w g p w2.heap.size (wtT f p 0) (w2.alloc (.cells (eVals (List.replicate n V4.zero)).toArray 50)) from
  ⟨(Below.heap_alloc _ _ _ (by omega)).trans ((hb2.block _ hz1).trans HF1.out), hE.alloc _, by rw [wtT_zero, hlen]; exact IsEsT.new _ _ _ rfl, (HB1.out.trans (hb2.mono (by omega))).alloc (by omega) _⟩)
 have HL := Lib.hid hlen
 have HNN := Lib.hid hnn
 have hz2 : w1.heap.size ≤ w2.heap.size := hb2.size
 clear hE hb2 HF1 HB1 hp hlen hnn pF HS
 go_wp2
 generalize w2.alloc _ = V at *
 generalize w2.heap.size = D at *
 clear hmk
 go_loopw [11, 12, 26] (fun _ _ iv W => ∃ i : Nat, i ≤ n ∧ iv = .int .i64 i ∧ TwoI f w g p D (wtT f p i) W) (fun _ _ iv _ => n - (intOf iv).toNat)
 case atStart => exact ⟨0, by omega, rfl, HI0.out⟩
 case round =>
  clear HI0
  obtain ⟨i, hi, rfl, hI⟩ := hrel
  have HI := Lib.hid hI
  by_cases hlt : i < n
  ·have hlt' : (i : Int) < (n : Int) := by omega
   have pN := (IsF.parts (w := wr) (b := w.heap.size) (f := f) hI.1).2.2.1
   have pO := hI.2.2.1.get i (by rw [wtT_length, HL.out]; exact hlt)
   have hDN : w.heap.size < D := by omega
   have hgD : g ≠ D := by omega
   have HV := Lib.hid (hI.put hDN hgD i (by rw [wtT_length, HL.out]; exact hlt) f.one)
   have HE := Lib.hid (wtT_set f p i)
   have HLo := Lib.hid (wtT_length f p i)
   generalize (wtT f p i)[i]?.getD V4.zero = u at *
   generalize wtT f p i = o at *
   clear hI
   go_wp2
   clear pN pO
   obtain ⟨V, hV⟩ : ∃ V, V = putAgg wr D (i * 4) f.one.arr := ⟨_, rfl⟩
   rw [← hV] at HV ⊢
   clear hV HI
   go_loopw [12, 36] (fun _ kv W => ∃ k : Nat, k ≤ n ∧ kv = .int .i64 k ∧ TwoI f w g p D (o.set i (wtK f p i k)) W) (fun _ kv _ => n - (intOf kv).toNat)
   case atStart => exact ⟨0, by omega, rfl, HV.out⟩
   case round =>
    clear HV
    obtain ⟨k, hk, rfl, hI⟩ := hrel
    have HI := Lib.hid hI
    by_cases hkt : k < n
    ·have hkt' : (k : Int) < (n : Int) := by omega
     by_cases hki : k = i
     ·have hne : ((k : Int) != (i : Int)) = false := by subst hki; simp
      have HQ := Lib.hid (show wtK f p i (k + 1) = wtK f p i k from by rw [wtK, if_pos hki])
      clear hI hki
      go_wp2
      go_roundw
      case rel => exact ⟨k + 1, by omega, by go_num, by rw [HQ.out]; exact HI.out⟩
      case measure => (first | (simp [intOf]; done) | (simp [intOf]; omega))
     ·have hne : ((k : Int) != (i : Int)) = true := by simp; omega
      have HQ := Lib.hid (show wtK f p i (k + 1) = mmul f (wtK f p i k) (msub f (at4 p i) (at4 p k)) from by rw [wtK, if_neg hki])
      clear hki
      generalize wtK f p i k = v at *
      have pF := aggF_of_block hI.1
      have pI := hI.2.1.get i (by rw [HL.out]; exact hlt)
      have pK := hI.2.1.get k (by rw [HL.out]; exact hkt)
      have pO := hI.2.2.1.agg i (by rw [List.length_set, HLo.out, HL.out]; exact hlt)
      rw [List.getElem_set_self] at pO
      rw [show p[i]?.getD V4.zero = at4 p i from rfl] at pI
      rw [show p[k]?.getD V4.zero = at4 p k from rfl] at pK
      generalize at4 p i = xi at *
      generalize at4 p k = xk at *
      clear hI
      go_wp2_with fail
      refine (noteNil _ _ _ _).mono ?_
      rintro e wr ⟨rfl, rfl⟩
      go_wp2
      ((refine region_held (h := 18) (by kernel_rfl) (by kernel_rfl) (fun W' => (Below wr.heap.size wr W' ∧ aggAt W' 14 (w.heap.size) (0) = some (f.val) ∧ aggAt W' 4 (g) (i * 4) = some (xi.val) ∧ aggAt W' 4 (g) (k * 4) = some (xk.val) ∧ aggAt W' 4 (D) (i * 4) = some (v.val))) ⟨(Below.refl _ wr).drew, pF, pI, pK, pO⟩ ?_); (have hSB : ∀ W' W'' : World, (Below wr.heap.size wr W' ∧ aggAt W' 14 (w.heap.size) (0) = some (f.val) ∧ aggAt W' 4 (g) (i * 4) = some (xi.val) ∧ aggAt W' 4 (g) (k * 4) = some (xk.val) ∧ aggAt W' 4 (D) (i * 4) = some (v.val)) → Below W'.heap.size W' W'' → (Below wr.heap.size wr W'' ∧ aggAt W'' 14 (w.heap.size) (0) = some (f.val) ∧ aggAt W'' 4 (g) (i * 4) = some (xi.val) ∧ aggAt W'' 4 (g) (k * 4) = some (xk.val) ∧ aggAt W'' 4 (D) (i * 4) = some (v.val)) := fun W' W'' ⟨h0, h1, h2, h3, h4⟩ hb => ⟨h0.trans (hb.mono h0.size), agg_keep h1 hb, agg_keep h2 hb, agg_keep h3 hb, agg_keep h4 hb⟩); (clear pF pI pK pO); (((try simp only [List.take_succ_cons, List.take_zero, List.drop_succ_cons, List.drop_zero]); repeat (apply chain_op; (focus (intro W' hS' K hK; (try simp only [Act.put, List.setIfInBounds_toArray, List.set_cons_zero, List.set_cons_succ] at hK); (have hS'' := hS'); (obtain ⟨s0, s1, s2, s3, s4⟩ := hS''); go_simp; (first | exact hK _ hS' | (with_reducible refine Calls.mono (montSub f xi xk _) ?_; rintro e W'' ⟨rfl, hb''⟩; exact hK _ (hSB _ _ hS' hb'')) | (with_reducible refine Calls.mono (montMul f v _ _) ?_; rintro e W'' ⟨rfl, hb''⟩; exact hK _ (hSB _ _ hS' hb''))); done)); (try simp only [Act.put, List.setIfInBounds_toArray, List.set_cons_zero, List.set_cons_succ])); unfold chain)); (rintro W' ⟨s0, s1, s2, s3, s4⟩); (clear hSB))
      have HR := Lib.hid ((HI.out.below s0).put hDN hgD i (by rw [List.length_set, HLo.out, HL.out]; exact hlt) (mmul f v (msub f xi xk)))
      clear s0
      go_wp2
      go_roundw
      case rel => exact ⟨k + 1, by omega, by go_num, by have := HR.out; rw [set_set] at this; rw [HQ.out]; exact this⟩
      case measure => (first | (simp [intOf]; done) | (simp [intOf]; omega))
    ·obtain rfl : k = n := by omega
     clear hI
     go_wp2
     go_roundw
     case rel => exact ⟨i + 1, by omega, by go_num, by have := HI.out; rw [HE.out, HL.out]; exact this⟩
     case measure => (first | (simp [intOf]; done) | (simp [intOf]; omega))
  ·obtain rfl : i = n := by omega
   have pF := aggF_of_block hI.1
   have hT := hI.2.2.1
   rw [← HL.out] at hT
   have HW := Lib.hid (batchWalk f (some ⟨D, 0, none⟩) i (wts f p) (by rw [wts_length, HL.out]; exact hn0) (by rw [wts_length, HL.out]; omega) wr hT.sees)
   rw [wts_length, HL.out, ← HP.out] at HW
   have HB := Lib.hid hI.2.2.2
   clear hI hT HI
   go_wp2_with fail
   refine HW.out.mono ?_
   rintro e w4 ⟨b, rfl, hb, hE, hb4⟩
   have HR := Lib.hid (And.intro hE (HB.out.trans (hb4.mono HB.out.size)))
   have hbz : w.heap.size ≤ b := Nat.le_trans HB.out.size hb
   clear hE hb4 HW
   go_wp2
   go_ret2
   exact ⟨b, by rw [← HNN.out]; rfl, hbz, HR.out⟩
end Go.Proofs.YtccgfladbibjbaaGreatDoor
namespace Go.Proofs.YtccgfladbibjbaaGreatDoor
open Go.RowKit
attribute [local go_sem ↓] add_UU sub_UU mul_UU add_UL add_LU sub_UL sub_LU mul_UL neg_at not_at and_UU or_UU xor_UU andNot_UU and_UL or_LU shr_UL shl_UL shr_UN shl_UN shl_LN quo_UL rem_UL quo_UU rem_UU
attribute [local go_sem] wrap64_N wrapi_mod wrap8_U wrap32_U wrap64_B wrap32_B wrap8_D wrapi_B wrap64_UU eq_UU ne_UU eq_UL ne_UL lt_UU le_UU
attribute [local simp] putAgg_size
attribute [local go_sem ↓] loadVar_F loadVar_E loadVar_V loadVar_B32 storeVar_F storeVar_E storeVar_V storeVar_B32 box_F box_E box_V box_B32
attribute [local go_sem ↓ high] V4.cells_val FP.cells_val
attribute [local go_sem] run_loadF run_loadE run_loadV run_loadB32 run_storeF run_storeE run_storeV run_storeB32 run_boxA aggAt_drew aggAt_drewN aggAt_alloc_new aggAt_alloc_past aggAt_setCell_other aggAt_putAgg_other aggAt_putAgg_new putAgg_drew putAgg_size putAgg_alloc_new putAgg_alloc_past putAgg_cell_other putAgg_frozen_other V4.agg_arr FP.agg_arr V4.size_arr FP.size_arr V4.fits FP.fits fitsA_agg4 lt_2 ne_2 en_2 lt_3 ne_3 en_3 lt_4 ne_4 en_4 lt_5 ne_5 en_5 lt_6 ne_6 en_6
def mstT (f : FP) (p : List V4) : Nat → List V4
 | 0 => [f.one]
 | t + 1 => pMul f (mstT f p t) [msub f V4.zero (at4 p t), f.one]
theorem pMul_length (f : FP) (a b : List V4) : (pMul f a b).length = a.length + b.length - 1 := mulI_length f a b _
theorem mstT_length (f : FP) (p : List V4) : ∀ t, (mstT f p t).length = t + 1
 | 0 => rfl
 | t + 1 => by rw [mstT, pMul_length, mstT_length f p t]; rfl
def MstI (f : FP) (w : World) (g : Nat) (l : List V4) (W : World) : Prop := W.heap[w.heap.size]? = some (.cells f.arr 67 (0, 0)) ∧ IsEs W g l ∧ Below w.heap.size w W
theorem MstI.below {f : FP} {w W W' : World} {g : Nat} {l : List V4} (h : MstI f w g l W) (hb : Below W.heap.size W W') : MstI f w g l W' :=
 ⟨(hb.block _ (Array.getElem?_eq_some_iff.1 h.1).1).trans h.1, h.2.1.below hb, h.2.2.trans (hb.mono h.2.2.size)⟩
theorem fold1 (v : V4) : Array.foldl (fun (cs : Array Value) (x : Value × Nat) => cs.setIfInBounds x.snd x.fst) #[.int .u64 0, .int .u64 0, .int .u64 0, .int .u64 0] v.arr.zipIdx 0 4 = (eVals [v]).toArray := by kernel_rfl
theorem run_build2 (u v : V4) (w : World) : (Instr.buildSlice 24 2 #[(0, u.val), (1, v.val)]).run Tryz.prog w = .ok (.slice (some ⟨w.heap.size, 0, none⟩) 2 2) (w.alloc (.cells (eVals [u, v]).toArray 50)) := by kernel_rfl
theorem wp_build2 {o : Oper} {a : Act} {w : World} {K : Act → World → Prop} {Q : Exit → Act → World → Prop} (x y : Operand) (u v : V4) (ho : o.op = .buildSlice 24 2 #[(0, x), (1, y)]) (hx : a.eval x = u.val) (hy : a.eval y = v.val)
  (hK : K (a.put o.dst (.slice (some ⟨w.heap.size, 0, none⟩) 2 2)) (w.alloc (.cells (eVals [u, v]).toArray 50))) : o.wp Tryz.prog a w K Q := by
 unfold Oper.wp execOp
 rw [ho]
 have := run_build2 u v w
 simp only [List.map_toArray, List.map_cons, List.map_nil, hx, hy, Sem.run_bind, this, Result.andThen, Sem.run_pure]
 exact hK
set_option maxRecDepth 100000 in
set_option maxHeartbeats 4000000 in
theorem master (f : FP) (A : Option Addr) (cap : Nat) (p : List V4) (hn : p.length ≤ 1048576) (w : World) (hS : Sees w A (eVals p)) :
  Calls Tryz.prog 85 #[f.val, .slice A p.length cap] w fun e w' => ∃ g, e = .returned (.slice (some ⟨g, 0, none⟩) (p.length + 1) (p.length + 1)) ∧ w.heap.size ≤ g ∧ IsEs w' g (mstT f p p.length) ∧ Below w.heap.size w w' := by
 have q1 : aggAt (w.alloc (.cells f.arr 67)) 4 w.heap.size 6 = some f.one.val := (IsF.parts (IsF.newAt w f _ rfl)).2.2.1
 have HS := Lib.hid hS
 clear hS
 go_enter Tryz.func85, Tryz.ntmps85
 go_wp2
 rw [fold1]
 (obtain ⟨W0, hW0⟩ : ∃ W0 : World, W0 = ((w).alloc (.cells f.arr 67)).alloc (.cells (eVals [f.one]).toArray 50) := ⟨_, rfl⟩); (have gW0 : ∀ (j : Nat) (o : Obj), ([Obj.cells f.arr 67, Obj.cells (eVals [f.one]).toArray 50] : List Obj)[j]? = some o → W0.heap[w.heap.size + j]? = some o := by rw [hW0]; exact allocs_get w _); (have zW0 : W0.heap.size = w.heap.size + 2 := by rw [hW0]; exact allocs_size w [Obj.cells f.arr 67, Obj.cells (eVals [f.one]).toArray 50]); (have bW0 : Below w.heap.size w W0 := by rw [hW0]; exact allocs_below w [Obj.cells f.arr 67, Obj.cells (eVals [f.one]).toArray 50]); (rw [← hW0]); (clear hW0)
 have H0 := Lib.hid (show MstI f w (w.heap.size + 1) (mstT f p 0) W0 from ⟨gW0 0 _ rfl, gW0 1 _ rfl, bW0⟩)
 clear gW0 bW0 zW0 q1
 go_loopw [5, 7, 13] (fun sv _ iv W => ∃ t g : Nat, t ≤ p.length ∧ iv = .int .i64 t ∧ sv = .slice (some ⟨g, 0, none⟩) (t + 1) (t + 1) ∧ w.heap.size < g ∧ MstI f w g (mstT f p t) W) (fun _ _ iv _ => p.length - (intOf iv).toNat)
 case atStart => exact ⟨0, w.heap.size + 1, by omega, rfl, rfl, by omega, H0.out⟩
 case round =>
  clear H0
  obtain ⟨t, g, ht, rfl, rfl, hg, hI⟩ := hrel
  have HI := Lib.hid hI
  by_cases hlt : t < p.length
  ·have hlt' : (t : Int) < (p.length : Int) := by omega
   obtain ⟨b, o, rfl, hb⟩ := HS.out.addr (by rw [eVals_length]; omega)
   have hld := (HS.out.below hI.2.2).ld' t hlt wr (Below.refl _ _)
   have HM := Lib.hid (show mstT f p (t + 1) = pMul f (mstT f p t) [msub f V4.zero (at4 p t), f.one] from rfl)
   have HL := Lib.hid (mstT_length f p t)
   generalize mstT f p t = l at *
   generalize at4 p t = y at *
   clear hI
   go_wp2
   (obtain ⟨V, hV⟩ : ∃ W0 : World, W0 = (wr).alloc (.cells y.arr 50) := ⟨_, rfl⟩); (have gV : ∀ (j : Nat) (o : Obj), ([Obj.cells y.arr 50] : List Obj)[j]? = some o → V.heap[wr.heap.size + j]? = some o := by rw [hV]; exact allocs_get wr _); (have zV : V.heap.size = wr.heap.size + 1 := by rw [hV]; exact allocs_size wr [Obj.cells y.arr 50]); (have bV : Below wr.heap.size wr V := by rw [hV]; exact allocs_below wr [Obj.cells y.arr 50]); (rw [← hV]); (clear hV)
   have HIV := Lib.hid (HI.out.below bV)
   have pF := aggF_of_block HIV.out.1
   have pN := (IsF.parts (w := V) (b := w.heap.size) HIV.out.1).2.2.1
   have pY := agg_of_block (gV 0 _ rfl)
   rw [Nat.add_zero] at pY
   clear gV bV zV HI hld
   ((have hS0 : (Below V.heap.size V V.drew ∧ aggAt V.drew 14 (w.heap.size) (0) = some (f.val) ∧ aggAt V.drew 4 (w.heap.size) (6) = some (f.one.val) ∧ aggAt V.drew 4 (wr.heap.size) (0) = some (y.val)) := ⟨((Below.refl _ V)).drew, pF, pN, pY⟩); (refine region_free (by kernel_rfl) [4, 7, 8, 9] [0, 1, 2, 3, 5, 6] false (by kernel_rfl) (by kernel_rfl) (fun W' => (Below V.heap.size V W' ∧ aggAt W' 14 (w.heap.size) (0) = some (f.val) ∧ aggAt W' 4 (w.heap.size) (6) = some (f.one.val) ∧ aggAt W' 4 (wr.heap.size) (0) = some (y.val))) hS0 ?_); (have hSB : ∀ W' W'' : World, (Below V.heap.size V W' ∧ aggAt W' 14 (w.heap.size) (0) = some (f.val) ∧ aggAt W' 4 (w.heap.size) (6) = some (f.one.val) ∧ aggAt W' 4 (wr.heap.size) (0) = some (y.val)) → Below W'.heap.size W' W'' → (Below V.heap.size V W'' ∧ aggAt W'' 14 (w.heap.size) (0) = some (f.val) ∧ aggAt W'' 4 (w.heap.size) (6) = some (f.one.val) ∧ aggAt W'' 4 (wr.heap.size) (0) = some (y.val)) := fun W' W'' ⟨h0, h1, h2, h3⟩ hb => ⟨h0.trans (hb.mono h0.size), agg_keep h1 hb, agg_keep h2 hb, agg_keep h3 hb⟩); (clear pF pN pY); (iterate 6 (refine chainF_opL (by rfl) (by rfl) ?_ ?_ ?_; rotate_left; (focus (intro W' hS' K hK; (try simp only [put_some, List.set] at hK); (have hS'' := hS'); (obtain ⟨s0, s1, s2, s3⟩ := hS''); go_simp; (exact hK); done)); (try simp only [put_some, List.set]))); (refine chainF_nil ?_))
   (refine spine_opL (by rfl) (by rfl) (fun K hK => ?_); go_simp)
   refine Calls.mono (montNeg f y _) ?_
   rintro e w3 ⟨rfl, hb3⟩
   have hS3 := hSB _ _ hS0 hb3
   refine hK _ w3 hS3 ?_
   (try simp only [put_some, List.set])
   have HI3 := Lib.hid (HIV.out.below ((Below.refl _ V).drew.trans hb3))
   clear hK hb3 hS0
   generalize msub f V4.zero y = ny at *
   refine spine_opL (by rfl) (by rfl) (fun K hK => ?_)
   refine wp_build2 (.tmp 21) (.tmp 23) ny f.one rfl rfl rfl ?_
   have HB4 := Lib.hid ((Below.refl _ w3).alloc (Nat.le_refl _) (.cells (eVals [ny, f.one]).toArray 50))
   have HI4 := Lib.hid (And.intro (HI3.out.below HB4.out) (IsEsT.new (t := 50) w3 [ny, f.one] _ rfl))
   have hS4 := hSB _ _ hS3 HB4.out
   refine hK _ _ hS4 ?_
   (try simp only [put_some, List.set])
   clear hK hS3 HI3 HIV
   obtain ⟨w4, hw4⟩ : ∃ w4, w4 = w3.alloc (.cells (eVals [ny, f.one]).toArray 50) := ⟨_, rfl⟩
   rw [← hw4] at HI4 HB4 hS4 ⊢
   obtain ⟨gb, hgb⟩ : ∃ gb, gb = w3.heap.size := ⟨_, rfl⟩
   rw [← hgb] at HI4 ⊢
   have hll := HL.out
   have HP := Lib.hid (polyMul f (some ⟨g, 0, none⟩) (some ⟨gb, 0, none⟩) (t + 1) 2 l [ny, f.one] (by omega) (by simp) (by simp; omega) w4 HI4.out.1.2.1.sees HI4.out.2.sees)
   rw [hll] at HP
   clear hw4 hgb HB4 hll
   (refine spine_opL (by rfl) (by rfl) (fun K hK => ?_); go_simp)
   refine Calls.mono HP.out ?_
   rintro e w5 ⟨g5, rfl, hg5, hE5, hb5⟩
   refine hK _ w5 (hSB _ _ hS4 hb5) ?_
   (try simp only [put_some, List.set])
   have HR := Lib.hid (show MstI f w g5 (pMul f l [ny, f.one]) w5 from ⟨(hb5.block _ (Array.getElem?_eq_some_iff.1 HI4.out.1.1).1).trans HI4.out.1.1, hE5, HI4.out.1.2.2.trans (hb5.mono HI4.out.1.2.2.size)⟩)
   have hg5' : w.heap.size < g5 := by have := (Array.getElem?_eq_some_iff.1 HI4.out.1.1).1; omega
   clear hK hS4 hb5 hE5 HP HI4 hSB
   (refine spine_lastL (by rfl) (by rfl) (fun K hK => ?_); go_simp)
   refine hK _ w5 (fun h => by cases h) ?_
   (try simp only [put_some, List.set])
   clear hK K
   go_wp2
   go_roundw
   case rel => exact ⟨t + 1, g5, by omega, by go_num, by simp, hg5', by rw [HM.out]; exact HR.out⟩
   case measure => (first | (simp [intOf]; done) | (simp [intOf]; omega))
  ·obtain rfl : t = p.length := by omega
   clear hI
   go_wp2
   go_ret
   exact ⟨g, rfl, by omega, HI.out.2.1, HI.out.2.2⟩
end Go.Proofs.YtccgfladbibjbaaGreatDoor
namespace Go.Proofs.YtccgfladbibjbaaGreatDoor
open Go.RowKit
attribute [local go_sem ↓] add_UU sub_UU mul_UU add_UL add_LU sub_UL sub_LU mul_UL neg_at not_at and_UU or_UU xor_UU andNot_UU and_UL or_LU shr_UL shl_UL shr_UN shl_UN shl_LN quo_UL rem_UL quo_UU rem_UU
attribute [local go_sem] wrap64_N wrapi_mod wrap8_U wrap32_U wrap64_B wrap32_B wrap8_D wrapi_B wrap64_UU eq_UU ne_UU eq_UL ne_UL lt_UU le_UU
attribute [local simp] putAgg_size
attribute [local go_sem ↓] loadVar_F loadVar_E loadVar_V loadVar_B32 storeVar_F storeVar_E storeVar_V storeVar_B32 box_F box_E box_V box_B32
attribute [local go_sem ↓ high] V4.cells_val FP.cells_val
attribute [local go_sem] run_loadF run_loadE run_loadV run_loadB32 run_storeF run_storeE run_storeV run_storeB32 run_boxA aggAt_drew aggAt_drewN aggAt_alloc_new aggAt_alloc_past aggAt_setCell_other aggAt_putAgg_other aggAt_putAgg_new putAgg_drew putAgg_size putAgg_alloc_new putAgg_alloc_past putAgg_cell_other putAgg_frozen_other V4.agg_arr FP.agg_arr V4.size_arr FP.size_arr V4.fits FP.fits fitsA_agg4 lt_2 ne_2 en_2 lt_3 ne_3 en_3 lt_4 ne_4 en_4 lt_5 ne_5 en_5 lt_6 ne_6 en_6
def zeE (f : FP) (l p o : List V4) (i : Nat) : V4 := mmul f (at4 o i) (at4 (quoQ f l (at4 p i) l.length) 0)
def zeT (f : FP) (l p o : List V4) (k : Nat) : List V4 := (List.range o.length).map fun j => if j < k then zeE f l p o j else at4 o j
theorem zeT_length (f : FP) (l p o : List V4) (k : Nat) : (zeT f l p o k).length = o.length := by simp [zeT]
theorem zeT_zero (f : FP) (l p o : List V4) : zeT f l p o 0 = o := by
 apply List.ext_getElem
 ·simp [zeT]
 ·intro i h1 h2
  simp only [zeT, List.getElem_map, List.getElem_range]
  rw [if_neg (by omega), at4_eq]
theorem zeT_get (f : FP) (l p o : List V4) (k : Nat) (hk : k < o.length) : at4 (zeT f l p o k) k = at4 o k := by
 rw [← at4_eq _ _ (by rw [zeT_length]; exact hk)]
 simp only [zeT, List.getElem_map, List.getElem_range]
 rw [if_neg (by omega)]
theorem zeT_set (f : FP) (l p o : List V4) (k : Nat) : zeT f l p o (k + 1) = (zeT f l p o k).set k (zeE f l p o k) := by
 apply List.ext_getElem
 ·simp [zeT]
 ·intro i h1 h2
  rw [List.getElem_set]
  simp only [zeT, List.getElem_map, List.getElem_range]
  by_cases hi : k = i
  ·subst hi; rw [if_pos (Nat.lt_succ_self _), if_pos rfl]
  ·rw [if_neg hi]
   by_cases hle : i < k
   ·rw [if_pos hle, if_pos (by omega)]
   ·rw [if_neg hle, if_neg (by omega)]
def zeroC (f : FP) (xs : List Int) : List V4 := zeT f (mstT f (pts f xs) (pts f xs).length) (pts f xs) (weights f xs) xs.length
theorem weights_length (f : FP) (xs : List Int) : (weights f xs).length = xs.length := by simp [weights, batch, wts_length, pts_length]
def ZeI (f : FP) (w : World) (b : Nat) (o : List V4) (g : Nat) (p : List V4) (m : Nat) (l : List V4) (W : World) : Prop :=
 W.heap[w.heap.size]? = some (.cells f.arr 67 (0, 0)) ∧ IsEs W b o ∧ IsEs W g p ∧ IsEs W m l ∧ Below w.heap.size w W
theorem ZeI.below {f : FP} {w W W' : World} {b g m : Nat} {o p l : List V4} (h : ZeI f w b o g p m l W) (hb : Below W.heap.size W W') : ZeI f w b o g p m l W' :=
 ⟨(hb.block _ (Array.getElem?_eq_some_iff.1 h.1).1).trans h.1, h.2.1.below hb, h.2.2.1.below hb, h.2.2.2.1.below hb, h.2.2.2.2.trans (hb.mono h.2.2.2.2.size)⟩
theorem ZeI.put {f : FP} {w W : World} {b g m : Nat} {o p l : List V4} (h : ZeI f w b o g p m l W) (h1 : w.heap.size < b) (h2 : g ≠ b) (h3 : m ≠ b) (k : Nat) (hk : k < o.length) (v : V4) : ZeI f w b (o.set k v) g p m l (putAgg W b (k * 4) v.arr) :=
 ⟨(putAgg_block _ _ _ _ _ (by omega)).trans h.1, h.2.1.put k hk v, h.2.2.1.other h2, h.2.2.2.1.other h3, putAgg_below h.2.2.2.2 (by omega)⟩
set_option maxRecDepth 100000 in
set_option maxHeartbeats 8000000 in
theorem lagZero (f : FP) (A : Option Addr) (cap : Nat) (xs : List Int) (hn0 : 0 < xs.length) (hn : xs.length ≤ 1048576) (hok : okPts xs) (w : World) (hS : Sees w A (iVals xs)) :
    Calls Tryz.prog 53 #[.pointer none, f.val, .slice A xs.length cap] w fun e w' => ∃ b, e = .returned (.tuple #[.slice (some ⟨b, 0, none⟩) xs.length xs.length, .int .i64 0]) ∧ w.heap.size ≤ b ∧ IsEs w' b (zeroC f xs) ∧ Below w.heap.size w w' := by
  have hb0 : Below w.heap.size w (w.alloc (.cells f.arr 67)) := (by repeat (first | with_reducible assumption | with_reducible exact Below.refl _ _ | (with_reducible refine putAgg_below ?_ (by first | omega | (simp; done) | (simp; omega))) | (with_reducible refine Below.alloc ?_ (by first | omega | (simp; done) | (simp; omega)) _) | (with_reducible refine Below.setCell ?_ (by first | omega | (simp; done) | (simp; omega)) _) | (with_reducible refine Below.drew ?_) | (with_reducible refine Below.trans ?_ (Below.mono (by with_reducible assumption) (by first | omega | (simp; done) | (simp; omega))))))
  have HW := Lib.hid (lagWeights f A cap xs hn0 hn hok _ (hS.below hb0))
  have hF0 := IsF.newAt w f _ rfl
  have pF := aggF_of_block hF0
  have HF := Lib.hid hF0
  have HS := Lib.hid hS
  have HB0 := Lib.hid hb0
  clear hS hb0 hF0
  go_enter Tryz.func53, Tryz.ntmps53
  go_wp2_with fail
  refine HW.out.mono ?_
  rintro e w1 ⟨b, rfl, hb, hE, hb1⟩
  have hF1 := (hb1.block w.heap.size (by simp)).trans HF.out
  have HB1 := Lib.hid (HB0.out.trans (hb1.mono (by simp)))
  have hNb : w.heap.size < b := by simp at hb; omega
  have pF := aggF_of_block hF1
  have HF1 := Lib.hid (And.intro hF1 hE)
  clear hb1 HW HF HB0 hF1 hE
  go_wp2_with fail
  refine (points f A cap xs (by omega) w1 (HS.out.below HB1.out)).mono ?_
  rintro e w2 ⟨g, rfl, hg, hE2, hb2⟩
  have hz1 : w.heap.size < w1.heap.size := (Array.getElem?_eq_some_iff.1 HF1.out.1).1
  have hbz : b < w1.heap.size := HF1.out.2.lt
  have HF2 := Lib.hid (show ZeI f w b (weights f xs) g (pts f xs) g (pts f xs) w2 from ⟨(hb2.block _ hz1).trans HF1.out.1, HF1.out.2.below hb2, hE2, hE2, HB1.out.trans (hb2.mono (by omega))⟩)
  have pF := aggF_of_block HF2.out.1
  clear HF1 hE2 hb2 HB1 HS
  go_wp2_with fail
  have HM := master f (some ⟨g, 0, none⟩) xs.length (pts f xs) (by rw [pts_length]; omega) w2 HF2.out.2.2.1.sees
  rw [pts_length] at HM
  refine HM.mono ?_
  rintro e w3 ⟨m, rfl, hm, hE3, hb3⟩
  have hgz : g < w2.heap.size := HF2.out.2.2.1.lt
  have hZC := show zeroC f xs = zeT f (mstT f (pts f xs) (pts f xs).length) (pts f xs) (weights f xs) xs.length from rfl
  have hlp := pts_length f xs
  have hlo := weights_length f xs
  rw [← hlp] at hE3
  have hll := mstT_length f (pts f xs) (pts f xs).length
  have HF3 := Lib.hid (show ZeI f w b (weights f xs) g (pts f xs) m (mstT f (pts f xs) (pts f xs).length) w3 from ⟨(hb3.block _ (Array.getElem?_eq_some_iff.1 HF2.out.1).1).trans HF2.out.1, HF2.out.2.1.below hb3, HF2.out.2.2.1.below hb3, hE3, HF2.out.2.2.2.2.trans (hb3.mono HF2.out.2.2.2.2.size)⟩)
  clear HM HF2 hE3 hb3 pF
  generalize mstT f (pts f xs) (pts f xs).length = l at *
  generalize pts f xs = p at *
  generalize weights f xs = o at *
  rw [hlp] at hll
  have HL := Lib.hid (And.intro hlp (And.intro hlo hll))
  have HZC := Lib.hid hZC
  obtain ⟨n, hnn⟩ : ∃ n, n = xs.length := ⟨_, rfl⟩
  rw [← hnn] at HL HZC hn0 hn ⊢
  have HNN := Lib.hid hnn
  clear hlp hlo hll hZC hnn
  have hmb : m ≠ b := by omega
  have hgb : g ≠ b := by omega
  go_wp2
  go_loopw [12, 13, 14, 33] (fun _ _ _ iv W => ∃ i : Nat, i ≤ n ∧ iv = .int .i64 i ∧ ZeI f w b (zeT f l p o i) g p m l W) (fun _ _ _ iv _ => n - (intOf iv).toNat)
  case atStart => exact ⟨0, by omega, rfl, by rw [zeT_zero]; exact HF3.out⟩
  case round =>
    clear HF3
    obtain ⟨i, hi, rfl, hI⟩ := hrel
    have HI := Lib.hid hI
    by_cases hlt : i < n
    · have hlt' : (i : Int) < (n : Int) := by omega
      have pF := aggF_of_block hI.1
      have pP : aggAt wr 4 g (i * 4) = some (at4 p i).val := hI.2.2.1.get i (by rw [HL.out.1]; exact hlt)
      have HZ := Lib.hid (zeT_set f l p o i)
      have HG := Lib.hid (zeT_get f l p o i (by rw [HL.out.2.1]; exact hlt))
      have HLz := Lib.hid (zeT_length f l p o i)
      have HE := Lib.hid (show zeE f l p o i = mmul f (at4 o i) (at4 (quoQ f l (at4 p i) l.length) 0) from rfl)
      rw [HL.out.2.2] at HE
      generalize zeT f l p o i = z at *
      generalize at4 p i = x at *
      have HQ := Lib.hid (fun W (hW : Below wr.heap.size wr W) => quotient f (some ⟨m, 0, none⟩) (n + 1) l n HL.out.2.2 (by rw [HL.out.2.2]; omega) x W (HI.out.2.2.2.1.sees.below hW))
      rw [HL.out.2.2] at HQ
      have hgw : g < wr.heap.size := hI.2.2.1.lt
      have hNw : w.heap.size < wr.heap.size := (Array.getElem?_eq_some_iff.1 hI.1).1
      clear hI
      go_wp2_with fail
      refine (noteNil _ _ _ _).mono ?_
      rintro e wr ⟨rfl, rfl⟩
      go_upto_region 10 with (fail)
      go_region_with (first | (go_at_call 80; (with_reducible refine (HQ.out _ (by repeat (first | with_reducible assumption | with_reducible exact Below.refl _ _ | (with_reducible refine putAgg_below ?_ (by first | omega | (simp; done) | (simp; omega))) | (with_reducible refine Below.alloc ?_ (by first | omega | (simp; done) | (simp; omega)) _) | (with_reducible refine Below.setCell ?_ (by first | omega | (simp; done) | (simp; omega)) _) | (with_reducible refine Below.drew ?_) | (with_reducible refine Below.trans ?_ (Below.mono (by with_reducible assumption) (by first | omega | (simp; done) | (simp; omega))))))).mono ?_); rintro e wq ⟨bq, rfl, hbq, hEq, hbb⟩; (try (have hzz : aggAt wq 4 wr.heap.size 0 = some V4.zero.val := (aggAt_congr (hbb.block wr.heap.size (by simp))).trans (aggAt_alloc_at _ _ _ _ _ rfl rfl)))))
      all_goals (first
        | (obtain ⟨Wf, hWf⟩ : ∃ Wf, Wf = putAgg wq wr.heap.size 0 (quoR f l x (n + 1)).arr := ⟨_, rfl⟩
           rw [← hWf]
           have HB5 := Lib.hid (show Below wr.heap.size wr Wf ∧ IsEs Wf bq (quoQ f l x (n + 1)) from ⟨by rw [hWf]; exact (by repeat (first | with_reducible assumption | with_reducible exact Below.refl _ _ | (with_reducible refine putAgg_below ?_ (by first | omega | (simp; done) | (simp; omega))) | (with_reducible refine Below.alloc ?_ (by first | omega | (simp; done) | (simp; omega)) _) | (with_reducible refine Below.setCell ?_ (by first | omega | (simp; done) | (simp; omega)) _) | (with_reducible refine Below.drew ?_) | (with_reducible refine Below.trans ?_ (Below.mono (by with_reducible assumption) (by first | omega | (simp; done) | (simp; omega)))))), by rw [hWf]; exact IsEsT.other hEq (by simp at hbq; omega)⟩)
           clear hWf)
        | (obtain ⟨Wf, hWf⟩ : ∃ Wf, Wf = wq.alloc (.cells (quoR f l x (n + 1)).arr 50) := ⟨_, rfl⟩
           rw [← hWf]
           have HB5 := Lib.hid (show Below wr.heap.size wr Wf ∧ IsEs Wf bq (quoQ f l x (n + 1)) from ⟨by rw [hWf]; exact (((Below.refl _ wr).drew).trans hbb).alloc (by have h : wr.heap.size ≤ wq.heap.size := hbb.size; exact h) _, by rw [hWf]; exact IsEsT.alloc hEq _⟩)
           clear hWf))
      all_goals
        have hbq' : wr.heap.size ≤ bq := by simp at hbq; omega
        clear hEq hbb hbq pF pP
      all_goals (try clear hzz)
      all_goals
        have HI5 := Lib.hid (HI.out.below HB5.out.1)
        have pF := aggF_of_block HI5.out.1
        have pW : aggAt Wf 4 b (i * 4) = some (at4 o i).val := by
          have := HI5.out.2.1.get i (by rw [HLz.out, HL.out.2.1]; exact hlt)
          rw [show z[i]?.getD V4.zero = at4 o i from HG.out] at this
          exact this
        have pQ : aggAt Wf 4 bq 0 = some (at4 (quoQ f l x (n + 1)) 0).val := by
          have := HB5.out.2.get 0 (by rw [quoQ_length, HL.out.2.2]; omega)
          rw [Nat.zero_mul] at this
          exact this
        generalize at4 (quoQ f l x (n + 1)) 0 = q0 at *
        generalize quoR f l x (n + 1) = rr at *
        generalize at4 o i = oi at *
        have hn1 : (0 : Int) < (n : Int) := by omega
        go_wp2
      all_goals (((refine region_held (h := 11) (by kernel_rfl) (by kernel_rfl) (fun W' => (Below Wf.heap.size Wf W' ∧ aggAt W' 14 (w.heap.size) (0) = some (f.val) ∧ aggAt W' 4 (b) (i * 4) = some (oi.val) ∧ aggAt W' 4 (bq) (0) = some (q0.val))) ⟨(Below.refl _ Wf).drew, pF, pW, pQ⟩ ?_); (have hSB : ∀ W' W'' : World, (Below Wf.heap.size Wf W' ∧ aggAt W' 14 (w.heap.size) (0) = some (f.val) ∧ aggAt W' 4 (b) (i * 4) = some (oi.val) ∧ aggAt W' 4 (bq) (0) = some (q0.val)) → Below W'.heap.size W' W'' → (Below Wf.heap.size Wf W'' ∧ aggAt W'' 14 (w.heap.size) (0) = some (f.val) ∧ aggAt W'' 4 (b) (i * 4) = some (oi.val) ∧ aggAt W'' 4 (bq) (0) = some (q0.val)) := fun W' W'' ⟨h0, h1, h2, h3⟩ hb => ⟨h0.trans (hb.mono h0.size), agg_keep h1 hb, agg_keep h2 hb, agg_keep h3 hb⟩); (clear pF pW pQ); (((try simp only [List.take_succ_cons, List.take_zero, List.drop_succ_cons, List.drop_zero]); repeat (apply chain_op; (focus (intro W' hS' K hK; (try simp only [Act.put, List.setIfInBounds_toArray, List.set_cons_zero, List.set_cons_succ] at hK); (have hS'' := hS'); (obtain ⟨s0, s1, s2, s3⟩ := hS''); go_simp; (first | exact hK _ hS' | (with_reducible refine Calls.mono (montMul f oi q0 _) ?_; rintro e W'' ⟨rfl, hb''⟩; exact hK _ (hSB _ _ hS' hb''))); done)); (try simp only [Act.put, List.setIfInBounds_toArray, List.set_cons_zero, List.set_cons_succ])); unfold chain)); (rintro W' ⟨s0, s1, s2, s3⟩); (clear hSB)))
      all_goals
        have HR := Lib.hid ((HI5.out.below s0).put hNb hgb hmb i (by rw [HLz.out, HL.out.2.1]; exact hlt) (mmul f oi q0))
        clear s0 HI5
        go_wp2
        go_roundw
      all_goals (first
        | exact ⟨i + 1, by omega, by go_num, by rw [HZ.out, HE.out]; exact HR.out⟩
        | (first | (simp [intOf]; done) | (simp [intOf]; omega)))
    · obtain rfl : i = n := by omega
      have HR := Lib.hid hI
      clear hI HI
      go_wp2
      go_ret2
      exact ⟨b, by rw [← HNN.out]; rfl, by omega, by rw [HZC.out]; exact HR.out.2.1, HR.out.2.2.2.2⟩
end Go.Proofs.YtccgfladbibjbaaGreatDoor
