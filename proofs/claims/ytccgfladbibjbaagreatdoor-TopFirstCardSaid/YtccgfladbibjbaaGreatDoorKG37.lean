/- Elements and records: there and back. No program in sight. -/
import Derived.Test.YtccgfladbibjbaaGreatDoorKG13
import Derived.Test.YtccgfladbibjbaaGreatDoorKG31
import Derived.Test.YtccgfladbibjbaaGreatDoorKG36
import Derived.Test.YtccgfladbibjbaaGreatDoorKG29
import Derived.Test.YtccgfladbibjbaaGreatDoorKG28
import Derived.Test.YtccgfladbibjbaaGreatDoorKG34
namespace Go.Proofs.YtccgfladbibjbaaGreatDoor
open Go.RowKit
theorem good1 : Good fp1 10665060850805439052171011777115991512801182798151104582581619579676209308938 :=
 ⟨by decide +kernel, by decide +kernel, by decide +kernel, by decide +kernel, by decide +kernel, by decide +kernel, by decide +kernel⟩
theorem good2 : Good fp2 43790243014242295660885426880012836369732278457577312309071968676491870960761 :=
 ⟨by decide +kernel, by decide +kernel, by decide +kernel, by decide +kernel, by decide +kernel, by decide +kernel, by decide +kernel⟩
theorem good_of (id : Int) (h : getE id = 0) : ∃ Ri, Good (getF id) Ri := by
 unfold getE at h
 unfold getF
 split at h
 ·rename_i e; rw [if_pos e]; exact ⟨_, good1⟩
 ·split at h
  ·rename_i e1 e; rw [if_neg e1, if_pos e]; exact ⟨_, good2⟩
  ·cases h
theorem unit_num : V4.unit.num = 1 := by decide
theorem mod3 (v a b R p : Nat) (h : a * R % p * R % p = 1) (hv : v < p) (hab : b = 1) : v * a * R % p * b * R % p = v := by
 subst hab
 have e : v * a * R % p * 1 * R % p = v * (a * R % p * R % p) % p := by
  rw [Nat.mul_one, Nat.mod_mul_mod, Nat.mul_mod_mod, Nat.mul_assoc v a R, Nat.mul_assoc v (a * R) R, Nat.mul_mod v (a * R * R), ← Nat.mod_mul_mod (a * R) R, ← Nat.mul_mod]
 rw [e, h, Nat.mul_one, Nat.mod_eq_of_lt hv]
theorem mod4 (v a R p : Nat) (h : a * R % p * R % p = 1) (hv : v < p) : v * 1 * R % p * a * R % p = v := by
 have e : v * 1 * R % p * a * R % p = v * (a * R % p * R % p) % p := by
  rw [Nat.mul_one, Nat.mul_assoc (v * R % p), Nat.mod_mul_mod, Nat.mul_mod_mod, Nat.mul_comm (a * R % p) R, ← Nat.mul_assoc v R, Nat.mul_mod_mod]
 rw [e, h, Nat.mul_one, Nat.mod_eq_of_lt hv]
theorem mont_back {f : FP} {Ri : Nat} (g : Good f Ri) (v : V4) (hv : v.num < f.p.num) : mmul f (mmul f v V4.unit) f.sq = v := by
 have h1 := mmul_good g v V4.unit (.inl hv)
 have h2 := mmul_good g (mmul f v V4.unit) f.sq (.inr g.sqlt)
 apply V4.ext_num
 rw [h2, h1, unit_num]
 exact mod4 v.num f.sq.num Ri f.p.num g.sq hv
theorem mont_forth {f : FP} {Ri : Nat} (g : Good f Ri) (v : V4) (hv : v.num < f.p.num) : mmul f (mmul f v f.sq) V4.unit = v := by
 have h1 := mmul_good g v f.sq (.inl hv)
 have h2 := mmul_good g (mmul f v f.sq) V4.unit (.inr (by rw [unit_num]; exact g.big))
 apply V4.ext_num
 rw [h2, h1, unit_num]
 exact mod3 v.num f.sq.num 1 Ri f.p.num g.sq hv rfl
theorem dec_enc {f : FP} {Ri : Nat} (g : Good f Ri) (v : V4) (hv : v.num < f.p.num) : decX f (encL (mmul f v V4.unit)) = v ∧ decE f (encL (mmul f v V4.unit)) = 0 := by
 have hl := mmul_lt g v V4.unit (.inl hv)
 unfold decX decE
 rw [numV_encL, if_pos hl, if_pos hl]
 exact ⟨mont_back g v hv, rfl⟩
theorem encL_len (v : V4) : (encL v).length = 32 := by unfold encL; rw [encT_length]
theorem body_chunk (f : FP) : ∀ (P : List V4) (k : Nat) (h : k < P.length), ((bodyL f P).drop (32 * k)).take 32 = encL (mmul f P[k] V4.unit)
 | v :: r, 0, _ => by
  rw [bodyL, Nat.mul_zero, List.drop_zero, List.take_append_of_le_length (by rw [encL_len]; exact Nat.le_refl _), List.take_of_length_le (by rw [encL_len]; exact Nat.le_refl _)]
  rfl
 | v :: r, k + 1, h => by
  rw [bodyL, List.drop_append, encL_len, List.drop_eq_nil_of_le (by rw [encL_len]; omega), List.nil_append, show 32 * (k + 1) - 32 = 32 * k from by omega, body_chunk f r k (by simpa using h)]
  rfl
theorem headL_length (s : Sh) : (headL s).length = 6 := rfl
theorem encR_length (s : Sh) : (encR s).length = 38 + 32 * s.pay.length := by
 unfold encR
 rw [List.length_append, List.length_append, headL_length, bodyL_length, sumL_length]
 omega
theorem encR_chunk (s : Sh) (k : Nat) (h : k < s.pay.length) : recChunk (encR s) k = encL (mmul (getF s.field) s.pay[k] V4.unit) := by
 unfold recChunk encR
 have hb := bodyL_length (getF s.field) s.pay
 rw [List.append_assoc, List.drop_append, headL_length, List.drop_eq_nil_of_le (by rw [headL_length]; omega), List.nil_append, show 6 + 32 * k - 6 = 32 * k from by omega, List.drop_append, List.take_append_of_le_length (by rw [List.length_drop]; omega)]
 exact body_chunk _ _ _ h
theorem encR_hdr (s : Sh) (j : Nat) (h : j < 6) : hdr (encR s) j = (((headL s)[j]?.getD 0#8).toNat : Int) := by
 unfold hdr encR
 rw [List.append_assoc, List.getElem?_append_left (by rw [headL_length]; exact h)]
theorem ofInt8 (x : Int) (h0 : 0 ≤ x) (h : x ≤ 255) : ((BitVec.ofInt 8 x).toNat : Int) = x := by rw [BitVec.toNat_ofInt]; omega
theorem elsE_zero (f : FP) (l : List (BitVec 8)) : ∀ n, (∀ k, k < n → decE f (recChunk l k) = 0) → elsE f l n = 0
 | 0, _ => rfl
 | n + 1, h => by rw [elsE, if_pos (elsE_zero f l n fun k hk => h k (by omega)), h n (by omega)]
theorem getE_range {id : Int} (h : getE id = 0) : id = 1 ∨ id = 2 := by
 unfold getE at h
 split at h
 ·rename_i e; exact .inl e
 ·split at h
  ·rename_i e; exact .inr e
  ·cases h
theorem rec_back (s : Sh) (h : checkE s = 0) : recE (encR s) = 0 ∧ recS (encR s) = s := by
 obtain ⟨h1, h2, h3, h4, h5, h6⟩ := checkE_ok h
 obtain ⟨Ri, g⟩ := good_of _ h1
 have hf := getE_range h1
 have e0 : hdr (encR s) 0 = 1 := by rw [encR_hdr s 0 (by decide)]; rfl
 have e1 : hdr (encR s) 1 = s.field := by rw [encR_hdr s 1 (by decide)]; exact ofInt8 _ (by omega) (by omega)
 have e2 : hdr (encR s) 2 = s.thr := by rw [encR_hdr s 2 (by decide)]; exact ofInt8 _ (by omega) (by omega)
 have e3 : hdr (encR s) 3 = s.idx := by rw [encR_hdr s 3 (by decide)]; exact ofInt8 _ (by omega) (by omega)
 have e4 : hdr (encR s) 4 = s.len % 256 := by rw [encR_hdr s 4 (by decide)]; show ((BitVec.ofInt 8 s.len).toNat : Int) = _; rw [BitVec.toNat_ofInt]; omega
 have e5 : hdr (encR s) 5 = s.len / 256 := by rw [encR_hdr s 5 (by decide)]; exact ofInt8 _ (by omega) (by omega)
 have el : recLen (encR s) = s.len := by unfold recLen; rw [e4, e5]; omega
 have hlen := encR_length s
 have hp : ∀ k (hk : k < s.pay.length), s.pay[k].num < (getF s.field).p.num := fun k hk => by
  unfold okPay at h6
  have := List.all_eq_true.1 h6 _ (List.getElem_mem hk)
  simpa using this
 have hd : ∀ k (hk : k < s.pay.length), decX (getF s.field) (recChunk (encR s) k) = s.pay[k] ∧ decE (getF s.field) (recChunk (encR s) k) = 0 := fun k hk => by
  rw [encR_chunk s k hk]
  exact dec_enc g _ (hp k hk)
 have hes : elsE (getF s.field) (encR s) (cnt s.len) = 0 := elsE_zero _ _ _ fun k hk => (hd k (by omega)).2
 have hel : els (getF s.field) (encR s) (cnt s.len) = s.pay := by
  apply List.ext_getElem
  ·rw [els_length, h5]
  ·intro k hk1 hk2
   simp only [els, List.getElem_map, List.getElem_range]
   exact (hd k hk2).1
 have hB : (encR s).length - 32 = (headL s ++ bodyL (getF s.field) s.pay).length := by rw [hlen, List.length_append, headL_length, bodyL_length]; omega
 have ht : (encR s).take ((encR s).length - 32) = headL s ++ bodyL (getF s.field) s.pay := by rw [hB]; unfold encR; rw [List.take_left]
 have hdp : (encR s).drop ((encR s).length - 32) = sumL (headL s ++ bodyL (getF s.field) s.pay) := by rw [hB]; unfold encR; rw [List.drop_left]
 have hE : recE (encR s) = 0 := by
  unfold recE
  rw [if_neg (by omega), e0, e1, e2, e3, el, if_neg (by decide), if_neg (fun q => q h1), if_neg (by omega), if_neg (by omega), if_neg (by rw [hlen, h5]; exact fun q => q rfl), hes, if_neg (by decide), ht, hdp, if_pos rfl]
 refine ⟨hE, ?_⟩
 unfold recS
 rw [hE, if_pos rfl, e1, e2, e3, el, hel]
end Go.Proofs.YtccgfladbibjbaaGreatDoor
namespace Go.Proofs.YtccgfladbibjbaaGreatDoor
open Go.RowKit
attribute [local go_sem ↓] add_UU sub_UU mul_UU add_UL add_LU sub_UL sub_LU mul_UL neg_at not_at and_UU or_UU xor_UU andNot_UU and_UL or_LU shr_UL shl_UL shr_UN shl_UN shl_LN quo_UL rem_UL quo_UU rem_UU
attribute [local go_sem] wrap64_N wrapi_mod wrap8_U wrap32_U wrap64_B wrap32_B wrap8_D wrapi_B wrap64_UU eq_UU ne_UU eq_UL ne_UL lt_UU le_UU
attribute [local simp] putAgg_size
attribute [local go_sem ↓] loadVar_F loadVar_E loadVar_V loadVar_B32 storeVar_F storeVar_E storeVar_V storeVar_B32 box_F box_E box_V box_B32
attribute [local go_sem ↓ high] V4.cells_val FP.cells_val
attribute [local go_sem] run_loadF run_loadE run_loadV run_loadB32 run_storeF run_storeE run_storeV run_storeB32 run_boxA aggAt_drew aggAt_drewN aggAt_alloc_new aggAt_alloc_past aggAt_setCell_other aggAt_putAgg_other aggAt_putAgg_new putAgg_drew putAgg_size putAgg_alloc_new putAgg_alloc_past putAgg_cell_other putAgg_frozen_other V4.agg_arr FP.agg_arr V4.size_arr FP.size_arr V4.fits FP.fits fitsA_agg4 lt_2 ne_2 en_2 lt_3 ne_3 en_3 lt_4 ne_4 en_4 lt_5 ne_5 en_5 lt_6 ne_6 en_6
def polyAt (f : FP) (s r : List (BitVec 8)) (n k : Nat) : List V4 := packAt f s k :: elemsV f (r.drop (64 * (n * k))) n
def polysV (f : FP) (s r : List (BitVec 8)) (n m : Nat) : List (List V4) := (List.range m).map (polyAt f s r n)
theorem polysV_succ (f : FP) (s r : List (BitVec 8)) (n m : Nat) : polysV f s r n (m + 1) = polysV f s r n m ++ [polyAt f s r n m] := by simp [polysV, List.range_succ]
abbrev nilS : Value := .slice none 0 0
structure PoI (w : World) (cs : Array Value) (f : FP) (s r : List (BitVec 8)) (n m bF bS bO : Nat) (R : Option Addr) (i : Nat) (W : World) : Prop where
 P : W.heap[w.heap.size]? = some (.cells cs 48 (0, 0))
 F : W.heap[bF]? = some (.cells f.arr 67 (0, 0))
 X : Sees W R (eVals (packs f s m))
 S : ∃ A cap, IsSrc W bS A cap (r.drop (64 * (n * i))) ∧ ∀ a, A = some a → a.block ≠ bS ∧ a.block < bO
 O : ∃ ps : List EA, ps.length = i ∧ W.heap[bO]? = some (.cells (eaVals ps ++ List.replicate (m - i) nilS).toArray 24 (0, 0)) ∧ (∀ x ∈ ps, Sees W x.A (eVals x.l) ∧ ∀ g o, x.A = some ⟨g, o, none⟩ → bO < g) ∧ ps.map EA.l = polysV f s r n i
 B : Below w.heap.size w W
 Z : bO < W.heap.size
theorem PoI.start {w W : World} {cs : Array Value} {f : FP} {s r : List (BitVec 8)} {n m bF bS bO : Nat} {R : Option Addr} {A : Option Addr} {cap : Nat}
  (P : W.heap[w.heap.size]? = some (.cells cs 48 (0, 0))) (F : W.heap[bF]? = some (.cells f.arr 67 (0, 0))) (X : Sees W R (eVals (packs f s m))) (S : IsSrc W bS A cap r) (hA : ∀ a, A = some a → a.block ≠ bS ∧ a.block < bO)
  (O : W.heap[bO]? = some (.cells (List.replicate m nilS).toArray 24 (0, 0))) (B : Below w.heap.size w W) : PoI w cs f s r n m bF bS bO R 0 W :=
 ⟨P, F, X, ⟨A, cap, by simpa using S, hA⟩, ⟨[], rfl, by simpa [eaVals] using O, by simp, by simp [polysV]⟩, B, (Array.getElem?_eq_some_iff.1 O).1⟩
theorem PoI.step {w W W' : World} {cs : Array Value} {f : FP} {s r : List (BitVec 8)} {n m bF bS bO : Nat} {R : Option Addr} {i : Nat} (h : PoI w cs f s r n m bF bS bO R i W) (hw : w.heap.size ≠ bS) (hF : bF < bO ∧ bF ≠ bS) (hS : bS < bO) (hbw : w.heap.size < bF) (hbS : w.heap.size < bS) (hR : ∀ g o, R = some ⟨g, o, none⟩ → g ≠ bS ∧ g ≠ bO)
  {A : Option Addr} {cap : Nat} (S : IsSrc W' bS A cap (r.drop (64 * (n * (i + 1))))) (hA : ∀ a, A = some a → a.block ≠ bS ∧ a.block < bO) (him : i < m)
  (hk : ∀ k, k < W.heap.size → k ≠ bS → W'.heap[k]? = W.heap[k]?) (hos : W'.os = W.os) (htp : W'.tape = W.tape) (hout : W'.output = W.output) (hz : W.heap.size ≤ W'.heap.size)
  (x : EA) (hx : x.l = polyAt f s r n i) (hxs : Sees W' x.A (eVals x.l)) (hxb : ∀ g o, x.A = some ⟨g, o, none⟩ → bO < g) : PoI w cs f s r n m bF bS bO R (i + 1) (W'.setCell ⟨bO, i, none⟩ x.val) := by
 obtain ⟨P, F, X, _, ⟨ps, hl, O, hps, hm⟩, B, Z⟩ := h
 have hoth : ∀ k, k ≠ bO → (W'.setCell ⟨bO, i, none⟩ x.val).heap[k]? = W'.heap[k]? := fun k hk => Below.heap_setCell _ _ _ _ hk
 have hboth : ∀ k, k < W.heap.size → k ≠ bS → k ≠ bO → (W'.setCell ⟨bO, i, none⟩ x.val).heap[k]? = W.heap[k]? := fun k h1 h2 h3 => (hoth k h3).trans (hk k h1 h2)
 have hwz : w.heap.size ≤ W.heap.size := B.size
 refine ⟨(hboth _ (by omega) hw (by omega)).trans P, (hboth _ (by omega) hF.2 (by omega)).trans F, X.move fun g o e hg => hboth g hg (hR g o e).1 (hR g o e).2, ⟨A, cap, ⟨(hoth _ (by omega)).trans S.1, S.2.1.move fun g o e hg => hoth g (by have := (hA _ e).2; simp at this; omega), S.2.2⟩, hA⟩, ⟨ps ++ [x], by simp [hl], ?_, ?_, by rw [List.map_append, hm, polysV_succ, List.map_singleton, hx]⟩,
  ⟨hos.trans B.os, htp.trans B.tape, hout.trans B.output, by simp; omega, fun k hkw => (hboth k (by omega) (by omega) (by omega)).trans (B.block k hkw)⟩, by simp; omega⟩
 ·have hO' := (hk _ Z (by omega)).trans O
  have := row_set hO' i x.val
  rw [this]
  congr 3
  have e : m - i = (m - (i + 1)) + 1 := by omega
  have hset : ∀ (a b : List Value) (j : Nat) (u : Value), a.length = j → (a ++ b).set j u = a ++ b.set 0 u := by
   intro a b j u h
   subst h
   simp
  rw [e, List.replicate_succ, hset _ _ _ _ (by rw [eaVals_length, hl]), List.set_cons_zero]
  unfold eaVals
  rw [List.map_append, List.append_assoc]
  rfl
 ·intro y hy
  rw [List.mem_append] at hy
  rcases hy with hy | hy
  ·exact ⟨(hps y hy).1.move fun g o e hg => hboth g hg (by have := (hps y hy).2 g o e; omega) (by have := (hps y hy).2 g o e; omega), (hps y hy).2⟩
  ·simp at hy
   subst hy
   exact ⟨hxs.move fun g o e hg => hoth g (by have := hxb g o e; omega), hxb⟩
set_option maxRecDepth 20000 in
set_option maxHeartbeats 4000000 in
theorem polynomials (q : Pa) (A1 : Option Addr) (cap1 : Nat) (s : List (BitVec 8)) (A2 : Option Addr) (cap2 : Nat) (r : List (BitVec 8)) (w : World) (L : Laid w) (hq : q.checkE = 0) (hl : (s.length : Int) = q.len) (hr : q.random ≤ (r.length : Int)) (hr2 : r.length ≤ 1099511627776) (hc1 : s.length ≤ cap1) (hS1 : Sees w A1 (byteVals s)) (hS2 : Sees w A2 (byteVals r)) :
  Calls Tryz.prog 90 #[q.val, .slice A1 s.length cap1, .slice A2 r.length cap2] w fun e w' => ∃ b ps, e = .returned (.tuple #[.slice (some ⟨b, 0, none⟩) ps.length ps.length, .int .i64 0]) ∧ SeesP w' (some ⟨b, 0, none⟩) ps ∧ ps.map EA.l = polysV (getF q.field) s r (q.thr - 1).toNat (cnt q.len) ∧ Below w.heap.size w w' := by
 obtain ⟨e0, he0, ea0, ea1, ea2⟩ := info_parts info_E
 have HK := Lib.hid (fun W (hW : Below w.heap.size w W) => paramsCheck q W (L.to hW))
 have HR := Lib.hid (fun W (hW : Below w.heap.size w W) => paramsRandom q W (L.to hW))
 have HF := Lib.hid (fun W (hW : Below w.heap.size w W) => fieldGet q.field W (L.to hW))
 obtain ⟨z0, z1, z2, z3, z4⟩ := Pa.checkE_zero hq
 have HN := Lib.hid (fun W (hW : Below w.heap.size w W) => srcNew A2 cap2 r hr2 W (hS2.below hW))
 have hrn : q.random = 64 * (q.thr - 1) * (cnt q.len : Nat) := by unfold Pa.random; rw [if_pos hq]
 have HSp := Lib.hid (fun W (hW : Below w.heap.size w W) => split (getF q.field) A1 cap1 s (by omega) hc1 W (hS1.below hW))
 rw [hq] at HK
 obtain ⟨fd, th, sh, ln⟩ := q
 unfold Pa.val Pa.cells at *
 simp only [] at HK HR HF hl hr z0 z1 z2 z3 z4 hrn HSp ⊢
 rw [z0] at HF
 subst hl
 obtain ⟨n, hn⟩ : ∃ n : Nat, th - 1 = (n : Int) := ⟨(th - 1).toNat, by omega⟩
 have hn' : (th - 1).toNat = n := by omega
 rw [hn']
 have hm65 := cnt_le (s.length : Int)
 obtain ⟨m, hm⟩ : ∃ m, cnt (s.length : Int) = m := ⟨_, rfl⟩
 rw [hm] at hrn hm65
 simp only [hm] at HSp
 rw [hm]
 have hn255 : n ≤ 254 := by omega
 have hnm : 64 * (n * m) ≤ r.length := by
  have : (64 * (th - 1) * (m : Nat) : Int) = ((64 * (n * m) : Nat) : Int) := by rw [hn]; simp [Int.mul_assoc]
  omega
 have hdec : decide ((r.length : Int) < Pa.random ⟨fd, th, sh, (s.length : Int)⟩) = false := decide_eq_false (by omega)
 generalize Pa.random ⟨fd, th, sh, (s.length : Int)⟩ = ra at *
 obtain ⟨f, hf⟩ : ∃ f, getF fd = f := ⟨_, rfl⟩
 rw [hf] at HF HSp ⊢
 have HH := Lib.hid hn
 have HM := Lib.hid hnm
 have HH2 := Lib.hid hr2
 have hw1 : IntKind.i64.wrap (th - 1) = (n : Int) := by rw [hn, IntKind.wrap_i64]; omega
 clear hn hnm hq hr hc1 hS1 hS2 hrn L z0 z1 z2 z3 z4 hf hn' hr2
 go_enter Tryz.func90, Tryz.ntmps90
 go_wp2_with fail
 (obtain ⟨W0, hW0⟩ : ∃ W0 : World, W0 = (w).alloc (.cells #[.int .i64 fd, .int .i64 th, .int .i64 sh, .int .i64 s.length] 48) := ⟨_, rfl⟩); (have gW0 : ∀ (j : Nat) (o : Obj), ([Obj.cells #[.int .i64 fd, .int .i64 th, .int .i64 sh, .int .i64 s.length] 48] : List Obj)[j]? = some o → W0.heap[w.heap.size + j]? = some o := by rw [hW0]; exact allocs_get w _); (have zW0 : W0.heap.size = w.heap.size + 1 := by rw [hW0]; exact allocs_size w [Obj.cells #[.int .i64 fd, .int .i64 th, .int .i64 sh, .int .i64 s.length] 48]); (have bW0 : Below w.heap.size w W0 := by rw [hW0]; exact allocs_below w [Obj.cells #[.int .i64 fd, .int .i64 th, .int .i64 sh, .int .i64 s.length] 48]); (rw [← hW0]); (clear hW0)
 have hP0 : W0.heap[w.heap.size]? = some _ := gW0 0 _ rfl
 clear gW0
 refine (HK.out W0 bW0).mono ?_
 rintro e w1 ⟨rfl, hb1⟩
 have hP1 := blk_below hP0 hb1 rfl
 have bW1 := bW0.trans (hb1.mono bW0.size)
 obtain ⟨c0, c1, c2, c3⟩ := pa_cells hP1
 have hzz : w.heap.size < w1.heap.size := (Array.getElem?_eq_some_iff.1 hP1).1
 clear hP0 bW0 hb1 HK zW0
 go_wp2_with fail
 clear c0 c1 c2 c3
 refine (HR.out w1 bW1).mono ?_
 rintro e w2 ⟨rfl, hb2⟩
 have hP2 := blk_below hP1 hb2 rfl
 have bW2 := bW1.trans (hb2.mono bW1.size)
 obtain ⟨c0, c1, c2, c3⟩ := pa_cells hP2
 clear hP1 bW1 hb2 HR hzz
 go_wp2_with fail
 clear c0 c1 c2 c3
 refine (HF.out w2 bW2).mono ?_
 rintro e w3 ⟨rfl, hb3⟩
 have hP3 := blk_below hP2 hb3 rfl
 have bW3 := bW2.trans (hb3.mono bW2.size)
 have hzF : w.heap.size < w3.heap.size := (Array.getElem?_eq_some_iff.1 hP3).1
 clear hP2 bW2 hb3 HF hdec
 go_wp2_with fail
 (obtain ⟨W4, hW4⟩ : ∃ W0 : World, W0 = (w3).alloc (.cells f.arr 67) := ⟨_, rfl⟩); (have gW4 : ∀ (j : Nat) (o : Obj), ([Obj.cells f.arr 67] : List Obj)[j]? = some o → W4.heap[w3.heap.size + j]? = some o := by rw [hW4]; exact allocs_get w3 _); (have zW4 : W4.heap.size = w3.heap.size + 1 := by rw [hW4]; exact allocs_size w3 [Obj.cells f.arr 67]); (have bW4 : Below w3.heap.size w3 W4 := by rw [hW4]; exact allocs_below w3 [Obj.cells f.arr 67]); (rw [← hW4]); (clear hW4)
 have hF4 : W4.heap[w3.heap.size]? = some _ := gW4 0 _ rfl
 have hP4 := blk_below hP3 bW4 rfl
 have bW4' := bW3.trans (bW4.mono bW3.size)
 clear gW4 zW4 bW4 hP3 bW3
 refine (HSp.out W4 bW4').mono ?_
 rintro e w5 ⟨v5, rfl, hv5, hb5⟩
 obtain ⟨R, capR, rfl, hcR, hS5, hAR⟩ := hv5.open
 have hRlt : ∀ g o, R = some ⟨g, o, none⟩ → g < w5.heap.size := fun g o e => by subst e; exact (hv5.lt g rfl).2
 have hF5 := blk_below hF4 hb5 rfl
 have hP5 := blk_below hP4 hb5 rfl
 have bW5 := bW4'.trans (hb5.mono bW4'.size)
 have hF4z : w3.heap.size < W4.heap.size := (Array.getElem?_eq_some_iff.1 hF4).1
 have hxl : (packs f s m).length = m := packs_length f s m
 have hz5 : W4.heap.size ≤ w5.heap.size := hb5.size
 have hAR' : ∀ g o, R = some ⟨g, o, none⟩ → W4.heap.size ≤ g := fun g o e => (hAR g o e).1
 clear hF4 hP4 hb5 hv5 HSp bW4' hAR hm
 go_wp2_with fail
 refine (HN.out w5 bW5).mono ?_
 rintro e w6 ⟨bS, A6, cap6, rfl, hbS, hA6, hS6, hb6⟩
 have hF6 := blk_below hF5 hb6 rfl
 have hP6 := blk_below hP5 hb6 rfl
 have bW6 := bW5.trans (hb6.mono bW5.size)
 have hX6 := hS5.below hb6
 have hSz : bS < w6.heap.size := (Array.getElem?_eq_some_iff.1 hS6.1).1
 (try rw [hxl])
 have hmk := makeP m (by omega) w6
 have H7 := Lib.hid (show PoI w #[.int .i64 fd, .int .i64 th, .int .i64 sh, .int .i64 s.length] f s r n m w3.heap.size bS w6.heap.size R 0 (w6.alloc (.cells (List.replicate m nilS).toArray 24)) from
  PoI.start (blk_below hP6 ((Below.refl _ w6).alloc (Nat.le_refl _) _) rfl) (blk_below hF6 ((Below.refl _ w6).alloc (Nat.le_refl _) _) rfl) (hX6.alloc _) (hS6.below ((Below.refl _ w6).alloc (Nat.le_refl _) _)) (fun a e => by have := hA6 a e; omega) (heap_alloc_new w6 _) (bW6.alloc bW6.size _))
 clear hF5 hP5 hF6 hP6 bW6 bW5 hX6 hS5 hb6 HN hS6
 go_wp2
 go_loopw [58] (fun iv W => ∃ i : Nat, i ≤ m ∧ iv = .int .i64 i ∧ PoI w #[.int .i64 fd, .int .i64 th, .int .i64 sh, .int .i64 s.length] f s r n m w3.heap.size bS w6.heap.size R i W) (fun iv _ => m - (intOf iv).toNat)
 case atStart => exact ⟨0, by omega, rfl, H7.out⟩
 case round =>
  clear H7 hmk
  obtain ⟨i, hi, rfl, hI⟩ := hrel
  have HI := Lib.hid hI
  by_cases hlt : i < m
  ·have hlt' : (i : Int) < (m : Int) := by omega
   obtain ⟨bR, oR, rfl, hbR, hld⟩ := hI.X.loadE i (by rw [hxl]; exact hlt)
   have hpk : (packs f s m)[i] = packAt f s i := by simp [packs]
   obtain ⟨pk, hpk'⟩ : ∃ pk, packAt f s i = pk := ⟨_, rfl⟩
   rw [hpk, hpk'] at hld
   have HPK := Lib.hid hpk'
   obtain ⟨c0, c1, c2, c3⟩ := pa_cells hI.P
   have pF := aggF_of_block hI.F
   obtain ⟨A', cap', hs, ha⟩ := hI.S
   have hin : n * (i + 1) ≤ n * m := Nat.mul_le_mul (Nat.le_refl n) (by omega)
   have hin2 : n * (i + 1) = n * i + n := Nat.mul_succ n i
   have hMM : 64 * (n * m) ≤ r.length := HM.out
   have hdl : (r.drop (64 * (n * i))).length = r.length - 64 * (n * i) := List.length_drop ..
   have HE := Lib.hid (fun W (hW : Below wr.heap.size wr W) => srcElements f bS A' cap' (r.drop (64 * (n * i))) n (by omega) (by have := HH2.out; omega) W (hs.below hW) w6.heap.size (by have := hI.Z; have := hW.size; omega) ha)
   have hdd : (r.drop (64 * (n * i))).drop (64 * n) = r.drop (64 * (n * (i + 1))) := by rw [List.drop_drop]; congr 1; omega
   rw [hdd] at HE
   have hzI := hI.Z
   have hzP : w.heap.size < wr.heap.size := (Array.getElem?_eq_some_iff.1 hI.P).1
   have hzF3 : w3.heap.size < wr.heap.size := (Array.getElem?_eq_some_iff.1 hI.F).1
   clear hI hpk hpk' hs ha hin hin2 hMM hdl hdd
   go_wp2_with fail
   (obtain ⟨W0, hW0⟩ : ∃ W0 : World, W0 = (wr).alloc (.cells pk.arr 50) := ⟨_, rfl⟩); (have gW0 : ∀ (j : Nat) (o : Obj), ([Obj.cells pk.arr 50] : List Obj)[j]? = some o → W0.heap[wr.heap.size + j]? = some o := by rw [hW0]; exact allocs_get wr _); (have zW0 : W0.heap.size = wr.heap.size + 1 := by rw [hW0]; exact allocs_size wr [Obj.cells pk.arr 50]); (have bW0 : Below wr.heap.size wr W0 := by rw [hW0]; exact allocs_below wr [Obj.cells pk.arr 50]); (rw [← hW0]); (clear hW0)
   have hX0 : W0.heap[wr.heap.size]? = some _ := gW0 0 _ rfl
   clear gW0
   refine (HE.out W0 bW0).mono ?_
   rintro e w2 ⟨v, A2, cap2, rfl, hv, hs2, ha2, hg2⟩
   obtain ⟨Ac, capc, rfl, hcc, hSc, -⟩ := hv.open
   have hel := elemsV_length f (r.drop (64 * (n * i))) n
   have hX2 : w2.heap[wr.heap.size]? = some (.cells pk.arr 50 (0, 0)) := (hg2.block _ (by omega) (fun e => by injection e; omega)).trans hX0
   have pX := agg_of_block hX2
   have HV := Lib.hid (And.intro hs2 (And.intro ha2 (And.intro hg2 (And.intro bW0 zW0))))
   have hz2 := hg2.size
   clear hs2 ha2 hg2 bW0 hv HE c0 c1 c2 c3 pF hX0 hX2
   obtain ⟨w3', hw3⟩ : ∃ w3', w3' = w2.alloc (.cells (eVals [pk]).toArray 50) := ⟨_, rfl⟩
   have hown0 : w3'.ownsRow w2.heap.size 50 4 (.slice (some ⟨w2.heap.size, 0, none⟩) 1 1) 1 (eVals [pk]) := by
    rw [hw3]
    exact ⟨by rw [eVals_length]; rfl, .inr ⟨w2.heap.size, 1, _, rfl, Nat.le_refl _, heap_alloc_new w2 _, Nat.le_refl _, by decide, by rw [List.size_toArray, eVals_length]; rfl, by rw [List.take_of_length_le (by rw [eVals_length]; exact Nat.le_refl 4)]⟩⟩
   have hb3 : Below w2.heap.size w2 w3' := by rw [hw3]; exact (Below.refl _ w2).alloc (Nat.le_refl _) _
   have hSc3 := hSc.below hb3
   have HO := Lib.hid (And.intro hown0 (And.intro hSc3 hb3))
   clear hown0 hSc3 hb3 hSc
   rw [hel] at hcc ⊢
   go_wp2_with (at_builtin; rw [fold1]; rw [← hw3]; refine wpList_append_sees rfl (.tmp 78) (.tmp 79) 24 rfl w2.heap.size 50 e0 _ 4 32 Tryz.underlying24 he0 ea0 ea1 ea2 rfl (by decide) (.slice (some ⟨w2.heap.size, 0, none⟩) 1 1) 1 (eVals [pk]) rfl HO.out.1 Ac n capc (eVals (elemsV f (r.drop (64 * (n * i))) n)) rfl (by rw [eVals_length, hel]) HO.out.2.1 (eVals_one _) (by unfold maxLen; omega) (by omega) HO.out.2.2.size ?_)
   intro v' w4 hown hg hwh
   rw [← hw3] at hg
   have hg' : ∀ k, k < w2.heap.size → w4.heap[k]? = w2.heap[k]? := fun k hk => (hg.block k (by have := HO.out.2.2.size; omega) (fun e => by simp [Value.ownBlock] at e; omega)).trans (HO.out.2.2.block k hk)
   have hov : OwnE w4 w2.heap.size v' (pk :: elemsV f (r.drop (64 * (n * i))) n) := by
    unfold OwnE
    rw [List.length_cons, hel, Nat.add_comm n 1]
    exact hown
   obtain ⟨Av, capv, rfl, hcv, hSv, hAv⟩ := hov.open
   have hbO : bS < wr.heap.size ∧ w6.heap.size < wr.heap.size := ⟨by omega, hzI⟩
   obtain ⟨ps, hpl, hO, _, _⟩ := HI.out.O
   have hO4 : w4.heap[w6.heap.size]? = some (.cells (eaVals ps ++ List.replicate (m - i) nilS).toArray 24 (0, 0)) :=
    (hg' _ (by omega)).trans (((HV.out.2.2.1.block _ (by omega) (fun e => by injection e; omega)).trans (HV.out.2.2.2.1.block _ hbO.2)).trans hO)
   have hcell : w4.cell? ⟨w6.heap.size, i, none⟩ = some nilS := row_cell hO4 i (by
    rw [List.getElem?_append_right (by rw [eaVals_length, hpl]; exact Nat.le_refl _), eaVals_length, hpl, Nat.sub_self, List.getElem?_replicate, if_pos (by omega)])
   have hfr := row_frozen hO4 i
   have HG := Lib.hid (And.intro hg' (And.intro hSv (And.intro hAv (And.intro hg hcv))))
   have hlv : (pk :: elemsV f (r.drop (64 * (n * i))) n).length = 1 + n := by rw [List.length_cons, hel]; omega
   rw [hlv] at hcv ⊢
   have HLV := Lib.hid hlv
   clear hg' hov hown hg hSv hAv hO4 hpl hO hwh hlv hcv
   go_wp2
   go_roundw
   case rel =>
    refine ⟨i + 1, by omega, by go_num, ?_⟩
    obtain ⟨hg', hSv, hAv, hg, hcv⟩ := HG.out
    obtain ⟨hs2, ha2, hg2, bW0, zW0⟩ := HV.out
    have h3s := HO.out.2.2.size
    have hgs := hg.size
    have := HI.out.step (W' := w4) (by omega) ⟨by omega, by omega⟩ (by omega) (by omega) (by omega) (fun g o e => by have := hAR' g o e; have := hRlt g o e; omega) (A := A2) (cap := cap2)
     ⟨(hg' _ (by omega)).trans hs2.1, hs2.2.1.move fun g o e hgl => hg' g hgl, hs2.2.2⟩ ha2 hlt
     (fun k hk hkb => (hg' k (by omega)).trans ((hg2.block k (by omega) (fun e => hkb (by injection e))).trans (bW0.block k hk)))
     (hg.os.trans (HO.out.2.2.os.trans (hg2.os.trans bW0.os))) (hg.tape.trans (HO.out.2.2.tape.trans (hg2.tape.trans bW0.tape))) (hg.output.trans (HO.out.2.2.output.trans (hg2.output.trans bW0.output))) (by omega)
     ⟨Av, capv, pk :: elemsV f (r.drop (64 * (n * i))) n⟩ (by unfold polyAt; rw [HPK.out]) hSv (fun g o e => by have := (hAv g o e).1; omega)
    unfold EA.val at this
    simp only [] at this
    rw [HLV.out] at this
    exact this
   case measure => (first | (simp [intOf]; done) | (simp [intOf]; omega))
  ·obtain rfl : i = m := by omega
   clear hI
   go_wp2
   go_ret2
   obtain ⟨ps, hpl, hO, hps, hm⟩ := HI.out.O
   rw [Nat.sub_self, List.replicate_zero, List.append_nil] at hO
   exact ⟨w6.heap.size, ps, by rw [hpl]; rfl, ⟨row_sees hO, fun x hx => (hps x hx).1⟩, hm, HI.out.B⟩
end Go.Proofs.YtccgfladbibjbaaGreatDoor
namespace Go.Proofs.YtccgfladbibjbaaGreatDoor
open Go.RowKit
attribute [local go_sem ↓] add_UU sub_UU mul_UU add_UL add_LU sub_UL sub_LU mul_UL neg_at not_at and_UU or_UU xor_UU andNot_UU and_UL or_LU shr_UL shl_UL shr_UN shl_UN shl_LN quo_UL rem_UL quo_UU rem_UU
attribute [local go_sem] wrap64_N wrapi_mod wrap8_U wrap32_U wrap64_B wrap32_B wrap8_D wrapi_B wrap64_UU eq_UU ne_UU eq_UL ne_UL lt_UU le_UU
attribute [local simp] putAgg_size
attribute [local go_sem ↓] loadVar_F loadVar_E loadVar_V loadVar_B32 storeVar_F storeVar_E storeVar_V storeVar_B32 box_F box_E box_V box_B32
attribute [local go_sem ↓ high] V4.cells_val FP.cells_val
attribute [local go_sem] run_loadF run_loadE run_loadV run_loadB32 run_storeF run_storeE run_storeV run_storeB32 run_boxA aggAt_drew aggAt_drewN aggAt_alloc_new aggAt_alloc_past aggAt_setCell_other aggAt_putAgg_other aggAt_putAgg_new putAgg_drew putAgg_size putAgg_alloc_new putAgg_alloc_past putAgg_cell_other putAgg_frozen_other V4.agg_arr FP.agg_arr V4.size_arr FP.size_arr V4.fits FP.fits fitsA_agg4 lt_2 ne_2 en_2 lt_3 ne_3 en_3 lt_4 ne_4 en_4 lt_5 ne_5 en_5 lt_6 ne_6 en_6
theorem polyAt_length (f : FP) (s r : List (BitVec 8)) (n k : Nat) : (polyAt f s r n k).length = n + 1 := by unfold polyAt; rw [List.length_cons, elemsV_length]
theorem polysV_length (f : FP) (s r : List (BitVec 8)) (n m : Nat) : (polysV f s r n m).length = m := by simp [polysV]
def sharesV (q : Pa) (s r : List (BitVec 8)) : List Sh := dealV q (getF q.field) (polysV (getF q.field) s r (q.thr - 1).toNat (cnt q.len)) q.shr.toNat
set_option maxRecDepth 20000 in
set_option maxHeartbeats 4000000 in
theorem dealDeal (q : Pa) (A1 : Option Addr) (cap1 : Nat) (s : List (BitVec 8)) (A2 : Option Addr) (cap2 : Nat) (r : List (BitVec 8)) (w : World) (L : Laid w) (hq : q.checkE = 0) (hl : (s.length : Int) = q.len) (hr : q.random ≤ (r.length : Int)) (hr2 : r.length ≤ 1099511627776) (hc1 : s.length ≤ cap1) (hS1 : Sees w A1 (byteVals s)) (hS2 : Sees w A2 (byteVals r)) :
  Calls Tryz.prog 60 #[.pointer none, q.val, .slice A1 s.length cap1, .slice A2 r.length cap2] w fun e w' => ∃ v l, e = .returned (.tuple #[v, .int .i64 0]) ∧ OwnS w' w.heap.size v l ∧ l.map ShA.s = sharesV q s r ∧ Below w.heap.size w w' := by
 have HP := Lib.hid (fun W (hW : Below w.heap.size w W) => polynomials q A1 cap1 s A2 cap2 r W (L.to hW) hq hl hr hr2 hc1 (hS1.below hW) (hS2.below hW))
 have HE := Lib.hid (fun W (hW : Below w.heap.size w W) (R : Option Addr) (capR : Nat) (ps : List EA) h1 h2 hS => evaluate q R capR ps W (L.to hW) hq h1 h2 hS)
 obtain ⟨_, _, z3, _⟩ := Pa.checkE_zero hq
 have HD := Lib.hid (show sharesV q s r = dealV q (getF q.field) (polysV (getF q.field) s r (q.thr - 1).toNat (cnt q.len)) q.shr.toNat from rfl)
 obtain ⟨D, hD⟩ : ∃ D, sharesV q s r = D := ⟨_, rfl⟩
 rw [hD] at HD ⊢
 have HZ := Lib.hid z3
 clear hD L hq hl hr hr2 hc1 hS1 hS2 z3
 have HQ := Lib.hid (show q.cells = #[.int .i64 q.field, .int .i64 q.thr, .int .i64 q.shr, .int .i64 q.len] from rfl)
 unfold Pa.val Pa.cells at *
 obtain ⟨fd, th, sh, ln⟩ := q
 simp only [] at HP HE HD HZ ⊢
 go_enter Tryz.func60, Tryz.ntmps60
 go_wp2_with fail
 (obtain ⟨W0, hW0⟩ : ∃ W0 : World, W0 = (w).alloc (.cells #[.int .i64 fd, .int .i64 th, .int .i64 sh, .int .i64 ln] 48) := ⟨_, rfl⟩); (have gW0 : ∀ (j : Nat) (o : Obj), ([Obj.cells #[.int .i64 fd, .int .i64 th, .int .i64 sh, .int .i64 ln] 48] : List Obj)[j]? = some o → W0.heap[w.heap.size + j]? = some o := by rw [hW0]; exact allocs_get w _); (have zW0 : W0.heap.size = w.heap.size + 1 := by rw [hW0]; exact allocs_size w [Obj.cells #[.int .i64 fd, .int .i64 th, .int .i64 sh, .int .i64 ln] 48]); (have bW0 : Below w.heap.size w W0 := by rw [hW0]; exact allocs_below w [Obj.cells #[.int .i64 fd, .int .i64 th, .int .i64 sh, .int .i64 ln] 48]); (rw [← hW0]); (clear hW0)
 have gP0 : W0.heap[w.heap.size]? = some _ := gW0 0 _ rfl
 refine (HP.out W0 bW0).mono ?_
 rintro e w1 ⟨b, ps, rfl, hS, hps, hb1⟩
 have gP1 := blk_below gP0 hb1 rfl
 have bW1 := bW0.trans (hb1.mono bW0.size)
 obtain ⟨c0, c1, c2, c3⟩ := pa_cells gP1
 have hpl : ps.length = cnt ln := by have := congrArg List.length hps; rwa [List.length_map, polysV_length] at this
 have hpe : ∀ x ∈ ps, (x.l.length : Int) = th := fun x hx => by
  have hm : x.l ∈ ps.map EA.l := List.mem_map_of_mem hx
  rw [hps] at hm
  unfold polysV at hm
  obtain ⟨k, _, hk⟩ := List.mem_map.1 hm
  rw [← hk, polyAt_length]
  have := HZ.out
  omega
 have HX := Lib.hid (HE.out w1 bW1 _ ps.length ps hpl hpe hS)
 rw [hps] at HX
 rw [← HD.out] at HX
 have HB := Lib.hid bW1
 clear gP0 gW0 zW0 hb1 bW0 HP gP1 hS hps hpl hpe HE HD bW1
 go_wp2_with fail
 refine HX.out.mono ?_
 rintro e w2 ⟨v, l, rfl, hS, hl, hb2⟩
 have HR := Lib.hid (show OwnS w2 w.heap.size v l ∧ l.map ShA.s = D ∧ Below w.heap.size w w2 from ⟨hS.base_le HB.out.size, hl, HB.out.trans (hb2.mono HB.out.size)⟩)
 clear hS hl hb2 HX c0 c1 c2 c3
 go_wp2
 go_ret2
 exact ⟨v, l, rfl, HR.out⟩
end Go.Proofs.YtccgfladbibjbaaGreatDoor
namespace Go.Proofs.YtccgfladbibjbaaGreatDoor
open Go.RowKit
end Go.Proofs.YtccgfladbibjbaaGreatDoor
