/- sharecoreref15.known, Check, Random; sharecoreref13.Count. -/
import Derived.Test.YtccgfladbibjbaaGreatDoorKG28
import Derived.Test.YtccgfladbibjbaaGreatDoorKG30
import Derived.Test.YtccgfladbibjbaaGreatDoorKG29
import Derived.Test.YtccgfladbibjbaaGreatDoorKG36
import Derived.Test.YtccgfladbibjbaaGreatDoorKG37
import Derived.Lib.Strings
import Derived.Test.YtccgfladbibjbaaGreatDoorKG16
import Derived.Test.YtccgfladbibjbaaGreatDoorKG41
import Derived.Test.YtccgfladbibjbaaGreatDoorKG18
import Derived.Test.YtccgfladbibjbaaGreatDoorKG01
import Derived.Test.YtccgfladbibjbaaGreatDoorKG11
import Derived.Laws.StructEq
import Derived.Test.YtccgfladbibjbaaGreatDoorKG12
namespace Go.Proofs.YtccgfladbibjbaaGreatDoor
open Go.RowKit
attribute [local go_sem ↓] add_UU sub_UU mul_UU add_UL add_LU sub_UL sub_LU mul_UL neg_at not_at and_UU or_UU xor_UU andNot_UU and_UL or_LU shr_UL shl_UL shr_UN shl_UN shl_LN quo_UL rem_UL quo_UU rem_UU
attribute [local go_sem] wrap64_N wrapi_mod wrap8_U wrap32_U wrap64_B wrap32_B wrap8_D wrapi_B wrap64_UU eq_UU ne_UU eq_UL ne_UL lt_UU le_UU
theorem refKnown (f : Int) (w : World) : Calls Tryz.prog 88 #[.int .i64 f] w fun e w' => e = .returned (.bool (decide (getE f = 0))) ∧ w' = w := by
 by_cases h1 : f = 1
 ·subst h1
  have HD := Lib.hid (show decide (getE 1 = 0) = true from rfl)
  go_enter Tryz.func88, Tryz.ntmps88
  go_wp2
  go_ret
  exact ⟨by first | (rw [HD.out]; done) | (rw [HD.out]; rfl), rfl⟩
 ·have e1 : (f == 1) = false := beq_eq_false_iff_ne.2 h1
  by_cases h2 : f = 2
  ·subst h2
   have HD := Lib.hid (show decide (getE 2 = 0) = true from rfl)
   go_enter Tryz.func88, Tryz.ntmps88
   go_wp2
   go_ret
   exact ⟨by first | (rw [HD.out]; done) | (rw [HD.out]; rfl), rfl⟩
  ·have e2 : (f == 2) = false := beq_eq_false_iff_ne.2 h2
   have HD := Lib.hid (show decide (getE f = 0) = false from by unfold getE; rw [if_neg h1, if_neg h2]; rfl)
   clear h1 h2
   go_enter Tryz.func88, Tryz.ntmps88
   go_wp2
   go_ret
   exact ⟨by first | (rw [HD.out]; done) | (rw [HD.out]; rfl), rfl⟩
theorem refCount (n : Int) (h0 : 0 ≤ n) (h1 : n ≤ 65535) (w : World) : Calls Tryz.prog 89 #[.int .i64 n] w fun e w' => e = .returned (.int .i64 (cnt n)) ∧ Below w.heap.size w w' := by
 have HC := Lib.hid (show cnt n = (n.toNat + 30) / 31 from by unfold cnt; rw [if_pos ⟨h0, h1⟩])
 have hgt : ¬ (65535 : Int) < n := by omega
 obtain ⟨c, hc⟩ : ∃ c, cnt n = c := ⟨_, rfl⟩
 have HH := Lib.hid (And.intro h0 (And.intro h1 hc))
 rw [hc]
 clear hc h0 h1
 go_enter Tryz.func89, Tryz.ntmps89
 go_wp2
 go_loopw [0, 3] (fun nv kv W => ∃ k : Nat, nv = .int .i64 (n - 31 * (k : Int)) ∧ kv = .int .i64 k ∧ k ≤ 2115 ∧ -31 < n - 31 * (k : Int) ∧ W = w) (fun nv _ _ => ((intOf nv) + 31).toNat)
 case atStart => exact ⟨0, by simp, rfl, by omega, by have := HH.out.1; omega, rfl⟩
 case round =>
  obtain ⟨k, rfl, rfl, hk, hl, rfl⟩ := hrel
  obtain ⟨r, hr⟩ : ∃ r, n - 31 * (k : Int) = r := ⟨_, rfl⟩
  have HR := Lib.hid hr
  rw [hr] at hl ⊢
  clear hr
  by_cases hp : 0 < r
  ·have hw : IntKind.i64.wrap (r - 31) = r - 31 := by rw [IntKind.wrap_i64]; have := HR.out; have := HH.out; omega
   have HN := Lib.hid (show r - 31 = n - 31 * ((k + 1 : Nat) : Int) ∧ k + 1 ≤ 2115 ∧ -31 < r - 31 from by have := HR.out; have := HH.out; omega)
   clear hl
   go_wp2
   go_roundw
   case rel => exact ⟨k + 1, by rw [HN.out.1], by go_num, HN.out.2.1, by rw [← HN.out.1]; exact HN.out.2.2, trivial⟩
   case measure =>
    have := HN.out.2.2
    show ((r - 31) + 31).toNat < (r + 31).toNat
    omega
  ·have hp' : ¬ (0 : Int) < r := hp
   have HE := Lib.hid (show (k : Int) = (c : Int) from by have := HR.out; have := HH.out; have := HC.out; omega)
   clear hl hp
   go_wp2
   go_ret
   exact ⟨by first | (rw [HE.out]; done) | (rw [HE.out]; rfl), Below.refl _ _⟩
end Go.Proofs.YtccgfladbibjbaaGreatDoor
namespace Go.Proofs.YtccgfladbibjbaaGreatDoor
open Go.RowKit
attribute [local go_sem ↓] add_UU sub_UU mul_UU add_UL add_LU sub_UL sub_LU mul_UL neg_at not_at and_UU or_UU xor_UU andNot_UU and_UL or_LU shr_UL shl_UL shr_UN shl_UN shl_LN quo_UL rem_UL quo_UU rem_UU
attribute [local go_sem] wrap64_N wrapi_mod wrap8_U wrap32_U wrap64_B wrap32_B wrap8_D wrapi_B wrap64_UU eq_UU ne_UU eq_UL ne_UL lt_UU le_UU
theorem refSize (n : Int) (h0 : 0 ≤ n) (h1 : n ≤ 65535) (w : World) : Calls Tryz.prog 67 #[.int .i64 n] w fun e w' => e = .returned (.int .i64 ((38 + 32 * cnt n : Nat) : Int)) ∧ Below w.heap.size w w' := by
 have HC := Lib.hid (refCount n h0 h1)
 have hcl := cnt_le n
 have hn0 : ¬ n < 0 := by omega
 have hn1 : ¬ (65535 : Int) < n := by omega
 obtain ⟨c, hc⟩ : ∃ c, cnt n = c := ⟨_, rfl⟩
 rw [hc] at HC hcl ⊢
 have HE := Lib.hid (show 38 + 32 * (c : Int) = ((38 + 32 * c : Nat) : Int) from by omega)
 clear h0 h1 hc
 go_enter Tryz.func67, Tryz.ntmps67
 go_wp2_with fail
 refine (HC.out _).mono ?_
 rintro e w1 ⟨rfl, hb⟩
 have HB := Lib.hid hb
 clear hb
 go_wp2
 go_ret
 exact ⟨by first | (rw [← HE.out]; done) | (rw [← HE.out]; rfl), HB.out⟩
def headE (l : List (BitVec 8)) : Int :=
 if l.length < 38 then 8 else if hdr l 0 ≠ 1 then 11 else if getE (hdr l 1) ≠ 0 then getE (hdr l 1) else if hdr l 2 = 0 then 4 else if hdr l 3 = 0 then 12 else if l.length ≠ 38 + 32 * cnt (recLen l) then 8 else 0
theorem getE_3 {x : Int} (h : getE x ≠ 0) : getE x = 3 ∧ x ≠ 1 ∧ x ≠ 2 := by
 unfold getE at h ⊢
 by_cases h1 : x = 1
 ·rw [if_pos h1] at h; exact absurd rfl h
 ·by_cases h2 : x = 2
  ·rw [if_neg h1, if_pos h2] at h; exact absurd rfl h
  ·rw [if_neg h1, if_neg h2]; exact ⟨rfl, h1, h2⟩
theorem hdr_le (l : List (BitVec 8)) (j : Nat) : 0 ≤ hdr l j ∧ hdr l j ≤ 255 := by
 unfold hdr
 have := (l[j]?.getD 0#8).isLt
 omega
theorem hdr_at {w : World} {b o : Nat} {l : List (BitVec 8)} (h : Sees w (some ⟨b, o, none⟩) (byteVals l)) (j : Nat) (hj : j < l.length) : w.cell? ⟨b, o + j, none⟩ = some (.int .u8 (hdr l j)) := by
 obtain ⟨b', o', e, hc⟩ := h (by rw [byteVals_length]; omega)
 injection e with e
 injection e with e1 e2
 subst e1 e2
 rw [hc j (by rw [byteVals_length]; exact hj), byteVals_get l j hj]
 rfl
set_option maxRecDepth 20000 in
set_option maxHeartbeats 1000000 in
theorem refHead (A : Option Addr) (cap : Nat) (l : List (BitVec 8)) (hlen : l.length ≤ 1099511627776) (w : World) (hs : Sees w A (byteVals l)) :
  Calls Tryz.prog 30 #[.slice A l.length cap] w fun e w' => e = .returned (.int .i64 (headE l)) ∧ Below w.heap.size w w' := by
 obtain ⟨r, hr⟩ : ∃ r, headE l = r := ⟨_, rfl⟩
 have HR := Lib.hid hr
 rw [hr]
 clear hr
 unfold headE at HR
 obtain ⟨n, hn⟩ : ∃ n, l.length = n := ⟨_, rfl⟩
 have hb0 := hdr_le l 0
 have hb1 := hdr_le l 1
 have hb2 := hdr_le l 2
 have hb3 := hdr_le l 3
 have hb4 := hdr_le l 4
 have hb5 := hdr_le l 5
 by_cases h38 : n < 38
 ·have h38' : (n : Int) < 38 := by omega
  rw [if_pos (by omega)] at HR
  rw [hn]
  clear hs hn h38 hlen hb0 hb1 hb2 hb3 hb4 hb5
  go_enter Tryz.func30, Tryz.ntmps30
  go_wp2
  go_ret
  exact ⟨by first | (rw [← HR.out]; done) | (rw [← HR.out]; rfl), Below.refl _ _⟩
 ·rw [if_neg (by omega)] at HR
  have h38' : ¬ (n : Int) < 38 := by omega
  obtain ⟨b, o, rfl, -⟩ := hs (by rw [byteVals_length]; omega)
  have x0 := hdr_at hs 0 (by omega)
  have x1 := hdr_at hs 1 (by omega)
  have x2 := hdr_at hs 2 (by omega)
  have x3 := hdr_at hs 3 (by omega)
  have x4 := hdr_at hs 4 (by omega)
  have x5 := hdr_at hs 5 (by omega)
  rw [Nat.add_zero] at x0
  have hrl : recLen l = hdr l 4 + 256 * hdr l 5 := rfl
  have HSz := Lib.hid (refSize (recLen l) (by omega) (by omega))
  have hcl := cnt_le (recLen l)
  rw [hrl] at HSz HR hcl
  generalize hdr l 0 = a0 at *
  generalize hdr l 1 = a1 at *
  generalize hdr l 2 = a2 at *
  generalize hdr l 3 = a3 at *
  generalize hdr l 4 = a4 at *
  generalize hdr l 5 = a5 at *
  rw [hn] at HR hlen ⊢
  have l0 : (0 : Int) < (n : Int) := by omega
  have l1 : (1 : Int) < (n : Int) := by omega
  have l2 : (2 : Int) < (n : Int) := by omega
  have l3 : (3 : Int) < (n : Int) := by omega
  have l4 : (4 : Int) < (n : Int) := by omega
  have l5 : (5 : Int) < (n : Int) := by omega
  clear hs hrl hn
  by_cases h0 : a0 = 1
  ·rw [if_neg (fun h => h h0)] at HR
   have e0 : (a0 != 1) = false := by simpa using h0
   by_cases hg : getE a1 = 0
   ·rw [if_neg (fun h => h hg)] at HR
    have h12 : a1 = 1 ∨ a1 = 2 := getE_range hg
    by_cases h2 : a2 = 0
    ·rw [if_pos h2] at HR
     have e2 : (a2 == 0) = true := by simpa using h2
     clear h0 h2 hg HSz hcl hb0 hb1 hb2 hb3 hb4 hb5
     rcases h12 with rfl | rfl
     ·go_enter Tryz.func30, Tryz.ntmps30
      go_wp2
      go_ret
      exact ⟨by first | (rw [← HR.out]; done) | (rw [← HR.out]; rfl), Below.refl _ _⟩
     ·go_enter Tryz.func30, Tryz.ntmps30
      go_wp2
      go_ret
      exact ⟨by first | (rw [← HR.out]; done) | (rw [← HR.out]; rfl), Below.refl _ _⟩
    ·rw [if_neg h2] at HR
     have e2 : (a2 == 0) = false := by simpa using h2
     by_cases h3 : a3 = 0
     ·rw [if_pos h3] at HR
      have e3 : (a3 == 0) = true := by simpa using h3
      clear h0 h2 h3 hg HSz hcl hb0 hb1 hb2 hb3 hb4 hb5
      rcases h12 with rfl | rfl
      ·go_enter Tryz.func30, Tryz.ntmps30
       go_wp2
       go_ret
       exact ⟨by first | (rw [← HR.out]; done) | (rw [← HR.out]; rfl), Below.refl _ _⟩
      ·go_enter Tryz.func30, Tryz.ntmps30
       go_wp2
       go_ret
       exact ⟨by first | (rw [← HR.out]; done) | (rw [← HR.out]; rfl), Below.refl _ _⟩
     ·rw [if_neg h3] at HR
      have e3 : (a3 == 0) = false := by simpa using h3
      have hw1 : IntKind.i64.wrap a4 = a4 := by rw [IntKind.wrap_i64]; omega
      have hw2 : IntKind.i64.wrap a5 = a5 := by rw [IntKind.wrap_i64]; omega
      have hw3 : IntKind.i64.wrap (256 * a5) = 256 * a5 := by rw [IntKind.wrap_i64]; omega
      have hw4 : IntKind.i64.wrap (a4 + 256 * a5) = a4 + 256 * a5 := by rw [IntKind.wrap_i64]; omega
      obtain ⟨c, hc⟩ : ∃ c, 38 + 32 * cnt (a4 + 256 * a5) = c := ⟨_, rfl⟩
      rw [hc] at HSz HR
      clear h0 h2 h3 hg hcl hb0 hb1 hb2 hb3 hb4 hb5 hc hlen
      by_cases hsz : n = c
      ·rw [if_neg (fun h => h hsz)] at HR
       have HE := Lib.hid (show ((n : Int) != (c : Int)) = false by simp [hsz])
       clear hsz
       rcases h12 with rfl | rfl
       ·go_enter Tryz.func30, Tryz.ntmps30
        go_upto_region 11 with (fail)
        ((have hS0 : (Below w.heap.size w w.drew ∧ w.drew.cell? ⟨(b), (o + 4), none⟩ = some (.int .u8 a4) ∧ w.drew.cell? ⟨(b), (o + 5), none⟩ = some (.int .u8 a5)) := ⟨((Below.refl _ w)).drew, x4, x5⟩); (refine region_later (by kernel_rfl) [14] [0, 1, 2, 3, 4, 5, 6, 7, 8, 9, 10, 11, 12, 13] true (by kernel_rfl) (by kernel_rfl) (fun W' => (Below w.heap.size w W' ∧ W'.cell? ⟨(b), (o + 4), none⟩ = some (.int .u8 a4) ∧ W'.cell? ⟨(b), (o + 5), none⟩ = some (.int .u8 a5))) hS0 ?_); (have hSB : ∀ W' W'' : World, (Below w.heap.size w W' ∧ W'.cell? ⟨(b), (o + 4), none⟩ = some (.int .u8 a4) ∧ W'.cell? ⟨(b), (o + 5), none⟩ = some (.int .u8 a5)) → Below W'.heap.size W' W'' → (Below w.heap.size w W'' ∧ W''.cell? ⟨(b), (o + 4), none⟩ = some (.int .u8 a4) ∧ W''.cell? ⟨(b), (o + 5), none⟩ = some (.int .u8 a5)) := fun W' W'' ⟨h0, h1, h2⟩ hb => ⟨h0.trans (hb.mono h0.size), cell_keep h1 hb, cell_keep h2 hb⟩); (clear x4 x5); (iterate 14 (refine chainL_op (by rfl) (by rfl) ?_ ?_ ?_; rotate_left; (focus (intro W' hS' K hK; (try simp only [put_some, List.set] at hK); (have hS'' := hS'); (obtain ⟨s0, s1, s2⟩ := hS''); go_simp; (first | exact hK _ hS' (Later.refl _) | (with_reducible refine Calls.mono (HSz.out _) ?_; rintro e W'' ⟨rfl, hb''⟩; exact hK _ (hSB _ _ hS' hb'') (Later.of hb''))); done)); (try simp only [put_some, List.set]))); (refine chainL_nil ?_))
        refine spineL_op (by rfl) (by rfl) (fun X1 hS1 hL1 K hK => ?_)
        go_simp
        refine hK _ _ (fun _ => hS1) ?_
        (try simp only [put_some, List.set])
        refine spineL_nil fun X2 hL2 hS2 => ?_
        have HB := Lib.hid (hS2 rfl).1
        clear hS1 hS2 hL1 hL2 hSB hS0 K hK
        have hx := HE.out
        go_wp2
        go_ret
        exact ⟨by first | (rw [← HR.out]; done) | (rw [← HR.out]; rfl), HB.out⟩
       ·go_enter Tryz.func30, Tryz.ntmps30
        go_upto_region 11 with (fail)
        ((have hS0 : (Below w.heap.size w w.drew ∧ w.drew.cell? ⟨(b), (o + 4), none⟩ = some (.int .u8 a4) ∧ w.drew.cell? ⟨(b), (o + 5), none⟩ = some (.int .u8 a5)) := ⟨((Below.refl _ w)).drew, x4, x5⟩); (refine region_later (by kernel_rfl) [14] [0, 1, 2, 3, 4, 5, 6, 7, 8, 9, 10, 11, 12, 13] true (by kernel_rfl) (by kernel_rfl) (fun W' => (Below w.heap.size w W' ∧ W'.cell? ⟨(b), (o + 4), none⟩ = some (.int .u8 a4) ∧ W'.cell? ⟨(b), (o + 5), none⟩ = some (.int .u8 a5))) hS0 ?_); (have hSB : ∀ W' W'' : World, (Below w.heap.size w W' ∧ W'.cell? ⟨(b), (o + 4), none⟩ = some (.int .u8 a4) ∧ W'.cell? ⟨(b), (o + 5), none⟩ = some (.int .u8 a5)) → Below W'.heap.size W' W'' → (Below w.heap.size w W'' ∧ W''.cell? ⟨(b), (o + 4), none⟩ = some (.int .u8 a4) ∧ W''.cell? ⟨(b), (o + 5), none⟩ = some (.int .u8 a5)) := fun W' W'' ⟨h0, h1, h2⟩ hb => ⟨h0.trans (hb.mono h0.size), cell_keep h1 hb, cell_keep h2 hb⟩); (clear x4 x5); (iterate 14 (refine chainL_op (by rfl) (by rfl) ?_ ?_ ?_; rotate_left; (focus (intro W' hS' K hK; (try simp only [put_some, List.set] at hK); (have hS'' := hS'); (obtain ⟨s0, s1, s2⟩ := hS''); go_simp; (first | exact hK _ hS' (Later.refl _) | (with_reducible refine Calls.mono (HSz.out _) ?_; rintro e W'' ⟨rfl, hb''⟩; exact hK _ (hSB _ _ hS' hb'') (Later.of hb''))); done)); (try simp only [put_some, List.set]))); (refine chainL_nil ?_))
        refine spineL_op (by rfl) (by rfl) (fun X1 hS1 hL1 K hK => ?_)
        go_simp
        refine hK _ _ (fun _ => hS1) ?_
        (try simp only [put_some, List.set])
        refine spineL_nil fun X2 hL2 hS2 => ?_
        have HB := Lib.hid (hS2 rfl).1
        clear hS1 hS2 hL1 hL2 hSB hS0 K hK
        have hx := HE.out
        go_wp2
        go_ret
        exact ⟨by first | (rw [← HR.out]; done) | (rw [← HR.out]; rfl), HB.out⟩
      ·rw [if_pos hsz] at HR
       have HE := Lib.hid (show ((n : Int) != (c : Int)) = true by simp; omega)
       clear hsz
       rcases h12 with rfl | rfl
       ·go_enter Tryz.func30, Tryz.ntmps30
        go_upto_region 11 with (fail)
        ((have hS0 : (Below w.heap.size w w.drew ∧ w.drew.cell? ⟨(b), (o + 4), none⟩ = some (.int .u8 a4) ∧ w.drew.cell? ⟨(b), (o + 5), none⟩ = some (.int .u8 a5)) := ⟨((Below.refl _ w)).drew, x4, x5⟩); (refine region_later (by kernel_rfl) [14] [0, 1, 2, 3, 4, 5, 6, 7, 8, 9, 10, 11, 12, 13] true (by kernel_rfl) (by kernel_rfl) (fun W' => (Below w.heap.size w W' ∧ W'.cell? ⟨(b), (o + 4), none⟩ = some (.int .u8 a4) ∧ W'.cell? ⟨(b), (o + 5), none⟩ = some (.int .u8 a5))) hS0 ?_); (have hSB : ∀ W' W'' : World, (Below w.heap.size w W' ∧ W'.cell? ⟨(b), (o + 4), none⟩ = some (.int .u8 a4) ∧ W'.cell? ⟨(b), (o + 5), none⟩ = some (.int .u8 a5)) → Below W'.heap.size W' W'' → (Below w.heap.size w W'' ∧ W''.cell? ⟨(b), (o + 4), none⟩ = some (.int .u8 a4) ∧ W''.cell? ⟨(b), (o + 5), none⟩ = some (.int .u8 a5)) := fun W' W'' ⟨h0, h1, h2⟩ hb => ⟨h0.trans (hb.mono h0.size), cell_keep h1 hb, cell_keep h2 hb⟩); (clear x4 x5); (iterate 14 (refine chainL_op (by rfl) (by rfl) ?_ ?_ ?_; rotate_left; (focus (intro W' hS' K hK; (try simp only [put_some, List.set] at hK); (have hS'' := hS'); (obtain ⟨s0, s1, s2⟩ := hS''); go_simp; (first | exact hK _ hS' (Later.refl _) | (with_reducible refine Calls.mono (HSz.out _) ?_; rintro e W'' ⟨rfl, hb''⟩; exact hK _ (hSB _ _ hS' hb'') (Later.of hb''))); done)); (try simp only [put_some, List.set]))); (refine chainL_nil ?_))
        refine spineL_op (by rfl) (by rfl) (fun X1 hS1 hL1 K hK => ?_)
        go_simp
        refine hK _ _ (fun _ => hS1) ?_
        (try simp only [put_some, List.set])
        refine spineL_nil fun X2 hL2 hS2 => ?_
        have HB := Lib.hid (hS2 rfl).1
        clear hS1 hS2 hL1 hL2 hSB hS0 K hK
        have hx := HE.out
        go_wp2
        go_ret
        exact ⟨by first | (rw [← HR.out]; done) | (rw [← HR.out]; rfl), HB.out⟩
       ·go_enter Tryz.func30, Tryz.ntmps30
        go_upto_region 11 with (fail)
        ((have hS0 : (Below w.heap.size w w.drew ∧ w.drew.cell? ⟨(b), (o + 4), none⟩ = some (.int .u8 a4) ∧ w.drew.cell? ⟨(b), (o + 5), none⟩ = some (.int .u8 a5)) := ⟨((Below.refl _ w)).drew, x4, x5⟩); (refine region_later (by kernel_rfl) [14] [0, 1, 2, 3, 4, 5, 6, 7, 8, 9, 10, 11, 12, 13] true (by kernel_rfl) (by kernel_rfl) (fun W' => (Below w.heap.size w W' ∧ W'.cell? ⟨(b), (o + 4), none⟩ = some (.int .u8 a4) ∧ W'.cell? ⟨(b), (o + 5), none⟩ = some (.int .u8 a5))) hS0 ?_); (have hSB : ∀ W' W'' : World, (Below w.heap.size w W' ∧ W'.cell? ⟨(b), (o + 4), none⟩ = some (.int .u8 a4) ∧ W'.cell? ⟨(b), (o + 5), none⟩ = some (.int .u8 a5)) → Below W'.heap.size W' W'' → (Below w.heap.size w W'' ∧ W''.cell? ⟨(b), (o + 4), none⟩ = some (.int .u8 a4) ∧ W''.cell? ⟨(b), (o + 5), none⟩ = some (.int .u8 a5)) := fun W' W'' ⟨h0, h1, h2⟩ hb => ⟨h0.trans (hb.mono h0.size), cell_keep h1 hb, cell_keep h2 hb⟩); (clear x4 x5); (iterate 14 (refine chainL_op (by rfl) (by rfl) ?_ ?_ ?_; rotate_left; (focus (intro W' hS' K hK; (try simp only [put_some, List.set] at hK); (have hS'' := hS'); (obtain ⟨s0, s1, s2⟩ := hS''); go_simp; (first | exact hK _ hS' (Later.refl _) | (with_reducible refine Calls.mono (HSz.out _) ?_; rintro e W'' ⟨rfl, hb''⟩; exact hK _ (hSB _ _ hS' hb'') (Later.of hb''))); done)); (try simp only [put_some, List.set]))); (refine chainL_nil ?_))
        refine spineL_op (by rfl) (by rfl) (fun X1 hS1 hL1 K hK => ?_)
        go_simp
        refine hK _ _ (fun _ => hS1) ?_
        (try simp only [put_some, List.set])
        refine spineL_nil fun X2 hL2 hS2 => ?_
        have HB := Lib.hid (hS2 rfl).1
        clear hS1 hS2 hL1 hL2 hSB hS0 K hK
        have hx := HE.out
        go_wp2
        go_ret
        exact ⟨by first | (rw [← HR.out]; done) | (rw [← HR.out]; rfl), HB.out⟩
   ·obtain ⟨g3, g1, g2⟩ := getE_3 hg
    rw [if_pos hg, g3] at HR
    have e1 : (a1 != 1) = true := by simpa using g1
    have e2 : (a1 != 2) = true := by simpa using g2
    clear h0 hg g1 g2 g3 HSz hcl hb0 hb1 hb2 hb3 hb4 hb5
    go_enter Tryz.func30, Tryz.ntmps30
    go_wp2
    go_ret
    exact ⟨by first | (rw [← HR.out]; done) | (rw [← HR.out]; rfl), Below.refl _ _⟩
  ·rw [if_pos h0] at HR
   have e0 : (a0 != 1) = true := by simpa using h0
   clear h0 HSz hcl hb0 hb1 hb2 hb3 hb4 hb5
   go_enter Tryz.func30, Tryz.ntmps30
   go_wp2
   go_ret
   exact ⟨by first | (rw [← HR.out]; done) | (rw [← HR.out]; rfl), Below.refl _ _⟩
end Go.Proofs.YtccgfladbibjbaaGreatDoor
namespace Go.Proofs.YtccgfladbibjbaaGreatDoor
open Go.RowKit
attribute [local go_sem ↓] add_UU sub_UU mul_UU add_UL add_LU sub_UL sub_LU mul_UL neg_at not_at and_UU or_UU xor_UU andNot_UU and_UL or_LU shr_UL shl_UL shr_UN shl_UN shl_LN quo_UL rem_UL quo_UU rem_UU
attribute [local go_sem] wrap64_N wrapi_mod wrap8_U wrap32_U wrap64_B wrap32_B wrap8_D wrapi_B wrap64_UU eq_UU ne_UU eq_UL ne_UL lt_UU le_UU
def strB (l : List (BitVec 8)) : ByteArray := strOfNums (l.map B)
theorem B_nat (x : BitVec 8) : UInt8.ofNat (B x).toNat = ⟨x⟩ := by
 show UInt8.ofNat ((x.toNat : Int)).toNat = _
 rw [Int.toNat_natCast]
 apply UInt8.toNat_inj.1
 have := x.isLt
 simp
theorem strB_data (l : List (BitVec 8)) : (strB l).toList = l.map fun x => (⟨x⟩ : UInt8) := by
 unfold strB
 rw [Lib.toList_data, strOfNums_data, List.map_map]
 apply List.map_congr_left
 intro x _
 exact B_nat x
theorem strB_inj {l1 l2 : List (BitVec 8)} : ((strB l1).toList == (strB l2).toList) = decide (l1 = l2) := by
 rw [strB_data, strB_data, Bool.eq_iff_iff, beq_iff_eq, decide_eq_true_iff]
 constructor
 ·intro h
  exact List.map_inj_right (fun _ _ h => by injection h) |>.1 h
 ·rintro rfl; rfl
theorem conv_strB (l : List (BitVec 8)) (n : Nat) (hn : l.length = n) (h0 : n ≠ 0) (w : World) (A : Option Addr) (c : Nat) (hs : Sees w A (byteVals l)) : (convert 22 9 (.slice A n c)).run Tryz.prog w = .ok (.string (strB l)) w := by
 subst hn
 obtain ⟨b, o, rfl, hc⟩ := hs (by rw [byteVals_length]; omega)
 refine run_convert_bytes_arg w 22 5 Tryz.underlying22 Tryz.underlying5 b o l.length c (l.map B) (by rw [List.length_map]) (fun i hi => ?_) 9 Tryz.underlying9
 rw [hc i (by rw [byteVals_length]; exact hi), byteVals_get l i hi]
 congr 2
 rw [List.getD_eq_getElem?_getD, List.getElem?_map, List.getElem?_eq_getElem hi]
 rfl
theorem recE_head (l : List (BitVec 8)) : recE l = if headE l ≠ 0 then headE l else if elsE (getF (hdr l 1)) l (cnt (recLen l)) ≠ 0 then elsE (getF (hdr l 1)) l (cnt (recLen l)) else if sumL (l.take (l.length - 32)) = l.drop (l.length - 32) then 0 else 13 := by
 unfold recE headE
 by_cases h1 : l.length < 38
 ·simp only [if_pos h1]; rfl
 simp only [if_neg h1]
 by_cases h2 : hdr l 0 ≠ 1
 ·simp only [if_pos h2]; rfl
 simp only [if_neg h2]
 by_cases h3 : getE (hdr l 1) ≠ 0
 ·simp only [if_pos h3]
 simp only [if_neg h3]
 by_cases h4 : hdr l 2 = 0
 ·simp only [if_pos h4]; rfl
 simp only [if_neg h4]
 by_cases h5 : hdr l 3 = 0
 ·simp only [if_pos h5]; rfl
 simp only [if_neg h5]
 by_cases h6 : l.length ≠ 38 + 32 * cnt (recLen l)
 ·simp only [if_pos h6]; rfl
 simp only [if_neg h6]
 rfl
theorem headE_zero {l : List (BitVec 8)} (h : headE l = 0) : 38 ≤ l.length ∧ hdr l 0 = 1 ∧ getE (hdr l 1) = 0 ∧ hdr l 2 ≠ 0 ∧ hdr l 3 ≠ 0 ∧ l.length = 38 + 32 * cnt (recLen l) := by
 unfold headE at h
 by_cases h1 : l.length < 38
 ·rw [if_pos h1] at h; cases h
 rw [if_neg h1] at h
 by_cases h2 : hdr l 0 ≠ 1
 ·rw [if_pos h2] at h; cases h
 rw [if_neg h2] at h
 by_cases h3 : getE (hdr l 1) ≠ 0
 ·rw [if_pos h3] at h; exact absurd h h3
 rw [if_neg h3] at h
 by_cases h4 : hdr l 2 = 0
 ·rw [if_pos h4] at h; cases h
 rw [if_neg h4] at h
 by_cases h5 : hdr l 3 = 0
 ·rw [if_pos h5] at h; cases h
 rw [if_neg h5] at h
 by_cases h6 : l.length ≠ 38 + 32 * cnt (recLen l)
 ·rw [if_pos h6] at h; cases h
 exact ⟨by omega, Decidable.not_not.1 h2, Decidable.not_not.1 h3, h4, h5, Decidable.not_not.1 h6⟩
theorem tag_iff (l : List (BitVec 8)) (n : Nat) : l.take n ++ sumL (l.take n) = l ↔ sumL (l.take n) = l.drop n := by
 constructor
 ·intro h
  exact List.append_cancel_left (h.trans (List.take_append_drop n l).symm)
 ·intro h
  rw [h, List.take_append_drop]
end Go.Proofs.YtccgfladbibjbaaGreatDoor
namespace Go.Proofs.YtccgfladbibjbaaGreatDoor
open Go.RowKit
attribute [local go_sem ↓] add_UU sub_UU mul_UU add_UL add_LU sub_UL sub_LU mul_UL neg_at not_at and_UU or_UU xor_UU andNot_UU and_UL or_LU shr_UL shl_UL shr_UN shl_UN shl_LN quo_UL rem_UL quo_UU rem_UU
attribute [local go_sem] wrap64_N wrapi_mod wrap8_U wrap32_U wrap64_B wrap32_B wrap8_D wrapi_B wrap64_UU eq_UU ne_UU eq_UL ne_UL lt_UU le_UU
attribute [local simp] putAgg_size
attribute [local go_sem ↓] loadVar_F loadVar_E loadVar_V loadVar_B32 storeVar_F storeVar_E storeVar_V storeVar_B32 box_F box_E box_V box_B32
attribute [local go_sem ↓ high] V4.cells_val FP.cells_val
attribute [local go_sem] run_loadF run_loadE run_loadV run_loadB32 run_storeF run_storeE run_storeV run_storeB32 run_boxA aggAt_drew aggAt_drewN aggAt_alloc_new aggAt_alloc_past aggAt_setCell_other aggAt_putAgg_other aggAt_putAgg_new putAgg_drew putAgg_size putAgg_alloc_new putAgg_alloc_past putAgg_cell_other putAgg_frozen_other V4.agg_arr FP.agg_arr V4.size_arr FP.size_arr V4.fits FP.fits fitsA_agg4 lt_2 ne_2 en_2 lt_3 ne_3 en_3 lt_4 ne_4 en_4 lt_5 ne_5 en_5 lt_6 ne_6 en_6
attribute [local go_sem ↓ high] bval_cells
attribute [local go_sem] agg_bytes byteVals_size byteVals_length
set_option maxRecDepth 20000 in
set_option maxHeartbeats 2000000 in
theorem refTagged (A : Option Addr) (cap : Nat) (l : List (BitVec 8)) (w : World) (hs : Sees w A (byteVals l)) (hlen : l.length ≤ 549755813888) :
  Calls Tryz.prog 32 #[.slice A l.length cap] w fun e w' => ∃ v, e = .returned v ∧ OwnB w' w.heap.size v (l ++ sumL l) ∧ Below w.heap.size w w' := by
 obtain ⟨i0, hi0, ia0, ia1, ia2⟩ := info_parts info_u8
 have HS := Lib.hid (refSum12 A cap l w hs (by omega))
 have HSe := Lib.hid (fun W (hW : Below w.heap.size w W) => hs.below hW)
 obtain ⟨m, hm⟩ : ∃ m, l.length = m := ⟨_, rfl⟩
 obtain ⟨R, hR⟩ : ∃ R, sumL l = R := ⟨_, rfl⟩
 have hr : R.length = 32 := by rw [← hR, sumL_length]
 have HM := Lib.hid (And.intro hm hR)
 rw [hm, hR] at HS
 rw [hm] at hlen ⊢
 clear hs hm hR
 go_enter Tryz.func32, Tryz.ntmps32
 go_wp2_with fail
 refine HS.out.mono ?_
 rintro e w1 ⟨rfl, hb1⟩
 have hf : fitsA 32 (bval R) = true := fits_bytes 32 _ hr
 have HB1 := Lib.hid hb1
 clear hb1 HS
 go_wp2_with fail
 (obtain ⟨w2, hw2⟩ : ∃ W0 : World, W0 = (w1).alloc (.cells (byteVals R).toArray 64) := ⟨_, rfl⟩); (have gw2 : ∀ (j : Nat) (o : Obj), ([Obj.cells (byteVals R).toArray 64] : List Obj)[j]? = some o → w2.heap[w1.heap.size + j]? = some o := by rw [hw2]; exact allocs_get w1 _); (have zw2 : w2.heap.size = w1.heap.size + 1 := by rw [hw2]; exact allocs_size w1 [Obj.cells (byteVals R).toArray 64]); (have bw2 : Below w1.heap.size w1 w2 := by rw [hw2]; exact allocs_below w1 [Obj.cells (byteVals R).toArray 64]); (rw [← hw2]); (clear hw2)
 have gS : w2.heap[w1.heap.size]? = some (.cells (byteVals R).toArray 64 (0, 0)) := gw2 0 _ rfl
 have hsl := slice_all32 w1.heap.size
 have hb02 := HB1.out.trans (bw2.mono HB1.out.size)
 have HG := Lib.hid gS
 clear gS gw2 zw2 bw2 hf
 ((have hS0 : (Below w.heap.size w w2.drew) := (hb02).drew); (refine region_free (by kernel_rfl) [0, 2, 4, 5] [1, 3] false (by kernel_rfl) (by kernel_rfl) (fun W' => (Below w.heap.size w W')) hS0 ?_); (have hSB : ∀ W' W'' : World, (Below w.heap.size w W') → Below W'.heap.size W' W'' → (Below w.heap.size w W'') := fun W' W'' h0 hb => h0.trans (hb.mono h0.size)); (iterate 2 (refine chainF_opL (by rfl) (by rfl) ?_ ?_ ?_; rotate_left; (focus (intro W' hS' K hK; (try simp only [put_some, List.set] at hK); (have hS'' := hS'); (obtain s0 := hS''); go_simp; (exact hK); done)); (try simp only [put_some, List.set]))); (refine chainF_nil ?_))
 have HG1 := Lib.hid (show w2.drew.heap[w1.heap.size]? = some (.cells (byteVals R).toArray 64 (0, 0)) from HG.out)
 clear HG hb02
 generalize w2.drew = Y1 at *
 refine spine_opL (by rfl) (by rfl) (fun K hK => ?_)
 (try simp only [put_some, List.set] at hK)
 go_simp
 have hb := (Below.refl _ Y1).alloc (Nat.le_refl _) (.cells #[] 5)
 have hO := World.ownsRow_made (base := w.heap.size) (e := 5) (size := 1) Y1 #[] 0 hS0.size (Nat.zero_le _) rfl
 have hS1 := hSB _ _ hS0 hb
 have HG2 := Lib.hid (blk_below HG1.out hb rfl)
 refine hK _ _ hS1 ?_
 have HO := Lib.hid hO
 clear hK K hb hS0 hO
 have HZ := Lib.hid (show ¬ w1.heap.size = Y1.heap.size from fun e => by have := (Array.getElem?_eq_some_iff.1 HG1.out).1; omega)
 clear HG1
 generalize Y1.heap.size = bz at *
 generalize Y1.alloc (.cells #[] 5) = Y2 at *
 refine spine_opL (by rfl) (by rfl) (fun K hK => ?_)
 (try simp only [put_some, List.set] at hK)
 refine wp_append_sees (.tmp 6) (.tmp 7) 22 rfl w.heap.size 5 i0 (.int .u8 0) 1 1 Tryz.underlying22 hi0 ia0 ia1 ia2 rfl (by decide) (.slice (some ⟨bz, 0, none⟩) 0 0) 0 [] rfl HO.out A m cap (byteVals l) rfl (by rw [byteVals_length, HM.out.1, Nat.mul_one]) (HSe.out _ hS1) (byteVals_one l) (by unfold maxLen; omega) (by omega) hS1.size (fun v1 Y3 hown hg _ => ?_)
 have hvO : OwnB Y3 w.heap.size v1 l := by
  unfold OwnB
  rw [HM.out.1]
  rw [Nat.zero_add] at hown
  exact hown
 have hloc : ∀ k, Value.ownBlock (.slice (some ⟨bz, 0, none⟩) 0 0) = some k → w.heap.size ≤ k := fun k e => (World.ownsRow.lt HO.out k e).1
 have hS2 := hS1.grown hg hS1.size hloc
 have hbz : bz ≠ w1.heap.size ∧ w1.heap.size < Y2.heap.size := ⟨fun e => HZ.out e.symm, (Array.getElem?_eq_some_iff.1 HG2.out).1⟩
 have hG3 : Y3.heap[w1.heap.size]? = some (.cells (byteVals R).toArray 64 (0, 0)) := (hg.block w1.heap.size hbz.2 (fun e => hbz.1 (Option.some.inj e).symm)).trans HG2.out
 refine hK _ _ hS2 ?_
 have HV := Lib.hid (And.intro hvO (And.intro hS2 hG3))
 clear hK K hown hg hvO hloc hS2 hbz hG3 HG2 HO hS1 hSB
 refine spine_opL (by rfl) (by rfl) (fun K hK => ?_)
 (try simp only [put_some, List.set] at hK)
 refine wp_append_sees (.tmp 8) (.tmp 9) 22 rfl w.heap.size 5 i0 (.int .u8 0) 1 1 Tryz.underlying22 hi0 ia0 ia1 ia2 rfl (by decide) v1 m (byteVals l) rfl ?c0 (some ⟨w1.heap.size, 0, none⟩) 32 32 (byteVals R) rfl (by rw [byteVals_length, hr]) (seesB_of (t := 64) HV.out.2.2) (byteVals_one _) (by unfold maxLen; omega) (by omega) HV.out.2.1.size (fun v2 Y4 hown hg _ => ?_)
 case c0 =>
  have := HV.out.1
  unfold OwnB at this
  rwa [HM.out.1] at this
 have HR2 := Lib.hid (show OwnB Y4 w.heap.size v2 (l ++ R) ∧ Below w.heap.size w Y4 from ⟨OwnB.more HM.out.1 hr hown, HV.out.2.1.grown hg HV.out.2.1.size (fun k e => (World.ownsRow.lt HV.out.1 k e).1)⟩)
 refine hK _ _ HR2.out.2 ?_
 clear hK K hown hg HV
 (refine spine_lastL (by rfl) (by rfl) (fun K hK => ?_); go_simp)
 refine hK _ _ (fun h => by cases h) ?_
 (try simp only [put_some, List.set])
 clear hK K
 go_wp2
 go_ret
 exact ⟨v2, rfl, by rw [HM.out.2]; exact HR2.out.1, HR2.out.2⟩
end Go.Proofs.YtccgfladbibjbaaGreatDoor
namespace Go.Proofs.YtccgfladbibjbaaGreatDoor
open Go.RowKit
theorem recE_zero {l : List (BitVec 8)} (h : recE l = 0) : 38 ≤ l.length ∧ hdr l 0 = 1 ∧ getE (hdr l 1) = 0 ∧ hdr l 2 ≠ 0 ∧ hdr l 3 ≠ 0 ∧ l.length = 38 + 32 * cnt (recLen l) ∧ elsE (getF (hdr l 1)) l (cnt (recLen l)) = 0 ∧ sumL (l.take (l.length - 32)) = l.drop (l.length - 32) := by
 unfold recE at h
 by_cases h1 : l.length < 38
 ·rw [if_pos h1] at h; cases h
 rw [if_neg h1] at h
 by_cases h2 : hdr l 0 = 1
 ·rw [if_neg (fun q => q h2)] at h
  by_cases h3 : getE (hdr l 1) = 0
  ·rw [if_neg (fun q => q h3)] at h
   by_cases h4 : hdr l 2 = 0
   ·rw [if_pos h4] at h; cases h
   rw [if_neg h4] at h
   by_cases h5 : hdr l 3 = 0
   ·rw [if_pos h5] at h; cases h
   rw [if_neg h5] at h
   by_cases h6 : l.length = 38 + 32 * cnt (recLen l)
   ·rw [if_neg (fun q => q h6)] at h
    by_cases h7 : elsE (getF (hdr l 1)) l (cnt (recLen l)) = 0
    ·rw [if_neg (fun q => q h7)] at h
     by_cases h8 : sumL (l.take (l.length - 32)) = l.drop (l.length - 32)
     ·exact ⟨by omega, h2, h3, h4, h5, h6, h7, h8⟩
     ·rw [if_neg h8] at h; cases h
    ·rw [if_pos h7] at h; exact absurd h h7
   ·rw [if_pos h6] at h; cases h
  ·rw [if_pos h3] at h; exact absurd h h3
 ·rw [if_pos h2] at h; cases h
theorem elsE_all {f : FP} {l : List (BitVec 8)} : ∀ {n : Nat}, elsE f l n = 0 → ∀ k, k < n → decE f (recChunk l k) = 0
 | 0, _, k, hk => by omega
 | n + 1, h, k, hk => by
  rw [elsE] at h
  by_cases h0 : elsE f l n = 0
  ·rw [if_pos h0] at h
   by_cases hkn : k = n
   ·rw [hkn]; exact h
   ·exact elsE_all h0 k (by omega)
  ·rw [if_neg h0] at h
   exact absurd h h0
theorem hdr_back (l : List (BitVec 8)) (j : Nat) : BitVec.ofInt 8 (hdr l j) = l[j]?.getD 0#8 := by
 unfold hdr
 rw [BitVec.ofInt_natCast, BitVec.ofNat_toNat, BitVec.setWidth_eq]
theorem hdr_range (l : List (BitVec 8)) (j : Nat) : 0 ≤ hdr l j ∧ hdr l j ≤ 255 := by
 unfold hdr
 have := (l[j]?.getD 0#8).isLt
 omega
theorem body_back {f : FP} {Ri : Nat} (g : Good f Ri) (l : List (BitVec 8)) : ∀ n, 38 + 32 * n ≤ l.length → (∀ k, k < n → decE f (recChunk l k) = 0) → bodyL f (els f l n) = (l.drop 6).take (32 * n)
 | 0, _, _ => by simp [els, bodyL]
 | n + 1, h, hd => by
  have hc : (recChunk l n).length = 32 := recChunk_length l n (by omega)
  have hdn := hd n (by omega)
  have hlt : (numV (recChunk l n)).num < f.p.num := by
   unfold decE at hdn
   by_cases hq : (numV (recChunk l n)).num < f.p.num
   ·exact hq
   ·rw [if_neg hq] at hdn; cases hdn
  have hx : encL (mmul f (decX f (recChunk l n)) V4.unit) = recChunk l n := by
   unfold decX
   rw [if_pos hlt, mont_forth g _ hlt, encL_numV _ hc]
  have hs : bodyL f (els f l n ++ [decX f (recChunk l n)]) = bodyL f (els f l n) ++ encL (mmul f (decX f (recChunk l n)) V4.unit) := by
   generalize els f l n = r
   induction r with
   | nil => simp [bodyL]
   | cons v r ih => rw [List.cons_append, bodyL, bodyL, ih, List.append_assoc]
  rw [els_succ, hs, body_back g l n (by omega) (fun k hk => hd k (by omega)), hx, show 32 * (n + 1) = 32 * n + 32 by omega, List.take_add, List.drop_drop]
  rfl
theorem head_back (l : List (BitVec 8)) (h : 38 ≤ l.length) (h0 : hdr l 0 = 1) (P : List V4) : headL ⟨hdr l 1, hdr l 2, hdr l 3, recLen l, P⟩ = l.take 6 := by
 have r4 := hdr_range l 4
 have r5 := hdr_range l 5
 have e0 : (1#8 : BitVec 8) = l[0]?.getD 0#8 := by rw [← hdr_back, h0]; rfl
 have e4 : BitVec.ofInt 8 (recLen l) = l[4]?.getD 0#8 := by
  rw [← hdr_back]
  apply BitVec.eq_of_toNat_eq
  unfold recLen
  rw [BitVec.toNat_ofInt, BitVec.toNat_ofInt]
  omega
 have e5 : BitVec.ofInt 8 (recLen l / 256) = l[5]?.getD 0#8 := by
  rw [← hdr_back]
  congr 1
  unfold recLen
  omega
 unfold headL
 simp only [hdr_back, e4, e5]
 rw [e0]
 apply List.ext_getElem?
 intro j
 by_cases hj : j < 6
 ·rw [List.getElem?_take, if_pos hj, List.getElem?_eq_getElem (show j < l.length by omega)]
  match j, hj with
  | 0, _ => simp [List.getElem?_eq_getElem (show 0 < l.length by omega)]
  | 1, _ => simp [List.getElem?_eq_getElem (show 1 < l.length by omega)]
  | 2, _ => simp [List.getElem?_eq_getElem (show 2 < l.length by omega)]
  | 3, _ => simp [List.getElem?_eq_getElem (show 3 < l.length by omega)]
  | 4, _ => simp [List.getElem?_eq_getElem (show 4 < l.length by omega)]
  | 5, _ => simp [List.getElem?_eq_getElem (show 5 < l.length by omega)]
 ·rw [List.getElem?_eq_none (by simp; omega), List.getElem?_eq_none (by rw [List.length_take]; omega)]
theorem rec_forth (l : List (BitVec 8)) (h : recE l = 0) : checkE (recS l) = 0 ∧ encR (recS l) = l := by
 obtain ⟨h1, h2, h3, h4, h5, h6, h7, h8⟩ := recE_zero h
 have r2 := hdr_range l 2
 have r3 := hdr_range l 3
 have r4 := hdr_range l 4
 have r5 := hdr_range l 5
 obtain ⟨Ri, g⟩ := good_of _ h3
 have hd := elsE_all h7
 have hS : recS l = ⟨hdr l 1, hdr l 2, hdr l 3, recLen l, els (getF (hdr l 1)) l (cnt (recLen l))⟩ := by unfold recS; rw [if_pos h]
 rw [hS]
 constructor
 ·have hp : okPay (getF (hdr l 1)) (els (getF (hdr l 1)) l (cnt (recLen l))) = true := by
   unfold okPay els
   rw [List.all_eq_true]
   intro v hv
   obtain ⟨k, hk, rfl⟩ := List.mem_map.1 hv
   have hk := List.mem_range.1 hk
   have hdk := hd k hk
   refine decide_eq_true ?_
   unfold decX
   unfold decE at hdk
   by_cases hq : (numV (recChunk l k)).num < (getF (hdr l 1)).p.num
   ·rw [if_pos hq]
    exact mmul_lt g _ _ (.inl hq)
   ·rw [if_neg hq] at hdk; cases hdk
  have hrl : recLen l = hdr l 4 + 256 * hdr l 5 := rfl
  unfold checkE
  simp only []
  rw [if_neg (fun q => q h3), if_neg (fun q => q ⟨by omega, by omega⟩), if_neg (fun q => q ⟨by omega, by omega⟩), if_neg (fun q => q ⟨by omega, by omega⟩), if_neg (fun q => q (els_length _ _ _)), if_pos hp]
 ·have hb := body_back g l (cnt (recLen l)) (by omega) hd
  have hh := head_back l h1 h2 (els (getF (hdr l 1)) l (cnt (recLen l)))
  have ht : headL ⟨hdr l 1, hdr l 2, hdr l 3, recLen l, els (getF (hdr l 1)) l (cnt (recLen l))⟩ ++ bodyL (getF (hdr l 1)) (els (getF (hdr l 1)) l (cnt (recLen l))) = l.take (l.length - 32) := by
   rw [hh, hb, show l.length - 32 = 6 + 32 * cnt (recLen l) by omega, List.take_add]
  unfold encR
  simp only []
  rw [ht, h8, List.take_append_drop]
end Go.Proofs.YtccgfladbibjbaaGreatDoor
namespace Go.Proofs.YtccgfladbibjbaaGreatDoor
open Go.RowKit
theorem agg_u64 (w : World) : (isAgg 44).run Tryz.prog w = .ok false w := by
 simp [isAgg, run_underlying Tryz.underlying44]
theorem sizeOf_u64 (w : World) : (sizeOf 44).run Tryz.prog w = .ok 1 w := by kernel_rfl
theorem part_u64 (cs : Array Value) (off : Nat) (v : Value) (h : cs[off]? = some v) (w : World) : (part 44 cs off).run Tryz.prog w = .ok v w := by
 unfold part
 simp only [Sem.run_bind, agg_u64, Result.andThen_ok, Bool.false_eq_true, if_false, h, Sem.run_pure]
theorem equalIn_u64 (d : Nat) (a b : Int) (w : World) : (Op.equalIn (d + 1) 44 (.int .u64 a) (.int .u64 b)).run Tryz.prog w = .ok (a == b) w :=
 run_equalIn_int w d _ .u64 .u64 a b Tryz.underlying44
theorem equal_four (a0 a1 a2 a3 b0 b1 b2 b3 : Int) (w : World) :
  (Op.equalIn 10000 45 (.agg #[.int .u64 a0, .int .u64 a1, .int .u64 a2, .int .u64 a3]) (.agg #[.int .u64 b0, .int .u64 b1, .int .u64 b2, .int .u64 b3])).run Tryz.prog w = .ok (a0 == b0 && (a1 == b1 && (a2 == b2 && a3 == b3))) w := by
 rw [show (10000 : Nat) = 9998 + 1 + 1 from rfl]
 unfold Op.equalIn
 simp only [Sem.run_bind, run_underlying Tryz.underlying45, Result.andThen_ok, sizeOf_u64]
 simp [Std.Legacy.Range.forIn_eq_forIn_range', Std.Legacy.Range.size, List.range', Sem.run_bind]
 have e9 : ∀ (a b : Int) (w : World), (Op.equalIn 9999 44 (.int .u64 a) (.int .u64 b)).run Tryz.prog w = .ok (a == b) w := fun a b w => equalIn_u64 9998 a b w
 simp only [part_u64 #[.int .u64 a0, .int .u64 a1, .int .u64 a2, .int .u64 a3] 0 (.int .u64 a0) rfl, part_u64 #[.int .u64 a0, .int .u64 a1, .int .u64 a2, .int .u64 a3] 1 (.int .u64 a1) rfl, part_u64 #[.int .u64 a0, .int .u64 a1, .int .u64 a2, .int .u64 a3] 2 (.int .u64 a2) rfl, part_u64 #[.int .u64 a0, .int .u64 a1, .int .u64 a2, .int .u64 a3] 3 (.int .u64 a3) rfl,
  part_u64 #[.int .u64 b0, .int .u64 b1, .int .u64 b2, .int .u64 b3] 0 (.int .u64 b0) rfl, part_u64 #[.int .u64 b0, .int .u64 b1, .int .u64 b2, .int .u64 b3] 1 (.int .u64 b1) rfl, part_u64 #[.int .u64 b0, .int .u64 b1, .int .u64 b2, .int .u64 b3] 2 (.int .u64 b2) rfl, part_u64 #[.int .u64 b0, .int .u64 b1, .int .u64 b2, .int .u64 b3] 3 (.int .u64 b3) rfl, Result.andThen_ok, e9]
 cases a0 == b0 <;> cases a1 == b1 <;> cases a2 == b2 <;> cases a3 == b3 <;> rfl
theorem vec_eq (a b : V4) : (a.x0 == b.x0 && (a.x1 == b.x1 && (a.x2 == b.x2 && a.x3 == b.x3))) = decide (a = b) := by
 rw [Bool.eq_iff_iff, decide_eq_true_iff]
 cases a; cases b; simp
theorem run_neqv (a b : V4) (w : World) : (binOp .neq 45 a.val b.val).run Tryz.prog w = .ok (.bool (!decide (a = b))) w := by
 unfold V4.val V4.arr
 rw [run_neq_struct, equal_four, eq_UU, eq_UU, eq_UU, eq_UU, vec_eq]
 rfl
end Go.Proofs.YtccgfladbibjbaaGreatDoor
namespace Go.Proofs.YtccgfladbibjbaaGreatDoor
open Go.RowKit
def uT : Nat → BitVec 64
 | 0 => 1#64
 | j + 1 => uT j * 256#64
theorem uT_num : ∀ j, j ≤ 7 → (uT j).toNat = 2 ^ (8 * j)
 | 0, _ => rfl
 | j + 1, h => by
  rw [uT, BitVec.toNat_mul, uT_num j (by omega), show (256#64).toNat = 2 ^ 8 from rfl, ← Nat.pow_add, show 8 * j + 8 = 8 * (j + 1) by omega]
  exact Nat.mod_eq_of_lt (Nat.pow_lt_pow_right (by decide) (by omega))
def nW (l : List (BitVec 8)) (q : Nat) : Nat → BitVec 64
 | 0 => 0#64
 | j + 1 => nW l q j + (l[8 * q + j]?.getD 0#8).setWidth 64 * uT j
theorem nW_num (l : List (BitVec 8)) (q : Nat) : ∀ j, j ≤ 8 → (nW l q j).toNat < 2 ^ (8 * j) ∧ nW l q j = wordT l q j
 | 0, _ => ⟨by show (0#64).toNat < 1; decide, rfl⟩
 | j + 1, h => by
  obtain ⟨h1, h2⟩ := nW_num l q j (by omega)
  have hb := (l[8 * q + j]?.getD 0#8).isLt
  rw [nW, wordT, ← h2]
  generalize nW l q j = x at *
  generalize l[8 * q + j]?.getD 0#8 = b at *
  have hp : 0 < 2 ^ (8 * j) := Nat.pow_pos (by decide)
  have hpp : (2 : Nat) ^ (8 * (j + 1)) = 256 * 2 ^ (8 * j) := by rw [Nat.mul_add, Nat.pow_add, Nat.mul_comm]
  have h64 : (2 : Nat) ^ (8 * (j + 1)) ≤ 2 ^ 64 := Nat.pow_le_pow_right (by decide) (by omega)
  have hlt : b.toNat * 2 ^ (8 * j) + 2 ^ (8 * j) ≤ 2 ^ (8 * (j + 1)) := by
   rw [hpp, ← Nat.succ_mul]
   exact Nat.mul_le_mul_right _ (by omega)
  have hbw : (b.setWidth 64).toNat = b.toNat := by rw [BitVec.toNat_setWidth]; omega
  have hm : ((b.setWidth 64) * uT j).toNat = b.toNat * 2 ^ (8 * j) := by
   rw [BitVec.toNat_mul, hbw, uT_num j (by omega)]
   exact Nat.mod_eq_of_lt (by omega)
  have hs : ((b.setWidth 64) <<< (8 * j)).toNat = b.toNat * 2 ^ (8 * j) := by
   rw [BitVec.toNat_shiftLeft, hbw, Nat.shiftLeft_eq]
   exact Nat.mod_eq_of_lt (by omega)
  have ha : (x + (b.setWidth 64) * uT j).toNat = x.toNat + b.toNat * 2 ^ (8 * j) := by
   rw [BitVec.toNat_add, hm]
   exact Nat.mod_eq_of_lt (by omega)
  refine ⟨by rw [ha]; omega, ?_⟩
  apply BitVec.eq_of_toNat_eq
  rw [ha, BitVec.toNat_or, hs, Nat.or_comm, ← Nat.shiftLeft_eq, ← Nat.shiftLeft_add_eq_or_of_lt h1, Nat.add_comm]
def NV (l : List (BitVec 8)) (t : Nat) : V4 := ⟨nW l 0 (min 8 t), nW l 1 (min 8 (t - 8)), nW l 2 (min 8 (t - 16)), nW l 3 (min 8 (t - 24))⟩
theorem NV_all (l : List (BitVec 8)) : NV l 32 = numV l := by
 show (⟨nW l 0 8, nW l 1 8, nW l 2 8, nW l 3 8⟩ : V4) = _
 rw [(nW_num l 0 8 (Nat.le_refl _)).2, (nW_num l 1 8 (Nat.le_refl _)).2, (nW_num l 2 8 (Nat.le_refl _)).2, (nW_num l 3 8 (Nat.le_refl _)).2]
 rfl
theorem NV_succ (l : List (BitVec 8)) (t : Nat) (h : t < 32) : NV l (t + 1) = (NV l t).set (t / 8) ((NV l t).get (t / 8) + (l[t]?.getD 0#8).setWidth 64 * uT (t % 8)) := by
 obtain hq | hq | hq | hq : t / 8 = 0 ∨ t / 8 = 1 ∨ t / 8 = 2 ∨ t / 8 = 3 := by omega
 ·rw [hq]
  show (⟨nW l 0 (min 8 (t + 1)), nW l 1 (min 8 (t + 1 - 8)), nW l 2 (min 8 (t + 1 - 16)), nW l 3 (min 8 (t + 1 - 24))⟩ : V4) = ⟨nW l 0 (min 8 t) + (l[t]?.getD 0#8).setWidth 64 * uT (t % 8), nW l 1 (min 8 (t - 8)), nW l 2 (min 8 (t - 16)), nW l 3 (min 8 (t - 24))⟩
  rw [show min 8 (t + 1) = t + 1 by omega, show min 8 t = t by omega, show t + 1 - 8 = t - 8 by omega, show t + 1 - 16 = t - 16 by omega, show t + 1 - 24 = t - 24 by omega, show t % 8 = t by omega, nW, Nat.mul_zero, Nat.zero_add]
 ·rw [hq]
  show (⟨nW l 0 (min 8 (t + 1)), nW l 1 (min 8 (t + 1 - 8)), nW l 2 (min 8 (t + 1 - 16)), nW l 3 (min 8 (t + 1 - 24))⟩ : V4) = ⟨nW l 0 (min 8 t), nW l 1 (min 8 (t - 8)) + (l[t]?.getD 0#8).setWidth 64 * uT (t % 8), nW l 2 (min 8 (t - 16)), nW l 3 (min 8 (t - 24))⟩
  rw [show min 8 (t + 1) = 8 by omega, show min 8 t = 8 by omega, show min 8 (t + 1 - 8) = (t - 8) + 1 by omega, show min 8 (t - 8) = t - 8 by omega, show t + 1 - 16 = t - 16 by omega, show t + 1 - 24 = t - 24 by omega, show t % 8 = t - 8 by omega, show nW l 1 (t - 8 + 1) = nW l 1 (t - 8) + (l[8 * 1 + (t - 8)]?.getD 0#8).setWidth 64 * uT (t - 8) from rfl, show 8 * 1 + (t - 8) = t by omega]
 ·rw [hq]
  show (⟨nW l 0 (min 8 (t + 1)), nW l 1 (min 8 (t + 1 - 8)), nW l 2 (min 8 (t + 1 - 16)), nW l 3 (min 8 (t + 1 - 24))⟩ : V4) = ⟨nW l 0 (min 8 t), nW l 1 (min 8 (t - 8)), nW l 2 (min 8 (t - 16)) + (l[t]?.getD 0#8).setWidth 64 * uT (t % 8), nW l 3 (min 8 (t - 24))⟩
  rw [show min 8 (t + 1) = 8 by omega, show min 8 t = 8 by omega, show min 8 (t + 1 - 8) = 8 by omega, show min 8 (t - 8) = 8 by omega, show min 8 (t + 1 - 16) = (t - 16) + 1 by omega, show min 8 (t - 16) = t - 16 by omega, show t + 1 - 24 = t - 24 by omega, show t % 8 = t - 16 by omega, show nW l 2 (t - 16 + 1) = nW l 2 (t - 16) + (l[8 * 2 + (t - 16)]?.getD 0#8).setWidth 64 * uT (t - 16) from rfl, show 8 * 2 + (t - 16) = t by omega]
 ·rw [hq]
  show (⟨nW l 0 (min 8 (t + 1)), nW l 1 (min 8 (t + 1 - 8)), nW l 2 (min 8 (t + 1 - 16)), nW l 3 (min 8 (t + 1 - 24))⟩ : V4) = ⟨nW l 0 (min 8 t), nW l 1 (min 8 (t - 8)), nW l 2 (min 8 (t - 16)), nW l 3 (min 8 (t - 24)) + (l[t]?.getD 0#8).setWidth 64 * uT (t % 8)⟩
  rw [show min 8 (t + 1) = 8 by omega, show min 8 t = 8 by omega, show min 8 (t + 1 - 8) = 8 by omega, show min 8 (t - 8) = 8 by omega, show min 8 (t + 1 - 16) = 8 by omega, show min 8 (t - 16) = 8 by omega, show min 8 (t + 1 - 24) = (t - 24) + 1 by omega, show min 8 (t - 24) = t - 24 by omega, show t % 8 = t - 24 by omega, show nW l 3 (t - 24 + 1) = nW l 3 (t - 24) + (l[8 * 3 + (t - 24)]?.getD 0#8).setWidth 64 * uT (t - 24) from rfl, show 8 * 3 + (t - 24) = t by omega]
theorem rsub_same (p v : V4) (hp : 0 < p.num) : rsub p v 0#64 = v ↔ v.num < p.num := by
 have h := rsub_num p v 0#64
 have lv := V4.num_lt v
 have lp := V4.num_lt p
 rw [show (0#64).toNat = 0 from rfl] at h
 constructor
 ·intro e
  rw [e] at h
  by_cases hlt : v.num < p.num
  ·exact hlt
  ·rw [if_neg (fun q => hlt q.2)] at h
   omega
 ·intro hlt
  rw [if_pos ⟨rfl, hlt⟩] at h
  exact V4.ext_num h
end Go.Proofs.YtccgfladbibjbaaGreatDoor
namespace Go.Proofs.YtccgfladbibjbaaGreatDoor
open Go.RowKit
attribute [local go_sem ↓] add_UU sub_UU mul_UU add_UL add_LU sub_UL sub_LU mul_UL neg_at not_at and_UU or_UU xor_UU andNot_UU and_UL or_LU shr_UL shl_UL shr_UN shl_UN shl_LN quo_UL rem_UL quo_UU rem_UU
attribute [local go_sem] wrap64_N wrapi_mod wrap8_U wrap32_U wrap64_B wrap32_B wrap8_D wrapi_B wrap64_UU eq_UU ne_UU eq_UL ne_UL lt_UU le_UU
attribute [local simp] putAgg_size
attribute [local go_sem ↓] loadVar_F loadVar_E loadVar_V loadVar_B32 storeVar_F storeVar_E storeVar_V storeVar_B32 box_F box_E box_V box_B32
attribute [local go_sem ↓ high] V4.cells_val FP.cells_val
attribute [local go_sem] run_loadF run_loadE run_loadV run_loadB32 run_storeF run_storeE run_storeV run_storeB32 run_boxA aggAt_drew aggAt_drewN aggAt_alloc_new aggAt_alloc_past aggAt_setCell_other aggAt_putAgg_other aggAt_putAgg_new putAgg_drew putAgg_size putAgg_alloc_new putAgg_alloc_past putAgg_cell_other putAgg_frozen_other V4.agg_arr FP.agg_arr V4.size_arr FP.size_arr V4.fits FP.fits fitsA_agg4 lt_2 ne_2 en_2 lt_3 ne_3 en_3 lt_4 ne_4 en_4 lt_5 ne_5 en_5 lt_6 ne_6 en_6
attribute [local go_sem ↓] run_neqv
theorem decE_or31 (f : FP) (l : List (BitVec 8)) : decE f l = 0 ∨ decE f l = 9 := by
 unfold decE
 split
 ·exact .inl rfl
 ·exact .inr rfl
structure NuI (w : World) (l : List (BitVec 8)) (t : Nat) (W : World) : Prop where
 Z : W.heap[w.heap.size]? = some (.cells V4.zero.arr 45 (0, 0))
 O : W.heap[w.heap.size + 1]? = some (.cells (NV l t).arr.toList.toArray 45 (0, 0))
 L : Below w.heap.size w W
theorem NuI.next {w W : World} {l : List (BitVec 8)} {t : Nat} (h : NuI w l t W) (ht : t < 32) : NuI w l (t + 1) (W.setCell ⟨w.heap.size + 1, t / 8, none⟩ (.int .u64 (U ((NV l t).get (t / 8) + (l[t]?.getD 0#8).setWidth 64 * uT (t % 8))))) :=
 ⟨(Below.heap_setCell _ _ _ _ (by simp only []; omega)).trans h.Z, by rw [row_set h.O, arr_put _ _ (by omega), ← NV_succ l t ht], h.L.setCell (by simp) _⟩
set_option maxRecDepth 20000 in
set_option maxHeartbeats 2000000 in
theorem refNumber (A : Option Addr) (cap : Nat) (l : List (BitVec 8)) (hl : l.length = 32) (w : World) (hs : Sees w A (byteVals l)) :
  Calls Tryz.prog 68 #[.slice A 32 cap] w fun e w' => e = .returned (numV l).val ∧ Below w.heap.size w w' := by
 obtain ⟨b, o, rfl, -⟩ := hs (by rw [byteVals_length]; omega)
 have HS := Lib.hid (fun W (hW : Below w.heap.size w W) => hs.below hW)
 have HL := Lib.hid hl
 have HV := Lib.hid (NV_all l)
 clear hs hl
 go_enter Tryz.func68, Tryz.ntmps68
 go_wp2
 (obtain ⟨W0, hW0⟩ : ∃ W0 : World, W0 = ((w).alloc (.cells #[.int .u64 0, .int .u64 0, .int .u64 0, .int .u64 0] 45)).alloc (.cells #[.int .u64 0, .int .u64 0, .int .u64 0, .int .u64 0] 45) := ⟨_, rfl⟩); (have gW0 : ∀ (j : Nat) (o : Obj), ([Obj.cells #[.int .u64 0, .int .u64 0, .int .u64 0, .int .u64 0] 45, Obj.cells #[.int .u64 0, .int .u64 0, .int .u64 0, .int .u64 0] 45] : List Obj)[j]? = some o → W0.heap[w.heap.size + j]? = some o := by rw [hW0]; exact allocs_get w _); (have zW0 : W0.heap.size = w.heap.size + 2 := by rw [hW0]; exact allocs_size w [Obj.cells #[.int .u64 0, .int .u64 0, .int .u64 0, .int .u64 0] 45, Obj.cells #[.int .u64 0, .int .u64 0, .int .u64 0, .int .u64 0] 45]); (have bW0 : Below w.heap.size w W0 := by rw [hW0]; exact allocs_below w [Obj.cells #[.int .u64 0, .int .u64 0, .int .u64 0, .int .u64 0] 45, Obj.cells #[.int .u64 0, .int .u64 0, .int .u64 0, .int .u64 0] 45]); (rw [← hW0]); (clear hW0)
 have H0 := Lib.hid (show NuI w l 0 W0 from ⟨gW0 0 _ rfl, gW0 1 _ rfl, bW0⟩)
 clear gW0 bW0 zW0
 go_loopw [4] (fun iv W => ∃ t : Nat, t ≤ 32 ∧ iv = .int .i64 t ∧ NuI w l t W) (fun iv _ => 32 - (intOf iv).toNat)
 case atStart => exact ⟨0, by omega, rfl, H0.out⟩
 case round =>
  clear H0
  obtain ⟨t, ht, rfl, hI⟩ := hrel
  by_cases h32 : t < 32
  ·have h32' : (t : Int) < 32 := by omega
   have cb : wr.cell? ⟨b, o + t, none⟩ = some (.int .u8 (B (l[t]?.getD 0#8))) := by
    obtain ⟨b', o', e, hc⟩ := (HS.out wr hI.L) (by rw [byteVals_length, HL.out]; decide)
    injection e with e
    injection e with e1 e2
    subst e1 e2
    rw [hc t (by rw [byteVals_length, HL.out]; exact h32), byteVals_get l t (by rw [HL.out]; exact h32)]
   have cO := row_cell hI.O (t / 8) (arr_at (NV l t) (t / 8) (by omega))
   have fO := row_frozen hI.O (t / 8)
   have HN := Lib.hid (hI.next h32)
   have HT := Lib.hid (show t + 1 ≤ 32 from h32)
   have hq1 : ((t : Int)).tdiv 8 = ((t / 8 : Nat) : Int) := by rw [Int.tdiv_eq_ediv_of_nonneg (by omega)]; omega
   have hq2 : ((t : Int)) / 8 = ((t / 8 : Nat) : Int) := by omega
   have hr1 : ((t : Int)).tmod 8 = ((t % 8 : Nat) : Int) := by rw [Int.tmod_eq_emod_of_nonneg (by omega)]; omega
   have hr2 : ((t : Int)) % 8 = ((t % 8 : Nat) : Int) := by omega
   have hq4 : ((t / 8 : Nat) : Int) < 4 := by omega
   have hm8 : t % 8 < 8 := Nat.mod_lt _ (by decide)
   have hwq : IntKind.i64.wrap ((t / 8 : Nat) : Int) = ((t / 8 : Nat) : Int) := by rw [IntKind.wrap_i64]; omega
   have hwr : IntKind.i64.wrap ((t % 8 : Nat) : Int) = ((t % 8 : Nat) : Int) := by rw [IntKind.wrap_i64]; omega
   clear hI ht h32
   generalize (NV l t).get (t / 8) = x at *
   generalize l[t]?.getD 0#8 = y at *
   generalize t / 8 = q at *
   generalize t % 8 = r at *
   have HR := Lib.hid hm8
   clear hm8
   go_wp2
   go_loopw [5, 6] (fun uv kv W => ∃ k : Nat, k ≤ r ∧ uv = .int .u64 (U (uT k)) ∧ kv = .int .i64 k ∧ W = wr) (fun _ kv _ => 8 - (intOf kv).toNat)
   case atStart => exact ⟨0, by omega, rfl, rfl, rfl⟩
   case round =>
    obtain ⟨k, hk, rfl, rfl, rfl⟩ := hrel
    have hr8 := HR.out
    by_cases hlt : k < r
    ·have hlt' : (k : Int) < (r : Int) := by omega
     have HE := Lib.hid (show uT (k + 1) = uT k * 256#64 from rfl)
     generalize uT k = u at *
     go_wp2
     go_roundw
     case rel => exact ⟨k + 1, by omega, by rw [HE.out], by go_num, trivial⟩
     case measure => (first | (simp [intOf]; done) | (simp [intOf]; omega))
    ·obtain rfl : k = r := by omega
     have hlt' : ¬ (k : Int) < (k : Int) := by omega
     generalize uT k = u at *
     clear hk hlt hr8
     go_wp2_with fail
     ((have hS0 : (Below wr.heap.size wr wr.drew ∧ wr.drew.cell? ⟨(b), (o + t), none⟩ = some (.int .u8 (B y)) ∧ wr.drew.cell? ⟨(w.heap.size + 1), (q), none⟩ = some (.int .u64 (U x))) := ⟨((Below.refl _ wr)).drew, cb, cO⟩); (refine region_free (by kernel_rfl) [13] [0, 1, 2, 3, 4, 5, 6, 7, 8, 9, 10, 11, 12] false (by kernel_rfl) (by kernel_rfl) (fun W' => (Below wr.heap.size wr W' ∧ W'.cell? ⟨(b), (o + t), none⟩ = some (.int .u8 (B y)) ∧ W'.cell? ⟨(w.heap.size + 1), (q), none⟩ = some (.int .u64 (U x)))) hS0 ?_); (have hSB : ∀ W' W'' : World, (Below wr.heap.size wr W' ∧ W'.cell? ⟨(b), (o + t), none⟩ = some (.int .u8 (B y)) ∧ W'.cell? ⟨(w.heap.size + 1), (q), none⟩ = some (.int .u64 (U x))) → Below W'.heap.size W' W'' → (Below wr.heap.size wr W'' ∧ W''.cell? ⟨(b), (o + t), none⟩ = some (.int .u8 (B y)) ∧ W''.cell? ⟨(w.heap.size + 1), (q), none⟩ = some (.int .u64 (U x))) := fun W' W'' ⟨h0, h1, h2⟩ hb => ⟨h0.trans (hb.mono h0.size), cell_keep h1 hb, cell_keep h2 hb⟩); (clear cb cO); (iterate 13 (refine chainF_opL (by rfl) (by rfl) ?_ ?_ ?_; rotate_left; (focus (intro W' hS' K hK; (try simp only [put_some, List.set] at hK); (have hS'' := hS'); (obtain ⟨s0, s1, s2⟩ := hS''); go_simp; (exact hK); done)); (try simp only [put_some, List.set]))); (refine chainF_nil ?_))
     have cO := hS0.2.2
     have fO' : wr.drew.frozen? ⟨w.heap.size + 1, q, none⟩ = false := fO
     have HN1 := Lib.hid (show NuI w l (t + 1) (wr.drew.setCell ⟨w.heap.size + 1, q, none⟩ (.int .u64 (U (x + y.setWidth 64 * u)))) from ⟨HN.out.Z, HN.out.O, (HN.out.L).drew⟩)
     clear fO
     generalize wr.drew = w1 at *
     clear hS0 hSB
     refine spine_lastL (by rfl) (by rfl) (fun K hK => ?_)
     go_simp
     refine hK undef _ (fun h => by cases h) ?_
     rw [put_none]
     clear hK K
     go_wp2
     go_roundw
     case rel => exact ⟨t + 1, HT.out, by go_num, HN1.out⟩
     case measure => (first | (simp [intOf]; done) | (simp [intOf]; omega))
  ·obtain rfl : t = 32 := by omega
   have pZ := agg_of_block (v := V4.zero) hI.Z
   have pO := agg_of_block (v := NV l 32) hI.O
   have HZ := Lib.hid (And.intro hI.Z hI.L)
   rw [HV.out] at pO
   clear hI
   have hn32 : ¬ ((32 : Nat) : Int) < 32 := by decide
   go_wp2_with fail
   exact end_c Tryz.results68 rfl (atV (agg_of_block (vec_put HZ.out.1 rfl))) rfl ⟨rfl, putAgg_below HZ.out.2 (by omega)⟩
set_option maxRecDepth 20000 in
set_option maxHeartbeats 2000000 in
theorem refDec31 (f : FP) (hp : 0 < f.p.num) (A : Option Addr) (cap : Nat) (l : List (BitVec 8)) (hl : l.length = 32) (w : World) (hs : Sees w A (byteVals l)) :
  Calls Tryz.prog 31 #[f.p.val, .slice A 32 cap] w fun e w' => e = .returned (.tuple #[(if decE f l = 0 then numV l else V4.zero).val, .int .i64 (decE f l)]) ∧ Below w.heap.size w w' := by
 have HNu := Lib.hid (fun W (hW : Below w.heap.size w W) => refNumber A cap l hl W (hs.below hW))
 have HSub := Lib.hid (show ∀ W, Calls Tryz.prog 51 #[f.p.val, (numV l).val, .int .u64 0] W fun e w' => e = .returned (rsub f.p (numV l) 0#64).val ∧ Below W.heap.size W w' from fun W => refSubtract f.p (numV l) 0#64 W)
 have HQ := Lib.hid (show (decide (rsub f.p (numV l) 0#64 = numV l)) = decide (decE f l = 0) from decide_eq_decide.2 (by
  rw [rsub_same f.p (numV l) hp]
  unfold decE
  constructor
  ·intro h; rw [if_pos h]
  ·intro h
   by_cases hc : (numV l).num < f.p.num
   ·exact hc
   ·rw [if_neg hc] at h; cases h))
 have HE := Lib.hid (decE_or31 f l)
 generalize f.p = p at *
 generalize rsub p (numV l) 0#64 = s at *
 generalize numV l = v at *
 generalize decE f l = de at *
 clear hs hl hp
 go_enter Tryz.func31, Tryz.ntmps31
 go_wp2_with fail
 (obtain ⟨W0, hW0⟩ : ∃ W0 : World, W0 = ((w).alloc (.cells p.arr 45)).alloc (.cells #[.int .u64 0, .int .u64 0, .int .u64 0, .int .u64 0] 45) := ⟨_, rfl⟩); (have gW0 : ∀ (j : Nat) (o : Obj), ([Obj.cells p.arr 45, Obj.cells #[.int .u64 0, .int .u64 0, .int .u64 0, .int .u64 0] 45] : List Obj)[j]? = some o → W0.heap[w.heap.size + j]? = some o := by rw [hW0]; exact allocs_get w _); (have zW0 : W0.heap.size = w.heap.size + 2 := by rw [hW0]; exact allocs_size w [Obj.cells p.arr 45, Obj.cells #[.int .u64 0, .int .u64 0, .int .u64 0, .int .u64 0] 45]); (have bW0 : Below w.heap.size w W0 := by rw [hW0]; exact allocs_below w [Obj.cells p.arr 45, Obj.cells #[.int .u64 0, .int .u64 0, .int .u64 0, .int .u64 0] 45]); (rw [← hW0]); (clear hW0)
 have g0 : W0.heap[w.heap.size]? = some (.cells p.arr 45 (0, 0)) := gW0 0 _ rfl
 have g1 : W0.heap[w.heap.size + 1]? = some (.cells V4.zero.arr 45 (0, 0)) := gW0 1 _ rfl
 refine (HNu.out _ bW0).mono ?_
 rintro e w1 ⟨rfl, hb⟩
 have HG := Lib.hid (And.intro (blk_below g0 hb rfl) (And.intro (blk_below g1 hb rfl) (bW0.trans (hb.mono (by omega)))))
 clear g0 g1 gW0 zW0 bW0 hb HNu
 go_wp2_with fail
 (obtain ⟨W2, hW2⟩ : ∃ W0 : World, W0 = (w1).alloc (.cells v.arr 45) := ⟨_, rfl⟩); (have gW2 : ∀ (j : Nat) (o : Obj), ([Obj.cells v.arr 45] : List Obj)[j]? = some o → W2.heap[w1.heap.size + j]? = some o := by rw [hW2]; exact allocs_get w1 _); (have zW2 : W2.heap.size = w1.heap.size + 1 := by rw [hW2]; exact allocs_size w1 [Obj.cells v.arr 45]); (have bW2 : Below w1.heap.size w1 W2 := by rw [hW2]; exact allocs_below w1 [Obj.cells v.arr 45]); (rw [← hW2]); (clear hW2)
 have gA := agg_of_block (v := p) (blk_below HG.out.1 bW2 rfl)
 have gZ := blk_below HG.out.2.1 bW2 rfl
 have gV := agg_of_block (v := v) (show W2.heap[w1.heap.size]? = some (.cells v.arr 45 (0, 0)) from gW2 0 _ rfl)
 have HB := Lib.hid (And.intro gZ (And.intro gV (HG.out.2.2.trans (bW2.mono HG.out.2.2.size))))
 clear gW2 zW2 bW2 HG gZ
 ((have hS0 : (Below W2.heap.size W2 W2.drew ∧ aggAt W2.drew 4 (w.heap.size) (0) = some (p.val) ∧ aggAt W2.drew 4 (w1.heap.size) (0) = some (v.val)) := ⟨((Below.refl _ W2)).drew, gA, gV⟩); (refine region_later (by kernel_rfl) [4] [0, 1, 2, 3] true (by kernel_rfl) (by kernel_rfl) (fun W' => (Below W2.heap.size W2 W' ∧ aggAt W' 4 (w.heap.size) (0) = some (p.val) ∧ aggAt W' 4 (w1.heap.size) (0) = some (v.val))) hS0 ?_); (have hSB : ∀ W' W'' : World, (Below W2.heap.size W2 W' ∧ aggAt W' 4 (w.heap.size) (0) = some (p.val) ∧ aggAt W' 4 (w1.heap.size) (0) = some (v.val)) → Below W'.heap.size W' W'' → (Below W2.heap.size W2 W'' ∧ aggAt W'' 4 (w.heap.size) (0) = some (p.val) ∧ aggAt W'' 4 (w1.heap.size) (0) = some (v.val)) := fun W' W'' ⟨h0, h1, h2⟩ hb => ⟨h0.trans (hb.mono h0.size), agg_keep h1 hb, agg_keep h2 hb⟩); (clear gA gV); (iterate 4 (refine chainL_op (by rfl) (by rfl) ?_ ?_ ?_; rotate_left; (focus (intro W' hS' K hK; (try simp only [put_some, List.set] at hK); (have hS'' := hS'); (obtain ⟨s0, s1, s2⟩ := hS''); go_simp; (first | exact hK _ hS' (Later.refl _) | (with_reducible refine Calls.mono (HSub.out _) ?_; rintro e W'' ⟨rfl, hb''⟩; exact hK _ (hSB _ _ hS' hb'') (Later.of hb''))); done)); (try simp only [put_some, List.set]))); (refine chainL_nil ?_))
 refine spineL_op (by rfl) (by rfl) (fun X1 hS1 hL1 K hK => ?_)
 go_simp
 refine hK _ _ (fun _ => hS1) ?_
 (try simp only [put_some, List.set])
 refine spineL_nil fun X2 hL2 hS2 => ?_
 have hb2 := (hS2 rfl).1
 have gZ2 := blk_below HB.out.1 hb2 rfl
 have pZ2 := agg_of_block (v := V4.zero) gZ2
 have pV2 := (hS2 rfl).2.2
 have HX := Lib.hid (And.intro gZ2 (HB.out.2.2.trans (hb2.mono HB.out.2.2.size)))
 clear hS1 hS2 hL1 hL2 hSB hS0 K hK hb2 gZ2 HB
 rcases HE.out with rfl | rfl
 ·have hx : (!decide (s = v)) = false := by rw [HQ.out]; rfl
  rw [hx]
  clear hx
  go_wp2_with fail
  exact end_ct Tryz.results31 rfl (atV (agg_of_block (vec_put HX.out.1 rfl))) rfl ⟨rfl, putAgg_below HX.out.2 (by omega)⟩
 ·have hx : (!decide (s = v)) = true := by rw [HQ.out]; rfl
  rw [hx]
  clear hx
  go_wp2_with fail
  exact end_ct Tryz.results31 rfl (atV (agg_of_block (vec_put HX.out.1 rfl))) rfl ⟨rfl, putAgg_below HX.out.2 (by omega)⟩
end Go.Proofs.YtccgfladbibjbaaGreatDoor
namespace Go.Proofs.YtccgfladbibjbaaGreatDoor
open Go.RowKit
attribute [local go_sem ↓] add_UU sub_UU mul_UU add_UL add_LU sub_UL sub_LU mul_UL neg_at not_at and_UU or_UU xor_UU andNot_UU and_UL or_LU shr_UL shl_UL shr_UN shl_UN shl_LN quo_UL rem_UL quo_UU rem_UU
attribute [local go_sem] wrap64_N wrapi_mod wrap8_U wrap32_U wrap64_B wrap32_B wrap8_D wrapi_B wrap64_UU eq_UU ne_UU eq_UL ne_UL lt_UU le_UU
attribute [local simp] putAgg_size
attribute [local go_sem ↓] loadVar_F loadVar_E loadVar_V loadVar_B32 storeVar_F storeVar_E storeVar_V storeVar_B32 box_F box_E box_V box_B32
attribute [local go_sem ↓ high] V4.cells_val FP.cells_val
attribute [local go_sem] run_loadF run_loadE run_loadV run_loadB32 run_storeF run_storeE run_storeV run_storeB32 run_boxA aggAt_drew aggAt_drewN aggAt_alloc_new aggAt_alloc_past aggAt_setCell_other aggAt_putAgg_other aggAt_putAgg_new putAgg_drew putAgg_size putAgg_alloc_new putAgg_alloc_past putAgg_cell_other putAgg_frozen_other V4.agg_arr FP.agg_arr V4.size_arr FP.size_arr V4.fits FP.fits fitsA_agg4 lt_2 ne_2 en_2 lt_3 ne_3 en_3 lt_4 ne_4 en_4 lt_5 ne_5 en_5 lt_6 ne_6 en_6
theorem refBit (a : V4) (i : Nat) (hi : i ≤ 255) (w : World) : Calls Tryz.prog 77 #[a.val, .int .i64 i] w fun e w' => ∃ x : BitVec 64, e = .returned (.int .u64 (U x)) ∧ Below w.heap.size w w' := by
 have hw : Int.tdiv (i : Int) 64 = ((i / 64 : Nat) : Int) := by rw [Int.tdiv_eq_ediv_of_nonneg (by omega)]; omega
 have hr : Int.tmod (i : Int) 64 = ((i % 64 : Nat) : Int) := by rw [Int.tmod_eq_emod_of_nonneg (by omega)]; omega
 have hk : i / 64 < 4 := by omega
 have hk' : ((i / 64 : Nat) : Int) < 4 := by omega
 have hk0 : (0 : Int) ≤ ((i / 64 : Nat) : Int) := by omega
 have hwr : IntKind.i64.wrap ((i / 64 : Nat) : Int) = ((i / 64 : Nat) : Int) := by rw [IntKind.wrap_i64]; omega
 have hwr2 : IntKind.i64.wrap ((i % 64 : Nat) : Int) = ((i % 64 : Nat) : Int) := by rw [IntKind.wrap_i64]; omega
 have hgt : ¬ (255 : Int) < (i : Int) := by omega
 have hm : i % 64 < 64 := by omega
 go_enter Tryz.func77, Tryz.ntmps77
 have c := row_cell (w := w.alloc (.cells a.arr.toList.toArray 45)) (heap_alloc_new w _) _ (arr_at a (i / 64) hk)
 generalize a.get (i / 64) = x at *
 generalize i / 64 = q at *
 generalize i % 64 = r at *
 go_wp2
 have HL := Lib.hid (show ∀ j : Nat, (j : Int) < (r : Int) → j < 64 from fun j h => by omega)
 have HB := Lib.hid (show Below w.heap.size w (w.alloc (.cells a.arr 45)) from (Below.refl _ w).alloc (Nat.le_refl _) _)
 clear c
 generalize w.alloc (.cells a.arr 45) = W0 at *
 go_loopw [5, 6] (fun xv kv W => ∃ (y : BitVec 64) (j : Nat), j ≤ r ∧ xv = .int .u64 (U y) ∧ kv = .int .i64 j ∧ W = W0) (fun _ kv _ => 64 - (intOf kv).toNat)
 case atStart => exact ⟨x, 0, by omega, rfl, rfl, rfl⟩
 case round =>
  obtain ⟨y, j, hj, rfl, rfl, rfl⟩ := hrel
  by_cases hlt : j < r
  ·have hlt' : (j : Int) < (r : Int) := by omega
   go_wp2
   go_roundw
   case rel => exact ⟨_, j + 1, by omega, rfl, by go_num, trivial⟩
   case measure => (first | (simp [intOf]; done) | (simp [intOf]; omega))
  ·have hlt' : ¬ (j : Int) < (r : Int) := by omega
   go_wp2
   go_ret
   exact ⟨⟨_, rfl⟩, HB.out⟩
theorem refOne (w : World) : Calls Tryz.prog 43 #[] w fun e w' => e = .returned V4.unit.val ∧ Below w.heap.size w w' := by
 have b1 : ∀ W, (Instr.build 45 #[(0, .int .u64 1)]).run Tryz.prog W = .ok V4.unit.val W := fun W => by kernel_rfl
 go_enter Tryz.func43, Tryz.ntmps43
 go_wp2_with fail
 exact end_c Tryz.results43 rfl (atV (agg_of_block (v := V4.unit) (heap_alloc_new w _))) rfl ⟨rfl, (Below.refl _ w).alloc (Nat.le_refl _) _⟩
structure MuI (w : World) (p a b v : V4) (W : World) : Prop where
 P : W.heap[w.heap.size]? = some (.cells p.arr 45 (0, 0))
 A : W.heap[w.heap.size + 1]? = some (.cells a.arr 45 (0, 0))
 B : W.heap[w.heap.size + 1 + 1]? = some (.cells b.arr 45 (0, 0))
 R : W.heap[w.heap.size + 1 + 1 + 1]? = some (.cells V4.zero.arr 45 (0, 0))
 O : W.heap[w.heap.size + 1 + 1 + 1 + 1]? = some (.cells v.arr 45 (0, 0))
 L : Below w.heap.size w W
theorem MuI.below {w W W' : World} {p a b v : V4} (h : MuI w p a b v W) (hb : Below W.heap.size W W') : MuI w p a b v W' := ⟨blk_below h.P hb rfl, blk_below h.A hb rfl, blk_below h.B hb rfl, blk_below h.R hb rfl, blk_below h.O hb rfl, h.L.trans (hb.mono h.L.size)⟩
theorem MuI.put {w W : World} {p a b v : V4} (h : MuI w p a b v W) (u : V4) : MuI w p a b u (putAgg W (w.heap.size + 1 + 1 + 1 + 1) 0 u.arr) :=
 ⟨(putAgg_block _ _ _ _ _ (by omega)).trans h.P, (putAgg_block _ _ _ _ _ (by omega)).trans h.A, (putAgg_block _ _ _ _ _ (by omega)).trans h.B, (putAgg_block _ _ _ _ _ (by omega)).trans h.R, vec_put h.O rfl, putAgg_below h.L (by omega)⟩
set_option maxRecDepth 20000 in
set_option maxHeartbeats 2000000 in
theorem refMul (p a b : V4) (ha : a.num < p.num) (w : World) : Calls Tryz.prog 41 #[p.val, a.val, b.val] w fun e w' => ∃ v : V4, e = .returned v.val ∧ v.num < p.num ∧ Below w.heap.size w w' := by
 have HA := Lib.hid (refAdd p)
 have HT := Lib.hid (refBit b)
 go_enter Tryz.func41, Tryz.ntmps41
 go_wp2
 (obtain ⟨W0, hW0⟩ : ∃ W0 : World, W0 = (((((w).alloc (.cells p.arr 45)).alloc (.cells a.arr 45)).alloc (.cells b.arr 45)).alloc (.cells #[.int .u64 0, .int .u64 0, .int .u64 0, .int .u64 0] 45)).alloc (.cells #[.int .u64 0, .int .u64 0, .int .u64 0, .int .u64 0] 45) := ⟨_, rfl⟩); (have gW0 : ∀ (j : Nat) (o : Obj), ([Obj.cells p.arr 45, Obj.cells a.arr 45, Obj.cells b.arr 45, Obj.cells #[.int .u64 0, .int .u64 0, .int .u64 0, .int .u64 0] 45, Obj.cells #[.int .u64 0, .int .u64 0, .int .u64 0, .int .u64 0] 45] : List Obj)[j]? = some o → W0.heap[w.heap.size + j]? = some o := by rw [hW0]; exact allocs_get w _); (have zW0 : W0.heap.size = w.heap.size + 5 := by rw [hW0]; exact allocs_size w [Obj.cells p.arr 45, Obj.cells a.arr 45, Obj.cells b.arr 45, Obj.cells #[.int .u64 0, .int .u64 0, .int .u64 0, .int .u64 0] 45, Obj.cells #[.int .u64 0, .int .u64 0, .int .u64 0, .int .u64 0] 45]); (have bW0 : Below w.heap.size w W0 := by rw [hW0]; exact allocs_below w [Obj.cells p.arr 45, Obj.cells a.arr 45, Obj.cells b.arr 45, Obj.cells #[.int .u64 0, .int .u64 0, .int .u64 0, .int .u64 0] 45, Obj.cells #[.int .u64 0, .int .u64 0, .int .u64 0, .int .u64 0] 45]); (rw [← hW0]); (clear hW0)
 have H0 := Lib.hid (show MuI w p a b V4.zero W0 from ⟨gW0 0 _ rfl, gW0 1 _ rfl, gW0 2 _ rfl, gW0 3 _ rfl, gW0 4 _ rfl, bW0⟩)
 have hp : 0 < p.num := by omega
 clear gW0 bW0 zW0
 go_loopw [8] (fun iv W => ∃ (i : Nat) (v : V4), i ≤ 256 ∧ v.num < p.num ∧ iv = .int .i64 ((i : Int) - 1) ∧ MuI w p a b v W) (fun iv _ => ((intOf iv) + 1).toNat)
 case atStart => exact ⟨256, V4.zero, by omega, hp, rfl, H0.out⟩
 case round =>
  clear H0
  obtain ⟨i, v, hi, hv, rfl, hI⟩ := hrel
  by_cases h0 : 0 < i
  ·obtain ⟨k, rfl⟩ : ∃ k, i = k + 1 := ⟨i - 1, by omega⟩
   rw [show ((k + 1 : Nat) : Int) - 1 = (k : Int) from by omega] at *
   have hk0 : (0 : Int) ≤ (k : Int) := by omega
   have pP := agg_of_block hI.P
   have pO := agg_of_block hI.O
   have HI := Lib.hid hI
   clear hI
   go_wp2_with fail
   refine (HA.out v v _).mono ?_
   rintro e w1 ⟨rfl, hb⟩
   have HI1 := Lib.hid (HI.out.below hb)
   have hv1 := radd_lt p v v hv hv
   generalize radd p v v = u at *
   clear pP pO HI hb hv
   have pO := agg_of_block HI1.out.O
   have pB := agg_of_block HI1.out.B
   go_wp2_with fail
   have HI2 := Lib.hid (HI1.out.put u)
   generalize putAgg w1 _ 0 u.arr = w2 at *
   refine (HT.out k (by omega) _).mono ?_
   rintro e w3 ⟨x, rfl, hb⟩
   have HI3 := Lib.hid (HI2.out.below hb)
   clear pB pO HI1 HI2 hb
   have pO := agg_of_block HI3.out.O
   have pP := agg_of_block HI3.out.P
   have pA := agg_of_block HI3.out.A
   by_cases hx : x = 1#64
   ·have e1 : (x == 1#64) = true := by simpa using hx
    clear hx
    go_wp2_with fail
    refine (HA.out u a _).mono ?_
    rintro e w4 ⟨rfl, hb⟩
    have HI4 := Lib.hid (HI3.out.below hb)
    have hv2 := radd_lt p u a hv1 ha
    generalize radd p u a = t at *
    clear pP pO pA HI3 hb
    have pO := agg_of_block HI4.out.O
    go_wp2_with fail
    go_roundw
    case rel => exact ⟨k, t, by omega, hv2, by go_num, HI4.out.put t⟩
    case measure => (first | (simp [intOf]; done) | (simp [intOf]; omega))
   ·have e1 : (x == 1#64) = false := beq_eq_false_iff_ne.2 hx
    clear hx
    go_wp2_with fail
    go_roundw
    case rel => exact ⟨k, u, by omega, hv1, by go_num, HI3.out⟩
    case measure => (first | (simp [intOf]; done) | (simp [intOf]; omega))
  ·obtain rfl : i = 0 := by omega
   have pO := agg_of_block hI.O
   have pR := agg_of_block hI.R
   have HI := Lib.hid hI
   clear hI
   go_wp2_with fail
   exact end_c Tryz.results41 rfl (atV (agg_of_block (vec_put HI.out.R rfl))) rfl ⟨v, rfl, hv, putAgg_below HI.out.L (by omega)⟩
def radT (p : V4) : Nat → V4
 | 0 => V4.unit
 | k + 1 => radd p (radT p k) (radT p k)
theorem radT_lt (p : V4) (hp : 1 < p.num) : ∀ k, (radT p k).num < p.num
 | 0 => by rw [show (radT p 0).num = 1 from by show V4.unit.num = 1; decide]; exact hp
 | k + 1 => radd_lt p _ _ (radT_lt p hp k) (radT_lt p hp k)
structure RaI (w : World) (p v : V4) (b : Nat) (W : World) : Prop where
 P : W.heap[w.heap.size]? = some (.cells p.arr 45 (0, 0))
 R : W.heap[w.heap.size + 1]? = some (.cells V4.zero.arr 45 (0, 0))
 O : W.heap[b]? = some (.cells v.arr 45 (0, 0))
 L : Below w.heap.size w W
theorem RaI.below {w W W' : World} {p v : V4} {b : Nat} (h : RaI w p v b W) (hb : Below W.heap.size W W') : RaI w p v b W' := ⟨blk_below h.P hb rfl, blk_below h.R hb rfl, blk_below h.O hb rfl, h.L.trans (hb.mono h.L.size)⟩
theorem RaI.put {w W : World} {p v : V4} {b : Nat} (h : RaI w p v b W) (hb : w.heap.size + 1 < b) (u : V4) : RaI w p u b (putAgg W b 0 u.arr) :=
 ⟨(putAgg_block _ _ _ _ _ (by omega)).trans h.P, (putAgg_block _ _ _ _ _ (by omega)).trans h.R, vec_put h.O rfl, putAgg_below h.L (by omega)⟩
set_option maxRecDepth 20000 in
set_option maxHeartbeats 2000000 in
theorem refRadix (p : V4) (w : World) : Calls Tryz.prog 42 #[p.val] w fun e w' => e = .returned (radT p 256).val ∧ Below w.heap.size w w' := by
 have HA := Lib.hid (refAdd p)
 go_enter Tryz.func42, Tryz.ntmps42
 go_wp2_with fail
 (obtain ⟨W0, hW0⟩ : ∃ W0 : World, W0 = ((w).alloc (.cells p.arr 45)).alloc (.cells #[.int .u64 0, .int .u64 0, .int .u64 0, .int .u64 0] 45) := ⟨_, rfl⟩); (have gW0 : ∀ (j : Nat) (o : Obj), ([Obj.cells p.arr 45, Obj.cells #[.int .u64 0, .int .u64 0, .int .u64 0, .int .u64 0] 45] : List Obj)[j]? = some o → W0.heap[w.heap.size + j]? = some o := by rw [hW0]; exact allocs_get w _); (have zW0 : W0.heap.size = w.heap.size + 2 := by rw [hW0]; exact allocs_size w [Obj.cells p.arr 45, Obj.cells #[.int .u64 0, .int .u64 0, .int .u64 0, .int .u64 0] 45]); (have bW0 : Below w.heap.size w W0 := by rw [hW0]; exact allocs_below w [Obj.cells p.arr 45, Obj.cells #[.int .u64 0, .int .u64 0, .int .u64 0, .int .u64 0] 45]); (rw [← hW0]); (clear hW0)
 have gP : W0.heap[w.heap.size]? = some (.cells p.arr 45 (0, 0)) := gW0 0 _ rfl
 have gR : W0.heap[w.heap.size + 1]? = some (.cells V4.zero.arr 45 (0, 0)) := gW0 1 _ rfl
 refine (refOne _).mono ?_
 rintro e w1 ⟨rfl, hb⟩
 have gP1 := blk_below gP hb rfl
 have gR1 := blk_below gR hb rfl
 have hb1 := bW0.trans (hb.mono (by omega))
 have hz : w.heap.size + 1 < w1.heap.size := by have := hb.size; omega
 have H0 := Lib.hid (show RaI w p V4.unit w1.heap.size (w1.alloc (.cells V4.unit.arr 45)) from
  ⟨(Below.heap_alloc w1 _ _ (by omega)).trans gP1, (Below.heap_alloc w1 _ _ (by omega)).trans gR1, heap_alloc_new w1 _, hb1.alloc (by omega) _⟩)
 clear gP gR gP1 gR1 hb1 hb gW0 zW0 bW0
 go_wp2
 go_loopw [4] (fun iv W => ∃ k : Nat, k ≤ 256 ∧ iv = .int .i64 k ∧ RaI w p (radT p k) w1.heap.size W) (fun iv _ => 256 - (intOf iv).toNat)
 case atStart => exact ⟨0, by omega, rfl, H0.out⟩
 case round =>
  clear H0
  obtain ⟨k, hk, rfl, hI⟩ := hrel
  by_cases hlt : k < 256
  ·have hlt' : (k : Int) < 256 := by omega
   have HT := Lib.hid (show radd p (radT p k) (radT p k) = radT p (k + 1) from rfl)
   generalize radT p k = v at *
   have pP := agg_of_block hI.P
   have pO := agg_of_block hI.O
   have HI := Lib.hid hI
   clear hI
   go_wp2_with fail
   refine (HA.out v v _).mono ?_
   rintro e w2 ⟨rfl, hb⟩
   have HI1 := Lib.hid (HI.out.below hb)
   generalize radd p v v = u at *
   clear pP pO HI hb
   have pO := agg_of_block HI1.out.O
   go_wp2_with fail
   go_roundw
   case rel => exact ⟨k + 1, by omega, by go_num, by rw [← HT.out]; exact HI1.out.put hz u⟩
   case measure => (first | (simp [intOf]; done) | (simp [intOf]; omega))
  ·obtain rfl : k = 256 := by omega
   obtain ⟨v, hv⟩ : ∃ v, radT p 256 = v := ⟨_, rfl⟩
   rw [hv] at hI
   have HV := Lib.hid hv
   clear hv
   have pO := agg_of_block hI.O
   have pR := agg_of_block hI.R
   have HI := Lib.hid hI
   clear hI
   go_wp2_with fail
   exact end_c Tryz.results42 rfl (atV (agg_of_block (vec_put HI.out.R rfl))) rfl ⟨by rw [HV.out], putAgg_below HI.out.L (by omega)⟩
set_option maxRecDepth 20000 in
set_option maxHeartbeats 2000000 in
theorem refForm (p a : V4) (hp : 1 < p.num) (w : World) : Calls Tryz.prog 17 #[p.val, a.val] w fun e w' => ∃ v : V4, e = .returned v.val ∧ v.num < p.num ∧ Below w.heap.size w w' := by
 have HM := Lib.hid (refMul p (radT p 256) a (radT_lt p hp 256))
 have HX := Lib.hid (fun W => refRadix p W)
 generalize radT p 256 = r at *
 go_enter Tryz.func17, Tryz.ntmps17
 go_upto_region 1 with (fail)
 (obtain ⟨W0, hW0⟩ : ∃ W0 : World, W0 = (((w).alloc (.cells p.arr 45)).alloc (.cells a.arr 45)).alloc (.cells #[.int .u64 0, .int .u64 0, .int .u64 0, .int .u64 0] 45) := ⟨_, rfl⟩); (have gW0 : ∀ (j : Nat) (o : Obj), ([Obj.cells p.arr 45, Obj.cells a.arr 45, Obj.cells #[.int .u64 0, .int .u64 0, .int .u64 0, .int .u64 0] 45] : List Obj)[j]? = some o → W0.heap[w.heap.size + j]? = some o := by rw [hW0]; exact allocs_get w _); (have zW0 : W0.heap.size = w.heap.size + 3 := by rw [hW0]; exact allocs_size w [Obj.cells p.arr 45, Obj.cells a.arr 45, Obj.cells #[.int .u64 0, .int .u64 0, .int .u64 0, .int .u64 0] 45]); (have bW0 : Below w.heap.size w W0 := by rw [hW0]; exact allocs_below w [Obj.cells p.arr 45, Obj.cells a.arr 45, Obj.cells #[.int .u64 0, .int .u64 0, .int .u64 0, .int .u64 0] 45]); (rw [← hW0]); (clear hW0)
 have gR : W0.heap[w.heap.size + 1 + 1]? = some (.cells V4.zero.arr 45 (0, 0)) := gW0 2 _ rfl
 have pP : aggAt W0 4 w.heap.size 0 = some p.val := agg_of_block (gW0 0 _ rfl)
 have pA : aggAt W0 4 (w.heap.size + 1) 0 = some a.val := agg_of_block (gW0 1 _ rfl)
 ((refine region_held (h := 4) (by kernel_rfl) (by kernel_rfl) (fun W' => (Below W0.heap.size W0 W' ∧ aggAt W' 4 (w.heap.size) (0) = some (p.val) ∧ aggAt W' 4 (w.heap.size + 1) (0) = some (a.val))) ⟨(Below.refl _ W0).drew, pP, pA⟩ ?_); (have hSB : ∀ W' W'' : World, (Below W0.heap.size W0 W' ∧ aggAt W' 4 (w.heap.size) (0) = some (p.val) ∧ aggAt W' 4 (w.heap.size + 1) (0) = some (a.val)) → Below W'.heap.size W' W'' → (Below W0.heap.size W0 W'' ∧ aggAt W'' 4 (w.heap.size) (0) = some (p.val) ∧ aggAt W'' 4 (w.heap.size + 1) (0) = some (a.val)) := fun W' W'' ⟨h0, h1, h2⟩ hb => ⟨h0.trans (hb.mono h0.size), agg_keep h1 hb, agg_keep h2 hb⟩); (clear pP pA); (((try simp only [List.take_succ_cons, List.take_zero, List.drop_succ_cons, List.drop_zero]); repeat (apply chain_op; (focus (intro W' hS' K hK; (try simp only [Act.put, List.setIfInBounds_toArray, List.set_cons_zero, List.set_cons_succ] at hK); (have hS'' := hS'); (obtain ⟨s0, s1, s2⟩ := hS''); go_simp; (first | exact hK _ hS' | (with_reducible refine Calls.mono (HX.out _) ?_; rintro e W'' ⟨rfl, hb''⟩; exact hK _ (hSB _ _ hS' hb''))); done)); (try simp only [Act.put, List.setIfInBounds_toArray, List.set_cons_zero, List.set_cons_succ])); unfold chain)); (rintro W' ⟨s0, s1, s2⟩); (clear hSB))
 have hz : w.heap.size + 3 ≤ W0.heap.size := by omega
 have gR1 := blk_below gR s0 rfl
 have HB := Lib.hid (bW0.trans (s0.mono (by omega)))
 clear gW0 zW0 bW0 gR s0 s1 s2
 go_wp2_with fail
 refine (HM.out _).mono ?_
 rintro e w2 ⟨v, rfl, hv, hb⟩
 have HR := Lib.hid (blk_below gR1 hb rfl)
 have HB2 := Lib.hid (HB.out.trans (hb.mono HB.out.size))
 have pR := agg_of_block HR.out
 clear gR1 HB hb
 go_wp2_with fail
 exact end_c Tryz.results17 rfl (atV (agg_of_block (vec_put HR.out rfl))) rfl ⟨v, rfl, hv, putAgg_below HB2.out (by omega)⟩
end Go.Proofs.YtccgfladbibjbaaGreatDoor
