/- Appending to a row of one's own: the cells that lay in it stay where they lay. -/
import Derived.Test.YtccgfladbibjbaaGreatDoorKG16
namespace Go.Proofs.YtccgfladbibjbaaGreatDoor
open Go.RowKit
theorem addr_add0 (g j : Nat) : (⟨g, 0, none⟩ : Addr).add j = ⟨g, j, none⟩ := by rw [Addr.add_mid, Nat.zero_add]
section
variable {P : Program} {w : World}
theorem append_stays (base : Nat) (t ty e : TypeId) (i : TypeInfo) (z : Value) (size bytes : Nat) (ht : P.underlying t = some (.slice e)) (hi : P.info? e = some i) (hz : i.zero = some z)
  (hsize : i.size = size) (hby : i.bytes = bytes) (v : Value) (n : Nat) (xs : List Value) (hown : w.ownsRow base e size v n xs)
  (ad : Addr) (m c : Nat) (news : List Value) (hl : news.length = m * size) (hnews : ∀ j u, news[j]? = some u → w.cell? (ad.add j) = some u) (h1 : ∀ u ∈ news, u.oneCell' = true)
  (h63 : n + m ≤ maxLen) (hbytes : (n + m) * bytes ≤ 140737488355328) {v' : Value} {w' : World} (hr : (Builtin.append_ #[t, t] ty #[v, .slice (some ad) m c]).run P w = .ok v' w') (h2 : w'.ownsRow base e size v' (n + m) (xs ++ news)) :
  ∀ g, v.ownBlock = some g → ∀ j u, xs[j]? = some u → w'.cell? ⟨g, j, none⟩ = some u := by
 subst hsize hby
 intro g hg j u hu
 have hj := (List.getElem?_eq_some_iff.1 hu).1
 rcases hown.2 with ⟨rfl, _⟩ | ⟨g', cap, cur, rfl, hbg, hgg, hnc, hcm, hcs, htake⟩
 ·simp [Value.ownBlock] at hg
 ·simp [Value.ownBlock] at hg
  subst hg
  by_cases hroom : n + m ≤ cap
  ·have hfit : n * i.size + news.length ≤ cur.size := by rw [hl, hcs, ← Nat.add_mul]; exact Nat.mul_le_mul_right _ hroom
   have hr2 := run_append_room (P := P) w t ty e i ht hi g' n cap cur hgg ad m c news hl hnews h1 hroom hfit
   rw [hr] at hr2
   injection hr2 with e1 e2
   have := h2.cells (g := g') (by rw [e1]; rfl) j u (by rw [List.getElem?_append_left hj]; exact hu)
   rwa [addr_add0] at this
  ·have holds : ∀ j u, xs[j]? = some u → w.cell? ((⟨g', 0, none⟩ : Addr).add j) = some u := hown.cells (g := g') rfl
   have hsm : n + m ≤ 9223372036854775807 := by simp only [maxLen] at h63; omega
   have hr2 := run_append_grow (P := P) w t ty e i z ht hi hz ⟨g', 0, none⟩ n cap xs hown.1 holds ad m c news hl hnews (by omega) (by omega) (growslice_fits (by omega) hbytes)
   rw [hr] at hr2
   injection hr2 with e1 e2
   have h3 := holds j u hu
   rw [addr_add0] at h3
   rw [e2, World.cell?_of_block (w := w) (a := ⟨g', j, none⟩) (heap_alloc_old w.drew _ (Array.getElem?_eq_some_iff.1 hgg).1)]
   exact h3
theorem wp_append_stays {o : Oper} {a : Act} {K : Act → World → Prop} {Q : Exit → Act → World → Prop} (s x : Operand) (t : TypeId)
  (ho : o.op = .call { callee := .builtin .append, args := #[s, x], argTypes := #[t, t] }) (base : Nat) (e : TypeId) (i : TypeInfo) (z : Value) (size bytes : Nat) (ht : P.underlying t = some (.slice e)) (hi : P.info? e = some i) (hz : i.zero = some z)
  (hsize : i.size = size) (hby : i.bytes = bytes) (hzs : z.cells.size = size) (hsz : 0 < size) (v : Value) (n : Nat) (xs : List Value) (hs : a.eval s = v) (hown : w.ownsRow base e size v n xs)
  (b : Nat) (m c : Nat) (news : List Value) (hx : a.eval x = .slice (some ⟨b, 0, none⟩) m c) (hl : news.length = m * size) (hnews : Sees w (some ⟨b, 0, none⟩) news) (h1 : ∀ u ∈ news, u.oneCell' = true)
  (h63 : n + m ≤ maxLen) (hbytes : (n + m) * bytes ≤ 140737488355328) (hbase : base ≤ w.heap.size)
  (h : ∀ v' w', w'.ownsRow base e size v' (n + m) (xs ++ news) → w.grownBy w' v.ownBlock → (∀ g, v.ownBlock = some g → ∀ j u, xs[j]? = some u → w'.cell? ⟨g, j, none⟩ = some u) → K (a.put o.dst v') w') : o.wp P a w K Q := by
 obtain ⟨v', w', hr, h2, h3, h4⟩ := run_append_sees (P := P) w base t o.type e i z size bytes ht hi hz hsize hby hzs hsz v n xs hown (some ⟨b, 0, none⟩) m c news hl hnews h1 h63 hbytes hbase
 have hk := append_stays (P := P) base t o.type e i z size bytes ht hi hz hsize hby v n xs hown ⟨b, 0, none⟩ m c news hl (fun j u hj => by
  obtain ⟨b', o', e, hc⟩ := hnews (by have := (List.getElem?_eq_some_iff.1 hj).1; omega)
  injection e with e
  injection e with e1 e2
  subst e1 e2
  have := hc j (List.getElem?_eq_some_iff.1 hj).1
  rw [Nat.zero_add] at this
  rw [addr_add0, this, hj]) h1 h63 hbytes hr h2
 unfold Oper.wp execOp
 simp only [ho, resolve, invoke, builtin, Sem.run_bind, Sem.run_pure, Result.andThen_ok, List.map_toArray, List.map_cons, List.map_nil, hs, hx, hr]
 exact h v' w' h2 h3 hk
end
end Go.Proofs.YtccgfladbibjbaaGreatDoor
