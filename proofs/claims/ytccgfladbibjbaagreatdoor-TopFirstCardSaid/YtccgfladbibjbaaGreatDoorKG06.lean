/- A scope with jumps to several labels. -/
import Derived.Test.YtccgfladbibjbaaGreatDoorProg
import Derived.WalkMore
import Derived.ScopeJumps
namespace Go.Proofs.YtccgfladbibjbaaGreatDoor
open Go
def jumps (J : Nat → Act → World → Prop) (Q : Exit → Act → World → Prop) : Exit → Act → World → Prop
 | .goto l, a, w => J l a w
 | e, a, w => Q e a w
section
variable {P : Program} {a : Act} {w : World} {Q : Exit → Act → World → Prop} {J : Nat → Act → World → Prop}
theorem wp_scope_jumpsN {c : Code} (rest : Nat → Code) (J : Nat → Act → World → Prop) (μ : Nat → Act → World → Nat) (hf : ∀ l a w, J l a w → findLabel c l = some (rest l))
  (pass : ∀ l a w, J l a w → (rest l).wp P (jumps (fun l' a' w' => J l' a' w' ∧ μ l' a' w' < μ l a w) Q) a w) (first : c.wp P (jumps J Q) a w) : (Code.scope c).wp P Q a w := by
 intro b k cs
 have hg : ∀ l a w, J l a w → gotoIn l (.inScope c :: k) = some (.code (rest l) :: .inScope c :: k) := fun l a w h => by simp [gotoIn, hf l a w h]
 have key : ∀ n l a w, μ l a w = n → J l a w → ∃ e a' w', Q e a' w' ∧ Arrives P (lone (b.at a (.code (rest l) :: .inScope c :: k)) cs w) b k cs e a' w' := by
  intro n
  induction n using Nat.strongRecOn with
  | _ n ih =>
   intro l a w hn hJ
   obtain ⟨e, a₁, w₁, hq, harr⟩ := pass l a w hJ b (.inScope c :: k) cs
   cases e with
   | normal => exact ⟨.normal, a₁, w₁, hq, Steps.trans harr (.one step_inScope)⟩
   | exit id => exact ⟨.exit id, a₁, w₁, hq, fun k' hk => harr k' (by simp [exitTo, hk])⟩
   | goto l' =>
    obtain ⟨hJ', hlt⟩ := hq
    obtain ⟨e₂, a₂, w₂, hq₂, harr₂⟩ := ih _ (by omega) l' a₁ w₁ rfl hJ'
    exact ⟨e₂, a₂, w₂, hq₂, .of_steps (harr _ (hg l' a₁ w₁ hJ')) harr₂⟩
   | ret => exact ⟨_, a₁, w₁, hq, harr⟩
   | panic ch => exact ⟨_, a₁, w₁, hq, harr⟩
   | outgrown => exact ⟨_, a₁, w₁, hq, harr⟩
 obtain ⟨e, a₁, w₁, hq, harr⟩ := first b (.inScope c :: k) cs
 cases e with
 | normal => exact ⟨.normal, a₁, w₁, hq, .head step_scope (Steps.trans harr (.one step_inScope))⟩
 | exit id => exact ⟨.exit id, a₁, w₁, hq, fun k' hk => .head step_scope (harr k' (by simp [exitTo, hk]))⟩
 | goto l' =>
  obtain ⟨e₂, a₂, w₂, hq₂, harr₂⟩ := key _ l' a₁ w₁ rfl hq
  exact ⟨e₂, a₂, w₂, hq₂, .of_steps (.head step_scope (harr _ (hg l' a₁ w₁ hq))) harr₂⟩
 | ret => exact ⟨_, a₁, w₁, hq, .of_steps (.one step_scope) harr⟩
 | panic ch => exact ⟨_, a₁, w₁, hq, .of_steps (.one step_scope) harr⟩
 | outgrown => exact ⟨_, a₁, w₁, hq, .of_steps (.one step_scope) harr⟩
def J01 (J0 J1 : Act → World → Prop) : Nat → Act → World → Prop
 | 0 => J0
 | 1 => J1
 | _ => fun _ _ => False
theorem wp_scope_jumps01 {c r0 r1 : Code} (J0 J1 : Act → World → Prop) (μ : Act → World → Nat) (hf0 : findLabel c 0 = some r0) (hf1 : findLabel c 1 = some r1)
  (pass0 : ∀ a w, J0 a w → r0.wp P (jumps (J01 (fun _ _ => False) (fun _ _ => False)) Q) a w) (pass1 : ∀ a w, J1 a w → r1.wp P (jumps (J01 J0 (fun a' w' => J1 a' w' ∧ μ a' w' < μ a w)) Q) a w)
  (first : (∀ a w, J1 a w → r1.wp P (jumps (J01 J0 J1) Q) a w) → c.wp P (jumps (J01 J0 J1) Q) a w) : (Code.scope c).wp P Q a w := by
 refine wp_scope_jumpsN (fun | 0 => r0 | _ => r1) (J01 J0 J1) (fun | 0 => fun _ _ => 0 | _ => fun a w => μ a w + 1) ?_ ?_ ?_
 ·intro l a w h
  match l, h with
  | 0, _ => exact hf0
  | 1, _ => exact hf1
 ·intro l a w h
  match l, h with
  | 0, h =>
   refine Code.wp_mono ?_ (pass0 a w h)
   intro e a' w' hj
   cases e with
   | goto l =>
    match l, hj with
    | 0, hj => exact hj.elim
    | 1, hj => exact hj.elim
   | _ => exact hj
  | 1, h =>
   refine Code.wp_mono ?_ (pass1 a w h)
   intro e a' w' hj
   cases e with
   | goto l =>
    match l, hj with
    | 0, hj => exact ⟨hj, Nat.succ_pos _⟩
    | 1, hj => exact ⟨hj.1, Nat.succ_lt_succ hj.2⟩
   | _ => exact hj
 ·refine first fun a w h => Code.wp_mono ?_ (pass1 a w h)
  intro e a' w' hj
  cases e with
  | goto l =>
   match l, hj with
   | 0, hj => exact hj
   | 1, hj => exact hj.1
  | _ => exact hj
theorem wp_scope_loop {c r0 r1 : Code} (J1 : Act → World → Prop) (μ : Act → World → Nat) (hf0 : findLabel c 0 = some r0) (hf1 : findLabel c 1 = some (Code.skip.seq r1))
  (pass1 : ∀ a w, J1 a w → r1.wp P (jumps (J01 (fun a w => r0.wp P (jumps (J01 (fun _ _ => False) (fun _ _ => False)) Q) a w) (fun a' w' => J1 a' w' ∧ μ a' w' < μ a w)) Q) a w)
  (first : (∀ a w, J1 a w → r1.wp P (jumps (J01 (fun a w => r0.wp P (jumps (J01 (fun _ _ => False) (fun _ _ => False)) Q) a w) J1) Q) a w) → c.wp P (jumps (J01 (fun a w => r0.wp P (jumps (J01 (fun _ _ => False) (fun _ _ => False)) Q) a w) J1) Q) a w) : (Code.scope c).wp P Q a w := by
 refine wp_scope_jumps01 _ J1 μ hf0 hf1 (fun _ _ h => h) (fun a w h => wp_seq (wp_skip (pass1 a w h))) fun _ => first fun a w h => Code.wp_mono ?_ (pass1 a w h)
 intro e a' w' hj
 cases e with
 | goto l =>
  match l, hj with
  | 0, hj => exact hj
  | 1, hj => exact hj.1
 | _ => exact hj
theorem jumps_ret {J : Nat → Act → World → Prop} : jumps J Q .ret a w = Q .ret a w := rfl
end
end Go.Proofs.YtccgfladbibjbaaGreatDoor
