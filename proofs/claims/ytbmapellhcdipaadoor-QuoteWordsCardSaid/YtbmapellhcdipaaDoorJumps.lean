/-
  A scope in which the run jumps to several labels, under a fence.
-/
import Derived.ScopeJumps
import Derived.ControlIn
namespace Go.Proofs.YtbmapellhcdipaaDoor
open Go
set_option linter.unusedVariables false

/-- As Q; by a goto to label l: J l. -/
def jumpsTo (J : Nat → Act → World → Prop) (Q : Exit → Act → World → Prop) : Exit → Act → World → Prop
  | .goto l, a, w => J l a w
  | e, a, w => Q e a w
theorem jumpsTo_mono {J J' : Nat → Act → World → Prop} {Q : Exit → Act → World → Prop} (h : ∀ l a w, J l a w → J' l a w) : ∀ e a w, jumpsTo J Q e a w → jumpsTo J' Q e a w := by
  intro e a w hq
  cases e with
  | goto l => exact h _ _ _ hq
  | normal => exact hq
  | exit id => exact hq
  | ret => exact hq
  | panic ch => exact hq
  | outgrown => exact hq

section
variable {F : Fence} {n : Nat} {P : Program} {Q : Exit → Act → World → Prop} {a : Act} {w : World} {b : Frame} {k : List Item} {cs : List Frame}
theorem stepR_scope {c : Code} : step P (lone (b.atR a (.code (.scope c) :: k)) cs w) = .next (lone (b.atR a (.code c :: .inScope c :: k)) cs w) :=
  step_lone_go (by simp [stepG, stepG.exec, Frame.atR])
theorem stepR_inScope {c : Code} : step P (lone (b.atR a (.inScope c :: k)) cs w) = .next (lone (b.atR a k) cs w) :=
  step_lone_go (by simp [stepG, stepG.exec, Frame.atR])

theorem wpIn_scope_jumps {c : Code} (J : Nat → Act → World → Prop) (μ : Nat → Act → World → Nat) (rest : Nat → Code)
    (hf : ∀ l a w, J l a w → findLabel c l = some (rest l))
    (first : c.wpIn F n P (jumpsTo J Q) a w)
    (pass : ∀ l a w, J l a w → (rest l).wpIn F n P (jumpsTo (fun l' a' w' => J l' a' w' ∧ μ l' a' w' < μ l a w) Q) a w) : (Code.scope c).wpIn F n P Q a w := by
  intro b k cs hro hb hr
  have h0 : (lone (b.atR a (.code (.scope c) :: k)) cs w).fenced P F := fenced_calm hb hr rfl
  have hg : ∀ l a w, J l a w → gotoIn l (.inScope c :: k) = some (.code (rest l) :: .inScope c :: k) := fun l a w hJ => by simp [gotoIn, hf l a w hJ]
  have hx : ∀ id, exitTo id (.inScope c :: k) = exitTo id k := fun id => by simp [exitTo]
  have key : ∀ j l a w, μ l a w = j → J l a w → ∃ e a' w', Q e a' w' ∧ ArrivesIn (Machine.fenced P F) P (lone (b.atR a (.code (rest l) :: .inScope c :: k)) cs w) b k cs e a' w' := by
    intro j
    induction j using Nat.strongRecOn with
    | _ j ih =>
      intro l a w hj hJ
      obtain ⟨e, a₁, w₁, hq, harr⟩ := pass l a w hJ b (.inScope c :: k) cs hro hb hr
      cases e with
      | normal => exact ⟨.normal, a₁, w₁, hq, StepsIn.trans harr (.one (fenced_calm hb hr rfl) stepR_inScope)⟩
      | exit id => exact ⟨.exit id, a₁, w₁, hq, fun k' hk => harr.1 k' (by rw [hx]; exact hk), fun hr' hk => harr.2 hr' (by rw [hx]; exact hk)⟩
      | goto l' =>
        obtain ⟨hJ', hlt⟩ := hq
        obtain ⟨e₂, a₂, w₂, hq₂, harr₂⟩ := ih _ (by omega) l' a₁ w₁ rfl hJ'
        exact ⟨e₂, a₂, w₂, hq₂, .of_steps (harr.1 _ (hg l' a₁ w₁ hJ')) harr₂⟩
      | ret => exact ⟨_, a₁, w₁, hq, harr⟩
      | panic ch => exact ⟨_, a₁, w₁, hq, harr⟩
      | outgrown => exact ⟨_, a₁, w₁, hq, harr⟩
  obtain ⟨e, a₁, w₁, hq, harr⟩ := first b (.inScope c :: k) cs hro hb hr
  cases e with
  | normal => exact ⟨.normal, a₁, w₁, hq, .head h0 stepR_scope (StepsIn.trans harr (.one (fenced_calm hb hr rfl) stepR_inScope))⟩
  | exit id => exact ⟨.exit id, a₁, w₁, hq, fun k' hk => .head h0 stepR_scope (harr.1 k' (by rw [hx]; exact hk)), fun hr' hk => let ⟨k₁, h1, h2⟩ := harr.2 hr' (by rw [hx]; exact hk); ⟨k₁, h1, .head h0 stepR_scope h2⟩⟩
  | goto l =>
    obtain ⟨e₂, a₂, w₂, hq₂, harr₂⟩ := key _ l a₁ w₁ rfl hq
    exact ⟨e₂, a₂, w₂, hq₂, .of_steps (.head h0 stepR_scope (harr.1 _ (hg l a₁ w₁ hq))) harr₂⟩
  | ret => exact ⟨_, a₁, w₁, hq, .of_steps (.one h0 stepR_scope) harr⟩
  | panic ch => exact ⟨_, a₁, w₁, hq, .of_steps (.one h0 stepR_scope) harr⟩
  | outgrown => exact ⟨_, a₁, w₁, hq, .of_steps (.one h0 stepR_scope) harr⟩
/-- Six labels. -/
def six (J0 J1 J2 J3 J4 J5 : Act → World → Prop) : Nat → Act → World → Prop
  | 0 => J0
  | 1 => J1
  | 2 => J2
  | 3 => J3
  | 4 => J4
  | 5 => J5
  | _ => fun _ _ => False
theorem wpIn_scope6 {c r0 r1 r2 r3 r4 r5 : Code} (J0 J1 J2 J3 J4 J5 : Act → World → Prop) (μ : Nat → Act → World → Nat)
    (h0 : findLabel c 0 = some r0) (h1 : findLabel c 1 = some r1) (h2 : findLabel c 2 = some r2) (h3 : findLabel c 3 = some r3) (h4 : findLabel c 4 = some r4) (h5 : findLabel c 5 = some r5)
    (first : c.wpIn F n P (jumpsTo (six J0 J1 J2 J3 J4 J5) Q) a w)
    (p0 : ∀ a w, J0 a w → r0.wpIn F n P (jumpsTo (fun l' a' w' => six J0 J1 J2 J3 J4 J5 l' a' w' ∧ μ l' a' w' < μ 0 a w) Q) a w)
    (p1 : ∀ a w, J1 a w → r1.wpIn F n P (jumpsTo (fun l' a' w' => six J0 J1 J2 J3 J4 J5 l' a' w' ∧ μ l' a' w' < μ 1 a w) Q) a w)
    (p2 : ∀ a w, J2 a w → r2.wpIn F n P (jumpsTo (fun l' a' w' => six J0 J1 J2 J3 J4 J5 l' a' w' ∧ μ l' a' w' < μ 2 a w) Q) a w)
    (p3 : ∀ a w, J3 a w → r3.wpIn F n P (jumpsTo (fun l' a' w' => six J0 J1 J2 J3 J4 J5 l' a' w' ∧ μ l' a' w' < μ 3 a w) Q) a w)
    (p4 : ∀ a w, J4 a w → r4.wpIn F n P (jumpsTo (fun l' a' w' => six J0 J1 J2 J3 J4 J5 l' a' w' ∧ μ l' a' w' < μ 4 a w) Q) a w)
    (p5 : ∀ a w, J5 a w → r5.wpIn F n P (jumpsTo (fun l' a' w' => six J0 J1 J2 J3 J4 J5 l' a' w' ∧ μ l' a' w' < μ 5 a w) Q) a w) : (Code.scope c).wpIn F n P Q a w := by
  refine wpIn_scope_jumps (six J0 J1 J2 J3 J4 J5) μ (fun l => match l with | 0 => r0 | 1 => r1 | 2 => r2 | 3 => r3 | 4 => r4 | _ => r5) ?_ first ?_
  · intro l a w hJ
    match l with
    | 0 => exact h0
    | 1 => exact h1
    | 2 => exact h2
    | 3 => exact h3
    | 4 => exact h4
    | 5 => exact h5
    | _ + 6 => exact hJ.elim
  · intro l a w hJ
    match l with
    | 0 => exact p0 a w hJ
    | 1 => exact p1 a w hJ
    | 2 => exact p2 a w hJ
    | 3 => exact p3 a w hJ
    | 4 => exact p4 a w hJ
    | 5 => exact p5 a w hJ
    | _ + 6 => exact hJ.elim
theorem wpIn_skip_seq {q : Code} (h : q.wpIn F n P Q a w) : (Code.seq .skip q).wpIn F n P Q a w := wpIn_seq (wpIn_skip h)
/-- Six labels; what is shown of labels 1 and 5 serves where the run falls into them. -/
theorem wpIn_scope6q {c q0 q1 q2 q3 q4 q5 : Code} (J0 J1 J2 J3 J4 J5 : Act → World → Prop) (μ : Nat → Act → World → Nat)
    (h0 : findLabel c 0 = some (.seq .skip q0)) (h1 : findLabel c 1 = some (.seq .skip q1)) (h2 : findLabel c 2 = some (.seq .skip q2)) (h3 : findLabel c 3 = some (.seq .skip q3)) (h4 : findLabel c 4 = some (.seq .skip q4)) (h5 : findLabel c 5 = some (.seq .skip q5))
    (first : (∀ a w, J1 a w → q1.wpIn F n P (jumpsTo (six J0 J1 J2 J3 J4 J5) Q) a w) → c.wpIn F n P (jumpsTo (six J0 J1 J2 J3 J4 J5) Q) a w)
    (p0 : ∀ a w, J0 a w → q0.wpIn F n P (jumpsTo (fun l' a' w' => six J0 J1 J2 J3 J4 J5 l' a' w' ∧ μ l' a' w' < μ 0 a w) Q) a w)
    (p1 : ∀ a w, J1 a w → q1.wpIn F n P (jumpsTo (fun l' a' w' => six J0 J1 J2 J3 J4 J5 l' a' w' ∧ μ l' a' w' < μ 1 a w) Q) a w)
    (p2 : ∀ a w, J2 a w → q2.wpIn F n P (jumpsTo (fun l' a' w' => six J0 J1 J2 J3 J4 J5 l' a' w' ∧ μ l' a' w' < μ 2 a w) Q) a w)
    (p3 : (∀ a w, J5 a w → q5.wpIn F n P (jumpsTo (fun l' a' w' => six J0 J1 J2 J3 J4 J5 l' a' w' ∧ μ l' a' w' < μ 5 a w) Q) a w) → ∀ a w, J3 a w → q3.wpIn F n P (jumpsTo (fun l' a' w' => six J0 J1 J2 J3 J4 J5 l' a' w' ∧ μ l' a' w' < μ 3 a w) Q) a w)
    (p4 : ∀ a w, J4 a w → q4.wpIn F n P (jumpsTo (fun l' a' w' => six J0 J1 J2 J3 J4 J5 l' a' w' ∧ μ l' a' w' < μ 4 a w) Q) a w)
    (p5 : ∀ a w, J5 a w → q5.wpIn F n P (jumpsTo (fun l' a' w' => six J0 J1 J2 J3 J4 J5 l' a' w' ∧ μ l' a' w' < μ 5 a w) Q) a w) : (Code.scope c).wpIn F n P Q a w :=
  wpIn_scope6 J0 J1 J2 J3 J4 J5 μ h0 h1 h2 h3 h4 h5 (first fun a w h => wpIn_mono (p1 a w h) (jumpsTo_mono fun _ _ _ h => h.1))
    (fun a w h => wpIn_skip_seq (p0 a w h)) (fun a w h => wpIn_skip_seq (p1 a w h)) (fun a w h => wpIn_skip_seq (p2 a w h)) (fun a w h => wpIn_skip_seq (p3 p5 a w h)) (fun a w h => wpIn_skip_seq (p4 a w h)) (fun a w h => wpIn_skip_seq (p5 a w h))
end
end Go.Proofs.YtbmapellhcdipaaDoor
