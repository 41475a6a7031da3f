/-
  The program's Scan: its iterator's labels.
-/
import Derived.Test.YtbidppjhenfjdaaDoorScnC
import Derived.ScopeJumps
import Derived.ControlIn
import Derived.Test.YtbidppjhenfjdaaDoorStillIn
import Derived.Deep.Quiet
import Derived.Deep.QuietTactic
import Derived.Test.YtbidppjhenfjdaaDoorShelf2
import Derived.Test.YtbidppjhenfjdaaDoorQuoC
import Derived.Test.YtbidppjhenfjdaaDoorKeep
import Derived.Test.YtbidppjhenfjdaaDoorIter
import Derived.Test.YtbidppjhenfjdaaDoorRegFix
import Derived.Deep.CutRange
import Derived.Sort.CutIn
namespace Go.Proofs.YtbidppjhenfjdaaDoor
open Go.RowKit
set_option linter.unusedVariables false
set_option linter.unusedSimpArgs false

/-- A remark's end. -/
def rem (s : ByteArray) (i : Nat) : Nat := if i < s.size ∧ byt s i ≠ 10 ∧ byt s i ≠ 13 then rem s (i + 1) else i
termination_by s.size - i
theorem rem_on {s : ByteArray} {i : Nat} (h : i < s.size ∧ byt s i ≠ 10 ∧ byt s i ≠ 13) : rem s i = rem s (i + 1) := by rw [rem, if_pos h]
theorem rem_end {s : ByteArray} {i : Nat} (h : ¬ (i < s.size ∧ byt s i ≠ 10 ∧ byt s i ≠ 13)) : rem s i = i := by rw [rem, if_neg h]
theorem rem_spec (s : ByteArray) : ∀ (m i : Nat), s.size - i ≤ m → i ≤ s.size → i ≤ rem s i ∧ rem s i ≤ s.size := by
  intro m
  induction m with
  | zero => intro i hm hi; rw [rem_end (by omega)]; exact ⟨Nat.le_refl _, hi⟩
  | succ m ih =>
    intro i hm hi
    by_cases h : i < s.size ∧ byt s i ≠ 10 ∧ byt s i ≠ 13
    · rw [rem_on h]
      have := ih (i + 1) (by omega) (by omega)
      omega
    · rw [rem_end h]; exact ⟨Nat.le_refl _, hi⟩
theorem pw_more {s : ByteArray} {a : Nat} (h : endB s a = false) (h0 : (pw s a).2 = 0) : a < (pw s a).1 ∧ (pw s a).1 ≤ s.size := by
  have has := (endB_lt h).1
  by_cases h1 : (dec s a).1 = 34
  · rw [pw_quote h h1] at h0; simp at h0
  · by_cases h2 : wid s a = 0 ∨ (dec s a).1 < 32 ∨ (dec s a).1 = 127
    · rw [pw_bad h h1 h2] at h0; simp at h0
    · rw [pw_on h h1 h2]
      have hn := dec_n has
      have := pw_spec s s.size (a + (dec s a).2) (by omega) hn.2.2
      omega
theorem plF_more {s : ByteArray} {a l e : Nat} (h : endB s a = false) (h0 : (plF s a l).2 = some e) : a < e ∧ e ≤ s.size := by
  unfold plF at h0
  split at h0
  · cases h0
  · rename_i h1
    have hm := pw_more h (by simpa using h1)
    split at h0
    · injection h0 with h0; omega
    · split at h0
      · cases h0
      · injection h0 with h0; omega
theorem qtd_more {s x : ByteArray} {a e : Nat} (h : qtd s a = (true, x, e)) : a < e ∧ e ≤ s.size := by
  unfold qtd at h
  split at h
  · rename_i h0
    have := qd_pos s (a + 1) ByteArray.empty (by omega)
    rw [h] at this
    have h1 := this.2.2.1 rfl
    exact ⟨by simp only at h1; omega, this.2.1⟩
  · injection h with h; cases h
/-- Behind a line's end. -/
def lineB (s : ByteArray) (i : Nat) : Nat := if byt s i = 13 ∧ i + 1 < s.size ∧ byt s (i + 1) = 10 then i + 2 else i + 1
theorem lineB_more {s : ByteArray} {i : Nat} (h : i < s.size) : i < lineB s i ∧ lineB s i ≤ s.size := by unfold lineB; split <;> omega
def endF (some : Bool) (a l : Nat) : List Fn := if some = true then [⟨4, ByteArray.empty, 0, a, l, 0⟩] else []
/-- All that is found from a byte on, in a line, behind a word of that line or not. -/
def scn (s : ByteArray) (a l : Nat) (sm : Bool) : List Fn :=
  if h : a < s.size then
    if h1 : byt s a = 10 ∨ byt s a = 13 then endF sm a l ++ scn s (lineB s a) (l + 1) false
    else if byt s a = 32 ∨ byt s a = 9 then scn s (a + 1) l sm
    else if h3 : byt s a = 35 then scn s (rem s a) l sm
    else if h4 : byt s a ≠ 34 then
      match h5 : plF s a l with
      | (f, none) => [f]
      | (f, some e) => if h7 : a < e ∧ e ≤ s.size then f :: scn s e l true else [f]
    else
      match h6 : qtd s a with
      | (false, _, e) => [⟨0, ByteArray.empty, 0, e, l, 18⟩]
      | (true, x, e) => if h7 : endB s e = true ∧ a < e ∧ e ≤ s.size then ⟨2, x, 0, a, l, 0⟩ :: scn s e l true else [⟨0, ByteArray.empty, 0, e, l, 18⟩]
  else endF sm a l
termination_by s.size - a
decreasing_by
  · have := lineB_more h; omega
  · omega
  · have h2 : a < rem s a := by
      rw [rem_on ⟨h, by omega, by omega⟩]
      have := rem_spec s s.size (a + 1) (by omega) (by omega)
      omega
    have := rem_spec s s.size a (by omega) (by omega)
    omega
  · omega
  · omega
theorem scn_over {s : ByteArray} {a l : Nat} {sm : Bool} (h : ¬ a < s.size) : scn s a l sm = endF sm a l := by rw [scn, dif_neg h]
theorem scn_line {s : ByteArray} {a l : Nat} {sm : Bool} (h : a < s.size) (h1 : byt s a = 10 ∨ byt s a = 13) : scn s a l sm = endF sm a l ++ scn s (lineB s a) (l + 1) false := by rw [scn, dif_pos h, dif_pos h1]
theorem scn_blank {s : ByteArray} {a l : Nat} {sm : Bool} (h : a < s.size) (h1 : byt s a = 32 ∨ byt s a = 9) : scn s a l sm = scn s (a + 1) l sm := by
  rw [scn, dif_pos h, dif_neg (by omega), if_pos h1]
theorem scn_rem {s : ByteArray} {a l : Nat} {sm : Bool} (h : a < s.size) (h1 : byt s a = 35) : scn s a l sm = scn s (rem s a) l sm := by
  rw [scn, dif_pos h, dif_neg (by omega), if_neg (by omega), dif_pos h1]
/-- At a byte at which a word begins. -/
def WordAt (s : ByteArray) (a : Nat) : Prop := a < s.size ∧ byt s a ≠ 10 ∧ byt s a ≠ 13 ∧ byt s a ≠ 32 ∧ byt s a ≠ 9 ∧ byt s a ≠ 35
theorem WordAt.ends {s : ByteArray} {a : Nat} (h : WordAt s a) : endB s a = false := by
  apply endB_no
  obtain ⟨h0, h1, h2, h3, h4, h5⟩ := h
  omega
theorem scn_bad {s : ByteArray} {a l : Nat} {sm : Bool} {f : Fn} (h : WordAt s a) (h1 : byt s a ≠ 34) (h2 : plF s a l = (f, none)) : scn s a l sm = [f] := by
  obtain ⟨h0, a1, a2, a3, a4, a5⟩ := h
  rw [scn, dif_pos h0, dif_neg (by omega), if_neg (by omega), dif_neg a5, dif_pos h1]
  split
  · rename_i f' h5
    rw [h2] at h5
    injection h5 with h5
    rw [h5]
  · rename_i f' e' h5
    rw [h2] at h5
    injection h5 with _ h5
    cases h5
theorem scn_plain {s : ByteArray} {a l e : Nat} {sm : Bool} {f : Fn} (h : WordAt s a) (h1 : byt s a ≠ 34) (h2 : plF s a l = (f, some e)) : scn s a l sm = f :: scn s e l true := by
  have hm := plF_more h.ends (by rw [h2])
  obtain ⟨h0, a1, a2, a3, a4, a5⟩ := h
  rw [scn, dif_pos h0, dif_neg (by omega), if_neg (by omega), dif_neg a5, dif_pos h1]
  split
  · rename_i f' h5
    rw [h2] at h5
    injection h5 with _ h5
    cases h5
  · rename_i f' e' h5
    rw [h2] at h5
    injection h5 with h5 h6
    injection h6 with h6
    subst h5
    subst h6
    rw [dif_pos hm]
theorem scn_quote {s x : ByteArray} {a l e : Nat} {sm : Bool} (h : WordAt s a) (h1 : byt s a = 34) (h2 : qtd s a = (true, x, e)) (h3 : endB s e = true) : scn s a l sm = ⟨2, x, 0, a, l, 0⟩ :: scn s e l true := by
  have hm := qtd_more h2
  obtain ⟨h0, a1, a2, a3, a4, a5⟩ := h
  rw [scn, dif_pos h0, dif_neg (by omega), if_neg (by omega), dif_neg a5, dif_neg (by simp [h1])]
  split
  · rename_i y e' h5
    rw [h2] at h5
    injection h5 with h5
    cases h5
  · rename_i y e' h5
    rw [h2] at h5
    injection h5 with _ h5
    injection h5 with h5 h6
    subst h5
    subst h6
    rw [dif_pos ⟨h3, hm⟩]
theorem scn_unq {s x : ByteArray} {a l e : Nat} {sm ok : Bool} (h : WordAt s a) (h1 : byt s a = 34) (h2 : qtd s a = (ok, x, e)) (h3 : ok = false ∨ endB s e = false) : scn s a l sm = [⟨0, ByteArray.empty, 0, e, l, 18⟩] := by
  obtain ⟨h0, a1, a2, a3, a4, a5⟩ := h
  rw [scn, dif_pos h0, dif_neg (by omega), if_neg (by omega), dif_neg a5, dif_neg (by simp [h1])]
  split
  · rename_i y e' h5
    rw [h2] at h5
    injection h5 with _ h5
    injection h5 with _ h6
    subst h6
    rfl
  · rename_i y e' h5
    rw [h2] at h5
    injection h5 with h4 h5
    injection h5 with _ h6
    subst h6
    subst h4
    rcases h3 with h3 | h3
    · cases h3
    · rw [dif_neg (fun hh => by rw [h3] at hh; cases hh.1)]
end Go.Proofs.YtbidppjhenfjdaaDoor
namespace Go.Proofs.YtbidppjhenfjdaaDoor
open Go
set_option linter.unusedVariables false

/-- As Q; by a goto to label l: J l. -/
def jumpsTo (J : Nat → Act → World → Prop) (Q : Exit → Act → World → Prop) : Exit → Act → World → Prop
  | .goto l, a, w => J l a w
  | e, a, w => Q e a w
theorem jumpsTo_mono {J J' : Nat → Act → World → Prop} {Q : Exit → Act → World → Prop} (h : ∀ l a w, J l a w → J' l a w) : ∀ e a w, jumpsTo J Q e a w → jumpsTo J' Q e a w := by
  intro e a w hq
  cases e with
  | goto l => exact h _ _ _ hq
  | normal => exact hq
  | exit id => exact hq
  | ret => exact hq
  | panic ch => exact hq
  | outgrown => exact hq

section
variable {F : Fence} {n : Nat} {P : Program} {Q : Exit → Act → World → Prop} {a : Act} {w : World} {b : Frame} {k : List Item} {cs : List Frame}
theorem stepR_scope {c : Code} : step P (lone (b.atR a (.code (.scope c) :: k)) cs w) = .next (lone (b.atR a (.code c :: .inScope c :: k)) cs w) :=
  step_lone_go (by simp [stepG, stepG.exec, Frame.atR])
theorem stepR_inScope {c : Code} : step P (lone (b.atR a (.inScope c :: k)) cs w) = .next (lone (b.atR a k) cs w) :=
  step_lone_go (by simp [stepG, stepG.exec, Frame.atR])

theorem wpIn_scope_jumps {c : Code} (J : Nat → Act → World → Prop) (μ : Nat → Act → World → Nat) (rest : Nat → Code)
    (hf : ∀ l a w, J l a w → findLabel c l = some (rest l))
    (first : c.wpIn F n P (jumpsTo J Q) a w)
    (pass : ∀ l a w, J l a w → (rest l).wpIn F n P (jumpsTo (fun l' a' w' => J l' a' w' ∧ μ l' a' w' < μ l a w) Q) a w) : (Code.scope c).wpIn F n P Q a w := by
  intro b k cs hro hb hr
  have h0 : (lone (b.atR a (.code (.scope c) :: k)) cs w).fenced P F := fenced_calm hb hr rfl
  have hg : ∀ l a w, J l a w → gotoIn l (.inScope c :: k) = some (.code (rest l) :: .inScope c :: k) := fun l a w hJ => by simp [gotoIn, hf l a w hJ]
  have hx : ∀ id, exitTo id (.inScope c :: k) = exitTo id k := fun id => by simp [exitTo]
  have key : ∀ j l a w, μ l a w = j → J l a w → ∃ e a' w', Q e a' w' ∧ ArrivesIn (Machine.fenced P F) P (lone (b.atR a (.code (rest l) :: .inScope c :: k)) cs w) b k cs e a' w' := by
    intro j
    induction j using Nat.strongRecOn with
    | _ j ih =>
      intro l a w hj hJ
      obtain ⟨e, a₁, w₁, hq, harr⟩ := pass l a w hJ b (.inScope c :: k) cs hro hb hr
      cases e with
      | normal => exact ⟨.normal, a₁, w₁, hq, StepsIn.trans harr (.one (fenced_calm hb hr rfl) stepR_inScope)⟩
      | exit id => exact ⟨.exit id, a₁, w₁, hq, fun k' hk => harr.1 k' (by rw [hx]; exact hk), fun hr' hk => harr.2 hr' (by rw [hx]; exact hk)⟩
      | goto l' =>
        obtain ⟨hJ', hlt⟩ := hq
        obtain ⟨e₂, a₂, w₂, hq₂, harr₂⟩ := ih _ (by omega) l' a₁ w₁ rfl hJ'
        exact ⟨e₂, a₂, w₂, hq₂, .of_steps (harr.1 _ (hg l' a₁ w₁ hJ')) harr₂⟩
      | ret => exact ⟨_, a₁, w₁, hq, harr⟩
      | panic ch => exact ⟨_, a₁, w₁, hq, harr⟩
      | outgrown => exact ⟨_, a₁, w₁, hq, harr⟩
  obtain ⟨e, a₁, w₁, hq, harr⟩ := first b (.inScope c :: k) cs hro hb hr
  cases e with
  | normal => exact ⟨.normal, a₁, w₁, hq, .head h0 stepR_scope (StepsIn.trans harr (.one (fenced_calm hb hr rfl) stepR_inScope))⟩
  | exit id => exact ⟨.exit id, a₁, w₁, hq, fun k' hk => .head h0 stepR_scope (harr.1 k' (by rw [hx]; exact hk)), fun hr' hk => let ⟨k₁, h1, h2⟩ := harr.2 hr' (by rw [hx]; exact hk); ⟨k₁, h1, .head h0 stepR_scope h2⟩⟩
  | goto l =>
    obtain ⟨e₂, a₂, w₂, hq₂, harr₂⟩ := key _ l a₁ w₁ rfl hq
    exact ⟨e₂, a₂, w₂, hq₂, .of_steps (.head h0 stepR_scope (harr.1 _ (hg l a₁ w₁ hq))) harr₂⟩
  | ret => exact ⟨_, a₁, w₁, hq, .of_steps (.one h0 stepR_scope) harr⟩
  | panic ch => exact ⟨_, a₁, w₁, hq, .of_steps (.one h0 stepR_scope) harr⟩
  | outgrown => exact ⟨_, a₁, w₁, hq, .of_steps (.one h0 stepR_scope) harr⟩
/-- Six labels. -/
def six (J0 J1 J2 J3 J4 J5 : Act → World → Prop) : Nat → Act → World → Prop
  | 0 => J0
  | 1 => J1
  | 2 => J2
  | 3 => J3
  | 4 => J4
  | 5 => J5
  | _ => fun _ _ => False
theorem wpIn_scope6 {c r0 r1 r2 r3 r4 r5 : Code} (J0 J1 J2 J3 J4 J5 : Act → World → Prop) (μ : Nat → Act → World → Nat)
    (h0 : findLabel c 0 = some r0) (h1 : findLabel c 1 = some r1) (h2 : findLabel c 2 = some r2) (h3 : findLabel c 3 = some r3) (h4 : findLabel c 4 = some r4) (h5 : findLabel c 5 = some r5)
    (first : c.wpIn F n P (jumpsTo (six J0 J1 J2 J3 J4 J5) Q) a w)
    (p0 : ∀ a w, J0 a w → r0.wpIn F n P (jumpsTo (fun l' a' w' => six J0 J1 J2 J3 J4 J5 l' a' w' ∧ μ l' a' w' < μ 0 a w) Q) a w)
    (p1 : ∀ a w, J1 a w → r1.wpIn F n P (jumpsTo (fun l' a' w' => six J0 J1 J2 J3 J4 J5 l' a' w' ∧ μ l' a' w' < μ 1 a w) Q) a w)
    (p2 : ∀ a w, J2 a w → r2.wpIn F n P (jumpsTo (fun l' a' w' => six J0 J1 J2 J3 J4 J5 l' a' w' ∧ μ l' a' w' < μ 2 a w) Q) a w)
    (p3 : ∀ a w, J3 a w → r3.wpIn F n P (jumpsTo (fun l' a' w' => six J0 J1 J2 J3 J4 J5 l' a' w' ∧ μ l' a' w' < μ 3 a w) Q) a w)
    (p4 : ∀ a w, J4 a w → r4.wpIn F n P (jumpsTo (fun l' a' w' => six J0 J1 J2 J3 J4 J5 l' a' w' ∧ μ l' a' w' < μ 4 a w) Q) a w)
    (p5 : ∀ a w, J5 a w → r5.wpIn F n P (jumpsTo (fun l' a' w' => six J0 J1 J2 J3 J4 J5 l' a' w' ∧ μ l' a' w' < μ 5 a w) Q) a w) : (Code.scope c).wpIn F n P Q a w := by
  refine wpIn_scope_jumps (six J0 J1 J2 J3 J4 J5) μ (fun l => match l with | 0 => r0 | 1 => r1 | 2 => r2 | 3 => r3 | 4 => r4 | _ => r5) ?_ first ?_
  · intro l a w hJ
    match l with
    | 0 => exact h0
    | 1 => exact h1
    | 2 => exact h2
    | 3 => exact h3
    | 4 => exact h4
    | 5 => exact h5
    | _ + 6 => exact hJ.elim
  · intro l a w hJ
    match l with
    | 0 => exact p0 a w hJ
    | 1 => exact p1 a w hJ
    | 2 => exact p2 a w hJ
    | 3 => exact p3 a w hJ
    | 4 => exact p4 a w hJ
    | 5 => exact p5 a w hJ
    | _ + 6 => exact hJ.elim
theorem wpIn_skip_seq {q : Code} (h : q.wpIn F n P Q a w) : (Code.seq .skip q).wpIn F n P Q a w := wpIn_seq (wpIn_skip h)
/-- Six labels; what is shown of labels 1 and 5 serves where the run falls into them. -/
theorem wpIn_scope6q {c q0 q1 q2 q3 q4 q5 : Code} (J0 J1 J2 J3 J4 J5 : Act → World → Prop) (μ : Nat → Act → World → Nat)
    (h0 : findLabel c 0 = some (.seq .skip q0)) (h1 : findLabel c 1 = some (.seq .skip q1)) (h2 : findLabel c 2 = some (.seq .skip q2)) (h3 : findLabel c 3 = some (.seq .skip q3)) (h4 : findLabel c 4 = some (.seq .skip q4)) (h5 : findLabel c 5 = some (.seq .skip q5))
    (first : (∀ a w, J1 a w → q1.wpIn F n P (jumpsTo (six J0 J1 J2 J3 J4 J5) Q) a w) → c.wpIn F n P (jumpsTo (six J0 J1 J2 J3 J4 J5) Q) a w)
    (p0 : ∀ a w, J0 a w → q0.wpIn F n P (jumpsTo (fun l' a' w' => six J0 J1 J2 J3 J4 J5 l' a' w' ∧ μ l' a' w' < μ 0 a w) Q) a w)
    (p1 : ∀ a w, J1 a w → q1.wpIn F n P (jumpsTo (fun l' a' w' => six J0 J1 J2 J3 J4 J5 l' a' w' ∧ μ l' a' w' < μ 1 a w) Q) a w)
    (p2 : ∀ a w, J2 a w → q2.wpIn F n P (jumpsTo (fun l' a' w' => six J0 J1 J2 J3 J4 J5 l' a' w' ∧ μ l' a' w' < μ 2 a w) Q) a w)
    (p3 : (∀ a w, J5 a w → q5.wpIn F n P (jumpsTo (fun l' a' w' => six J0 J1 J2 J3 J4 J5 l' a' w' ∧ μ l' a' w' < μ 5 a w) Q) a w) → ∀ a w, J3 a w → q3.wpIn F n P (jumpsTo (fun l' a' w' => six J0 J1 J2 J3 J4 J5 l' a' w' ∧ μ l' a' w' < μ 3 a w) Q) a w)
    (p4 : ∀ a w, J4 a w → q4.wpIn F n P (jumpsTo (fun l' a' w' => six J0 J1 J2 J3 J4 J5 l' a' w' ∧ μ l' a' w' < μ 4 a w) Q) a w)
    (p5 : ∀ a w, J5 a w → q5.wpIn F n P (jumpsTo (fun l' a' w' => six J0 J1 J2 J3 J4 J5 l' a' w' ∧ μ l' a' w' < μ 5 a w) Q) a w) : (Code.scope c).wpIn F n P Q a w :=
  wpIn_scope6 J0 J1 J2 J3 J4 J5 μ h0 h1 h2 h3 h4 h5 (first fun a w h => wpIn_mono (p1 a w h) (jumpsTo_mono fun _ _ _ h => h.1))
    (fun a w h => wpIn_skip_seq (p0 a w h)) (fun a w h => wpIn_skip_seq (p1 a w h)) (fun a w h => wpIn_skip_seq (p2 a w h)) (fun a w h => wpIn_skip_seq (p3 p5 a w h)) (fun a w h => wpIn_skip_seq (p4 a w h)) (fun a w h => wpIn_skip_seq (p5 a w h))
end
end Go.Proofs.YtbidppjhenfjdaaDoor
namespace Go.Proofs.YtbidppjhenfjdaaDoor
open Go.RowKit
set_option linter.unusedVariables false

section
variable {P : Program} {ops : Array Oper} {md : Region.Mode} {C : World → Prop}

def wpAnyLQ (P : Program) (md : Region.Mode) (ops : Array Oper) (C : World → Prop) (n : Nat) (L : Array Bool → Act → Prop) : Nat → Array Bool → Act → Prop
  | 0, listed, a => L listed a
  | f + 1, listed, a => Region.ready md ops listed ≠ [] ∧ ∀ i ∈ Region.ready md ops listed, i < n ∧ qOp P ops C i (wpAnyLQ P md ops C n L f (listed.setIfInBounds i true)) a

theorem wpAny_of_headQ {n g : Nat} {L : Array Bool → Act → Prop} {Q' : Exit → Act → World → Prop} (hL : ∀ listed a w, C w → L listed a → wpAny P md ops Q' g listed a w) :
    ∀ (f : Nat) (listed : Array Bool) (a : Act) (w : World), C w → wpAnyLQ P md ops C n L f listed a → wpAny P md ops Q' (f + g) listed a w
  | 0, listed, a, w, hw, h => by rw [Nat.zero_add]; exact hL _ _ _ hw h
  | f + 1, listed, a, w, hw, h => by
    rw [show f + 1 + g = (f + g) + 1 by omega]
    exact ⟨fun h0 => absurd h0 h.1, fun i hi => wpOp_of_qOp hw (fun a' w' hw' h' => wpAny_of_headQ hL f _ a' w' hw' h') (h.2 i hi).2⟩

theorem wpAnyLQ_first {n i : Nat} {oi : Oper} {v : Value} {L : Array Bool → Act → Prop} (hi : ops[i]? = some oi) (hsel : ∀ (j : Nat) (o : Oper) cs b, ops[j]? = some o → o.op ≠ .select cs b)
    (hs : Region.sinkB md ops n = true) (hc : Region.chainB md ops n = true) (hn : n < ops.size) (hin : i < n)
    (hdone : ∀ listed a, L listed a → ∀ j ∈ Region.ready md ops listed, n ≤ j) :
    ∀ (f : Nat) (listed : Array Bool) (a : Act), HeadInv md ops n listed →
      (∀ j oj, ops[j]? = some oj → j ≠ i → listed.getD j true = false → (∀ e ∈ oj.after, Region.binds md e = true → e.on ≠ i) → oi.apart ops oj = true) →
      i ∈ Region.ready md ops listed → YieldsIn P ops C oi v a →
      wpAnyLQ P md ops C n L f (listed.setIfInBounds i true) (a.put oi.dst v) → wpAnyLQ P md ops C n L (f + 1) listed a := by
  intro f
  induction f with
  | zero =>
    intro listed a inv _ hr hy H
    have hun := (mem_ready.1 hr).1
    refine ⟨fun h => (by rw [h] at hr; cases hr), fun j hj => ?_⟩
    have hjn : j < n := by
      rcases Nat.lt_or_ge j n with h | h
      · exact h
      · exact absurd hj (tail_waits hs hc hn inv _ i rfl hin hun j h)
    refine ⟨hjn, ?_⟩
    by_cases hji : j = i
    · subst hji; exact hy.qOp hi H
    · have := hdone _ _ H j (ready_mono hj hji)
      omega
  | succ f ih =>
    intro listed a inv hfree hr hy H
    have hun := (mem_ready.1 hr).1
    refine ⟨fun h => (by rw [h] at hr; cases hr), fun j hj => ?_⟩
    have hjn : j < n := by
      rcases Nat.lt_or_ge j n with h | h
      · exact h
      · exact absurd hj (tail_waits hs hc hn inv _ i rfl hin hun j h)
    refine ⟨hjn, ?_⟩
    by_cases hji : j = i
    · subst hji; exact hy.qOp hi H
    · have h1 := (H.2 j (ready_mono hj hji)).2
      obtain ⟨hjun, oj, hoj, hall⟩ := mem_ready.1 hj
      have hnot : ∀ e ∈ oj.after, Region.binds md e = true → e.on ≠ i := fun e he hb heq => by
        have h1 := hall e he hb
        rw [heq, getD_both hun] at h1
        cases h1
      have h2 := qOp_put hoj (hfree j oj hoj hji hjun hnot) (fun cs b => hsel i oi cs b hi) (fun cs b => hsel j oj cs b hoj) hy h1
      have hfree' : ∀ k ok, ops[k]? = some ok → k ≠ i → (listed.setIfInBounds j true).getD k true = false →
          (∀ e ∈ ok.after, Region.binds md e = true → e.on ≠ i) → oi.apart ops ok = true := fun k ok hk hki hun hno => by
        refine hfree k ok hk hki ?_ hno
        by_cases hjk : j = k
        · subst hjk; exact hjun
        · rw [getD_set_ne true hjk] at hun; exact hun
      refine qOp_mono (fun a' h3 => ih (listed.setIfInBounds j true) a' (inv.set hj hjn) hfree' (ready_mono hr (Ne.symm hji)) h3.1 ?_) h2
      rw [Array.setIfInBounds_comm _ _ hji]
      exact h3.2

theorem wpAnyLQ_lex {n g : Nat} {Lq : Act → Prop} (hsel : Region.noSelect ops = true) (hs : Region.sinkB md ops n = true) (hc : Region.chainB md ops n = true) (hn : n < ops.size) :
    ∀ (l : List Oper) (k : Nat) (listed : Array Bool) (a : Act), (∀ j, j < l.length → l[j]? = ops[k + j]?) → k + l.length = n → HeadInv md ops n listed →
    Region.lexHead md ops g l.length k listed = true → wpQuiet P ops C Lq l a →
    wpAnyLQ P md ops C n (fun listed' a' => Region.seqB md ops g n listed' = true ∧ Lq a') l.length listed a
  | [], k, listed, a, _, hk, _, hB, h => by
    have : k = n := by simpa using hk
    subst this
    exact ⟨by simpa [Region.lexHead] using hB, h⟩
  | o :: l, k, listed, a, hl, hk, inv, hB, h => by
    have h0 : ops[k]? = some o := by simpa using (hl 0 (by simp)).symm
    simp only [List.length_cons, Region.lexHead, Bool.and_eq_true] at hB
    obtain ⟨⟨hr, hf⟩, hB'⟩ := hB
    have hkn : k < n := by simp only [List.length_cons] at hk; omega
    have hr' : k ∈ Region.ready md ops listed := by simpa using hr
    have hst : qOp P ops C k (wpQuiet P ops C Lq l) a := by unfold qOp; simp only [h0]; exact h
    obtain ⟨v, hy, hK⟩ := yieldsIn_of_qOp h0 hst
    exact wpAnyLQ_first h0 (Region.noSelect_spec hsel) hs hc hn hkn (fun listed' a' hL => seqB_ready hL.1) l.length listed a inv (Region.free_spec h0 hf) hr' hy
      (wpAnyLQ_lex hsel hs hc hn l (k + 1) _ _ (fun j hj => by have := hl (j + 1) (by simp; omega); simpa [Nat.add_assoc, Nat.add_comm 1 j] using this) (by simp only [List.length_cons] at hk; omega) (inv.set hr' hkn) hB' hK)

/-- A REGION THAT DRAWS: n operations that keep a class of worlds (its worlds: f i), in whatever order, then a forced tail. -/
theorem wp_quiet_tail {id : Nat} {Q : Exit → Act → World → Prop} {a : Act} {w : World} {l : List Oper} (n : Nat) {I : Type} (f : I → World) (hw : ∃ i, w.drew = f i) (hm : P.follows .mixedOrders = true) (hB : Region.lexTailB .any l.toArray n = true)
    (h : wpQuiet P l.toArray (fun w' => ∃ i, w' = f i) (fun a' => ∀ i, wpList P l.toArray Q (l.drop n) a' (f i)) (l.take n) a) : (Code.region id l.toArray true).wp P Q a w := by
  simp only [Region.lexTailB, Bool.and_eq_true, decide_eq_true_eq] at hB
  obtain ⟨⟨⟨⟨hsel, hn⟩, hs⟩, hc⟩, hlex⟩ := hB
  have hn' : n < l.length := by simpa using hn
  have htl : (l.take n).length = n := by simp; omega
  have hdl : (l.drop n).length = l.toArray.size - n := by simp
  have inv0 : HeadInv .any l.toArray n (Array.replicate l.toArray.size false) :=
    ⟨by simp, fun j oj _ hl => (by rw [getD_replicate_false] at hl; cases hl), fun t _ ht => getD_in (by simpa using ht) (getD_replicate_false _ _)⟩
  have H := wpAnyLQ_lex (md := .any) (g := l.toArray.size - n) hsel hs hc hn (l.take n) 0 _ a (fun j hj => by
    have hj' : j < n := by rw [htl] at hj; exact hj
    simp [hj']) (by simpa using htl) inv0 (by rw [htl]; exact hlex) h
  refine wp_region_any hm ?_
  have := wpAny_of_headQ (Q' := Q) (g := l.toArray.size - n) (fun listed a' w' hw' hL => by
    obtain ⟨i, rfl⟩ := hw'
    have := wpAny_of_seq (md := .any) (Q' := Q) (l.drop n) n listed a' (f i) (fun j => by simp [List.getElem?_drop]) (by rw [hdl]; exact hL.1) (hL.2 i)
    rwa [hdl] at this) _ _ _ _ hw H
  rw [htl, show n + (l.toArray.size - n) = l.toArray.size by omega] at this
  exact this

def sinkS (md : Region.Mode) (ops : Array Oper) (s n : Nat) : Bool :=
  (List.range n).all fun i => decide (i < s) || (List.range (n + 1)).any fun j => decide (i < j) && Region.waitsFor md ops j i
theorem tail_waitsS {s n : Nat} {listed : Array Bool} (hs : sinkS md ops s n = true) (hc : Region.chainB md ops n = true) (hn : n < ops.size) (inv : HeadInv md ops n listed) :
    ∀ (d i : Nat), n - i = d → s ≤ i → i < n → listed.getD i true = false → ∀ t, n ≤ t → t ∉ Region.ready md ops listed := by
  intro d
  induction d using Nat.strongRecOn with
  | _ d ih =>
    intro i hd hsi hi hun t ht hr
    obtain ⟨_, ot, hot, hall⟩ := mem_ready.1 hr
    have htlt : t < ops.size := (Array.getElem?_eq_some_iff.1 hot).1
    by_cases htn : t = n
    · subst htn
      have h1 := List.all_eq_true.1 hs i (List.mem_range.2 hi)
      simp only [Bool.or_eq_true, decide_eq_true_eq] at h1
      rcases h1 with h1 | h1
      · omega
      obtain ⟨j, hj, hj2⟩ := List.any_eq_true.1 h1
      simp only [Bool.and_eq_true, decide_eq_true_eq] at hj2
      obtain ⟨oj, hoj, e, he, hb, hon⟩ := Region.waitsFor_spec hj2.2
      have hjle : j ≤ t := by have := List.mem_range.1 hj; omega
      by_cases hjt : j = t
      · subst hjt
        have : oj = ot := Option.some.inj (hoj.symm.trans hot)
        subst this
        have h2 := hall e he hb
        rw [hon, getD_both hun] at h2
        cases h2
      · cases hl : listed.getD j false with
        | true =>
          have h2 := inv.closed j oj hoj hl e he hb
          rw [hon, getD_both hun] at h2
          cases h2
        | false =>
          have hjs : j < listed.size := by rw [inv.size]; omega
          exact ih (t - j) (by omega) j rfl (by omega) (by omega) (getD_in hjs hl) t (Nat.le_refl _) hr
    · have h1 := List.all_eq_true.1 hc t (List.mem_range.2 htlt)
      simp only [Bool.or_eq_true, decide_eq_true_eq] at h1
      rcases h1 with h1 | h1
      · omega
      · obtain ⟨o', ho', e, he, hb, hon⟩ := Region.waitsFor_spec h1
        have : o' = ot := Option.some.inj (ho'.symm.trans hot)
        subst this
        have h2 := hall e he hb
        rw [hon, getD_both (inv.tail (t - 1) (by omega) (by omega))] at h2
        cases h2

theorem wpAnyLQ_firstS {s n i : Nat} {oi : Oper} {v : Value} {L : Array Bool → Act → Prop} (hi : ops[i]? = some oi) (hsel : ∀ (j : Nat) (o : Oper) cs b, ops[j]? = some o → o.op ≠ .select cs b)
    (hs : sinkS md ops s n = true) (hc : Region.chainB md ops n = true) (hn : n < ops.size) (hsi : s ≤ i) (hin : i < n)
    (hdone : ∀ listed a, L listed a → ∀ j ∈ Region.ready md ops listed, n ≤ j) :
    ∀ (f : Nat) (listed : Array Bool) (a : Act), HeadInv md ops n listed →
      (∀ j oj, ops[j]? = some oj → j ≠ i → listed.getD j true = false → (∀ e ∈ oj.after, Region.binds md e = true → e.on ≠ i) → oi.apart ops oj = true) →
      i ∈ Region.ready md ops listed → YieldsIn P ops C oi v a →
      wpAnyLQ P md ops C n L f (listed.setIfInBounds i true) (a.put oi.dst v) → wpAnyLQ P md ops C n L (f + 1) listed a := by
  intro f
  induction f with
  | zero =>
    intro listed a inv _ hr hy H
    have hun := (mem_ready.1 hr).1
    refine ⟨fun h => (by rw [h] at hr; cases hr), fun j hj => ?_⟩
    have hjn : j < n := by
      rcases Nat.lt_or_ge j n with h | h
      · exact h
      · exact absurd hj (tail_waitsS hs hc hn inv _ i rfl hsi hin hun j h)
    refine ⟨hjn, ?_⟩
    by_cases hji : j = i
    · subst hji; exact hy.qOp hi H
    · have := hdone _ _ H j (ready_mono hj hji)
      omega
  | succ f ih =>
    intro listed a inv hfree hr hy H
    have hun := (mem_ready.1 hr).1
    refine ⟨fun h => (by rw [h] at hr; cases hr), fun j hj => ?_⟩
    have hjn : j < n := by
      rcases Nat.lt_or_ge j n with h | h
      · exact h
      · exact absurd hj (tail_waitsS hs hc hn inv _ i rfl hsi hin hun j h)
    refine ⟨hjn, ?_⟩
    by_cases hji : j = i
    · subst hji; exact hy.qOp hi H
    · have h1 := (H.2 j (ready_mono hj hji)).2
      obtain ⟨hjun, oj, hoj, hall⟩ := mem_ready.1 hj
      have hnot : ∀ e ∈ oj.after, Region.binds md e = true → e.on ≠ i := fun e he hb heq => by
        have h1 := hall e he hb
        rw [heq, getD_both hun] at h1
        cases h1
      have h2 := qOp_put hoj (hfree j oj hoj hji hjun hnot) (fun cs b => hsel i oi cs b hi) (fun cs b => hsel j oj cs b hoj) hy h1
      have hfree' : ∀ k ok, ops[k]? = some ok → k ≠ i → (listed.setIfInBounds j true).getD k true = false →
          (∀ e ∈ ok.after, Region.binds md e = true → e.on ≠ i) → oi.apart ops ok = true := fun k ok hk hki hun hno => by
        refine hfree k ok hk hki ?_ hno
        by_cases hjk : j = k
        · subst hjk; exact hjun
        · rw [getD_set_ne true hjk] at hun; exact hun
      refine qOp_mono (fun a' h3 => ih (listed.setIfInBounds j true) a' (inv.set hj hjn) hfree' (ready_mono hr (Ne.symm hji)) h3.1 ?_) h2
      rw [Array.setIfInBounds_comm _ _ hji]
      exact h3.2

theorem wpAnyLQ_lexS {s n g : Nat} {Lq : Act → Prop} (hsel : Region.noSelect ops = true) (hs : sinkS md ops s n = true) (hc : Region.chainB md ops n = true) (hn : n < ops.size) :
    ∀ (l : List Oper) (k : Nat) (listed : Array Bool) (a : Act), (∀ j, j < l.length → l[j]? = ops[k + j]?) → s ≤ k → k + l.length = n → HeadInv md ops n listed →
    Region.lexHead md ops g l.length k listed = true → wpQuiet P ops C Lq l a →
    wpAnyLQ P md ops C n (fun listed' a' => Region.seqB md ops g n listed' = true ∧ Lq a') l.length listed a
  | [], k, listed, a, _, hsk, hk, _, hB, h => by
    have : k = n := by simpa using hk
    subst this
    exact ⟨by simpa [Region.lexHead] using hB, h⟩
  | o :: l, k, listed, a, hl, hsk, hk, inv, hB, h => by
    have h0 : ops[k]? = some o := by simpa using (hl 0 (by simp)).symm
    simp only [List.length_cons, Region.lexHead, Bool.and_eq_true] at hB
    obtain ⟨⟨hr, hf⟩, hB'⟩ := hB
    have hkn : k < n := by simp only [List.length_cons] at hk; omega
    have hr' : k ∈ Region.ready md ops listed := by simpa using hr
    have hst : qOp P ops C k (wpQuiet P ops C Lq l) a := by unfold qOp; simp only [h0]; exact h
    obtain ⟨v, hy, hK⟩ := yieldsIn_of_qOp h0 hst
    exact wpAnyLQ_firstS h0 (Region.noSelect_spec hsel) hs hc hn hsk hkn (fun listed' a' hL => seqB_ready hL.1) l.length listed a inv (Region.free_spec h0 hf) hr' hy
      (wpAnyLQ_lexS hsel hs hc hn l (k + 1) _ _ (fun j hj => by have := hl (j + 1) (by simp; omega); simpa [Nat.add_assoc, Nat.add_comm 1 j] using this) (by omega) (by simp only [List.length_cons] at hk; omega) (inv.set hr' hkn) hB' hK)

def lexTailS (md : Region.Mode) (ops : Array Oper) (n : Nat) : Bool :=
  Region.noSelect ops && decide (n < ops.size) && sinkS md ops 1 n && Region.chainB md ops n && Region.free md ops (Array.replicate ops.size false) 0 && (Region.ready md ops (Array.replicate ops.size false)).contains 0 &&
    Region.lexHead md ops (ops.size - n) (n - 1) 1 ((Array.replicate ops.size false).setIfInBounds 0 true)

/-- The same, where the first operation only moves a value that the tail wants. -/
theorem wp_quiet_tail1 {id : Nat} {Q : Exit → Act → World → Prop} {a : Act} {w : World} {o : Oper} {l : List Oper} (n : Nat) {I : Type} (f : I → World) (hw : ∃ i, w.drew = f i) (hm : P.follows .mixedOrders = true) (hB : lexTailS .any (o :: l).toArray (n + 1) = true)
    (ha : o.after = #[]) (v : Value) (hQ : ∀ c a w, Q (.panic c) (a.put o.dst v) w → Q (.panic c) a w) (hy : Yields P (o :: l).toArray o v a)
    (h : wpQuiet P (o :: l).toArray (fun w' => ∃ i, w' = f i) (fun a' => ∀ i, wpList P (o :: l).toArray Q (l.drop n) a' (f i)) (l.take n) (a.put o.dst v)) : (Code.region id (o :: l).toArray true).wp P Q a w := by
  simp only [lexTailS, Bool.and_eq_true, decide_eq_true_eq] at hB
  obtain ⟨⟨⟨⟨⟨⟨hsel, hn⟩, hs⟩, hc⟩, hf⟩, hr⟩, hlex⟩ := hB
  have hn' : n < l.length := by simpa using hn
  have htl : (l.take n).length = n := by simp; omega
  have hsz : (o :: l).toArray.size = l.length + 1 := by simp
  have hdl : (l.drop n).length = (o :: l).toArray.size - (n + 1) := by simp
  have inv0 : HeadInv .any (o :: l).toArray (n + 1) ((Array.replicate (o :: l).toArray.size false).setIfInBounds 0 true) := by
    refine ⟨by simp, fun j oj hj hl e he hb => ?_, fun t ht ht' => ?_⟩
    · by_cases h0 : 0 = j
      · subst h0
        have : oj = o := by simpa using hj.symm
        subst this
        rw [ha] at he
        simp at he
      · rw [getD_set_ne false h0, getD_replicate_false] at hl
        cases hl
    · rw [getD_set_ne true (by omega)]
      exact getD_in (by simpa using ht') (getD_replicate_false _ _)
  have H := wpAnyLQ_lexS (s := 1) (md := .any) (g := (o :: l).toArray.size - (n + 1)) hsel hs hc hn (l.take n) 1 _ (a.put o.dst v) (fun j hj => by
    have hj' : j < n := by rw [htl] at hj; exact hj
    simp [hj', Nat.add_comm 1 j]) (Nat.le_refl _) (by rw [htl]; omega) inv0 (by rw [htl]; exact hlex) h
  refine wp_region_any hm ?_
  rw [show (o :: l).toArray.size = l.length + 1 from hsz]
  refine wpAny_take (i := 0) (oi := o) (v := v) (by simp) hsel (by rw [← hsz]; exact hf) (by rw [← hsz]; exact hr) hQ hy ?_
  have := wpAny_of_headQ (Q' := Q) (g := (o :: l).toArray.size - (n + 1)) (fun listed a' w' hw' hL => by
    obtain ⟨i, rfl⟩ := hw'
    have := wpAny_of_seq (md := .any) (Q' := Q) (l.drop n) (n + 1) listed a' (f i) (fun j => by simp [List.getElem?_drop, show n + 1 + j = n + j + 1 by omega]) (by rw [hdl]; exact hL.1) (hL.2 i)
    rwa [hdl] at this) _ _ _ _ hw H
  rw [htl, show n + ((o :: l).toArray.size - (n + 1)) = l.length by rw [hsz]; omega, hsz] at this
  exact this

/-- The worlds that keep what was in w, under a letter. -/
theorem kept_class (w : World) : ∃ (I : Type) (f : I → World), (∀ i, Keep [] w (f i)) ∧ ∀ W, Keep [] w W → ∃ i, W = f i :=
  ⟨{ W : World // Keep [] w W }, Subtype.val, fun i => i.2, fun W h => ⟨⟨W, h⟩, rfl⟩⟩
end
end Go.Proofs.YtbidppjhenfjdaaDoor
namespace Go.Proofs.YtbidppjhenfjdaaDoor
open Go.RowKit Go.Shelf
set_option linter.unusedVariables false

theorem gP : Tryd.prog.globalNamed "internal/strconv.uint64pow10" = some 2 := by kernel_rfl
theorem gS : Tryd.prog.globalNamed "strconv.ErrSyntax" = some 0 := by kernel_rfl
theorem gR : Tryd.prog.globalNamed "strconv.ErrRange" = some 1 := by kernel_rfl
theorem var_keep {P : Program} {n : String} {g : Nat} (hg : P.globalNamed n = some g) {w w' : World} {cs : Array Value} {L : List Nat} (h : w.var? P n = some cs) (k : Keep L w w') (hL : g ∉ L) : w'.var? P n = some cs := by
  unfold World.var? at h ⊢
  rw [hg, Option.bind_some] at h ⊢
  cases ho : w.heap[g]? with
  | none => rw [ho] at h; cases h
  | some o =>
    rw [ho] at h
    rw [k.at_ ho hL]
    exact h
theorem var_lt {P : Program} {n : String} {g : Nat} (hg : P.globalNamed n = some g) {w : World} {cs : Array Value} (h : w.var? P n = some cs) : g < w.heap.size := by
  unfold World.var? at h
  rw [hg, Option.bind_some] at h
  cases ho : w.heap[g]? with
  | none => rw [ho] at h; cases h
  | some o => exact (Array.getElem?_eq_some_iff.1 ho).1
/-- The listed variables. -/
def TQ (w : World) : Prop := TZ w ∧ Lib.TabIs Tryd.prog w "internal/strconv.uint64pow10" .u64 Lib.pow10Tab ∧ (∃ t p, w.var? Tryd.prog "strconv.ErrSyntax" = some #[.iface t p]) ∧ (∃ t p, w.var? Tryd.prog "strconv.ErrRange" = some #[.iface t p])
/-- Their blocks. -/
def tqB : List Nat := [5, 2, 0, 1]
theorem TQ.keep {w w' : World} {L : List Nat} (h : TQ w) (k : Keep L w w') (hL : ∀ b ∈ tqB, b ∉ L) : TQ w' := by
  obtain ⟨h1, h2, ⟨t, p, h3⟩, ⟨t', p', h4⟩⟩ := h
  exact ⟨h1.keep k (hL _ (by simp [tqB])), var_keep gP h2 k (hL _ (by simp [tqB])), ⟨t, p, var_keep gS h3 k (hL _ (by simp [tqB]))⟩, ⟨t', p', var_keep gR h4 k (hL _ (by simp [tqB]))⟩⟩
theorem TQ.keep0 {w w' : World} (h : TQ w) (k : Keep [] w w') : TQ w' := h.keep k (fun _ _ => by simp)
theorem TQ.lt {w : World} (h : TQ w) : ∀ b ∈ tqB, b < w.heap.size := by
  obtain ⟨h1, h2, ⟨t, p, h3⟩, ⟨t', p', h4⟩⟩ := h
  intro b hb
  simp only [tqB, List.mem_cons, List.not_mem_nil, or_false] at hb
  rcases hb with rfl | rfl | rfl | rfl
  · exact World.block_lt_of_cell? _ _ h1
  · exact var_lt gP h2
  · exact var_lt gS h3
  · exact var_lt gR h4
theorem keep_new {w w' : World} (h : Below w.heap.size w w') : Keep [] w w' := Keep.of_below h (Nat.le_refl _)

/-- What Atoi says. -/
theorem atoi_any (x : ByteArray) (w : World) (hz : x.size ≤ 100000000) (hT : TQ w) : Calls Tryd.prog 34 #[.string x] w fun e w' =>
    Keep [] w w' ∧ ((∃ v, Lib.atoiAll x.data.toList = .ok v ∧ e = .returned (.tuple #[.int .i64 v, .nilIface])) ∨ ((∀ v, Lib.atoiAll x.data.toList ≠ .ok v) ∧ ∃ z t q, e = .returned (.tuple #[.int .i64 z, .iface t q]))) := by
  obtain ⟨h1, h2, ⟨t, p, h3⟩, ⟨t', p', h4⟩⟩ := hT
  cases ha : Lib.atoiAll x.data.toList with
  | ok v =>
    refine (Tryd.strconv_Atoi_ok x (by omega) v ha w).mono ?_
    rintro e w' ⟨rfl, rfl | ⟨y, rfl⟩⟩
    · exact ⟨Keep.refl _ _, .inl ⟨v, rfl, rfl⟩⟩
    · exact ⟨keep_new ⟨rfl, rfl, rfl, by rw [Lib.bytesWorld_size]; omega, fun k hk => Lib.bytesWorld_at_old w _ _ k (by omega)⟩, .inl ⟨v, rfl, rfl⟩⟩
  | range =>
    refine (Tryd.strconv_Atoi_range_var x (by omega) ha t' p' w h4).mono ?_
    rintro e w' ⟨N, rfl, _, _, hb⟩
    exact ⟨keep_new hb, .inr ⟨fun v hv => (by cases hv), _, _, _, rfl⟩⟩
  | _ =>
    refine (Tryd.strconv_Atoi_syntax_var x (by omega) ha t p w h3).mono ?_
    rintro e w' ⟨N, rfl, _, _, hb⟩
    exact ⟨keep_new hb, .inr ⟨fun v hv => (by cases hv), _, _, _, rfl⟩⟩
theorem atoi_range {l : List UInt8} {v : Int} (h1 : Lib.atoiAll l = .ok v) : -9223372036854775808 ≤ v ∧ v < 9223372036854775808 := by
  unfold Lib.atoiAll at h1
  cases l with
  | nil => cases h1
  | cons c r =>
    simp only at h1
    split at h1
    · cases h1
    · cases h1
    · split at h1
      · cases h1
      · split at h1
        · cases h1
        · injection h1 with h1
          split at h1 <;> omega
/-- What Itoa says. -/
theorem itoa_any (v : Int) (w : World) (h : -9223372036854775808 ≤ v ∧ v < 9223372036854775808) (hT : TQ w) : Calls Tryd.prog 23 #[.int .i64 v] w fun e w' => e = .returned (.string ⟨(Lib.itoa v).toArray⟩) ∧ Keep [] w w' := by
  refine (Tryd.strconv_Itoa v h.1 (by omega) w hT.2.1).mono ?_
  rintro e w' ⟨rfl, k, os, rfl⟩
  refine ⟨rfl, ?_⟩
  have h1 : Keep [] w (w.drewN k) := (Keep.refl [] w).drewN k
  have h2 : Keep [] (w.drewN k) (Sort.grow (w.drewN k) os) := ⟨rfl, rfl, rfl, by simp [Sort.grow], fun b hb _ => by simp only [Sort.grow]; rw [Array.getElem?_append_left hb]⟩
  exact h1.trans0 h2
end Go.Proofs.YtbidppjhenfjdaaDoor
namespace Go.Proofs.YtbidppjhenfjdaaDoor
open Go.RowKit Go.Shelf
set_option linter.unusedVariables false
set_option linter.unusedSimpArgs false
attribute [local go_sem] Oper.semAt_some

theorem scan_any (s : ByteArray) (w : World) : Calls Tryd.prog 18 #[.string s] w fun e w' =>
    e = .returned (.func (.func 31) #[] #[.pointer (some ⟨w.heap.size, 0, none⟩)]) ∧ w' = w.alloc (.cells #[.string s] 9) := by
  go_enter Tryd.func18, Tryd.ntmps18
  go_wp2
  go_ret
  exact ⟨rfl, rfl⟩
/-- The text in its box. -/
def BoxNeed (b : Nat) (s : ByteArray) (W : World) : Prop := W.heap[b]? = some (.cells #[.string s] 9 (0, 0))
/-- What yield is handed. -/
def fnArgs (f : Fn) : Array Value := #[.agg #[.int .i64 (f.k : Nat), .string f.t, .int .i64 f.n, .int .i64 (f.a : Nat), .int .i64 (f.l : Nat)], .int .i64 (f.e : Nat)]
/-- The frame at a label. -/
def frm (y p : Value) (a l : Nat) (sm : Bool) (e c : Value) (g : Nat) (U : Nat → Value) : Act := ⟨#[y, p, U 2, .int .i64 (a : Nat), .int .i64 (l : Nat), .bool sm, e, c, U 8, U 9, .pointer (some ⟨g, 0, none⟩), U 11, U 12, U 13, U 14, U 15, U 16, U 17, U 18, U 19, U 20, U 21, U 22, U 23, U 24, U 25, U 26, U 27, U 28, U 29, U 30, U 31, U 32, U 33, U 34, U 35, U 36, U 37, U 38, U 39, U 40, U 41, U 42, U 43, U 44, U 45, U 46, U 47, U 48, U 49, U 50, U 51, U 52, U 53, U 54, U 55, U 56, U 57, U 58, U 59, U 60, U 61, U 62, U 63, U 64, U 65, U 66, U 67, U 68, U 69, U 70, U 71, U 72, U 73, U 74, U 75, U 76, U 77, U 78, U 79, U 80, U 81, U 82, U 83, U 84, U 85, U 86, U 87, U 88, U 89, U 90, U 91, U 92, U 93, U 94, U 95, U 96, U 97, U 98, U 99, U 100, U 101, U 102, U 103, U 104, U 105, U 106, U 107, U 108, U 109, U 110, U 111, U 112, U 113, U 114, U 115, U 116, U 117, U 118, U 119, U 120, U 121, U 122, U 123, U 124, U 125, U 126, U 127, U 128, U 129, U 130, U 131, U 132, U 133, U 134, U 135, U 136, U 137, U 138, U 139, U 140, U 141, U 142, U 143, U 144, U 145, U 146, U 147, U 148, U 149, U 150, U 151, U 152, U 153, U 154, U 155, U 156, U 157], []⟩
def FrA (A : Act) (y : Value) (b a l : Nat) (sm : Bool) (e c : Value) (g : Nat) : Prop := ∃ U, A = frm y (.pointer (some ⟨b, 0, none⟩)) a l sm e c g U
theorem FrA.mk {A : Act} {y : Value} {b a l : Nat} {sm : Bool} {e c : Value} {g : Nat} (h : A = frm y (.pointer (some ⟨b, 0, none⟩)) a l sm e c g (fun i => A.tmps.getD i undef)) : FrA A y b a l sm e c g := ⟨_, h⟩

theorem yield_at {P : Program} {y : Value} {J Jx : Nat → List Nat → World → Prop} {Z L R : List Fn} {f : Fn} (hZ : Z = L ++ f :: R)
    (hY : ∀ k (hk : k < (Z.map fnArgs).length) fp W1, J k fp W1 → CallV P y (Z.map fnArgs)[k] W1 (RoundPost J Jx k fp W1)) : L.length < (Z.map fnArgs).length ∧ ∀ fp W1, J L.length fp W1 → CallV P y (fnArgs f) W1 (RoundPost J Jx L.length fp W1) := by
  subst hZ
  have hk : L.length < ((L ++ f :: R).map fnArgs).length := by simp
  refine ⟨hk, fun fp W1 h => ?_⟩
  have := hY L.length hk fp W1 h
  simpa using this
/-- What holds at every label: what has been handed on, what is to come, the word's variable. -/
def SSt (b g : Nat) (s : ByteArray) (J : Nat → List Nat → World → Prop) (L R : List Fn) (cs : Array Value) (w : World) : Prop :=
  scn s 0 1 false = L ++ R ∧ BoxNeed b s w ∧ TQ w ∧ w.heap[g]? = some (.cells cs 74 (0, 0)) ∧ ∃ fp, J L.length fp w ∧ ∀ x ∈ g :: b :: tqB, x ∉ fp
theorem SSt.rest {b g : Nat} {s : ByteArray} {J : Nat → List Nat → World → Prop} {L R R' : List Fn} {cs : Array Value} {w : World} (h : SSt b g s J L R cs w) (e : R = R') : SSt b g s J L R' cs w := e ▸ h
/-- Behind writes to the word's variable, and new memory. -/
theorem SSt.wrote {b g : Nat} {s : ByteArray} {J : Nat → List Nat → World → Prop} {L R : List Fn} {cs cs' : Array Value} {w w' W : World} (h : SSt b g s J L R cs w) (hJ : ∀ k, Steady [] W (J k)) (hg : W.heap.size = g) (hlt : ∀ x ∈ b :: tqB, x < g)
    (hk : Keep [g] w w') (hc : w'.heap[g]? = some (.cells cs' 74 (0, 0))) : SSt b g s J L R cs' w' := by
  obtain ⟨h1, h2, h3, h4, fp, h5, h6⟩ := h
  have hn : ∀ x ∈ b :: tqB, x ∉ [g] := fun x hx => by have := hlt x hx; simp; omega
  exact ⟨h1, hk.at_ h2 (hn _ (by simp)), h3.keep hk (fun x hx => hn x (List.mem_cons_of_mem _ hx)), hc, fp, hJ _ fp w w' [g] h5 hk (fun x hx => by simp at hx; subst hx; exact ⟨h6 _ (by simp), .inr (by omega)⟩), h6⟩
theorem SSt.keep0 {b g : Nat} {s : ByteArray} {J : Nat → List Nat → World → Prop} {L R : List Fn} {cs : Array Value} {w w' W : World} (h : SSt b g s J L R cs w) (hJ : ∀ k, Steady [] W (J k)) (hg : W.heap.size = g) (hlt : ∀ x ∈ b :: tqB, x < g)
    (hk : Keep [] w w') : SSt b g s J L R cs w' := h.wrote hJ hg hlt (hk.mono (by simp)) (hk.at_ h.2.2.2.1 (by simp))
/-- Behind a yield that says go on. -/
theorem SSt.next {b g : Nat} {s : ByteArray} {J : Nat → List Nat → World → Prop} {L R : List Fn} {f : Fn} {cs : Array Value} {w w' : World} {fp fp' : List Nat} (h : scn s 0 1 false = L ++ f :: R) (hb : BoxNeed b s w) (hT : TQ w) (hg : w.heap[g]? = some (.cells cs 74 (0, 0)))
    (h6 : ∀ x ∈ g :: b :: tqB, x ∉ fp) (hj : J (L.length + 1) fp' w') (hk : Keep fp w w') (hn : FromNew fp fp' w) : SSt b g s J (L ++ [f]) R cs w' := by
  have hlt : ∀ x ∈ g :: b :: tqB, x < w.heap.size := by
    intro x hx
    rcases List.mem_cons.1 hx with rfl | hx
    · exact lt_of_block hg
    · rcases List.mem_cons.1 hx with rfl | hx
      · exact lt_of_block hb
      · exact hT.lt x hx
  refine ⟨by rw [h, List.append_assoc]; rfl, hk.at_ hb (h6 _ (by simp)), hT.keep hk (fun x hx => h6 x (by simp [hx])), hk.at_ hg (h6 _ (by simp)), fp', by rw [List.length_append, List.length_singleton]; exact hj, fun x hx hm => ?_⟩
  rcases hn _ hm with h | h
  · exact h6 x hx h
  · have := hlt x hx; omega
/-- Its end. -/
theorem SSt.over {b g : Nat} {s : ByteArray} {J : Nat → List Nat → World → Prop} {L R : List Fn} {cs : Array Value} {w : World} (h : SSt b g s J L R cs w) (hR : R = []) : (∃ fp', J ((scn s 0 1 false).map fnArgs).length fp' w) := by
  subst hR
  obtain ⟨h1, _, _, _, fp, h5, _⟩ := h
  rw [List.append_nil] at h1
  rw [h1, List.length_map]
  exact ⟨fp, h5⟩
/-- At each label. -/
def J1 (b g : Nat) (s : ByteArray) (y : Value) (J : Nat → List Nat → World → Prop) (A : Act) (w : World) : Prop :=
  ∃ (a l : Nat) (sm : Bool) (e c : Value) (L : List Fn) (cs : Array Value), FrA A y b a l sm e c g ∧ a ≤ s.size ∧ l ≤ a + 1 ∧ cs.size = 5 ∧ SSt b g s J L (scn s a l sm) cs w
def J0 (b g : Nat) (s : ByteArray) (y : Value) (J : Nat → List Nat → World → Prop) (A : Act) (w : World) : Prop :=
  ∃ (a l : Nat) (sm : Bool) (e c : Value) (L : List Fn) (cs : Array Value), FrA A y b a l sm e c g ∧ a ≤ s.size ∧ l ≤ a + 1 ∧ (a < s.size → byt s a = 10 ∨ byt s a = 13) ∧ cs.size = 5 ∧ SSt b g s J L (scn s a l sm) cs w
def J2 (b g : Nat) (s : ByteArray) (y : Value) (J : Nat → List Nat → World → Prop) (A : Act) (w : World) : Prop :=
  ∃ (a l : Nat) (sm : Bool) (e c : Value) (L : List Fn) (cs : Array Value), FrA A y b a l sm e c g ∧ a < s.size ∧ byt s a = 35 ∧ l ≤ a + 1 ∧ cs.size = 5 ∧ SSt b g s J L (scn s (rem s a) l sm) cs w
def J3 (b g : Nat) (s : ByteArray) (y : Value) (J : Nat → List Nat → World → Prop) (A : Act) (w : World) : Prop :=
  ∃ (a l : Nat) (e c : Value) (L : List Fn), FrA A y b a l true e c g ∧ WordAt s a ∧ byt s a = 34 ∧ l ≤ a + 1 ∧ SSt b g s J L (scn s a l true) #[.int .i64 0, .string ⟨#[]⟩, .int .i64 0, .int .i64 (a : Nat), .int .i64 (l : Nat)] w
def J4 (b g : Nat) (s : ByteArray) (y : Value) (J : Nat → List Nat → World → Prop) (A : Act) (w : World) : Prop :=
  ∃ (a l e c : Nat) (sm : Bool) (L : List Fn) (cs : Array Value), FrA A y b a l sm (.int .i64 (e : Nat)) (.int .i64 (c : Nat)) g ∧ SSt b g s J L [⟨0, ByteArray.empty, 0, e, l, c⟩] cs w
def J5 (b g : Nat) (s : ByteArray) (y : Value) (J : Nat → List Nat → World → Prop) (A : Act) (w : World) : Prop :=
  ∃ (a l e : Nat) (c : Value) (L : List Fn) (k : Nat) (t : ByteArray) (n : Int) (a' l' : Nat), FrA A y b a l true (.int .i64 (e : Nat)) c g ∧ a < e ∧ e ≤ s.size ∧ l ≤ a + 1 ∧ SSt b g s J L (⟨k, t, n, a', l', 0⟩ :: scn s e l true) #[.int .i64 (k : Nat), .string t, .int .i64 n, .int .i64 (a' : Nat), .int .i64 (l' : Nat)] w
/-- The word's variable is written whole. -/
theorem five_set {w : World} {g : Nat} {c0 c1 c2 c3 c4 v0 v1 v2 v3 v4 : Value} {t : TypeId} (h : w.heap[g]? = some (.cells #[c0, c1, c2, c3, c4] t (0, 0))) :
    (((((w.setCell ⟨g, 0, none⟩ v0).setCell ⟨g, 1, none⟩ v1).setCell ⟨g, 2, none⟩ v2).setCell ⟨g, 3, none⟩ v3).setCell ⟨g, 4, none⟩ v4).heap[g]? = some (.cells #[v0, v1, v2, v3, v4] t (0, 0)) ∧
    Keep [g] w (((((w.setCell ⟨g, 0, none⟩ v0).setCell ⟨g, 1, none⟩ v1).setCell ⟨g, 2, none⟩ v2).setCell ⟨g, 3, none⟩ v3).setCell ⟨g, 4, none⟩ v4) := by
  refine ⟨?_, (((((Keep.refl _ _).setCell (by simp) _).setCell (by simp) _).setCell (by simp) _).setCell (by simp) _).setCell (by simp) _⟩
  have h0 := block_setCell h 0 v0
  have h1 := block_setCell h0 1 v1
  have h2 := block_setCell h1 2 v2
  have h3 := block_setCell h2 3 v3
  exact block_setCell h3 4 v4
/-- Its kind and its text are written. -/
theorem two_set {w : World} {g : Nat} {c0 c1 c2 c3 c4 v0 v1 : Value} {t : TypeId} (h : w.heap[g]? = some (.cells #[c0, c1, c2, c3, c4] t (0, 0))) :
    ((w.setCell ⟨g, 0, none⟩ v0).setCell ⟨g, 1, none⟩ v1).heap[g]? = some (.cells #[v0, v1, c2, c3, c4] t (0, 0)) ∧
    Keep [g] w ((w.setCell ⟨g, 0, none⟩ v0).setCell ⟨g, 1, none⟩ v1) := by
  refine ⟨?_, ((Keep.refl _ _).setCell (by simp) _).setCell (by simp) _⟩
  have h0 := block_setCell h 0 v0
  exact block_setCell h0 1 v1
theorem three_set {w : World} {g : Nat} {c0 c1 c2 c3 c4 v0 v1 v2 : Value} {t : TypeId} (h : w.heap[g]? = some (.cells #[c0, c1, c2, c3, c4] t (0, 0))) :
    (((w.setCell ⟨g, 0, none⟩ v0).setCell ⟨g, 1, none⟩ v1).setCell ⟨g, 2, none⟩ v2).heap[g]? = some (.cells #[v0, v1, v2, c3, c4] t (0, 0)) ∧
    Keep [g] w (((w.setCell ⟨g, 0, none⟩ v0).setCell ⟨g, 1, none⟩ v1).setCell ⟨g, 2, none⟩ v2) := by
  refine ⟨?_, (((Keep.refl _ _).setCell (by simp) _).setCell (by simp) _).setCell (by simp) _⟩
  have h0 := block_setCell h 0 v0
  have h1 := block_setCell h0 1 v1
  exact block_setCell h1 2 v2
/-- At a word it does not matter what came before it in its line. -/
theorem scn_sm {s : ByteArray} {a l : Nat} {sm : Bool} (h : WordAt s a) : scn s a l sm = scn s a l true := by
  by_cases h1 : byt s a = 34
  · rcases hq : qtd s a with ⟨ok, x, e⟩
    cases ok with
    | false => exact (scn_unq h h1 hq (.inl rfl)).trans (scn_unq h h1 hq (.inl rfl)).symm
    | true =>
      cases he : endB s e with
      | false => exact (scn_unq h h1 hq (.inr he)).trans (scn_unq h h1 hq (.inr he)).symm
      | true => exact (scn_quote h h1 hq he).trans (scn_quote h h1 hq he).symm
  · rcases hp : plF s a l with ⟨f, _ | e⟩
    · exact (scn_bad h h1 hp).trans (scn_bad h h1 hp).symm
    · exact (scn_plain h h1 hp).trans (scn_plain h h1 hp).symm
theorem slice_w (s : ByteArray) {a p : Nat} (h1 : a ≤ p) (h2 : p ≤ s.size) (w : World) : (Instr.slice 9 (.string s) (some (.int .i64 a)) (some (.int .i64 p)) none).run Tryd.prog w = .ok (.string (s.extract a p)) w := by
  rw [run_slice_string_if _ _ _ _ _ _ _ Tryd.underlying9, if_pos (by omega), if_pos (by omega)]; rfl
theorem ar9 {c n : Nat} {d : Int} (h : d = (c : Nat)) (e : c = n) : (d != (n : Int)) = false := by simp; omega
theorem five {cs : Array Value} (h : cs.size = 5) : ∃ c0 c1 c2 c3 c4, cs = #[c0, c1, c2, c3, c4] := by
  obtain ⟨l⟩ := cs
  match l, h with
  | [c0, c1, c2, c3, c4], _ => exact ⟨c0, c1, c2, c3, c4, rfl⟩

set_option maxHeartbeats 64000000 in
set_option maxRecDepth 100000 in
theorem scan1_iters (b : Nat) (s : ByteArray) (hz : s.size ≤ 100000000) :
    Iters Tryd.prog 31 #[.pointer (some ⟨b, 0, none⟩)] ((scn s 0 1 false).map fnArgs) [] (b :: tqB) (fun W => BoxNeed b s W ∧ TQ W) := by
  intro y J Jx fp W hN hown hrd hJ hJx hY hfpl h0
  have HN := Lib.hid hN
  have HRD := Lib.hid hrd
  have HJ := Lib.hid hJ
  have HH0 := Lib.hid h0
  have HFP := Lib.hid hfpl
  clear hown hN hrd hJ hJx h0 hfpl
  have HYY := Lib.hid hY; clear hY
  obtain ⟨g, hg⟩ : ∃ g, W.heap.size = g := ⟨_, rfl⟩
  have HG := Lib.hid hg
  have HLT := Lib.hid (show ∀ x ∈ b :: tqB, x < g from fun x hx => hg ▸ (HRD.out x hx).1)
  refine (callsIn_wide (n := 0)).1 ?_
  refine callsIn_of_wp Tryd.func31 rfl trivial ?_
  simp only [Tryd.ntmps31, List.size_toArray, List.length_cons, List.length_nil, Nat.reduceAdd, Nat.reduceSub, Array.replicate_succ, Array.replicate_zero, List.push_toArray, List.append_toArray, List.nil_append, List.cons_append]
  refine wpIn_scope6q
    (J0 b g s y J) (J1 b g s y J) (J2 b g s y J) (J3 b g s y J) (J4 b g s y J) (J5 b g s y J)
    (fun l A w => 10 * (s.size - (intOf (A.tmps.getD 3 undef)).toNat) + (match l with | 0 => 3 | 1 => 5 | 2 => 4 | 3 => 4 | 4 => 0 | _ => 2))
    rfl rfl rfl rfl rfl rfl ?first ?p0 ?p1 ?p2 ?p3 ?p4 ?p5
  case first =>
    intro hp1
    gi_wp2
    refine wpIn_label ?_
    rename_i K hK
    have h := HN.out
    refine hK _ _ (hp1 _ _ ?_)
    exact (show J1 b g s y J _ _ from ⟨0, 1, false, _, _, [], #[.int .i64 0, .string ⟨#[]⟩, .int .i64 0, .int .i64 0, .int .i64 0], FrA.mk rfl, Nat.zero_le _, Nat.le_refl _, rfl, rfl,
      ((Keep.refl [] W).alloc _).at_ h.1 (by simp), h.2.keep0 ((Keep.refl [] W).alloc _), by rw [← HG.out]; exact World.alloc_heap_new W _, fp, HJ.out 0 fp W _ [] HH0.out ((Keep.refl [] W).alloc _) (fun x hx => by cases hx), fun x hx => by
        rcases List.mem_cons.1 hx with rfl | hx
        · intro hm; have := HFP.out _ hm; have := HG.out; omega
        · exact (HRD.out x hx).2⟩)
  case p0 =>
    clear hg
    rintro A w ⟨a, l, sm, e, c, L, cs, ⟨U, rfl⟩, ha, hla, hnl, hcs, hs⟩
    obtain ⟨c0, c1, c2, c3, c4, rfl⟩ := five hcs
    unfold frm
    have HA := Lib.hid hla
    have hlz : l ≤ 100000001 := by omega
    clear hcs hla
    by_cases hlt : a < s.size
    · have hlb := lineB_more hlt
      have f1 : ((a : Int) == (s.size : Int)) = false := by simp; omega
      have f2 : (a == s.size) = false := by simp; omega
      have hix := byte_z (s := s) (i := a) (z := (a : Nat)) hlt rfl
      have hi2 : byt s a = 13 → a + 1 < s.size → ∀ W, _ := fun _ h W => byte_z (s := s) (i := a + 1) (z := (a : Int) + 1) h (by omega) W
      have hcase : (byt s a = 10 ∧ lineB s a = a + 1) ∨ (byt s a = 13 ∧ a + 1 < s.size ∧ byt s (a + 1) = 10 ∧ lineB s a = a + 2) ∨ (byt s a = 13 ∧ a + 1 < s.size ∧ byt s (a + 1) ≠ 10 ∧ lineB s a = a + 1) ∨ (byt s a = 13 ∧ ¬ a + 1 < s.size ∧ lineB s a = a + 1) := by
        have := hnl hlt
        unfold lineB
        split <;> omega
      have hbb := byt_lt s (a + 1)
      have hsl := scn_line (l := l) (sm := sm) hlt (hnl hlt)
      rcases hcase with ⟨hc, hb⟩ | ⟨hc, hn1, hn2, hb⟩ | ⟨hc, hn1, hn2, hb⟩ | ⟨hc, hn1, hb⟩
      · -- a line feed
        rw [hc] at hix
        rw [hb] at hsl hlb
        clear hc hb hi2 hbb hnl
        cases sm with
        | false =>
          have HS := Lib.hid (hs.rest (R' := scn s (a + 1) (l + 1) false) hsl)
          have kb := cell_of_block hs.2.1 0
          simp at kb
          clear hs hsl
          gi_wp2
          refine ⟨fun f h => (by cases h), ?_⟩
          first | (rename_i K hK; refine hK _ _ ?_) | (rename_i K hK h1; refine hK _ _ ?_) | (rename_i K hK h1 h2; refine hK _ _ ?_) | (rename_i K hK h1 h2 h3; refine hK _ _ ?_) | (rename_i K hK h1 h2 h3 h4; refine hK _ _ ?_)
          gi_wp2
          refine wpIn_goto (And.intro ?_ ?_)
          · exact (show J1 b g s y J _ _ from ⟨a + 1, l + 1, false, _, _, L, _, FrA.mk rfl, hlb.2, by have := HA.out; omega, rfl, HS.out⟩)
          · exact (show 10 * (s.size - (a + 1)) + 5 < 10 * (s.size - a) + 3 by omega)
        | true =>
          have hs2 := hs.rest (R' := ⟨4, ByteArray.empty, 0, a, l, 0⟩ :: scn s (a + 1) (l + 1) false) hsl
          obtain ⟨hz1, hbx, hT, hgx, fp1, hj1, hfp⟩ := hs2
          obtain ⟨hkk, hy⟩ := yield_at hz1 HYY.out
          have HY := Lib.hid (hy fp1 w hj1)
          have HKK := Lib.hid hkk
          unfold fnArgs at HY
          dsimp only at HY
          have HNX := Lib.hid (fun (fp' : List Nat) (w' : World) (hj : J (L.length + 1) fp' w') (hk : Keep fp1 w w') (hn : FromNew fp1 fp' w) => SSt.next (J := J) (w' := w') (fp' := fp') hz1 hbx hT hgx hfp hj hk hn)
          have kb := cell_of_block hbx 0
          simp at kb
          clear hs hsl hy hkk hz1 hj1 hgx hbx hT hfp
          gi_wp2_with (with_reducible refine park_call 123 _ _ rfl ?_)
          refine wpListIn_callV (.inl rfl) rfl (.tmp 123) [.tmp 126, .const (.int .i64 0)] #[74, 25] rfl y rfl [.agg #[.int .i64 4, .string ⟨#[]⟩, .int .i64 0, .int .i64 (a : Nat), .int .i64 (l : Nat)], .int .i64 0] rfl _ HY.out ?_
          rintro e' w3 (⟨rfl, fp', hj', hkp, hfn⟩ | ⟨rfl, fp', hj', hkp, hfn⟩)
          · refine ⟨_, rfl, ?_⟩
            have HS3 := Lib.hid (HNX.out fp' w3 hj' hkp hfn)
            clear hj' hkp hfn HNX kb
            have kb := cell_of_block HS3.out.2.1 0
            simp at kb
            gi_wp2
            refine wpIn_goto (And.intro ?_ ?_)
            · exact (show J1 b g s y J _ _ from ⟨a + 1, l + 1, false, _, _, _, _, FrA.mk rfl, hlb.2, by have := HA.out; omega, rfl, HS3.out⟩)
            · exact (show 10 * (s.size - (a + 1)) + 5 < 10 * (s.size - a) + 3 by omega)
          · refine ⟨_, rfl, ?_⟩
            have HJ' := Lib.hid hj'
            clear hj' hkp hfn HNX kb
            gi_wp2
            exact bodyPost_ret (results_none rfl _ _ _) rfl ⟨rfl, .inr ⟨L.length, fp', by have := HKK.out; first | exact this | (rw [List.length_map] at this; exact this), HJ'.out⟩⟩
      · -- both
        have hi3 := hi2 hc hn1
        have g1 := dec_lt_t (show (a : Int) + 1 < (s.size : Int) by omega)
        have g2 := dec_ltn_t hn1
        rw [hn2] at hi3
        rw [hc] at hix
        rw [hb] at hsl hlb
        clear hc hb hi2 hbb hn1 hn2 hnl
        cases sm with
        | false =>
          have HS := Lib.hid (hs.rest (R' := scn s (a + 2) (l + 1) false) hsl)
          have kb := cell_of_block hs.2.1 0
          simp at kb
          clear hs hsl
          gi_wp2
          refine ⟨fun f h => (by cases h), ?_⟩
          first | (rename_i K hK; refine hK _ _ ?_) | (rename_i K hK h1; refine hK _ _ ?_) | (rename_i K hK h1 h2; refine hK _ _ ?_) | (rename_i K hK h1 h2 h3; refine hK _ _ ?_) | (rename_i K hK h1 h2 h3 h4; refine hK _ _ ?_)
          gi_wp2
          refine wpIn_goto (And.intro ?_ ?_)
          · exact (show J1 b g s y J _ _ from ⟨a + 2, l + 1, false, _, _, L, _, FrA.mk rfl, hlb.2, by have := HA.out; omega, rfl, HS.out⟩)
          · exact (show 10 * (s.size - (a + 2)) + 5 < 10 * (s.size - a) + 3 by omega)
        | true =>
          have hs2 := hs.rest (R' := ⟨4, ByteArray.empty, 0, a, l, 0⟩ :: scn s (a + 2) (l + 1) false) hsl
          obtain ⟨hz1, hbx, hT, hgx, fp1, hj1, hfp⟩ := hs2
          obtain ⟨hkk, hy⟩ := yield_at hz1 HYY.out
          have HY := Lib.hid (hy fp1 w hj1)
          have HKK := Lib.hid hkk
          unfold fnArgs at HY
          dsimp only at HY
          have HNX := Lib.hid (fun (fp' : List Nat) (w' : World) (hj : J (L.length + 1) fp' w') (hk : Keep fp1 w w') (hn : FromNew fp1 fp' w) => SSt.next (J := J) (w' := w') (fp' := fp') hz1 hbx hT hgx hfp hj hk hn)
          have kb := cell_of_block hbx 0
          simp at kb
          clear hs hsl hy hkk hz1 hj1 hgx hbx hT hfp
          gi_wp2_with (with_reducible refine park_call 123 _ _ rfl ?_)
          refine wpListIn_callV (.inl rfl) rfl (.tmp 123) [.tmp 126, .const (.int .i64 0)] #[74, 25] rfl y rfl [.agg #[.int .i64 4, .string ⟨#[]⟩, .int .i64 0, .int .i64 (a : Nat), .int .i64 (l : Nat)], .int .i64 0] rfl _ HY.out ?_
          rintro e' w3 (⟨rfl, fp', hj', hkp, hfn⟩ | ⟨rfl, fp', hj', hkp, hfn⟩)
          · refine ⟨_, rfl, ?_⟩
            have HS3 := Lib.hid (HNX.out fp' w3 hj' hkp hfn)
            clear hj' hkp hfn HNX kb
            have kb := cell_of_block HS3.out.2.1 0
            simp at kb
            gi_wp2
            refine wpIn_goto (And.intro ?_ ?_)
            · exact (show J1 b g s y J _ _ from ⟨a + 2, l + 1, false, _, _, _, _, FrA.mk rfl, hlb.2, by have := HA.out; omega, rfl, HS3.out⟩)
            · exact (show 10 * (s.size - (a + 2)) + 5 < 10 * (s.size - a) + 3 by omega)
          · refine ⟨_, rfl, ?_⟩
            have HJ' := Lib.hid hj'
            clear hj' hkp hfn HNX kb
            gi_wp2
            exact bodyPost_ret (results_none rfl _ _ _) rfl ⟨rfl, .inr ⟨L.length, fp', by have := HKK.out; first | exact this | (rw [List.length_map] at this; exact this), HJ'.out⟩⟩
      · -- a return, and more
        have hi3 := hi2 hc hn1
        have g1 := dec_lt_t (show (a : Int) + 1 < (s.size : Int) by omega)
        have g2 := dec_ltn_t hn1
        obtain ⟨d, hd⟩ : ∃ d : Int, d = ((byt s (a + 1) : Nat) : Int) := ⟨_, rfl⟩
        rw [← hd] at hi3
        have g3 : (d == 10) = false := ((ar4 hd).2 hn2).1
        rw [hc] at hix
        rw [hb] at hsl hlb
        clear hc hb hi2 hbb hn1 hn2 hd hnl
        cases sm with
        | false =>
          have HS := Lib.hid (hs.rest (R' := scn s (a + 1) (l + 1) false) hsl)
          have kb := cell_of_block hs.2.1 0
          simp at kb
          clear hs hsl
          gi_wp2
          refine ⟨fun f h => (by cases h), ?_⟩
          first | (rename_i K hK; refine hK _ _ ?_) | (rename_i K hK h1; refine hK _ _ ?_) | (rename_i K hK h1 h2; refine hK _ _ ?_) | (rename_i K hK h1 h2 h3; refine hK _ _ ?_) | (rename_i K hK h1 h2 h3 h4; refine hK _ _ ?_)
          gi_wp2
          refine wpIn_goto (And.intro ?_ ?_)
          · exact (show J1 b g s y J _ _ from ⟨a + 1, l + 1, false, _, _, L, _, FrA.mk rfl, hlb.2, by have := HA.out; omega, rfl, HS.out⟩)
          · exact (show 10 * (s.size - (a + 1)) + 5 < 10 * (s.size - a) + 3 by omega)
        | true =>
          have hs2 := hs.rest (R' := ⟨4, ByteArray.empty, 0, a, l, 0⟩ :: scn s (a + 1) (l + 1) false) hsl
          obtain ⟨hz1, hbx, hT, hgx, fp1, hj1, hfp⟩ := hs2
          obtain ⟨hkk, hy⟩ := yield_at hz1 HYY.out
          have HY := Lib.hid (hy fp1 w hj1)
          have HKK := Lib.hid hkk
          unfold fnArgs at HY
          dsimp only at HY
          have HNX := Lib.hid (fun (fp' : List Nat) (w' : World) (hj : J (L.length + 1) fp' w') (hk : Keep fp1 w w') (hn : FromNew fp1 fp' w) => SSt.next (J := J) (w' := w') (fp' := fp') hz1 hbx hT hgx hfp hj hk hn)
          have kb := cell_of_block hbx 0
          simp at kb
          clear hs hsl hy hkk hz1 hj1 hgx hbx hT hfp
          gi_wp2_with (with_reducible refine park_call 123 _ _ rfl ?_)
          refine wpListIn_callV (.inl rfl) rfl (.tmp 123) [.tmp 126, .const (.int .i64 0)] #[74, 25] rfl y rfl [.agg #[.int .i64 4, .string ⟨#[]⟩, .int .i64 0, .int .i64 (a : Nat), .int .i64 (l : Nat)], .int .i64 0] rfl _ HY.out ?_
          rintro e' w3 (⟨rfl, fp', hj', hkp, hfn⟩ | ⟨rfl, fp', hj', hkp, hfn⟩)
          · refine ⟨_, rfl, ?_⟩
            have HS3 := Lib.hid (HNX.out fp' w3 hj' hkp hfn)
            clear hj' hkp hfn HNX kb
            have kb := cell_of_block HS3.out.2.1 0
            simp at kb
            gi_wp2
            refine wpIn_goto (And.intro ?_ ?_)
            · exact (show J1 b g s y J _ _ from ⟨a + 1, l + 1, false, _, _, _, _, FrA.mk rfl, hlb.2, by have := HA.out; omega, rfl, HS3.out⟩)
            · exact (show 10 * (s.size - (a + 1)) + 5 < 10 * (s.size - a) + 3 by omega)
          · refine ⟨_, rfl, ?_⟩
            have HJ' := Lib.hid hj'
            clear hj' hkp hfn HNX kb
            gi_wp2
            exact bodyPost_ret (results_none rfl _ _ _) rfl ⟨rfl, .inr ⟨L.length, fp', by have := HKK.out; first | exact this | (rw [List.length_map] at this; exact this), HJ'.out⟩⟩
      · -- a return at the end
        have g1 := dec_lt_f (show ¬ (a : Int) + 1 < (s.size : Int) by omega)
        have g2 := dec_ltn_f hn1
        rw [hc] at hix
        rw [hb] at hsl hlb
        clear hc hb hi2 hbb hn1 hnl
        cases sm with
        | false =>
          have HS := Lib.hid (hs.rest (R' := scn s (a + 1) (l + 1) false) hsl)
          have kb := cell_of_block hs.2.1 0
          simp at kb
          clear hs hsl
          gi_wp2
          refine ⟨fun f h => (by cases h), ?_⟩
          first | (rename_i K hK; refine hK _ _ ?_) | (rename_i K hK h1; refine hK _ _ ?_) | (rename_i K hK h1 h2; refine hK _ _ ?_) | (rename_i K hK h1 h2 h3; refine hK _ _ ?_) | (rename_i K hK h1 h2 h3 h4; refine hK _ _ ?_)
          gi_wp2
          refine wpIn_goto (And.intro ?_ ?_)
          · exact (show J1 b g s y J _ _ from ⟨a + 1, l + 1, false, _, _, L, _, FrA.mk rfl, hlb.2, by have := HA.out; omega, rfl, HS.out⟩)
          · exact (show 10 * (s.size - (a + 1)) + 5 < 10 * (s.size - a) + 3 by omega)
        | true =>
          have hs2 := hs.rest (R' := ⟨4, ByteArray.empty, 0, a, l, 0⟩ :: scn s (a + 1) (l + 1) false) hsl
          obtain ⟨hz1, hbx, hT, hgx, fp1, hj1, hfp⟩ := hs2
          obtain ⟨hkk, hy⟩ := yield_at hz1 HYY.out
          have HY := Lib.hid (hy fp1 w hj1)
          have HKK := Lib.hid hkk
          unfold fnArgs at HY
          dsimp only at HY
          have HNX := Lib.hid (fun (fp' : List Nat) (w' : World) (hj : J (L.length + 1) fp' w') (hk : Keep fp1 w w') (hn : FromNew fp1 fp' w) => SSt.next (J := J) (w' := w') (fp' := fp') hz1 hbx hT hgx hfp hj hk hn)
          have kb := cell_of_block hbx 0
          simp at kb
          clear hs hsl hy hkk hz1 hj1 hgx hbx hT hfp
          gi_wp2_with (with_reducible refine park_call 123 _ _ rfl ?_)
          refine wpListIn_callV (.inl rfl) rfl (.tmp 123) [.tmp 126, .const (.int .i64 0)] #[74, 25] rfl y rfl [.agg #[.int .i64 4, .string ⟨#[]⟩, .int .i64 0, .int .i64 (a : Nat), .int .i64 (l : Nat)], .int .i64 0] rfl _ HY.out ?_
          rintro e' w3 (⟨rfl, fp', hj', hkp, hfn⟩ | ⟨rfl, fp', hj', hkp, hfn⟩)
          · refine ⟨_, rfl, ?_⟩
            have HS3 := Lib.hid (HNX.out fp' w3 hj' hkp hfn)
            clear hj' hkp hfn HNX kb
            have kb := cell_of_block HS3.out.2.1 0
            simp at kb
            gi_wp2
            refine wpIn_goto (And.intro ?_ ?_)
            · exact (show J1 b g s y J _ _ from ⟨a + 1, l + 1, false, _, _, _, _, FrA.mk rfl, hlb.2, by have := HA.out; omega, rfl, HS3.out⟩)
            · exact (show 10 * (s.size - (a + 1)) + 5 < 10 * (s.size - a) + 3 by omega)
          · refine ⟨_, rfl, ?_⟩
            have HJ' := Lib.hid hj'
            clear hj' hkp hfn HNX kb
            gi_wp2
            exact bodyPost_ret (results_none rfl _ _ _) rfl ⟨rfl, .inr ⟨L.length, fp', by have := HKK.out; first | exact this | (rw [List.length_map] at this; exact this), HJ'.out⟩⟩
    · -- all over
      obtain rfl : a = s.size := by omega
      have hsl := scn_over (s := s) (l := l) (sm := sm) hlt
      clear hnl hlt
      cases sm with
      | false =>
        have HS := Lib.hid (hs.rest hsl)
        have kb := cell_of_block hs.2.1 0
        simp at kb
        clear hs hsl
        gi_wp2
        refine ⟨fun f h => (by cases h), ?_⟩
        first | (rename_i K hK; refine hK _ _ ?_) | (rename_i K hK h1; refine hK _ _ ?_) | (rename_i K hK h1 h2; refine hK _ _ ?_) | (rename_i K hK h1 h2 h3; refine hK _ _ ?_) | (rename_i K hK h1 h2 h3 h4; refine hK _ _ ?_)
        gi_wp2
        exact bodyPost_ret (results_none rfl _ _ _) rfl ⟨rfl, .inl (by have := HS.out.over rfl; first | exact this | (rw [List.length_map] at this; exact this))⟩
      | true =>
        have hs2 := hs.rest (R' := ⟨4, ByteArray.empty, 0, s.size, l, 0⟩ :: []) hsl
        obtain ⟨hz1, hbx, hT, hgx, fp1, hj1, hfp⟩ := hs2
        obtain ⟨hkk, hy⟩ := yield_at hz1 HYY.out
        have HY := Lib.hid (hy fp1 w hj1)
        have HKK := Lib.hid hkk
        unfold fnArgs at HY
        dsimp only at HY
        have HNX := Lib.hid (fun (fp' : List Nat) (w' : World) (hj : J (L.length + 1) fp' w') (hk : Keep fp1 w w') (hn : FromNew fp1 fp' w) => SSt.next (J := J) (w' := w') (fp' := fp') hz1 hbx hT hgx hfp hj hk hn)
        have kb := cell_of_block hbx 0
        simp at kb
        clear hs hsl hy hkk hz1 hj1 hgx hbx hT hfp
        gi_wp2_with (with_reducible refine park_call 123 _ _ rfl ?_)
        refine wpListIn_callV (.inl rfl) rfl (.tmp 123) [.tmp 126, .const (.int .i64 0)] #[74, 25] rfl y rfl [.agg #[.int .i64 4, .string ⟨#[]⟩, .int .i64 0, .int .i64 (s.size : Nat), .int .i64 (l : Nat)], .int .i64 0] rfl _ HY.out ?_
        rintro e' w3 (⟨rfl, fp', hj', hkp, hfn⟩ | ⟨rfl, fp', hj', hkp, hfn⟩)
        · refine ⟨_, rfl, ?_⟩
          have HS3 := Lib.hid (HNX.out fp' w3 hj' hkp hfn)
          clear hj' hkp hfn HNX kb
          have kb := cell_of_block HS3.out.2.1 0
          simp at kb
          gi_wp2
          exact bodyPost_ret (results_none rfl _ _ _) rfl ⟨rfl, .inl (by have := HS3.out.over rfl; first | exact this | (rw [List.length_map] at this; exact this))⟩
        · refine ⟨_, rfl, ?_⟩
          have HJ' := Lib.hid hj'
          clear hj' hkp hfn HNX kb
          gi_wp2
          exact bodyPost_ret (results_none rfl _ _ _) rfl ⟨rfl, .inr ⟨L.length, fp', by have := HKK.out; first | exact this | (rw [List.length_map] at this; exact this), HJ'.out⟩⟩
  case p1 =>
    clear hg
    rintro A w ⟨a, l, sm, e, c, L, cs, ⟨U, rfl⟩, ha, hla, hcs, hs⟩
    obtain ⟨c0, c1, c2, c3, c4, rfl⟩ := five hcs
    unfold frm
    have HS := Lib.hid hs
    have kb := cell_of_block hs.2.1 0
    simp at kb
    clear hcs hs
    by_cases hlt : a < s.size
    · have f1 : ((a : Int) == (s.size : Int)) = false := by simp; omega
      have f2 : (a == s.size) = false := by simp; omega
      have hix := byte_z (s := s) (i := a) (z := (a : Nat)) hlt rfl
      have hcs : (byt s a = 10 ∨ byt s a = 13) ∨ (byt s a = 32 ∨ byt s a = 9) ∨ byt s a = 35 ∨ (WordAt s a ∧ byt s a ≠ 34) ∨ (WordAt s a ∧ byt s a = 34) := by unfold WordAt; omega
      have HA := Lib.hid (show a < s.size ∧ l ≤ a + 1 from ⟨hlt, hla⟩)
      clear hla
      rcases hcs with hc | hc | hc | ⟨hw, hc⟩ | ⟨hw, hc⟩
      · -- a line's end
        have HC := Lib.hid hc
        rcases hc with hc | hc
        all_goals
          rw [hc] at hix
          clear hc
          gi_wp2
          refine wpIn_goto (And.intro ?_ ?_)
          · exact (show J0 b g s y J _ _ from ⟨a, l, sm, _, _, _, _, FrA.mk rfl, ha, HA.out.2, fun _ => HC.out, rfl, HS.out⟩)
          · exact (show 10 * (s.size - a) + 3 < 10 * (s.size - a) + 5 by omega)
      · -- a blank
        have HS2 := Lib.hid (HS.out.rest (scn_blank hlt hc))
        clear HS
        rcases hc with hc | hc
        all_goals
          rw [hc] at hix
          clear hc
          gi_wp2
          refine wpIn_goto (And.intro ?_ ?_)
          · exact (show J1 b g s y J _ _ from ⟨a + 1, l, sm, _, _, _, _, FrA.mk rfl, by omega, by have := HA.out; omega, rfl, HS2.out⟩)
          · exact (show 10 * (s.size - (a + 1)) + 5 < 10 * (s.size - a) + 5 by omega)
      · -- a remark
        have HS2 := Lib.hid (HS.out.rest (scn_rem hlt hc))
        have HC := Lib.hid hc
        clear HS
        rw [hc] at hix
        clear hc
        gi_wp2
        refine wpIn_goto (And.intro ?_ ?_)
        · exact (show J2 b g s y J _ _ from ⟨a, l, sm, _, _, _, _, FrA.mk rfl, HA.out.1, HC.out, HA.out.2, rfl, HS2.out⟩)
        · exact (show 10 * (s.size - a) + 4 < 10 * (s.size - a) + 5 by omega)
      · -- a word that is not quoted
        have HW := Lib.hid hw
        have HC := Lib.hid hc
        obtain ⟨c, hcc⟩ : ∃ c : Int, c = ((byt s a : Nat) : Int) := ⟨_, rfl⟩
        rw [← hcc] at hix
        obtain ⟨_, w1, w2, w3, w4, w5⟩ := hw
        have g1 : (c == 10) = false := ((ar4 hcc).2 w1).1
        have g2 : (c == 13) = false := ((ar4 hcc).2 w2).1
        have g3 : (c == 32) = false := ((ar4 hcc).2 w3).1
        have g4 : (c == 9) = false := ((ar4 hcc).2 w4).1
        have g5 : (c == 35) = false := ((ar4 hcc).2 w5).1
        have g6 : (c == 34) = false := ((ar4 hcc).2 hc).1
        clear hc hcc w1 w2 w3 w4 w5
        have k0 := cell_of_block HS.out.2.2.2.1 0
        have z0 := free_of_block HS.out.2.2.2.1 0
        have k1 := cell_of_block HS.out.2.2.2.1 1
        have z1 := free_of_block HS.out.2.2.2.1 1
        have k2 := cell_of_block HS.out.2.2.2.1 2
        have z2 := free_of_block HS.out.2.2.2.1 2
        have k3 := cell_of_block HS.out.2.2.2.1 3
        have z3 := free_of_block HS.out.2.2.2.1 3
        have k4 := cell_of_block HS.out.2.2.2.1 4
        have z4 := free_of_block HS.out.2.2.2.1 4
        simp at k0 k1 k2 k3 k4
        gi_upto_region 14 with (fail)
        clear k0 z0 k1 z1 k2 z2 k3 z3 k4 z4 kb
        have hfs := five_set (v0 := .int .i64 0) (v1 := .string ⟨#[]⟩) (v2 := .int .i64 0) (v3 := .int .i64 (a : Nat)) (v4 := .int .i64 (l : Nat)) HS.out.2.2.2.1
        have HS3 := Lib.hid ((HS.out.wrote HJ.out HG.out HLT.out hfs.2 hfs.1).rest (scn_sm HW.out))
        clear hfs HS
        obtain ⟨w1, hw1⟩ : ∃ w1, w1 = ((((w.setCell ⟨g, 0, none⟩ (.int .i64 0)).setCell ⟨g, 1, none⟩ (.string ⟨#[]⟩)).setCell ⟨g, 2, none⟩ (.int .i64 0)).setCell ⟨g, 3, none⟩ (.int .i64 (a : Nat))).setCell ⟨g, 4, none⟩ (.int .i64 (l : Nat)) := ⟨_, rfl⟩
        rw [← hw1] at HS3 ⊢
        clear hw1
        have kb := cell_of_block HS3.out.2.1 0
        simp at kb
        obtain ⟨⟨e1, d⟩, hp⟩ : ∃ r, pw s a = r := ⟨_, rfl⟩
        have hpl := plain_any s a w1 hz ha
        rw [hp] at hpl
        have HPL := Lib.hid hpl
        have HP := Lib.hid hp
        clear hp hpl
        gi_wp2_with fail
        refine ⟨trivial, rfl, ?_⟩
        refine (callsIn_wide.2 HPL.out).mono ?_
        rintro e' w2 ⟨rfl, rfl⟩
        clear HPL g1 g2 g3 g4 g5 g6 f1 f2 hix
        by_cases h0 : d = 0
        · -- it is plain
          subst h0
          have hm := pw_more HW.out.ends (by rw [HP.out])
          rw [HP.out] at hm
          have HM := Lib.hid hm
          have hsl := fun W => slice_w s (Nat.le_of_lt hm.1) hm.2 W
          have hxs := HM.out
          obtain ⟨x, hx⟩ : ∃ x, x = s.extract a e1 := ⟨_, rfl⟩
          have hxz : x.size ≠ 0 ∧ x.size ≤ 100000000 := by rw [hx, ByteArray.size_extract]; simp only at hm; omega
          simp only [← hx] at hsl
          have HX := Lib.hid hx
          clear hm hx hxs
          gi_upto_region 17 with (fail)
          have q0 : w1.drew.cell? ⟨g, 0, none⟩ = some (.int .i64 0) := by rw [show w1.drew.cell? ⟨g, 0, none⟩ = w1.cell? ⟨g, 0, none⟩ from rfl, cell_of_block HS3.out.2.2.2.1]; rfl
          have y0 : w1.drew.frozen? ⟨g, 0, none⟩ = false := free_of_block HS3.out.2.2.2.1 0
          have q1 : (w1.setCell ⟨g, 0, none⟩ (.int .i64 1)).drew.cell? ⟨g, 1, none⟩ = some (.string ⟨#[]⟩) := by rw [show (w1.setCell ⟨g, 0, none⟩ (.int .i64 1)).drew.cell? ⟨g, 1, none⟩ = (w1.setCell ⟨g, 0, none⟩ (.int .i64 1)).cell? ⟨g, 1, none⟩ from rfl, cell_of_block (block_setCell HS3.out.2.2.2.1 0 (.int .i64 1))]; rfl
          have y1 : (w1.setCell ⟨g, 0, none⟩ (.int .i64 1)).drew.frozen? ⟨g, 1, none⟩ = false := free_of_block (block_setCell HS3.out.2.2.2.1 0 (.int .i64 1)) 1
          have HNB := Lib.hid (show b ≠ g from by have := HLT.out b (by simp); omega)
          refine wpIn_fix (.inl rfl) 7 [5] (fun k => if k = 0 then w1.drew else (w1.setCell ⟨g, 0, none⟩ (.int .i64 1)).drew)
            (fun w' => w'.cell? ⟨b, 0, none⟩ = some (.string s))
            [.string s, .int .i64 (a : Nat), .int .i64 (e1 : Nat), .string x, .pointer (some ⟨g, 0, none⟩), undef, .pointer (some ⟨g, 1, none⟩)]
            (by kernel_rfl) (by kernel_rfl) rfl rfl (show _ = (w1.setCell ⟨g, 0, none⟩ (.int .i64 1)).drew from rfl) ?hC ?rest
          case hC =>
            intro k hk
            have hkeep : ∀ x : World, Keep [g] w1 x → x.cell? ⟨b, 0, none⟩ = some (.string s) := fun x hx => by
              rw [cell_of_block (hx.at_ HS3.out.2.1 (by simp; exact HNB.out))]; rfl
            rcases k with _ | k
            · exact hkeep _ ((Keep.refl _ _).drew)
            · exact hkeep _ (((Keep.refl _ _).setCell (by simp) _).drew)
          case rest =>
            intro A hA
            simp only [putVals, List.take, Act.put, List.setIfInBounds_toArray, List.set_cons_succ, List.set_cons_zero] at hA
            subst hA
            refine ⟨?_, fixWrites_cons rfl rfl ?_ fixWrites_nil, ?_⟩
            · iterate 5
                refine fixReads_cons rfl ?_ ?_
                · intro w1 hw1 K Q hK
                  go_simp
                  exact hK
              exact fixReads_skip (by rfl) (fixReads_cons rfl (by intro w1 hw1 K Q hK; go_simp; exact hK) fixReads_nil)
            · intro K Q hK
              go_simp
              exact hK
            · simp only [List.drop]
              gi_upto_region 18 with (fail)
              clear q0 y0 q1 y1 kb
              have h2 := two_set (v0 := .int .i64 1) (v1 := .string x) HS3.out.2.2.2.1
              have HS5 := Lib.hid ((HS3.out.wrote HJ.out HG.out HLT.out h2.2 h2.1).keep0 HJ.out HG.out HLT.out ((Keep.refl _ _).drew))
              clear h2 HS3
              obtain ⟨w5, hw5⟩ : ∃ w5, w5 = ((w1.setCell ⟨g, 0, none⟩ (.int .i64 1)).setCell ⟨g, 1, none⟩ (.string x)).drew := ⟨_, rfl⟩
              rw [← hw5] at HS5 ⊢
              clear hw5
              have kb := cell_of_block HS5.out.2.1 0
              have k1 := cell_of_block HS5.out.2.2.2.1 1
              simp at kb k1
              have hcn := fun W => counts_any x W hxz.2 hxz.1
              have HXZ := Lib.hid hxz
              cases hn : numB x with
              | false =>
                rw [hn] at hcn
                have HCN := Lib.hid hcn
                have HS6 := Lib.hid (HS5.out.rest (scn_plain HW.out HC.out (plF_word HP.out (HX.out ▸ hn))))
                rw [← HX.out] at HS6
                clear hn hcn hxz HS5
                gi_wp2_with fail
                refine ⟨trivial, rfl, ?_⟩
                refine (callsIn_wide.2 (HCN.out _)).mono ?_
                rintro e' w6 ⟨rfl, rfl⟩
                gi_wp2
                refine wpIn_goto (And.intro ?_ ?_)
                · exact (show J5 b g s y J _ _ from ⟨a, l, e1, _, L, 1, x, 0, a, l, FrA.mk rfl, HM.out.1, HM.out.2, HA.out.2, HS6.out⟩)
                · exact (show 10 * (s.size - a) + 2 < 10 * (s.size - a) + 5 by omega)
              | true =>
                rw [hn] at hcn
                have HCN := Lib.hid hcn
                have HNB2 := Lib.hid (show numB (s.extract a e1) = true from HX.out ▸ hn)
                have HAT := Lib.hid (atoi_any x w5 hxz.2 HS5.out.2.2.1)
                clear hn hcn hxz
                gi_wp2_with fail
                refine ⟨trivial, rfl, ?_⟩
                refine (callsIn_wide.2 (HCN.out _)).mono ?_
                rintro e' w6 ⟨rfl, rfl⟩
                gi_wp2_with fail
                refine ⟨trivial, rfl, ?_⟩
                refine (callsIn_wide.2 HAT.out).mono ?_
                rintro e' w6 ⟨hk6, ⟨v, hv, rfl⟩ | ⟨hv, z, ti, q, rfl⟩⟩
                · -- it is a number
                  have HS6 := Lib.hid (HS5.out.keep0 HJ.out HG.out HLT.out hk6)
                  have HV := Lib.hid hv
                  have hr := atoi_range hv
                  clear HS5 HAT HCN hk6 hv kb k1
                  gi_upto_region 20 with (fail)
                  obtain ⟨I, f, hf1, hf2⟩ := kept_class w6
                  have HF1 := Lib.hid hf1
                  have HF2 := Lib.hid hf2
                  obtain ⟨iw, hiw⟩ := hf2 w6.drew ((Keep.refl _ _).drew)
                  have qb : ∀ i, (f i).cell? ⟨g, 1, none⟩ = some (.string x) := fun i => by rw [cell_of_block ((hf1 i).at_ HS6.out.2.2.2.1 (by simp))]; rfl
                  obtain ⟨zz, hzz⟩ : ∃ zz : ByteArray, zz = ⟨(Lib.itoa v).toArray⟩ := ⟨_, rfl⟩
                  have hit := fun i => itoa_any v (f i) hr (HS6.out.2.2.1.keep0 (hf1 i))
                  simp only [← hzz] at hit
                  have HIT := Lib.hid hit
                  have HZZ := Lib.hid hzz
                  clear hit hzz
                  clear hf1 hf2 hr
                  refine wpIn_wide.2 ?_
                  refine wp_quiet_tail 8 f ⟨iw, hiw⟩ (by kernel_rfl) (by kernel_rfl) ?_
                  haveI hne : Nonempty I := ⟨iw⟩
                  clear hiw iw
                  simp only [List.take_succ_cons, List.take_zero, List.drop_succ_cons, List.drop_zero]
                  repeat (quiet_step (first
                    | rfl
                    | ((with_reducible refine (HIT.out _).mono ?_); rintro e w'' ⟨rfl, hk⟩; exact ⟨rfl, HF2.out _ ((HF1.out _).trans0 hk)⟩)))
                  refine wpQuiet_nil ?_
                  intro i
                  have HS7 := Lib.hid (HS6.out.keep0 HJ.out HG.out HLT.out (HF1.out i))
                  clear HS6 HIT qb hne HF1 HF2
                  generalize f i = w7 at *
                  clear f i I
                  have kb := cell_of_block HS7.out.2.1 0
                  simp at kb
                  by_cases hzx : zz = x
                  · -- the same text
                    have HS8 := Lib.hid (HS7.out.rest (scn_plain HW.out HC.out (plF_num (v := v) HP.out HNB2.out (by
                      rw [← HX.out]
                      exact atoi_numT.1 ⟨HV.out, by rw [← hzx, HZZ.out]⟩))))
                    have k0 := cell_of_block HS8.out.2.2.2.1 0
                    have z0 := free_of_block HS8.out.2.2.2.1 0
                    have k1 := cell_of_block HS8.out.2.2.2.1 1
                    have z1 := free_of_block HS8.out.2.2.2.1 1
                    have k2 := cell_of_block HS8.out.2.2.2.1 2
                    have z2 := free_of_block HS8.out.2.2.2.1 2
                    simp at k0 k1 k2
                    have h3 := Lib.hid (three_set (v0 := .int .i64 3) (v1 := .string ⟨#[]⟩) (v2 := .int .i64 v) HS8.out.2.2.2.1)
                    have g8 : (zz.toList == x.toList) = true := by rw [hzx]; exact beq_self_eq_true _
                    clear hzx HS7 HZZ
                    go_wp2
                    rw [g8]
                    clear g8
                    gi_wp2
                    refine wpIn_goto (And.intro ?_ ?_)
                    · exact (show J5 b g s y J _ _ from ⟨a, l, e1, _, L, 3, ByteArray.empty, v, a, l, FrA.mk rfl, HM.out.1, HM.out.2, HA.out.2, HS8.out.wrote HJ.out HG.out HLT.out h3.out.2 h3.out.1⟩)
                    · exact (show 10 * (s.size - a) + 2 < 10 * (s.size - a) + 5 by omega)
                  · -- another text
                    have HS8 := Lib.hid (HS7.out.rest (scn_bad HW.out HC.out (plF_bad HP.out HNB2.out (by
                      rw [← HX.out]
                      cases hnt : numT x.data.toList with
                      | none => rfl
                      | some v2 =>
                        have h2 := atoi_numT.2 hnt
                        have h3 : v2 = v := by have := h2.1; rw [HV.out] at this; injection this with this; exact this.symm
                        subst h3
                        exact absurd (HZZ.out.trans (ByteArray.ext (by rw [h2.2]))) hzx))))
                    have g8 : (zz.toList == x.toList) = false := str_neq hzx
                    clear hzx HS7 HZZ
                    go_wp2
                    rw [g8]
                    clear g8
                    gi_wp2
                    refine wpIn_goto (And.intro ?_ ?_)
                    · exact (show J4 b g s y J _ _ from ⟨a, l, a, 6, true, L, _, FrA.mk rfl, HS8.out⟩)
                    · exact (show 10 * (s.size - a) < 10 * (s.size - a) + 5 by omega)
                · -- no number
                  have HS6 := Lib.hid (HS5.out.keep0 HJ.out HG.out HLT.out hk6)
                  have HS7 := Lib.hid (HS6.out.rest (scn_bad HW.out HC.out (plF_bad HP.out HNB2.out (by
                    rw [← HX.out]
                    cases hnt : numT x.data.toList with
                    | none => rfl
                    | some v => exact absurd (atoi_numT.2 hnt).1 (hv v)))))
                  have kb := cell_of_block HS6.out.2.1 0
                  simp at kb
                  clear HS5 HS6 HAT HCN hk6 hv k1
                  gi_upto_region 20 with (fail)
                  refine wpIn_fix (.inl rfl) 8 [] (fun _ => w6.drew) (fun _ => True)
                    [.iface ti q, .bool true, .bool true, undef, undef, undef, undef, undef] (by kernel_rfl) (by kernel_rfl) rfl rfl rfl (fun _ _ => trivial) ?rest20
                  case rest20 =>
                    intro A hA
                    simp only [putVals, List.take, Act.put, List.setIfInBounds_toArray, List.set_cons_succ, List.set_cons_zero] at hA
                    subst hA
                    refine ⟨?_, fixWrites_nil, ?_⟩
                    · iterate 3
                        refine fixReads_cons rfl ?_ ?_
                        · intro w1 hw1 K Q hK
                          go_simp
                          exact hK
                      iterate 5
                        refine fixReads_out rfl rfl ?_
                      exact fixReads_nil
                    · simp only [List.drop]
                      gi_wp2
                      refine wpIn_goto (And.intro ?_ ?_)
                      · exact (show J4 b g s y J _ _ from ⟨a, l, a, 6, true, L, _, FrA.mk rfl, HS7.out.keep0 HJ.out HG.out HLT.out ((Keep.refl _ _).drew)⟩)
                      · exact (show 10 * (s.size - a) < 10 * (s.size - a) + 5 by omega)
        · -- it is not
          have g7 : ((d : Int) != 0) = true := by simp; omega
          have HS4 := Lib.hid (HS3.out.rest (scn_bad HW.out HC.out (plF_off HP.out h0)))
          clear h0 HS3
          gi_wp2
          refine wpIn_goto (And.intro ?_ ?_)
          · exact (show J4 b g s y J _ _ from ⟨a, l, e1, d, true, L, _, FrA.mk rfl, HS4.out⟩)
          · exact (show 10 * (s.size - a) < 10 * (s.size - a) + 5 by omega)
      · -- a word in quotes
        have HW := Lib.hid hw
        have HC := Lib.hid hc
        rw [hc] at hix
        clear hc hw
        have k0 := cell_of_block HS.out.2.2.2.1 0
        have z0 := free_of_block HS.out.2.2.2.1 0
        have k1 := cell_of_block HS.out.2.2.2.1 1
        have z1 := free_of_block HS.out.2.2.2.1 1
        have k2 := cell_of_block HS.out.2.2.2.1 2
        have z2 := free_of_block HS.out.2.2.2.1 2
        have k3 := cell_of_block HS.out.2.2.2.1 3
        have z3 := free_of_block HS.out.2.2.2.1 3
        have k4 := cell_of_block HS.out.2.2.2.1 4
        have z4 := free_of_block HS.out.2.2.2.1 4
        simp at k0 k1 k2 k3 k4
        gi_upto_region 14 with (fail)
        clear k0 z0 k1 z1 k2 z2 k3 z3 k4 z4 kb
        have hfs := five_set (v0 := .int .i64 0) (v1 := .string ⟨#[]⟩) (v2 := .int .i64 0) (v3 := .int .i64 (a : Nat)) (v4 := .int .i64 (l : Nat)) HS.out.2.2.2.1
        have HS3 := Lib.hid ((HS.out.wrote HJ.out HG.out HLT.out hfs.2 hfs.1).rest (scn_sm HW.out))
        clear hfs HS
        obtain ⟨w1, hw1⟩ : ∃ w1, w1 = ((((w.setCell ⟨g, 0, none⟩ (.int .i64 0)).setCell ⟨g, 1, none⟩ (.string ⟨#[]⟩)).setCell ⟨g, 2, none⟩ (.int .i64 0)).setCell ⟨g, 3, none⟩ (.int .i64 (a : Nat))).setCell ⟨g, 4, none⟩ (.int .i64 (l : Nat)) := ⟨_, rfl⟩
        rw [← hw1] at HS3 ⊢
        clear hw1
        have kb := cell_of_block HS3.out.2.1 0
        simp at kb
        gi_wp2
        refine wpIn_goto (And.intro ?_ ?_)
        · exact (show J3 b g s y J _ _ from ⟨a, l, _, _, L, FrA.mk rfl, HW.out, HC.out, HA.out.2, HS3.out⟩)
        · exact (show 10 * (s.size - a) + 4 < 10 * (s.size - a) + 5 by omega)
    · -- the end
      obtain rfl : a = s.size := by omega
      have HA := Lib.hid hla
      clear hla
      gi_wp2
      refine wpIn_goto (And.intro ?_ ?_)
      · exact (show J0 b g s y J _ _ from ⟨s.size, l, sm, _, _, _, _, FrA.mk rfl, ha, HA.out, fun h => absurd h (Nat.lt_irrefl _), rfl, HS.out⟩)
      · exact (show 10 * (s.size - s.size) + 3 < 10 * (s.size - s.size) + 5 by omega)
  case p2 =>
    clear hg
    rintro A w ⟨a, l, sm, e, c, L, cs, ⟨U, rfl⟩, ha, hrm, hla, hcs, hs⟩
    obtain ⟨c0, c1, c2, c3, c4, rfl⟩ := five hcs
    unfold frm
    have HS := Lib.hid hs
    have kb := cell_of_block hs.2.1 0
    simp at kb
    have hra : a < rem s a ∧ rem s a ≤ s.size := by
      have h1 := rem_on (s := s) (i := a) ⟨ha, by omega, by omega⟩
      have h2 := rem_spec s s.size (a + 1) (by omega) (by omega)
      omega
    have HRA := Lib.hid (show a < rem s a ∧ rem s a ≤ s.size ∧ l ≤ a + 1 ∧ a < s.size from ⟨hra.1, hra.2, hla, ha⟩)
    clear hcs hs hra hla hrm
    gi_wp2
    gi_loopw [3] (fun av wx => ∃ i : Nat, av = .int .i64 i ∧ i ≤ s.size ∧ rem s a = rem s i ∧ w = wx) (fun av _ => s.size - (intOf av).toNat)
    case atStart => exact ⟨a, rfl, by omega, rfl, rfl⟩
    case round =>
      obtain ⟨i, rfl, hi, hr, rfl⟩ := hrel
      have HRR := Lib.hid hr; clear hr
      by_cases his : i < s.size
      · have g1 := dec_lt_t (show (i : Int) < (s.size : Int) by omega)
        have g2 := dec_ltn_t his
        have hix := byte_z (s := s) (i := i) (z := (i : Nat)) his rfl
        obtain ⟨c, hcc⟩ : ∃ c : Int, c = ((byt s i : Nat) : Int) := ⟨_, rfl⟩
        rw [← hcc] at hix
        by_cases e1 : byt s i = 10
        · have HE := Lib.hid (HRR.out.trans (rem_end (fun h => h.2.1 e1)))
          have g3 : (c != 10) = false := ar9 hcc e1
          clear e1 hcc
          gi_wp2
          refine wpIn_goto (And.intro ?_ ?_)
          · exact (show J1 b g s y J _ _ from ⟨i, l, sm, _, _, L, _, FrA.mk rfl, hi, by have := HRA.out; have := HE.out; omega, rfl, HE.out ▸ HS.out⟩)
          · exact (show 10 * (s.size - i) + 5 < 10 * (s.size - a) + 4 by have := HRA.out; have := HE.out; omega)
        · have g3 : (c != 10) = true := ((ar4 hcc).2 e1).2
          by_cases e2 : byt s i = 13
          · have HE := Lib.hid (HRR.out.trans (rem_end (fun h => h.2.2 e2)))
            have g4 : (c != 13) = false := ar9 hcc e2
            clear e1 e2 hcc
            gi_wp2
            refine wpIn_goto (And.intro ?_ ?_)
            · exact (show J1 b g s y J _ _ from ⟨i, l, sm, _, _, L, _, FrA.mk rfl, hi, by have := HRA.out; have := HE.out; omega, rfl, HE.out ▸ HS.out⟩)
            · exact (show 10 * (s.size - i) + 5 < 10 * (s.size - a) + 4 by have := HRA.out; have := HE.out; omega)
          · have g4 : (c != 13) = true := ((ar4 hcc).2 e2).2
            have HE := Lib.hid (HRR.out.trans (rem_on ⟨his, e1, e2⟩))
            clear e1 e2 hcc
            gi_wp2
            go_roundw
            case rel => exact ⟨i + 1, by go_num, by omega, HE.out, by trivial⟩
            case measure => simp [intOf]; omega
      · have g1 := dec_lt_f (show ¬ (i : Int) < (s.size : Int) by omega)
        have g2 := dec_ltn_f his
        have HE := Lib.hid (HRR.out.trans (rem_end (fun h => his h.1)))
        clear his
        gi_wp2
        refine wpIn_goto (And.intro ?_ ?_)
        · exact (show J1 b g s y J _ _ from ⟨i, l, sm, _, _, L, _, FrA.mk rfl, hi, by have := HRA.out; have := HE.out; omega, rfl, HE.out ▸ HS.out⟩)
        · exact (show 10 * (s.size - i) + 5 < 10 * (s.size - a) + 4 by have := HRA.out; have := HE.out; omega)
  case p3 =>
    clear hg
    intro hp5
    have HP5 := Lib.hid hp5
    clear hp5
    rintro A w ⟨a, l, e, c, L, ⟨U, rfl⟩, hw, hq, hla, hs⟩
    unfold frm
    have HS := Lib.hid hs
    have kb := cell_of_block hs.2.1 0
    simp at kb
    obtain ⟨⟨ok, x, e1⟩, hqt⟩ : ∃ r, qtd s a = r := ⟨_, rfl⟩
    have hqa := fun W => quoted_any s a W hz (by have := hw.1; omega)
    simp only [hqt] at hqa
    have hea := fun W => ends_any s e1 W hz
    have HQ := Lib.hid hqa
    clear hqa hs
    cases ok with
    | false =>
      have HS4 := Lib.hid (HS.out.rest (scn_unq hw hq hqt (.inl rfl)))
      clear HS hw hq hqt hea
      gi_wp2_with fail
      refine ⟨trivial, rfl, ?_⟩
      refine (callsIn_wide.2 (HQ.out _)).mono ?_
      rintro e' w2 ⟨rfl, hk2⟩
      have HS5 := Lib.hid (HS4.out.keep0 HJ.out HG.out HLT.out hk2)
      clear hk2 HS4 kb
      have kb := cell_of_block HS5.out.2.1 0
      simp at kb
      gi_wp2
      refine ⟨trivial, ?_⟩
      rename_i K hK
      refine hK _ _ ?_
      gi_wp2
      refine wpIn_goto (And.intro ?_ ?_)
      · exact (show J4 b g s y J _ _ from ⟨a, l, e1, 18, true, L, _, FrA.mk rfl, HS5.out⟩)
      · exact (show 10 * (s.size - a) < 10 * (s.size - a) + 4 by omega)
    | true =>
      have HM := Lib.hid (qtd_more hqt)
      cases he : endB s e1 with
      | false =>
        rw [he] at hea
        have HE := Lib.hid hea
        have HS4 := Lib.hid (HS.out.rest (scn_unq hw hq hqt (.inr he)))
        clear HS hw hq hqt hea he
        gi_wp2_with fail
        refine ⟨trivial, rfl, ?_⟩
        refine (callsIn_wide.2 (HQ.out _)).mono ?_
        rintro e' w2 ⟨rfl, hk2⟩
        have HS5 := Lib.hid (HS4.out.keep0 HJ.out HG.out HLT.out hk2)
        clear hk2 HS4 kb
        have kb := cell_of_block HS5.out.2.1 0
        simp at kb
        gi_wp2_with fail
        refine ⟨trivial, rfl, ?_⟩
        refine (callsIn_wide.2 (HE.out _)).mono ?_
        rintro e' w3 ⟨rfl, rfl⟩
        gi_wp2
        refine wpIn_goto (And.intro ?_ ?_)
        · exact (show J4 b g s y J _ _ from ⟨a, l, e1, 18, true, L, _, FrA.mk rfl, HS5.out⟩)
        · exact (show 10 * (s.size - a) < 10 * (s.size - a) + 4 by omega)
      | true =>
        rw [he] at hea
        have HE := Lib.hid hea
        have HS4 := Lib.hid (HS.out.rest (scn_quote hw hq hqt he))
        have HB := Lib.hid hla
        clear HS hw hq hqt hea he hla
        gi_wp2_with fail
        refine ⟨trivial, rfl, ?_⟩
        refine (callsIn_wide.2 (HQ.out _)).mono ?_
        rintro e' w2 ⟨rfl, hk2⟩
        have HS5 := Lib.hid (HS4.out.keep0 HJ.out HG.out HLT.out hk2)
        clear hk2 HS4 kb
        have kb := cell_of_block HS5.out.2.1 0
        have k0 := cell_of_block HS5.out.2.2.2.1 0
        have z0 := free_of_block HS5.out.2.2.2.1 0
        have k1 := cell_of_block HS5.out.2.2.2.1 1
        have z1 := free_of_block HS5.out.2.2.2.1 1
        simp at kb k0 k1
        gi_wp2_with fail
        refine ⟨trivial, rfl, ?_⟩
        refine (callsIn_wide.2 (HE.out _)).mono ?_
        rintro e' w3 ⟨rfl, rfl⟩
        gi_wp2
        have h2 := two_set (v0 := .int .i64 2) (v1 := .string x) HS5.out.2.2.2.1
        refine wpIn_label ?_
        rename_i K hK
        refine hK _ _ (wpIn_mono (HP5.out _ _ (show J5 b g s y J _ _ from ⟨a, l, e1, _, L, 2, x, 0, a, l, FrA.mk rfl, HM.out.1, HM.out.2, HB.out, HS5.out.wrote HJ.out HG.out HLT.out h2.2 h2.1⟩))
          (jumpsTo_mono fun l' a' w' h => ⟨h.1, Nat.lt_trans h.2 (show 10 * (s.size - a) + 2 < 10 * (s.size - a) + 4 by omega)⟩))
  case p4 =>
    clear hg
    rintro A w ⟨a, l, e, c, sm, L, cs, ⟨U, rfl⟩, hz1, hbx, hT, hgx, fp1, hj1, hfp⟩
    unfold frm
    obtain ⟨hkk, hy⟩ := yield_at hz1 HYY.out
    have HY := Lib.hid (hy fp1 w hj1)
    have HKK := Lib.hid hkk; have HL1 := Lib.hid (show (scn s 0 1 false).length = L.length + 1 by rw [hz1]; simp)
    clear hy hkk hz1 hj1 hbx hgx hT hfp
    unfold fnArgs at HY
    dsimp only at HY
    gi_wp2_with (with_reducible refine park_call 97 _ _ rfl ?_)
    refine wpListIn_callV (.inl rfl) rfl (.tmp 97) [.tmp 100, .tmp 101] #[74, 25] rfl y rfl [.agg #[.int .i64 0, .string ⟨#[]⟩, .int .i64 0, .int .i64 (e : Nat), .int .i64 (l : Nat)], .int .i64 (c : Nat)] rfl _ HY.out ?_
    rintro e' w3 (⟨rfl, fp', hj', hkp, hfn⟩ | ⟨rfl, fp', hj', hkp, hfn⟩)
    · refine ⟨_, rfl, ?_⟩
      have HJ' := Lib.hid hj'
      clear hj' hkp hfn
      gi_wp2
      exact bodyPost_ret (results_none rfl _ _ _) rfl ⟨rfl, .inl ⟨fp', by first | (rw [HL1.out]; exact HJ'.out) | (rw [List.length_map, HL1.out]; exact HJ'.out)⟩⟩
    · refine ⟨_, rfl, ?_⟩
      have HJ' := Lib.hid hj'
      clear hj' hkp hfn
      gi_wp2
      exact bodyPost_ret (results_none rfl _ _ _) rfl ⟨rfl, .inr ⟨L.length, fp', by first | (rw [HL1.out]; omega) | (rw [List.length_map, HL1.out]; omega), HJ'.out⟩⟩
  case p5 =>
    clear hg
    rintro A w ⟨a, l, e, c, L, fk, ft, fn, fa, fl, ⟨U, rfl⟩, hae, hes, hla, hz1, hbx, hT, hgx, fp1, hj1, hfp⟩
    unfold frm
    obtain ⟨hkk, hy⟩ := yield_at hz1 HYY.out
    have HY := Lib.hid (hy fp1 w hj1)
    have HKK := Lib.hid hkk
    unfold fnArgs at HY
    dsimp only at HY
    have HNX := Lib.hid (fun (fp' : List Nat) (w' : World) (hj : J (L.length + 1) fp' w') (hk : Keep fp1 w w') (hn : FromNew fp1 fp' w) => SSt.next (J := J) (w' := w') (fp' := fp') hz1 hbx hT hgx hfp hj hk hn)
    have k0 := cell_of_block hgx 0
    have k1 := cell_of_block hgx 1
    have k2 := cell_of_block hgx 2
    have k3 := cell_of_block hgx 3
    have k4 := cell_of_block hgx 4
    simp at k0 k1 k2 k3 k4
    have HB := Lib.hid (show a < e ∧ e ≤ s.size ∧ l ≤ a + 1 from ⟨hae, hes, hla⟩)
    clear hy hkk hz1 hj1 hgx hbx hT hfp hae hes hla
    gi_wp2_with (with_reducible refine park_call 92 _ _ rfl ?_)
    refine wpListIn_callV (.inl rfl) rfl (.tmp 92) [.tmp 93, .const (.int .i64 0)] #[74, 25] rfl y rfl [.agg #[.int .i64 (fk : Nat), .string ft, .int .i64 fn, .int .i64 (fa : Nat), .int .i64 (fl : Nat)], .int .i64 0] rfl _ HY.out ?_
    rintro e' w3 (⟨rfl, fp', hj', hkp, hfn⟩ | ⟨rfl, fp', hj', hkp, hfn⟩)
    · refine ⟨_, rfl, ?_⟩
      have HS := Lib.hid (HNX.out fp' w3 hj' hkp hfn)
      clear hj' hkp hfn HNX k0 k1 k2 k3 k4
      gi_wp2
      refine wpIn_goto (And.intro ?_ ?_)
      · exact (show J1 b g s y J _ _ from ⟨e, l, true, _, _, _, _, FrA.mk rfl, HB.out.2.1, by have := HB.out; omega, rfl, HS.out⟩)
      · exact (show 10 * (s.size - e) + 5 < 10 * (s.size - a) + 2 by have := HB.out; omega)
    · refine ⟨_, rfl, ?_⟩
      have HJ' := Lib.hid hj'
      clear hj' hkp hfn HNX k0 k1 k2 k3 k4
      gi_wp2
      exact bodyPost_ret (results_none rfl _ _ _) rfl ⟨rfl, .inr ⟨L.length, fp', by have := HKK.out; first | exact this | (rw [List.length_map] at this; exact this), HJ'.out⟩⟩
end Go.Proofs.YtbidppjhenfjdaaDoor
