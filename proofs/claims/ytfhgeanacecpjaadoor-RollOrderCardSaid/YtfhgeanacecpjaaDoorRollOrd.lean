/-
  Plain laws: what the order of calls is worth to a Roll's state.
-/
import Derived.Test.YtfhgeanacecpjaaDoorRollInv
namespace Go.Proofs.YtfhgeanacecpjaaDoor
set_option linter.unusedVariables false

def joinedL (xs : List (Bool × Int)) (n : Int) : Bool := xs.any fun x => !x.1 && x.2 == n
def leftL (xs : List (Bool × Int)) (n : Int) : Bool := xs.any fun x => x.1 && x.2 == n

theorem runS_cons (s : St) (x : Bool × Int) (xs : List (Bool × Int)) : runS s (x :: xs) = runS (stepS s x) xs := rfl
theorem run_J : ∀ (zs : List (Bool × Int)) (s : St) (i : Nat), (runS s zs).1.testBit i = (s.1.testBit i || zs.any fun z => !z.1 && (siteB z.2 && decide (z.2.toNat = i)))
  | [], s, i => by simp [runS]
  | z :: zs, s, i => by
    rw [runS_cons, run_J zs]
    show ((stepJ z.1 s.1 z.2).testBit i || _) = _
    unfold stepJ
    cases hz : z.1
    · simp [hz, testBit_withBit, Bool.or_assoc]
    · simp [hz]
theorem run_L : ∀ (zs : List (Bool × Int)) (s : St) (i : Nat), (runS s zs).2.1.testBit i = (s.2.1.testBit i || zs.any fun z => z.1 && (siteB z.2 && decide (z.2.toNat = i)))
  | [], s, i => by simp [runS]
  | z :: zs, s, i => by
    rw [runS_cons, run_L zs]
    show ((stepL z.1 s.2.1 z.2).testBit i || _) = _
    unfold stepL
    cases hz : z.1
    · simp [hz]
    · simp [hz, testBit_withBit, Bool.or_assoc]

theorem any_same {xs zs : List (Bool × Int)} (h1 : ∀ z ∈ zs, z ∈ xs) (h2 : ∀ z ∈ xs, z ∈ zs) (p : Bool × Int → Bool) : zs.any p = xs.any p := by
  rw [Bool.eq_iff_iff, List.any_eq_true, List.any_eq_true]
  exact ⟨fun ⟨x, hx, hp⟩ => ⟨x, h1 x hx, hp⟩, fun ⟨x, hx, hp⟩ => ⟨x, h2 x hx, hp⟩⟩
theorem run_same {xs zs : List (Bool × Int)} (h1 : ∀ z ∈ zs, z ∈ xs) (h2 : ∀ z ∈ xs, z ∈ zs) (s : St) : (runS s zs).1 = (runS s xs).1 ∧ (runS s zs).2.1 = (runS s xs).2.1 :=
  ⟨Nat.eq_of_testBit_eq fun i => by rw [run_J, run_J, any_same h1 h2], Nat.eq_of_testBit_eq fun i => by rw [run_L, run_L, any_same h1 h2]⟩

theorem any_site (xs : List (Bool × Int)) (n : Int) (hs : siteB n = true) (q : Bool → Bool) : (xs.any fun z => q z.1 && (siteB z.2 && decide (z.2.toNat = n.toNat))) = xs.any fun z => q z.1 && z.2 == n := by
  congr 1
  funext z
  have hn := site_yes hs
  cases q z.1
  · rfl
  · by_cases e : z.2 = n
    · rw [e]; simp [hs]
    · have : (z.2 == n) = false := by simpa using e
      rw [this]
      cases hz : siteB z.2
      · rfl
      · have := site_yes hz
        simp
        omega
theorem bit_J (xs : List (Bool × Int)) (n : Int) (hs : siteB n = true) : (runS (0, 0, 0) xs).1.testBit n.toNat = joinedL xs n := by
  rw [run_J]
  have := any_site xs n hs (fun b => !b)
  rw [this]
  simp [joinedL]
theorem bit_L (xs : List (Bool × Int)) (n : Int) (hs : siteB n = true) : (runS (0, 0, 0) xs).2.1.testBit n.toNat = leftL xs n := by
  rw [run_L]
  have := any_site xs n hs (fun b => b)
  rw [this]
  simp [leftL]
theorem known_run (xs : List (Bool × Int)) (n : Int) (hs : siteB n = true) : knownB (runS (0, 0, 0) xs).1 (runS (0, 0, 0) xs).2.1 n = (joinedL xs n || leftL xs n) := by
  rw [knownB_eq, hs, bit_J _ _ hs, bit_L _ _ hs]; rfl
theorem has_run (xs : List (Bool × Int)) (n : Int) (hs : siteB n = true) : hasB (runS (0, 0, 0) xs).1 (runS (0, 0, 0) xs).2.1 n = (joinedL xs n && !leftL xs n) := by
  have hI := Inv.new.run xs
  rw [hasB_eq _ _ _ hI.jl hI.ll, hs, bit_J _ _ hs, bit_L _ _ hs]; rfl

theorem withBit_twice (j : Nat) (n : Int) : withBit (withBit j n) n = withBit j n :=
  Nat.eq_of_testBit_eq fun i => by rw [testBit_withBit, testBit_withBit]; cases j.testBit i <;> cases siteB n <;> simp
/-- A call's answer is whether 'Has' turned. -/
theorem step_turn (s : St) (x : Bool × Int) : (hasB (stepS s x).1 (stepS s x).2.1 x.2 != hasB s.1 s.2.1 x.2) = stepR x.1 s.1 s.2.1 x.2 := by
  show (hasB (stepJ x.1 s.1 x.2) (stepL x.1 s.2.1 x.2) x.2 != _) = _
  unfold stepJ stepL stepR
  cases x.1 <;> rfl
/-- The same call again: nothing. -/
theorem step_again (s : St) (x : Bool × Int) : stepR x.1 (stepS s x).1 (stepS s x).2.1 x.2 = false ∧ stepS (stepS s x) x = stepS s x := by
  have h : stepR x.1 (stepS s x).1 (stepS s x).2.1 x.2 = false := by
    show stepR x.1 (stepJ x.1 s.1 x.2) (stepL x.1 s.2.1 x.2) x.2 = false
    unfold stepR stepJ stepL
    cases x.1
    · simp [joinR, withBit_twice]
    · simp [leaveR, withBit_twice]
  refine ⟨h, ?_⟩
  show (stepJ x.1 (stepS s x).1 x.2, stepL x.1 (stepS s x).2.1 x.2, stepE x.1 (stepS s x).1 (stepS s x).2.1 (stepS s x).2.2 x.2) = stepS s x
  unfold stepE
  rw [h]
  show (stepJ x.1 (stepJ x.1 s.1 x.2) x.2, stepL x.1 (stepL x.1 s.2.1 x.2) x.2, (stepS s x).2.2) = (stepJ x.1 s.1 x.2, stepL x.1 s.2.1 x.2, (stepS s x).2.2)
  unfold stepJ stepL
  cases x.1 <;> simp [withBit_twice]
/-- The count, as a number that goes up by each answer. -/
theorem step_count (s : St) (x : Bool × Int) : (stepS s x).2.2 = if stepR x.1 s.1 s.2.1 x.2 = true then s.2.2 + 1 else s.2.2 := rfl

/-- Was a Leave ahead of all its Joins? -/
def earlyAt (xs : List (Bool × Int)) (x : Bool × Int) : Bool := x.1 && (siteB x.2 && !joinedL xs x.2)
def earlyL (xs : List (Bool × Int)) : Nat → Bool
  | 0 => false
  | k + 1 => earlyL xs k || (match xs[k]? with | some x => earlyAt (xs.take k) x | none => false)

/-- Where no Leave came early: the count, and every site that left had joined. -/
def Orderly (s : St) : Prop := s.2.2 = (popC (butNot s.1 s.2.1) : Int) + 2 * (popC s.2.1 : Int) ∧ ∀ i, s.2.1.testBit i = true → s.1.testBit i = true
theorem Orderly.new : Orderly (0, 0, 0) := ⟨by decide, by simp⟩
theorem withBit_same {l : Nat} {n : Int} (h : siteB n = false ∨ l.testBit n.toNat = true) : withBit l n = l := by
  rcases h with h | h
  · simp [withBit, h]
  · exact Nat.eq_of_testBit_eq fun i => by
      rw [testBit_withBit]
      by_cases e : n.toNat = i
      · subst e; simp [h]
      · simp [e]
theorem Orderly.step {s : St} (h : Orderly s) (hi : Inv s) (x : Bool × Int) (he : x.1 = true → siteB x.2 = true → s.1.testBit x.2.toNat = true) : Orderly (stepS s x) := by
  obtain ⟨j, l, e⟩ := s
  obtain ⟨lv, n⟩ := x
  obtain ⟨h1, h2⟩ := h
  have hj := hi.jl; have hl := hi.ll
  simp only at *
  cases lv
  · show Orderly (withBit j n, l, if joinR j l n = true then e + 1 else e)
    rw [joinR_eq _ _ _ hj hl]
    cases hs : siteB n
    · rw [withBit_same (.inl hs)]; exact ⟨by simpa using h1, h2⟩
    · cases hjb : j.testBit n.toNat
      · have hlb : l.testBit n.toNat = false := by
          cases hh : l.testBit n.toNat
          · rfl
          · rw [h2 _ hh] at hjb; cases hjb
        have hn := site_yes hs
        have p1 : popC (butNot (withBit j n) l) = popC (butNot j l) + 1 := by
          refine popC_add n.toNat (by omega) (fun i hi hne => ?_) ?_ ?_
          · rw [bn_with _ _ _ _ hj hl, bn_at _ _ _ hj hl]; simp [Ne.symm hne]
          · rw [bn_with _ _ _ _ hj hl]; simp [hs, hlb]
          · rw [bn_at _ _ _ hj hl]; simp [hjb]
        refine ⟨?_, fun i hb => ?_⟩
        · simp only [hlb, Bool.not_false, Bool.and_self, if_pos]; rw [p1]; omega
        · rw [testBit_withBit, h2 i hb]; rfl
      · rw [withBit_same (.inr hjb)]; exact ⟨by simpa using h1, h2⟩
  · show Orderly (j, withBit l n, if leaveR j l n = true then e + 1 else e)
    rw [leaveR_eq _ _ _ hj hl]
    cases hs : siteB n
    · rw [withBit_same (.inl hs)]; exact ⟨by simpa using h1, h2⟩
    · have hjb := he rfl hs
      cases hlb : l.testBit n.toNat
      · have hn := site_yes hs
        have p1 : popC (butNot j l) = popC (butNot j (withBit l n)) + 1 := by
          refine popC_add n.toNat (by omega) (fun i hi hne => ?_) ?_ ?_
          · rw [bn_with' _ _ _ _ hj hl, bn_at _ _ _ hj hl]; simp [Ne.symm hne]
          · rw [bn_at _ _ _ hj hl]; simp [hjb, hlb]
          · rw [bn_with' _ _ _ _ hj hl]; simp [hs]
        have p2 : popC (withBit l n) = popC l + 1 := by
          refine popC_add n.toNat (by omega) (fun i hi hne => ?_) ?_ ?_
          · rw [testBit_withBit]; simp [Ne.symm hne]
          · rw [testBit_withBit]; simp [hs]
          · exact hlb
        refine ⟨?_, fun i hb => ?_⟩
        · simp only [hjb, Bool.not_false, Bool.and_self, if_pos]; rw [p2]; omega
        · rw [testBit_withBit] at hb
          by_cases e : n.toNat = i
          · subst e; exact hjb
          · simp [e] at hb; exact h2 i hb
      · rw [withBit_same (.inr hlb)]; exact ⟨by simpa using h1, h2⟩
theorem Orderly.run (xs : List (Bool × Int)) : ∀ (k : Nat), k ≤ xs.length → earlyL xs k = false → Orderly (runS (0, 0, 0) (xs.take k))
  | 0, _, _ => Orderly.new
  | k + 1, hk, he => by
    have hlt : k < xs.length := hk
    rw [List.take_succ_eq_append_getElem hlt, runS_snoc]
    simp only [earlyL, List.getElem?_eq_getElem hlt, Bool.or_eq_false_iff] at he
    refine (Orderly.run xs k (by omega) he.1).step (Inv.new.run _) _ fun h1 h2 => ?_
    have := he.2
    rw [earlyAt, h1, h2] at this
    rw [bit_J _ _ h2]
    simpa using this
end Go.Proofs.YtfhgeanacecpjaaDoor
