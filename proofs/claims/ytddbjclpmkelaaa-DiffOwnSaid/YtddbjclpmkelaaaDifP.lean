/-
  Diff, plain law (no program): longest common rows, what is left to do, the least script.
-/
import Derived.Test.YtddbjclpmkelaaaKeep
namespace Go.Proofs.Ytddbjclpmkelaaa
set_option linter.unusedVariables false

/-- How many runes the longest row has that stands in both in this order. -/
def lcs : List Int → List Int → Nat
  | [], _ => 0
  | _ :: _, [] => 0
  | a :: x, b :: y => if a = b then lcs x y + 1 else max (lcs x (b :: y)) (lcs (a :: x) y)
termination_by x y => x.length + y.length
/-- How little is to do with what is left of both. -/
def lft : List Int → List Int → Nat
  | [], y => y.length
  | a :: x, [] => x.length + 1
  | a :: x, b :: y => if a = b then lft x y else 1 + min (lft x (b :: y)) (lft (a :: x) y)
termination_by x y => x.length + y.length

theorem lcs_nil (x : List Int) : lcs x [] = 0 := by cases x <;> simp [lcs]
theorem nil_lcs (y : List Int) : lcs [] y = 0 := by simp [lcs]
theorem lcs_cons_same (a : Int) (x y : List Int) : lcs (a :: x) (a :: y) = lcs x y + 1 := by rw [lcs]; simp
theorem lcs_cons_ne {a b : Int} (h : a ≠ b) (x y : List Int) : lcs (a :: x) (b :: y) = max (lcs x (b :: y)) (lcs (a :: x) y) := by rw [lcs]; simp [h]
theorem lft_nil (x : List Int) : lft x [] = x.length := by cases x <;> simp [lft]
theorem nil_lft (y : List Int) : lft [] y = y.length := by simp [lft]
theorem lft_cons_same (a : Int) (x y : List Int) : lft (a :: x) (a :: y) = lft x y := by rw [lft]; simp
theorem lft_cons_ne {a b : Int} (h : a ≠ b) (x y : List Int) : lft (a :: x) (b :: y) = 1 + min (lft x (b :: y)) (lft (a :: x) y) := by rw [lft]; simp [h]

/-- Induction over two lists. -/
theorem two_lists {p : List Int → List Int → Prop} (h1 : ∀ y, p [] y) (h2 : ∀ a x, p (a :: x) []) (h3 : ∀ a x y, p x y → p (a :: x) (a :: y))
    (h4 : ∀ a b x y, a ≠ b → p x (b :: y) → p (a :: x) y → p (a :: x) (b :: y)) : ∀ (n : Nat) (x y : List Int), x.length + y.length ≤ n → p x y := by
  intro n
  induction n with
  | zero =>
    intro x y h
    cases x with
    | nil => exact h1 y
    | cons a x => simp at h
  | succ n ih =>
    intro x y h
    cases x with
    | nil => exact h1 y
    | cons a x =>
      cases y with
      | nil => exact h2 a x
      | cons b y =>
        simp at h
        by_cases e : a = b
        · subst e; exact h3 a x y (ih x y (by omega))
        · exact h4 a b x y e (ih x (b :: y) (by simp; omega)) (ih (a :: x) y (by simp; omega))

theorem lft_lcs (x y : List Int) : lft x y + 2 * lcs x y = x.length + y.length := by
  refine two_lists (p := fun x y => lft x y + 2 * lcs x y = x.length + y.length) ?_ ?_ ?_ ?_ _ x y (Nat.le_refl _)
  · intro y; simp [nil_lft, nil_lcs]
  · intro a x; simp [lft_nil, lcs_nil]
  · intro a x y h; rw [lft_cons_same, lcs_cons_same]; simp; omega
  · intro a b x y e h5 h6; rw [lft_cons_ne e, lcs_cons_ne e]; simp at *; omega

theorem sub_lcs (x y : List Int) : ∀ z : List Int, z.Sublist x → z.Sublist y → z.length ≤ lcs x y := by
  refine two_lists (p := fun x y => ∀ z : List Int, z.Sublist x → z.Sublist y → z.length ≤ lcs x y) ?_ ?_ ?_ ?_ _ x y (Nat.le_refl _)
  · intro y z h1 h2; rw [List.sublist_nil.1 h1]; simp
  · intro a x z h1 h2; rw [List.sublist_nil.1 h2]; simp
  · intro a x y ih z h1 h2
    rw [lcs_cons_same]
    cases z with
    | nil => simp
    | cons c z =>
      have k1 : z.Sublist x := List.Sublist.trans (by simp) (h1.tail)
      have k2 : z.Sublist y := List.Sublist.trans (by simp) (h2.tail)
      have := ih z k1 k2
      simp; omega
  · intro a b x y e i1 i2 z h1 h2
    rw [lcs_cons_ne e]
    cases z with
    | nil => simp
    | cons c z =>
      by_cases ec : c = a
      · have : c ≠ b := fun h => e (ec ▸ h)
        have k2 : (c :: z).Sublist y := by
          cases h2 with
          | cons _ h => exact h
          | cons_cons _ h => exact absurd rfl this
        have := i2 _ h1 k2
        omega
      · have k1 : (c :: z).Sublist x := by
          cases h1 with
          | cons _ h => exact h
          | cons_cons _ h => exact absurd rfl ec
        have := i1 _ k1 h2
        omega

theorem lcs_sub (x y : List Int) : ∃ z : List Int, z.Sublist x ∧ z.Sublist y ∧ z.length = lcs x y := by
  refine two_lists (p := fun x y => ∃ z : List Int, z.Sublist x ∧ z.Sublist y ∧ z.length = lcs x y) ?_ ?_ ?_ ?_ _ x y (Nat.le_refl _)
  · intro y; exact ⟨[], by simp, by simp, by simp [nil_lcs]⟩
  · intro a x; exact ⟨[], by simp, by simp, by simp [lcs_nil]⟩
  · rintro a x y ⟨z, h1, h2, h3⟩; exact ⟨a :: z, h1.cons_cons a, h2.cons_cons a, by rw [lcs_cons_same]; simp [h3]⟩
  · rintro a b x y e ⟨z, h1, h2, h3⟩ ⟨z', h1', h2', h3'⟩
    rw [lcs_cons_ne e]
    rcases Nat.le_total (lcs x (b :: y)) (lcs (a :: x) y) with h | h
    · exact ⟨z', h1', h2'.cons b, by omega⟩
    · exact ⟨z, h1.cons a, h2, by omega⟩

theorem lcs_comm (x y : List Int) : lcs x y = lcs y x := by
  obtain ⟨z, h1, h2, h3⟩ := lcs_sub x y
  obtain ⟨z', h1', h2', h3'⟩ := lcs_sub y x
  have := sub_lcs y x z h2 h1
  have := sub_lcs x y z' h2' h1'
  omega
theorem lcs_reverse (x y : List Int) : lcs x.reverse y.reverse = lcs x y := by
  have one : ∀ x y : List Int, lcs x y ≤ lcs x.reverse y.reverse := fun x y => by
    obtain ⟨z, h1, h2, h3⟩ := lcs_sub x y
    have := sub_lcs x.reverse y.reverse z.reverse h1.reverse h2.reverse
    simp at this; omega
  have h := one x.reverse y.reverse
  simp at h
  exact Nat.le_antisymm h (one x y)
theorem lcs_self (x : List Int) : lcs x x = x.length := by
  induction x with
  | nil => simp [nil_lcs]
  | cons a x ih => rw [lcs_cons_same, ih]; rfl
theorem lcs_front (c x y : List Int) : lcs (c ++ x) (c ++ y) = c.length + lcs x y := by
  induction c with
  | nil => simp
  | cons a c ih => rw [List.cons_append, List.cons_append, lcs_cons_same, ih]; simp; omega
theorem lcs_back (c x y : List Int) : lcs (x ++ c) (y ++ c) = c.length + lcs x y := by
  rw [← lcs_reverse, List.reverse_append, List.reverse_append, lcs_front, lcs_reverse, List.length_reverse]
/-- Two rows of one: what they have in common. -/
theorem sub_meet (c : List Int) : ∀ z1 z2 : List Int, z1.Sublist c → z2.Sublist c → ∃ z : List Int, z.Sublist z1 ∧ z.Sublist z2 ∧ z1.length + z2.length ≤ z.length + c.length := by
  induction c with
  | nil =>
    intro z1 z2 h1 h2
    rw [List.sublist_nil.1 h1, List.sublist_nil.1 h2]
    exact ⟨[], by simp, by simp, by simp⟩
  | cons a c ih =>
    intro z1 z2 h1 h2
    cases h1 with
    | cons _ h1 =>
      cases h2 with
      | cons _ h2 => obtain ⟨z, k1, k2, k3⟩ := ih _ _ h1 h2; exact ⟨z, k1, k2, by simp; omega⟩
      | cons_cons _ h2 => obtain ⟨z, k1, k2, k3⟩ := ih _ _ h1 h2; exact ⟨z, k1, k2.cons a, by simp; omega⟩
    | cons_cons _ h1 =>
      cases h2 with
      | cons _ h2 => obtain ⟨z, k1, k2, k3⟩ := ih _ _ h1 h2; exact ⟨z, k1.cons a, k2, by simp; omega⟩
      | cons_cons _ h2 => obtain ⟨z, k1, k2, k3⟩ := ih _ _ h1 h2; exact ⟨a :: z, k1.cons_cons a, k2.cons_cons a, by simp; omega⟩
/-- By way of a third one it is no less. -/
theorem lft_third (x y c : List Int) : lft x y ≤ lft x c + lft c y := by
  obtain ⟨z1, a1, a2, a3⟩ := lcs_sub x c
  obtain ⟨z2, b1, b2, b3⟩ := lcs_sub c y
  obtain ⟨z, k1, k2, k3⟩ := sub_meet c z1 z2 a2 b1
  have h := sub_lcs x y z (k1.trans a1) (k2.trans b2)
  have h1 := lft_lcs x y
  have h2 := lft_lcs x c
  have h3 := lft_lcs c y
  omega
theorem lft_comm (x y : List Int) : lft x y = lft y x := by
  have h1 := lft_lcs x y
  have h2 := lft_lcs y x
  have := lcs_comm x y
  omega
theorem lft_affix (c x y d : List Int) : lft (c ++ x ++ d) (c ++ y ++ d) = lft x y := by
  have h1 := lft_lcs (c ++ x ++ d) (c ++ y ++ d)
  have h2 := lft_lcs x y
  rw [List.append_assoc, List.append_assoc, lcs_front, lcs_back] at h1
  simp only [List.length_append] at h1
  rw [List.append_assoc, List.append_assoc]
  omega
theorem lft_self (x : List Int) : lft x x = 0 := by
  have := lft_lcs x x
  rw [lcs_self] at this
  omega
end Go.Proofs.Ytddbjclpmkelaaa
