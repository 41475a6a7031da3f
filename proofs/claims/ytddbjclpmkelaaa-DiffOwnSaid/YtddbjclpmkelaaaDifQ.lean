/-
  Diff, plain law (no program): the script that both programs print; its weight, its form, where it leads.
-/
import Derived.Test.YtddbjclpmkelaaaDifP
namespace Go.Proofs.Ytddbjclpmkelaaa
set_option linter.unusedVariables false

/-- One Edit: so many runes kept, so many dropped, and these laid. -/
structure Ed where
  keep : Nat
  drop : Nat
  text : List Int
namespace Ed
/-- Does it do anything? -/
def full (e : Ed) : Prop := 0 < e.drop ∨ e.text ≠ []
instance (e : Ed) : Decidable e.full := by unfold full; infer_instance
def flush (e : Ed) : List Ed := if e.full then [e] else []
/-- What is gathered behind a rune that both have. -/
def nxt (e : Ed) : Ed := if e.full then ⟨1, 0, []⟩ else ⟨e.keep + 1, 0, []⟩
def more (e : Ed) : Ed := ⟨e.keep, e.drop + 1, e.text⟩
def lay (e : Ed) (b : Int) : Ed := ⟨e.keep, e.drop, e.text ++ [b]⟩
theorem not_full {e : Ed} (h : ¬ e.full) : e.drop = 0 ∧ e.text = [] := by
  unfold full at h
  refine ⟨by omega, ?_⟩
  exact Classical.byContradiction fun k => h (.inr k)
end Ed

/-- The script, gathered so far: e. -/
def mkE : List Int → List Int → Ed → List Ed
  | [], [], e => e.flush
  | [], b :: y, e => mkE [] y (e.lay b)
  | a :: x, [], e => mkE x [] e.more
  | a :: x, b :: y, e => if a = b then e.flush ++ mkE x y e.nxt else if lft x (b :: y) < lft (a :: x) (b :: y) then mkE x (b :: y) e.more else mkE (a :: x) y (e.lay b)
termination_by x y => x.length + y.length

theorem mkE_nil (e : Ed) : mkE [] [] e = e.flush := by rw [mkE]
theorem mkE_lay0 (b : Int) (y : List Int) (e : Ed) : mkE [] (b :: y) e = mkE [] y (e.lay b) := by rw [mkE]
theorem mkE_more0 (a : Int) (x : List Int) (e : Ed) : mkE (a :: x) [] e = mkE x [] e.more := by rw [mkE]
theorem mkE_same (a : Int) (x y : List Int) (e : Ed) : mkE (a :: x) (a :: y) e = e.flush ++ mkE x y e.nxt := by rw [mkE]; simp
theorem mkE_more {a b : Int} (h : a ≠ b) (x y : List Int) (e : Ed) (hl : lft x (b :: y) < lft (a :: x) (b :: y)) : mkE (a :: x) (b :: y) e = mkE x (b :: y) e.more := by rw [mkE]; simp [h, hl]
theorem mkE_lay {a b : Int} (h : a ≠ b) (x y : List Int) (e : Ed) (hl : ¬ lft x (b :: y) < lft (a :: x) (b :: y)) : mkE (a :: x) (b :: y) e = mkE (a :: x) y (e.lay b) := by rw [mkE]; simp only [h, hl, if_false]

/-- Induction along the script. -/
theorem mk_ind {p : List Int → List Int → Ed → Prop} (h0 : ∀ e, p [] [] e) (h1 : ∀ b y e, p [] y (e.lay b) → p [] (b :: y) e) (h2 : ∀ a x e, p x [] e.more → p (a :: x) [] e)
    (h3 : ∀ a x y e, p x y e.nxt → p (a :: x) (a :: y) e) (h4 : ∀ a b x y e, a ≠ b → lft x (b :: y) < lft (a :: x) (b :: y) → p x (b :: y) e.more → p (a :: x) (b :: y) e)
    (h5 : ∀ a b x y e, a ≠ b → ¬ lft x (b :: y) < lft (a :: x) (b :: y) → p (a :: x) y (e.lay b) → p (a :: x) (b :: y) e) : ∀ (n : Nat) (x y : List Int) (e : Ed), x.length + y.length ≤ n → p x y e := by
  intro n
  induction n with
  | zero =>
    intro x y e h
    cases x with
    | nil =>
      cases y with
      | nil => exact h0 e
      | cons b y => simp at h
    | cons a x => simp at h
  | succ n ih =>
    intro x y e h
    cases x with
    | nil =>
      cases y with
      | nil => exact h0 e
      | cons b y => simp at h; exact h1 b y e (ih _ _ _ (by simp; omega))
    | cons a x =>
      cases y with
      | nil => simp at h; exact h2 a x e (ih _ _ _ (by simp; omega))
      | cons b y =>
        simp at h
        by_cases he : a = b
        · subst he; exact h3 a x y e (ih _ _ _ (by omega))
        · by_cases hl : lft x (b :: y) < lft (a :: x) (b :: y)
          · exact h4 a b x y e he hl (ih _ _ _ (by simp; omega))
          · exact h5 a b x y e he hl (ih _ _ _ (by simp; omega))

/-- How many runes a script drops and lays. -/
def wgt : List Ed → Nat
  | [] => 0
  | e :: l => e.drop + e.text.length + wgt l
theorem wgt_append (l m : List Ed) : wgt (l ++ m) = wgt l + wgt m := by
  induction l with
  | nil => simp [wgt]
  | cons e l ih => simp [wgt, ih]; omega
theorem wgt_flush (e : Ed) : wgt e.flush = e.drop + e.text.length := by
  unfold Ed.flush
  by_cases h : e.full
  · simp [h, wgt]
  · obtain ⟨h1, h2⟩ := e.not_full h
    simp [h, wgt, h1, h2]
theorem wgt_mk (x y : List Int) (e : Ed) : wgt (mkE x y e) = lft x y + e.drop + e.text.length := by
  refine mk_ind (p := fun x y e => wgt (mkE x y e) = lft x y + e.drop + e.text.length) ?_ ?_ ?_ ?_ ?_ ?_ _ x y e (Nat.le_refl _)
  · intro e; rw [mkE_nil, wgt_flush, nil_lft]; simp
  · intro b y e h; rw [mkE_lay0, h]; simp [Ed.lay, nil_lft]; omega
  · intro a x e h; rw [mkE_more0, h]; simp [Ed.more, lft_nil]; omega
  · intro a x y e h
    rw [mkE_same, wgt_append, h, wgt_flush, lft_cons_same]
    have : e.nxt.drop = 0 ∧ e.nxt.text = [] := by unfold Ed.nxt; split <;> exact ⟨rfl, rfl⟩
    rw [this.1, this.2]; simp; omega
  · intro a b x y e he hl h
    rw [mkE_more he _ _ _ hl, h]
    rw [lft_cons_ne he] at hl ⊢
    simp [Ed.more]; omega
  · intro a b x y e he hl h
    rw [mkE_lay he _ _ _ hl, h]
    rw [lft_cons_ne he] at hl ⊢
    simp [Ed.lay]
    have hs : lft (a :: x) y ≤ 1 + lft x (b :: y) ∨ True := .inr trivial
    omega

/-- A script's form: each Edit does something, and none but the first keeps nothing. -/
theorem form_mk (x y : List Int) (e : Ed) : (∀ d ∈ mkE x y e, d.full) ∧ (1 ≤ e.keep → ∀ d ∈ mkE x y e, 1 ≤ d.keep) ∧ ∀ d ∈ (mkE x y e).tail, 1 ≤ d.keep := by
  refine mk_ind (p := fun x y e => (∀ d ∈ mkE x y e, d.full) ∧ (1 ≤ e.keep → ∀ d ∈ mkE x y e, 1 ≤ d.keep) ∧ ∀ d ∈ (mkE x y e).tail, 1 ≤ d.keep) ?_ ?_ ?_ ?_ ?_ ?_ _ x y e (Nat.le_refl _)
  · intro e
    rw [mkE_nil]
    unfold Ed.flush
    by_cases h : e.full
    · simp [h]
    · simp [h]
  · intro b y e h; rw [mkE_lay0]; exact h
  · intro a x e h; rw [mkE_more0]; exact h
  · intro a x y e ⟨h1, h2, h3⟩
    have hn : 1 ≤ e.nxt.keep := by unfold Ed.nxt; split <;> simp
    rw [mkE_same]
    unfold Ed.flush
    by_cases h : e.full
    · simp only [h, if_true]
      refine ⟨fun d hd => ?_, fun hk d hd => ?_, fun d hd => ?_⟩
      · rcases List.mem_cons.1 hd with rfl | hd
        · exact h
        · exact h1 d hd
      · rcases List.mem_cons.1 hd with rfl | hd
        · exact hk
        · exact h2 hn d hd
      · exact h2 hn d hd
    · simp only [h, if_false, List.nil_append]
      exact ⟨h1, fun _ => h2 hn, h3⟩
  · intro a b x y e he hl h; rw [mkE_more he _ _ _ hl]; exact h
  · intro a b x y e he hl h; rw [mkE_lay he _ _ _ hl]; exact h

/-- What a script makes of a list of runes. -/
def app : List Int → List Ed → Option (List Int)
  | x, [] => some x
  | x, e :: l => if e.keep ≤ x.length ∧ e.drop ≤ x.length - e.keep then (app (x.drop (e.keep + e.drop)) l).map (fun r => x.take e.keep ++ e.text ++ r) else none
theorem app_cons (p d x : List Int) (t : List Int) (l : List Ed) (k n : Nat) (hp : p.length = k) (hd : d.length = n) : app (p ++ d ++ x) (⟨k, n, t⟩ :: l) = (app x l).map (fun r => p ++ t ++ r) := by
  subst hp; subst hd
  have h1 : (p ++ d ++ x).drop (p.length + d.length) = x := by rw [← List.length_append]; simp
  have h2 : (p ++ d ++ x).take p.length = p := by rw [List.append_assoc]; simp
  rw [app, if_pos (by simp)]
  simp only [h1, h2]
/-- It leads there. -/
theorem app_mk (x y : List Int) (e : Ed) : ∀ p d : List Int, p.length = e.keep → d.length = e.drop → app (p ++ d ++ x) (mkE x y e) = some (p ++ e.text ++ y) := by
  refine mk_ind (p := fun x y e => ∀ p d : List Int, p.length = e.keep → d.length = e.drop → app (p ++ d ++ x) (mkE x y e) = some (p ++ e.text ++ y)) ?_ ?_ ?_ ?_ ?_ ?_ _ x y e (Nat.le_refl _)
  · intro e p d hp hd
    rw [mkE_nil]
    unfold Ed.flush
    by_cases h : e.full
    · rw [if_pos h, app_cons p d [] e.text [] e.keep e.drop hp hd]; simp [app]
    · obtain ⟨h1, h2⟩ := e.not_full h
      rw [if_neg h, h2]
      have : d = [] := List.eq_nil_of_length_eq_zero (by omega)
      subst this
      simp [app]
  · intro b y e ih p d hp hd
    rw [mkE_lay0, ih p d hp hd]; simp [Ed.lay]
  · intro a x e ih p d hp hd
    have := ih p (d ++ [a]) hp (by simp [Ed.more, hd])
    rw [mkE_more0, ← show p ++ (d ++ [a]) ++ x = p ++ d ++ (a :: x) by simp, this]; simp [Ed.more]
  · intro a x y e ih p d hp hd
    rw [mkE_same]
    unfold Ed.flush
    by_cases h : e.full
    · have hn : e.nxt = ⟨1, 0, []⟩ := by unfold Ed.nxt; rw [if_pos h]
      have := ih [a] [] (by rw [hn]; rfl) (by rw [hn]; rfl)
      rw [hn] at this
      rw [if_pos h, hn, List.cons_append, List.nil_append, app_cons p d (a :: x) e.text _ e.keep e.drop hp hd]
      simp only [List.append_nil, List.cons_append, List.nil_append] at this
      rw [this]; simp
    · obtain ⟨h1, h2⟩ := e.not_full h
      have hn : e.nxt = ⟨e.keep + 1, 0, []⟩ := by unfold Ed.nxt; rw [if_neg h]
      have : d = [] := List.eq_nil_of_length_eq_zero (by omega)
      subst this
      have := ih (p ++ [a]) [] (by rw [hn]; simp [hp]) (by rw [hn]; rfl)
      rw [hn] at this
      rw [if_neg h, hn, h2]
      simp only [List.append_nil, List.nil_append] at this ⊢
      rw [← show p ++ [a] ++ x = p ++ (a :: x) by simp, this]; simp
  · intro a b x y e he hl ih p d hp hd
    have := ih p (d ++ [a]) hp (by simp [Ed.more, hd])
    rw [mkE_more he _ _ _ hl, ← show p ++ (d ++ [a]) ++ x = p ++ d ++ (a :: x) by simp, this]; simp [Ed.more]
  · intro a b x y e he hl ih p d hp hd
    rw [mkE_lay he _ _ _ hl, ih p d hp hd]; simp [Ed.lay]

/-- The least script. -/
def mkD (x y : List Int) : List Ed := mkE x y ⟨0, 0, []⟩
theorem mkD_wgt (x y : List Int) : wgt (mkD x y) = lft x y := by unfold mkD; rw [wgt_mk]; simp
theorem mkD_app (x y : List Int) : app x (mkD x y) = some y := by
  have := app_mk x y ⟨0, 0, []⟩ [] [] rfl rfl
  unfold mkD
  simpa using this
theorem mkD_self (x : List Int) : mkD x x = [] := by
  have hw := mkD_wgt x x
  rw [lft_self] at hw
  have hf := (form_mk x x ⟨0, 0, []⟩).1
  cases hm : mkD x x with
  | nil => rfl
  | cons e l =>
    rw [hm] at hw
    have := hf e (by show e ∈ mkD x x; rw [hm]; simp)
    simp [wgt] at hw
    rcases this with h | h
    · omega
    · exact absurd hw.1.2 h
end Go.Proofs.Ytddbjclpmkelaaa
