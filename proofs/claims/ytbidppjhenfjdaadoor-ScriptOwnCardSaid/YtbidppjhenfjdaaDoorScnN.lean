/-
  Numbers in decimal digits: plain.
-/
import Derived.Lib.AtoiAll
import Derived.Lib.ItoaNum
namespace Go.Proofs.YtbidppjhenfjdaaDoor
open Go Go.Lib
set_option linter.unusedVariables false
set_option linter.unusedSimpArgs false

/-- What digits spell, behind acc; none: one is no digit. -/
def dfold : List UInt8 → Nat → Option Nat
  | [], acc => some acc
  | c :: r, acc => if 48 ≤ c.toNat ∧ c.toNat ≤ 57 then dfold r (acc * 10 + (c.toNat - 48)) else none
theorem dfold_append (a b : List UInt8) : ∀ acc, dfold (a ++ b) acc = (dfold a acc).bind fun n => dfold b n := by
  induction a with
  | nil => intro acc; rfl
  | cons c a ih =>
    intro acc
    simp only [List.cons_append, dfold]
    split
    · exact ih _
    · rfl
theorem dfold_lt : ∀ (l : List UInt8) (acc k n : Nat), acc < 10 ^ k → dfold l acc = some n → n < 10 ^ (k + l.length)
  | [], acc, k, n, h, e => by simp only [dfold, Option.some.injEq] at e; subst e; simpa using h
  | c :: r, acc, k, n, h, e => by
    simp only [dfold] at e
    split at e
    · have := dfold_lt r _ (k + 1) n (by rw [Nat.pow_succ]; omega) e
      rw [List.length_cons, show k + (r.length + 1) = k + 1 + r.length by omega]
      exact this
    · cases e
theorem dfold_ge : ∀ (l : List UInt8) (acc n : Nat), dfold l acc = some n → acc ≤ n
  | [], acc, n, e => by simp only [dfold, Option.some.injEq] at e; omega
  | c :: r, acc, n, e => by
    simp only [dfold] at e
    split at e
    · have := dfold_ge r _ n e; omega
    · cases e
theorem u8_48 (d : Nat) (h : d < 10) : (UInt8.ofNat (48 + d)).toNat = 48 + d := by simp; omega
/-- A number's digits spell it. -/
theorem dfold_dec : ∀ u : Nat, dfold (decDigits u) 0 = some u := by
  intro u
  induction u using Nat.strongRecOn with
  | ind u ih =>
    by_cases h : u < 10
    · rw [decDigits, dif_pos h]
      simp only [dfold, u8_48 u h]
      rw [if_pos (by omega)]
      congr 1
      omega
    · rw [decDigits, dif_neg h, dfold_append, ih (u / 10) (by omega)]
      simp only [Option.bind_some, dfold, u8_48 (u % 10) (Nat.mod_lt _ (by decide))]
      rw [if_pos (by omega)]
      congr 1
      omega
theorem dec_ne (u : Nat) : decDigits u ≠ [] := by
  rw [decDigits]
  split <;> simp
/-- No number begins with a 0 but 0. -/
theorem dec_head : ∀ u : Nat, 1 ≤ u → ∀ c r, decDigits u = c :: r → c.toNat ≠ 48 := by
  intro u
  induction u using Nat.strongRecOn with
  | ind u ih =>
    intro h1 c r he
    by_cases h : u < 10
    · rw [decDigits, dif_pos h] at he
      injection he with he _
      rw [← he, u8_48 u h]
      omega
    · rw [decDigits, dif_neg h] at he
      cases hd : decDigits (u / 10) with
      | nil => exact absurd hd (dec_ne _)
      | cons c' r' =>
        rw [hd, List.cons_append] at he
        injection he with he _
        subst he
        exact ih (u / 10) (by omega) (by omega) c' r' hd
/-- Digits with no 0 ahead are their number's digits. -/
theorem dec_fold : ∀ (m : Nat) (l : List UInt8) (u : Nat), l.length ≤ m → l ≠ [] → (∀ c r, l = c :: r → c.toNat ≠ 48 ∨ r = []) → dfold l 0 = some u → decDigits u = l := by
  intro m
  induction m with
  | zero => intro l u hm hne; exact absurd (List.eq_nil_of_length_eq_zero (by omega)) hne
  | succ m ih =>
    intro l u hm hne hh hf
    obtain ⟨a, c, rfl⟩ : ∃ a c, l = a ++ [c] := ⟨l.dropLast, l.getLast hne, (List.dropLast_concat_getLast hne).symm⟩
    rw [dfold_append] at hf
    cases ha : dfold a 0 with
    | none => rw [ha] at hf; cases hf
    | some v =>
      rw [ha] at hf
      simp only [Option.bind_some, dfold] at hf
      split at hf
      · rename_i hc
        injection hf with hf
        have h255 := c.toNat_lt
        have hcc : UInt8.ofNat (48 + (c.toNat - 48)) = c := by
          apply UInt8.toNat_inj.1
          rw [u8_48 _ (by omega)]
          omega
        by_cases hn : a = []
        · subst hn
          simp only [dfold, Option.some.injEq] at ha
          subst ha
          have hu : u = c.toNat - 48 := by omega
          rw [decDigits, dif_pos (by omega), hu, hcc]
          rfl
        · have hh2 : ∀ c' r', a = c' :: r' → c'.toNat ≠ 48 := fun c' r' e => by
            rcases hh c' (r' ++ [c]) (by rw [e]; rfl) with h | h
            · exact h
            · simp at h
          have hd := ih a v (by simp at hm; omega) hn (fun c' r' e => .inl (hh2 c' r' e)) ha
          have hv : 1 ≤ v := by
            cases a with
            | nil => exact absurd rfl hn
            | cons c' r' =>
              have h1 := hh2 c' r' rfl
              simp only [dfold] at ha
              split at ha
              · have := dfold_ge _ _ _ ha
                omega
              · cases ha
          rw [decDigits, dif_neg (by omega)]
          have e1 : u / 10 = v := by omega
          have e2 : u % 10 = c.toNat - 48 := by omega
          rw [e1, e2, hd, hcc]
      · cases hf
theorem parse_fold : ∀ (l : List UInt8) (acc n : Nat), dfold l acc = some n → n < 18446744073709551616 → parseUint10 acc l = .ok n
  | [], acc, n, e, h => by simp only [dfold, Option.some.injEq] at e; subst e; rfl
  | c :: r, acc, n, e, h => by
    simp only [dfold] at e
    split at e
    · rename_i hc
      have hg := dfold_ge _ _ _ e
      simp only [parseUint10]
      rw [if_pos hc, if_neg (by omega), if_neg (by omega)]
      exact parse_fold r _ n e h
    · cases e
theorem fold_parse : ∀ (l : List UInt8) (acc n : Nat), parseUint10 acc l = .ok n → dfold l acc = some n
  | [], acc, n, e => by simp only [parseUint10] at e; injection e with e; subst e; rfl
  | c :: r, acc, n, e => by
    simp only [parseUint10] at e
    split at e
    · rename_i hc
      split at e
      · cases e
      · split at e
        · cases e
        · simp only [dfold]
          rw [if_pos hc]
          exact fold_parse r _ n e
    · cases e
/-- The number that digits spell, behind a sign or not; none: it is not the one form of a number. -/
def numO (neg : Bool) (d : List UInt8) : Option Int :=
  if 19 < d.length then none
  else match d with
    | [] => none
    | c :: r =>
      if c.toNat = 48 ∧ (r ≠ [] ∨ neg = true) then none
      else match dfold d 0 with
        | none => none
        | some n => if neg = true then (if 9223372036854775808 < n then none else some (-(n : Int))) else (if n < 9223372036854775808 then some (n : Int) else none)
theorem numO_some {neg : Bool} {d : List UInt8} {v : Int} (h : numO neg d = some v) : ∃ c r n, d = c :: r ∧ d.length ≤ 19 ∧ ¬ (c.toNat = 48 ∧ (r ≠ [] ∨ neg = true)) ∧ dfold d 0 = some n ∧ ((neg = true ∧ n ≤ 9223372036854775808 ∧ v = -(n : Int)) ∨ (neg = false ∧ n < 9223372036854775808 ∧ v = (n : Int))) := by
  unfold numO at h
  split at h
  · cases h
  · rename_i hl
    cases d with
    | nil => cases h
    | cons c r =>
      simp only at h
      split at h
      · cases h
      · rename_i h0
        split at h
        · cases h
        · rename_i n hn
          refine ⟨c, r, n, rfl, by omega, h0, hn, ?_⟩
          cases neg with
          | true =>
            simp only [if_true] at h
            split at h
            · cases h
            · injection h with h; exact .inl ⟨rfl, by omega, h.symm⟩
          | false =>
            simp only [Bool.false_eq_true, if_false] at h
            split at h
            · injection h with h; exact .inr ⟨rfl, by assumption, h.symm⟩
            · cases h
theorem numO_of {neg : Bool} {c : UInt8} {r : List UInt8} {n : Nat} (h1 : (c :: r).length ≤ 19) (h2 : ¬ (c.toNat = 48 ∧ (r ≠ [] ∨ neg = true))) (h3 : dfold (c :: r) 0 = some n)
    (h4 : (neg = true ∧ n ≤ 9223372036854775808) ∨ (neg = false ∧ n < 9223372036854775808)) : numO neg (c :: r) = some (if neg = true then -(n : Int) else (n : Int)) := by
  unfold numO
  rw [if_neg (by omega)]
  simp only
  rw [if_neg h2, h3]
  simp only
  rcases h4 with ⟨rfl, h4⟩ | ⟨rfl, h4⟩
  · rw [if_pos rfl, if_pos rfl, if_neg (by omega)]
  · simp only [Bool.false_eq_true, if_false, h4, if_true]
/-- The number of a text: a minus is its sign. -/
def numT (l : List UInt8) : Option Int := match l with
  | [] => none
  | c :: r => if c.toNat = 45 then numO true r else numO false l
theorem dec_len_lt {u : Nat} (h : u < 10000000000000000000) : (decDigits u).length ≤ 19 := by
  have key : ∀ (k u : Nat), 0 < k → u < 10 ^ k → (decDigits u).length ≤ k := by
    intro k
    induction k with
    | zero => intro u h; omega
    | succ k ih =>
      intro u _ hu
      by_cases h : u < 10
      · rw [decDigits, dif_pos h]; simp
      · have hk : 0 < k := by
          refine Nat.pos_of_ne_zero fun e => ?_
          subst e
          simp at hu; omega
        rw [decDigits, dif_neg h, List.length_append, List.length_singleton]
        have := ih (u / 10) hk (by rw [Nat.pow_succ] at hu; omega)
        omega
  exact key 19 u (by decide) h
/-- What Atoi and Itoa say together, and the reference's number: the same. -/
theorem atoi_numT {l : List UInt8} {v : Int} : (atoiAll l = .ok v ∧ itoa v = l) ↔ (numT l = some v) := by
  constructor
  · rintro ⟨h1, h2⟩
    have hv : -9223372036854775808 ≤ v ∧ v < 9223372036854775808 := by
      unfold atoiAll at h1
      cases l with
      | nil => cases h1
      | cons c r =>
        simp only at h1
        split at h1
        · cases h1
        · cases h1
        · split at h1
          · cases h1
          · split at h1
            · cases h1
            · injection h1 with h1
              split at h1 <;> omega
    by_cases hn : v < 0
    · have hi : itoa v = 45 :: decDigits v.natAbs := by unfold itoa; rw [if_pos hn]
      rw [hi] at h2
      subst h2
      have hna : 1 ≤ v.natAbs := by omega
      cases hd : decDigits v.natAbs with
      | nil => exact absurd hd (dec_ne _)
      | cons c r =>
        have hl := dec_len_lt (u := v.natAbs) (by omega)
        have hf := dfold_dec v.natAbs
        have hh := dec_head _ hna c r hd
        rw [hd] at hl hf
        show (if (45 : UInt8).toNat = 45 then numO true (c :: r) else numO false (45 :: c :: r)) = some v
        rw [if_pos (by decide), numO_of hl (fun h => hh h.1) hf (.inl ⟨rfl, by omega⟩), if_pos rfl]
        congr 1
        omega
    · have hi : itoa v = decDigits v.toNat := by unfold itoa; rw [if_neg hn]
      rw [hi] at h2
      subst h2
      cases hd : decDigits v.toNat with
      | nil => exact absurd hd (dec_ne _)
      | cons c r =>
        have hl := dec_len_lt (u := v.toNat) (by omega)
        have hf := dfold_dec v.toNat
        have hh : ¬ (c.toNat = 48 ∧ (r ≠ [] ∨ false = true)) := by
          rintro ⟨a1, a2⟩
          by_cases hz : v.toNat < 10
          · rw [decDigits, dif_pos hz] at hd
            injection hd with _ hd
            simp [← hd] at a2
          · exact dec_head _ (by omega) c r hd a1
        rw [hd] at hl hf
        have hdig : 48 ≤ c.toNat := by
          simp only [dfold] at hf
          split at hf
          · rename_i h; exact h.1
          · cases hf
        show (if c.toNat = 45 then numO true r else numO false (c :: r)) = some v
        rw [if_neg (by omega), numO_of hl hh hf (.inr ⟨rfl, by omega⟩), if_neg (by simp)]
        congr 1
        omega
  · intro h
    cases l with
    | nil => cases h
    | cons c r =>
      have h' : (if c.toNat = 45 then numO true r else numO false (c :: r)) = some v := h
      split at h'
      · rename_i h45
        obtain ⟨c2, r2, n, rfl, hl, hh, hf, hv⟩ := numO_some h'
        obtain ⟨_, hn, rfl⟩ : (true = true ∧ n ≤ 9223372036854775808 ∧ v = -(n : Int)) := by
          rcases hv with hv | hv
          · exact hv
          · cases hv.1
        have hp := parse_fold _ _ _ hf (by omega)
        have hc45 : c = 45 := UInt8.toNat_inj.1 h45
        have hd := dec_fold _ (c2 :: r2) n (Nat.le_refl _) (by simp) (fun c' r' e => by
          injection e with e1 e2
          subst e1
          exact .inl (fun e => hh ⟨e, .inr rfl⟩)) hf
        have hn1 : 1 ≤ n := by
          by_cases h0 : n = 0
          · subst h0
            rw [decDigits, dif_pos (by decide)] at hd
            injection hd with hd _
            exact absurd ⟨by rw [← hd]; rfl, .inr rfl⟩ hh
          · omega
        constructor
        · unfold atoiAll
          simp only
          rw [if_pos (.inr h45)]
          simp only [parseMag]
          rw [if_neg (by simp), hp]
          simp only [h45]
          rw [if_neg (by simp), if_neg (by omega)]
          simp
        · unfold itoa
          rw [if_pos (by omega), show (-(n : Int)).natAbs = n by omega, hd, hc45]
      · rename_i h45
        obtain ⟨c2, r2, n, he, hl, hh, hf, hv⟩ := numO_some h'
        injection he with e1 e2
        subst e1
        subst e2
        obtain ⟨_, hn, rfl⟩ : (false = false ∧ n < 9223372036854775808 ∧ v = (n : Int)) := by
          rcases hv with hv | hv
          · cases hv.1
          · exact hv
        have hp := parse_fold _ _ _ hf (by omega)
        have hdig : 48 ≤ c.toNat := by
          have hf2 := hf
          simp only [dfold] at hf2
          split at hf2
          · rename_i h; exact h.1
          · cases hf2
        have hd := dec_fold _ (c :: r) n (Nat.le_refl _) (by simp) (fun c' r' e => by
          injection e with e1 e2
          subst e1
          subst e2
          by_cases h : r = []
          · exact .inr h
          · exact .inl (fun e => hh ⟨e, .inl h⟩)) hf
        constructor
        · unfold atoiAll
          simp only
          rw [if_neg (by omega)]
          simp only [parseMag]
          rw [if_neg (by simp), hp]
          simp only [h45]
          rw [if_neg (by omega), if_neg (by simp)]
          simp
        · unfold itoa
          rw [if_neg (by omega), show ((n : Int)).toNat = n by omega, hd]
end Go.Proofs.YtbidppjhenfjdaaDoor
