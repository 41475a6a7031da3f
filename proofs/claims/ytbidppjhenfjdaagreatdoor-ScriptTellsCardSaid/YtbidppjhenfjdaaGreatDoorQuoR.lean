/-
  What a quoted text says: plain.
-/
import Derived.Test.YtbidppjhenfjdaaGreatDoorQuoF
namespace Go.Proofs.YtbidppjhenfjdaaGreatDoor
open Go.RowKit
set_option linter.unusedVariables false
set_option linter.unusedSimpArgs false

/-- What a letter behind a backslash says; 0: it is none. -/
def unl (c : Nat) : Nat := if c = 34 then 34 else if c = 92 then 92 else if c = 110 then 10 else if c = 114 then 13 else if c = 116 then 9 else 0
theorem unl_lt (c : Nat) : unl c < 128 := by unfold unl; (repeat' split) <;> omega
/-- Hexadecimal digits from k on, j at most: the byte behind them, and the number. -/
def hrun (t : ByteArray) : Nat → Nat → Nat → Nat × Nat
  | 0, k, n => (k, n)
  | j + 1, k, n => if k < t.size ∧ hx (byt t k) < 16 then hrun t j (k + 1) (16 * n + hx (byt t k)) else (k, n)
theorem hrun_0 (t : ByteArray) (k n : Nat) : hrun t 0 k n = (k, n) := rfl
theorem hrun_on {t : ByteArray} {j k n : Nat} (h1 : k < t.size) (h2 : hx (byt t k) < 16) : hrun t (j + 1) k n = hrun t j (k + 1) (16 * n + hx (byt t k)) := by
  rw [hrun, if_pos ⟨h1, h2⟩]
theorem hrun_end {t : ByteArray} {j k n : Nat} (h : ¬ (k < t.size ∧ hx (byt t k) < 16)) : hrun t j k n = (k, n) := by
  cases j with
  | zero => rfl
  | succ j => rw [hrun, if_neg h]
/-- What is known of the digits' end. -/
theorem hrun_spec (t : ByteArray) : ∀ (j k n : Nat), k ≤ t.size → k ≤ (hrun t j k n).1 ∧ (hrun t j k n).1 ≤ k + j ∧ (hrun t j k n).1 ≤ t.size ∧ ∀ i, k ≤ i → i < (hrun t j k n).1 → hx (byt t i) < 16
  | 0, k, n, hk => ⟨Nat.le_refl _, Nat.le_refl _, hk, fun i h1 h2 => by simp only [hrun_0] at h2; omega⟩
  | j + 1, k, n, hk => by
    by_cases h : k < t.size ∧ hx (byt t k) < 16
    · rw [hrun_on h.1 h.2]
      obtain ⟨h1, h2, h3, h4⟩ := hrun_spec t j (k + 1) (16 * n + hx (byt t k)) h.1
      refine ⟨by omega, by omega, h3, fun i hi hl => ?_⟩
      by_cases e : i = k
      · rw [e]; exact h.2
      · exact h4 i (by omega) hl
    · rw [hrun_end h]
      exact ⟨Nat.le_refl _, by omega, hk, fun i h1 h2 => by simp only at h2; omega⟩
theorem hrun_bound (t : ByteArray) : ∀ (j k n : Nat), (n + 1) * 16 ^ j ≤ 16777216 → (hrun t j k n).2 + 1 ≤ 16777216
  | 0, k, n, h => by simpa [hrun_0] using h
  | j + 1, k, n, h => by
    by_cases hh : k < t.size ∧ hx (byt t k) < 16
    · rw [hrun_on hh.1 hh.2]
      refine hrun_bound t j _ _ ?_
      refine Nat.le_trans ?_ h
      rw [Nat.pow_succ, Nat.mul_comm (16 ^ j) 16, ← Nat.mul_assoc]
      exact Nat.mul_le_mul_right _ (by omega)
    · rw [hrun_end hh]
      show n + 1 ≤ _
      refine Nat.le_trans ?_ h
      exact Nat.le_mul_of_pos_right _ (Nat.pow_pos (by decide))
theorem step_bound {j m d : Nat} (h : (m + 1) * 16 ^ (j + 1) ≤ 16777216) (hd : d < 16) : (16 * m + d + 1) * 16 ^ j ≤ 16777216 ∧ 16 * m + 16 ≤ 16777216 := by
  rw [Nat.pow_succ, Nat.mul_comm (16 ^ j) 16, ← Nat.mul_assoc] at h
  have h1 : (16 * m + d + 1) * 16 ^ j ≤ (m + 1) * 16 * 16 ^ j := Nat.mul_le_mul_right _ (by omega)
  refine ⟨Nat.le_trans h1 h, ?_⟩
  have h2 : (m + 1) * 16 * 1 ≤ (m + 1) * 16 * 16 ^ j := Nat.mul_le_mul_left _ (Nat.pow_pos (by decide))
  omega
/-- A rune in braces, from its u on. -/
def brc (t : ByteArray) : ByteArray × Nat :=
  if (hrun t 6 2 0).1 = 2 ∨ t.size ≤ (hrun t 6 2 0).1 ∨ byt t (hrun t 6 2 0).1 ≠ 125 ∨ (byt t 2 = 48 ∧ 3 < (hrun t 6 2 0).1) ∨ Utf8.valid ((hrun t 6 2 0).2 : Nat) = false then (ByteArray.empty, 0)
  else (Utf8.encode ((hrun t 6 2 0).2 : Nat), (hrun t 6 2 0).1 + 1)
/-- What stands behind a backslash. -/
def esc (t : ByteArray) : ByteArray × Nat :=
  if t.size = 0 then (ByteArray.empty, 0)
  else if unl (byt t 0) ≠ 0 then (one (unl (byt t 0)), 1)
  else if byt t 0 = 120 ∧ 2 < t.size then (if hx (byt t 1) < 16 ∧ hx (byt t 2) < 16 then (one (16 * hx (byt t 1) + hx (byt t 2)), 3) else (ByteArray.empty, 0))
  else if byt t 0 = 117 ∧ 1 < t.size ∧ byt t 1 = 123 then brc t
  else (ByteArray.empty, 0)
theorem hx_small {c : Nat} (h : hx c < 16) : c < 128 := by
  unfold hx at h
  (repeat' split at h) <;> omega
/-- An escape lies within its text, and has bytes below 128. -/
theorem esc_spec (t : ByteArray) : (esc t).2 ≤ t.size ∧ (esc t).1.size ≤ 4 ∧ ∀ i, i < (esc t).2 → byt t i < 128 := by
  unfold esc
  split
  · exact ⟨by simp, by simp, fun i h => by simp at h⟩
  · rename_i h0
    split
    · rename_i h1
      refine ⟨by simp; omega, by rw [one_size]; omega, fun i h => ?_⟩
      obtain rfl : i = 0 := by simp at h; exact h
      have : unl (byt t 0) ≠ 0 := h1
      unfold unl at this
      (repeat' split at this) <;> omega
    · split
      · rename_i h2
        split
        · rename_i h3
          refine ⟨by simp; omega, by rw [one_size]; omega, fun i h => ?_⟩
          have : i = 0 ∨ i = 1 ∨ i = 2 := by simp at h; omega
          rcases this with rfl | rfl | rfl
          · omega
          · exact hx_small h3.1
          · exact hx_small h3.2
        · exact ⟨by simp, by simp, fun i h => by simp at h⟩
      · split
        · rename_i h2
          unfold brc
          obtain ⟨a1, a2, a3, a4⟩ := hrun_spec t 6 2 0 h2.2.1
          generalize hrun t 6 2 0 = p at *
          split
          · exact ⟨by simp, by simp, fun i h => by simp at h⟩
          · rename_i h3
            have h5 : ¬ t.size ≤ p.1 := fun e => h3 (.inr (.inl e))
            have h6 : ¬ byt t p.1 ≠ 125 := fun e => h3 (.inr (.inr (.inl e)))
            clear h3
            obtain ⟨k, m⟩ := p
            dsimp only at *
            have hes := (enc_size (m : Int)).2
            generalize Utf8.encode (m : Int) = z at *
            refine ⟨Nat.lt_of_not_le h5, hes, fun i h => ?_⟩
            have : i = 0 ∨ i = 1 ∨ (2 ≤ i ∧ i < k) ∨ i = k := by omega
            rcases this with rfl | rfl | h4 | h4
            · omega
            · omega
            · exact hx_small (a4 i h4.1 h4.2)
            · rw [h4]; omega
        · exact ⟨by simp, by simp, fun i h => by simp at h⟩
/-- What a quoted text says, from a byte within on, behind what it has said: is it one; what it says; the byte behind it, or that offends. -/
def qd (s : ByteArray) (i : Nat) (b : ByteArray) : Bool × ByteArray × Nat :=
  if h : i < s.size then
    if byt s i = 34 then (true, b, i + 1)
    else if byt s i = 92 then
      (if he : (esc (s.extract (i + 1) s.size)).2 = 0 then (false, ByteArray.empty, i) else qd s (i + 1 + (esc (s.extract (i + 1) s.size)).2) (b ++ (esc (s.extract (i + 1) s.size)).1))
    else if wid s i = 0 ∨ (dec s i).1 < 32 ∨ (dec s i).1 = 127 then (false, ByteArray.empty, i)
    else qd s (i + (dec s i).2) (b ++ Utf8.encode ((dec s i).1 : Nat))
  else (false, ByteArray.empty, s.size)
termination_by s.size - i
decreasing_by
  · omega
  · have := dec_n h; omega
theorem qd_end {s : ByteArray} {i : Nat} (b : ByteArray) (h : ¬ i < s.size) : qd s i b = (false, ByteArray.empty, s.size) := by rw [qd, dif_neg h]
theorem qd_q {s : ByteArray} {i : Nat} (b : ByteArray) (h : i < s.size) (h1 : byt s i = 34) : qd s i b = (true, b, i + 1) := by rw [qd, dif_pos h, if_pos h1]
theorem qd_bad {s : ByteArray} {i : Nat} (b : ByteArray) (h : i < s.size) (h2 : byt s i = 92) (h3 : (esc (s.extract (i + 1) s.size)).2 = 0) : qd s i b = (false, ByteArray.empty, i) := by
  rw [qd, dif_pos h, if_neg (by omega), if_pos h2, dif_pos h3]
theorem qd_esc {s : ByteArray} {i : Nat} (b : ByteArray) (h : i < s.size) (h2 : byt s i = 92) (h3 : (esc (s.extract (i + 1) s.size)).2 ≠ 0) : qd s i b = qd s (i + 1 + (esc (s.extract (i + 1) s.size)).2) (b ++ (esc (s.extract (i + 1) s.size)).1) := by
  rw [qd, dif_pos h, if_neg (by omega), if_pos h2, dif_neg h3]
theorem qd_off {s : ByteArray} {i : Nat} (b : ByteArray) (h : i < s.size) (h1 : byt s i ≠ 34) (h2 : byt s i ≠ 92) (h3 : wid s i = 0 ∨ (dec s i).1 < 32 ∨ (dec s i).1 = 127) : qd s i b = (false, ByteArray.empty, i) := by
  rw [qd, dif_pos h, if_neg h1, if_neg h2, if_pos h3]
theorem qd_on {s : ByteArray} {i : Nat} (b : ByteArray) (h : i < s.size) (h1 : byt s i ≠ 34) (h2 : byt s i ≠ 92) (h3 : ¬ (wid s i = 0 ∨ (dec s i).1 < 32 ∨ (dec s i).1 = 127)) : qd s i b = qd s (i + (dec s i).2) (b ++ Utf8.encode ((dec s i).1 : Nat)) := by
  rw [qd, dif_pos h, if_neg h1, if_neg h2, if_neg h3]
/-- The quoted text at a byte. -/
def qtd (s : ByteArray) (i : Nat) : Bool × ByteArray × Nat := if i < s.size ∧ byt s i = 34 then qd s (i + 1) ByteArray.empty else (false, ByteArray.empty, i)
/-- Where it ends, or offends. -/
theorem qd_pos (s : ByteArray) (i : Nat) (b : ByteArray) (hi : i ≤ s.size) : i ≤ (qd s i b).2.2 ∧ (qd s i b).2.2 ≤ s.size ∧ ((qd s i b).1 = true → i < (qd s i b).2.2) ∧ ((qd s i b).1 = false → (qd s i b).2.1 = ByteArray.empty) := by
  by_cases h : i < s.size
  · by_cases h1 : byt s i = 34
    · rw [qd_q b h h1]; exact ⟨by simp, by simp; omega, by simp, by simp⟩
    · by_cases h2 : byt s i = 92
      · by_cases h3 : (esc (s.extract (i + 1) s.size)).2 = 0
        · rw [qd_bad b h h2 h3]; exact ⟨by simp, by simp; omega, by simp, by simp⟩
        · rw [qd_esc b h h2 h3]
          have he := (esc_spec (s.extract (i + 1) s.size)).1
          rw [size_tail s (i + 1) (by omega)] at he
          have := qd_pos s (i + 1 + (esc (s.extract (i + 1) s.size)).2) (b ++ (esc (s.extract (i + 1) s.size)).1) (by omega)
          refine ⟨by omega, this.2.1, fun hh => ?_, this.2.2.2⟩
          have := this.2.2.1 hh
          omega
      · by_cases h3 : wid s i = 0 ∨ (dec s i).1 < 32 ∨ (dec s i).1 = 127
        · rw [qd_off b h h1 h2 h3]; exact ⟨by simp, by simp; omega, by simp, by simp⟩
        · rw [qd_on b h h1 h2 h3]
          have hn := dec_n h
          have := qd_pos s (i + (dec s i).2) (b ++ Utf8.encode ((dec s i).1 : Nat)) (by omega)
          refine ⟨by omega, this.2.1, fun hh => ?_, this.2.2.2⟩
          have := this.2.2.1 hh
          omega
  · rw [qd_end b h]; exact ⟨hi, by simp, by simp, by simp⟩
termination_by s.size - i
decreasing_by
  · omega
  · omega
/-- Unquote's answer. -/
def unq (s : ByteArray) : ByteArray × Nat × Nat := if (qtd s 0).1 = true ∧ s.size ≤ (qtd s 0).2.2 then ((qtd s 0).2.1, 0, 0) else (ByteArray.empty, (qtd s 0).2.2, 18)
end Go.Proofs.YtbidppjhenfjdaaGreatDoor
