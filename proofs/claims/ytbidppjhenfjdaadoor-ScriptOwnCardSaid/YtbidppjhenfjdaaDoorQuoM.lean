/-
  Walk of the reference's escape, whole.
-/
import Derived.Test.YtbidppjhenfjdaaDoorQuoL
namespace Go.Proofs.YtbidppjhenfjdaaDoor
open Go.RowKit
set_option linter.unusedVariables false
set_option linter.unusedSimpArgs false

theorem unl_1 {c : Nat} (h : unl c ≠ 0) : c = 34 ∨ c = 92 ∨ c = 110 ∨ c = 114 ∨ c = 116 := by
  unfold unl at h
  (repeat' split at h) <;> omega
theorem unl_no {c : Nat} (h : ¬ unl c ≠ 0) : c ≠ 34 ∧ c ≠ 92 ∧ c ≠ 110 ∧ c ≠ 114 ∧ c ≠ 116 := by
  unfold unl at h
  refine ⟨?_, ?_, ?_, ?_, ?_⟩ <;> (intro e; subst e; simp at h)
theorem dec_le_t {a b : Int} (h : a ≤ b) : decide (a ≤ b) = true := by simpa using h
theorem dec_le_f {a b : Int} (h : ¬ a ≤ b) : decide (a ≤ b) = false := by simpa using h
theorem dec_lt_t {a b : Int} (h : a < b) : decide (a < b) = true := by simpa using h
theorem dec_lt_f {a b : Int} (h : ¬ a < b) : decide (a < b) = false := by simpa using h
theorem dec_len_t {a b : Nat} (h : a ≤ b) : decide (a ≤ b) = true := by simpa using h
theorem dec_len_f {a b : Nat} (h : ¬ a ≤ b) : decide (a ≤ b) = false := by simpa using h
theorem dec_ltn_t {a b : Nat} (h : a < b) : decide (a < b) = true := by simpa using h
theorem dec_ltn_f {a b : Nat} (h : ¬ a < b) : decide (a < b) = false := by simpa using h
theorem escn_pos {n : Nat} (h : n ≠ 0) : escn n = n + 1 := by unfold escn; rw [if_neg h]

end Go.Proofs.YtbidppjhenfjdaaDoor
