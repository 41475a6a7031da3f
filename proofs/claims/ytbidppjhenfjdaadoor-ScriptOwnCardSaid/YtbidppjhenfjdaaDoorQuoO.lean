/-
  Walks of both Unquotes.
-/
import Derived.Test.YtbidppjhenfjdaaDoorQuoN
import Derived.Deep.QuietTactic
import Derived.BigQuiet
namespace Go.Proofs.YtbidppjhenfjdaaDoor
open Go.RowKit
set_option linter.unusedVariables false
set_option linter.unusedSimpArgs false

theorem keep_dN {L : List Nat} {w w' : World} (h : Keep L w w') (n : Nat) : Keep L w (w'.drewN n) := ⟨h.os, h.tape, h.output, h.size, h.block⟩
theorem unq_yes {s x : ByteArray} {e : Nat} (h : qtd s 0 = (true, x, e)) (he : s.size ≤ e) : unq s = (x, 0, 0) := by unfold unq; rw [h]; exact if_pos ⟨rfl, he⟩
theorem unq_long {s x : ByteArray} {e : Nat} (h : qtd s 0 = (true, x, e)) (he : ¬ s.size ≤ e) : unq s = (ByteArray.empty, e, 18) := by unfold unq; rw [h]; exact if_neg (fun h => he h.2)
theorem unq_no {s x : ByteArray} {e : Nat} (h : qtd s 0 = (false, x, e)) : unq s = (ByteArray.empty, e, 18) := by unfold unq; rw [h]; exact if_neg (fun h => by simp at h)
theorem qtd_no {s x : ByteArray} {a e : Nat} (ha : a ≤ s.size) (h : qtd s a = (false, x, e)) : x = ByteArray.empty := by
  unfold qtd at h
  split at h
  · rename_i h0
    have := (qd_pos s (a + 1) ByteArray.empty (by omega)).2.2.2
    rw [h] at this
    exact this rfl
  · injection h with _ h; injection h with h _; exact h.symm

end Go.Proofs.YtbidppjhenfjdaaDoor
