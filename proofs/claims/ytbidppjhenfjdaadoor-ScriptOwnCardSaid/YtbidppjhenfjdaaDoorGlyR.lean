/-
  Walks of the reference's within, low.
-/
import Derived.Test.YtbidppjhenfjdaaDoorGlyA
namespace Go.Proofs.YtbidppjhenfjdaaDoor
open Go.RowKit
set_option linter.unusedVariables false
set_option linter.unusedSimpArgs false

def withinZ (b lo hi : Int) : Bool := decide (lo ≤ b) && decide (b ≤ hi)
/-- So many bytes from a place on stand from 80 to bf. -/
def lowB (s : ByteArray) (a n : Nat) : Bool := (List.range n).all fun i => decide (a + i < s.size) && (byt s (a + i) / 64 == 2)
def lowZ (s : ByteArray) (a n : Int) : Bool := lowB s a.toNat n.toNat
theorem lowZ_nat {s : ByteArray} {i : Nat} {n : Int} : lowZ s ((i : Int) + 1) n = lowB s (i + 1) n.toNat := by unfold lowZ; congr 1
theorem lowB_no {s : ByteArray} {a n k : Nat} (hk : k < n) (h : ¬ (a + k < s.size ∧ byt s (a + k) / 64 = 2)) : lowB s a n = false := by
  unfold lowB
  rw [List.all_eq_false]
  exact ⟨k, by simpa using hk, by simpa using h⟩
theorem lowB_yes {s : ByteArray} {a n : Nat} (h : ∀ k, k < n → a + k < s.size ∧ byt s (a + k) / 64 = 2) : lowB s a n = true := by
  unfold lowB
  rw [List.all_eq_true]
  intro k hk
  have := h k (by simpa using hk)
  simpa using this

end Go.Proofs.YtbidppjhenfjdaaDoor
