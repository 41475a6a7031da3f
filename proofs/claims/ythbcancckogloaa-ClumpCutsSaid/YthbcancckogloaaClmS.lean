/-
  Walk of spans.
-/
import Derived.Test.YthbcancckogloaaAppend
import Derived.Test.YthbcancckogloaaClmP
import Derived.Test.YthbcancckogloaaGlyA
namespace Go.Proofs.Ythbcancckogloaa
open Go.RowKit
set_option linter.unusedVariables false
set_option linter.unusedSimpArgs false

def spanCells (l : List Span) : List Value := l.flatMap fun s => [.int .i32 s.1, .int .i32 s.2.1, .int .i64 s.2.2]
theorem span_at : ∀ (l : List Span) (k : Nat) (s : Span), l[k]? = some s → (spanCells l)[k * 3]? = some (.int .i32 s.1) ∧ (spanCells l)[k * 3 + 1]? = some (.int .i32 s.2.1) ∧ (spanCells l)[k * 3 + 2]? = some (.int .i64 s.2.2)
  | [], k, s, h => by simp at h
  | x :: l, 0, s, h => by
    simp at h; subst h
    simp [spanCells]
  | x :: l, k + 1, s, h => by
    have ih := span_at l k s (by simpa using h)
    have e : spanCells (x :: l) = [.int .i32 x.1, .int .i32 x.2.1, .int .i64 x.2.2] ++ spanCells l := by simp [spanCells]
    rw [e, show (k + 1) * 3 = k * 3 + 3 by omega, show k * 3 + 3 + 1 = k * 3 + 1 + 3 by omega, show k * 3 + 3 + 2 = k * 3 + 2 + 3 by omega]
    rw [List.getElem?_append_right (by simp), List.getElem?_append_right (by simp), List.getElem?_append_right (by simp)]
    simpa using ih
theorem spans_low : ∀ s ∈ spansL, 0 ≤ s.1 ∧ s.1 ≤ 2097152 ∧ 0 ≤ s.2.1 ∧ s.2.1 ≤ 2097152 ∧ 0 ≤ s.2.2 ∧ s.2.2 ≤ 12 := by decide +kernel

set_option maxRecDepth 100000 in
set_option maxHeartbeats 8000000 in
theorem spans_any (w : World) : Calls Try.prog 31 #[] w fun e w' => e = .returned (.slice (some ⟨w.heap.size, 0, none⟩) 45 45) ∧ w' = w.alloc (.cells (spanCells spansL).toArray 50) := by
  go_enter Try.func31, Try.ntmps31
  go_wp2
  go_ret
  exact ⟨rfl, rfl⟩

end Go.Proofs.Ythbcancckogloaa
