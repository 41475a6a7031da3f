/-
  Walks of the reference's begins.
-/
import Derived.Test.YtbidppjhenfjdaaDoorGlyR
import Derived.IntWalk
namespace Go.Proofs.YtbidppjhenfjdaaDoor
open Go.RowKit
set_option linter.unusedVariables false
set_option linter.unusedSimpArgs false

/-- What begins answers. -/
def begV (s : ByteArray) (i : Nat) : Value := if wid s i = 0 then .tuple #[.int .i32 0, .int .i64 0] else .tuple #[.int .i32 (dec s i).1, .int .i64 (wid s i)]
theorem begV_no {s : ByteArray} {i : Nat} (h : wid s i = 0) : begV s i = .tuple #[.int .i32 0, .int .i64 0] := by unfold begV; rw [if_pos h]
theorem begV_is {s : ByteArray} {i r n : Nat} (h : RuneAt s i r n) : begV s i = .tuple #[.int .i32 r, .int .i64 n] := by
  have h4 := h.n4
  have h0 := h.wid
  unfold begV; rw [h.dec, h0, if_neg (by omega)]
theorem beg_eq {x y : Int} {m n : Int} (h : x = y) (k : m = n) : Ending.returned (.tuple #[.int .i32 x, .int .i64 m]) = Ending.returned (.tuple #[.int .i32 y, .int .i64 n]) := by rw [h, k]
/-- No rune of this table's row begins there. -/
theorem no_rune {s : ByteArray} {i : Nat} (hi : i < s.size) (h : ∀ r n, ¬ RuneAt s i r n) : wid s i = 0 := by
  rcases rune_or s i hi with hr | ⟨_, h0⟩
  · exact absurd hr (h _ _)
  · exact h0
theorem lowZ_1 {s : ByteArray} {i : Nat} : lowB s (i + 1) 1 = (decide (i + 1 < s.size) && byt s (i + 1) / 64 == 2) := by simp [lowB, List.range_succ]
theorem lowZ_2 {s : ByteArray} {i : Nat} : lowB s (i + 1) 2 = (decide (i + 2 < s.size) && (byt s (i + 1) / 64 == 2 && byt s (i + 2) / 64 == 2)) := by
  simp only [lowB, List.range_succ, List.range_zero, List.nil_append, List.all_append, List.all_cons, List.all_nil, Bool.and_true, Bool.true_and, Nat.add_zero]
  rw [show i + 1 + 1 = i + 2 from rfl]
  rw [Bool.eq_iff_iff]; simp; omega
theorem lowZ_3 {s : ByteArray} {i : Nat} : lowB s (i + 1) 3 = (decide (i + 3 < s.size) && (byt s (i + 1) / 64 == 2 && (byt s (i + 2) / 64 == 2 && byt s (i + 3) / 64 == 2))) := by
  simp only [lowB, List.range_succ, List.range_zero, List.nil_append, List.all_append, List.all_cons, List.all_nil, Bool.and_true, Bool.true_and, Nat.add_zero]
  rw [show i + 1 + 1 = i + 2 from rfl, show i + 1 + 2 = i + 3 from rfl]
  rw [Bool.eq_iff_iff]; simp; omega

end Go.Proofs.YtbidppjhenfjdaaDoor
