/-
  Walks of the reference's Pieces.
-/
import Derived.Test.YtbidppjhenfjdaaDoorGlyU
import Derived.Test.YtbidppjhenfjdaaDoorGlyW
import Derived.Test.YtbidppjhenfjdaaDoorAppend
namespace Go.Proofs.YtbidppjhenfjdaaDoor
open Go.RowKit
set_option linter.unusedVariables false
set_option linter.unusedSimpArgs false

theorem cell_new_row (w : World) (cs : List Value) (t : TypeId) (j : Nat) (u : Value) (h : cs[j]? = some u) : (w.alloc (.cells cs.toArray t)).cell? ((⟨w.heap.size, 0, none⟩ : Addr).add j) = some u := by
  rw [addr0_add, cell_of_block (heap_alloc_new w (.cells cs.toArray t))]
  simpa using h

/-- What a call leaves that answers a new slice of n elements, with the cells cs. -/
def NewSl (e : TypeId) (sz n : Nat) (cs : List Value) (w : World) (r : Ending) (w' : World) : Prop :=
  ∃ v, r = .returned v ∧ w'.ownsRow w.heap.size e sz v n cs ∧ Keep [] w w' ∧ (v = .slice none 0 0 ↔ n = 0)

/-- A piece in memory. -/
def pieceCells (s : ByteArray) (i : Nat) : List Value := [.int .i64 i, .int .i32 (dec s i).1, .int .i64 (dec s i).2, .bool (isB s i)]
def piecesCells (s : ByteArray) (l : List Nat) : List Value := l.flatMap (pieceCells s)
theorem piecesCells_snoc (s : ByteArray) (l : List Nat) (i : Nat) : piecesCells s (l ++ [i]) = piecesCells s l ++ pieceCells s i := by simp [piecesCells]
theorem flat4 (s : ByteArray) : ∀ (l : List Nat) (k i j : Nat), l[k]? = some i → j < 4 → (piecesCells s l)[k * 4 + j]? = (pieceCells s i)[j]? := by
  intro l
  induction l with
  | nil => intro k i j h; simp at h
  | cons a l ih =>
    intro k i j h hj
    have e : piecesCells s (a :: l) = pieceCells s a ++ piecesCells s l := by simp [piecesCells]
    rw [e]
    cases k with
    | zero =>
      simp at h; subst h
      rw [List.getElem?_append_left (by simp [pieceCells]; omega)]
      simp
    | succ k =>
      rw [List.getElem?_append_right (by simp [pieceCells]; omega)]
      have : (k + 1) * 4 + j - (pieceCells s a).length = k * 4 + j := by simp [pieceCells]; omega
      rw [this]
      exact ih k i j (by simpa using h) hj

theorem own_next {e : TypeId} {sz n m : Nat} {cs news : List Value} {w wr w1 w2 : World} {v v' : Value} (h1 : wr.ownsRow w.heap.size e sz v n cs) (h2 : Keep [] w wr) (hw1 : Keep [] wr w1) (ha : AppPost w1 w.heap.size e sz v n cs m news v' w2) (hm : 0 < m) :
    w2.ownsRow w.heap.size e sz v' (n + m) (cs ++ news) ∧ Keep [] w w2 ∧ (v' = .slice none 0 0 ↔ n + m = 0) := by
  obtain ⟨a1, a2, a3, a4⟩ := ha
  refine ⟨a1, (h2.trans0 hw1).trans a2 (fun b hb => by simp at hb; exact .inr (h1.lt b hb).1), ?_⟩
  rw [a4]; omega

end Go.Proofs.YtbidppjhenfjdaaDoor
