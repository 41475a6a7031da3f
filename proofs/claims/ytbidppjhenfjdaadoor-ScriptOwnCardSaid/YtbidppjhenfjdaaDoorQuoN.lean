/-
  Walks of the reference's Quoted and Unquote, and of the program's Unquote.
-/
import Derived.Test.YtbidppjhenfjdaaDoorQuoM
import Derived.Test.YtbidppjhenfjdaaDoorQuoK
import Derived.Test.YtbidppjhenfjdaaDoorRow
namespace Go.Proofs.YtbidppjhenfjdaaDoor
open Go.RowKit
set_option linter.unusedVariables false
set_option linter.unusedSimpArgs false

theorem results_cell_1 {P : Program} {fn : Func} {p : Tmp} {ty : TypeId} (h : fn.results = #[.cell p ty]) (tmps : Array Value) (w : World) (b : Nat) (v : Value)
    (hp : tmps.getD p undef = .pointer (some ⟨b, 0, none⟩)) (hl : (loadVar ty ⟨b, 0, none⟩).run P w = .ok v w) : (results fn tmps).run P w = .ok v w := by
  have hp' : tmps[p]?.getD undef = .pointer (some ⟨b, 0, none⟩) := by simpa using hp
  simp [results, h, hp', asAddr, hl]
/-- What the reference's Quoted hands back. -/
def partA (s : ByteArray) (a : Nat) : Array Value :=
  if (qtd s a).1 = true then #[.string (qtd s a).2.1, .int .i64 ((qtd s a).2.2 : Nat), .int .i64 0] else #[.string ByteArray.empty, .int .i64 (-1), .int .i64 ((qtd s a).2.2 : Nat)]
theorem partA_yes {s x : ByteArray} {a e : Nat} (h : qtd s a = (true, x, e)) : partA s a = #[.string x, .int .i64 (e : Nat), .int .i64 0] := by unfold partA; rw [h]; exact if_pos rfl
theorem partA_no {s : ByteArray} {a e : Nat} (h : qtd s a = (false, ByteArray.empty, e)) : partA s a = #[.string ByteArray.empty, .int .i64 (-1), .int .i64 (e : Nat)] := by unfold partA; rw [h]; exact if_neg (by simp)
/-- A row of bytes, a text behind it. -/
theorem row_on {w wr w3 : World} {B : Nat} {v v' : Value} {x y : ByteArray} (h1 : wr.ownsRow B 5 1 v x.size (Lib.strCells x)) (hk : Keep [] w wr) (hB : w.heap.size ≤ B)
    (ho : w3.ownsRow B 5 1 v' (x.size + y.size) (Lib.strCells x ++ Lib.strCells y)) (hg : wr.grownBy w3 v.ownBlock) : w3.ownsRow B 5 1 v' (x ++ y).size (Lib.strCells (x ++ y)) ∧ Keep [] w w3 := by
  refine ⟨?_, hk.trans (keep_of_grown hg) (fun b hb => by simp at hb; exact .inr (Nat.le_trans hB (h1.lt b hb).1))⟩
  rw [ByteArray.size_append, strCells_append]
  exact ho
theorem row_old {wr w3 : World} {B rb : Nat} {v : Value} {n : Nat} {cs : List Value} {o : Obj} (h1 : wr.ownsRow B 5 1 v n cs) (hg : wr.grownBy w3 v.ownBlock) (hb : wr.heap[rb]? = some o) (hB : rb < B) : w3.heap[rb]? = some o :=
  (keep_of_grown hg).at_ hb (fun hm => by simp at hm; have := (h1.lt rb hm).1; omega)

end Go.Proofs.YtbidppjhenfjdaaDoor
