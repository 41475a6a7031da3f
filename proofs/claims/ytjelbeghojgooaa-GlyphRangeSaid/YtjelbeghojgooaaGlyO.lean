/-
  Two appends to a fresh list of runes; what an element of a list of runes reads as.
-/
import Derived.Test.YtjelbeghojgooaaGlyK
import Derived.Test.YtjelbeghojgooaaOpen
namespace Go.Proofs.Ytjelbeghojgooaa
open Go.RowKit
set_option linter.unusedVariables false
set_option linter.unusedSimpArgs false

theorem cellsRune : Try.prog.cellsOf 21 = 1 := by kernel_rfl
theorem rune_reads {H : Type} {enc : TypeId × Value → H} {w : World} (n : Nat) (cs : List Value) (y : DataW H × List MemPlace) (h : DataW.trod enc Try.prog w 0 (fun _ => true) true n 21 cs = some y) : ∃ x : Int, cs = [Value.int .i32 x] := by
  obtain ⟨k, e1, _, _⟩ := DataW.trod_int Try.underlying21 h
  exact ⟨k, e1⟩
theorem rune_cells (l : List Int) : ∀ u ∈ l.map (Value.int .i32), u.oneCell' = true := by
  intro u hu
  obtain ⟨x, _, rfl⟩ := List.mem_map.1 hu
  rfl
/-- A slice of a list of runes that comes in. -/
theorem ElemsAt.runes {w : World} {v : Value} {xs : List Int} (h : ElemsAt w v 1 (fun x => [Value.int .i32 x]) xs) : SlAt w v xs.length (xs.map (Value.int .i32)) := h.sl

/-- A row of the call's own that is no nil. -/
theorem own_some {w : World} {base : Nat} {e : TypeId} {v : Value} {n : Nat} {xs : List Value} (h : w.ownsRow base e 1 v n xs) (hn : 0 < n) :
    ∃ g cap, v = .slice (some ⟨g, 0, none⟩) n cap ∧ n ≤ cap ∧ cap ≤ maxLen ∧ base ≤ g ∧ g < w.heap.size ∧ ∀ (i : Nat) u, xs[i]? = some u → w.cell? ⟨g, i, none⟩ = some u := by
  rcases h.2 with ⟨_, h0⟩ | ⟨g, cap, cur, rfl, hb, hg, h1, h2, h3, h4⟩
  · omega
  · refine ⟨g, cap, rfl, h1, h2, hb, lt_of_block hg, fun i u hu => ?_⟩
    rw [← h4, List.getElem?_take] at hu
    split at hu
    · rw [cell_of_block hg]; simpa using hu
    · cases hu
/-- Its head. -/
theorem own_head {w : World} {g n cap : Nat} {xs : List Value} (h : ∀ (i : Nat) u, xs[i]? = some u → w.cell? ⟨g, i, none⟩ = some u) (ys : List Value) (k : Nat) (hx : ys.length = k) (hp : ∀ (i : Nat) u, ys[i]? = some u → xs[i]? = some u) :
    SlAt w (.slice (some ⟨g, 0, none⟩) k cap) k ys :=
  ⟨_, _, rfl, ⟨fun h0 => List.eq_nil_of_length_eq_zero (by omega), fun h => by cases h⟩, fun _ => ⟨_, _, rfl, fun i u hu => by rw [Nat.zero_add]; exact h i u (hp i u hu)⟩⟩
theorem own_nxt {e : TypeId} {sz n m : Nat} {cs news : List Value} {w wr w1 w2 : World} {v v' : Value} (h1 : wr.ownsRow w.heap.size e sz v n cs) (h2 : Keep [] w wr) (hw1 : Keep [] wr w1) (ha : AppPost w1 w.heap.size e sz v n cs m news v' w2) :
    w2.ownsRow w.heap.size e sz v' (n + m) (cs ++ news) ∧ Keep [] w w2 := by
  obtain ⟨a1, a2, a3, a4⟩ := ha
  exact ⟨a1, (h2.trans0 hw1).trans a2 (fun b hb => by simp at hb; exact .inr (h1.lt b hb).1)⟩
end Go.Proofs.Ytjelbeghojgooaa
