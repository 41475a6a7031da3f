/-
  Rows of numbers that are filled from the end; the table in memory.
-/
import Derived.Test.YtddbjclpmkelaaaDifF
namespace Go.Proofs.Ytddbjclpmkelaaa
open Go.RowKit
set_option linter.unusedVariables false

/-- Block g holds n numbers: those from m on are f's, those ahead of it are 0. -/
def FillAt (W : World) (g n m : Nat) (f : Nat → Int) : Prop :=
  ∃ cur : Array Value, W.heap[g]? = some (.cells cur 3 (0, 0)) ∧ cur.size = n ∧ ∀ i, i < n → cur[i]? = some (.int .i64 (if m ≤ i then f i else 0))

namespace FillAt
variable {W W' : World} {g n m : Nat} {f : Nat → Int} {L : List Nat}
theorem keep (h : FillAt W g n m f) (k : Keep L W W') (hg : g ∉ L) : FillAt W' g n m f := by
  obtain ⟨cur, h1, h2⟩ := h; exact ⟨cur, k.at_ h1 hg, h2⟩
theorem lt (h : FillAt W g n m f) : g < W.heap.size := by obtain ⟨cur, h1, _⟩ := h; exact lt_of_block h1
theorem cell (h : FillAt W g n m f) {i : Nat} (hm : m ≤ i) (hi : i < n) : W.cell? ⟨g, i, none⟩ = some (.int .i64 (f i)) := by
  obtain ⟨cur, h1, h2, h3⟩ := h
  rw [cell_of_block h1, h3 i hi, if_pos hm]
theorem zero (h : FillAt W g n m f) {i : Nat} (hm : i < m) (hi : i < n) : W.cell? ⟨g, i, none⟩ = some (.int .i64 0) := by
  obtain ⟨cur, h1, h2, h3⟩ := h
  rw [cell_of_block h1, h3 i hi, if_neg (by omega)]
theorem free (h : FillAt W g n m f) (i : Nat) : W.frozen? ⟨g, i, none⟩ = false := by
  obtain ⟨cur, h1, _⟩ := h; exact free_of_block h1 i
theorem store (h : FillAt W g n (m + 1) f) (hm : m < n) : FillAt (W.setCell ⟨g, m, none⟩ (.int .i64 (f m))) g n m f := by
  obtain ⟨cur, h1, h2, h3⟩ := h
  refine ⟨_, block_setCell h1 m _, by simpa using h2, fun i hi => ?_⟩
  rw [Array.getElem?_setIfInBounds]
  by_cases hmi : m = i
  · subst hmi
    rw [if_pos rfl, if_pos (by omega), if_pos (Nat.le_refl _)]
  · rw [if_neg hmi, h3 i hi]
    by_cases h5 : m ≤ i
    · rw [if_pos (by omega), if_pos h5]
    · rw [if_neg (by omega), if_neg h5]
theorem congr {f' : Nat → Int} (h : FillAt W g n m f) (hf : ∀ i, m ≤ i → i < n → f i = f' i) : FillAt W g n m f' := by
  obtain ⟨cur, h1, h2, h3⟩ := h
  refine ⟨cur, h1, h2, fun i hi => ?_⟩
  rw [h3 i hi]
  by_cases hm : m ≤ i
  · rw [if_pos hm, if_pos hm, hf i hm hi]
  · rw [if_neg hm, if_neg hm]
end FillAt

theorem made_get (z : Value) (n i : Nat) (hi : i < n) : (madeCells #[z] n)[i]? = some z := by
  rw [← Array.getElem?_toList, toList_madeCells_one, List.getElem?_replicate, if_pos hi]
theorem FillAt.made (w : World) (n : Nat) (f : Nat → Int) : FillAt (w.alloc (.cells (madeCells #[.int .i64 0] n) 3)) w.heap.size n n f := by
  refine ⟨_, heap_alloc_new _ _, size_madeCells _ _, fun i hi => ?_⟩
  rw [made_get _ _ _ hi, if_neg (by omega)]

/-- The rows of the table from m on; those ahead of it are nil. -/
def RowsAt (W : World) (T : Nat) (x y : List Int) (m : Nat) (fp : List Nat) : Prop :=
  ∃ cur : Array Value, W.heap[T]? = some (.cells cur 56 (0, 0)) ∧ cur.size = x.length + 1 ∧ (∀ i, i < m → i ≤ x.length → cur[i]? = some (.slice none 0 0)) ∧
    ∀ i, m ≤ i → i ≤ x.length → ∃ g, cur[i]? = some (.slice (some ⟨g, 0, none⟩) (y.length + 1) (y.length + 1)) ∧ g ≠ T ∧ g ∈ fp ∧ FillAt W g (y.length + 1) 0 (fun k => lf x y i k)
/-- What holds between two rows: T is the table's block, w1 the world ahead of the first one. -/
def TabInv (w1 : World) (T : Nat) (x y : List Int) (m : Nat) (fp : List Nat) (W : World) : Prop :=
  Keep [T] w1 W ∧ T ∈ fp ∧ (∀ b ∈ fp, b < W.heap.size) ∧ (∀ b ∈ fp, b = T ∨ w1.heap.size ≤ b) ∧ RowsAt W T x y m fp
theorem RowsAt.keep {W W' : World} {T : Nat} {x y : List Int} {m : Nat} {fp S : List Nat} (h : RowsAt W T x y m fp) (k : Keep S W W') (hT : T ∉ S) (hS : ∀ b ∈ fp, b ∉ S) : RowsAt W' T x y m fp := by
  obtain ⟨cur, h1, h2, h3, h4⟩ := h
  refine ⟨cur, k.at_ h1 hT, h2, h3, fun i hm hi => ?_⟩
  obtain ⟨g, g1, g2, g3, g4⟩ := h4 i hm hi
  exact ⟨g, g1, g2, g3, g4.keep k (hS _ g3)⟩
theorem TabInv.steady (w1 : World) (T : Nat) (x y : List Int) (m : Nat) : Steady [] w1 (TabInv w1 T x y m) := by
  rintro fp W1 W2 S ⟨h1, h2, h3, h4, h5⟩ hk hS
  have hd : ∀ b ∈ fp, b ∉ S := fun b hb hs => (hS b hs).1 hb
  refine ⟨h1.trans hk (fun b hb => ?_), h2, fun b hb => Nat.lt_of_lt_of_le (h3 b hb) hk.size, h4, h5.keep hk (hd _ h2) hd⟩
  rcases (hS b hb).2 with h | h
  · cases h
  · exact .inr h

/-- The table, as it is read. -/
def TabAt (W : World) (v : Value) (x y : List Int) : Prop :=
  ∃ T, v = .slice (some ⟨T, 0, none⟩) (x.length + 1) (x.length + 1) ∧ ∀ i, i ≤ x.length → ∃ g, W.cell? ⟨T, i, none⟩ = some (.slice (some ⟨g, 0, none⟩) (y.length + 1) (y.length + 1)) ∧ ∀ k, k ≤ y.length → W.cell? ⟨g, k, none⟩ = some (.int .i64 (lf x y i k))
theorem RowsAt.tab {W : World} {T : Nat} {x y : List Int} {fp : List Nat} (h : RowsAt W T x y 0 fp) : TabAt W (.slice (some ⟨T, 0, none⟩) (x.length + 1) (x.length + 1)) x y := by
  obtain ⟨cur, h1, h2, h3, h4⟩ := h
  refine ⟨T, rfl, fun i hi => ?_⟩
  obtain ⟨g, g1, g2, g3, g4⟩ := h4 i (Nat.zero_le _) hi
  exact ⟨g, by rw [cell_of_block h1, g1], fun k hk => g4.cell (Nat.zero_le _) (by omega)⟩
theorem TabAt.keep {W W' : World} {v : Value} {x y : List Int} (h : TabAt W v x y) (k : Keep [] W W') : TabAt W' v x y := by
  obtain ⟨T, rfl, h⟩ := h
  refine ⟨T, rfl, fun i hi => ?_⟩
  obtain ⟨g, g1, g2⟩ := h i hi
  exact ⟨g, k.cellv g1 (by simp), fun j hj => k.cellv (g2 j hj) (by simp)⟩
theorem TabAt.put {W : World} {v : Value} {x y : List Int} {D : Nat} {d : Option (List Deferred)} (h : TabAt W v x y) (hD : W.heap[D]? = some (.deferred d)) (o : Obj) : TabAt (W.putObj D o) v x y := by
  have one : ∀ (b i : Nat) (u : Value), W.cell? ⟨b, i, none⟩ = some u → (W.putObj D o).cell? ⟨b, i, none⟩ = some u := fun b i u hu => by
    refine (keep_putObj W D o).cellv hu ?_
    intro hm
    simp at hm; subst hm
    simp [World.cell?, hD] at hu
  obtain ⟨T, rfl, h⟩ := h
  refine ⟨T, rfl, fun i hi => ?_⟩
  obtain ⟨g, g1, g2⟩ := h i hi
  exact ⟨g, one _ _ _ g1, fun j hj => one _ _ _ (g2 j hj)⟩
end Go.Proofs.Ytddbjclpmkelaaa
