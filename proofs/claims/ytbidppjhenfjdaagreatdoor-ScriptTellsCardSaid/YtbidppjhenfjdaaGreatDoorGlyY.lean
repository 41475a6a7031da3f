/-
  Walks of the reference's Count, BadAt, Runes.
-/
import Derived.Test.YtbidppjhenfjdaaGreatDoorGlyX
namespace Go.Proofs.YtbidppjhenfjdaaGreatDoor
open Go.RowKit
set_option linter.unusedVariables false
set_option linter.unusedSimpArgs false

theorem owns_mono {w : World} {b b' : Nat} {e : TypeId} {sz n : Nat} {v : Value} {xs : List Value} (h : w.ownsRow b e sz v n xs) (hb : b' ≤ b) : w.ownsRow b' e sz v n xs := by
  refine ⟨h.1, ?_⟩
  rcases h.2 with h | ⟨g, cap, cur, h1, h2, h3⟩
  · exact .inl h
  · exact .inr ⟨g, cap, cur, h1, Nat.le_trans hb h2, h3⟩
/-- Pieces in memory, read. -/
def PcAt (w : World) (v : Value) (s : ByteArray) (l : List Nat) : Prop :=
  ∃ ad cap, v = .slice ad l.length cap ∧ (l.length ≠ 0 → ∃ b off, ad = some ⟨b, off, none⟩ ∧ ∀ (k i : Nat), l[k]? = some i → w.cell? ⟨b, off + k * 4, none⟩ = some (.int .i64 i) ∧ w.cell? ⟨b, off + k * 4 + 1, none⟩ = some (.int .i32 (dec s i).1) ∧ w.cell? ⟨b, off + k * 4 + 2, none⟩ = some (.int .i64 (dec s i).2) ∧ w.cell? ⟨b, off + k * 4 + 3, none⟩ = some (.bool (isB s i)))
theorem PcAt.of_owns {w : World} {base : Nat} {e : TypeId} {v : Value} {s : ByteArray} {l : List Nat} (h : w.ownsRow base e 4 v l.length (piecesCells s l)) : PcAt w v s l := by
  obtain ⟨ad, cap, rfl, _, h1⟩ := SlAt.of_owns h
  refine ⟨ad, cap, rfl, fun h0 => ?_⟩
  obtain ⟨b, off, rfl, hc⟩ := h1 h0
  refine ⟨b, off, rfl, fun k i hk => ?_⟩
  have f := fun j u (hj : j < 4) (hu : (pieceCells s i)[j]? = some u) => hc (k * 4 + j) u ((flat4 s l k i j hk hj).trans hu)
  exact ⟨f 0 _ (by decide) rfl, f 1 _ (by decide) rfl, f 2 _ (by decide) rfl, f 3 _ (by decide) rfl⟩
theorem PcAt.keep0 {w w' : World} {v : Value} {s : ByteArray} {l : List Nat} (h : PcAt w v s l) (hk : Keep [] w w') : PcAt w' v s l := by
  obtain ⟨ad, cap, rfl, h1⟩ := h
  refine ⟨ad, cap, rfl, fun h0 => ?_⟩
  obtain ⟨b, off, rfl, hc⟩ := h1 h0
  refine ⟨b, off, rfl, fun k i hi => ?_⟩
  obtain ⟨a, b, c, d⟩ := hc k i hi
  exact ⟨hk.cellv a (by simp), hk.cellv b (by simp), hk.cellv c (by simp), hk.cellv d (by simp)⟩

/-- The first byte that begins no rune. -/
def badAt (s : ByteArray) : Int := match (cut s 0).find? (fun j => wid s j == 0) with | some j => j | none => -1
theorem badAt_some {s : ByteArray} {l : List Nat} {i : Nat} (h : At s l i) (hi : i < s.size) (hg : ∀ j ∈ l, wid s j ≠ 0) (hw : wid s i = 0) : badAt s = i := by
  unfold badAt
  rw [h.cut, cut_step hi, List.find?_append, List.find?_eq_none.2 (by simpa using hg)]
  simp [hw]
theorem badAt_none {s : ByteArray} (hg : ∀ j ∈ cut s 0, wid s j ≠ 0) : badAt s = -1 := by
  unfold badAt
  rw [List.find?_eq_none.2 (by simpa using hg)]
theorem mem_take_succ {l : List Nat} {k i : Nat} (h : l[k]? = some i) {P : Nat → Prop} (h1 : ∀ j ∈ l.take k, P j) (h2 : P i) : ∀ j ∈ l.take (k + 1), P j := by
  intro j hj
  rw [List.take_add_one, h] at hj
  rcases List.mem_append.1 hj with hj | hj
  · exact h1 j hj
  · simp at hj; subst hj; exact h2

theorem info_rune : (Tryz.prog.info? 21).map (fun i => (i.zero, i.size, i.bytes)) = some (some (.int .i32 0), 1, 4) := by kernel_rfl
/-- The runes of the first pieces, in memory. -/
def runeCs (s : ByteArray) (l : List Nat) : List Value := l.map fun i => .int .i32 (dec s i).1
theorem runeCs_take {s : ByteArray} {l : List Nat} {k i : Nat} (h : l[k]? = some i) : runeCs s (l.take (k + 1)) = runeCs s (l.take k) ++ [.int .i32 (dec s i).1] := by
  unfold runeCs
  rw [List.take_add_one, h]
  simp
theorem runeCs_runs (s : ByteArray) : runeCs s (cut s 0) = (runs s 0).map (Value.int .i32) := by unfold runeCs runs; simp

end Go.Proofs.YtbidppjhenfjdaaGreatDoor
