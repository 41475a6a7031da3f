/-
  Slices that are read: where their cells lie.
-/
import Derived.Test.YtbidppjhenfjdaaGreatDoorKeep
namespace Go.Proofs.YtbidppjhenfjdaaGreatDoor
open Go.RowKit
set_option linter.unusedVariables false

/-- The slice value v has n elements, whose cells are cs. -/
def SlAt (w : World) (v : Value) (n : Nat) (cs : List Value) : Prop :=
  ∃ ad cap, v = .slice ad n cap ∧ ((n = 0 → cs = []) ∧ (ad = none → cap = 0)) ∧ (n ≠ 0 → ∃ b off, ad = some ⟨b, off, none⟩ ∧ ∀ i u, cs[i]? = some u → w.cell? ⟨b, off + i, none⟩ = some u)

theorem SlAt.keep {w w' : World} {v : Value} {n : Nat} {cs : List Value} {L : List Nat} (h : SlAt w v n cs) (k : Keep L w w') (hv : ∀ g, v.ownBlock = some g → g ∉ L) : SlAt w' v n cs := by
  obtain ⟨ad, cap, rfl, h0, h1⟩ := h
  refine ⟨ad, cap, rfl, h0, fun hn => ?_⟩
  obtain ⟨b, off, rfl, hc⟩ := h1 hn
  exact ⟨b, off, rfl, fun i u hu => k.cellv (hc i u hu) (hv b rfl)⟩
theorem SlAt.keep0 {w w' : World} {v : Value} {n : Nat} {cs : List Value} (h : SlAt w v n cs) (k : Keep [] w w') : SlAt w' v n cs := h.keep k (by simp)
theorem SlAt.drewN {w : World} {v : Value} {n : Nat} {cs : List Value} (h : SlAt w v n cs) (k : Nat) : SlAt (w.drewN k) v n cs := h

theorem SlAt.of_owns {w : World} {base : Nat} {e : TypeId} {size : Nat} {v : Value} {n : Nat} {xs : List Value} (h : w.ownsRow base e size v n xs) : SlAt w v n xs := by
  obtain ⟨hl, h⟩ := h
  rcases h with ⟨rfl, rfl⟩ | ⟨g, cap, cur, rfl, _, hg, h1, h2, h3, h4⟩
  · exact ⟨none, 0, rfl, ⟨fun _ => List.eq_nil_of_length_eq_zero (by simpa using hl), fun _ => rfl⟩, fun h => absurd rfl h⟩
  · refine ⟨_, cap, rfl, ⟨fun h0 => List.eq_nil_of_length_eq_zero (by simpa [h0] using hl), fun h => by cases h⟩, fun _ => ⟨g, 0, rfl, fun i u hu => ?_⟩⟩
    have hcur : cur[i]? = some u := by
      rw [← h4] at hu
      rw [List.getElem?_take] at hu
      split at hu
      · simpa using hu
      · cases hu
    rw [Nat.zero_add, cell_of_block hg]
    exact hcur

theorem SlAt.at_ {w : World} {v : Value} {n : Nat} {cs : List Value} (h : SlAt w v n cs) (hn : n ≠ 0) :
    ∃ b off cap, v = .slice (some ⟨b, off, none⟩) n cap ∧ ∀ i u, cs[i]? = some u → w.cell? ⟨b, off + i, none⟩ = some u := by
  obtain ⟨ad, cap, rfl, _, h1⟩ := h
  obtain ⟨b, off, rfl, hc⟩ := h1 hn
  exact ⟨b, off, cap, rfl, hc⟩
theorem SlAt.empty {w : World} {v : Value} {n : Nat} {cs : List Value} (h : SlAt w v n cs) : ∃ ad cap, v = .slice ad n cap := by
  obtain ⟨ad, cap, rfl, _, _⟩ := h
  exact ⟨ad, cap, rfl⟩
end Go.Proofs.YtbidppjhenfjdaaGreatDoor
