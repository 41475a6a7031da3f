/-
  Walks of Encode, Text, Runes, Count, BadAt.
-/
import Derived.Test.YthbcancckogloaaGlyE
import Derived.Test.YthbcancckogloaaGlyZ
import Derived.Lib.OthersKept
namespace Go.Proofs.Ythbcancckogloaa
open Go.RowKit
set_option linter.unusedVariables false
set_option linter.unusedSimpArgs false

theorem conv_text {w : World} {v : Value} {l : List Int} (h : SlAt w v l.length (l.map (Value.int .i32))) : (convert 24 9 v).run Try.prog w = .ok (.string (txt l)) w := by
  obtain ⟨ad, cap, rfl, ⟨_, hnil⟩, hc⟩ := h
  by_cases h0 : l.length = 0
  · have : l = [] := List.eq_nil_of_length_eq_zero h0
    subst this
    cases ad with
    | none =>
      rw [run_convert_runes_nil w _ _ _ _ _ Try.underlying24 Try.underlying21 Try.underlying9]
      rfl
    | some a =>
      have := run_convert_runes (P := Try.prog) w 24 9 21 a 0 cap [] (Nat.le_refl _) Try.underlying24 Try.underlying21 Try.underlying9 (fun j hj => by simp at hj)
      exact this
  · obtain ⟨b, off, rfl, hcs⟩ := hc h0
    have := run_convert_runes (P := Try.prog) w 24 9 21 ⟨b, off, none⟩ l.length cap l (Nat.le_refl _) Try.underlying24 Try.underlying21 Try.underlying9 (fun j hj => by
      have := hcs j (.int .i32 l[j]) (by rw [List.getElem?_map, List.getElem?_eq_getElem hj]; rfl)
      rw [show (⟨b, off, none⟩ : Addr).add j = ⟨b, off + j, none⟩ by simp only [Addr.add]; split <;> simp_all]
      rw [this]
      simp [List.getElem?_eq_getElem hj])
    rw [this, List.take_length, runesBytes_txt]
/-- What Runes answers: new memory, no room behind. -/
def RunesPost (s : ByteArray) (w : World) (r : Ending) (w' : World) : Prop :=
  ∃ cur, r = .returned (.slice (some ⟨w.heap.size, 0, none⟩) (runs s 0).length (runs s 0).length) ∧ w'.heap[w.heap.size]? = some (.cells cur 21 (0, 0)) ∧ cur.toList.take (runs s 0).length = (runs s 0).map (Value.int .i32) ∧ Keep [] w w'

/-! ### ranges over a text -/
theorem keep_iterAt {w wr : World} {k : Nat} (h : Keep [] w wr) (hk : w.heap.size ≤ k) (s : ByteArray) (p : Nat) : Keep [] w (wr.iterAt k s p) :=
  h.trans (L' := [k]) ⟨rfl, rfl, rfl, by rw [Lib.iterAt_size]; exact Nat.le_refl _, fun i _ hi => Lib.iterAt_other wr k i s p (by simpa using hi)⟩ (by intro x hx; simp at hx; subst hx; exact .inr hk)
theorem next_in {P : Program} {w : World} {k : Nat} {s : ByteArray} {p : Nat} (h : w.heap[k]? = some (.stringIter s p)) (hp : p < s.size) (ty : TypeId) :
    (Instr.next (.pointer (some ⟨k, 0, none⟩)) true ty).run P w = .ok (.tuple #[.bool true, .int .i64 p, .int .i32 (dec s p).1]) (w.iterAt k s (p + (dec s p).2)) := by
  rw [Lib.run_next_any_at w k s p ty h hp, dec_eq]

end Go.Proofs.Ythbcancckogloaa
