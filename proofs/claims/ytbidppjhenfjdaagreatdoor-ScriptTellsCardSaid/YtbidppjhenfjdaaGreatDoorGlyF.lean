/-
  Walks of Encode, Text, Runes, Count, BadAt.
-/
import Derived.Test.YtbidppjhenfjdaaGreatDoorGlyE
import Derived.Test.YtbidppjhenfjdaaGreatDoorGlyZ
import Derived.Lib.OthersKept
namespace Go.Proofs.YtbidppjhenfjdaaGreatDoor
open Go.RowKit
set_option linter.unusedVariables false
set_option linter.unusedSimpArgs false

theorem encode_any (n : Int) (w : World) : Calls Tryz.prog 116 #[.int .i32 n] w fun e w' => e = .returned (.string (Utf8.encode n)) ∧ w = w' := by
  go_enter Tryz.func116, Tryz.ntmps116
  go_wp2
  go_ret
  exact ⟨rfl, rfl⟩

/-- What Runes answers: new memory, no room behind. -/
def RunesPost (s : ByteArray) (w : World) (r : Ending) (w' : World) : Prop :=
  ∃ cur, r = .returned (.slice (some ⟨w.heap.size, 0, none⟩) (runs s 0).length (runs s 0).length) ∧ w'.heap[w.heap.size]? = some (.cells cur 21 (0, 0)) ∧ cur.toList.take (runs s 0).length = (runs s 0).map (Value.int .i32) ∧ Keep [] w w'

/-! ### ranges over a text -/
theorem keep_iterAt {w wr : World} {k : Nat} (h : Keep [] w wr) (hk : w.heap.size ≤ k) (s : ByteArray) (p : Nat) : Keep [] w (wr.iterAt k s p) :=
  h.trans (L' := [k]) ⟨rfl, rfl, rfl, by rw [Lib.iterAt_size]; exact Nat.le_refl _, fun i _ hi => Lib.iterAt_other wr k i s p (by simpa using hi)⟩ (by intro x hx; simp at hx; subst hx; exact .inr hk)
theorem next_in {P : Program} {w : World} {k : Nat} {s : ByteArray} {p : Nat} (h : w.heap[k]? = some (.stringIter s p)) (hp : p < s.size) (ty : TypeId) :
    (Instr.next (.pointer (some ⟨k, 0, none⟩)) true ty).run P w = .ok (.tuple #[.bool true, .int .i64 p, .int .i32 (dec s p).1]) (w.iterAt k s (p + (dec s p).2)) := by
  rw [Lib.run_next_any_at w k s p ty h hp, dec_eq]

end Go.Proofs.YtbidppjhenfjdaaGreatDoor
