/-
  A quoted text is good, and of one line.
-/
import Derived.Test.YtbmapellhcdipaaDoorQuoU
import Derived.Test.YtbmapellhcdipaaDoorGlyN
namespace Go.Proofs.YtbmapellhcdipaaDoor
open Go.RowKit
set_option linter.unusedVariables false
set_option linter.unusedSimpArgs false

def IsTxt (x : ByteArray) : Prop := ∃ L, x = txt L
theorem IsTxt.append {x y : ByteArray} (h : IsTxt x) (k : IsTxt y) : IsTxt (x ++ y) := by
  obtain ⟨L, rfl⟩ := h
  obtain ⟨M, rfl⟩ := k
  exact ⟨L ++ M, (txt_append L M).symm⟩
theorem isTxt_enc (n : Int) : IsTxt (Utf8.encode n) := ⟨[n], by simp [txt]⟩
theorem isTxt_one {c : Nat} (h : c < 128) : IsTxt (one c) := by
  have he : Utf8.encode ((c : Nat) : Int) = one c := enc_1 h
  rw [← he]
  exact isTxt_enc _
theorem isTxt_hexs : ∀ r : Nat, IsTxt (hexs r) := by
  intro r
  induction r using Nat.strongRecOn with
  | ind r ih =>
    by_cases h : r < 16
    · rw [hexs_small h]; exact isTxt_one (hexd_lt h).1
    · rw [hexs_big h]; exact (ih _ (by omega)).append (isTxt_one (hexd_lt (Nat.mod_lt _ (by decide))).1)
theorem isTxt_two {c : Nat} (h : c < 256) : IsTxt (two c) :=
  (((isTxt_one (by decide)).append (isTxt_one (by decide))).append (isTxt_one (hexd_lt (by omega)).1)).append (isTxt_one (hexd_lt (by omega)).1)
theorem isTxt_braces (r : Nat) : IsTxt (braces r) :=
  ((((isTxt_one (by decide)).append (isTxt_one (by decide))).append (isTxt_one (by decide))).append (isTxt_hexs r)).append (isTxt_one (by decide))
theorem lett_low (r : Nat) : lett r < 128 := by unfold lett; (repeat' split) <;> omega
theorem isTxt_qp (s : ByteArray) (i : Nat) : IsTxt (qp s i) := by
  unfold qp
  split
  · exact isTxt_two (byt_lt s i)
  · split
    · exact (isTxt_one (by decide)).append (isTxt_one (lett_low _))
    · split
      · exact isTxt_two (byt_lt s i)
      · split
        · exact isTxt_braces _
        · exact isTxt_enc _
theorem isTxt_qcat (s : ByteArray) : ∀ l : List Nat, IsTxt (qcat s l)
  | [] => ⟨[], rfl⟩
  | i :: l => (isTxt_qp s i).append (isTxt_qcat s l)
theorem quo_good (s : ByteArray) : Good (quo s) 0 := by
  obtain ⟨L, hL⟩ := ((isTxt_one (c := 34) (by decide)).append (isTxt_qcat s (cut s 0))).append (isTxt_one (c := 34) (by decide))
  have hq : quo s = txt L := hL
  rw [hq]
  exact (runs_text L).2

/-- No byte below 32, none that is 127. -/
def Fine (x : ByteArray) : Prop := ∀ i, i < x.size → 32 ≤ byt x i ∧ byt x i ≠ 127
theorem Fine.append {x y : ByteArray} (h : Fine x) (k : Fine y) : Fine (x ++ y) := fun i hi => by
  rw [ByteArray.size_append] at hi
  by_cases hx : i < x.size
  · rw [byt_append_left _ _ _ hx]; exact h i hx
  · have e : i = x.size + (i - x.size) := by omega
    rw [e, byt_append_right]
    exact k _ (by omega)
theorem fine_one {c : Nat} (h : 32 ≤ c ∧ c < 127) : Fine (one c) := fun i hi => by
  rw [one_size] at hi
  obtain rfl : i = 0 := by omega
  rw [byt_one (by omega)]
  omega
theorem fine_hexd {d : Nat} (h : d < 16) : Fine (one (hexd d)) := fine_one (by unfold hexd; split <;> omega)
theorem fine_hexs : ∀ r : Nat, Fine (hexs r) := by
  intro r
  induction r using Nat.strongRecOn with
  | ind r ih =>
    by_cases h : r < 16
    · rw [hexs_small h]; exact fine_hexd h
    · rw [hexs_big h]; exact (ih _ (by omega)).append (fine_hexd (Nat.mod_lt _ (by decide)))
theorem fine_two {c : Nat} (h : c < 256) : Fine (two c) :=
  (((fine_one (by decide)).append (fine_one (by decide))).append (fine_hexd (by omega))).append (fine_hexd (by omega))
theorem fine_braces (r : Nat) : Fine (braces r) :=
  ((((fine_one (by decide)).append (fine_one (by decide))).append (fine_one (by decide))).append (fine_hexs r)).append (fine_one (by decide))
theorem fine_enc {r : Nat} (hv : Utf8.valid (r : Nat) = true) (h : ¬ (r < 32 ∨ r = 127)) : Fine (Utf8.encode (r : Nat)) := by
  have hr := rune_of_enc (s := Utf8.encode (r : Nat)) (i := 0) (c := r) hv (by omega) (fun k hk => by rw [Nat.zero_add])
  intro k hk
  by_cases h0 : k = 0
  · subst h0
    have := hr.2
    omega
  · have := hr.goes (k := k) (by omega) hk
    rw [Nat.zero_add] at this
    omega
theorem fine_qp {s : ByteArray} {i : Nat} (hi : i < s.size) : Fine (qp s i) := by
  unfold qp
  split
  · exact fine_two (byt_lt s i)
  · split
    · rename_i h
      refine (fine_one (by decide)).append (fine_one ?_)
      rcases lett_1 h with e | e | e | e | e <;> rw [e] <;> decide
    · split
      · exact fine_two (byt_lt s i)
      · rename_i h
        split
        · exact fine_braces _
        · exact fine_enc (dec_scalar hi) h
theorem fine_qcat {s : ByteArray} : ∀ {l : List Nat}, (∀ i ∈ l, i < s.size) → Fine (qcat s l)
  | [], _ => fun i hi => by simp [qcat] at hi
  | i :: l, h => (fine_qp (h i (by simp))).append (fine_qcat (fun j hj => h j (by simp [hj])))
theorem quo_fine (s : ByteArray) : Fine (quo s) :=
  ((fine_one (by decide)).append (fine_qcat (fun i hi => by
    obtain ⟨j, hj, rfl⟩ := List.getElem_of_mem hi
    exact (at_get s j hj).2))).append (fine_one (by decide))
end Go.Proofs.YtbmapellhcdipaaDoor
