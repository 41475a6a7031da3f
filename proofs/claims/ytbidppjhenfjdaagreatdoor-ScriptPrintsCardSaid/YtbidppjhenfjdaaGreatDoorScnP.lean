/-
  What a scanner finds: plain.
-/
import Derived.Test.YtbidppjhenfjdaaGreatDoorScnC
namespace Go.Proofs.YtbidppjhenfjdaaGreatDoor
open Go.RowKit
set_option linter.unusedVariables false
set_option linter.unusedSimpArgs false

/-- A remark's end. -/
def rem (s : ByteArray) (i : Nat) : Nat := if i < s.size ∧ byt s i ≠ 10 ∧ byt s i ≠ 13 then rem s (i + 1) else i
termination_by s.size - i
theorem rem_on {s : ByteArray} {i : Nat} (h : i < s.size ∧ byt s i ≠ 10 ∧ byt s i ≠ 13) : rem s i = rem s (i + 1) := by rw [rem, if_pos h]
theorem rem_end {s : ByteArray} {i : Nat} (h : ¬ (i < s.size ∧ byt s i ≠ 10 ∧ byt s i ≠ 13)) : rem s i = i := by rw [rem, if_neg h]
theorem rem_spec (s : ByteArray) : ∀ (m i : Nat), s.size - i ≤ m → i ≤ s.size → i ≤ rem s i ∧ rem s i ≤ s.size := by
  intro m
  induction m with
  | zero => intro i hm hi; rw [rem_end (by omega)]; exact ⟨Nat.le_refl _, hi⟩
  | succ m ih =>
    intro i hm hi
    by_cases h : i < s.size ∧ byt s i ≠ 10 ∧ byt s i ≠ 13
    · rw [rem_on h]
      have := ih (i + 1) (by omega) (by omega)
      omega
    · rw [rem_end h]; exact ⟨Nat.le_refl _, hi⟩
theorem pw_more {s : ByteArray} {a : Nat} (h : endB s a = false) (h0 : (pw s a).2 = 0) : a < (pw s a).1 ∧ (pw s a).1 ≤ s.size := by
  have has := (endB_lt h).1
  by_cases h1 : (dec s a).1 = 34
  · rw [pw_quote h h1] at h0; simp at h0
  · by_cases h2 : wid s a = 0 ∨ (dec s a).1 < 32 ∨ (dec s a).1 = 127
    · rw [pw_bad h h1 h2] at h0; simp at h0
    · rw [pw_on h h1 h2]
      have hn := dec_n has
      have := pw_spec s s.size (a + (dec s a).2) (by omega) hn.2.2
      omega
theorem plF_more {s : ByteArray} {a l e : Nat} (h : endB s a = false) (h0 : (plF s a l).2 = some e) : a < e ∧ e ≤ s.size := by
  unfold plF at h0
  split at h0
  · cases h0
  · rename_i h1
    have hm := pw_more h (by simpa using h1)
    split at h0
    · injection h0 with h0; omega
    · split at h0
      · cases h0
      · injection h0 with h0; omega
theorem qtd_more {s x : ByteArray} {a e : Nat} (h : qtd s a = (true, x, e)) : a < e ∧ e ≤ s.size := by
  unfold qtd at h
  split at h
  · rename_i h0
    have := qd_pos s (a + 1) ByteArray.empty (by omega)
    rw [h] at this
    have h1 := this.2.2.1 rfl
    exact ⟨by simp only at h1; omega, this.2.1⟩
  · injection h with h; cases h
/-- Behind a line's end. -/
def lineB (s : ByteArray) (i : Nat) : Nat := if byt s i = 13 ∧ i + 1 < s.size ∧ byt s (i + 1) = 10 then i + 2 else i + 1
theorem lineB_more {s : ByteArray} {i : Nat} (h : i < s.size) : i < lineB s i ∧ lineB s i ≤ s.size := by unfold lineB; split <;> omega
def endF (some : Bool) (a l : Nat) : List Fn := if some = true then [⟨4, ByteArray.empty, 0, a, l, 0⟩] else []
/-- All that is found from a byte on, in a line, behind a word of that line or not. -/
def scn (s : ByteArray) (a l : Nat) (sm : Bool) : List Fn :=
  if h : a < s.size then
    if h1 : byt s a = 10 ∨ byt s a = 13 then endF sm a l ++ scn s (lineB s a) (l + 1) false
    else if byt s a = 32 ∨ byt s a = 9 then scn s (a + 1) l sm
    else if h3 : byt s a = 35 then scn s (rem s a) l sm
    else if h4 : byt s a ≠ 34 then
      match h5 : plF s a l with
      | (f, none) => [f]
      | (f, some e) => if h7 : a < e ∧ e ≤ s.size then f :: scn s e l true else [f]
    else
      match h6 : qtd s a with
      | (false, _, e) => [⟨0, ByteArray.empty, 0, e, l, 18⟩]
      | (true, x, e) => if h7 : endB s e = true ∧ a < e ∧ e ≤ s.size then ⟨2, x, 0, a, l, 0⟩ :: scn s e l true else [⟨0, ByteArray.empty, 0, e, l, 18⟩]
  else endF sm a l
termination_by s.size - a
decreasing_by
  · have := lineB_more h; omega
  · omega
  · have h2 : a < rem s a := by
      rw [rem_on ⟨h, by omega, by omega⟩]
      have := rem_spec s s.size (a + 1) (by omega) (by omega)
      omega
    have := rem_spec s s.size a (by omega) (by omega)
    omega
  · omega
  · omega
theorem scn_over {s : ByteArray} {a l : Nat} {sm : Bool} (h : ¬ a < s.size) : scn s a l sm = endF sm a l := by rw [scn, dif_neg h]
theorem scn_line {s : ByteArray} {a l : Nat} {sm : Bool} (h : a < s.size) (h1 : byt s a = 10 ∨ byt s a = 13) : scn s a l sm = endF sm a l ++ scn s (lineB s a) (l + 1) false := by rw [scn, dif_pos h, dif_pos h1]
theorem scn_blank {s : ByteArray} {a l : Nat} {sm : Bool} (h : a < s.size) (h1 : byt s a = 32 ∨ byt s a = 9) : scn s a l sm = scn s (a + 1) l sm := by
  rw [scn, dif_pos h, dif_neg (by omega), if_pos h1]
theorem scn_rem {s : ByteArray} {a l : Nat} {sm : Bool} (h : a < s.size) (h1 : byt s a = 35) : scn s a l sm = scn s (rem s a) l sm := by
  rw [scn, dif_pos h, dif_neg (by omega), if_neg (by omega), dif_pos h1]
/-- At a byte at which a word begins. -/
def WordAt (s : ByteArray) (a : Nat) : Prop := a < s.size ∧ byt s a ≠ 10 ∧ byt s a ≠ 13 ∧ byt s a ≠ 32 ∧ byt s a ≠ 9 ∧ byt s a ≠ 35
theorem WordAt.ends {s : ByteArray} {a : Nat} (h : WordAt s a) : endB s a = false := by
  apply endB_no
  obtain ⟨h0, h1, h2, h3, h4, h5⟩ := h
  omega
theorem scn_bad {s : ByteArray} {a l : Nat} {sm : Bool} {f : Fn} (h : WordAt s a) (h1 : byt s a ≠ 34) (h2 : plF s a l = (f, none)) : scn s a l sm = [f] := by
  obtain ⟨h0, a1, a2, a3, a4, a5⟩ := h
  rw [scn, dif_pos h0, dif_neg (by omega), if_neg (by omega), dif_neg a5, dif_pos h1]
  split
  · rename_i f' h5
    rw [h2] at h5
    injection h5 with h5
    rw [h5]
  · rename_i f' e' h5
    rw [h2] at h5
    injection h5 with _ h5
    cases h5
theorem scn_plain {s : ByteArray} {a l e : Nat} {sm : Bool} {f : Fn} (h : WordAt s a) (h1 : byt s a ≠ 34) (h2 : plF s a l = (f, some e)) : scn s a l sm = f :: scn s e l true := by
  have hm := plF_more h.ends (by rw [h2])
  obtain ⟨h0, a1, a2, a3, a4, a5⟩ := h
  rw [scn, dif_pos h0, dif_neg (by omega), if_neg (by omega), dif_neg a5, dif_pos h1]
  split
  · rename_i f' h5
    rw [h2] at h5
    injection h5 with _ h5
    cases h5
  · rename_i f' e' h5
    rw [h2] at h5
    injection h5 with h5 h6
    injection h6 with h6
    subst h5
    subst h6
    rw [dif_pos hm]
theorem scn_quote {s x : ByteArray} {a l e : Nat} {sm : Bool} (h : WordAt s a) (h1 : byt s a = 34) (h2 : qtd s a = (true, x, e)) (h3 : endB s e = true) : scn s a l sm = ⟨2, x, 0, a, l, 0⟩ :: scn s e l true := by
  have hm := qtd_more h2
  obtain ⟨h0, a1, a2, a3, a4, a5⟩ := h
  rw [scn, dif_pos h0, dif_neg (by omega), if_neg (by omega), dif_neg a5, dif_neg (by simp [h1])]
  split
  · rename_i y e' h5
    rw [h2] at h5
    injection h5 with h5
    cases h5
  · rename_i y e' h5
    rw [h2] at h5
    injection h5 with _ h5
    injection h5 with h5 h6
    subst h5
    subst h6
    rw [dif_pos ⟨h3, hm⟩]
theorem scn_unq {s x : ByteArray} {a l e : Nat} {sm ok : Bool} (h : WordAt s a) (h1 : byt s a = 34) (h2 : qtd s a = (ok, x, e)) (h3 : ok = false ∨ endB s e = false) : scn s a l sm = [⟨0, ByteArray.empty, 0, e, l, 18⟩] := by
  obtain ⟨h0, a1, a2, a3, a4, a5⟩ := h
  rw [scn, dif_pos h0, dif_neg (by omega), if_neg (by omega), dif_neg a5, dif_neg (by simp [h1])]
  split
  · rename_i y e' h5
    rw [h2] at h5
    injection h5 with _ h5
    injection h5 with _ h6
    subst h6
    rfl
  · rename_i y e' h5
    rw [h2] at h5
    injection h5 with h4 h5
    injection h5 with _ h6
    subst h6
    subst h4
    rcases h3 with h3 | h3
    · cases h3
    · rw [dif_neg (fun hh => by rw [h3] at hh; cases hh.1)]
end Go.Proofs.YtbidppjhenfjdaaGreatDoor
