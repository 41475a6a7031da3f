/-
  Ahead of PlaceBack: plain.
-/
import Derived.Test.YtodbjehggkdjaaaMU
namespace Go.Proofs.Ytodbjehggkdjaaa
open Go.RowKit
set_option linter.unusedVariables false
set_option linter.unusedSimpArgs false

/-- Where line j begins; one beyond the last place, if there is none. -/
def stj (s : ByteArray) (j : Nat) : Nat := (lns s)[j]?.getD (np s + 1)
theorem stj_zero (s : ByteArray) : stj s 0 = 0 := by
  have hp := ln_pos s (np s)
  have h := lns_at (s := s) (j := 0) (by omega)
  have h2 := (st_le (s := s) (k := 0) (Nat.zero_le _) h).2 (by show 0 < 1; omega)
  unfold stj
  rw [h]
  show cellR.sl0 s 0 = 0
  omega
theorem stj_end (s : ByteArray) : stj s (ln s (np s)) = np s + 1 := by
  unfold stj
  rw [List.getElem?_eq_none (by rw [lns_len]; exact Nat.le_refl _)]
  rfl
theorem nx_stj (s : ByteArray) (j : Nat) : nx s j = stj s (j + 1) := rfl
theorem line_stj {s : ByteArray} {j : Nat} (h : j < ln s (np s)) : lineR s ((j : Nat) + 1 : Int) = (s.extract (pos s (stj s j)) (pos s (stj s (j + 1))), 0) ∧ pos s (stj s j) ≤ pos s (stj s (j + 1)) := by
  have hj := lns_at h
  have e : stj s j = cellR.sl0 s j := by unfold stj; rw [hj]; rfl
  have h3 := (line_is (k := cellR.sl0 s j) (st_np hj) hj).2.2
  rw [lineR_in hj, e, nx_stj]
  refine ⟨rfl, ?_⟩
  rw [nx_stj] at h3
  by_cases h4 : stj s (j + 1) ≤ np s
  · exact Nat.le_of_lt (pos_mono h3 h4)
  · rw [pos_end (k := stj s (j + 1)) (by omega)]; exact pos_le s _
theorem pos_stj_end (s : ByteArray) : pos s (stj s (ln s (np s))) = s.size := by rw [stj_end]; exact pos_end (by omega)

/-! ### each place's numbers lead to it again -/
theorem at_runes {s : ByteArray} {i : Nat} (hi : i ≤ np s) : atR s 2 (i : Nat) = (some i, 0) := by
  have hc : ∀ k, cnt s 2 k = k := fun k => by unfold cnt; rw [if_neg (by decide), if_pos rfl]
  have hf : fst (cnt s 2) (i : Nat) (np s) = i := fst_uniq (cnt_mono s 2) hi (by rw [hc]; exact Int.le_refl _) (fun j hj => by rw [hc]; omega)
  unfold atR
  rw [if_neg (by decide), if_neg (by rw [hc]; omega), hf, hc, if_pos rfl]
theorem at_bytes {s : ByteArray} {i : Nat} (hi : i ≤ np s) : atR s 1 (pos s i : Nat) = (some i, 0) := by
  have hc : ∀ k, cnt s 1 k = pos s k := fun k => if_pos rfl
  have hf : fst (cnt s 1) (pos s i : Nat) (np s) = i := fst_uniq (cnt_mono s 1) hi (by rw [hc]; exact Int.le_refl _) (fun j hj => by rw [hc]; have := pos_mono (s := s) hj hi; omega)
  have hle : pos s i ≤ pos s (np s) := by rw [← hc, ← hc]; exact cnt_mono s 1 i (np s) hi (Nat.le_refl _)
  unfold atR
  rw [if_neg (by decide), if_neg (by rw [hc]; omega), hf, hc, if_pos rfl]
theorem at_units {s : ByteArray} {i : Nat} (hi : i ≤ np s) : atR s 3 (un s i : Nat) = (some i, 0) := by
  have hc : ∀ k, cnt s 3 k = un s k := fun k => by unfold cnt; rw [if_neg (by decide), if_neg (by decide), if_pos rfl]
  have hf : fst (cnt s 3) (un s i : Nat) (np s) = i := fst_uniq (cnt_mono s 3) hi (by rw [hc]; exact Int.le_refl _) (fun j hj => by rw [hc]; have := un_mono s hj; omega)
  have hle : un s i ≤ un s (np s) := by rw [← hc, ← hc]; exact cnt_mono s 3 i (np s) hi (Nat.le_refl _)
  unfold atR
  rw [if_neg (by decide), if_neg (by rw [hc]; omega), hf, hc, if_pos rfl]
theorem at_clumps {s : ByteArray} {i : Nat} (hi : i ≤ np s) : ∃ k, atR s 4 (cl s i : Nat) = (some k, 0) ∧ k ≤ i ∧ cl s k = cl s i := by
  have hc : ∀ k, cnt s 4 k = cl s k := fun k => by unfold cnt; rw [if_neg (by decide), if_neg (by decide), if_neg (by decide)]
  have hle : cl s i ≤ cl s (np s) := cl_mono hi (Nat.le_refl _)
  have hl := fst_le (cnt s 4) (cl s i : Nat) (np s)
  obtain ⟨h1, h2⟩ := fst_is (f := cnt s 4) (x := (cl s i : Nat)) (n := np s) (cnt_mono s 4) (by rw [hc]; omega)
  have hki : fst (cnt s 4) (cl s i : Nat) (np s) ≤ i := Classical.byContradiction fun hn => by
    have := h2 i (by omega)
    rw [hc] at this
    omega
  have hcl := cl_mono (s := s) hki hi
  rw [hc] at h1
  refine ⟨fst (cnt s 4) (cl s i : Nat) (np s), ?_, hki, by omega⟩
  unfold atR
  rw [if_neg (by decide), if_neg (by rw [hc]; omega), hc, if_pos (by omega)]

/-- Within a line's end of two. -/
def mid2 (s : ByteArray) (i : Nat) : Bool := decide (0 < i) && (decide (i < np s) && (decide (rn s (i - 1) = 13) && decide (rn s i = 10)))
theorem sl_at {s : ByteArray} {i : Nat} (hi : i ≤ np s) : (lns s)[ln s i - 1]? = some (sl s i) := sl_is i hi
theorem cell_back {s : ByteArray} {i : Nat} (hi : i ≤ np s) : cellR s (ln s i : Nat) (co s i : Nat) = if mid2 s i = true then (none, 3) else (some i, 0) := by
  have hp := ln_pos s i
  have hj := sl_at hi
  obtain ⟨h1, h2, h3⟩ := line_is hi hj
  have hsl := sl_le s i
  have hlt := (h2.1 (by omega)).2
  have hnx := nx_le s (ln s i - 1)
  have hcell := cellR_in hj (co s i : Nat)
  rw [show (((ln s i - 1 : Nat) : Int) + 1) = ((ln s i : Nat) : Int) by omega] at hcell
  rw [hcell]
  have hco : co s i = i - sl s i + 1 := rfl
  have hout : ((co s i : Nat) : Int) < 1 ∨ (cw s (ln s i - 1) (sl s i) : Int) + 1 < (co s i : Nat) ↔ sl s i + cw s (ln s i - 1) (sl s i) < i := by omega
  have hkey : sl s i + cw s (ln s i - 1) (sl s i) < i ↔ mid2 s i = true := by
    unfold cw mid2
    simp only [Bool.and_eq_true, decide_eq_true_eq]
    by_cases hn : nx s (ln s i - 1) = np s + 1
    · rw [if_pos hn]
      constructor
      · intro h; omega
      · rintro ⟨g1, g2, g3, g4⟩
        exfalso
        have he : endP s i = true := by unfold endP; simp [g4]
        have := no_end (k := i) hj hsl (by omega)
        rw [he] at this
        cases this
    · rw [if_neg hn]
      have hend := end_of_nx hj (by omega)
      by_cases hc : sl s i < nx s (ln s i - 1) - 1 ∧ rn s (nx s (ln s i - 1) - 1) = 10 ∧ rn s (nx s (ln s i - 1) - 2) = 13
      · rw [if_pos hc]
        constructor
        · intro h
          have e : i = nx s (ln s i - 1) - 1 := by omega
          refine ⟨by omega, by omega, ?_, ?_⟩
          · rw [show i - 1 = nx s (ln s i - 1) - 2 by omega]; exact hc.2.2
          · have h' := hc.2.1
            rw [← e] at h'
            exact h'
        · rintro ⟨g1, g2, g3, g4⟩
          refine Classical.byContradiction fun hno => ?_
          have he : endP s i = true := by unfold endP; simp [g4]
          have := no_end (k := i) hj hsl (by omega)
          rw [he] at this
          cases this
      · rw [if_neg hc]
        constructor
        · intro h; omega
        · rintro ⟨g1, g2, g3, g4⟩
          exfalso
          have he : endP s i = true := by unfold endP; simp [g4]
          have e : i = nx s (ln s i - 1) - 1 := Classical.byContradiction fun hno => by
            have := no_end (k := i) hj hsl (by omega)
            rw [he] at this
            cases this
          refine hc ⟨?_, ?_, ?_⟩
          · refine Classical.byContradiction fun hge => ?_
            have hsi : sl s i = i := by omega
            obtain ⟨m, rfl⟩ : ∃ m, i = m + 1 := ⟨i - 1, by omega⟩
            have hem : endP s m = true := by
              refine Classical.byContradiction fun hne => ?_
              have : sl s (m + 1) = sl s m := by show (if endP s m = true then _ else _) = _; rw [if_neg hne]
              have := sl_le s m
              omega
            unfold endP at hem
            rw [Nat.add_sub_cancel] at g3
            have hm1 : ¬ (m + 1 = np s) := by omega
            simp [g3, g4, hm1] at hem
          · rw [← e]; exact g4
          · rw [show nx s (ln s i - 1) - 2 = i - 1 by omega]; exact g3
  by_cases hb : mid2 s i = true
  · rw [if_pos (hout.2 (hkey.2 hb)), if_pos hb]
  · rw [if_neg (fun h => hb (hkey.1 (hout.1 h))), if_neg hb]
    rw [show sl s i + ((co s i : Nat) : Int).toNat - 1 = i by omega]
/-- The same by bytes. -/
theorem mid2_byte {s : ByteArray} {i : Nat} (h0 : 0 < i) (hi : i < np s) : mid2 s i = (decide (byt s (pos s i - 1) = 13) && decide (byt s (pos s i) = 10)) := by
  obtain ⟨m, rfl⟩ : ∃ m, i = m + 1 := ⟨i - 1, by omega⟩
  have h10 := rn_byte hi (c := 10) (by decide)
  have h13 := rn_byte (s := s) (k := m) (by omega) (c := 13) (by decide)
  unfold mid2
  rw [Nat.add_sub_cancel, decide_eq_true h0, decide_eq_true hi, Bool.true_and, Bool.true_and]
  rw [show decide (rn s (m + 1) = 10) = decide (byt s (pos s (m + 1)) = 10) by simp only [h10]]
  congr 1
  rw [Bool.eq_iff_iff, decide_eq_true_eq, decide_eq_true_eq]
  constructor
  · intro h
    have hw := dec_w1 (s := s) (k := m) (by omega) (by omega)
    rw [hw, Nat.add_sub_cancel]
    exact h13.1 h
  · intro h
    have hw := last_byte (s := s) (k := m) (by omega) (by omega)
    rw [hw, Nat.add_sub_cancel] at h
    exact h13.2 h
theorem mid2_out {s : ByteArray} {i : Nat} (h : i = 0 ∨ np s ≤ i) : mid2 s i = false := by
  unfold mid2
  rcases h with h | h
  · subst h; rfl
  · rw [show decide (i < np s) = false by simp; omega]; simp
end Go.Proofs.Ytodbjehggkdjaaa
