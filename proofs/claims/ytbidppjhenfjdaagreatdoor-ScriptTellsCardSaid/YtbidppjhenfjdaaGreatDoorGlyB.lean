/-
  Walks of width.
-/
import Derived.Test.YtbidppjhenfjdaaGreatDoorGlyA
import Derived.Lib.DecodeN
namespace Go.Proofs.YtbidppjhenfjdaaGreatDoor
open Go.RowKit
set_option linter.unusedVariables false

/-- So many bytes of a range, and 80 to bf. -/
def tailB (n b1 b2 b3 m lo hi : Nat) : Bool := decide (m < n) && (decide (lo ≤ b1) && (decide (b1 ≤ hi) && ((decide (m < 2) || b2 / 64 == 2) && (decide (m < 3) || b3 / 64 == 2))))
theorem follows_tail (s : ByteArray) (h : 0 < s.size) (m lo hi : Nat) (hm : 1 ≤ m) (hm3 : m ≤ 3) : followsB (s.extract 1 s.size) m lo hi = tailB s.size (byt s 1) (byt s 2) (byt s 3) m lo hi := by
  unfold followsB tailB
  rw [size_tail s 1 h, byt_tail]
  have e1 : decide (m ≤ s.size - 1) = decide (m < s.size) := by congr 1; exact propext ⟨fun h => by omega, fun h => by omega⟩
  rw [e1]
  have hc : m = 1 ∨ m = 2 ∨ m = 3 := by omega
  rcases hc with rfl | rfl | rfl
  · simp [List.range_succ]
  · simp [List.range_succ, byt_tail]
  · simp [List.range_succ, byt_tail]

theorem slow_form (n b0 b1 b2 b3 m lo hi : Nat) (h1 : b1 < 256) (h2 : b2 < 256) (h3 : b3 < 256) (hm : m = 1 ∨ m = 2 ∨ m = 3) :
    ∃ c, Lib.slowN n b0 b1 b2 b3 (m + 1) lo hi = if tailB n b1 b2 b3 m lo hi = true then (c, m + 1) else (65533, 1) := by
  simp only [tailB, Bool.and_eq_true, Bool.or_eq_true, decide_eq_true_eq, beq_iff_eq]
  unfold Lib.slowN
  by_cases c1 : n < m + 1
  · exact ⟨0, by rw [if_pos c1, if_neg (by omega)]⟩
  by_cases c2 : b1 < lo ∨ hi < b1
  · exact ⟨0, by rw [if_neg c1, if_pos c2, if_neg (by omega)]⟩
  rcases hm with rfl | rfl | rfl
  · exact ⟨_, by rw [if_neg c1, if_neg c2, if_pos (by decide), if_pos (by omega)]⟩
  · by_cases c3 : b2 / 64 = 2
    · exact ⟨_, by rw [if_neg c1, if_neg c2, if_neg (by decide), if_neg (by omega), if_pos (by decide), if_pos (by omega)]⟩
    · exact ⟨0, by rw [if_neg c1, if_neg c2, if_neg (by decide), if_pos (by omega), if_neg (by omega)]⟩
  · by_cases c3 : b2 / 64 = 2
    · by_cases c4 : b3 / 64 = 2
      · exact ⟨_, by rw [if_neg c1, if_neg c2, if_neg (by decide), if_neg (by omega), if_neg (by decide), if_neg (by omega), if_pos (by omega)]⟩
      · exact ⟨0, by rw [if_neg c1, if_neg c2, if_neg (by decide), if_neg (by omega), if_neg (by decide), if_pos (by omega), if_neg (by omega)]⟩
    · exact ⟨0, by rw [if_neg c1, if_neg c2, if_neg (by decide), if_pos (by omega), if_neg (by omega)]⟩
theorem slow_wid (n b0 b1 b2 b3 m lo hi : Nat) (h1 : b1 < 256) (h2 : b2 < 256) (h3 : b3 < 256) (hm : m = 1 ∨ m = 2 ∨ m = 3) :
    (if Lib.slowN n b0 b1 b2 b3 (m + 1) lo hi = (65533, 1) then 0 else (Lib.slowN n b0 b1 b2 b3 (m + 1) lo hi).2) = if tailB n b1 b2 b3 m lo hi = true then m + 1 else 0 := by
  obtain ⟨c, hc⟩ := slow_form n b0 b1 b2 b3 m lo hi h1 h2 h3 hm
  rw [hc]
  cases tailB n b1 b2 b3 m lo hi
  · simp
  · have : ¬ (c, m + 1) = (65533, 1) := by simp; omega
    simp only [if_true]
    rw [if_neg this]

/-- The rows of the table: a lead byte, how many bytes behind it, the first one's range. -/
theorem wid_row (s : ByteArray) (hs : 0 < s.size) (m lo hi : Nat)
    (hc : (194 ≤ byt s 0 ∧ byt s 0 < 224 ∧ m = 1 ∧ lo = 128 ∧ hi = 191) ∨ (byt s 0 = 224 ∧ m = 2 ∧ lo = 160 ∧ hi = 191) ∨ (byt s 0 = 237 ∧ m = 2 ∧ lo = 128 ∧ hi = 159) ∨ (((225 ≤ byt s 0 ∧ byt s 0 < 237) ∨ (238 ≤ byt s 0 ∧ byt s 0 < 240)) ∧ m = 2 ∧ lo = 128 ∧ hi = 191) ∨
      (byt s 0 = 240 ∧ m = 3 ∧ lo = 144 ∧ hi = 191) ∨ (241 ≤ byt s 0 ∧ byt s 0 < 244 ∧ m = 3 ∧ lo = 128 ∧ hi = 191) ∨ (byt s 0 = 244 ∧ m = 3 ∧ lo = 128 ∧ hi = 143)) :
    wid s 0 = if followsB (s.extract 1 s.size) m lo hi = true then m + 1 else 0 := by
  have hm : m = 1 ∨ m = 2 ∨ m = 3 := by omega
  rw [follows_tail s hs m lo hi (by omega) (by omega)]
  rw [← slow_wid s.size (byt s 0) _ _ _ m lo hi (byt_lt s 1) (byt_lt s 2) (byt_lt s 3) hm]
  have hd : dec s 0 = Lib.slowN s.size (byt s 0) (byt s 1) (byt s 2) (byt s 3) (m + 1) lo hi := by
    unfold dec
    rcases hc with h | h | h | h | h | h | h
    · obtain ⟨h1, h2, rfl, rfl, rfl⟩ := h; exact (Lib.slow_C2 _ _ _ _ _ hs (byt_lt s 1) (byt_lt s 2) (byt_lt s 3) ⟨h1, h2⟩).symm
    · obtain ⟨h1, rfl, rfl, rfl⟩ := h; exact (Lib.slow_E0 _ _ _ _ _ hs (byt_lt s 1) (byt_lt s 2) (byt_lt s 3) h1).symm
    · obtain ⟨h1, rfl, rfl, rfl⟩ := h; exact (Lib.slow_ED _ _ _ _ _ hs (byt_lt s 1) (byt_lt s 2) (byt_lt s 3) h1).symm
    · obtain ⟨h1, rfl, rfl, rfl⟩ := h; exact (Lib.slow_E1 _ _ _ _ _ hs (byt_lt s 1) (byt_lt s 2) (byt_lt s 3) h1).symm
    · obtain ⟨h1, rfl, rfl, rfl⟩ := h; exact (Lib.slow_F0 _ _ _ _ _ hs (byt_lt s 1) (byt_lt s 2) (byt_lt s 3) h1).symm
    · obtain ⟨h1, h2, rfl, rfl, rfl⟩ := h; exact (Lib.slow_F1 _ _ _ _ _ hs (byt_lt s 1) (byt_lt s 2) (byt_lt s 3) ⟨h1, h2⟩).symm
    · obtain ⟨h1, rfl, rfl, rfl⟩ := h; exact (Lib.slow_F4 _ _ _ _ _ hs (byt_lt s 1) (byt_lt s 2) (byt_lt s 3) h1).symm
  unfold wid
  rw [hd]
theorem wid_ascii (s : ByteArray) (h : byt s 0 < 128) : wid s 0 = 1 := by
  unfold wid dec Lib.decodeN
  rw [if_pos h]
  have : ¬ (byt s 0, 1) = (65533, 1) := by simp; omega
  rw [if_neg this]
theorem wid_bad (s : ByteArray) (h1 : ¬ byt s 0 < 128) (h2 : byt s 0 < 194 ∨ 244 < byt s 0) : wid s 0 = 0 := by
  have hb := byt_lt s 0
  have b1 := byt_lt s 1
  have b2 := byt_lt s 2
  have b3 := byt_lt s 3
  have : dec s 0 = (65533, 1) := by
    unfold dec Lib.decodeN
    repeat' split
    all_goals first | rfl | (exfalso; omega)
  unfold wid
  rw [if_pos this]
end Go.Proofs.YtbidppjhenfjdaaGreatDoor
