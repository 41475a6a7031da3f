/-
  Walks of number, Decode, Last.
-/
import Derived.Test.YtbidppjhenfjdaaGreatDoorGlyC
namespace Go.Proofs.YtbidppjhenfjdaaGreatDoor
open Go.RowKit
set_option linter.unusedVariables false
set_option linter.unusedSimpArgs false

def m0 (s : ByteArray) : Nat := if 1 < s.size then byt s 0 % (128 / 2 ^ s.size) else byt s 0
def numK (s : ByteArray) : Nat → Nat
  | 0 => m0 s
  | k + 1 => numK s k * 64 + byt s (k + 1) % 64
theorem numK_bound (s : ByteArray) (k : Nat) (hk : k ≤ 2) : numK s k < 2097152 := by
  have h0 : m0 s < 256 := by
    unfold m0
    have := byt_lt s 0
    split
    · have := Nat.mod_le (byt s 0) (128 / 2 ^ s.size); omega
    · omega
  have : k = 0 ∨ k = 1 ∨ k = 2 := by omega
  rcases this with rfl | rfl | rfl <;> simp only [numK] <;> omega
theorem and_m0 (s : ByteArray) (h1 : 1 < s.size) (h4 : s.size ≤ 4) : bits BinOp.and .i32 (byt s 0 : Int) (127 / 2 ^ s.size) = (m0 s : Int) := by
  have hb := byt_lt s 0
  unfold m0
  rw [if_pos h1]
  have : s.size = 2 ∨ s.size = 3 ∨ s.size = 4 := by omega
  rcases this with h | h | h <;> rw [h]
  · exact (by decide +kernel : ∀ y : Fin 256, bits BinOp.and .i32 (y.1 : Int) (127 / 2 ^ 2) = ((y.1 % (128 / 2 ^ 2) : Nat) : Int)) ⟨_, hb⟩
  · exact (by decide +kernel : ∀ y : Fin 256, bits BinOp.and .i32 (y.1 : Int) (127 / 2 ^ 3) = ((y.1 % (128 / 2 ^ 3) : Nat) : Int)) ⟨_, hb⟩
  · exact (by decide +kernel : ∀ y : Fin 256, bits BinOp.and .i32 (y.1 : Int) (127 / 2 ^ 4) = ((y.1 % (128 / 2 ^ 4) : Nat) : Int)) ⟨_, hb⟩
theorem numK_rune {s : ByteArray} {r : Nat} (h : RuneAt s 0 r s.size) : numK s (s.size - 1) = r := by
  have b0 := byt_lt s 0
  obtain ⟨hs, h⟩ := h
  rcases h with ⟨h0, h1, h2⟩ | ⟨h0, h1, h2, h3, h4⟩ | ⟨h0, h1, h2, h3, h4, h5, h6, h7⟩ | ⟨h0, h1, h2, h3, h4, h5, h6, h7, h8⟩
  · rw [h0]; show m0 s = r; unfold m0; rw [h0, if_neg (by decide)]; omega
  · rw [h0]; show m0 s * 64 + byt s (0 + 1) % 64 = r; unfold m0; rw [h0, if_pos (by decide)]; omega
  · rw [h0]; show (m0 s * 64 + byt s (0 + 1) % 64) * 64 + byt s (0 + 2) % 64 = r; unfold m0; rw [h0, if_pos (by decide)]; omega
  · rw [h0]; show ((m0 s * 64 + byt s (0 + 1) % 64) * 64 + byt s (0 + 2) % 64) * 64 + byt s (0 + 3) % 64 = r; unfold m0; rw [h0, if_pos (by decide)]; omega

set_option maxHeartbeats 1000000 in
theorem number_any (s : ByteArray) (r : Nat) (w : World) (h : RuneAt s 0 r s.size) :
    Calls Tryz.prog 88 #[.string s] w fun e w' => e = .returned (.int .i32 r) ∧ w = w' := by
  have h4 := h.n4
  have hs0 : 0 < s.size := by omega
  have hb0 := byt_at hs0
  have hlt := byt_lt s 0
  have HR := Lib.hid (numK_rune h)
  clear h
  by_cases h1 : s.size = 1
  · have d1 : decide ((1 : Int) < (s.size : Int)) = false := by simp; omega
    have hm : m0 s = byt s 0 := by unfold m0; rw [if_neg (by omega)]
    have HM := Lib.hid hm; clear hm
    go_enter Tryz.func88, Tryz.ntmps88
    go_wp2
    go_loopw [3, 4] (fun r i wr => i = .int .i64 1 ∧ r = .int .i32 (byt s 0) ∧ wr = w) (fun _ i _ => s.size - (intOf i).toNat)
    case atStart => exact ⟨rfl, rfl, rfl⟩
    case round =>
      obtain ⟨rfl, rfl, rfl⟩ := hrel
      have hltd : decide ((1 : Int) < (s.size : Int)) = false := by simp; omega
      go_wp2
      go_ret
      have := HR.out
      rw [h1] at this
      change m0 s = r at this
      exact ⟨by rw [← this, HM.out]; rfl, rfl⟩
  · have d1 : decide ((1 : Int) < (s.size : Int)) = true := by simp; omega
    have hm := and_m0 s (by omega) (by omega)
    go_enter Tryz.func88, Tryz.ntmps88
    go_wp2
    go_loopw [3, 4] (fun r i wr => ∃ k : Nat, 1 ≤ k ∧ k ≤ s.size ∧ i = .int .i64 k ∧ r = .int .i32 (numK s (k - 1)) ∧ wr = w) (fun _ i _ => s.size - (intOf i).toNat)
    case atStart => exact ⟨1, Nat.le_refl _, by omega, rfl, rfl, rfl⟩
    case round =>
      obtain ⟨k, hk1, hk, rfl, rfl, rfl⟩ := hrel
      by_cases hltk : k < s.size
      · obtain ⟨j, rfl⟩ : ∃ j, k = j + 1 := ⟨k - 1, by omega⟩
        have hbk := byt_at hltk
        have hbl := byt_lt s (j + 1)
        have hnb := numK_bound s j (by omega)
        have hltd : decide ((j : Int) + 1 < (s.size : Int)) = true := by simp; omega
        go_wp2
        go_roundw
        case rel => exact ⟨j + 2, by omega, by omega, by go_num, by show _ = Value.int .i32 ((numK s j * 64 + byt s (j + 1) % 64 : Nat) : Int); go_num, by trivial⟩
        case measure => simp [intOf]; omega
      · obtain rfl : k = s.size := by omega
        have hltd : decide ((s.size : Int) < (s.size : Int)) = false := by simp
        go_wp2
        go_ret
        exact ⟨by rw [HR.out]; rfl, rfl⟩
end Go.Proofs.YtbidppjhenfjdaaGreatDoor
