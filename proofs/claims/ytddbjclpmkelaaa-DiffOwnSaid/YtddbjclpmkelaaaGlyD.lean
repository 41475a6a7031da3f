/-
  Walks of number, Decode, Last.
-/
import Derived.Test.YtddbjclpmkelaaaGlyC
namespace Go.Proofs.Ytddbjclpmkelaaa
open Go.RowKit
set_option linter.unusedVariables false
set_option linter.unusedSimpArgs false

def m0 (s : ByteArray) : Nat := if 1 < s.size then byt s 0 % (128 / 2 ^ s.size) else byt s 0
def numK (s : ByteArray) : Nat → Nat
  | 0 => m0 s
  | k + 1 => numK s k * 64 + byt s (k + 1) % 64
theorem numK_bound (s : ByteArray) (k : Nat) (hk : k ≤ 2) : numK s k < 2097152 := by
  have h0 : m0 s < 256 := by
    unfold m0
    have := byt_lt s 0
    split
    · have := Nat.mod_le (byt s 0) (128 / 2 ^ s.size); omega
    · omega
  have : k = 0 ∨ k = 1 ∨ k = 2 := by omega
  rcases this with rfl | rfl | rfl <;> simp only [numK] <;> omega
theorem and_m0 (s : ByteArray) (h1 : 1 < s.size) (h4 : s.size ≤ 4) : bits BinOp.and .i32 (byt s 0 : Int) (127 / 2 ^ s.size) = (m0 s : Int) := by
  have hb := byt_lt s 0
  unfold m0
  rw [if_pos h1]
  have : s.size = 2 ∨ s.size = 3 ∨ s.size = 4 := by omega
  rcases this with h | h | h <;> rw [h]
  · exact (by decide +kernel : ∀ y : Fin 256, bits BinOp.and .i32 (y.1 : Int) (127 / 2 ^ 2) = ((y.1 % (128 / 2 ^ 2) : Nat) : Int)) ⟨_, hb⟩
  · exact (by decide +kernel : ∀ y : Fin 256, bits BinOp.and .i32 (y.1 : Int) (127 / 2 ^ 3) = ((y.1 % (128 / 2 ^ 3) : Nat) : Int)) ⟨_, hb⟩
  · exact (by decide +kernel : ∀ y : Fin 256, bits BinOp.and .i32 (y.1 : Int) (127 / 2 ^ 4) = ((y.1 % (128 / 2 ^ 4) : Nat) : Int)) ⟨_, hb⟩
theorem numK_rune {s : ByteArray} {r : Nat} (h : RuneAt s 0 r s.size) : numK s (s.size - 1) = r := by
  have b0 := byt_lt s 0
  obtain ⟨hs, h⟩ := h
  rcases h with ⟨h0, h1, h2⟩ | ⟨h0, h1, h2, h3, h4⟩ | ⟨h0, h1, h2, h3, h4, h5, h6, h7⟩ | ⟨h0, h1, h2, h3, h4, h5, h6, h7, h8⟩
  · rw [h0]; show m0 s = r; unfold m0; rw [h0, if_neg (by decide)]; omega
  · rw [h0]; show m0 s * 64 + byt s (0 + 1) % 64 = r; unfold m0; rw [h0, if_pos (by decide)]; omega
  · rw [h0]; show (m0 s * 64 + byt s (0 + 1) % 64) * 64 + byt s (0 + 2) % 64 = r; unfold m0; rw [h0, if_pos (by decide)]; omega
  · rw [h0]; show ((m0 s * 64 + byt s (0 + 1) % 64) * 64 + byt s (0 + 2) % 64) * 64 + byt s (0 + 3) % 64 = r; unfold m0; rw [h0, if_pos (by decide)]; omega

end Go.Proofs.Ytddbjclpmkelaaa
