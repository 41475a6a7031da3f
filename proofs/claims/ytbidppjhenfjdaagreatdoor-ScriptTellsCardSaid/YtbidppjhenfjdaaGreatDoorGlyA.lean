/-
  Walks of follows.
-/
import Derived.Test.YtbidppjhenfjdaaGreatDoorKeep
import Derived.Test.YtbidppjhenfjdaaGreatDoorGlyQ
import Derived.Test.YtbidppjhenfjdaaGreatDoorChecked
import Derived.WalkKit
import Derived.Shelf.Abstract
import Derived.WalkSpells
namespace Go.Proofs.YtbidppjhenfjdaaGreatDoor
open Go.RowKit
set_option linter.unusedVariables false

/-- Bytes that go on a rune: n of them, the first from 'lo' to 'hi'. -/
def followsB (s : ByteArray) (n lo hi : Nat) : Bool := decide (n ≤ s.size) && (decide (lo ≤ byt s 0) && (decide (byt s 0 ≤ hi) && (List.range n).all fun i => i == 0 || byt s i / 64 == 2))

theorem followsB_no {s : ByteArray} {n lo hi i : Nat} (h : i < n) (h0 : 1 ≤ i) (hb : ¬ byt s i / 64 = 2) : followsB s n lo hi = false := by
  have : ((List.range n).all fun i => i == 0 || byt s i / 64 == 2) = false := by
    rw [List.all_eq_false]
    refine ⟨i, by simp [h], ?_⟩
    simp; omega
  simp [followsB, this]
theorem followsB_yes {s : ByteArray} {n lo hi : Nat} (h1 : n ≤ s.size) (h2 : lo ≤ byt s 0) (h3 : byt s 0 ≤ hi) (h4 : ∀ i, 1 ≤ i → i < n → byt s i / 64 = 2) : followsB s n lo hi = true := by
  have : ((List.range n).all fun i => i == 0 || byt s i / 64 == 2) = true := by
    rw [List.all_eq_true]
    intro i hi
    simp at hi
    cases i with
    | zero => rfl
    | succ i => simp [h4 (i + 1) (by omega) hi]
  simp [followsB, this, h1, h2, h3]
theorem and_c0 (x : Nat) (h : x < 256) : (bits BinOp.and .u8 (x : Int) 192 != 128) = !(x / 64 == 2) :=
  (by decide +kernel : ∀ y : Fin 256, (bits BinOp.and .u8 (y.1 : Int) 192 != 128) = !(y.1 / 64 == 2)) ⟨x, h⟩

set_option maxHeartbeats 1000000 in
theorem follows_any (s : ByteArray) (n lo hi : Nat) (w : World) (hs : s.size ≤ 9223372036854775807) (hn1 : 1 ≤ n) (hn : n ≤ 3) (hlo : lo < 256) (hhi : hi < 256) :
    Calls Tryz.prog 109 #[.string s, .int .i64 n, .int .u8 lo, .int .u8 hi] w fun e w' => e = .returned (.bool (followsB s n lo hi)) ∧ w = w' := by
  by_cases h1 : n ≤ s.size
  · have h1' : decide (s.size < n) = false := by simp; omega
    have h0 : 0 < s.size := by omega
    have hb0 := byt_at h0
    by_cases h2 : lo ≤ byt s 0
    · have h2' : decide (byt s 0 < lo) = false := by simp; omega
      by_cases h3 : byt s 0 ≤ hi
      · have h3' : decide (hi < byt s 0) = false := by simp; omega
        go_enter Tryz.func109, Tryz.ntmps109
        go_wp2
        go_loopw [9] (fun i wr => ∃ k : Nat, 1 ≤ k ∧ k ≤ n ∧ i = .int .i64 k ∧ wr = w ∧ ∀ j, 1 ≤ j → j < k → byt s j / 64 = 2) (fun i _ => n - (intOf i).toNat)
        case atStart => exact ⟨1, Nat.le_refl _, hn1, rfl, rfl, fun j h h' => by omega⟩
        case round =>
          obtain ⟨k, hk1, hk, rfl, rfl, hj⟩ := hrel
          have HJ := Lib.hid hj; clear hj
          by_cases hlt : k < n
          · have hltd : decide (k < n) = true := by simpa using hlt
            have hks : k < s.size := by omega
            have hbk := byt_at hks
            have hand := and_c0 (byt s k) (byt_lt s k)
            by_cases hc : byt s k / 64 = 2
            · have hc1 : (bits BinOp.and .u8 (byt s k : Int) 192 != 128) = false := by rw [hand]; simpa using hc
              clear hand
              go_wp2
              go_roundw
              case rel => exact ⟨k + 1, by omega, by omega, by go_num, by first | rfl | trivial, fun j h h' => by
                by_cases e : j = k
                · subst e; exact hc
                · exact HJ.out j h (by omega)⟩
              case measure => simp [intOf]; omega
            · have hc1 : (bits BinOp.and .u8 (byt s k : Int) 192 != 128) = true := by rw [hand]; simpa using hc
              have HF := Lib.hid (followsB_no (lo := lo) (hi := hi) hlt hk1 hc)
              clear hand
              go_wp2
              go_ret
              exact ⟨by rw [HF.out]; rfl, rfl⟩
          · have hltd : decide (k < n) = false := by simpa using hlt
            obtain rfl : k = n := by omega
            have HF := Lib.hid (followsB_yes h1 h2 h3 HJ.out)
            go_wp2
            go_ret
            exact ⟨by rw [HF.out]; rfl, rfl⟩
      · have h3' : decide (hi < byt s 0) = true := by simp; omega
        go_enter Tryz.func109, Tryz.ntmps109
        go_wp2
        go_ret
        have : followsB s n lo hi = false := by simp [followsB, h3]
        exact ⟨by rw [this]; rfl, rfl⟩
    · have h2' : decide (byt s 0 < lo) = true := by simp; omega
      go_enter Tryz.func109, Tryz.ntmps109
      go_wp2
      go_ret
      have : followsB s n lo hi = false := by simp [followsB, h2]
      exact ⟨by rw [this]; rfl, rfl⟩
  · have h1' : decide (s.size < n) = true := by simp; omega
    go_enter Tryz.func109, Tryz.ntmps109
    go_wp2
    go_ret
    have : followsB s n lo hi = false := by simp [followsB, h1]
    exact ⟨by rw [this]; rfl, rfl⟩
end Go.Proofs.YtbidppjhenfjdaaGreatDoor
