/-
  Walks of the reference's within, low.
-/
import Derived.Test.YtbidppjhenfjdaaGreatDoorGlyA
namespace Go.Proofs.YtbidppjhenfjdaaGreatDoor
open Go.RowKit
set_option linter.unusedVariables false
set_option linter.unusedSimpArgs false

def withinZ (b lo hi : Int) : Bool := decide (lo ≤ b) && decide (b ≤ hi)
theorem within_any (b lo hi : Int) (w : World) : Calls Tryz.prog 117 #[.int .u8 b, .int .u8 lo, .int .u8 hi] w fun e w' => e = .returned (.bool (withinZ b lo hi)) ∧ w = w' := by
  by_cases h1 : lo ≤ b
  · by_cases h2 : b ≤ hi
    · have e : withinZ b lo hi = true := by simp [withinZ, h1, h2]
      rw [e]
      go_enter Tryz.func117, Tryz.ntmps117
      go_wp2
      go_ret
      exact ⟨rfl, rfl⟩
    · have e : withinZ b lo hi = false := by simp [withinZ, h2]
      rw [e]
      go_enter Tryz.func117, Tryz.ntmps117
      go_wp2
      go_ret
      exact ⟨rfl, rfl⟩
  · have e : withinZ b lo hi = false := by simp [withinZ, h1]
    rw [e]
    go_enter Tryz.func117, Tryz.ntmps117
    go_wp2
    go_ret
    exact ⟨rfl, rfl⟩

/-- So many bytes from a place on stand from 80 to bf. -/
def lowB (s : ByteArray) (a n : Nat) : Bool := (List.range n).all fun i => decide (a + i < s.size) && (byt s (a + i) / 64 == 2)
def lowZ (s : ByteArray) (a n : Int) : Bool := lowB s a.toNat n.toNat
theorem lowZ_nat {s : ByteArray} {i : Nat} {n : Int} : lowZ s ((i : Int) + 1) n = lowB s (i + 1) n.toNat := by unfold lowZ; congr 1
theorem lowB_no {s : ByteArray} {a n k : Nat} (hk : k < n) (h : ¬ (a + k < s.size ∧ byt s (a + k) / 64 = 2)) : lowB s a n = false := by
  unfold lowB
  rw [List.all_eq_false]
  exact ⟨k, by simpa using hk, by simpa using h⟩
theorem lowB_yes {s : ByteArray} {a n : Nat} (h : ∀ k, k < n → a + k < s.size ∧ byt s (a + k) / 64 = 2) : lowB s a n = true := by
  unfold lowB
  rw [List.all_eq_true]
  intro k hk
  have := h k (by simpa using hk)
  simpa using this

set_option maxHeartbeats 4000000 in
theorem low_nat (s : ByteArray) (a n : Nat) (w : World) (hz : s.size ≤ 4611686018427387904) (ha : a ≤ s.size) (hn : n ≤ 3) :
    Calls Tryz.prog 118 #[.string s, .int .i64 a, .int .i64 n] w fun e w' => e = .returned (.bool (lowB s a n)) ∧ w = w' := by
  go_enter Tryz.func118, Tryz.ntmps118
  go_wp2
  go_loopw [7] (fun i wr => ∃ k : Nat, k ≤ n ∧ i = .int .i64 k ∧ wr = w ∧ ∀ j, j < k → a + j < s.size ∧ byt s (a + j) / 64 = 2) (fun i _ => n - (intOf i).toNat)
  case atStart => exact ⟨0, Nat.zero_le _, rfl, rfl, fun j h => by omega⟩
  case round =>
    obtain ⟨k, hk, rfl, rfl, hj⟩ := hrel
    have HJ := Lib.hid hj; clear hj
    by_cases hlt : k < n
    · have hltd : decide (k < n) = true := by simpa using hlt
      by_cases hs : a + k < s.size
      · have hsd : decide ((s.size : Int) ≤ (a : Int) + (k : Int)) = false := by simp; omega
        have hbk := byt_at hs
        have hbl := byt_lt s (a + k)
        by_cases hc : byt s (a + k) / 64 = 2
        · have hw : withinZ (byt s (a + k) : Int) 128 191 = true := by unfold withinZ; simp; omega
          go_wp2_with (go_at_call 117; refine (within_any _ _ _ _).mono ?_; rintro r w1 ⟨rfl, rfl⟩)
          go_roundw
          case rel => exact ⟨k + 1, by omega, by go_num, by trivial, fun j h => by
            by_cases e : j = k
            · subst e; exact ⟨hs, hc⟩
            · exact HJ.out j (by omega)⟩
          case measure => simp [intOf]; omega
        · have hw : withinZ (byt s (a + k) : Int) 128 191 = false := by unfold withinZ; simp; omega
          have HF := Lib.hid (lowB_no (s := s) (a := a) hlt (fun h => hc h.2))
          go_wp2_with (go_at_call 117; refine (within_any _ _ _ _).mono ?_; rintro r w1 ⟨rfl, rfl⟩)
          go_ret
          exact ⟨by rw [HF.out]; rfl, rfl⟩
      · have hsd : decide ((s.size : Int) ≤ (a : Int) + (k : Int)) = true := by simp; omega
        have HF := Lib.hid (lowB_no (s := s) (a := a) hlt (fun h => hs h.1))
        go_wp2_with fail
        go_ret
        exact ⟨by rw [HF.out]; rfl, rfl⟩
    · have hltd : decide (k < n) = false := by simpa using hlt
      obtain rfl : k = n := by omega
      have HF := Lib.hid (lowB_yes HJ.out)
      go_wp2_with fail
      go_ret
      exact ⟨by rw [HF.out]; rfl, rfl⟩
theorem low_any (s : ByteArray) (a n : Int) (w : World) (hz : s.size ≤ 4611686018427387904) (h0 : 0 ≤ a) (ha : a ≤ s.size) (hn0 : 0 ≤ n) (hn : n ≤ 3) :
    Calls Tryz.prog 118 #[.string s, .int .i64 a, .int .i64 n] w fun e w' => e = .returned (.bool (lowZ s a n)) ∧ w = w' := by
  obtain ⟨A, rfl⟩ := Int.eq_ofNat_of_zero_le h0
  obtain ⟨N, rfl⟩ := Int.eq_ofNat_of_zero_le hn0
  exact low_nat s A N w hz (by omega) (by omega)
end Go.Proofs.YtbidppjhenfjdaaGreatDoor
