/-
  Walks of joined and left.
-/
import Derived.Test.YtfhgeanacecpjaaDoorLawP
import Derived.Test.YtfhgeanacecpjaaDoorRollOrd
namespace Go.Proofs.YtfhgeanacecpjaaDoor
open Go.RowKit Go.Shelf
set_option linter.unusedVariables false

/-- The first calls of a script. -/
theorem StepsAt.prefix_ {w : World} {xs : List (Bool × Int)} {ad : Option Addr} {cap : Nat} (h : StepsAt w (.slice ad xs.length cap) xs) {k : Nat} (hk : k ≤ xs.length) : StepsAt w (.slice ad k cap) (xs.take k) := by
  obtain ⟨ad', cap', e, h1, h2, h3⟩ := h
  cases e
  have hl : (xs.take k).length = k := by simp; omega
  refine ⟨ad, cap, by rw [hl], fun h0 => ?_, h2, by omega⟩
  rw [hl] at h0
  obtain ⟨b, off, e, hc⟩ := h1 (by omega)
  refine ⟨b, off, e, fun i x hx => ?_⟩
  have hi : i < k := by have := (List.getElem?_eq_some_iff.1 hx).1; omega
  rw [List.getElem?_take, if_pos hi] at hx
  exact hc i x hx

theorem any_take_none {α : Type} (p : α → Bool) (xs : List α) (k : Nat) (hk : k < xs.length) (h : (xs.take k).any p = false) : (xs.take (k + 1)).any p = p xs[k] := by
  rw [List.take_succ_eq_append_getElem hk, List.any_append, h]; simp
theorem any_hit {α : Type} (p : α → Bool) (xs : List α) (k : Nat) (hk : k < xs.length) (h : p xs[k] = true) : xs.any p = true := List.any_eq_true.2 ⟨_, List.getElem_mem hk, h⟩

set_option maxHeartbeats 1000000 in
theorem joinedS_any (v : Value) (xs : List (Bool × Int)) (n : Int) (w : World) (hv : StepsAt w v xs) (hl : xs.length ≤ 4611686018427387904) :
    Calls Tryd.prog 30 #[v, .int .i64 n] w fun e w' => e = .returned (.bool (joinedL xs n)) ∧ w = w' := by
  obtain ⟨ad, cap, rfl, h1, _⟩ := hv
  have H1 := Lib.hid h1; clear h1
  go_enter Tryd.func30, Tryd.ntmps30
  go_wp2
  go_loopw [5] (fun i wr => ∃ k : Nat, k ≤ xs.length ∧ i = .int .i64 k ∧ wr = w ∧ joinedL (xs.take k) n = false) (fun i _ => xs.length - (intOf i).toNat)
  case atStart => exact ⟨0, Nat.zero_le _, rfl, rfl, rfl⟩
  case round =>
    obtain ⟨k, hk, rfl, rfl, hn⟩ := hrel
    have HN := Lib.hid hn; clear hn
    by_cases hlt : k < xs.length
    · have hkd : decide ((k : Int) < (xs.length : Int)) = true := by simp; omega
      obtain ⟨bs, off, rfl, hcs⟩ := H1.out (by omega)
      obtain ⟨c1, c2⟩ := ElemsAt.cells2 hcs (Keep.refl _ _) k hlt
      have hnx := any_take_none (fun x : Bool × Int => !x.1 && x.2 == n) xs k hlt HN.out
      have hht := any_hit (fun x : Bool × Int => !x.1 && x.2 == n) xs k hlt
      have HNX := Lib.hid (show joinedL (xs.take (k + 1)) n = (!xs[k].1 && xs[k].2 == n) from hnx); have HHT := Lib.hid (show (!xs[k].1 && xs[k].2 == n) = true → joinedL xs n = true from hht)
      clear hnx hht hcs
      generalize xs[k] = x at *
      obtain ⟨lv, m⟩ := x
      cases lv
      · cases hm : (m == n)
        · go_wp2
          go_roundw
          case rel => exact ⟨k + 1, hlt, by go_num, by first | rfl | trivial, by rw [HNX.out]; simpa using hm⟩
          case measure => simp [intOf]; omega
        · go_wp2
          go_ret
          exact ⟨by rw [HHT.out (by simpa using hm)]; rfl, rfl⟩
      · go_wp2
        go_roundw
        case rel => exact ⟨k + 1, hlt, by go_num, by first | rfl | trivial, by rw [HNX.out]; simp⟩
        case measure => simp [intOf]; omega
    · obtain rfl : k = xs.length := by omega
      have hn := HN.out
      rw [List.take_of_length_le (Nat.le_refl _)] at hn
      have HN2 := Lib.hid hn
      clear hn hlt HN
      go_wp2
      go_ret
      exact ⟨by rw [HN2.out]; rfl, rfl⟩

set_option maxHeartbeats 1000000 in
theorem leftS_any (v : Value) (xs : List (Bool × Int)) (n : Int) (w : World) (hv : StepsAt w v xs) (hl : xs.length ≤ 4611686018427387904) :
    Calls Tryd.prog 31 #[v, .int .i64 n] w fun e w' => e = .returned (.bool (leftL xs n)) ∧ w = w' := by
  obtain ⟨ad, cap, rfl, h1, _⟩ := hv
  have H1 := Lib.hid h1; clear h1
  go_enter Tryd.func31, Tryd.ntmps31
  go_wp2
  go_loopw [5] (fun i wr => ∃ k : Nat, k ≤ xs.length ∧ i = .int .i64 k ∧ wr = w ∧ leftL (xs.take k) n = false) (fun i _ => xs.length - (intOf i).toNat)
  case atStart => exact ⟨0, Nat.zero_le _, rfl, rfl, rfl⟩
  case round =>
    obtain ⟨k, hk, rfl, rfl, hn⟩ := hrel
    have HN := Lib.hid hn; clear hn
    by_cases hlt : k < xs.length
    · have hkd : decide ((k : Int) < (xs.length : Int)) = true := by simp; omega
      obtain ⟨bs, off, rfl, hcs⟩ := H1.out (by omega)
      obtain ⟨c1, c2⟩ := ElemsAt.cells2 hcs (Keep.refl _ _) k hlt
      have hnx := any_take_none (fun x : Bool × Int => x.1 && x.2 == n) xs k hlt HN.out
      have hht := any_hit (fun x : Bool × Int => x.1 && x.2 == n) xs k hlt
      have HNX := Lib.hid (show leftL (xs.take (k + 1)) n = (xs[k].1 && xs[k].2 == n) from hnx); have HHT := Lib.hid (show (xs[k].1 && xs[k].2 == n) = true → leftL xs n = true from hht)
      clear hnx hht hcs
      generalize xs[k] = x at *
      obtain ⟨lv, m⟩ := x
      cases lv
      · go_wp2
        go_roundw
        case rel => exact ⟨k + 1, hlt, by go_num, by first | rfl | trivial, by rw [HNX.out]; simp⟩
        case measure => simp [intOf]; omega
      · cases hm : (m == n)
        · go_wp2
          go_roundw
          case rel => exact ⟨k + 1, hlt, by go_num, by first | rfl | trivial, by rw [HNX.out]; simpa using hm⟩
          case measure => simp [intOf]; omega
        · go_wp2
          go_ret
          exact ⟨by rw [HHT.out (by simpa using hm)]; rfl, rfl⟩
    · obtain rfl : k = xs.length := by omega
      have hn := HN.out
      rw [List.take_of_length_le (Nat.le_refl _)] at hn
      have HN2 := Lib.hid hn
      clear hn hlt HN
      go_wp2
      go_ret
      exact ⟨by rw [HN2.out]; rfl, rfl⟩
end Go.Proofs.YtfhgeanacecpjaaDoor
