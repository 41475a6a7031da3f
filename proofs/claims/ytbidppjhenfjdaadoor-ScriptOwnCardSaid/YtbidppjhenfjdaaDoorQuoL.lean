/-
  Walk of the reference's escape.
-/
import Derived.Test.YtbidppjhenfjdaaDoorQuoH
import Derived.Test.YtbidppjhenfjdaaDoorQuoG
import Derived.Deep.CutRange
namespace Go.Proofs.YtbidppjhenfjdaaDoor
open Go.RowKit
set_option linter.unusedVariables false
set_option linter.unusedSimpArgs false

/-- How many bytes an escape has, its backslash with it. -/
def escn (n : Nat) : Nat := if n = 0 then 0 else n + 1
theorem slice_one {s : ByteArray} {p c : Nat} (h : p < s.size) (hc : byt s p = c) (W : World) {x y : Int} (hx : x = (p : Nat)) (hy : y = ((p + 1 : Nat) : Int)) : (Instr.slice 9 (.string s) (some (.int .i64 x)) (some (.int .i64 y)) none).run Tryd.prog W = .ok (.string (one c)) W := by
  have h1 := slice_str (s := s) (p := p) (n := 1) (by omega) W
  have he : s.extract p (p + 1) = one c := by
    apply ext_byt
    · rw [ByteArray.size_extract, one_size]; omega
    · intro i hi
      rw [ByteArray.size_extract] at hi
      obtain rfl : i = 0 := by omega
      rw [byt_extract s p (p + 1) 0 (by omega) (by omega), Nat.add_zero, hc]
      have := byt_lt s p
      show c = byt ⟨[UInt8.ofNat c].toArray⟩ 0
      rw [mk_byt]
      show c = (UInt8.ofNat c).toNat
      rw [u8_of c (by omega)]
  rw [he] at h1
  rw [hx, hy, show ((p + 1 : Nat) : Int) = (p : Int) + ((1 : Nat) : Int) by omega]
  exact h1

theorem ar1 {sz tz a k q : Nat} (hq : q = a + 1 + k) (hk : k ≤ tz) (htz : tz = sz - (a + 1)) (ha : a + 2 < sz) (hk2 : 2 ≤ k) (hz : sz ≤ 100000000) :
    (tz ≤ k → q = sz) ∧ (¬ tz ≤ k → q < sz ∧ a + 3 < sz) ∧ wrap64 ((q : Int) + 1) = (q : Int) + 1 ∧ wrap64 ((q : Int) - (a : Int)) = (q : Int) - (a : Int) ∧ wrap64 ((q : Int) - (a : Int) - 3) = (q : Int) - (a : Int) - 3 ∧ wrap64 ((q : Int) + 1 - (a : Int)) = (q : Int) + 1 - (a : Int) ∧
    (k = 2 → decide ((q : Int) - (a : Int) - 3 < 1) = true) ∧ (¬ k = 2 → decide ((q : Int) - (a : Int) - 3 < 1) = false) ∧ (3 < k → decide ((1 : Int) < (q : Int) - (a : Int) - 3) = true) ∧ (¬ 3 < k → decide ((1 : Int) < (q : Int) - (a : Int) - 3) = false) ∧ (q : Int) + 1 - (a : Int) = ((k + 2 : Nat) : Int) := by
  refine ⟨fun h => by omega, fun h => by omega, by unfold wrap64; omega, by unfold wrap64; omega, by unfold wrap64; omega, by unfold wrap64; omega, fun h => by simp; omega, fun h => by simp; omega, fun h => by simp; omega, fun h => by simp; omega, by omega⟩
theorem ar2 {sz q : Nat} (h : q = sz) : decide ((sz : Int) ≤ (q : Int)) = true ∧ decide (sz ≤ q) = true := by constructor <;> (simp; omega)
theorem ar3 {sz q : Nat} (h : q < sz) : decide ((sz : Int) ≤ (q : Int)) = false ∧ decide (sz ≤ q) = false := by constructor <;> (simp; omega)
theorem ar4 {c n : Nat} {d : Int} (h : d = (c : Nat)) : (c = n → (d == (n : Int)) = true) ∧ (¬ c = n → (d == (n : Int)) = false ∧ (d != (n : Int)) = true) := by
  refine ⟨fun e => by simp; omega, fun e => ⟨by simp; omega, by simp; omega⟩⟩
theorem ar5 (m : Nat) (h : m < 16777216) : IntKind.i32.wrap (m : Int) = (m : Int) := by rw [IntKind.wrap_i32]; omega
theorem ar6 (m j : Nat) (h : (m + 1) * 16 ^ j ≤ 16777216) : m < 16777216 := by
  have h2 : (m + 1) * 1 ≤ (m + 1) * 16 ^ j := Nat.mul_le_mul_left _ (Nat.pow_pos (by decide))
  omega

end Go.Proofs.YtbidppjhenfjdaaDoor
