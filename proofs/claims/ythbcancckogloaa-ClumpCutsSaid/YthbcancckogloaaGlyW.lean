/-
  Walks of the reference's IsRune, Encode.
-/
import Derived.Test.YthbcancckogloaaGlyV
import Derived.Test.YthbcancckogloaaKeep
import Derived.Test.YthbcancckogloaaChecked
import Derived.Shelf.Abstract
namespace Go.Proofs.Ythbcancckogloaa
open Go.RowKit
set_option linter.unusedVariables false
set_option linter.unusedSimpArgs false

theorem valid_t {n : Int} (h : (0 ≤ n ∧ n < 55296) ∨ (57344 ≤ n ∧ n ≤ 1114111)) : Utf8.valid n = true := by simp only [Utf8.valid, Bool.or_eq_true, Bool.and_eq_true, decide_eq_true_eq]; omega
theorem valid_f {n : Int} (h : ¬ ((0 ≤ n ∧ n < 55296) ∨ (57344 ≤ n ∧ n ≤ 1114111))) : Utf8.valid n = false := by
  cases hv : Utf8.valid n
  · rfl
  · simp only [Utf8.valid, Bool.or_eq_true, Bool.and_eq_true, decide_eq_true_eq] at hv; omega

theorem addr0_add (b j : Nat) : (⟨b, 0, none⟩ : Addr).add j = ⟨b, j, none⟩ := by
  simp only [Addr.add]
  split <;> simp_all
theorem u8z (n : Int) (h0 : 0 ≤ n) (h1 : n < 256) : ((UInt8.ofNat n.toNat).toNat : Int) = n := by rw [u8_of _ (by omega)]; omega

end Go.Proofs.Ythbcancckogloaa
