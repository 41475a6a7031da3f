/-
  Diff, plain law (no program): the table and the script by places.
-/
import Derived.Test.YtddbjclpmkelaaaDifQ
namespace Go.Proofs.Ytddbjclpmkelaaa
set_option linter.unusedVariables false

/-- What is left to do from the places i and k on. -/
def lf (x y : List Int) (i k : Nat) : Nat := lft (x.drop i) (y.drop k)
theorem lf_end (x y : List Int) (k : Nat) : lf x y x.length k = y.length - k := by simp [lf, nil_lft]
theorem lf_end' (x y : List Int) (i : Nat) : lf x y i y.length = x.length - i := by simp [lf, lft_nil]
theorem lf_same {x y : List Int} {i k : Nat} (hi : i < x.length) (hk : k < y.length) (h : x[i] = y[k]) : lf x y i k = lf x y (i + 1) (k + 1) := by
  unfold lf
  rw [List.drop_eq_getElem_cons hi, List.drop_eq_getElem_cons hk, h, lft_cons_same]
theorem lf_ne {x y : List Int} {i k : Nat} (hi : i < x.length) (hk : k < y.length) (h : x[i] ≠ y[k]) : lf x y i k = 1 + min (lf x y (i + 1) k) (lf x y i (k + 1)) := by
  unfold lf
  rw [List.drop_eq_getElem_cons hi, List.drop_eq_getElem_cons hk, lft_cons_ne h]
theorem lf_le (x y : List Int) (i k : Nat) : lf x y i k ≤ x.length + y.length := by
  have := lft_lcs (x.drop i) (y.drop k)
  simp only [List.length_drop] at this
  unfold lf
  omega

/-- The script from the places i and k on. -/
def mk (x y : List Int) (i k : Nat) (e : Ed) : List Ed := mkE (x.drop i) (y.drop k) e
theorem mk_start (x y : List Int) : mk x y 0 0 ⟨0, 0, []⟩ = mkD x y := rfl
theorem mk_end (x y : List Int) (e : Ed) : mk x y x.length y.length e = e.flush := by
  unfold mk; rw [List.drop_length, List.drop_length, mkE_nil]
theorem mk_same {x y : List Int} {i k : Nat} (hi : i < x.length) (hk : k < y.length) (h : x[i] = y[k]) (e : Ed) : mk x y i k e = e.flush ++ mk x y (i + 1) (k + 1) e.nxt := by
  unfold mk
  rw [List.drop_eq_getElem_cons hi, List.drop_eq_getElem_cons hk, h, mkE_same]
theorem mk_more0 {x y : List Int} {i : Nat} (hi : i < x.length) (e : Ed) : mk x y i y.length e = mk x y (i + 1) y.length e.more := by
  unfold mk
  rw [List.drop_eq_getElem_cons hi, List.drop_length, mkE_more0]
theorem mk_lay0 {x y : List Int} {k : Nat} (hk : k < y.length) (e : Ed) : mk x y x.length k e = mk x y x.length (k + 1) (e.lay y[k]) := by
  unfold mk
  rw [List.drop_eq_getElem_cons hk, List.drop_length, mkE_lay0]
theorem mk_more {x y : List Int} {i k : Nat} (hi : i < x.length) (hk : k < y.length) (h : x[i] ≠ y[k]) (hl : lf x y (i + 1) k < lf x y i k) (e : Ed) : mk x y i k e = mk x y (i + 1) k e.more := by
  unfold mk; unfold lf at hl
  rw [List.drop_eq_getElem_cons hi, List.drop_eq_getElem_cons hk] at hl ⊢
  rw [mkE_more h _ _ _ hl]
theorem mk_lay {x y : List Int} {i k : Nat} (hi : i < x.length) (hk : k < y.length) (h : x[i] ≠ y[k]) (hl : ¬ lf x y (i + 1) k < lf x y i k) (e : Ed) : mk x y i k e = mk x y i (k + 1) (e.lay y[k]) := by
  unfold mk; unfold lf at hl
  rw [List.drop_eq_getElem_cons hi, List.drop_eq_getElem_cons hk] at hl ⊢
  rw [mkE_lay h _ _ _ hl]
end Go.Proofs.Ytddbjclpmkelaaa
