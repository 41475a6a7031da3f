/-
  Walk of the reference's number.
-/
import Derived.Test.YtbidppjhenfjdaaDoorScnA
import Derived.Test.YtbidppjhenfjdaaDoorScnN
namespace Go.Proofs.YtbidppjhenfjdaaDoor
open Go.RowKit
set_option linter.unusedVariables false
set_option linter.unusedSimpArgs false

theorem list_byt (x : ByteArray) (i : Nat) : byt x i = (x.data.toList[i]?.getD 0).toNat := by
  obtain ⟨⟨l⟩⟩ := x
  exact mk_byt l i
theorem list_tail (x : ByteArray) : (x.extract 1 x.size).data.toList = x.data.toList.drop 1 := by
  apply List.ext_getElem?
  intro i
  have h1 := list_byt (x.extract 1 x.size) i
  rw [byt_tail, list_byt x (1 + i)] at h1
  rw [List.getElem?_drop]
  have hl1 : (x.extract 1 x.size).data.toList.length = (x.extract 1 x.size).size := by rw [Array.length_toList]; rfl
  have hl2 : x.data.toList.length = x.size := by rw [Array.length_toList]; rfl
  have hsz : (x.extract 1 x.size).size = x.size - 1 := by rw [ByteArray.size_extract]; omega
  by_cases hi : i < x.size - 1
  · rw [List.getElem?_eq_getElem (by omega), List.getElem?_eq_getElem (by omega)] at h1 ⊢
    simp only [Option.getD_some] at h1
    exact congrArg some (UInt8.toNat_inj.1 h1.symm)
  · rw [List.getElem?_eq_none (by omega), List.getElem?_eq_none (by omega)]
theorem drop_byt {y : ByteArray} {i : Nat} (h : i < y.size) : ∃ c, y.data.toList.drop i = c :: y.data.toList.drop (i + 1) ∧ c.toNat = byt y i := by
  have hl : i < y.data.toList.length := by rw [Array.length_toList]; exact h
  refine ⟨y.data.toList[i], List.drop_eq_getElem_cons hl, ?_⟩
  rw [list_byt, List.getElem?_eq_getElem hl]
  rfl
theorem neg_back {ni : Int} (h : 0 ≤ ni ∧ ni ≤ 9223372036854775808) : wrap64 (IntKind.u64.wrap (-ni)) = -ni := by
  have h1 : IntKind.u64.wrap (-ni) = (-ni) % 18446744073709551616 := by simp [IntKind.wrap, IntKind.bits, IntKind.signed]
  rw [h1]
  unfold wrap64
  omega
/-- What the reference's number hands back. -/
def NumPost (o : Option Int) (e : Ending) : Prop := ∃ z : Int, e = .returned (.tuple #[.int .i64 z, .bool o.isSome]) ∧ ∀ v, o = some v → z = v
theorem pow_19 {i : Nat} (h : i ≤ 18) {n : Nat} (hn : n < 10 ^ i) : n < 1000000000000000000 := Nat.lt_of_lt_of_le hn (Nat.pow_le_pow_right (by decide) h)
theorem pow_20 {i : Nat} (h : i ≤ 19) {n : Nat} (hn : n < 10 ^ i) : n < 10000000000000000000 := Nat.lt_of_lt_of_le hn (Nat.pow_le_pow_right (by decide) h)
theorem numO_long {neg : Bool} {d : List UInt8} (h : 19 < d.length) : numO neg d = none := by unfold numO; rw [if_pos h]
theorem numO_zero {neg : Bool} {c : UInt8} {r : List UInt8} (h : c.toNat = 48 ∧ (r ≠ [] ∨ neg = true)) : numO neg (c :: r) = none := by
  unfold numO
  split
  · rfl
  · simp only; rw [if_pos h]
theorem numO_off {neg : Bool} {d : List UInt8} (h : dfold d 0 = none) : numO neg d = none := by
  unfold numO
  split
  · rfl
  · cases d with
    | nil => rfl
    | cons c r =>
      simp only
      split
      · rfl
      · rw [h]
theorem numO_fit {neg : Bool} {c : UInt8} {r : List UInt8} {n : Nat} (h1 : ¬ 19 < (c :: r).length) (h2 : ¬ (c.toNat = 48 ∧ (r ≠ [] ∨ neg = true))) (h3 : dfold (c :: r) 0 = some n) :
    numO neg (c :: r) = if neg = true then (if 9223372036854775808 < n then none else some (-(n : Int))) else (if n < 9223372036854775808 then some (n : Int) else none) := by
  unfold numO
  rw [if_neg h1]
  simp only
  rw [if_neg h2, h3]

end Go.Proofs.YtbidppjhenfjdaaDoor
