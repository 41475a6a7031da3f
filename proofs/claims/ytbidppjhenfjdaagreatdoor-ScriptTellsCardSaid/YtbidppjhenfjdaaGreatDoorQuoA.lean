/-
  Runes that nobody sees.
-/
import Derived.Test.YtbidppjhenfjdaaGreatDoorKeep
import Derived.Test.YtbidppjhenfjdaaGreatDoorChecked
namespace Go.Proofs.YtbidppjhenfjdaaGreatDoor
open Go.RowKit
set_option linter.unusedVariables false
set_option linter.unusedSimpArgs false

/-- The program's and the reference's. -/
def hp (r : Int) : Bool := decide (128 ≤ r ∧ r ≤ 159 ∨ r = 173 ∨ 8203 ≤ r ∧ r ≤ 8207 ∨ 8232 ≤ r ∧ r ≤ 8239 ∨ 8288 ≤ r ∧ r ≤ 8303 ∨ 55296 ≤ r ∧ r ≤ 63743 ∨ 65024 ≤ r ∧ r ≤ 65039 ∨ r = 65279 ∨ 917504 ≤ r)
def hr (r : Int) : Bool := decide (128 ≤ r ∧ r ≤ 159 ∨ r = 173 ∨ 8203 ≤ r ∧ r ≤ 8207 ∨ 8232 ≤ r ∧ r ≤ 8239 ∨ 8288 ≤ r ∧ r ≤ 8303 ∨ 57344 ≤ r ∧ r ≤ 63743 ∨ 65024 ≤ r ∧ r ≤ 65039 ∨ r = 65279 ∨ 917504 ≤ r)
theorem hp_hr {r : Int} (h : r < 55296 ∨ 57344 ≤ r) : hp r = hr r := by
  unfold hp hr
  rw [Bool.eq_iff_iff, decide_eq_true_eq, decide_eq_true_eq]
  omega
set_option maxRecDepth 100000 in
set_option maxHeartbeats 16000000 in
theorem hidden_any (r : Int) (w : World) : Calls Tryz.prog 60 #[.int .i32 r] w fun e w' => e = .returned (.bool (hp r)) ∧ w = w' := by
  have hiv : r ≤ 127 ∨ (128 ≤ r ∧ r ≤ 159) ∨ (160 ≤ r ∧ r ≤ 172) ∨ (173 ≤ r ∧ r ≤ 173) ∨ (174 ≤ r ∧ r ≤ 8202) ∨ (8203 ≤ r ∧ r ≤ 8207) ∨ (8208 ≤ r ∧ r ≤ 8231) ∨ (8232 ≤ r ∧ r ≤ 8239) ∨ (8240 ≤ r ∧ r ≤ 8287) ∨ (8288 ≤ r ∧ r ≤ 8303) ∨ (8304 ≤ r ∧ r ≤ 55295) ∨ (55296 ≤ r ∧ r ≤ 63743) ∨ (63744 ≤ r ∧ r ≤ 65023) ∨ (65024 ≤ r ∧ r ≤ 65039) ∨ (65040 ≤ r ∧ r ≤ 65278) ∨ (65279 ≤ r ∧ r ≤ 65279) ∨ (65280 ≤ r ∧ r ≤ 917503) ∨ 917504 ≤ r := by omega
  rcases hiv with h | h | h | h | h | h | h | h | h | h | h | h | h | h | h | h | h | h
  · have HE : Hid (hp r = false) := Lib.hid (by unfold hp; simp only [decide_eq_false_iff_not]; omega)
    have t1a : decide ((128 : Int) ≤ r) = false := by simp; omega
    have t2 : (r == (173 : Int)) = false := by simp; omega
    have t3a : decide ((8203 : Int) ≤ r) = false := by simp; omega
    have t4a : decide ((8232 : Int) ≤ r) = false := by simp; omega
    have t5a : decide ((8288 : Int) ≤ r) = false := by simp; omega
    have t6a : decide ((55296 : Int) ≤ r) = false := by simp; omega
    have t7a : decide ((65024 : Int) ≤ r) = false := by simp; omega
    have t8 : (r == (65279 : Int)) = false := by simp; omega
    have t9 : decide ((917504 : Int) ≤ r) = false := by simp; omega
    clear h
    go_enter Tryz.func60, Tryz.ntmps60
    go_wp2
    go_ret
    rw [HE.out]
    exact ⟨rfl, rfl⟩
  · have HE : Hid (hp r = true) := Lib.hid (by unfold hp; simp only [decide_eq_true_eq]; omega)
    have t1a : decide ((128 : Int) ≤ r) = true := by simp; omega
    have t1b : decide (r ≤ (159 : Int)) = true := by simp; omega
    clear h
    go_enter Tryz.func60, Tryz.ntmps60
    go_wp2
    go_ret
    rw [HE.out]
    exact ⟨rfl, rfl⟩
  · have HE : Hid (hp r = false) := Lib.hid (by unfold hp; simp only [decide_eq_false_iff_not]; omega)
    have t1a : decide ((128 : Int) ≤ r) = true := by simp; omega
    have t1b : decide (r ≤ (159 : Int)) = false := by simp; omega
    have t2 : (r == (173 : Int)) = false := by simp; omega
    have t3a : decide ((8203 : Int) ≤ r) = false := by simp; omega
    have t4a : decide ((8232 : Int) ≤ r) = false := by simp; omega
    have t5a : decide ((8288 : Int) ≤ r) = false := by simp; omega
    have t6a : decide ((55296 : Int) ≤ r) = false := by simp; omega
    have t7a : decide ((65024 : Int) ≤ r) = false := by simp; omega
    have t8 : (r == (65279 : Int)) = false := by simp; omega
    have t9 : decide ((917504 : Int) ≤ r) = false := by simp; omega
    clear h
    go_enter Tryz.func60, Tryz.ntmps60
    go_wp2
    go_ret
    rw [HE.out]
    exact ⟨rfl, rfl⟩
  · have HE : Hid (hp r = true) := Lib.hid (by unfold hp; simp only [decide_eq_true_eq]; omega)
    have t1a : decide ((128 : Int) ≤ r) = true := by simp; omega
    have t1b : decide (r ≤ (159 : Int)) = false := by simp; omega
    have t2 : (r == (173 : Int)) = true := by simp; omega
    clear h
    go_enter Tryz.func60, Tryz.ntmps60
    go_wp2
    go_ret
    rw [HE.out]
    exact ⟨rfl, rfl⟩
  · have HE : Hid (hp r = false) := Lib.hid (by unfold hp; simp only [decide_eq_false_iff_not]; omega)
    have t1a : decide ((128 : Int) ≤ r) = true := by simp; omega
    have t1b : decide (r ≤ (159 : Int)) = false := by simp; omega
    have t2 : (r == (173 : Int)) = false := by simp; omega
    have t3a : decide ((8203 : Int) ≤ r) = false := by simp; omega
    have t4a : decide ((8232 : Int) ≤ r) = false := by simp; omega
    have t5a : decide ((8288 : Int) ≤ r) = false := by simp; omega
    have t6a : decide ((55296 : Int) ≤ r) = false := by simp; omega
    have t7a : decide ((65024 : Int) ≤ r) = false := by simp; omega
    have t8 : (r == (65279 : Int)) = false := by simp; omega
    have t9 : decide ((917504 : Int) ≤ r) = false := by simp; omega
    clear h
    go_enter Tryz.func60, Tryz.ntmps60
    go_wp2
    go_ret
    rw [HE.out]
    exact ⟨rfl, rfl⟩
  · have HE : Hid (hp r = true) := Lib.hid (by unfold hp; simp only [decide_eq_true_eq]; omega)
    have t1a : decide ((128 : Int) ≤ r) = true := by simp; omega
    have t1b : decide (r ≤ (159 : Int)) = false := by simp; omega
    have t2 : (r == (173 : Int)) = false := by simp; omega
    have t3a : decide ((8203 : Int) ≤ r) = true := by simp; omega
    have t3b : decide (r ≤ (8207 : Int)) = true := by simp; omega
    clear h
    go_enter Tryz.func60, Tryz.ntmps60
    go_wp2
    go_ret
    rw [HE.out]
    exact ⟨rfl, rfl⟩
  · have HE : Hid (hp r = false) := Lib.hid (by unfold hp; simp only [decide_eq_false_iff_not]; omega)
    have t1a : decide ((128 : Int) ≤ r) = true := by simp; omega
    have t1b : decide (r ≤ (159 : Int)) = false := by simp; omega
    have t2 : (r == (173 : Int)) = false := by simp; omega
    have t3a : decide ((8203 : Int) ≤ r) = true := by simp; omega
    have t3b : decide (r ≤ (8207 : Int)) = false := by simp; omega
    have t4a : decide ((8232 : Int) ≤ r) = false := by simp; omega
    have t5a : decide ((8288 : Int) ≤ r) = false := by simp; omega
    have t6a : decide ((55296 : Int) ≤ r) = false := by simp; omega
    have t7a : decide ((65024 : Int) ≤ r) = false := by simp; omega
    have t8 : (r == (65279 : Int)) = false := by simp; omega
    have t9 : decide ((917504 : Int) ≤ r) = false := by simp; omega
    clear h
    go_enter Tryz.func60, Tryz.ntmps60
    go_wp2
    go_ret
    rw [HE.out]
    exact ⟨rfl, rfl⟩
  · have HE : Hid (hp r = true) := Lib.hid (by unfold hp; simp only [decide_eq_true_eq]; omega)
    have t1a : decide ((128 : Int) ≤ r) = true := by simp; omega
    have t1b : decide (r ≤ (159 : Int)) = false := by simp; omega
    have t2 : (r == (173 : Int)) = false := by simp; omega
    have t3a : decide ((8203 : Int) ≤ r) = true := by simp; omega
    have t3b : decide (r ≤ (8207 : Int)) = false := by simp; omega
    have t4a : decide ((8232 : Int) ≤ r) = true := by simp; omega
    have t4b : decide (r ≤ (8239 : Int)) = true := by simp; omega
    clear h
    go_enter Tryz.func60, Tryz.ntmps60
    go_wp2
    go_ret
    rw [HE.out]
    exact ⟨rfl, rfl⟩
  · have HE : Hid (hp r = false) := Lib.hid (by unfold hp; simp only [decide_eq_false_iff_not]; omega)
    have t1a : decide ((128 : Int) ≤ r) = true := by simp; omega
    have t1b : decide (r ≤ (159 : Int)) = false := by simp; omega
    have t2 : (r == (173 : Int)) = false := by simp; omega
    have t3a : decide ((8203 : Int) ≤ r) = true := by simp; omega
    have t3b : decide (r ≤ (8207 : Int)) = false := by simp; omega
    have t4a : decide ((8232 : Int) ≤ r) = true := by simp; omega
    have t4b : decide (r ≤ (8239 : Int)) = false := by simp; omega
    have t5a : decide ((8288 : Int) ≤ r) = false := by simp; omega
    have t6a : decide ((55296 : Int) ≤ r) = false := by simp; omega
    have t7a : decide ((65024 : Int) ≤ r) = false := by simp; omega
    have t8 : (r == (65279 : Int)) = false := by simp; omega
    have t9 : decide ((917504 : Int) ≤ r) = false := by simp; omega
    clear h
    go_enter Tryz.func60, Tryz.ntmps60
    go_wp2
    go_ret
    rw [HE.out]
    exact ⟨rfl, rfl⟩
  · have HE : Hid (hp r = true) := Lib.hid (by unfold hp; simp only [decide_eq_true_eq]; omega)
    have t1a : decide ((128 : Int) ≤ r) = true := by simp; omega
    have t1b : decide (r ≤ (159 : Int)) = false := by simp; omega
    have t2 : (r == (173 : Int)) = false := by simp; omega
    have t3a : decide ((8203 : Int) ≤ r) = true := by simp; omega
    have t3b : decide (r ≤ (8207 : Int)) = false := by simp; omega
    have t4a : decide ((8232 : Int) ≤ r) = true := by simp; omega
    have t4b : decide (r ≤ (8239 : Int)) = false := by simp; omega
    have t5a : decide ((8288 : Int) ≤ r) = true := by simp; omega
    have t5b : decide (r ≤ (8303 : Int)) = true := by simp; omega
    clear h
    go_enter Tryz.func60, Tryz.ntmps60
    go_wp2
    go_ret
    rw [HE.out]
    exact ⟨rfl, rfl⟩
  · have HE : Hid (hp r = false) := Lib.hid (by unfold hp; simp only [decide_eq_false_iff_not]; omega)
    have t1a : decide ((128 : Int) ≤ r) = true := by simp; omega
    have t1b : decide (r ≤ (159 : Int)) = false := by simp; omega
    have t2 : (r == (173 : Int)) = false := by simp; omega
    have t3a : decide ((8203 : Int) ≤ r) = true := by simp; omega
    have t3b : decide (r ≤ (8207 : Int)) = false := by simp; omega
    have t4a : decide ((8232 : Int) ≤ r) = true := by simp; omega
    have t4b : decide (r ≤ (8239 : Int)) = false := by simp; omega
    have t5a : decide ((8288 : Int) ≤ r) = true := by simp; omega
    have t5b : decide (r ≤ (8303 : Int)) = false := by simp; omega
    have t6a : decide ((55296 : Int) ≤ r) = false := by simp; omega
    have t7a : decide ((65024 : Int) ≤ r) = false := by simp; omega
    have t8 : (r == (65279 : Int)) = false := by simp; omega
    have t9 : decide ((917504 : Int) ≤ r) = false := by simp; omega
    clear h
    go_enter Tryz.func60, Tryz.ntmps60
    go_wp2
    go_ret
    rw [HE.out]
    exact ⟨rfl, rfl⟩
  · have HE : Hid (hp r = true) := Lib.hid (by unfold hp; simp only [decide_eq_true_eq]; omega)
    have t1a : decide ((128 : Int) ≤ r) = true := by simp; omega
    have t1b : decide (r ≤ (159 : Int)) = false := by simp; omega
    have t2 : (r == (173 : Int)) = false := by simp; omega
    have t3a : decide ((8203 : Int) ≤ r) = true := by simp; omega
    have t3b : decide (r ≤ (8207 : Int)) = false := by simp; omega
    have t4a : decide ((8232 : Int) ≤ r) = true := by simp; omega
    have t4b : decide (r ≤ (8239 : Int)) = false := by simp; omega
    have t5a : decide ((8288 : Int) ≤ r) = true := by simp; omega
    have t5b : decide (r ≤ (8303 : Int)) = false := by simp; omega
    have t6a : decide ((55296 : Int) ≤ r) = true := by simp; omega
    have t6b : decide (r ≤ (63743 : Int)) = true := by simp; omega
    clear h
    go_enter Tryz.func60, Tryz.ntmps60
    go_wp2
    go_ret
    rw [HE.out]
    exact ⟨rfl, rfl⟩
  · have HE : Hid (hp r = false) := Lib.hid (by unfold hp; simp only [decide_eq_false_iff_not]; omega)
    have t1a : decide ((128 : Int) ≤ r) = true := by simp; omega
    have t1b : decide (r ≤ (159 : Int)) = false := by simp; omega
    have t2 : (r == (173 : Int)) = false := by simp; omega
    have t3a : decide ((8203 : Int) ≤ r) = true := by simp; omega
    have t3b : decide (r ≤ (8207 : Int)) = false := by simp; omega
    have t4a : decide ((8232 : Int) ≤ r) = true := by simp; omega
    have t4b : decide (r ≤ (8239 : Int)) = false := by simp; omega
    have t5a : decide ((8288 : Int) ≤ r) = true := by simp; omega
    have t5b : decide (r ≤ (8303 : Int)) = false := by simp; omega
    have t6a : decide ((55296 : Int) ≤ r) = true := by simp; omega
    have t6b : decide (r ≤ (63743 : Int)) = false := by simp; omega
    have t7a : decide ((65024 : Int) ≤ r) = false := by simp; omega
    have t8 : (r == (65279 : Int)) = false := by simp; omega
    have t9 : decide ((917504 : Int) ≤ r) = false := by simp; omega
    clear h
    go_enter Tryz.func60, Tryz.ntmps60
    go_wp2
    go_ret
    rw [HE.out]
    exact ⟨rfl, rfl⟩
  · have HE : Hid (hp r = true) := Lib.hid (by unfold hp; simp only [decide_eq_true_eq]; omega)
    have t1a : decide ((128 : Int) ≤ r) = true := by simp; omega
    have t1b : decide (r ≤ (159 : Int)) = false := by simp; omega
    have t2 : (r == (173 : Int)) = false := by simp; omega
    have t3a : decide ((8203 : Int) ≤ r) = true := by simp; omega
    have t3b : decide (r ≤ (8207 : Int)) = false := by simp; omega
    have t4a : decide ((8232 : Int) ≤ r) = true := by simp; omega
    have t4b : decide (r ≤ (8239 : Int)) = false := by simp; omega
    have t5a : decide ((8288 : Int) ≤ r) = true := by simp; omega
    have t5b : decide (r ≤ (8303 : Int)) = false := by simp; omega
    have t6a : decide ((55296 : Int) ≤ r) = true := by simp; omega
    have t6b : decide (r ≤ (63743 : Int)) = false := by simp; omega
    have t7a : decide ((65024 : Int) ≤ r) = true := by simp; omega
    have t7b : decide (r ≤ (65039 : Int)) = true := by simp; omega
    clear h
    go_enter Tryz.func60, Tryz.ntmps60
    go_wp2
    go_ret
    rw [HE.out]
    exact ⟨rfl, rfl⟩
  · have HE : Hid (hp r = false) := Lib.hid (by unfold hp; simp only [decide_eq_false_iff_not]; omega)
    have t1a : decide ((128 : Int) ≤ r) = true := by simp; omega
    have t1b : decide (r ≤ (159 : Int)) = false := by simp; omega
    have t2 : (r == (173 : Int)) = false := by simp; omega
    have t3a : decide ((8203 : Int) ≤ r) = true := by simp; omega
    have t3b : decide (r ≤ (8207 : Int)) = false := by simp; omega
    have t4a : decide ((8232 : Int) ≤ r) = true := by simp; omega
    have t4b : decide (r ≤ (8239 : Int)) = false := by simp; omega
    have t5a : decide ((8288 : Int) ≤ r) = true := by simp; omega
    have t5b : decide (r ≤ (8303 : Int)) = false := by simp; omega
    have t6a : decide ((55296 : Int) ≤ r) = true := by simp; omega
    have t6b : decide (r ≤ (63743 : Int)) = false := by simp; omega
    have t7a : decide ((65024 : Int) ≤ r) = true := by simp; omega
    have t7b : decide (r ≤ (65039 : Int)) = false := by simp; omega
    have t8 : (r == (65279 : Int)) = false := by simp; omega
    have t9 : decide ((917504 : Int) ≤ r) = false := by simp; omega
    clear h
    go_enter Tryz.func60, Tryz.ntmps60
    go_wp2
    go_ret
    rw [HE.out]
    exact ⟨rfl, rfl⟩
  · have HE : Hid (hp r = true) := Lib.hid (by unfold hp; simp only [decide_eq_true_eq]; omega)
    have t1a : decide ((128 : Int) ≤ r) = true := by simp; omega
    have t1b : decide (r ≤ (159 : Int)) = false := by simp; omega
    have t2 : (r == (173 : Int)) = false := by simp; omega
    have t3a : decide ((8203 : Int) ≤ r) = true := by simp; omega
    have t3b : decide (r ≤ (8207 : Int)) = false := by simp; omega
    have t4a : decide ((8232 : Int) ≤ r) = true := by simp; omega
    have t4b : decide (r ≤ (8239 : Int)) = false := by simp; omega
    have t5a : decide ((8288 : Int) ≤ r) = true := by simp; omega
    have t5b : decide (r ≤ (8303 : Int)) = false := by simp; omega
    have t6a : decide ((55296 : Int) ≤ r) = true := by simp; omega
    have t6b : decide (r ≤ (63743 : Int)) = false := by simp; omega
    have t7a : decide ((65024 : Int) ≤ r) = true := by simp; omega
    have t7b : decide (r ≤ (65039 : Int)) = false := by simp; omega
    have t8 : (r == (65279 : Int)) = true := by simp; omega
    clear h
    go_enter Tryz.func60, Tryz.ntmps60
    go_wp2
    go_ret
    rw [HE.out]
    exact ⟨rfl, rfl⟩
  · have HE : Hid (hp r = false) := Lib.hid (by unfold hp; simp only [decide_eq_false_iff_not]; omega)
    have t1a : decide ((128 : Int) ≤ r) = true := by simp; omega
    have t1b : decide (r ≤ (159 : Int)) = false := by simp; omega
    have t2 : (r == (173 : Int)) = false := by simp; omega
    have t3a : decide ((8203 : Int) ≤ r) = true := by simp; omega
    have t3b : decide (r ≤ (8207 : Int)) = false := by simp; omega
    have t4a : decide ((8232 : Int) ≤ r) = true := by simp; omega
    have t4b : decide (r ≤ (8239 : Int)) = false := by simp; omega
    have t5a : decide ((8288 : Int) ≤ r) = true := by simp; omega
    have t5b : decide (r ≤ (8303 : Int)) = false := by simp; omega
    have t6a : decide ((55296 : Int) ≤ r) = true := by simp; omega
    have t6b : decide (r ≤ (63743 : Int)) = false := by simp; omega
    have t7a : decide ((65024 : Int) ≤ r) = true := by simp; omega
    have t7b : decide (r ≤ (65039 : Int)) = false := by simp; omega
    have t8 : (r == (65279 : Int)) = false := by simp; omega
    have t9 : decide ((917504 : Int) ≤ r) = false := by simp; omega
    clear h
    go_enter Tryz.func60, Tryz.ntmps60
    go_wp2
    go_ret
    rw [HE.out]
    exact ⟨rfl, rfl⟩
  · have HE : Hid (hp r = true) := Lib.hid (by unfold hp; simp only [decide_eq_true_eq]; omega)
    have t1a : decide ((128 : Int) ≤ r) = true := by simp; omega
    have t1b : decide (r ≤ (159 : Int)) = false := by simp; omega
    have t2 : (r == (173 : Int)) = false := by simp; omega
    have t3a : decide ((8203 : Int) ≤ r) = true := by simp; omega
    have t3b : decide (r ≤ (8207 : Int)) = false := by simp; omega
    have t4a : decide ((8232 : Int) ≤ r) = true := by simp; omega
    have t4b : decide (r ≤ (8239 : Int)) = false := by simp; omega
    have t5a : decide ((8288 : Int) ≤ r) = true := by simp; omega
    have t5b : decide (r ≤ (8303 : Int)) = false := by simp; omega
    have t6a : decide ((55296 : Int) ≤ r) = true := by simp; omega
    have t6b : decide (r ≤ (63743 : Int)) = false := by simp; omega
    have t7a : decide ((65024 : Int) ≤ r) = true := by simp; omega
    have t7b : decide (r ≤ (65039 : Int)) = false := by simp; omega
    have t8 : (r == (65279 : Int)) = false := by simp; omega
    have t9 : decide ((917504 : Int) ≤ r) = true := by simp; omega
    clear h
    go_enter Tryz.func60, Tryz.ntmps60
    go_wp2
    go_ret
    rw [HE.out]
    exact ⟨rfl, rfl⟩
set_option maxRecDepth 100000 in
set_option maxHeartbeats 16000000 in
theorem rhidden_any (r : Int) (w : World) : Calls Tryz.prog 68 #[.int .i32 r] w fun e w' => e = .returned (.bool (hr r)) ∧ w = w' := by
  have hiv : r ≤ 127 ∨ (128 ≤ r ∧ r ≤ 159) ∨ (160 ≤ r ∧ r ≤ 172) ∨ (173 ≤ r ∧ r ≤ 173) ∨ (174 ≤ r ∧ r ≤ 8202) ∨ (8203 ≤ r ∧ r ≤ 8207) ∨ (8208 ≤ r ∧ r ≤ 8231) ∨ (8232 ≤ r ∧ r ≤ 8239) ∨ (8240 ≤ r ∧ r ≤ 8287) ∨ (8288 ≤ r ∧ r ≤ 8303) ∨ (8304 ≤ r ∧ r ≤ 57343) ∨ (57344 ≤ r ∧ r ≤ 63743) ∨ (63744 ≤ r ∧ r ≤ 65023) ∨ (65024 ≤ r ∧ r ≤ 65039) ∨ (65040 ≤ r ∧ r ≤ 65278) ∨ (65279 ≤ r ∧ r ≤ 65279) ∨ (65280 ≤ r ∧ r ≤ 917503) ∨ 917504 ≤ r := by omega
  rcases hiv with h | h | h | h | h | h | h | h | h | h | h | h | h | h | h | h | h | h
  · have HE : Hid (hr r = false) := Lib.hid (by unfold hr; simp only [decide_eq_false_iff_not]; omega)
    have t1a : decide ((128 : Int) ≤ r) = false := by simp; omega
    have t2 : (r == (173 : Int)) = false := by simp; omega
    have t3a : decide ((8203 : Int) ≤ r) = false := by simp; omega
    have t4a : decide ((8232 : Int) ≤ r) = false := by simp; omega
    have t5a : decide ((8288 : Int) ≤ r) = false := by simp; omega
    have t6a : decide ((57344 : Int) ≤ r) = false := by simp; omega
    have t7a : decide ((65024 : Int) ≤ r) = false := by simp; omega
    have t8 : (r == (65279 : Int)) = false := by simp; omega
    have t9 : decide ((917504 : Int) ≤ r) = false := by simp; omega
    clear h
    go_enter Tryz.func68, Tryz.ntmps68
    go_wp2
    go_ret
    rw [HE.out]
    exact ⟨rfl, rfl⟩
  · have HE : Hid (hr r = true) := Lib.hid (by unfold hr; simp only [decide_eq_true_eq]; omega)
    have t1a : decide ((128 : Int) ≤ r) = true := by simp; omega
    have t1b : decide (r ≤ (159 : Int)) = true := by simp; omega
    clear h
    go_enter Tryz.func68, Tryz.ntmps68
    go_wp2
    go_ret
    rw [HE.out]
    exact ⟨rfl, rfl⟩
  · have HE : Hid (hr r = false) := Lib.hid (by unfold hr; simp only [decide_eq_false_iff_not]; omega)
    have t1a : decide ((128 : Int) ≤ r) = true := by simp; omega
    have t1b : decide (r ≤ (159 : Int)) = false := by simp; omega
    have t2 : (r == (173 : Int)) = false := by simp; omega
    have t3a : decide ((8203 : Int) ≤ r) = false := by simp; omega
    have t4a : decide ((8232 : Int) ≤ r) = false := by simp; omega
    have t5a : decide ((8288 : Int) ≤ r) = false := by simp; omega
    have t6a : decide ((57344 : Int) ≤ r) = false := by simp; omega
    have t7a : decide ((65024 : Int) ≤ r) = false := by simp; omega
    have t8 : (r == (65279 : Int)) = false := by simp; omega
    have t9 : decide ((917504 : Int) ≤ r) = false := by simp; omega
    clear h
    go_enter Tryz.func68, Tryz.ntmps68
    go_wp2
    go_ret
    rw [HE.out]
    exact ⟨rfl, rfl⟩
  · have HE : Hid (hr r = true) := Lib.hid (by unfold hr; simp only [decide_eq_true_eq]; omega)
    have t1a : decide ((128 : Int) ≤ r) = true := by simp; omega
    have t1b : decide (r ≤ (159 : Int)) = false := by simp; omega
    have t2 : (r == (173 : Int)) = true := by simp; omega
    clear h
    go_enter Tryz.func68, Tryz.ntmps68
    go_wp2
    go_ret
    rw [HE.out]
    exact ⟨rfl, rfl⟩
  · have HE : Hid (hr r = false) := Lib.hid (by unfold hr; simp only [decide_eq_false_iff_not]; omega)
    have t1a : decide ((128 : Int) ≤ r) = true := by simp; omega
    have t1b : decide (r ≤ (159 : Int)) = false := by simp; omega
    have t2 : (r == (173 : Int)) = false := by simp; omega
    have t3a : decide ((8203 : Int) ≤ r) = false := by simp; omega
    have t4a : decide ((8232 : Int) ≤ r) = false := by simp; omega
    have t5a : decide ((8288 : Int) ≤ r) = false := by simp; omega
    have t6a : decide ((57344 : Int) ≤ r) = false := by simp; omega
    have t7a : decide ((65024 : Int) ≤ r) = false := by simp; omega
    have t8 : (r == (65279 : Int)) = false := by simp; omega
    have t9 : decide ((917504 : Int) ≤ r) = false := by simp; omega
    clear h
    go_enter Tryz.func68, Tryz.ntmps68
    go_wp2
    go_ret
    rw [HE.out]
    exact ⟨rfl, rfl⟩
  · have HE : Hid (hr r = true) := Lib.hid (by unfold hr; simp only [decide_eq_true_eq]; omega)
    have t1a : decide ((128 : Int) ≤ r) = true := by simp; omega
    have t1b : decide (r ≤ (159 : Int)) = false := by simp; omega
    have t2 : (r == (173 : Int)) = false := by simp; omega
    have t3a : decide ((8203 : Int) ≤ r) = true := by simp; omega
    have t3b : decide (r ≤ (8207 : Int)) = true := by simp; omega
    clear h
    go_enter Tryz.func68, Tryz.ntmps68
    go_wp2
    go_ret
    rw [HE.out]
    exact ⟨rfl, rfl⟩
  · have HE : Hid (hr r = false) := Lib.hid (by unfold hr; simp only [decide_eq_false_iff_not]; omega)
    have t1a : decide ((128 : Int) ≤ r) = true := by simp; omega
    have t1b : decide (r ≤ (159 : Int)) = false := by simp; omega
    have t2 : (r == (173 : Int)) = false := by simp; omega
    have t3a : decide ((8203 : Int) ≤ r) = true := by simp; omega
    have t3b : decide (r ≤ (8207 : Int)) = false := by simp; omega
    have t4a : decide ((8232 : Int) ≤ r) = false := by simp; omega
    have t5a : decide ((8288 : Int) ≤ r) = false := by simp; omega
    have t6a : decide ((57344 : Int) ≤ r) = false := by simp; omega
    have t7a : decide ((65024 : Int) ≤ r) = false := by simp; omega
    have t8 : (r == (65279 : Int)) = false := by simp; omega
    have t9 : decide ((917504 : Int) ≤ r) = false := by simp; omega
    clear h
    go_enter Tryz.func68, Tryz.ntmps68
    go_wp2
    go_ret
    rw [HE.out]
    exact ⟨rfl, rfl⟩
  · have HE : Hid (hr r = true) := Lib.hid (by unfold hr; simp only [decide_eq_true_eq]; omega)
    have t1a : decide ((128 : Int) ≤ r) = true := by simp; omega
    have t1b : decide (r ≤ (159 : Int)) = false := by simp; omega
    have t2 : (r == (173 : Int)) = false := by simp; omega
    have t3a : decide ((8203 : Int) ≤ r) = true := by simp; omega
    have t3b : decide (r ≤ (8207 : Int)) = false := by simp; omega
    have t4a : decide ((8232 : Int) ≤ r) = true := by simp; omega
    have t4b : decide (r ≤ (8239 : Int)) = true := by simp; omega
    clear h
    go_enter Tryz.func68, Tryz.ntmps68
    go_wp2
    go_ret
    rw [HE.out]
    exact ⟨rfl, rfl⟩
  · have HE : Hid (hr r = false) := Lib.hid (by unfold hr; simp only [decide_eq_false_iff_not]; omega)
    have t1a : decide ((128 : Int) ≤ r) = true := by simp; omega
    have t1b : decide (r ≤ (159 : Int)) = false := by simp; omega
    have t2 : (r == (173 : Int)) = false := by simp; omega
    have t3a : decide ((8203 : Int) ≤ r) = true := by simp; omega
    have t3b : decide (r ≤ (8207 : Int)) = false := by simp; omega
    have t4a : decide ((8232 : Int) ≤ r) = true := by simp; omega
    have t4b : decide (r ≤ (8239 : Int)) = false := by simp; omega
    have t5a : decide ((8288 : Int) ≤ r) = false := by simp; omega
    have t6a : decide ((57344 : Int) ≤ r) = false := by simp; omega
    have t7a : decide ((65024 : Int) ≤ r) = false := by simp; omega
    have t8 : (r == (65279 : Int)) = false := by simp; omega
    have t9 : decide ((917504 : Int) ≤ r) = false := by simp; omega
    clear h
    go_enter Tryz.func68, Tryz.ntmps68
    go_wp2
    go_ret
    rw [HE.out]
    exact ⟨rfl, rfl⟩
  · have HE : Hid (hr r = true) := Lib.hid (by unfold hr; simp only [decide_eq_true_eq]; omega)
    have t1a : decide ((128 : Int) ≤ r) = true := by simp; omega
    have t1b : decide (r ≤ (159 : Int)) = false := by simp; omega
    have t2 : (r == (173 : Int)) = false := by simp; omega
    have t3a : decide ((8203 : Int) ≤ r) = true := by simp; omega
    have t3b : decide (r ≤ (8207 : Int)) = false := by simp; omega
    have t4a : decide ((8232 : Int) ≤ r) = true := by simp; omega
    have t4b : decide (r ≤ (8239 : Int)) = false := by simp; omega
    have t5a : decide ((8288 : Int) ≤ r) = true := by simp; omega
    have t5b : decide (r ≤ (8303 : Int)) = true := by simp; omega
    clear h
    go_enter Tryz.func68, Tryz.ntmps68
    go_wp2
    go_ret
    rw [HE.out]
    exact ⟨rfl, rfl⟩
  · have HE : Hid (hr r = false) := Lib.hid (by unfold hr; simp only [decide_eq_false_iff_not]; omega)
    have t1a : decide ((128 : Int) ≤ r) = true := by simp; omega
    have t1b : decide (r ≤ (159 : Int)) = false := by simp; omega
    have t2 : (r == (173 : Int)) = false := by simp; omega
    have t3a : decide ((8203 : Int) ≤ r) = true := by simp; omega
    have t3b : decide (r ≤ (8207 : Int)) = false := by simp; omega
    have t4a : decide ((8232 : Int) ≤ r) = true := by simp; omega
    have t4b : decide (r ≤ (8239 : Int)) = false := by simp; omega
    have t5a : decide ((8288 : Int) ≤ r) = true := by simp; omega
    have t5b : decide (r ≤ (8303 : Int)) = false := by simp; omega
    have t6a : decide ((57344 : Int) ≤ r) = false := by simp; omega
    have t7a : decide ((65024 : Int) ≤ r) = false := by simp; omega
    have t8 : (r == (65279 : Int)) = false := by simp; omega
    have t9 : decide ((917504 : Int) ≤ r) = false := by simp; omega
    clear h
    go_enter Tryz.func68, Tryz.ntmps68
    go_wp2
    go_ret
    rw [HE.out]
    exact ⟨rfl, rfl⟩
  · have HE : Hid (hr r = true) := Lib.hid (by unfold hr; simp only [decide_eq_true_eq]; omega)
    have t1a : decide ((128 : Int) ≤ r) = true := by simp; omega
    have t1b : decide (r ≤ (159 : Int)) = false := by simp; omega
    have t2 : (r == (173 : Int)) = false := by simp; omega
    have t3a : decide ((8203 : Int) ≤ r) = true := by simp; omega
    have t3b : decide (r ≤ (8207 : Int)) = false := by simp; omega
    have t4a : decide ((8232 : Int) ≤ r) = true := by simp; omega
    have t4b : decide (r ≤ (8239 : Int)) = false := by simp; omega
    have t5a : decide ((8288 : Int) ≤ r) = true := by simp; omega
    have t5b : decide (r ≤ (8303 : Int)) = false := by simp; omega
    have t6a : decide ((57344 : Int) ≤ r) = true := by simp; omega
    have t6b : decide (r ≤ (63743 : Int)) = true := by simp; omega
    clear h
    go_enter Tryz.func68, Tryz.ntmps68
    go_wp2
    go_ret
    rw [HE.out]
    exact ⟨rfl, rfl⟩
  · have HE : Hid (hr r = false) := Lib.hid (by unfold hr; simp only [decide_eq_false_iff_not]; omega)
    have t1a : decide ((128 : Int) ≤ r) = true := by simp; omega
    have t1b : decide (r ≤ (159 : Int)) = false := by simp; omega
    have t2 : (r == (173 : Int)) = false := by simp; omega
    have t3a : decide ((8203 : Int) ≤ r) = true := by simp; omega
    have t3b : decide (r ≤ (8207 : Int)) = false := by simp; omega
    have t4a : decide ((8232 : Int) ≤ r) = true := by simp; omega
    have t4b : decide (r ≤ (8239 : Int)) = false := by simp; omega
    have t5a : decide ((8288 : Int) ≤ r) = true := by simp; omega
    have t5b : decide (r ≤ (8303 : Int)) = false := by simp; omega
    have t6a : decide ((57344 : Int) ≤ r) = true := by simp; omega
    have t6b : decide (r ≤ (63743 : Int)) = false := by simp; omega
    have t7a : decide ((65024 : Int) ≤ r) = false := by simp; omega
    have t8 : (r == (65279 : Int)) = false := by simp; omega
    have t9 : decide ((917504 : Int) ≤ r) = false := by simp; omega
    clear h
    go_enter Tryz.func68, Tryz.ntmps68
    go_wp2
    go_ret
    rw [HE.out]
    exact ⟨rfl, rfl⟩
  · have HE : Hid (hr r = true) := Lib.hid (by unfold hr; simp only [decide_eq_true_eq]; omega)
    have t1a : decide ((128 : Int) ≤ r) = true := by simp; omega
    have t1b : decide (r ≤ (159 : Int)) = false := by simp; omega
    have t2 : (r == (173 : Int)) = false := by simp; omega
    have t3a : decide ((8203 : Int) ≤ r) = true := by simp; omega
    have t3b : decide (r ≤ (8207 : Int)) = false := by simp; omega
    have t4a : decide ((8232 : Int) ≤ r) = true := by simp; omega
    have t4b : decide (r ≤ (8239 : Int)) = false := by simp; omega
    have t5a : decide ((8288 : Int) ≤ r) = true := by simp; omega
    have t5b : decide (r ≤ (8303 : Int)) = false := by simp; omega
    have t6a : decide ((57344 : Int) ≤ r) = true := by simp; omega
    have t6b : decide (r ≤ (63743 : Int)) = false := by simp; omega
    have t7a : decide ((65024 : Int) ≤ r) = true := by simp; omega
    have t7b : decide (r ≤ (65039 : Int)) = true := by simp; omega
    clear h
    go_enter Tryz.func68, Tryz.ntmps68
    go_wp2
    go_ret
    rw [HE.out]
    exact ⟨rfl, rfl⟩
  · have HE : Hid (hr r = false) := Lib.hid (by unfold hr; simp only [decide_eq_false_iff_not]; omega)
    have t1a : decide ((128 : Int) ≤ r) = true := by simp; omega
    have t1b : decide (r ≤ (159 : Int)) = false := by simp; omega
    have t2 : (r == (173 : Int)) = false := by simp; omega
    have t3a : decide ((8203 : Int) ≤ r) = true := by simp; omega
    have t3b : decide (r ≤ (8207 : Int)) = false := by simp; omega
    have t4a : decide ((8232 : Int) ≤ r) = true := by simp; omega
    have t4b : decide (r ≤ (8239 : Int)) = false := by simp; omega
    have t5a : decide ((8288 : Int) ≤ r) = true := by simp; omega
    have t5b : decide (r ≤ (8303 : Int)) = false := by simp; omega
    have t6a : decide ((57344 : Int) ≤ r) = true := by simp; omega
    have t6b : decide (r ≤ (63743 : Int)) = false := by simp; omega
    have t7a : decide ((65024 : Int) ≤ r) = true := by simp; omega
    have t7b : decide (r ≤ (65039 : Int)) = false := by simp; omega
    have t8 : (r == (65279 : Int)) = false := by simp; omega
    have t9 : decide ((917504 : Int) ≤ r) = false := by simp; omega
    clear h
    go_enter Tryz.func68, Tryz.ntmps68
    go_wp2
    go_ret
    rw [HE.out]
    exact ⟨rfl, rfl⟩
  · have HE : Hid (hr r = true) := Lib.hid (by unfold hr; simp only [decide_eq_true_eq]; omega)
    have t1a : decide ((128 : Int) ≤ r) = true := by simp; omega
    have t1b : decide (r ≤ (159 : Int)) = false := by simp; omega
    have t2 : (r == (173 : Int)) = false := by simp; omega
    have t3a : decide ((8203 : Int) ≤ r) = true := by simp; omega
    have t3b : decide (r ≤ (8207 : Int)) = false := by simp; omega
    have t4a : decide ((8232 : Int) ≤ r) = true := by simp; omega
    have t4b : decide (r ≤ (8239 : Int)) = false := by simp; omega
    have t5a : decide ((8288 : Int) ≤ r) = true := by simp; omega
    have t5b : decide (r ≤ (8303 : Int)) = false := by simp; omega
    have t6a : decide ((57344 : Int) ≤ r) = true := by simp; omega
    have t6b : decide (r ≤ (63743 : Int)) = false := by simp; omega
    have t7a : decide ((65024 : Int) ≤ r) = true := by simp; omega
    have t7b : decide (r ≤ (65039 : Int)) = false := by simp; omega
    have t8 : (r == (65279 : Int)) = true := by simp; omega
    clear h
    go_enter Tryz.func68, Tryz.ntmps68
    go_wp2
    go_ret
    rw [HE.out]
    exact ⟨rfl, rfl⟩
  · have HE : Hid (hr r = false) := Lib.hid (by unfold hr; simp only [decide_eq_false_iff_not]; omega)
    have t1a : decide ((128 : Int) ≤ r) = true := by simp; omega
    have t1b : decide (r ≤ (159 : Int)) = false := by simp; omega
    have t2 : (r == (173 : Int)) = false := by simp; omega
    have t3a : decide ((8203 : Int) ≤ r) = true := by simp; omega
    have t3b : decide (r ≤ (8207 : Int)) = false := by simp; omega
    have t4a : decide ((8232 : Int) ≤ r) = true := by simp; omega
    have t4b : decide (r ≤ (8239 : Int)) = false := by simp; omega
    have t5a : decide ((8288 : Int) ≤ r) = true := by simp; omega
    have t5b : decide (r ≤ (8303 : Int)) = false := by simp; omega
    have t6a : decide ((57344 : Int) ≤ r) = true := by simp; omega
    have t6b : decide (r ≤ (63743 : Int)) = false := by simp; omega
    have t7a : decide ((65024 : Int) ≤ r) = true := by simp; omega
    have t7b : decide (r ≤ (65039 : Int)) = false := by simp; omega
    have t8 : (r == (65279 : Int)) = false := by simp; omega
    have t9 : decide ((917504 : Int) ≤ r) = false := by simp; omega
    clear h
    go_enter Tryz.func68, Tryz.ntmps68
    go_wp2
    go_ret
    rw [HE.out]
    exact ⟨rfl, rfl⟩
  · have HE : Hid (hr r = true) := Lib.hid (by unfold hr; simp only [decide_eq_true_eq]; omega)
    have t1a : decide ((128 : Int) ≤ r) = true := by simp; omega
    have t1b : decide (r ≤ (159 : Int)) = false := by simp; omega
    have t2 : (r == (173 : Int)) = false := by simp; omega
    have t3a : decide ((8203 : Int) ≤ r) = true := by simp; omega
    have t3b : decide (r ≤ (8207 : Int)) = false := by simp; omega
    have t4a : decide ((8232 : Int) ≤ r) = true := by simp; omega
    have t4b : decide (r ≤ (8239 : Int)) = false := by simp; omega
    have t5a : decide ((8288 : Int) ≤ r) = true := by simp; omega
    have t5b : decide (r ≤ (8303 : Int)) = false := by simp; omega
    have t6a : decide ((57344 : Int) ≤ r) = true := by simp; omega
    have t6b : decide (r ≤ (63743 : Int)) = false := by simp; omega
    have t7a : decide ((65024 : Int) ≤ r) = true := by simp; omega
    have t7b : decide (r ≤ (65039 : Int)) = false := by simp; omega
    have t8 : (r == (65279 : Int)) = false := by simp; omega
    have t9 : decide ((917504 : Int) ≤ r) = true := by simp; omega
    clear h
    go_enter Tryz.func68, Tryz.ntmps68
    go_wp2
    go_ret
    rw [HE.out]
    exact ⟨rfl, rfl⟩
end Go.Proofs.YtbidppjhenfjdaaGreatDoor
