/-
  The units' table.
-/
import Derived.Test.YtodbjehggkdjaaaMO
import Derived.Test.YtodbjehggkdjaaaIntMap
namespace Go.Proofs.Ytodbjehggkdjaaa
open Go.RowKit
set_option linter.unusedVariables false
set_option linter.unusedSimpArgs false

/-- The four units. -/
def unitE (f : Nat) (e : Int) : Value := .agg #[.func (.func f) #[] #[], .int .i64 e]
def unitL : List (Int × Value) := [(1, unitE 45 4), (2, unitE 46 3), (3, unitE 47 4), (4, unitE 48 3)]
set_option maxHeartbeats 4000000 in
theorem units_any (w : World) :
    Calls Try.prog 28 #[] w fun e w' => ∃ b, e = .returned (.map (some b)) ∧ IM w' b .i64 unitL ∧ Keep [] w w' := by
  have hmm := @run_makeMap Try.prog
  obtain ⟨w1, r1, i1, k1⟩ := im_update (P := Try.prog) Try.underlying71 Try.underlying3 (IM.made w .i64) 1 (unitE 45 4) (by simp)
  obtain ⟨w2, r2, i2, k2⟩ := im_update (P := Try.prog) Try.underlying71 Try.underlying3 i1 2 (unitE 46 3) (by simp)
  obtain ⟨w3, r3, i3, k3⟩ := im_update (P := Try.prog) Try.underlying71 Try.underlying3 i2 3 (unitE 47 4) (by simp)
  obtain ⟨w4, r4, i4, k4⟩ := im_update (P := Try.prog) Try.underlying71 Try.underlying3 i3 4 (unitE 48 3) (by simp)
  have HF := Lib.hid (show IM w4 w.heap.size .i64 unitL ∧ Keep [] w w4 from ⟨i4, (((((Keep.refl [] w).alloc _).trans k1 (fun b hb => by simp at hb; exact .inr (by omega))).trans k2 (fun b hb => by simp at hb; exact .inr (by omega))).trans k3 (fun b hb => by simp at hb; exact .inr (by omega))).trans k4 (fun b hb => by simp at hb; exact .inr (by omega))⟩)
  clear i1 i2 i3 i4 k1 k2 k3 k4
  unfold unitE at r1 r2 r3 r4
  go_enter Try.func28, Try.ntmps28
  go_wp2
  go_ret
  exact ⟨_, rfl, HF.out.1, HF.out.2⟩
theorem unit1_any (s : ByteArray) (k : Nat) (w : World) :
    Calls Try.prog 45 #[.agg (spV s k)] w fun e w' => e = .returned (.int .i64 (pos s k : Nat)) ∧ Keep [] w w' := by
  unfold spV
  go_enter Try.func45, Try.ntmps45
  go_wp2
  go_ret
  exact ⟨rfl, (Keep.refl _ _).alloc _⟩
theorem unit2_any (s : ByteArray) (k : Nat) (w : World) :
    Calls Try.prog 46 #[.agg (spV s k)] w fun e w' => e = .returned (.int .i64 (k : Nat)) ∧ Keep [] w w' := by
  unfold spV
  go_enter Try.func46, Try.ntmps46
  go_wp2
  go_ret
  exact ⟨rfl, (Keep.refl _ _).alloc _⟩
theorem unit3_any (s : ByteArray) (k : Nat) (w : World) :
    Calls Try.prog 47 #[.agg (spV s k)] w fun e w' => e = .returned (.int .i64 (un s k : Nat)) ∧ Keep [] w w' := by
  unfold spV
  go_enter Try.func47, Try.ntmps47
  go_wp2
  go_ret
  exact ⟨rfl, (Keep.refl _ _).alloc _⟩
theorem unit4_any (s : ByteArray) (k : Nat) (w : World) :
    Calls Try.prog 48 #[.agg (spV s k)] w fun e w' => e = .returned (.int .i64 (cl s k : Nat)) ∧ Keep [] w w' := by
  unfold spV
  go_enter Try.func48, Try.ntmps48
  go_wp2
  go_ret
  exact ⟨rfl, (Keep.refl _ _).alloc _⟩
end Go.Proofs.Ytodbjehggkdjaaa
