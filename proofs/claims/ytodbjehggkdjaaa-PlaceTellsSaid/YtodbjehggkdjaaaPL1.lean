/-
  PlaceTells, walked.
-/
import Derived.Test.YtodbjehggkdjaaaMU
namespace Go.Proofs.Ytodbjehggkdjaaa
open Go.RowKit
set_option linter.unusedVariables false
set_option linter.unusedSimpArgs false

set_option maxRecDepth 100000 in
set_option maxHeartbeats 8000000 in
theorem placeTells_walk (s : ByteArray) (u x l c : Int) (w : World) (hs : s.size ≤ maxLen) (hu : -9223372036854775808 ≤ u ∧ u ≤ 9223372036854775807) (hx : -9223372036854775808 ≤ x ∧ x ≤ 9223372036854775807) (hl : -9223372036854775808 ≤ l ∧ l ≤ 9223372036854775807) (hc : -9223372036854775808 ≤ c ∧ c ≤ 9223372036854775807) :
    Calls Try.prog 3 #[.string s, .int .i64 u, .int .i64 x, .int .i64 l, .int .i64 c] w fun e w' => e = .returned (.bool true) ∧ Keep [] w w' := by
  unfold maxLen at hs
  by_cases hz : s.size ≤ 300
  · have hzd : decide ((300 : Int) < (s.size : Int)) = false := by simp; omega
    have HT := Lib.hid (fun mb W hM => tells_any mb s u x l c W hM (by omega) hx.1 hx.2 hc.1 hc.2)
    clear hu hx hl hc
    go_enter Try.func3, Try.ntmps3
    go_wp2_with fail
    refine (new_any s _ (by omega)).mono ?_
    rintro e W1 ⟨mb, rfl, _, hm, hk1⟩
    have HM := Lib.hid hm; have K1 := Lib.hid hk1; clear hm hk1
    go_wp2_with fail
    refine (HT.out _ _ HM.out).mono ?_
    rintro e W2 ⟨rfl, hk2⟩
    have K2 := Lib.hid (K1.out.trans0 hk2); clear hk2
    go_wp2_with fail
    refine (known_any _).mono ?_
    rintro e W3 ⟨rfl, hk3⟩
    have K3 := Lib.hid (K2.out.trans0 hk3); clear hk3
    go_wp2
    go_ret
    exact ⟨rfl, K3.out⟩
  · have hzd : decide ((300 : Int) < (s.size : Int)) = true := by simp; omega
    clear hu hx hl hc
    go_enter Try.func3, Try.ntmps3
    go_wp2_with fail
    refine (known_any _).mono ?_
    rintro e W3 ⟨rfl, hk3⟩
    have K3 := Lib.hid hk3; clear hk3
    go_wp2
    go_ret
    exact ⟨rfl, K3.out⟩
end Go.Proofs.Ytodbjehggkdjaaa
