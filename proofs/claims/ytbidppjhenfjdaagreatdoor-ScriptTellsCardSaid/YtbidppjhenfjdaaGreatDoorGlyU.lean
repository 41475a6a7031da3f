/-
  Walks of the reference's Decode, Last.
-/
import Derived.Test.YtbidppjhenfjdaaGreatDoorGlyT
import Derived.Test.YtbidppjhenfjdaaGreatDoorGlyV
namespace Go.Proofs.YtbidppjhenfjdaaGreatDoor
open Go.RowKit
set_option linter.unusedVariables false
set_option linter.unusedSimpArgs false

set_option maxHeartbeats 8000000 in
theorem rdecode_in (s : ByteArray) (i : Nat) (w : World) (hz : s.size ≤ 4611686018427387904) (hi : i < s.size) :
    Calls Tryz.prog 81 #[.string s, .int .i64 i] w fun e w' => e = .returned (decV s i) ∧ Keep [] w w' := by
  have d1 : decide (s.size ≤ i) = false := by simp; omega
  have d0 : decide ((i : Int) < 0) = false := by simp
  by_cases hw : wid s i = 0
  · have hv : decV s i = .tuple #[.int .i32 65533, .int .i64 1, .bool false] := by
      unfold decV isB; simp [dec_of_wid hi hw, hw]
    have HV := Lib.hid hv; clear hv
    have HB := Lib.hid (begV_no hw); clear hw
    go_enter Tryz.func81, Tryz.ntmps81
    go_wp2_with fail
    refine (begins_any s i w hz hi).mono ?_
    rintro r w1 ⟨rfl, hk⟩
    rw [HB.out]
    have HK := Lib.hid hk; clear hk
    go_wp2
    go_ret3
    exact ⟨by rw [HV.out]; rfl, HK.out⟩
  · have hv : decV s i = .tuple #[.int .i32 (dec s i).1, .int .i64 (wid s i), .bool true] := by
      unfold decV isB; rw [wid_snd hw]; simp [hw]
    have HV := Lib.hid hv; clear hv
    have HB := Lib.hid (begV_is (rune_of_wid hi hw))
    have hz0 : ((wid s i : Int) == 0) = false := by simp; omega
    go_enter Tryz.func81, Tryz.ntmps81
    go_wp2_with fail
    refine (begins_any s i w hz hi).mono ?_
    rintro r w1 ⟨rfl, hk⟩
    rw [HB.out]
    have HK := Lib.hid hk; clear hk
    generalize wid s i = n at *
    go_wp2
    go_ret3
    exact ⟨by rw [HV.out]; rfl, HK.out⟩

theorem rdecode_out (s : ByteArray) (i : Int) (w : World) (hz : s.size ≤ 9223372036854775807) (hi : i < 0 ∨ s.size ≤ i) :
    Calls Tryz.prog 81 #[.string s, .int .i64 i] w fun e w' => e = .returned noneV ∧ w = w' := by
  by_cases h0 : i < 0
  · go_enter Tryz.func81, Tryz.ntmps81
    go_wp2
    go_ret3
    exact ⟨rfl, rfl⟩
  · have h1 : (s.size : Int) ≤ i := by omega
    go_enter Tryz.func81, Tryz.ntmps81
    go_wp2
    go_ret3
    exact ⟨rfl, rfl⟩

theorem begV_or (s : ByteArray) (i : Nat) : ∃ r n : Nat, begV s i = .tuple #[.int .i32 r, .int .i64 n] ∧ n = wid s i ∧ (n ≠ 0 → r = (dec s i).1) := by
  by_cases hw : wid s i = 0
  · exact ⟨0, 0, begV_no hw, hw.symm, fun h => absurd rfl h⟩
  · refine ⟨(dec s i).1, wid s i, ?_, rfl, fun _ => rfl⟩
    unfold begV; rw [if_neg hw]

end Go.Proofs.YtbidppjhenfjdaaGreatDoor
