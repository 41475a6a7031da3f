/-
  Walks of Decode, Last.
-/
import Derived.Test.YtbidppjhenfjdaaGreatDoorGlyD
import Derived.Test.YtbidppjhenfjdaaGreatDoorGlyV
namespace Go.Proofs.YtbidppjhenfjdaaGreatDoor
open Go.RowKit
set_option linter.unusedVariables false
set_option linter.unusedSimpArgs false

set_option maxHeartbeats 1000000 in
theorem decode_in (s : ByteArray) (i : Nat) (w : World) (hz : s.size ≤ 9223372036854775807) (hi : i < s.size) :
    Calls Tryz.prog 59 #[.string s, .int .i64 i] w fun e w' => e = .returned (decV s i) ∧ w = w' := by
  have d1 : decide (s.size ≤ i) = false := by simp; omega
  have d0 : decide ((i : Int) < 0) = false := by simp
  have ht := size_tail s i (by omega)
  by_cases hw : wid s i = 0
  · have hv : decV s i = .tuple #[.int .i32 65533, .int .i64 1, .bool false] := by
      unfold decV isB; simp [dec_of_wid hi hw, hw]
    have HV := Lib.hid hv; clear hv
    have HW := Lib.hid hw; clear hw
    go_enter Tryz.func59, Tryz.ntmps59
    go_wp2_with fail
    refine (width_any (s.extract i s.size) w (by omega) (by omega)).mono ?_
    rintro r w1 ⟨rfl, rfl⟩
    rw [wid_tail s i (by omega), HW.out]
    go_wp2
    go_ret3
    exact ⟨by rw [HV.out]; rfl, rfl⟩
  · have hr := rune_of_wid hi hw
    have hn := hr.n4
    have HR := Lib.hid hr.cutout
    have hv : decV s i = .tuple #[.int .i32 (dec s i).1, .int .i64 (wid s i), .bool true] := by
      unfold decV isB; rw [wid_snd hw]; simp [hw]
    have HV := Lib.hid hv; clear hv
    have HW := Lib.hid (wid_tail s i (by omega)); clear hr
    have hz0 : ((wid s i : Int) == 0) = false := by simp; omega
    go_enter Tryz.func59, Tryz.ntmps59
    go_wp2_with fail
    refine (width_any (s.extract i s.size) w (by omega) (by omega)).mono ?_
    rintro r w1 ⟨rfl, rfl⟩
    rw [HW.out]
    generalize wid s i = n at *
    go_wp2_with fail
    refine (number_any (s.extract i (i + n)) _ w HR.out).mono ?_
    rintro r w1 ⟨rfl, rfl⟩
    go_wp2
    go_ret3
    exact ⟨by rw [HV.out]; rfl, rfl⟩

theorem decode_out (s : ByteArray) (i : Int) (w : World) (hz : s.size ≤ 9223372036854775807) (hi : i < 0 ∨ s.size ≤ i) :
    Calls Tryz.prog 59 #[.string s, .int .i64 i] w fun e w' => e = .returned noneV ∧ w = w' := by
  by_cases h0 : i < 0
  · go_enter Tryz.func59, Tryz.ntmps59
    go_wp2
    go_ret3
    exact ⟨rfl, rfl⟩
  · have h1 : (s.size : Int) ≤ i := by omega
    go_enter Tryz.func59, Tryz.ntmps59
    go_wp2
    go_ret3
    exact ⟨rfl, rfl⟩

end Go.Proofs.YtbidppjhenfjdaaGreatDoor
