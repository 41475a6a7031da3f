/-
  Walks of width, Decode, Last.
-/
import Derived.Test.YtbidppjhenfjdaaGreatDoorGlyB
namespace Go.Proofs.YtbidppjhenfjdaaGreatDoor
open Go.RowKit
set_option linter.unusedVariables false

set_option maxRecDepth 100000 in
set_option maxHeartbeats 8000000 in
theorem width_any (s : ByteArray) (w : World) (hz : s.size ≤ 9223372036854775807) (hs : 0 < s.size) :
    Calls Tryz.prog 87 #[.string s] w fun e w' => e = .returned (.int .i64 (wid s 0)) ∧ w = w' := by
  have hb0 := byt_at hs
  have hlt := byt_lt s 0
  by_cases c1 : byt s 0 < 128
  · have d1 : decide (byt s 0 < 128) = true := by simpa using c1
    have HW := Lib.hid (wid_ascii s c1)
    go_enter Tryz.func87, Tryz.ntmps87
    go_wp2
    go_ret
    exact ⟨by rw [HW.out]; rfl, rfl⟩
  have d1 : decide (byt s 0 < 128) = false := by simpa using c1
  by_cases c2 : byt s 0 < 194
  · have d2 : decide (byt s 0 < 194) = true := by simpa using c2
    have HW := Lib.hid (wid_bad s c1 (.inl c2))
    go_enter Tryz.func87, Tryz.ntmps87
    go_wp2
    go_ret
    exact ⟨by rw [HW.out]; rfl, rfl⟩
  have d2 : decide (byt s 0 < 194) = false := by simpa using c2
  by_cases c3 : 244 < byt s 0
  · have d3 : decide (244 < byt s 0) = true := by simpa using c3
    have HW := Lib.hid (wid_bad s c1 (.inr c3))
    go_enter Tryz.func87, Tryz.ntmps87
    go_wp2
    go_ret
    exact ⟨by rw [HW.out]; rfl, rfl⟩
  have d3 : decide (244 < byt s 0) = false := by simpa using c3
  by_cases c4 : byt s 0 < 224
  · have d4 : decide (byt s 0 < 224) = true := by simpa using c4
    have hw := wid_row s hs 1 128 191 (by omega)
    have HW := Lib.hid hw; clear hw
    have hsz := size_tail s 1 (by omega)
    go_enter Tryz.func87, Tryz.ntmps87
    go_wp2_with fail
    refine (follows_any (s.extract 1 s.size) 1 128 191 w (by omega) (by decide) (by decide) (by decide) (by decide)).mono ?_
    rintro r w1 ⟨rfl, rfl⟩
    generalize followsB (s.extract 1 s.size) 1 128 191 = f at *
    cases f
    · go_wp2
      go_ret
      exact ⟨by rw [HW.out]; rfl, rfl⟩
    · go_wp2
      go_ret
      exact ⟨by rw [HW.out]; rfl, rfl⟩
  have d4 : decide (byt s 0 < 224) = false := by simpa using c4
  by_cases c5 : byt s 0 = 224
  · have d5 : (byt s 0 == 224) = true := by simpa using c5
    have hw := wid_row s hs 2 160 191 (by omega)
    have HW := Lib.hid hw; clear hw
    have hsz := size_tail s 1 (by omega)
    go_enter Tryz.func87, Tryz.ntmps87
    go_wp2_with fail
    refine (follows_any (s.extract 1 s.size) 2 160 191 w (by omega) (by decide) (by decide) (by decide) (by decide)).mono ?_
    rintro r w1 ⟨rfl, rfl⟩
    generalize followsB (s.extract 1 s.size) 2 160 191 = f at *
    cases f
    · go_wp2
      go_ret
      exact ⟨by rw [HW.out]; rfl, rfl⟩
    · go_wp2
      go_ret
      exact ⟨by rw [HW.out]; rfl, rfl⟩
  have d5 : (byt s 0 == 224) = false := by simpa using c5
  by_cases c6 : byt s 0 = 237
  · have d6 : (byt s 0 == 237) = true := by simpa using c6
    have hw := wid_row s hs 2 128 159 (by omega)
    have HW := Lib.hid hw; clear hw
    have hsz := size_tail s 1 (by omega)
    go_enter Tryz.func87, Tryz.ntmps87
    go_wp2_with fail
    refine (follows_any (s.extract 1 s.size) 2 128 159 w (by omega) (by decide) (by decide) (by decide) (by decide)).mono ?_
    rintro r w1 ⟨rfl, rfl⟩
    generalize followsB (s.extract 1 s.size) 2 128 159 = f at *
    cases f
    · go_wp2
      go_ret
      exact ⟨by rw [HW.out]; rfl, rfl⟩
    · go_wp2
      go_ret
      exact ⟨by rw [HW.out]; rfl, rfl⟩
  have d6 : (byt s 0 == 237) = false := by simpa using c6
  by_cases c7 : byt s 0 < 240
  · have d7 : decide (byt s 0 < 240) = true := by simpa using c7
    have hw := wid_row s hs 2 128 191 (by omega)
    have HW := Lib.hid hw; clear hw
    have hsz := size_tail s 1 (by omega)
    go_enter Tryz.func87, Tryz.ntmps87
    go_wp2_with fail
    refine (follows_any (s.extract 1 s.size) 2 128 191 w (by omega) (by decide) (by decide) (by decide) (by decide)).mono ?_
    rintro r w1 ⟨rfl, rfl⟩
    generalize followsB (s.extract 1 s.size) 2 128 191 = f at *
    cases f
    · go_wp2
      go_ret
      exact ⟨by rw [HW.out]; rfl, rfl⟩
    · go_wp2
      go_ret
      exact ⟨by rw [HW.out]; rfl, rfl⟩
  have d7 : decide (byt s 0 < 240) = false := by simpa using c7
  by_cases c8 : byt s 0 = 240
  · have d8 : (byt s 0 == 240) = true := by simpa using c8
    have hw := wid_row s hs 3 144 191 (by omega)
    have HW := Lib.hid hw; clear hw
    have hsz := size_tail s 1 (by omega)
    go_enter Tryz.func87, Tryz.ntmps87
    go_wp2_with fail
    refine (follows_any (s.extract 1 s.size) 3 144 191 w (by omega) (by decide) (by decide) (by decide) (by decide)).mono ?_
    rintro r w1 ⟨rfl, rfl⟩
    generalize followsB (s.extract 1 s.size) 3 144 191 = f at *
    cases f
    · go_wp2
      go_ret
      exact ⟨by rw [HW.out]; rfl, rfl⟩
    · go_wp2
      go_ret
      exact ⟨by rw [HW.out]; rfl, rfl⟩
  have d8 : (byt s 0 == 240) = false := by simpa using c8
  by_cases c9 : byt s 0 = 244
  · have d9 : (byt s 0 == 244) = true := by simpa using c9
    have hw := wid_row s hs 3 128 143 (by omega)
    have HW := Lib.hid hw; clear hw
    have hsz := size_tail s 1 (by omega)
    go_enter Tryz.func87, Tryz.ntmps87
    go_wp2_with fail
    refine (follows_any (s.extract 1 s.size) 3 128 143 w (by omega) (by decide) (by decide) (by decide) (by decide)).mono ?_
    rintro r w1 ⟨rfl, rfl⟩
    generalize followsB (s.extract 1 s.size) 3 128 143 = f at *
    cases f
    · go_wp2
      go_ret
      exact ⟨by rw [HW.out]; rfl, rfl⟩
    · go_wp2
      go_ret
      exact ⟨by rw [HW.out]; rfl, rfl⟩
  have d9 : (byt s 0 == 244) = false := by simpa using c9
  have hw := wid_row s hs 3 128 191 (by omega)
  have HW := Lib.hid hw; clear hw
  have hsz := size_tail s 1 (by omega)
  go_enter Tryz.func87, Tryz.ntmps87
  go_wp2_with fail
  refine (follows_any (s.extract 1 s.size) 3 128 191 w (by omega) (by decide) (by decide) (by decide) (by decide)).mono ?_
  rintro r w1 ⟨rfl, rfl⟩
  generalize followsB (s.extract 1 s.size) 3 128 191 = f at *
  cases f
  · go_wp2
    go_ret
    exact ⟨by rw [HW.out]; rfl, rfl⟩
  · go_wp2
    go_ret
    exact ⟨by rw [HW.out]; rfl, rfl⟩
end Go.Proofs.YtbidppjhenfjdaaGreatDoor
