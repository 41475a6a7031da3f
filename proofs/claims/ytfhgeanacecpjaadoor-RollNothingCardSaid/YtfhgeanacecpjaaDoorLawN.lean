/-
  RollNothing, walked.
-/
import Derived.Test.YtfhgeanacecpjaaDoorLawC
namespace Go.Proofs.YtfhgeanacecpjaaDoor
open Go.RowKit Go.Shelf
set_option linter.unusedVariables false

set_option maxHeartbeats 1000000 in
theorem rollNothing_walk (n : Int) (w : World) (hT : TabW w) : Calls Tryd.prog 8 #[.int .i64 n] w fun e w' => e = .returned (.bool true) ∧ Keep [] w w' := by
  have HT := Lib.hid hT; clear hT
  go_enter Tryd.func8, Tryd.ntmps8
  go_wp2_with fail
  refine (nil_join n w).mono ?_
  rintro r w1 ⟨rfl, rfl⟩
  go_wp2_with fail
  refine (nil_leave n w).mono ?_
  rintro r w1 ⟨rfl, rfl⟩
  go_wp2_with fail
  refine (nil_has n w).mono ?_
  rintro r w1 ⟨rfl, hd⟩
  have D1 := Lib.hid (show Drawn w w1 from hd); clear hd
  go_wp2_with fail
  refine (nil_known n w1).mono ?_
  rintro r w2 ⟨rfl, hd⟩
  have D2 := Lib.hid (D1.out.trans hd); clear hd
  go_wp2_with fail
  refine (nil_members w2).mono ?_
  rintro r w3 ⟨rfl, rfl⟩
  go_wp2_with fail
  refine (nil_joined w2).mono ?_
  rintro r w3 ⟨rfl, rfl⟩
  go_wp2_with fail
  refine (nil_left w2).mono ?_
  rintro r w3 ⟨rfl, rfl⟩
  go_wp2_with fail
  refine (nil_epoch w2).mono ?_
  rintro r w3 ⟨rfl, rfl⟩
  go_wp2_with fail
  refine (known_true w2 (HT.out.keep D2.out.keep (by simp))).mono ?_
  rintro r w3 ⟨rfl, hk⟩
  go_wp2
  go_ret
  exact ⟨rfl, D2.out.keep.trans0 hk⟩
end Go.Proofs.YtfhgeanacecpjaaDoor
