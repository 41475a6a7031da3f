/-
  GlyphCuts, walked.
-/
import Derived.Test.YtjelbeghojgooaaGlyK
namespace Go.Proofs.Ytjelbeghojgooaa
open Go.RowKit
set_option linter.unusedVariables false
set_option linter.unusedSimpArgs false

set_option maxRecDepth 100000 in
set_option maxHeartbeats 8000000 in
theorem glyphCuts_walk (s : ByteArray) (n : Int) (w : World) (hs : s.size ≤ maxLen) (hn : -9223372036854775808 ≤ n ∧ n ≤ 9223372036854775807) :
    Calls Try.prog 4 #[.string s, .int .i64 n] w fun e w' => e = .returned (.bool true) ∧ Keep [] w w' := by
  unfold maxLen at hs
  by_cases hz : s.size ≤ 20000
  · have hzd : decide ((20000 : Int) < (s.size : Int)) = false := by simp; omega
    have hcl := cut_len_le s 0 (Nat.zero_le _)
    obtain ⟨A, B, hc⟩ : ∃ A B, cutV s n = .tuple #[.string A, .string B] := ⟨_, _, rfl⟩
    have HC := Lib.hid hc; clear hc
    have HRL : Hid ((runs s 0).length = (cut s 0).length) := by show _ = _; simp [runs]
    go_enter Try.func4, Try.ntmps4
    go_wp2_with fail
    refine (cut_any s n _ (by omega) hn.1 hn.2).mono ?_
    rintro q w1 ⟨rfl, hk⟩
    rw [HC.out]
    have HK1 := Lib.hid hk; clear hk
    go_wp2_with fail
    refine (rcut_any s n _ (by omega)).mono ?_
    rintro q w2 ⟨rfl, hk⟩
    rw [HC.out]
    have HK2 := Lib.hid (HK1.out.trans0 hk); clear hk HK1
    go_wp2_with fail
    refine (badAt_any s _ (by omega)).mono ?_
    rintro q w3 ⟨rfl, hk⟩
    have HK3 := Lib.hid (HK2.out.trans0 hk); clear hk HK2
    go_wp2_with fail
    refine (rbadAt_any s _ (by omega)).mono ?_
    rintro q w4 ⟨rfl, hk⟩
    have HK4 := Lib.hid (HK3.out.trans0 hk); clear hk HK3
    generalize badAt s = ba at *
    have hba : (ba != ba) = false := by simp
    go_wp2_with fail
    refine (count_any s _ (by omega)).mono ?_
    rintro q w5 ⟨rfl, hk⟩
    have HK5 := Lib.hid (HK4.out.trans0 hk); clear hk HK4
    go_wp2_with fail
    refine (rcount_any s _ (by omega)).mono ?_
    rintro q w6 ⟨rfl, hk⟩
    have HK6 := Lib.hid (HK5.out.trans0 hk); clear hk HK5
    generalize (cut s 0).length = cc at *
    have hcc : (cc != cc) = false := by simp
    have hccz : ((cc : Int) != (cc : Int)) = false := by simp
    go_wp2_with fail
    refine (mend_any s _ (by omega)).mono ?_
    rintro q w7 ⟨rfl, hk⟩
    have HK7 := Lib.hid (HK6.out.trans0 hk); clear hk HK6
    go_wp2_with fail
    refine (rmend_any s _ (by omega)).mono ?_
    rintro q w8 ⟨rfl, hk⟩
    have HK8 := Lib.hid (HK7.out.trans0 hk); clear hk HK7
    generalize mend s = M at *
    go_wp2_with fail
    refine (runes_any s _ (by omega)).mono ?_
    intro r w9 hp
    obtain ⟨rfl, hs9, hk⟩ := hp.sl
    have HK9 := Lib.hid (HK8.out.trans0 hk); have HS9 := Lib.hid hs9; clear hk HK8 hs9 hp
    go_wp2_with fail
    refine (rrunes_any s _ (by omega)).mono ?_
    rintro r w10 ⟨v, rfl, ho, hk, _⟩
    have HK10 := Lib.hid (HK9.out.trans0 hk); have HS10 := Lib.hid (HS9.out.keep0 hk); have HV := Lib.hid (SlAt.of_owns ho); clear hk HK9 HS9 ho
    go_wp2_with fail
    refine (runes_true _ v _ _ HS10.out HV.out (by have := HRL.out; omega)).mono ?_
    rintro r w11 ⟨rfl, hk⟩
    have HK11 := Lib.hid (HK10.out.trans0 hk); clear hk HK10
    go_wp2_with fail
    refine (known_true _).mono ?_
    rintro q w12 ⟨rfl, hk⟩
    have HK12 := Lib.hid (HK11.out.trans0 hk); clear hk HK11
    go_wp2
    go_ret
    exact ⟨rfl, HK12.out⟩
  · have hzd : decide ((20000 : Int) < (s.size : Int)) = true := by simp; omega
    go_enter Try.func4, Try.ntmps4
    go_wp2_with fail
    refine (known_true _).mono ?_
    rintro q w3 ⟨rfl, hk3⟩
    have HK3 := Lib.hid hk3; clear hk3
    go_wp2
    go_ret
    exact ⟨rfl, HK3.out⟩
end Go.Proofs.Ytjelbeghojgooaa
