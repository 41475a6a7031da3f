/-
  Walks of Decode, Last.
-/
import Derived.Test.YthbcancckogloaaGlyD
import Derived.Test.YthbcancckogloaaGlyV
namespace Go.Proofs.Ythbcancckogloaa
open Go.RowKit
set_option linter.unusedVariables false
set_option linter.unusedSimpArgs false

set_option maxHeartbeats 1000000 in
theorem decode_in (s : ByteArray) (i : Nat) (w : World) (hz : s.size ≤ 9223372036854775807) (hi : i < s.size) :
    Calls Try.prog 43 #[.string s, .int .i64 i] w fun e w' => e = .returned (decV s i) ∧ w = w' := by
  have d1 : decide (s.size ≤ i) = false := by simp; omega
  have d0 : decide ((i : Int) < 0) = false := by simp
  have ht := size_tail s i (by omega)
  by_cases hw : wid s i = 0
  · have hv : decV s i = .tuple #[.int .i32 65533, .int .i64 1, .bool false] := by
      unfold decV isB; simp [dec_of_wid hi hw, hw]
    have HV := Lib.hid hv; clear hv
    have HW := Lib.hid hw; clear hw
    go_enter Try.func43, Try.ntmps43
    go_wp2_with fail
    refine (width_any (s.extract i s.size) w (by omega) (by omega)).mono ?_
    rintro r w1 ⟨rfl, rfl⟩
    rw [wid_tail s i (by omega), HW.out]
    go_wp2
    go_ret3
    exact ⟨by rw [HV.out]; rfl, rfl⟩
  · have hr := rune_of_wid hi hw
    have hn := hr.n4
    have HR := Lib.hid hr.cutout
    have hv : decV s i = .tuple #[.int .i32 (dec s i).1, .int .i64 (wid s i), .bool true] := by
      unfold decV isB; rw [wid_snd hw]; simp [hw]
    have HV := Lib.hid hv; clear hv
    have HW := Lib.hid (wid_tail s i (by omega)); clear hr
    have hz0 : ((wid s i : Int) == 0) = false := by simp; omega
    go_enter Try.func43, Try.ntmps43
    go_wp2_with fail
    refine (width_any (s.extract i s.size) w (by omega) (by omega)).mono ?_
    rintro r w1 ⟨rfl, rfl⟩
    rw [HW.out]
    generalize wid s i = n at *
    go_wp2_with fail
    refine (number_any (s.extract i (i + n)) _ w HR.out).mono ?_
    rintro r w1 ⟨rfl, rfl⟩
    go_wp2
    go_ret3
    exact ⟨by rw [HV.out]; rfl, rfl⟩

theorem decode_out (s : ByteArray) (i : Int) (w : World) (hz : s.size ≤ 9223372036854775807) (hi : i < 0 ∨ s.size ≤ i) :
    Calls Try.prog 43 #[.string s, .int .i64 i] w fun e w' => e = .returned noneV ∧ w = w' := by
  by_cases h0 : i < 0
  · go_enter Try.func43, Try.ntmps43
    go_wp2
    go_ret3
    exact ⟨rfl, rfl⟩
  · have h1 : (s.size : Int) ≤ i := by omega
    go_enter Try.func43, Try.ntmps43
    go_wp2
    go_ret3
    exact ⟨rfl, rfl⟩

set_option maxHeartbeats 8000000 in
theorem last_in (s : ByteArray) (e : Nat) (w : World) (hz : s.size ≤ 9223372036854775807) (h1 : 1 ≤ e) (he : e ≤ s.size) :
    Calls Try.prog 44 #[.string s, .int .i64 e] w fun r w' => r = .returned (lstV s e) ∧ w = w' := by
  have d1 : decide (s.size < e) = false := by simp; omega
  have d0 : decide ((e : Int) < 1) = false := by simp; omega
  go_enter Try.func44, Try.ntmps44
  go_wp2
  all_goals
    go_loopw [7, 19] (fun _ i wr => ∃ k : Nat, k ≤ 4 ∧ k ≤ e ∧ i = .int .i64 k ∧ wr = w ∧ ∀ n, 1 ≤ n → n ≤ k → wid s (e - n) ≠ n) (fun _ i _ => 4 - (intOf i).toNat)
    case atStart => exact ⟨0, by omega, by omega, rfl, rfl, fun n h h' => by omega⟩
    case round =>
      obtain ⟨k, hk4, hke, rfl, rfl, hno⟩ := hrel
      have HN := Lib.hid hno; clear hno
      by_cases hlt : k < 4 ∧ k < e
      · obtain ⟨hl4, hle⟩ := hlt
        have ek : e - k - 1 = e - (k + 1) := by omega
        have EK := Lib.hid ek; clear ek
        have hsub : ((e : Int) - (k : Int) - 1).toNat = e - (k + 1) := by omega
        have ht := size_tail s (e - (k + 1)) (by omega)
        by_cases hw : wid s (e - (k + 1)) = k + 1
        · have hr := rune_of_wid (s := s) (i := e - (k + 1)) (by omega) (by omega)
          rw [hw] at hr
          have hcut := hr.cutout
          rw [show e - (k + 1) + (k + 1) = e by omega] at hcut
          have HC := Lib.hid hcut; clear hcut hr
          have HV := Lib.hid (lstV_is he (by omega) (by omega) hw)
          have HW := Lib.hid ((wid_tail s (e - (k + 1)) (by omega)).trans hw); clear hw
          go_wp2_with fail
          (with_reducible refine (width_any (s.extract (e - (k + 1)) s.size) _ (by omega) (by omega)).mono ?_)
          rintro r w1 ⟨rfl, rfl⟩
          rw [HW.out]
          go_wp2_with fail
          (with_reducible refine (number_any (s.extract (e - (k + 1)) e) _ _ HC.out).mono ?_)
          rintro r w1 ⟨rfl, rfl⟩
          go_wp2
          go_ret3
          exact ⟨by rw [HV.out]; rfl, rfl⟩
        · have hww := wid_tail s (e - (k + 1)) (by omega)
          have hwf : ((wid s (e - (k + 1)) : Int) == (k : Int) + 1) = false := by simp; omega
          have HH := Lib.hid hw; clear hw
          have HW := Lib.hid hww; clear hww
          have HF := Lib.hid hwf; clear hwf
          go_wp2_with fail
          (with_reducible refine (width_any (s.extract (e - (k + 1)) s.size) _ (by omega) (by omega)).mono ?_)
          rintro r w1 ⟨rfl, rfl⟩
          rw [HW.out]
          have hwf := HF.out
          obtain ⟨m, hm⟩ : ∃ m, m = wid s (e - (k + 1)) := ⟨_, rfl⟩
          rw [← hm] at hwf ⊢
          clear hm
          go_wp2
          go_roundw
          case rel => exact ⟨k + 1, by omega, by omega, by go_num, by trivial, fun n h1 h2 => by
            by_cases en : n = k + 1
            · subst en; exact HH.out
            · exact HN.out n h1 (by omega)⟩
          case measure => simp [intOf]; omega
      · have HV := Lib.hid (lstV_none (s := s) (e := e) (fun n h1 h2 h3 => HN.out n h1 (by omega)))
        go_wp2
        go_ret3
        exact ⟨by rw [HV.out]; rfl, rfl⟩

theorem last_out (s : ByteArray) (i : Int) (w : World) (hz : s.size ≤ 9223372036854775807) (hi : i < 1 ∨ s.size < i) :
    Calls Try.prog 44 #[.string s, .int .i64 i] w fun e w' => e = .returned noneV ∧ w = w' := by
  by_cases h0 : i < 1
  · go_enter Try.func44, Try.ntmps44
    go_wp2
    go_ret3
    exact ⟨rfl, rfl⟩
  · have h1 : (s.size : Int) < i := by omega
    go_enter Try.func44, Try.ntmps44
    go_wp2
    go_ret3
    exact ⟨rfl, rfl⟩
end Go.Proofs.Ythbcancckogloaa
