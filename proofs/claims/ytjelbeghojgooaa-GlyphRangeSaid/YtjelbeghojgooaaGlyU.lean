/-
  Walks of the reference's Decode, Last.
-/
import Derived.Test.YtjelbeghojgooaaGlyT
import Derived.Test.YtjelbeghojgooaaGlyV
namespace Go.Proofs.Ytjelbeghojgooaa
open Go.RowKit
set_option linter.unusedVariables false
set_option linter.unusedSimpArgs false

set_option maxHeartbeats 8000000 in
theorem rdecode_in (s : ByteArray) (i : Nat) (w : World) (hz : s.size ≤ 4611686018427387904) (hi : i < s.size) :
    Calls Try.prog 14 #[.string s, .int .i64 i] w fun e w' => e = .returned (decV s i) ∧ Keep [] w w' := by
  have d1 : decide (s.size ≤ i) = false := by simp; omega
  have d0 : decide ((i : Int) < 0) = false := by simp
  by_cases hw : wid s i = 0
  · have hv : decV s i = .tuple #[.int .i32 65533, .int .i64 1, .bool false] := by
      unfold decV isB; simp [dec_of_wid hi hw, hw]
    have HV := Lib.hid hv; clear hv
    have HB := Lib.hid (begV_no hw); clear hw
    go_enter Try.func14, Try.ntmps14
    go_wp2_with fail
    refine (begins_any s i w hz hi).mono ?_
    rintro r w1 ⟨rfl, hk⟩
    rw [HB.out]
    have HK := Lib.hid hk; clear hk
    go_wp2
    go_ret3
    exact ⟨by rw [HV.out]; rfl, HK.out⟩
  · have hv : decV s i = .tuple #[.int .i32 (dec s i).1, .int .i64 (wid s i), .bool true] := by
      unfold decV isB; rw [wid_snd hw]; simp [hw]
    have HV := Lib.hid hv; clear hv
    have HB := Lib.hid (begV_is (rune_of_wid hi hw))
    have hz0 : ((wid s i : Int) == 0) = false := by simp; omega
    go_enter Try.func14, Try.ntmps14
    go_wp2_with fail
    refine (begins_any s i w hz hi).mono ?_
    rintro r w1 ⟨rfl, hk⟩
    rw [HB.out]
    have HK := Lib.hid hk; clear hk
    generalize wid s i = n at *
    go_wp2
    go_ret3
    exact ⟨by rw [HV.out]; rfl, HK.out⟩

theorem rdecode_out (s : ByteArray) (i : Int) (w : World) (hz : s.size ≤ 9223372036854775807) (hi : i < 0 ∨ s.size ≤ i) :
    Calls Try.prog 14 #[.string s, .int .i64 i] w fun e w' => e = .returned noneV ∧ w = w' := by
  by_cases h0 : i < 0
  · go_enter Try.func14, Try.ntmps14
    go_wp2
    go_ret3
    exact ⟨rfl, rfl⟩
  · have h1 : (s.size : Int) ≤ i := by omega
    go_enter Try.func14, Try.ntmps14
    go_wp2
    go_ret3
    exact ⟨rfl, rfl⟩

theorem begV_or (s : ByteArray) (i : Nat) : ∃ r n : Nat, begV s i = .tuple #[.int .i32 r, .int .i64 n] ∧ n = wid s i ∧ (n ≠ 0 → r = (dec s i).1) := by
  by_cases hw : wid s i = 0
  · exact ⟨0, 0, begV_no hw, hw.symm, fun h => absurd rfl h⟩
  · refine ⟨(dec s i).1, wid s i, ?_, rfl, fun _ => rfl⟩
    unfold begV; rw [if_neg hw]

set_option maxHeartbeats 8000000 in
theorem rlast_in (s : ByteArray) (e : Nat) (w : World) (hz : s.size ≤ 4611686018427387904) (h1 : 1 ≤ e) (he : e ≤ s.size) :
    Calls Try.prog 16 #[.string s, .int .i64 e] w fun r w' => r = .returned (lstV s e) ∧ Keep [] w w' := by
  have d1 : decide (s.size < e) = false := by simp; omega
  have d0 : decide ((e : Int) < 1) = false := by simp; omega
  go_enter Try.func16, Try.ntmps16
  go_wp2
  go_loopw [7] (fun i wr => ∃ k : Nat, 1 ≤ k ∧ k ≤ 5 ∧ k ≤ e + 1 ∧ i = .int .i64 k ∧ Keep [] w wr ∧ ∀ n, 1 ≤ n → n < k → wid s (e - n) ≠ n) (fun i _ => 5 - (intOf i).toNat)
  case atStart => exact ⟨1, by omega, by omega, by omega, rfl, Keep.refl _ _, fun n h h' => by omega⟩
  case round =>
    obtain ⟨k, hk1, hk5, hke, rfl, hkp, hno⟩ := hrel
    have HN := Lib.hid hno; clear hno
    have HK := Lib.hid hkp; clear hkp
    by_cases hlt : k ≤ 4 ∧ k ≤ e
    · obtain ⟨hl4, hle⟩ := hlt
      have hsub : ((e : Int) - (k : Int)) = ((e - k : Nat) : Int) := by omega
      have hl4' : decide ((k : Int) ≤ 4) = true := by simp; omega
      have hle' : decide (k ≤ e) = true := by simp; omega
      have HS := Lib.hid hsub; clear hsub
      go_wp2_with fail
      rw [HS.out]
      obtain ⟨r, n, hb, hn, hr⟩ := begV_or s (e - k)
      have HB := Lib.hid hb; have HR := Lib.hid hr; have HNN := Lib.hid hn; clear hb hr hn
      refine (begins_any s (e - k) _ hz (by omega)).mono ?_
      rintro r1 w1 ⟨rfl, hk1'⟩
      rw [HB.out]
      have HK1 := Lib.hid (HK.out.trans0 hk1'); clear hk1'
      by_cases hnk : n = k
      · subst hnk
        have HV := Lib.hid (lstV_is he (by omega) hle HNN.out.symm)
        have HR2 := Lib.hid (HR.out (by omega))
        go_wp2
        go_ret3
        exact ⟨by rw [HV.out, ← HR2.out]; rfl, HK1.out⟩
      · have hnf : (n == k) = false := by simpa using hnk
        have hnf2 : ((n : Int) == (k : Int)) = false := by simp; omega
        have HH := Lib.hid hnk; clear hnk
        go_wp2
        go_roundw
        case rel => exact ⟨k + 1, by omega, by omega, by omega, by go_num, HK1.out, fun m h1 h2 => by
          by_cases em : m = k
          · subst em; rw [← HNN.out]; exact HH.out
          · exact HN.out m h1 (by omega)⟩
        case measure => simp [intOf]; omega
    · have HV := Lib.hid (lstV_none (s := s) (e := e) (fun n h1 h2 h3 => HN.out n h1 (by omega)))
      by_cases hl4 : k ≤ 4
      · have hl4' : decide ((k : Int) ≤ 4) = true := by simp; omega
        have hle' : decide (k ≤ e) = false := by simp; omega
        go_wp2
        go_ret3
        exact ⟨by rw [HV.out]; rfl, HK.out⟩
      · have hl4' : decide ((k : Int) ≤ 4) = false := by simp; omega
        go_wp2
        go_ret3
        exact ⟨by rw [HV.out]; rfl, HK.out⟩

theorem rlast_out (s : ByteArray) (i : Int) (w : World) (hz : s.size ≤ 9223372036854775807) (hi : i < 1 ∨ s.size < i) :
    Calls Try.prog 16 #[.string s, .int .i64 i] w fun e w' => e = .returned noneV ∧ w = w' := by
  by_cases h0 : i < 1
  · go_enter Try.func16, Try.ntmps16
    go_wp2
    go_ret3
    exact ⟨rfl, rfl⟩
  · have h1 : (s.size : Int) < i := by omega
    go_enter Try.func16, Try.ntmps16
    go_wp2
    go_ret3
    exact ⟨rfl, rfl⟩
end Go.Proofs.Ytjelbeghojgooaa
