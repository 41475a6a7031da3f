/-
  GlyphDecodes, walked.
-/
import Derived.Test.YtjelbeghojgooaaGlyK
namespace Go.Proofs.Ytjelbeghojgooaa
open Go.RowKit
set_option linter.unusedVariables false
set_option linter.unusedSimpArgs false

/-- What Decode answers at any number. -/
def decG (s : ByteArray) (i : Int) : Value := if 0 ≤ i ∧ i < s.size then decV s i.toNat else noneV
theorem decG_shape (s : ByteArray) (i : Int) : ∃ (r n : Int) (b : Bool), decG s i = .tuple #[.int .i32 r, .int .i64 n, .bool b] := by
  unfold decG; split
  · exact ⟨_, _, _, rfl⟩
  · exact ⟨_, _, _, rfl⟩
theorem decodeG_any (s : ByteArray) (i : Int) (w : World) (hz : s.size ≤ 4611686018427387904) :
    Calls Try.prog 13 #[.string s, .int .i64 i] w fun e w' => e = .returned (decG s i) ∧ w = w' := by
  unfold decG; split
  · rename_i h
    obtain ⟨k, rfl⟩ := Int.eq_ofNat_of_zero_le h.1
    exact decode_in s k w (by omega) (by omega)
  · exact decode_out s i w (by omega) (by omega)
theorem rdecodeG_any (s : ByteArray) (i : Int) (w : World) (hz : s.size ≤ 4611686018427387904) :
    Calls Try.prog 14 #[.string s, .int .i64 i] w fun e w' => e = .returned (decG s i) ∧ Keep [] w w' := by
  unfold decG; split
  · rename_i h
    obtain ⟨k, rfl⟩ := Int.eq_ofNat_of_zero_le h.1
    exact rdecode_in s k w hz (by omega)
  · exact (rdecode_out s i w (by omega) (by omega)).mono fun _ _ ⟨h, hw⟩ => ⟨h, hw ▸ Keep.refl _ _⟩
/-- What Last answers at any number. -/
def lstG (s : ByteArray) (i : Int) : Value := if 1 ≤ i ∧ i ≤ s.size then lstV s i.toNat else noneV
theorem lstG_shape (s : ByteArray) (i : Int) : ∃ (r n : Int) (b : Bool), lstG s i = .tuple #[.int .i32 r, .int .i64 n, .bool b] := by
  unfold lstG; split
  · exact ⟨_, _, _, rfl⟩
  · exact ⟨_, _, _, rfl⟩
theorem lastG_any (s : ByteArray) (i : Int) (w : World) (hz : s.size ≤ 4611686018427387904) :
    Calls Try.prog 15 #[.string s, .int .i64 i] w fun e w' => e = .returned (lstG s i) ∧ w = w' := by
  unfold lstG; split
  · rename_i h
    obtain ⟨k, rfl⟩ := Int.eq_ofNat_of_zero_le (show 0 ≤ i by omega)
    exact last_in s k w (by omega) (by omega) (by omega)
  · exact last_out s i w (by omega) (by omega)
theorem rlastG_any (s : ByteArray) (i : Int) (w : World) (hz : s.size ≤ 4611686018427387904) :
    Calls Try.prog 16 #[.string s, .int .i64 i] w fun e w' => e = .returned (lstG s i) ∧ Keep [] w w' := by
  unfold lstG; split
  · rename_i h
    obtain ⟨k, rfl⟩ := Int.eq_ofNat_of_zero_le (show 0 ≤ i by omega)
    exact rlast_in s k w hz (by omega) (by omega)
  · exact (rlast_out s i w (by omega) (by omega)).mono fun _ _ ⟨h, hw⟩ => ⟨h, hw ▸ Keep.refl _ _⟩

set_option maxRecDepth 100000 in
set_option maxHeartbeats 8000000 in
theorem glyphDecodes_walk (s : ByteArray) (n : Int) (w : World) (hs : s.size ≤ maxLen) (hn : -9223372036854775808 ≤ n ∧ n ≤ 9223372036854775807) :
    Calls Try.prog 3 #[.string s, .int .i64 n] w fun e w' => e = .returned (.bool true) ∧ Keep [] w w' := by
  unfold maxLen at hs
  by_cases hz : s.size ≤ 20000
  · have hzd : decide ((20000 : Int) < (s.size : Int)) = false := by simp; omega
    go_enter Try.func3, Try.ntmps3
    go_wp2
    go_loopw [1, 5] (fun a i wr => ∃ (k : Nat) (at_ : Int), k ≤ 2 ∧ -9223372036854775808 ≤ at_ ∧ at_ ≤ 9223372036854775807 ∧ a = .int .i64 at_ ∧ i = .int .i64 k ∧ Keep [] w wr) (fun _ i _ => 2 - (intOf i).toNat)
    case atStart => exact ⟨0, n, by omega, hn.1, hn.2, rfl, rfl, Keep.refl _ _⟩
    case round =>
      obtain ⟨k, at_, hk, ha1, ha2, rfl, rfl, hkp⟩ := hrel
      have HK := Lib.hid hkp; clear hkp
      by_cases hlt : k < 2
      · have hltd : decide ((k : Int) < 2) = true := by simp; omega
        obtain ⟨r, m, b, hd⟩ := decG_shape s at_
        obtain ⟨r2, m2, b2, hl⟩ := lstG_shape s at_
        have HD := Lib.hid hd; have HL := Lib.hid hl; clear hd hl
        have hr : (r != r) = false := by simp
        have hm : (m != m) = false := by simp
        have hb : (b != b) = false := by simp
        have hr2 : (r2 != r2) = false := by simp
        have hm2 : (m2 != m2) = false := by simp
        have hb2 : (b2 != b2) = false := by simp
        go_wp2_with fail
        refine (decodeG_any s at_ _ (by omega)).mono ?_
        rintro q w1 ⟨rfl, rfl⟩
        rw [HD.out]
        go_wp2_with fail
        refine (rdecodeG_any s at_ _ (by omega)).mono ?_
        rintro q w1 ⟨rfl, hk1⟩
        rw [HD.out]
        have HK1 := Lib.hid (HK.out.trans0 hk1); clear hk1
        go_wp2_with fail
        refine (lastG_any s at_ _ (by omega)).mono ?_
        rintro q w2 ⟨rfl, rfl⟩
        rw [HL.out]
        go_wp2_with fail
        refine (rlastG_any s at_ _ (by omega)).mono ?_
        rintro q w2 ⟨rfl, hk2⟩
        rw [HL.out]
        have HK2 := Lib.hid (HK1.out.trans0 hk2); clear hk2
        by_cases ha : at_ < 1
        · have had : decide (at_ < 1) = true := by simpa using ha
          go_wp2_with fail
          refine (known_true _).mono ?_
          rintro q w3 ⟨rfl, hk3⟩
          have HK3 := Lib.hid (HK2.out.trans0 hk3); clear hk3
          go_wp2
          go_ret
          exact ⟨rfl, HK3.out⟩
        · have had : decide (at_ < 1) = false := by simpa using ha
          go_wp2_with fail
          go_roundw
          case rel => exact ⟨k + 1, at_ - 1, by omega, by omega, by omega, rfl, by go_num, HK2.out⟩
          case measure => simp [intOf]; omega
      · have hltd : decide ((k : Int) < 2) = false := by simp; omega
        go_wp2_with fail
        refine (known_true _).mono ?_
        rintro q w3 ⟨rfl, hk3⟩
        have HK3 := Lib.hid (HK.out.trans0 hk3); clear hk3
        go_wp2
        go_ret
        exact ⟨rfl, HK3.out⟩
  · have hzd : decide ((20000 : Int) < (s.size : Int)) = true := by simp; omega
    go_enter Try.func3, Try.ntmps3
    go_wp2_with fail
    refine (known_true _).mono ?_
    rintro q w3 ⟨rfl, hk3⟩
    have HK3 := Lib.hid hk3; clear hk3
    go_wp2
    go_ret
    exact ⟨rfl, HK3.out⟩
end Go.Proofs.Ytjelbeghojgooaa
