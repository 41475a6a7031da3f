/-
  Walks of Decode, Last.
-/
import Derived.Test.YtodbjehggkdjaaaGlyC
import Derived.Test.YtodbjehggkdjaaaMA
namespace Go.Proofs.Ytodbjehggkdjaaa
open Go.RowKit
set_option linter.unusedVariables false
set_option linter.unusedSimpArgs false

def m0 (s : ByteArray) : Nat := if 1 < s.size then byt s 0 % (128 / 2 ^ s.size) else byt s 0
def numK (s : ByteArray) : Nat → Nat
  | 0 => m0 s
  | k + 1 => numK s k * 64 + byt s (k + 1) % 64
theorem numK_bound (s : ByteArray) (k : Nat) (hk : k ≤ 2) : numK s k < 2097152 := by
  have h0 : m0 s < 256 := by
    unfold m0
    have := byt_lt s 0
    split
    · have := Nat.mod_le (byt s 0) (128 / 2 ^ s.size); omega
    · omega
  have : k = 0 ∨ k = 1 ∨ k = 2 := by omega
  rcases this with rfl | rfl | rfl <;> simp only [numK] <;> omega
theorem and_m0 (s : ByteArray) (h1 : 1 < s.size) (h4 : s.size ≤ 4) : bits BinOp.and .i32 (byt s 0 : Int) (127 / 2 ^ s.size) = (m0 s : Int) := by
  have hb := byt_lt s 0
  unfold m0
  rw [if_pos h1]
  have : s.size = 2 ∨ s.size = 3 ∨ s.size = 4 := by omega
  rcases this with h | h | h <;> rw [h]
  · exact (by decide +kernel : ∀ y : Fin 256, bits BinOp.and .i32 (y.1 : Int) (127 / 2 ^ 2) = ((y.1 % (128 / 2 ^ 2) : Nat) : Int)) ⟨_, hb⟩
  · exact (by decide +kernel : ∀ y : Fin 256, bits BinOp.and .i32 (y.1 : Int) (127 / 2 ^ 3) = ((y.1 % (128 / 2 ^ 3) : Nat) : Int)) ⟨_, hb⟩
  · exact (by decide +kernel : ∀ y : Fin 256, bits BinOp.and .i32 (y.1 : Int) (127 / 2 ^ 4) = ((y.1 % (128 / 2 ^ 4) : Nat) : Int)) ⟨_, hb⟩
theorem numK_rune {s : ByteArray} {r : Nat} (h : RuneAt s 0 r s.size) : numK s (s.size - 1) = r := by
  have b0 := byt_lt s 0
  obtain ⟨hs, h⟩ := h
  rcases h with ⟨h0, h1, h2⟩ | ⟨h0, h1, h2, h3, h4⟩ | ⟨h0, h1, h2, h3, h4, h5, h6, h7⟩ | ⟨h0, h1, h2, h3, h4, h5, h6, h7, h8⟩
  · rw [h0]; show m0 s = r; unfold m0; rw [h0, if_neg (by decide)]; omega
  · rw [h0]; show m0 s * 64 + byt s (0 + 1) % 64 = r; unfold m0; rw [h0, if_pos (by decide)]; omega
  · rw [h0]; show (m0 s * 64 + byt s (0 + 1) % 64) * 64 + byt s (0 + 2) % 64 = r; unfold m0; rw [h0, if_pos (by decide)]; omega
  · rw [h0]; show ((m0 s * 64 + byt s (0 + 1) % 64) * 64 + byt s (0 + 2) % 64) * 64 + byt s (0 + 3) % 64 = r; unfold m0; rw [h0, if_pos (by decide)]; omega

set_option maxHeartbeats 1000000 in
theorem number_any (s : ByteArray) (r : Nat) (w : World) (h : RuneAt s 0 r s.size) :
    Calls Try.prog 38 #[.string s] w fun e w' => e = .returned (.int .i32 r) ∧ w = w' := by
  have h4 := h.n4
  have hs0 : 0 < s.size := by omega
  have hb0 := byt_at hs0
  have hlt := byt_lt s 0
  have HR := Lib.hid (numK_rune h)
  clear h
  by_cases h1 : s.size = 1
  · have d1 : decide ((1 : Int) < (s.size : Int)) = false := by simp; omega
    have hm : m0 s = byt s 0 := by unfold m0; rw [if_neg (by omega)]
    have HM := Lib.hid hm; clear hm
    go_enter Try.func38, Try.ntmps38
    go_wp2
    go_loopw [3, 4] (fun r i wr => i = .int .i64 1 ∧ r = .int .i32 (byt s 0) ∧ wr = w) (fun _ i _ => s.size - (intOf i).toNat)
    case atStart => exact ⟨rfl, rfl, rfl⟩
    case round =>
      obtain ⟨rfl, rfl, rfl⟩ := hrel
      have hltd : decide ((1 : Int) < (s.size : Int)) = false := by simp; omega
      go_wp2
      go_ret
      have := HR.out
      rw [h1] at this
      change m0 s = r at this
      exact ⟨by rw [← this, HM.out]; rfl, rfl⟩
  · have d1 : decide ((1 : Int) < (s.size : Int)) = true := by simp; omega
    have hm := and_m0 s (by omega) (by omega)
    go_enter Try.func38, Try.ntmps38
    go_wp2
    go_loopw [3, 4] (fun r i wr => ∃ k : Nat, 1 ≤ k ∧ k ≤ s.size ∧ i = .int .i64 k ∧ r = .int .i32 (numK s (k - 1)) ∧ wr = w) (fun _ i _ => s.size - (intOf i).toNat)
    case atStart => exact ⟨1, Nat.le_refl _, by omega, rfl, rfl, rfl⟩
    case round =>
      obtain ⟨k, hk1, hk, rfl, rfl, rfl⟩ := hrel
      by_cases hltk : k < s.size
      · obtain ⟨j, rfl⟩ : ∃ j, k = j + 1 := ⟨k - 1, by omega⟩
        have hbk := byt_at hltk
        have hbl := byt_lt s (j + 1)
        have hnb := numK_bound s j (by omega)
        have hltd : decide ((j : Int) + 1 < (s.size : Int)) = true := by simp; omega
        go_wp2
        go_roundw
        case rel => exact ⟨j + 2, by omega, by omega, by go_num, by show _ = Value.int .i32 ((numK s j * 64 + byt s (j + 1) % 64 : Nat) : Int); go_num, by trivial⟩
        case measure => simp [intOf]; omega
      · obtain rfl : k = s.size := by omega
        have hltd : decide ((s.size : Int) < (s.size : Int)) = false := by simp
        go_wp2
        go_ret
        exact ⟨by rw [HR.out]; rfl, rfl⟩
end Go.Proofs.Ytodbjehggkdjaaa
namespace Go.Proofs.Ytodbjehggkdjaaa
set_option linter.unusedVariables false
set_option linter.unusedSimpArgs false

theorem RuneAt.cutout {s : ByteArray} {i r n : Nat} (h : RuneAt s i r n) : RuneAt (s.extract i (i + n)) 0 r (s.extract i (i + n)).size := by
  have h4 := h.n4
  obtain ⟨hs, h⟩ := h
  have hz := size_ext s i (i + n) hs
  have e : i + n - i = n := by omega
  rw [e] at hz
  rw [hz]
  refine ⟨by omega, ?_⟩
  have e0 := byt_extract s i (i + n) 0
  have e1 := byt_extract s i (i + n) 1
  have e2 := byt_extract s i (i + n) 2
  have e3 := byt_extract s i (i + n) 3
  simp only [Nat.add_zero, Nat.zero_add] at e0 e1 e2 e3 ⊢
  rcases h with ⟨rfl, h1, h2⟩ | ⟨rfl, h1, h2, h3, h4⟩ | ⟨rfl, h1, h2, h3, h4, h5, h6, h7⟩ | ⟨rfl, h1, h2, h3, h4, h5, h6, h7, h8⟩
  · rw [e0 (by omega) hs]; exact .inl ⟨rfl, h1, h2⟩
  · rw [e0 (by omega) hs, e1 (by omega) hs]; exact .inr (.inl ⟨rfl, h1, h2, h3, h4⟩)
  · rw [e0 (by omega) hs, e1 (by omega) hs, e2 (by omega) hs]; exact .inr (.inr (.inl ⟨rfl, h1, h2, h3, h4, h5, h6, h7⟩))
  · rw [e0 (by omega) hs, e1 (by omega) hs, e2 (by omega) hs, e3 (by omega) hs]; exact .inr (.inr (.inr ⟨rfl, h1, h2, h3, h4, h5, h6, h7, h8⟩))

/-- Does a rune begin there? -/
def isB (s : ByteArray) (i : Nat) : Bool := decide (wid s i ≠ 0)
/-- What Decode answers at a place within the text. -/
def decV (s : ByteArray) (i : Nat) : Value := .tuple #[.int .i32 (dec s i).1, .int .i64 (dec s i).2, .bool (isB s i)]
/-- What Decode and Last answer outside. -/
def noneV : Value := .tuple #[.int .i32 0, .int .i64 0, .bool false]

/-- What Last answers at a place within the text. -/
def lstV (s : ByteArray) (e : Nat) : Value := .tuple #[.int .i32 (lst s e).1, .int .i64 (lst s e).2, .bool (decide (lstN s e ≠ 0))]
theorem lstV_none {s : ByteArray} {e : Nat} (h : ∀ n, 1 ≤ n → n ≤ 4 → n ≤ e → wid s (e - n) ≠ n) : lstV s e = .tuple #[.int .i32 65533, .int .i64 1, .bool false] := by
  unfold lstV lst; rw [lstN_none h]; rfl
theorem lstV_is {s : ByteArray} {e n : Nat} (he : e ≤ s.size) (h1 : 1 ≤ n) (hn : n ≤ e) (hw : wid s (e - n) = n) : lstV s e = .tuple #[.int .i32 (dec s (e - n)).1, .int .i64 n, .bool true] := by
  have hne : n ≠ 0 := by omega
  unfold lstV lst; rw [lstN_is he h1 hn hw]; simp [hne]

end Go.Proofs.Ytodbjehggkdjaaa
namespace Go.Proofs.Ytodbjehggkdjaaa
open Go.RowKit
set_option linter.unusedVariables false
set_option linter.unusedSimpArgs false

set_option maxHeartbeats 1000000 in
theorem decode_in (s : ByteArray) (i : Nat) (w : World) (hz : s.size ≤ 9223372036854775807) (hi : i < s.size) :
    Calls Try.prog 20 #[.string s, .int .i64 i] w fun e w' => e = .returned (decV s i) ∧ w = w' := by
  have d1 : decide (s.size ≤ i) = false := by simp; omega
  have d0 : decide ((i : Int) < 0) = false := by simp
  have ht := size_tail s i (by omega)
  by_cases hw : wid s i = 0
  · have hv : decV s i = .tuple #[.int .i32 65533, .int .i64 1, .bool false] := by
      unfold decV isB; simp [dec_of_wid hi hw, hw]
    have HV := Lib.hid hv; clear hv
    have HW := Lib.hid hw; clear hw
    go_enter Try.func20, Try.ntmps20
    go_wp2_with fail
    refine (width_any (s.extract i s.size) w (by omega) (by omega)).mono ?_
    rintro r w1 ⟨rfl, rfl⟩
    rw [wid_tail s i (by omega), HW.out]
    go_wp2
    go_ret3
    exact ⟨by rw [HV.out]; rfl, rfl⟩
  · have hr := rune_of_wid hi hw
    have hn := hr.n4
    have HR := Lib.hid hr.cutout
    have hv : decV s i = .tuple #[.int .i32 (dec s i).1, .int .i64 (wid s i), .bool true] := by
      unfold decV isB; rw [wid_snd hw]; simp [hw]
    have HV := Lib.hid hv; clear hv
    have HW := Lib.hid (wid_tail s i (by omega)); clear hr
    have hz0 : ((wid s i : Int) == 0) = false := by simp; omega
    go_enter Try.func20, Try.ntmps20
    go_wp2_with fail
    refine (width_any (s.extract i s.size) w (by omega) (by omega)).mono ?_
    rintro r w1 ⟨rfl, rfl⟩
    rw [HW.out]
    generalize wid s i = n at *
    go_wp2_with fail
    refine (number_any (s.extract i (i + n)) _ w HR.out).mono ?_
    rintro r w1 ⟨rfl, rfl⟩
    go_wp2
    go_ret3
    exact ⟨by rw [HV.out]; rfl, rfl⟩

theorem decode_out (s : ByteArray) (i : Int) (w : World) (hz : s.size ≤ 9223372036854775807) (hi : i < 0 ∨ s.size ≤ i) :
    Calls Try.prog 20 #[.string s, .int .i64 i] w fun e w' => e = .returned noneV ∧ w = w' := by
  by_cases h0 : i < 0
  · go_enter Try.func20, Try.ntmps20
    go_wp2
    go_ret3
    exact ⟨rfl, rfl⟩
  · have h1 : (s.size : Int) ≤ i := by omega
    go_enter Try.func20, Try.ntmps20
    go_wp2
    go_ret3
    exact ⟨rfl, rfl⟩

set_option maxHeartbeats 8000000 in
theorem last_in (s : ByteArray) (e : Nat) (w : World) (hz : s.size ≤ 9223372036854775807) (h1 : 1 ≤ e) (he : e ≤ s.size) :
    Calls Try.prog 55 #[.string s, .int .i64 e] w fun r w' => r = .returned (lstV s e) ∧ w = w' := by
  have d1 : decide (s.size < e) = false := by simp; omega
  have d0 : decide ((e : Int) < 1) = false := by simp; omega
  go_enter Try.func55, Try.ntmps55
  go_wp2
  all_goals
    go_loopw [7, 19] (fun _ i wr => ∃ k : Nat, k ≤ 4 ∧ k ≤ e ∧ i = .int .i64 k ∧ wr = w ∧ ∀ n, 1 ≤ n → n ≤ k → wid s (e - n) ≠ n) (fun _ i _ => 4 - (intOf i).toNat)
    case atStart => exact ⟨0, by omega, by omega, rfl, rfl, fun n h h' => by omega⟩
    case round =>
      obtain ⟨k, hk4, hke, rfl, rfl, hno⟩ := hrel
      have HN := Lib.hid hno; clear hno
      by_cases hlt : k < 4 ∧ k < e
      · obtain ⟨hl4, hle⟩ := hlt
        have ek : e - k - 1 = e - (k + 1) := by omega
        have EK := Lib.hid ek; clear ek
        have hsub : ((e : Int) - (k : Int) - 1).toNat = e - (k + 1) := by omega
        have ht := size_tail s (e - (k + 1)) (by omega)
        by_cases hw : wid s (e - (k + 1)) = k + 1
        · have hr := rune_of_wid (s := s) (i := e - (k + 1)) (by omega) (by omega)
          rw [hw] at hr
          have hcut := hr.cutout
          rw [show e - (k + 1) + (k + 1) = e by omega] at hcut
          have HC := Lib.hid hcut; clear hcut hr
          have HV := Lib.hid (lstV_is he (by omega) (by omega) hw)
          have HW := Lib.hid ((wid_tail s (e - (k + 1)) (by omega)).trans hw); clear hw
          go_wp2_with fail
          (with_reducible refine (width_any (s.extract (e - (k + 1)) s.size) _ (by omega) (by omega)).mono ?_)
          rintro r w1 ⟨rfl, rfl⟩
          rw [HW.out]
          go_wp2_with fail
          (with_reducible refine (number_any (s.extract (e - (k + 1)) e) _ _ HC.out).mono ?_)
          rintro r w1 ⟨rfl, rfl⟩
          go_wp2
          go_ret3
          exact ⟨by rw [HV.out]; rfl, rfl⟩
        · have hww := wid_tail s (e - (k + 1)) (by omega)
          have hwf : ((wid s (e - (k + 1)) : Int) == (k : Int) + 1) = false := by simp; omega
          have HH := Lib.hid hw; clear hw
          have HW := Lib.hid hww; clear hww
          have HF := Lib.hid hwf; clear hwf
          go_wp2_with fail
          (with_reducible refine (width_any (s.extract (e - (k + 1)) s.size) _ (by omega) (by omega)).mono ?_)
          rintro r w1 ⟨rfl, rfl⟩
          rw [HW.out]
          have hwf := HF.out
          obtain ⟨m, hm⟩ : ∃ m, m = wid s (e - (k + 1)) := ⟨_, rfl⟩
          rw [← hm] at hwf ⊢
          clear hm
          go_wp2
          go_roundw
          case rel => exact ⟨k + 1, by omega, by omega, by go_num, by trivial, fun n h1 h2 => by
            by_cases en : n = k + 1
            · subst en; exact HH.out
            · exact HN.out n h1 (by omega)⟩
          case measure => simp [intOf]; omega
      · have HV := Lib.hid (lstV_none (s := s) (e := e) (fun n h1 h2 h3 => HN.out n h1 (by omega)))
        go_wp2
        go_ret3
        exact ⟨by rw [HV.out]; rfl, rfl⟩

theorem last_out (s : ByteArray) (i : Int) (w : World) (hz : s.size ≤ 9223372036854775807) (hi : i < 1 ∨ s.size < i) :
    Calls Try.prog 55 #[.string s, .int .i64 i] w fun e w' => e = .returned noneV ∧ w = w' := by
  by_cases h0 : i < 1
  · go_enter Try.func55, Try.ntmps55
    go_wp2
    go_ret3
    exact ⟨rfl, rfl⟩
  · have h1 : (s.size : Int) < i := by omega
    go_enter Try.func55, Try.ntmps55
    go_wp2
    go_ret3
    exact ⟨rfl, rfl⟩
end Go.Proofs.Ytodbjehggkdjaaa
