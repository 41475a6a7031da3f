/-
  A word's end, and what begins like a number: walks of the small functions of the scanner.
-/
import Derived.Test.YtbidppjhenfjdaaDoorQuoO
namespace Go.Proofs.YtbidppjhenfjdaaDoor
open Go.RowKit
set_option linter.unusedVariables false
set_option linter.unusedSimpArgs false

/-- Does a word end at a byte? -/
def endB (s : ByteArray) (i : Nat) : Bool := decide (s.size ≤ i ∨ byt s i = 32 ∨ byt s i = 9 ∨ byt s i = 35 ∨ byt s i = 10 ∨ byt s i = 13)
theorem endB_yes {s : ByteArray} {i : Nat} (h : s.size ≤ i ∨ byt s i = 32 ∨ byt s i = 9 ∨ byt s i = 35 ∨ byt s i = 10 ∨ byt s i = 13) : endB s i = true := decide_eq_true h
theorem endB_no {s : ByteArray} {i : Nat} (h : ¬ (s.size ≤ i ∨ byt s i = 32 ∨ byt s i = 9 ∨ byt s i = 35 ∨ byt s i = 10 ∨ byt s i = 13)) : endB s i = false := decide_eq_false h
theorem endB_lt {s : ByteArray} {i : Nat} (h : endB s i = false) : i < s.size ∧ byt s i ≠ 32 ∧ byt s i ≠ 9 ∧ byt s i ≠ 35 ∧ byt s i ≠ 10 ∧ byt s i ≠ 13 := by
  have := of_decide_eq_false h
  omega

set_option maxHeartbeats 4000000 in
theorem ends_any (s : ByteArray) (i : Nat) (w : World) (hz : s.size ≤ 100000000) : Calls Tryd.prog 36 #[.string s, .int .i64 (i : Nat)] w fun e w' => e = .returned (.bool (endB s i)) ∧ w = w' := by
  by_cases h0 : s.size ≤ i
  · rw [endB_yes (.inl h0)]
    have f1 := dec_le_t (show (s.size : Int) ≤ (i : Int) by omega)
    have f2 := dec_len_t h0
    go_enter Tryd.func36, Tryd.ntmps36
    go_wp2
    go_ret
    exact ⟨rfl, rfl⟩
  · have f1 := dec_le_f (show ¬ (s.size : Int) ≤ (i : Int) by omega)
    have f2 := dec_len_f h0
    have hix := byte_z (s := s) (i := i) (z := (i : Nat)) (by omega) rfl
    have hcs : (byt s i = 32 ∨ byt s i = 9 ∨ byt s i = 35 ∨ byt s i = 10 ∨ byt s i = 13) ∨ ¬ (byt s i = 32 ∨ byt s i = 9 ∨ byt s i = 35 ∨ byt s i = 10 ∨ byt s i = 13) := by omega
    rcases hcs with hc | hc
    · rw [endB_yes (.inr hc)]
      rcases hc with hc | hc | hc | hc | hc
      all_goals
        rw [hc] at hix
        clear hc h0
        go_enter Tryd.func36, Tryd.ntmps36
        go_wp2
        go_ret
        exact ⟨rfl, rfl⟩
    · rw [endB_no (by omega)]
      obtain ⟨c, hci⟩ : ∃ c : Int, c = ((byt s i : Nat) : Int) := ⟨_, rfl⟩
      rw [← hci] at hix
      have g1 : (c == 32) = false := ((ar4 (n := 32) hci).2 (by omega)).1
      have g2 : (c == 9) = false := ((ar4 (n := 9) hci).2 (by omega)).1
      have g3 : (c == 35) = false := ((ar4 (n := 35) hci).2 (by omega)).1
      have g4 : (c == 10) = false := ((ar4 (n := 10) hci).2 (by omega)).1
      have g5 : (c == 13) = false := ((ar4 (n := 13) hci).2 (by omega)).1
      clear hc h0 hci
      go_enter Tryd.func36, Tryd.ntmps36
      go_wp2
      go_ret
      exact ⟨rfl, rfl⟩

/-- Is a byte a decimal digit? -/
def digB (c : Nat) : Bool := decide (48 ≤ c ∧ c ≤ 57)
/-- Does a word begin like a number? -/
def numB (x : ByteArray) : Bool := digB (byt x (if byt x 0 = 45 then 1 else 0))
theorem cntTail {x : ByteArray} (hx : x.size ≠ 0) (c : Int) (hc : c = ((byt x 0 : Nat) : Int)) : (digB (byt x 0) = true ∧ decide ((48 : Int) ≤ c) = true ∧ decide (c ≤ 57) = true) ∨ (digB (byt x 0) = false ∧ decide ((48 : Int) ≤ c) = false) ∨ (digB (byt x 0) = false ∧ decide ((48 : Int) ≤ c) = true ∧ decide (c ≤ 57) = false) := by
  by_cases h1 : 48 ≤ byt x 0
  · by_cases h2 : byt x 0 ≤ 57
    · exact .inl ⟨decide_eq_true ⟨h1, h2⟩, dec_le_t (by omega), dec_le_t (by omega)⟩
    · exact .inr (.inr ⟨decide_eq_false (fun h => h2 h.2), dec_le_t (by omega), dec_le_f (by omega)⟩)
  · exact .inr (.inl ⟨decide_eq_false (fun h => h1 h.1), dec_le_f (by omega)⟩)
theorem ne_empty {x : ByteArray} (hx : x.size ≠ 0) : (x.toList == []) = false ∧ x.toList.isEmpty = false ∧ (x.toList != []) = true := by
  have h := str_neq (a := x) (b := ⟨#[]⟩) (fun e => hx (by rw [e]; rfl))
  rw [show (⟨#[]⟩ : ByteArray).toList = [] by rw [ByteArray.toList_eq]] at h
  refine ⟨h, ?_, by rw [bne, h]; rfl⟩
  cases hl : x.toList with
  | nil => rw [hl] at h; cases h
  | cons a l => rfl

set_option maxHeartbeats 4000000 in
theorem counts_any (x : ByteArray) (w : World) (hz : x.size ≤ 100000000) (hx : x.size ≠ 0) : Calls Tryd.prog 33 #[.string x] w fun e w' => e = .returned (.bool (numB x)) ∧ w = w' := by
  have hi0 := byte_z (s := x) (i := 0) (z := 0) (by omega) rfl
  by_cases h45 : byt x 0 = 45
  · have HN : Hid (numB x = digB (byt x 1)) := Lib.hid (by unfold numB; rw [if_pos h45])
    have hsl := slice_tail (s := x) (k := 1) (z := 1) (by omega) rfl
    have htz := size_tail x 1 (by omega)
    have hb : byt x 1 = byt (x.extract 1 x.size) 0 := by rw [byt_tail]
    rw [hb] at HN
    rw [h45] at hi0
    generalize x.extract 1 x.size = y at *
    by_cases hy : y.size = 0
    · obtain rfl : y = ByteArray.empty := ext_byt hy (fun i hi => by omega)
      have HD := Lib.hid (HN.out.trans (show digB (byt ByteArray.empty 0) = false by decide +kernel))
      have hse : (ByteArray.empty.toList != ByteArray.empty.toList) = false := by simp
      clear h45 hb HN htz hy
      go_enter Tryd.func33, Tryd.ntmps33
      go_wp2
      go_ret
      rw [HD.out]
      exact ⟨rfl, rfl⟩
    · have hiy := byte_z (s := y) (i := 0) (z := 0) (by omega) rfl
      obtain ⟨n1, n2, n3⟩ := ne_empty hy
      obtain ⟨c, hc⟩ : ∃ c : Int, c = ((byt y 0 : Nat) : Int) := ⟨_, rfl⟩
      have hct := cntTail hy c hc
      rw [← hc] at hiy
      clear h45 hb htz hy hc
      rcases hct with ⟨d, e1, e2⟩ | ⟨d, e1⟩ | ⟨d, e1, e2⟩
      all_goals
        rw [d] at HN
        clear d
        go_enter Tryd.func33, Tryd.ntmps33
        go_wp2
        go_ret
        rw [HN.out]
        exact ⟨rfl, rfl⟩
  · have HN : Hid (numB x = digB (byt x 0)) := Lib.hid (by unfold numB; rw [if_neg h45])
    obtain ⟨n1, n2, n3⟩ := ne_empty hx
    obtain ⟨c, hc⟩ : ∃ c : Int, c = ((byt x 0 : Nat) : Int) := ⟨_, rfl⟩
    have hct := cntTail hx c hc
    rw [← hc] at hi0
    have g1 : (c == 45) = false := ((ar4 hc).2 h45).1
    clear h45 hc
    rcases hct with ⟨d, e1, e2⟩ | ⟨d, e1⟩ | ⟨d, e1, e2⟩
    all_goals
      rw [d] at HN
      clear d
      go_enter Tryd.func33, Tryd.ntmps33
      go_wp2
      go_ret
      rw [HN.out]
      exact ⟨rfl, rfl⟩

/-- A word that is not quoted, from a byte on: its end and 0, or the byte that offends and why. -/
def pw (s : ByteArray) (i : Nat) : Nat × Nat :=
  if h : endB s i = true then (i, 0)
  else if (dec s i).1 = 34 then (i, 18)
  else if wid s i = 0 ∨ (dec s i).1 < 32 ∨ (dec s i).1 = 127 then (i, 2)
  else pw s (i + (dec s i).2)
termination_by s.size - i
decreasing_by
  have h1 := (endB_lt (by simpa using h)).1
  have := dec_n h1
  omega
theorem pw_end {s : ByteArray} {i : Nat} (h : endB s i = true) : pw s i = (i, 0) := by rw [pw, dif_pos h]
theorem pw_quote {s : ByteArray} {i : Nat} (h : endB s i = false) (h1 : (dec s i).1 = 34) : pw s i = (i, 18) := by rw [pw, dif_neg (by rw [h]; simp), if_pos h1]
theorem pw_bad {s : ByteArray} {i : Nat} (h : endB s i = false) (h1 : (dec s i).1 ≠ 34) (h2 : wid s i = 0 ∨ (dec s i).1 < 32 ∨ (dec s i).1 = 127) : pw s i = (i, 2) := by rw [pw, dif_neg (by rw [h]; simp), if_neg h1, if_pos h2]
theorem pw_on {s : ByteArray} {i : Nat} (h : endB s i = false) (h1 : (dec s i).1 ≠ 34) (h2 : ¬ (wid s i = 0 ∨ (dec s i).1 < 32 ∨ (dec s i).1 = 127)) : pw s i = pw s (i + (dec s i).2) := by rw [pw, dif_neg (by rw [h]; simp), if_neg h1, if_neg h2]
theorem pw_spec (s : ByteArray) : ∀ (m i : Nat), s.size - i ≤ m → i ≤ s.size → i ≤ (pw s i).1 ∧ (pw s i).1 ≤ s.size := by
  intro m
  induction m with
  | zero => intro i hm hi; rw [pw_end (endB_yes (.inl (by omega)))]; exact ⟨Nat.le_refl _, hi⟩
  | succ m ih =>
    intro i hm hi
    cases he : endB s i with
    | true => rw [pw_end he]; exact ⟨Nat.le_refl _, hi⟩
    | false =>
      by_cases h1 : (dec s i).1 = 34
      · rw [pw_quote he h1]; exact ⟨Nat.le_refl _, hi⟩
      · by_cases h2 : wid s i = 0 ∨ (dec s i).1 < 32 ∨ (dec s i).1 = 127
        · rw [pw_bad he h1 h2]; exact ⟨Nat.le_refl _, hi⟩
        · rw [pw_on he h1 h2]
          have hn := dec_n (endB_lt he).1
          have := ih (i + (dec s i).2) (by omega) hn.2.2
          omega

set_option maxHeartbeats 8000000 in
theorem plain_any (s : ByteArray) (a : Nat) (w : World) (hz : s.size ≤ 100000000) (ha : a ≤ s.size) : Calls Tryd.prog 32 #[.string s, .int .i64 (a : Nat)] w fun e w' => e = .returned (.tuple #[.int .i64 (pw s a).1, .int .i64 (pw s a).2]) ∧ w = w' := by
  go_enter Tryd.func32, Tryd.ntmps32
  go_wp2
  go_loopw [4] (fun v wr => ∃ i : Nat, v = .int .i64 i ∧ i ≤ s.size ∧ pw s a = pw s i ∧ w = wr) (fun v _ => s.size - (intOf v).toNat)
  case atStart => exact ⟨a, rfl, ha, rfl, rfl⟩
  case round =>
    obtain ⟨i, rfl, hi, hp, rfl⟩ := hrel
    have HP := Lib.hid hp; clear hp
    have HE := Lib.hid (fun W => ends_any s i W hz)
    cases he : endB s i with
    | true =>
      rw [he] at HE
      have HR := Lib.hid (HP.out.trans (pw_end he))
      clear he
      go_wp2_with fail
      refine (HE.out _).mono ?_
      rintro e w1 ⟨rfl, rfl⟩
      go_wp2
      go_ret2
      rw [HR.out]
      exact ⟨rfl, rfl⟩
    | false =>
      rw [he] at HE
      have his := (endB_lt he).1
      have hn := dec_n his
      have HD := Lib.hid (decode_in s i w (by omega) his)
      unfold decV at HD
      have HISB := Lib.hid (show isB s i = decide (wid s i ≠ 0) from rfl)
      obtain ⟨ri, hri⟩ : ∃ ri : Int, ri = (((dec s i).1 : Nat) : Int) := ⟨_, rfl⟩
      rw [← hri] at HD
      by_cases h1 : (dec s i).1 = 34
      · have HR := Lib.hid (HP.out.trans (pw_quote he h1))
        rw [h1] at hri
        subst hri
        clear he h1
        go_wp2_with fail
        refine (HE.out _).mono ?_
        rintro e w1 ⟨rfl, rfl⟩
        go_wp2_with fail
        refine HD.out.mono ?_
        rintro e w1 ⟨rfl, rfl⟩
        go_wp2
        go_ret2
        rw [HR.out]
        exact ⟨rfl, rfl⟩
      · have g1 : (ri == 34) = false := ((ar4 hri).2 h1).1
        have hoff : ((wid s i = 0 ∨ (dec s i).1 < 32 ∨ (dec s i).1 = 127) ∧ ((isB s i = false) ∨ (isB s i = true ∧ decide (ri < 32) = true) ∨ (isB s i = true ∧ decide (ri < 32) = false ∧ (ri == 127) = true))) ∨ (¬ (wid s i = 0 ∨ (dec s i).1 < 32 ∨ (dec s i).1 = 127) ∧ isB s i = true ∧ decide (ri < 32) = false ∧ (ri == 127) = false) := by
          rw [HISB.out]
          by_cases a1 : wid s i = 0
          · exact .inl ⟨.inl a1, .inl (by simp [a1])⟩
          · by_cases a2 : (dec s i).1 < 32
            · exact .inl ⟨.inr (.inl a2), .inr (.inl ⟨by simp [a1], dec_lt_t (by omega)⟩)⟩
            · by_cases a3 : (dec s i).1 = 127
              · exact .inl ⟨.inr (.inr a3), .inr (.inr ⟨by simp [a1], dec_lt_f (by omega), (ar4 hri).1 a3⟩)⟩
              · exact .inr ⟨by omega, by simp [a1], dec_lt_f (by omega), ((ar4 hri).2 a3).1⟩
        clear HISB hri
        rcases hoff with ⟨b1, b2⟩ | ⟨b1, b2, b3, b4⟩
        · have HR := Lib.hid (HP.out.trans (pw_bad he h1 b1))
          clear he h1 b1
          generalize (((dec s i).2 : Nat) : Int) = ni at *
          rcases b2 with b2 | ⟨b2, b3⟩ | ⟨b2, b3, b4⟩
          all_goals
            rw [b2] at HD
            clear b2
            go_wp2_with fail
            refine (HE.out _).mono ?_
            rintro e w1 ⟨rfl, rfl⟩
            go_wp2_with fail
            refine HD.out.mono ?_
            rintro e w1 ⟨rfl, rfl⟩
            go_wp2
            go_ret2
            rw [HR.out]
            exact ⟨rfl, rfl⟩
        · have HR := Lib.hid (HP.out.trans (pw_on he h1 b1))
          rw [b2] at HD
          clear he h1 b1 b2
          go_wp2_with fail
          refine (HE.out _).mono ?_
          rintro e w1 ⟨rfl, rfl⟩
          go_wp2_with fail
          refine HD.out.mono ?_
          rintro e w1 ⟨rfl, rfl⟩
          go_wp2
          go_roundw
          case rel => exact ⟨i + (dec s i).2, by go_num, hn.2.2, HR.out, by trivial⟩
          case measure => simp [intOf]; omega
end Go.Proofs.YtbidppjhenfjdaaDoor
