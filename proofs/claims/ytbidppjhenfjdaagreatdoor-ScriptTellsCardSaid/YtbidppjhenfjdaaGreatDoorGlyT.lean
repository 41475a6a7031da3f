/-
  Walks of the reference's begins.
-/
import Derived.Test.YtbidppjhenfjdaaGreatDoorGlyR
import Derived.IntWalk
namespace Go.Proofs.YtbidppjhenfjdaaGreatDoor
open Go.RowKit
set_option linter.unusedVariables false
set_option linter.unusedSimpArgs false

/-- What begins answers. -/
def begV (s : ByteArray) (i : Nat) : Value := if wid s i = 0 then .tuple #[.int .i32 0, .int .i64 0] else .tuple #[.int .i32 (dec s i).1, .int .i64 (wid s i)]
theorem begV_no {s : ByteArray} {i : Nat} (h : wid s i = 0) : begV s i = .tuple #[.int .i32 0, .int .i64 0] := by unfold begV; rw [if_pos h]
theorem begV_is {s : ByteArray} {i r n : Nat} (h : RuneAt s i r n) : begV s i = .tuple #[.int .i32 r, .int .i64 n] := by
  have h4 := h.n4
  have h0 := h.wid
  unfold begV; rw [h.dec, h0, if_neg (by omega)]
theorem beg_eq {x y : Int} {m n : Int} (h : x = y) (k : m = n) : Ending.returned (.tuple #[.int .i32 x, .int .i64 m]) = Ending.returned (.tuple #[.int .i32 y, .int .i64 n]) := by rw [h, k]
/-- No rune of this table's row begins there. -/
theorem no_rune {s : ByteArray} {i : Nat} (hi : i < s.size) (h : ∀ r n, ¬ RuneAt s i r n) : wid s i = 0 := by
  rcases rune_or s i hi with hr | ⟨_, h0⟩
  · exact absurd hr (h _ _)
  · exact h0
theorem lowZ_1 {s : ByteArray} {i : Nat} : lowB s (i + 1) 1 = (decide (i + 1 < s.size) && byt s (i + 1) / 64 == 2) := by simp [lowB, List.range_succ]
theorem lowZ_2 {s : ByteArray} {i : Nat} : lowB s (i + 1) 2 = (decide (i + 2 < s.size) && (byt s (i + 1) / 64 == 2 && byt s (i + 2) / 64 == 2)) := by
  simp only [lowB, List.range_succ, List.range_zero, List.nil_append, List.all_append, List.all_cons, List.all_nil, Bool.and_true, Bool.true_and, Nat.add_zero]
  rw [show i + 1 + 1 = i + 2 from rfl]
  rw [Bool.eq_iff_iff]; simp; omega
theorem lowZ_3 {s : ByteArray} {i : Nat} : lowB s (i + 1) 3 = (decide (i + 3 < s.size) && (byt s (i + 1) / 64 == 2 && (byt s (i + 2) / 64 == 2 && byt s (i + 3) / 64 == 2))) := by
  simp only [lowB, List.range_succ, List.range_zero, List.nil_append, List.all_append, List.all_cons, List.all_nil, Bool.and_true, Bool.true_and, Nat.add_zero]
  rw [show i + 1 + 1 = i + 2 from rfl, show i + 1 + 2 = i + 3 from rfl]
  rw [Bool.eq_iff_iff]; simp; omega

set_option maxRecDepth 100000 in
set_option maxHeartbeats 8000000 in
theorem begins_asc (s : ByteArray) (i : Nat) (w : World) (hz : s.size ≤ 4611686018427387904) (hi : i < s.size) (hc : byt s i < 128) :
    Calls Tryz.prog 100 #[.string s, .int .i64 i] w fun e w' => e = .returned (begV s i) ∧ Keep [] w w' := by
  have hb0 := byt_at hi
  have hl0 := byt_lt s i
  have hl1 := byt_lt s (i + 1)
  have hl2 := byt_lt s (i + 2)
  have hl3 := byt_lt s (i + 3)
  have hR : RuneAt s i (byt s i) 1 := ⟨by omega, .inl ⟨rfl, hc, rfl⟩⟩
  have HV := Lib.hid (begV_is hR); clear hR
  have d1 : decide ((byt s i : Int) ≤ 127) = true := by simp; omega
  by_cases hsz : i + 1 < s.size
  · have hb1 := byt_at hsz
    have hsd : decide ((i : Int) + 1 < (s.size : Int)) = true := by simp; omega
    go_enter Tryz.func100, Tryz.ntmps100
    go_wp2_with fail
    go_ret2
    exact ⟨by rw [HV.out]; rfl, Keep.refl _ _⟩
  · have hsd : decide ((i : Int) + 1 < (s.size : Int)) = false := by simp; omega
    go_enter Tryz.func100, Tryz.ntmps100
    go_wp2_with fail
    go_ret2
    exact ⟨by rw [HV.out]; rfl, Keep.refl _ _⟩

set_option maxRecDepth 100000 in
set_option maxHeartbeats 8000000 in
theorem begins_none (s : ByteArray) (i : Nat) (w : World) (hz : s.size ≤ 4611686018427387904) (hi : i < s.size) (hF : (128 ≤ byt s i ∧ byt s i < 194) ∨ 245 ≤ byt s i) :
    Calls Tryz.prog 100 #[.string s, .int .i64 i] w fun e w' => e = .returned (begV s i) ∧ Keep [] w w' := by
  have hb0 := byt_at hi
  have hl0 := byt_lt s i
  have hl1 := byt_lt s (i + 1)
  have hl2 := byt_lt s (i + 2)
  have hl3 := byt_lt s (i + 3)
  have d1 : decide ((byt s i : Int) ≤ 127) = false := by simp; omega
  have w194 : withinZ (byt s i : Int) 194 223 = false := by unfold withinZ; simp <;> omega
  have w225 : withinZ (byt s i : Int) 225 236 = false := by unfold withinZ; simp <;> omega
  have w238 : withinZ (byt s i : Int) 238 239 = false := by unfold withinZ; simp <;> omega
  have w241 : withinZ (byt s i : Int) 241 243 = false := by unfold withinZ; simp <;> omega
  have e224 : ((byt s i : Int) == 224) = false := by simp; omega
  have e237 : ((byt s i : Int) == 237) = false := by simp; omega
  have e240 : ((byt s i : Int) == 240) = false := by simp; omega
  have e244 : ((byt s i : Int) == 244) = false := by simp; omega
  have HV := Lib.hid (begV_no (no_rune hi (fun r n ⟨h1, h2⟩ => by omega)))
  by_cases hsz : i + 1 < s.size
  · have hb1 := byt_at hsz
    have hsd : decide ((i : Int) + 1 < (s.size : Int)) = true := by simp; omega
    go_enter Tryz.func100, Tryz.ntmps100
    go_wp2_with (first | (go_at_call 117; refine (within_any _ _ _ _).mono ?_; rintro r w1 ⟨rfl, rfl⟩) | (go_at_call 118; refine (low_any _ _ _ _ hz (by omega) (by omega) (by omega) (by omega)).mono ?_; rintro r w1 ⟨rfl, rfl⟩))
    go_ret2
    exact ⟨by rw [HV.out]; rfl, Keep.refl _ _⟩
  · have hb1 : byt s (i + 1) = 0 := byt_end (by omega)
    have hsd : decide ((i : Int) + 1 < (s.size : Int)) = false := by simp; omega
    clear hb1
    go_enter Tryz.func100, Tryz.ntmps100
    go_wp2_with (first | (go_at_call 117; refine (within_any _ _ _ _).mono ?_; rintro r w1 ⟨rfl, rfl⟩) | (go_at_call 118; refine (low_any _ _ _ _ hz (by omega) (by omega) (by omega) (by omega)).mono ?_; rintro r w1 ⟨rfl, rfl⟩))
    go_ret2
    exact ⟨by rw [HV.out]; rfl, Keep.refl _ _⟩

set_option maxRecDepth 100000 in
set_option maxHeartbeats 8000000 in
theorem begins_c2T (s : ByteArray) (i : Nat) (w : World) (hz : s.size ≤ 4611686018427387904) (hi : i < s.size) (hT : i + 2 ≤ s.size ∧ 194 ≤ byt s i ∧ byt s i < 224 ∧ byt s (i + 1) / 64 = 2) :
    Calls Tryz.prog 100 #[.string s, .int .i64 i] w fun e w' => e = .returned (begV s i) ∧ Keep [] w w' := by
  have hb0 := byt_at hi
  have hl0 := byt_lt s i
  have hl1 := byt_lt s (i + 1)
  have hl2 := byt_lt s (i + 2)
  have hl3 := byt_lt s (i + 3)
  have d1 : decide ((byt s i : Int) ≤ 127) = false := by simp; omega
  have w194 : withinZ (byt s i : Int) 194 223 = true := by unfold withinZ; simp <;> omega
  have w225 : withinZ (byt s i : Int) 225 236 = false := by unfold withinZ; simp <;> omega
  have w238 : withinZ (byt s i : Int) 238 239 = false := by unfold withinZ; simp <;> omega
  have w241 : withinZ (byt s i : Int) 241 243 = false := by unfold withinZ; simp <;> omega
  have e224 : ((byt s i : Int) == 224) = false := by simp; omega
  have e237 : ((byt s i : Int) == 237) = false := by simp; omega
  have e240 : ((byt s i : Int) == 240) = false := by simp; omega
  have e244 : ((byt s i : Int) == 244) = false := by simp; omega
  have hsz : i + 2 ≤ s.size := hT.1
  have hR : RuneAt s i ((byt s i - 192) * 64 + byt s (i + 1) % 64) 2 := ⟨hsz, .inr (.inl ⟨rfl, by omega, by omega, by omega, rfl⟩)⟩
  have HV := Lib.hid (begV_is hR); clear hR
  have lw : lowZ s ((i : Int) + 1) 1 = true := by rw [lowZ_nat]; show lowB s (i + 1) 1 = _; rw [lowZ_1]; simp; omega
  have hs1 : i + 1 < s.size := by omega
  have hb1 := byt_at hs1
  have hsd : decide ((i : Int) + 1 < (s.size : Int)) = true := by simp; omega
  have hc1 : byt s (i + 1) < 192 ∧ 128 ≤ byt s (i + 1) := by omega
  obtain ⟨hc1, hd1⟩ := hc1
  have g1 : 194 ≤ byt s i := by omega
  have g2 : byt s i < 245 := by omega
  obtain ⟨hT1, hT⟩ := hT
  have HT := Lib.hid hT; clear hT
  go_enter Tryz.func100, Tryz.ntmps100
  go_wp2_with (first | (go_at_call 117; refine (within_any _ _ _ _).mono ?_; rintro r w1 ⟨rfl, rfl⟩) | (go_at_call 118; refine (low_any _ _ _ _ hz (by omega) (by omega) (by omega) (by omega)).mono ?_; rintro r w1 ⟨rfl, rfl⟩))
  go_ret2
  have := HT.out
  exact ⟨by rw [HV.out]; exact beg_eq (by omega) rfl, Keep.refl _ _⟩

set_option maxRecDepth 100000 in
set_option maxHeartbeats 8000000 in
theorem begins_c2L (s : ByteArray) (i : Nat) (w : World) (hz : s.size ≤ 4611686018427387904) (hi : i < s.size) (hF : 194 ≤ byt s i ∧ byt s i < 224 ∧ ¬ (i + 2 ≤ s.size ∧ byt s (i + 1) / 64 = 2)) :
    Calls Tryz.prog 100 #[.string s, .int .i64 i] w fun e w' => e = .returned (begV s i) ∧ Keep [] w w' := by
  have hb0 := byt_at hi
  have hl0 := byt_lt s i
  have hl1 := byt_lt s (i + 1)
  have hl2 := byt_lt s (i + 2)
  have hl3 := byt_lt s (i + 3)
  have d1 : decide ((byt s i : Int) ≤ 127) = false := by simp; omega
  have w194 : withinZ (byt s i : Int) 194 223 = true := by unfold withinZ; simp <;> omega
  have w225 : withinZ (byt s i : Int) 225 236 = false := by unfold withinZ; simp <;> omega
  have w238 : withinZ (byt s i : Int) 238 239 = false := by unfold withinZ; simp <;> omega
  have w241 : withinZ (byt s i : Int) 241 243 = false := by unfold withinZ; simp <;> omega
  have e224 : ((byt s i : Int) == 224) = false := by simp; omega
  have e237 : ((byt s i : Int) == 237) = false := by simp; omega
  have e240 : ((byt s i : Int) == 240) = false := by simp; omega
  have e244 : ((byt s i : Int) == 244) = false := by simp; omega
  have HV := Lib.hid (begV_no (no_rune hi (fun r n ⟨h1, h2⟩ => by omega)))
  by_cases hsz : i + 1 < s.size
  · have hb1 := byt_at hsz
    have hsd : decide ((i : Int) + 1 < (s.size : Int)) = true := by simp; omega
    have lw : lowZ s ((i : Int) + 1) 1 = false := by rw [lowZ_nat]; show lowB s (i + 1) 1 = _; rw [lowZ_1]; simp; omega
    have HF := Lib.hid hF; clear hF
    go_enter Tryz.func100, Tryz.ntmps100
    go_wp2_with (first | (go_at_call 117; refine (within_any _ _ _ _).mono ?_; rintro r w1 ⟨rfl, rfl⟩) | (go_at_call 118; refine (low_any _ _ _ _ hz (by omega) (by omega) (by omega) (by omega)).mono ?_; rintro r w1 ⟨rfl, rfl⟩))
    go_ret2
    exact ⟨by rw [HV.out]; rfl, Keep.refl _ _⟩
  · have hb1 : byt s (i + 1) = 0 := byt_end (by omega)
    have hsd : decide ((i : Int) + 1 < (s.size : Int)) = false := by simp; omega
    have lw : lowZ s ((i : Int) + 1) 1 = false := by rw [lowZ_nat]; show lowB s (i + 1) 1 = _; rw [lowZ_1]; simp; omega
    clear hb1
    have HF := Lib.hid hF; clear hF
    go_enter Tryz.func100, Tryz.ntmps100
    go_wp2_with (first | (go_at_call 117; refine (within_any _ _ _ _).mono ?_; rintro r w1 ⟨rfl, rfl⟩) | (go_at_call 118; refine (low_any _ _ _ _ hz (by omega) (by omega) (by omega) (by omega)).mono ?_; rintro r w1 ⟨rfl, rfl⟩))
    go_ret2
    exact ⟨by rw [HV.out]; rfl, Keep.refl _ _⟩

set_option maxRecDepth 100000 in
set_option maxHeartbeats 8000000 in
theorem begins_e0T (s : ByteArray) (i : Nat) (w : World) (hz : s.size ≤ 4611686018427387904) (hi : i < s.size) (hT : i + 3 ≤ s.size ∧ byt s i = 224 ∧ byt s (i + 1) / 64 = 2 ∧ byt s (i + 2) / 64 = 2 ∧ 160 ≤ byt s (i + 1) ∧ byt s (i + 1) ≤ 191) :
    Calls Tryz.prog 100 #[.string s, .int .i64 i] w fun e w' => e = .returned (begV s i) ∧ Keep [] w w' := by
  have hb0 := byt_at hi
  have hl0 := byt_lt s i
  have hl1 := byt_lt s (i + 1)
  have hl2 := byt_lt s (i + 2)
  have hl3 := byt_lt s (i + 3)
  have d1 : decide ((byt s i : Int) ≤ 127) = false := by simp; omega
  have w194 : withinZ (byt s i : Int) 194 223 = false := by unfold withinZ; simp <;> omega
  have w225 : withinZ (byt s i : Int) 225 236 = false := by unfold withinZ; simp <;> omega
  have w238 : withinZ (byt s i : Int) 238 239 = false := by unfold withinZ; simp <;> omega
  have w241 : withinZ (byt s i : Int) 241 243 = false := by unfold withinZ; simp <;> omega
  have e224 : ((byt s i : Int) == 224) = true := by simp; omega
  have e237 : ((byt s i : Int) == 237) = false := by simp; omega
  have e240 : ((byt s i : Int) == 240) = false := by simp; omega
  have e244 : ((byt s i : Int) == 244) = false := by simp; omega
  have hsz : i + 3 ≤ s.size := hT.1
  have hR : RuneAt s i ((byt s i - 224) * 4096 + byt s (i + 1) % 64 * 64 + byt s (i + 2) % 64) 3 := ⟨hsz, .inr (.inr (.inl ⟨rfl, by omega, by omega, by omega, by omega, rfl, by omega, by omega⟩))⟩
  have HV := Lib.hid (begV_is hR); clear hR
  have wb : withinZ (byt s (i + 1) : Int) 160 191 = true := by unfold withinZ; simp <;> omega
  have lw : lowZ s ((i : Int) + 1) 2 = true := by rw [lowZ_nat]; show lowB s (i + 1) 2 = _; rw [lowZ_2]; simp; omega
  have hs1 : i + 1 < s.size := by omega
  have hb1 := byt_at hs1
  have hsd : decide ((i : Int) + 1 < (s.size : Int)) = true := by simp; omega
  have hs2 : i + 2 < s.size := by omega
  have hb2 := byt_at hs2
  have hk2 : ((i : Int) + 2 < (s.size : Int)) := by omega
  have hc1 : byt s (i + 1) < 192 ∧ 128 ≤ byt s (i + 1) := by omega
  obtain ⟨hc1, hd1⟩ := hc1
  have hc2 : byt s (i + 2) < 192 ∧ 128 ≤ byt s (i + 2) := by omega
  obtain ⟨hc2, hd2⟩ := hc2
  have g1 : 224 ≤ byt s i := by omega
  have g2 : byt s i < 245 := by omega
  obtain ⟨hT1, hT⟩ := hT
  have HT := Lib.hid hT; clear hT
  go_enter Tryz.func100, Tryz.ntmps100
  go_wp2_with (first | (go_at_call 117; refine (within_any _ _ _ _).mono ?_; rintro r w1 ⟨rfl, rfl⟩) | (go_at_call 118; refine (low_any _ _ _ _ hz (by omega) (by omega) (by omega) (by omega)).mono ?_; rintro r w1 ⟨rfl, rfl⟩))
  go_ret2
  have := HT.out
  exact ⟨by rw [HV.out]; exact beg_eq (by omega) rfl, Keep.refl _ _⟩

set_option maxRecDepth 100000 in
set_option maxHeartbeats 8000000 in
theorem begins_e0B (s : ByteArray) (i : Nat) (w : World) (hz : s.size ≤ 4611686018427387904) (hi : i < s.size) (hF : byt s i = 224 ∧ (byt s (i + 1) < 160 ∨ 191 < byt s (i + 1))) :
    Calls Tryz.prog 100 #[.string s, .int .i64 i] w fun e w' => e = .returned (begV s i) ∧ Keep [] w w' := by
  have hb0 := byt_at hi
  have hl0 := byt_lt s i
  have hl1 := byt_lt s (i + 1)
  have hl2 := byt_lt s (i + 2)
  have hl3 := byt_lt s (i + 3)
  have d1 : decide ((byt s i : Int) ≤ 127) = false := by simp; omega
  have w194 : withinZ (byt s i : Int) 194 223 = false := by unfold withinZ; simp <;> omega
  have w225 : withinZ (byt s i : Int) 225 236 = false := by unfold withinZ; simp <;> omega
  have w238 : withinZ (byt s i : Int) 238 239 = false := by unfold withinZ; simp <;> omega
  have w241 : withinZ (byt s i : Int) 241 243 = false := by unfold withinZ; simp <;> omega
  have e224 : ((byt s i : Int) == 224) = true := by simp; omega
  have e237 : ((byt s i : Int) == 237) = false := by simp; omega
  have e240 : ((byt s i : Int) == 240) = false := by simp; omega
  have e244 : ((byt s i : Int) == 244) = false := by simp; omega
  have HV := Lib.hid (begV_no (no_rune hi (fun r n ⟨h1, h2⟩ => by omega)))
  by_cases hsz : i + 1 < s.size
  · have hb1 := byt_at hsz
    have hsd : decide ((i : Int) + 1 < (s.size : Int)) = true := by simp; omega
    have wb : withinZ (byt s (i + 1) : Int) 160 191 = false := by unfold withinZ; simp <;> omega
    have HF := Lib.hid hF; clear hF
    go_enter Tryz.func100, Tryz.ntmps100
    go_wp2_with (first | (go_at_call 117; refine (within_any _ _ _ _).mono ?_; rintro r w1 ⟨rfl, rfl⟩) | (go_at_call 118; refine (low_any _ _ _ _ hz (by omega) (by omega) (by omega) (by omega)).mono ?_; rintro r w1 ⟨rfl, rfl⟩))
    go_ret2
    exact ⟨by rw [HV.out]; rfl, Keep.refl _ _⟩
  · have hb1 : byt s (i + 1) = 0 := byt_end (by omega)
    have hsd : decide ((i : Int) + 1 < (s.size : Int)) = false := by simp; omega
    have wb : withinZ (0 : Int) 160 191 = false := by unfold withinZ; simp <;> omega
    clear hb1
    have HF := Lib.hid hF; clear hF
    go_enter Tryz.func100, Tryz.ntmps100
    go_wp2_with (first | (go_at_call 117; refine (within_any _ _ _ _).mono ?_; rintro r w1 ⟨rfl, rfl⟩) | (go_at_call 118; refine (low_any _ _ _ _ hz (by omega) (by omega) (by omega) (by omega)).mono ?_; rintro r w1 ⟨rfl, rfl⟩))
    go_ret2
    exact ⟨by rw [HV.out]; rfl, Keep.refl _ _⟩

set_option maxRecDepth 100000 in
set_option maxHeartbeats 8000000 in
theorem begins_e0L (s : ByteArray) (i : Nat) (w : World) (hz : s.size ≤ 4611686018427387904) (hi : i < s.size) (hF : byt s i = 224 ∧ (160 ≤ byt s (i + 1) ∧ byt s (i + 1) ≤ 191) ∧ ¬ (i + 3 ≤ s.size ∧ byt s (i + 1) / 64 = 2 ∧ byt s (i + 2) / 64 = 2)) :
    Calls Tryz.prog 100 #[.string s, .int .i64 i] w fun e w' => e = .returned (begV s i) ∧ Keep [] w w' := by
  have hb0 := byt_at hi
  have hl0 := byt_lt s i
  have hl1 := byt_lt s (i + 1)
  have hl2 := byt_lt s (i + 2)
  have hl3 := byt_lt s (i + 3)
  have d1 : decide ((byt s i : Int) ≤ 127) = false := by simp; omega
  have w194 : withinZ (byt s i : Int) 194 223 = false := by unfold withinZ; simp <;> omega
  have w225 : withinZ (byt s i : Int) 225 236 = false := by unfold withinZ; simp <;> omega
  have w238 : withinZ (byt s i : Int) 238 239 = false := by unfold withinZ; simp <;> omega
  have w241 : withinZ (byt s i : Int) 241 243 = false := by unfold withinZ; simp <;> omega
  have e224 : ((byt s i : Int) == 224) = true := by simp; omega
  have e237 : ((byt s i : Int) == 237) = false := by simp; omega
  have e240 : ((byt s i : Int) == 240) = false := by simp; omega
  have e244 : ((byt s i : Int) == 244) = false := by simp; omega
  have HV := Lib.hid (begV_no (no_rune hi (fun r n ⟨h1, h2⟩ => by omega)))
  by_cases hsz : i + 1 < s.size
  · have hb1 := byt_at hsz
    have hsd : decide ((i : Int) + 1 < (s.size : Int)) = true := by simp; omega
    have wb : withinZ (byt s (i + 1) : Int) 160 191 = true := by unfold withinZ; simp <;> omega
    have lw : lowZ s ((i : Int) + 1) 2 = false := by rw [lowZ_nat]; show lowB s (i + 1) 2 = _; rw [lowZ_2]; simp; omega
    have HF := Lib.hid hF; clear hF
    go_enter Tryz.func100, Tryz.ntmps100
    go_wp2_with (first | (go_at_call 117; refine (within_any _ _ _ _).mono ?_; rintro r w1 ⟨rfl, rfl⟩) | (go_at_call 118; refine (low_any _ _ _ _ hz (by omega) (by omega) (by omega) (by omega)).mono ?_; rintro r w1 ⟨rfl, rfl⟩))
    go_ret2
    exact ⟨by rw [HV.out]; rfl, Keep.refl _ _⟩
  · have hb1 : byt s (i + 1) = 0 := byt_end (by omega)
    have hsd : decide ((i : Int) + 1 < (s.size : Int)) = false := by simp; omega
    have wb : withinZ (0 : Int) 160 191 = false := by unfold withinZ; simp
    have lw : lowZ s ((i : Int) + 1) 2 = false := by rw [lowZ_nat]; show lowB s (i + 1) 2 = _; rw [lowZ_2]; simp; omega
    clear hb1
    have HF := Lib.hid hF; clear hF
    go_enter Tryz.func100, Tryz.ntmps100
    go_wp2_with (first | (go_at_call 117; refine (within_any _ _ _ _).mono ?_; rintro r w1 ⟨rfl, rfl⟩) | (go_at_call 118; refine (low_any _ _ _ _ hz (by omega) (by omega) (by omega) (by omega)).mono ?_; rintro r w1 ⟨rfl, rfl⟩))
    go_ret2
    exact ⟨by rw [HV.out]; rfl, Keep.refl _ _⟩

set_option maxRecDepth 100000 in
set_option maxHeartbeats 8000000 in
theorem begins_e1T (s : ByteArray) (i : Nat) (w : World) (hz : s.size ≤ 4611686018427387904) (hi : i < s.size) (hT : i + 3 ≤ s.size ∧ 225 ≤ byt s i ∧ byt s i < 237 ∧ byt s (i + 1) / 64 = 2 ∧ byt s (i + 2) / 64 = 2) :
    Calls Tryz.prog 100 #[.string s, .int .i64 i] w fun e w' => e = .returned (begV s i) ∧ Keep [] w w' := by
  have hb0 := byt_at hi
  have hl0 := byt_lt s i
  have hl1 := byt_lt s (i + 1)
  have hl2 := byt_lt s (i + 2)
  have hl3 := byt_lt s (i + 3)
  have d1 : decide ((byt s i : Int) ≤ 127) = false := by simp; omega
  have w194 : withinZ (byt s i : Int) 194 223 = false := by unfold withinZ; simp <;> omega
  have w225 : withinZ (byt s i : Int) 225 236 = true := by unfold withinZ; simp <;> omega
  have w238 : withinZ (byt s i : Int) 238 239 = false := by unfold withinZ; simp <;> omega
  have w241 : withinZ (byt s i : Int) 241 243 = false := by unfold withinZ; simp <;> omega
  have e224 : ((byt s i : Int) == 224) = false := by simp; omega
  have e237 : ((byt s i : Int) == 237) = false := by simp; omega
  have e240 : ((byt s i : Int) == 240) = false := by simp; omega
  have e244 : ((byt s i : Int) == 244) = false := by simp; omega
  have hsz : i + 3 ≤ s.size := hT.1
  have hR : RuneAt s i ((byt s i - 224) * 4096 + byt s (i + 1) % 64 * 64 + byt s (i + 2) % 64) 3 := ⟨hsz, .inr (.inr (.inl ⟨rfl, by omega, by omega, by omega, by omega, rfl, by omega, by omega⟩))⟩
  have HV := Lib.hid (begV_is hR); clear hR
  have lw : lowZ s ((i : Int) + 1) 2 = true := by rw [lowZ_nat]; show lowB s (i + 1) 2 = _; rw [lowZ_2]; simp; omega
  have hs1 : i + 1 < s.size := by omega
  have hb1 := byt_at hs1
  have hsd : decide ((i : Int) + 1 < (s.size : Int)) = true := by simp; omega
  have hs2 : i + 2 < s.size := by omega
  have hb2 := byt_at hs2
  have hk2 : ((i : Int) + 2 < (s.size : Int)) := by omega
  have hc1 : byt s (i + 1) < 192 ∧ 128 ≤ byt s (i + 1) := by omega
  obtain ⟨hc1, hd1⟩ := hc1
  have hc2 : byt s (i + 2) < 192 ∧ 128 ≤ byt s (i + 2) := by omega
  obtain ⟨hc2, hd2⟩ := hc2
  have g1 : 224 ≤ byt s i := by omega
  have g2 : byt s i < 245 := by omega
  obtain ⟨hT1, hT⟩ := hT
  have HT := Lib.hid hT; clear hT
  go_enter Tryz.func100, Tryz.ntmps100
  go_wp2_with (first | (go_at_call 117; refine (within_any _ _ _ _).mono ?_; rintro r w1 ⟨rfl, rfl⟩) | (go_at_call 118; refine (low_any _ _ _ _ hz (by omega) (by omega) (by omega) (by omega)).mono ?_; rintro r w1 ⟨rfl, rfl⟩))
  go_ret2
  have := HT.out
  exact ⟨by rw [HV.out]; exact beg_eq (by omega) rfl, Keep.refl _ _⟩

set_option maxRecDepth 100000 in
set_option maxHeartbeats 8000000 in
theorem begins_e1L (s : ByteArray) (i : Nat) (w : World) (hz : s.size ≤ 4611686018427387904) (hi : i < s.size) (hF : 225 ≤ byt s i ∧ byt s i < 237 ∧ ¬ (i + 3 ≤ s.size ∧ byt s (i + 1) / 64 = 2 ∧ byt s (i + 2) / 64 = 2)) :
    Calls Tryz.prog 100 #[.string s, .int .i64 i] w fun e w' => e = .returned (begV s i) ∧ Keep [] w w' := by
  have hb0 := byt_at hi
  have hl0 := byt_lt s i
  have hl1 := byt_lt s (i + 1)
  have hl2 := byt_lt s (i + 2)
  have hl3 := byt_lt s (i + 3)
  have d1 : decide ((byt s i : Int) ≤ 127) = false := by simp; omega
  have w194 : withinZ (byt s i : Int) 194 223 = false := by unfold withinZ; simp <;> omega
  have w225 : withinZ (byt s i : Int) 225 236 = true := by unfold withinZ; simp <;> omega
  have w238 : withinZ (byt s i : Int) 238 239 = false := by unfold withinZ; simp <;> omega
  have w241 : withinZ (byt s i : Int) 241 243 = false := by unfold withinZ; simp <;> omega
  have e224 : ((byt s i : Int) == 224) = false := by simp; omega
  have e237 : ((byt s i : Int) == 237) = false := by simp; omega
  have e240 : ((byt s i : Int) == 240) = false := by simp; omega
  have e244 : ((byt s i : Int) == 244) = false := by simp; omega
  have HV := Lib.hid (begV_no (no_rune hi (fun r n ⟨h1, h2⟩ => by omega)))
  by_cases hsz : i + 1 < s.size
  · have hb1 := byt_at hsz
    have hsd : decide ((i : Int) + 1 < (s.size : Int)) = true := by simp; omega
    have lw : lowZ s ((i : Int) + 1) 2 = false := by rw [lowZ_nat]; show lowB s (i + 1) 2 = _; rw [lowZ_2]; simp; omega
    have HF := Lib.hid hF; clear hF
    go_enter Tryz.func100, Tryz.ntmps100
    go_wp2_with (first | (go_at_call 117; refine (within_any _ _ _ _).mono ?_; rintro r w1 ⟨rfl, rfl⟩) | (go_at_call 118; refine (low_any _ _ _ _ hz (by omega) (by omega) (by omega) (by omega)).mono ?_; rintro r w1 ⟨rfl, rfl⟩))
    go_ret2
    exact ⟨by rw [HV.out]; rfl, Keep.refl _ _⟩
  · have hb1 : byt s (i + 1) = 0 := byt_end (by omega)
    have hsd : decide ((i : Int) + 1 < (s.size : Int)) = false := by simp; omega
    have lw : lowZ s ((i : Int) + 1) 2 = false := by rw [lowZ_nat]; show lowB s (i + 1) 2 = _; rw [lowZ_2]; simp; omega
    clear hb1
    have HF := Lib.hid hF; clear hF
    go_enter Tryz.func100, Tryz.ntmps100
    go_wp2_with (first | (go_at_call 117; refine (within_any _ _ _ _).mono ?_; rintro r w1 ⟨rfl, rfl⟩) | (go_at_call 118; refine (low_any _ _ _ _ hz (by omega) (by omega) (by omega) (by omega)).mono ?_; rintro r w1 ⟨rfl, rfl⟩))
    go_ret2
    exact ⟨by rw [HV.out]; rfl, Keep.refl _ _⟩

set_option maxRecDepth 100000 in
set_option maxHeartbeats 8000000 in
theorem begins_edT (s : ByteArray) (i : Nat) (w : World) (hz : s.size ≤ 4611686018427387904) (hi : i < s.size) (hT : i + 3 ≤ s.size ∧ byt s i = 237 ∧ byt s (i + 1) / 64 = 2 ∧ byt s (i + 2) / 64 = 2 ∧ 128 ≤ byt s (i + 1) ∧ byt s (i + 1) ≤ 159) :
    Calls Tryz.prog 100 #[.string s, .int .i64 i] w fun e w' => e = .returned (begV s i) ∧ Keep [] w w' := by
  have hb0 := byt_at hi
  have hl0 := byt_lt s i
  have hl1 := byt_lt s (i + 1)
  have hl2 := byt_lt s (i + 2)
  have hl3 := byt_lt s (i + 3)
  have d1 : decide ((byt s i : Int) ≤ 127) = false := by simp; omega
  have w194 : withinZ (byt s i : Int) 194 223 = false := by unfold withinZ; simp <;> omega
  have w225 : withinZ (byt s i : Int) 225 236 = false := by unfold withinZ; simp <;> omega
  have w238 : withinZ (byt s i : Int) 238 239 = false := by unfold withinZ; simp <;> omega
  have w241 : withinZ (byt s i : Int) 241 243 = false := by unfold withinZ; simp <;> omega
  have e224 : ((byt s i : Int) == 224) = false := by simp; omega
  have e237 : ((byt s i : Int) == 237) = true := by simp; omega
  have e240 : ((byt s i : Int) == 240) = false := by simp; omega
  have e244 : ((byt s i : Int) == 244) = false := by simp; omega
  have hsz : i + 3 ≤ s.size := hT.1
  have hR : RuneAt s i ((byt s i - 224) * 4096 + byt s (i + 1) % 64 * 64 + byt s (i + 2) % 64) 3 := ⟨hsz, .inr (.inr (.inl ⟨rfl, by omega, by omega, by omega, by omega, rfl, by omega, by omega⟩))⟩
  have HV := Lib.hid (begV_is hR); clear hR
  have wb : withinZ (byt s (i + 1) : Int) 128 159 = true := by unfold withinZ; simp <;> omega
  have lw : lowZ s ((i : Int) + 1) 2 = true := by rw [lowZ_nat]; show lowB s (i + 1) 2 = _; rw [lowZ_2]; simp; omega
  have hs1 : i + 1 < s.size := by omega
  have hb1 := byt_at hs1
  have hsd : decide ((i : Int) + 1 < (s.size : Int)) = true := by simp; omega
  have hs2 : i + 2 < s.size := by omega
  have hb2 := byt_at hs2
  have hk2 : ((i : Int) + 2 < (s.size : Int)) := by omega
  have hc1 : byt s (i + 1) < 192 ∧ 128 ≤ byt s (i + 1) := by omega
  obtain ⟨hc1, hd1⟩ := hc1
  have hc2 : byt s (i + 2) < 192 ∧ 128 ≤ byt s (i + 2) := by omega
  obtain ⟨hc2, hd2⟩ := hc2
  have g1 : 224 ≤ byt s i := by omega
  have g2 : byt s i < 245 := by omega
  obtain ⟨hT1, hT⟩ := hT
  have HT := Lib.hid hT; clear hT
  go_enter Tryz.func100, Tryz.ntmps100
  go_wp2_with (first | (go_at_call 117; refine (within_any _ _ _ _).mono ?_; rintro r w1 ⟨rfl, rfl⟩) | (go_at_call 118; refine (low_any _ _ _ _ hz (by omega) (by omega) (by omega) (by omega)).mono ?_; rintro r w1 ⟨rfl, rfl⟩))
  go_ret2
  have := HT.out
  exact ⟨by rw [HV.out]; exact beg_eq (by omega) rfl, Keep.refl _ _⟩

set_option maxRecDepth 100000 in
set_option maxHeartbeats 8000000 in
theorem begins_edB (s : ByteArray) (i : Nat) (w : World) (hz : s.size ≤ 4611686018427387904) (hi : i < s.size) (hF : byt s i = 237 ∧ (byt s (i + 1) < 128 ∨ 159 < byt s (i + 1))) :
    Calls Tryz.prog 100 #[.string s, .int .i64 i] w fun e w' => e = .returned (begV s i) ∧ Keep [] w w' := by
  have hb0 := byt_at hi
  have hl0 := byt_lt s i
  have hl1 := byt_lt s (i + 1)
  have hl2 := byt_lt s (i + 2)
  have hl3 := byt_lt s (i + 3)
  have d1 : decide ((byt s i : Int) ≤ 127) = false := by simp; omega
  have w194 : withinZ (byt s i : Int) 194 223 = false := by unfold withinZ; simp <;> omega
  have w225 : withinZ (byt s i : Int) 225 236 = false := by unfold withinZ; simp <;> omega
  have w238 : withinZ (byt s i : Int) 238 239 = false := by unfold withinZ; simp <;> omega
  have w241 : withinZ (byt s i : Int) 241 243 = false := by unfold withinZ; simp <;> omega
  have e224 : ((byt s i : Int) == 224) = false := by simp; omega
  have e237 : ((byt s i : Int) == 237) = true := by simp; omega
  have e240 : ((byt s i : Int) == 240) = false := by simp; omega
  have e244 : ((byt s i : Int) == 244) = false := by simp; omega
  have HV := Lib.hid (begV_no (no_rune hi (fun r n ⟨h1, h2⟩ => by omega)))
  by_cases hsz : i + 1 < s.size
  · have hb1 := byt_at hsz
    have hsd : decide ((i : Int) + 1 < (s.size : Int)) = true := by simp; omega
    have wb : withinZ (byt s (i + 1) : Int) 128 159 = false := by unfold withinZ; simp <;> omega
    have HF := Lib.hid hF; clear hF
    go_enter Tryz.func100, Tryz.ntmps100
    go_wp2_with (first | (go_at_call 117; refine (within_any _ _ _ _).mono ?_; rintro r w1 ⟨rfl, rfl⟩) | (go_at_call 118; refine (low_any _ _ _ _ hz (by omega) (by omega) (by omega) (by omega)).mono ?_; rintro r w1 ⟨rfl, rfl⟩))
    go_ret2
    exact ⟨by rw [HV.out]; rfl, Keep.refl _ _⟩
  · have hb1 : byt s (i + 1) = 0 := byt_end (by omega)
    have hsd : decide ((i : Int) + 1 < (s.size : Int)) = false := by simp; omega
    have wb : withinZ (0 : Int) 128 159 = false := by unfold withinZ; simp <;> omega
    clear hb1
    have HF := Lib.hid hF; clear hF
    go_enter Tryz.func100, Tryz.ntmps100
    go_wp2_with (first | (go_at_call 117; refine (within_any _ _ _ _).mono ?_; rintro r w1 ⟨rfl, rfl⟩) | (go_at_call 118; refine (low_any _ _ _ _ hz (by omega) (by omega) (by omega) (by omega)).mono ?_; rintro r w1 ⟨rfl, rfl⟩))
    go_ret2
    exact ⟨by rw [HV.out]; rfl, Keep.refl _ _⟩

set_option maxRecDepth 100000 in
set_option maxHeartbeats 8000000 in
theorem begins_edL (s : ByteArray) (i : Nat) (w : World) (hz : s.size ≤ 4611686018427387904) (hi : i < s.size) (hF : byt s i = 237 ∧ (128 ≤ byt s (i + 1) ∧ byt s (i + 1) ≤ 159) ∧ ¬ (i + 3 ≤ s.size ∧ byt s (i + 1) / 64 = 2 ∧ byt s (i + 2) / 64 = 2)) :
    Calls Tryz.prog 100 #[.string s, .int .i64 i] w fun e w' => e = .returned (begV s i) ∧ Keep [] w w' := by
  have hb0 := byt_at hi
  have hl0 := byt_lt s i
  have hl1 := byt_lt s (i + 1)
  have hl2 := byt_lt s (i + 2)
  have hl3 := byt_lt s (i + 3)
  have d1 : decide ((byt s i : Int) ≤ 127) = false := by simp; omega
  have w194 : withinZ (byt s i : Int) 194 223 = false := by unfold withinZ; simp <;> omega
  have w225 : withinZ (byt s i : Int) 225 236 = false := by unfold withinZ; simp <;> omega
  have w238 : withinZ (byt s i : Int) 238 239 = false := by unfold withinZ; simp <;> omega
  have w241 : withinZ (byt s i : Int) 241 243 = false := by unfold withinZ; simp <;> omega
  have e224 : ((byt s i : Int) == 224) = false := by simp; omega
  have e237 : ((byt s i : Int) == 237) = true := by simp; omega
  have e240 : ((byt s i : Int) == 240) = false := by simp; omega
  have e244 : ((byt s i : Int) == 244) = false := by simp; omega
  have HV := Lib.hid (begV_no (no_rune hi (fun r n ⟨h1, h2⟩ => by omega)))
  by_cases hsz : i + 1 < s.size
  · have hb1 := byt_at hsz
    have hsd : decide ((i : Int) + 1 < (s.size : Int)) = true := by simp; omega
    have wb : withinZ (byt s (i + 1) : Int) 128 159 = true := by unfold withinZ; simp <;> omega
    have lw : lowZ s ((i : Int) + 1) 2 = false := by rw [lowZ_nat]; show lowB s (i + 1) 2 = _; rw [lowZ_2]; simp; omega
    have HF := Lib.hid hF; clear hF
    go_enter Tryz.func100, Tryz.ntmps100
    go_wp2_with (first | (go_at_call 117; refine (within_any _ _ _ _).mono ?_; rintro r w1 ⟨rfl, rfl⟩) | (go_at_call 118; refine (low_any _ _ _ _ hz (by omega) (by omega) (by omega) (by omega)).mono ?_; rintro r w1 ⟨rfl, rfl⟩))
    go_ret2
    exact ⟨by rw [HV.out]; rfl, Keep.refl _ _⟩
  · have hb1 : byt s (i + 1) = 0 := byt_end (by omega)
    have hsd : decide ((i : Int) + 1 < (s.size : Int)) = false := by simp; omega
    have wb : withinZ (0 : Int) 128 159 = false := by unfold withinZ; simp
    have lw : lowZ s ((i : Int) + 1) 2 = false := by rw [lowZ_nat]; show lowB s (i + 1) 2 = _; rw [lowZ_2]; simp; omega
    clear hb1
    have HF := Lib.hid hF; clear hF
    go_enter Tryz.func100, Tryz.ntmps100
    go_wp2_with (first | (go_at_call 117; refine (within_any _ _ _ _).mono ?_; rintro r w1 ⟨rfl, rfl⟩) | (go_at_call 118; refine (low_any _ _ _ _ hz (by omega) (by omega) (by omega) (by omega)).mono ?_; rintro r w1 ⟨rfl, rfl⟩))
    go_ret2
    exact ⟨by rw [HV.out]; rfl, Keep.refl _ _⟩

set_option maxRecDepth 100000 in
set_option maxHeartbeats 8000000 in
theorem begins_eeT (s : ByteArray) (i : Nat) (w : World) (hz : s.size ≤ 4611686018427387904) (hi : i < s.size) (hT : i + 3 ≤ s.size ∧ 238 ≤ byt s i ∧ byt s i < 240 ∧ byt s (i + 1) / 64 = 2 ∧ byt s (i + 2) / 64 = 2) :
    Calls Tryz.prog 100 #[.string s, .int .i64 i] w fun e w' => e = .returned (begV s i) ∧ Keep [] w w' := by
  have hb0 := byt_at hi
  have hl0 := byt_lt s i
  have hl1 := byt_lt s (i + 1)
  have hl2 := byt_lt s (i + 2)
  have hl3 := byt_lt s (i + 3)
  have d1 : decide ((byt s i : Int) ≤ 127) = false := by simp; omega
  have w194 : withinZ (byt s i : Int) 194 223 = false := by unfold withinZ; simp <;> omega
  have w225 : withinZ (byt s i : Int) 225 236 = false := by unfold withinZ; simp <;> omega
  have w238 : withinZ (byt s i : Int) 238 239 = true := by unfold withinZ; simp <;> omega
  have w241 : withinZ (byt s i : Int) 241 243 = false := by unfold withinZ; simp <;> omega
  have e224 : ((byt s i : Int) == 224) = false := by simp; omega
  have e237 : ((byt s i : Int) == 237) = false := by simp; omega
  have e240 : ((byt s i : Int) == 240) = false := by simp; omega
  have e244 : ((byt s i : Int) == 244) = false := by simp; omega
  have hsz : i + 3 ≤ s.size := hT.1
  have hR : RuneAt s i ((byt s i - 224) * 4096 + byt s (i + 1) % 64 * 64 + byt s (i + 2) % 64) 3 := ⟨hsz, .inr (.inr (.inl ⟨rfl, by omega, by omega, by omega, by omega, rfl, by omega, by omega⟩))⟩
  have HV := Lib.hid (begV_is hR); clear hR
  have lw : lowZ s ((i : Int) + 1) 2 = true := by rw [lowZ_nat]; show lowB s (i + 1) 2 = _; rw [lowZ_2]; simp; omega
  have hs1 : i + 1 < s.size := by omega
  have hb1 := byt_at hs1
  have hsd : decide ((i : Int) + 1 < (s.size : Int)) = true := by simp; omega
  have hs2 : i + 2 < s.size := by omega
  have hb2 := byt_at hs2
  have hk2 : ((i : Int) + 2 < (s.size : Int)) := by omega
  have hc1 : byt s (i + 1) < 192 ∧ 128 ≤ byt s (i + 1) := by omega
  obtain ⟨hc1, hd1⟩ := hc1
  have hc2 : byt s (i + 2) < 192 ∧ 128 ≤ byt s (i + 2) := by omega
  obtain ⟨hc2, hd2⟩ := hc2
  have g1 : 224 ≤ byt s i := by omega
  have g2 : byt s i < 245 := by omega
  obtain ⟨hT1, hT⟩ := hT
  have HT := Lib.hid hT; clear hT
  go_enter Tryz.func100, Tryz.ntmps100
  go_wp2_with (first | (go_at_call 117; refine (within_any _ _ _ _).mono ?_; rintro r w1 ⟨rfl, rfl⟩) | (go_at_call 118; refine (low_any _ _ _ _ hz (by omega) (by omega) (by omega) (by omega)).mono ?_; rintro r w1 ⟨rfl, rfl⟩))
  go_ret2
  have := HT.out
  exact ⟨by rw [HV.out]; exact beg_eq (by omega) rfl, Keep.refl _ _⟩

set_option maxRecDepth 100000 in
set_option maxHeartbeats 8000000 in
theorem begins_eeL (s : ByteArray) (i : Nat) (w : World) (hz : s.size ≤ 4611686018427387904) (hi : i < s.size) (hF : 238 ≤ byt s i ∧ byt s i < 240 ∧ ¬ (i + 3 ≤ s.size ∧ byt s (i + 1) / 64 = 2 ∧ byt s (i + 2) / 64 = 2)) :
    Calls Tryz.prog 100 #[.string s, .int .i64 i] w fun e w' => e = .returned (begV s i) ∧ Keep [] w w' := by
  have hb0 := byt_at hi
  have hl0 := byt_lt s i
  have hl1 := byt_lt s (i + 1)
  have hl2 := byt_lt s (i + 2)
  have hl3 := byt_lt s (i + 3)
  have d1 : decide ((byt s i : Int) ≤ 127) = false := by simp; omega
  have w194 : withinZ (byt s i : Int) 194 223 = false := by unfold withinZ; simp <;> omega
  have w225 : withinZ (byt s i : Int) 225 236 = false := by unfold withinZ; simp <;> omega
  have w238 : withinZ (byt s i : Int) 238 239 = true := by unfold withinZ; simp <;> omega
  have w241 : withinZ (byt s i : Int) 241 243 = false := by unfold withinZ; simp <;> omega
  have e224 : ((byt s i : Int) == 224) = false := by simp; omega
  have e237 : ((byt s i : Int) == 237) = false := by simp; omega
  have e240 : ((byt s i : Int) == 240) = false := by simp; omega
  have e244 : ((byt s i : Int) == 244) = false := by simp; omega
  have HV := Lib.hid (begV_no (no_rune hi (fun r n ⟨h1, h2⟩ => by omega)))
  by_cases hsz : i + 1 < s.size
  · have hb1 := byt_at hsz
    have hsd : decide ((i : Int) + 1 < (s.size : Int)) = true := by simp; omega
    have lw : lowZ s ((i : Int) + 1) 2 = false := by rw [lowZ_nat]; show lowB s (i + 1) 2 = _; rw [lowZ_2]; simp; omega
    have HF := Lib.hid hF; clear hF
    go_enter Tryz.func100, Tryz.ntmps100
    go_wp2_with (first | (go_at_call 117; refine (within_any _ _ _ _).mono ?_; rintro r w1 ⟨rfl, rfl⟩) | (go_at_call 118; refine (low_any _ _ _ _ hz (by omega) (by omega) (by omega) (by omega)).mono ?_; rintro r w1 ⟨rfl, rfl⟩))
    go_ret2
    exact ⟨by rw [HV.out]; rfl, Keep.refl _ _⟩
  · have hb1 : byt s (i + 1) = 0 := byt_end (by omega)
    have hsd : decide ((i : Int) + 1 < (s.size : Int)) = false := by simp; omega
    have lw : lowZ s ((i : Int) + 1) 2 = false := by rw [lowZ_nat]; show lowB s (i + 1) 2 = _; rw [lowZ_2]; simp; omega
    clear hb1
    have HF := Lib.hid hF; clear hF
    go_enter Tryz.func100, Tryz.ntmps100
    go_wp2_with (first | (go_at_call 117; refine (within_any _ _ _ _).mono ?_; rintro r w1 ⟨rfl, rfl⟩) | (go_at_call 118; refine (low_any _ _ _ _ hz (by omega) (by omega) (by omega) (by omega)).mono ?_; rintro r w1 ⟨rfl, rfl⟩))
    go_ret2
    exact ⟨by rw [HV.out]; rfl, Keep.refl _ _⟩

set_option maxRecDepth 100000 in
set_option maxHeartbeats 8000000 in
theorem begins_f0T (s : ByteArray) (i : Nat) (w : World) (hz : s.size ≤ 4611686018427387904) (hi : i < s.size) (hT : i + 4 ≤ s.size ∧ byt s i = 240 ∧ byt s (i + 1) / 64 = 2 ∧ byt s (i + 2) / 64 = 2 ∧ byt s (i + 3) / 64 = 2 ∧ 144 ≤ byt s (i + 1) ∧ byt s (i + 1) ≤ 191) :
    Calls Tryz.prog 100 #[.string s, .int .i64 i] w fun e w' => e = .returned (begV s i) ∧ Keep [] w w' := by
  have hb0 := byt_at hi
  have hl0 := byt_lt s i
  have hl1 := byt_lt s (i + 1)
  have hl2 := byt_lt s (i + 2)
  have hl3 := byt_lt s (i + 3)
  have d1 : decide ((byt s i : Int) ≤ 127) = false := by simp; omega
  have w194 : withinZ (byt s i : Int) 194 223 = false := by unfold withinZ; simp <;> omega
  have w225 : withinZ (byt s i : Int) 225 236 = false := by unfold withinZ; simp <;> omega
  have w238 : withinZ (byt s i : Int) 238 239 = false := by unfold withinZ; simp <;> omega
  have w241 : withinZ (byt s i : Int) 241 243 = false := by unfold withinZ; simp <;> omega
  have e224 : ((byt s i : Int) == 224) = false := by simp; omega
  have e237 : ((byt s i : Int) == 237) = false := by simp; omega
  have e240 : ((byt s i : Int) == 240) = true := by simp; omega
  have e244 : ((byt s i : Int) == 244) = false := by simp; omega
  have hsz : i + 4 ≤ s.size := hT.1
  have hR : RuneAt s i ((byt s i - 240) * 262144 + byt s (i + 1) % 64 * 4096 + byt s (i + 2) % 64 * 64 + byt s (i + 3) % 64) 4 := ⟨hsz, .inr (.inr (.inr ⟨rfl, by omega, by omega, by omega, by omega, by omega, rfl, by omega, by omega⟩))⟩
  have HV := Lib.hid (begV_is hR); clear hR
  have wb : withinZ (byt s (i + 1) : Int) 144 191 = true := by unfold withinZ; simp <;> omega
  have lw : lowZ s ((i : Int) + 1) 3 = true := by rw [lowZ_nat]; show lowB s (i + 1) 3 = _; rw [lowZ_3]; simp; omega
  have hs1 : i + 1 < s.size := by omega
  have hb1 := byt_at hs1
  have hsd : decide ((i : Int) + 1 < (s.size : Int)) = true := by simp; omega
  have hs2 : i + 2 < s.size := by omega
  have hb2 := byt_at hs2
  have hs3 : i + 3 < s.size := by omega
  have hb3 := byt_at hs3
  have hk2 : ((i : Int) + 2 < (s.size : Int)) := by omega
  have hk3 : ((i : Int) + 3 < (s.size : Int)) := by omega
  have hc1 : byt s (i + 1) < 192 ∧ 128 ≤ byt s (i + 1) := by omega
  obtain ⟨hc1, hd1⟩ := hc1
  have hc2 : byt s (i + 2) < 192 ∧ 128 ≤ byt s (i + 2) := by omega
  obtain ⟨hc2, hd2⟩ := hc2
  have hc3 : byt s (i + 3) < 192 ∧ 128 ≤ byt s (i + 3) := by omega
  obtain ⟨hc3, hd3⟩ := hc3
  have g1 : 240 ≤ byt s i := by omega
  have g2 : byt s i < 245 := by omega
  obtain ⟨hT1, hT⟩ := hT
  have HT := Lib.hid hT; clear hT
  go_enter Tryz.func100, Tryz.ntmps100
  go_wp2_with (first | (go_at_call 117; refine (within_any _ _ _ _).mono ?_; rintro r w1 ⟨rfl, rfl⟩) | (go_at_call 118; refine (low_any _ _ _ _ hz (by omega) (by omega) (by omega) (by omega)).mono ?_; rintro r w1 ⟨rfl, rfl⟩))
  have x2 : IntKind.i64.wrap ((i : Int) + 2) = (i : Int) + 2 := IntWalk.i64_in _ (by omega)
  have y2 : 0 ≤ (i : Int) + 2 := by omega
  have z2 : ((i : Int) + 2).toNat = i + 2 := by omega
  have x3 : IntKind.i64.wrap ((i : Int) + 3) = (i : Int) + 3 := IntWalk.i64_in _ (by omega)
  have y3 : 0 ≤ (i : Int) + 3 := by omega
  have z3 : ((i : Int) + 3).toNat = i + 3 := by omega
  have u0 : IntKind.u8.wrap ((byt s i : Int) - 240) = ((byt s i : Int) - 240) := by rw [IntKind.wrap_u8]; omega
  have u1 : IntKind.u8.wrap ((byt s (i + 1) : Int) - 128) = ((byt s (i + 1) : Int) - 128) := by rw [IntKind.wrap_u8]; omega
  have u2 : IntKind.u8.wrap ((byt s (i + 2) : Int) - 128) = ((byt s (i + 2) : Int) - 128) := by rw [IntKind.wrap_u8]; omega
  have u3 : IntKind.u8.wrap ((byt s (i + 3) : Int) - 128) = ((byt s (i + 3) : Int) - 128) := by rw [IntKind.wrap_u8]; omega
  have v0 : IntKind.i32.wrap (((byt s i : Int) - 240) * 262144) = ((byt s i : Int) - 240) * 262144 := by rw [IntKind.wrap_i32]; omega
  have v1 : IntKind.i32.wrap (((byt s (i + 1) : Int) - 128) * 4096) = ((byt s (i + 1) : Int) - 128) * 4096 := by rw [IntKind.wrap_i32]; omega
  have v2 : IntKind.i32.wrap (((byt s i : Int) - 240) * 262144 + ((byt s (i + 1) : Int) - 128) * 4096) = ((byt s i : Int) - 240) * 262144 + ((byt s (i + 1) : Int) - 128) * 4096 := by rw [IntKind.wrap_i32]; omega
  have v3 : IntKind.i32.wrap (((byt s (i + 2) : Int) - 128) * 64) = ((byt s (i + 2) : Int) - 128) * 64 := by rw [IntKind.wrap_i32]; omega
  have v4 : IntKind.i32.wrap (((byt s i : Int) - 240) * 262144 + ((byt s (i + 1) : Int) - 128) * 4096 + ((byt s (i + 2) : Int) - 128) * 64) = ((byt s i : Int) - 240) * 262144 + ((byt s (i + 1) : Int) - 128) * 4096 + ((byt s (i + 2) : Int) - 128) * 64 := by rw [IntKind.wrap_i32]; omega
  have v5 : IntKind.i32.wrap (((byt s i : Int) - 240) * 262144 + ((byt s (i + 1) : Int) - 128) * 4096 + ((byt s (i + 2) : Int) - 128) * 64 + ((byt s (i + 3) : Int) - 128)) = ((byt s i : Int) - 240) * 262144 + ((byt s (i + 1) : Int) - 128) * 4096 + ((byt s (i + 2) : Int) - 128) * 64 + ((byt s (i + 3) : Int) - 128) := by rw [IntKind.wrap_i32]; omega
  go_quiet (fail)
  clear x2 y2 z2 x3 y3 z3 u0 u1 u2 u3 v0 v1 v2 v3 v4 v5
  go_wp2
  go_ret2
  have := HT.out
  exact ⟨by rw [HV.out]; exact beg_eq (by omega) rfl, (Keep.refl _ _).drewN _⟩

set_option maxRecDepth 100000 in
set_option maxHeartbeats 8000000 in
theorem begins_f0B (s : ByteArray) (i : Nat) (w : World) (hz : s.size ≤ 4611686018427387904) (hi : i < s.size) (hF : byt s i = 240 ∧ (byt s (i + 1) < 144 ∨ 191 < byt s (i + 1))) :
    Calls Tryz.prog 100 #[.string s, .int .i64 i] w fun e w' => e = .returned (begV s i) ∧ Keep [] w w' := by
  have hb0 := byt_at hi
  have hl0 := byt_lt s i
  have hl1 := byt_lt s (i + 1)
  have hl2 := byt_lt s (i + 2)
  have hl3 := byt_lt s (i + 3)
  have d1 : decide ((byt s i : Int) ≤ 127) = false := by simp; omega
  have w194 : withinZ (byt s i : Int) 194 223 = false := by unfold withinZ; simp <;> omega
  have w225 : withinZ (byt s i : Int) 225 236 = false := by unfold withinZ; simp <;> omega
  have w238 : withinZ (byt s i : Int) 238 239 = false := by unfold withinZ; simp <;> omega
  have w241 : withinZ (byt s i : Int) 241 243 = false := by unfold withinZ; simp <;> omega
  have e224 : ((byt s i : Int) == 224) = false := by simp; omega
  have e237 : ((byt s i : Int) == 237) = false := by simp; omega
  have e240 : ((byt s i : Int) == 240) = true := by simp; omega
  have e244 : ((byt s i : Int) == 244) = false := by simp; omega
  have HV := Lib.hid (begV_no (no_rune hi (fun r n ⟨h1, h2⟩ => by omega)))
  by_cases hsz : i + 1 < s.size
  · have hb1 := byt_at hsz
    have hsd : decide ((i : Int) + 1 < (s.size : Int)) = true := by simp; omega
    have wb : withinZ (byt s (i + 1) : Int) 144 191 = false := by unfold withinZ; simp <;> omega
    have HF := Lib.hid hF; clear hF
    go_enter Tryz.func100, Tryz.ntmps100
    go_wp2_with (first | (go_at_call 117; refine (within_any _ _ _ _).mono ?_; rintro r w1 ⟨rfl, rfl⟩) | (go_at_call 118; refine (low_any _ _ _ _ hz (by omega) (by omega) (by omega) (by omega)).mono ?_; rintro r w1 ⟨rfl, rfl⟩))
    go_ret2
    exact ⟨by rw [HV.out]; rfl, Keep.refl _ _⟩
  · have hb1 : byt s (i + 1) = 0 := byt_end (by omega)
    have hsd : decide ((i : Int) + 1 < (s.size : Int)) = false := by simp; omega
    have wb : withinZ (0 : Int) 144 191 = false := by unfold withinZ; simp <;> omega
    clear hb1
    have HF := Lib.hid hF; clear hF
    go_enter Tryz.func100, Tryz.ntmps100
    go_wp2_with (first | (go_at_call 117; refine (within_any _ _ _ _).mono ?_; rintro r w1 ⟨rfl, rfl⟩) | (go_at_call 118; refine (low_any _ _ _ _ hz (by omega) (by omega) (by omega) (by omega)).mono ?_; rintro r w1 ⟨rfl, rfl⟩))
    go_ret2
    exact ⟨by rw [HV.out]; rfl, Keep.refl _ _⟩

set_option maxRecDepth 100000 in
set_option maxHeartbeats 8000000 in
theorem begins_f0L (s : ByteArray) (i : Nat) (w : World) (hz : s.size ≤ 4611686018427387904) (hi : i < s.size) (hF : byt s i = 240 ∧ (144 ≤ byt s (i + 1) ∧ byt s (i + 1) ≤ 191) ∧ ¬ (i + 4 ≤ s.size ∧ byt s (i + 1) / 64 = 2 ∧ byt s (i + 2) / 64 = 2 ∧ byt s (i + 3) / 64 = 2)) :
    Calls Tryz.prog 100 #[.string s, .int .i64 i] w fun e w' => e = .returned (begV s i) ∧ Keep [] w w' := by
  have hb0 := byt_at hi
  have hl0 := byt_lt s i
  have hl1 := byt_lt s (i + 1)
  have hl2 := byt_lt s (i + 2)
  have hl3 := byt_lt s (i + 3)
  have d1 : decide ((byt s i : Int) ≤ 127) = false := by simp; omega
  have w194 : withinZ (byt s i : Int) 194 223 = false := by unfold withinZ; simp <;> omega
  have w225 : withinZ (byt s i : Int) 225 236 = false := by unfold withinZ; simp <;> omega
  have w238 : withinZ (byt s i : Int) 238 239 = false := by unfold withinZ; simp <;> omega
  have w241 : withinZ (byt s i : Int) 241 243 = false := by unfold withinZ; simp <;> omega
  have e224 : ((byt s i : Int) == 224) = false := by simp; omega
  have e237 : ((byt s i : Int) == 237) = false := by simp; omega
  have e240 : ((byt s i : Int) == 240) = true := by simp; omega
  have e244 : ((byt s i : Int) == 244) = false := by simp; omega
  have HV := Lib.hid (begV_no (no_rune hi (fun r n ⟨h1, h2⟩ => by omega)))
  by_cases hsz : i + 1 < s.size
  · have hb1 := byt_at hsz
    have hsd : decide ((i : Int) + 1 < (s.size : Int)) = true := by simp; omega
    have wb : withinZ (byt s (i + 1) : Int) 144 191 = true := by unfold withinZ; simp <;> omega
    have lw : lowZ s ((i : Int) + 1) 3 = false := by rw [lowZ_nat]; show lowB s (i + 1) 3 = _; rw [lowZ_3]; simp; omega
    have HF := Lib.hid hF; clear hF
    go_enter Tryz.func100, Tryz.ntmps100
    go_wp2_with (first | (go_at_call 117; refine (within_any _ _ _ _).mono ?_; rintro r w1 ⟨rfl, rfl⟩) | (go_at_call 118; refine (low_any _ _ _ _ hz (by omega) (by omega) (by omega) (by omega)).mono ?_; rintro r w1 ⟨rfl, rfl⟩))
    go_ret2
    exact ⟨by rw [HV.out]; rfl, Keep.refl _ _⟩
  · have hb1 : byt s (i + 1) = 0 := byt_end (by omega)
    have hsd : decide ((i : Int) + 1 < (s.size : Int)) = false := by simp; omega
    have wb : withinZ (0 : Int) 144 191 = false := by unfold withinZ; simp
    have lw : lowZ s ((i : Int) + 1) 3 = false := by rw [lowZ_nat]; show lowB s (i + 1) 3 = _; rw [lowZ_3]; simp; omega
    clear hb1
    have HF := Lib.hid hF; clear hF
    go_enter Tryz.func100, Tryz.ntmps100
    go_wp2_with (first | (go_at_call 117; refine (within_any _ _ _ _).mono ?_; rintro r w1 ⟨rfl, rfl⟩) | (go_at_call 118; refine (low_any _ _ _ _ hz (by omega) (by omega) (by omega) (by omega)).mono ?_; rintro r w1 ⟨rfl, rfl⟩))
    go_ret2
    exact ⟨by rw [HV.out]; rfl, Keep.refl _ _⟩

set_option maxRecDepth 100000 in
set_option maxHeartbeats 8000000 in
theorem begins_f1T (s : ByteArray) (i : Nat) (w : World) (hz : s.size ≤ 4611686018427387904) (hi : i < s.size) (hT : i + 4 ≤ s.size ∧ 241 ≤ byt s i ∧ byt s i < 244 ∧ byt s (i + 1) / 64 = 2 ∧ byt s (i + 2) / 64 = 2 ∧ byt s (i + 3) / 64 = 2) :
    Calls Tryz.prog 100 #[.string s, .int .i64 i] w fun e w' => e = .returned (begV s i) ∧ Keep [] w w' := by
  have hb0 := byt_at hi
  have hl0 := byt_lt s i
  have hl1 := byt_lt s (i + 1)
  have hl2 := byt_lt s (i + 2)
  have hl3 := byt_lt s (i + 3)
  have d1 : decide ((byt s i : Int) ≤ 127) = false := by simp; omega
  have w194 : withinZ (byt s i : Int) 194 223 = false := by unfold withinZ; simp <;> omega
  have w225 : withinZ (byt s i : Int) 225 236 = false := by unfold withinZ; simp <;> omega
  have w238 : withinZ (byt s i : Int) 238 239 = false := by unfold withinZ; simp <;> omega
  have w241 : withinZ (byt s i : Int) 241 243 = true := by unfold withinZ; simp <;> omega
  have e224 : ((byt s i : Int) == 224) = false := by simp; omega
  have e237 : ((byt s i : Int) == 237) = false := by simp; omega
  have e240 : ((byt s i : Int) == 240) = false := by simp; omega
  have e244 : ((byt s i : Int) == 244) = false := by simp; omega
  have hsz : i + 4 ≤ s.size := hT.1
  have hR : RuneAt s i ((byt s i - 240) * 262144 + byt s (i + 1) % 64 * 4096 + byt s (i + 2) % 64 * 64 + byt s (i + 3) % 64) 4 := ⟨hsz, .inr (.inr (.inr ⟨rfl, by omega, by omega, by omega, by omega, by omega, rfl, by omega, by omega⟩))⟩
  have HV := Lib.hid (begV_is hR); clear hR
  have lw : lowZ s ((i : Int) + 1) 3 = true := by rw [lowZ_nat]; show lowB s (i + 1) 3 = _; rw [lowZ_3]; simp; omega
  have hs1 : i + 1 < s.size := by omega
  have hb1 := byt_at hs1
  have hsd : decide ((i : Int) + 1 < (s.size : Int)) = true := by simp; omega
  have hs2 : i + 2 < s.size := by omega
  have hb2 := byt_at hs2
  have hs3 : i + 3 < s.size := by omega
  have hb3 := byt_at hs3
  have hk2 : ((i : Int) + 2 < (s.size : Int)) := by omega
  have hk3 : ((i : Int) + 3 < (s.size : Int)) := by omega
  have hc1 : byt s (i + 1) < 192 ∧ 128 ≤ byt s (i + 1) := by omega
  obtain ⟨hc1, hd1⟩ := hc1
  have hc2 : byt s (i + 2) < 192 ∧ 128 ≤ byt s (i + 2) := by omega
  obtain ⟨hc2, hd2⟩ := hc2
  have hc3 : byt s (i + 3) < 192 ∧ 128 ≤ byt s (i + 3) := by omega
  obtain ⟨hc3, hd3⟩ := hc3
  have g1 : 240 ≤ byt s i := by omega
  have g2 : byt s i < 245 := by omega
  obtain ⟨hT1, hT⟩ := hT
  have HT := Lib.hid hT; clear hT
  go_enter Tryz.func100, Tryz.ntmps100
  go_wp2_with (first | (go_at_call 117; refine (within_any _ _ _ _).mono ?_; rintro r w1 ⟨rfl, rfl⟩) | (go_at_call 118; refine (low_any _ _ _ _ hz (by omega) (by omega) (by omega) (by omega)).mono ?_; rintro r w1 ⟨rfl, rfl⟩))
  have x2 : IntKind.i64.wrap ((i : Int) + 2) = (i : Int) + 2 := IntWalk.i64_in _ (by omega)
  have y2 : 0 ≤ (i : Int) + 2 := by omega
  have z2 : ((i : Int) + 2).toNat = i + 2 := by omega
  have x3 : IntKind.i64.wrap ((i : Int) + 3) = (i : Int) + 3 := IntWalk.i64_in _ (by omega)
  have y3 : 0 ≤ (i : Int) + 3 := by omega
  have z3 : ((i : Int) + 3).toNat = i + 3 := by omega
  have u0 : IntKind.u8.wrap ((byt s i : Int) - 240) = ((byt s i : Int) - 240) := by rw [IntKind.wrap_u8]; omega
  have u1 : IntKind.u8.wrap ((byt s (i + 1) : Int) - 128) = ((byt s (i + 1) : Int) - 128) := by rw [IntKind.wrap_u8]; omega
  have u2 : IntKind.u8.wrap ((byt s (i + 2) : Int) - 128) = ((byt s (i + 2) : Int) - 128) := by rw [IntKind.wrap_u8]; omega
  have u3 : IntKind.u8.wrap ((byt s (i + 3) : Int) - 128) = ((byt s (i + 3) : Int) - 128) := by rw [IntKind.wrap_u8]; omega
  have v0 : IntKind.i32.wrap (((byt s i : Int) - 240) * 262144) = ((byt s i : Int) - 240) * 262144 := by rw [IntKind.wrap_i32]; omega
  have v1 : IntKind.i32.wrap (((byt s (i + 1) : Int) - 128) * 4096) = ((byt s (i + 1) : Int) - 128) * 4096 := by rw [IntKind.wrap_i32]; omega
  have v2 : IntKind.i32.wrap (((byt s i : Int) - 240) * 262144 + ((byt s (i + 1) : Int) - 128) * 4096) = ((byt s i : Int) - 240) * 262144 + ((byt s (i + 1) : Int) - 128) * 4096 := by rw [IntKind.wrap_i32]; omega
  have v3 : IntKind.i32.wrap (((byt s (i + 2) : Int) - 128) * 64) = ((byt s (i + 2) : Int) - 128) * 64 := by rw [IntKind.wrap_i32]; omega
  have v4 : IntKind.i32.wrap (((byt s i : Int) - 240) * 262144 + ((byt s (i + 1) : Int) - 128) * 4096 + ((byt s (i + 2) : Int) - 128) * 64) = ((byt s i : Int) - 240) * 262144 + ((byt s (i + 1) : Int) - 128) * 4096 + ((byt s (i + 2) : Int) - 128) * 64 := by rw [IntKind.wrap_i32]; omega
  have v5 : IntKind.i32.wrap (((byt s i : Int) - 240) * 262144 + ((byt s (i + 1) : Int) - 128) * 4096 + ((byt s (i + 2) : Int) - 128) * 64 + ((byt s (i + 3) : Int) - 128)) = ((byt s i : Int) - 240) * 262144 + ((byt s (i + 1) : Int) - 128) * 4096 + ((byt s (i + 2) : Int) - 128) * 64 + ((byt s (i + 3) : Int) - 128) := by rw [IntKind.wrap_i32]; omega
  go_quiet (fail)
  clear x2 y2 z2 x3 y3 z3 u0 u1 u2 u3 v0 v1 v2 v3 v4 v5
  go_wp2
  go_ret2
  have := HT.out
  exact ⟨by rw [HV.out]; exact beg_eq (by omega) rfl, (Keep.refl _ _).drewN _⟩

set_option maxRecDepth 100000 in
set_option maxHeartbeats 8000000 in
theorem begins_f1L (s : ByteArray) (i : Nat) (w : World) (hz : s.size ≤ 4611686018427387904) (hi : i < s.size) (hF : 241 ≤ byt s i ∧ byt s i < 244 ∧ ¬ (i + 4 ≤ s.size ∧ byt s (i + 1) / 64 = 2 ∧ byt s (i + 2) / 64 = 2 ∧ byt s (i + 3) / 64 = 2)) :
    Calls Tryz.prog 100 #[.string s, .int .i64 i] w fun e w' => e = .returned (begV s i) ∧ Keep [] w w' := by
  have hb0 := byt_at hi
  have hl0 := byt_lt s i
  have hl1 := byt_lt s (i + 1)
  have hl2 := byt_lt s (i + 2)
  have hl3 := byt_lt s (i + 3)
  have d1 : decide ((byt s i : Int) ≤ 127) = false := by simp; omega
  have w194 : withinZ (byt s i : Int) 194 223 = false := by unfold withinZ; simp <;> omega
  have w225 : withinZ (byt s i : Int) 225 236 = false := by unfold withinZ; simp <;> omega
  have w238 : withinZ (byt s i : Int) 238 239 = false := by unfold withinZ; simp <;> omega
  have w241 : withinZ (byt s i : Int) 241 243 = true := by unfold withinZ; simp <;> omega
  have e224 : ((byt s i : Int) == 224) = false := by simp; omega
  have e237 : ((byt s i : Int) == 237) = false := by simp; omega
  have e240 : ((byt s i : Int) == 240) = false := by simp; omega
  have e244 : ((byt s i : Int) == 244) = false := by simp; omega
  have HV := Lib.hid (begV_no (no_rune hi (fun r n ⟨h1, h2⟩ => by omega)))
  by_cases hsz : i + 1 < s.size
  · have hb1 := byt_at hsz
    have hsd : decide ((i : Int) + 1 < (s.size : Int)) = true := by simp; omega
    have lw : lowZ s ((i : Int) + 1) 3 = false := by rw [lowZ_nat]; show lowB s (i + 1) 3 = _; rw [lowZ_3]; simp; omega
    have HF := Lib.hid hF; clear hF
    go_enter Tryz.func100, Tryz.ntmps100
    go_wp2_with (first | (go_at_call 117; refine (within_any _ _ _ _).mono ?_; rintro r w1 ⟨rfl, rfl⟩) | (go_at_call 118; refine (low_any _ _ _ _ hz (by omega) (by omega) (by omega) (by omega)).mono ?_; rintro r w1 ⟨rfl, rfl⟩))
    go_ret2
    exact ⟨by rw [HV.out]; rfl, Keep.refl _ _⟩
  · have hb1 : byt s (i + 1) = 0 := byt_end (by omega)
    have hsd : decide ((i : Int) + 1 < (s.size : Int)) = false := by simp; omega
    have lw : lowZ s ((i : Int) + 1) 3 = false := by rw [lowZ_nat]; show lowB s (i + 1) 3 = _; rw [lowZ_3]; simp; omega
    clear hb1
    have HF := Lib.hid hF; clear hF
    go_enter Tryz.func100, Tryz.ntmps100
    go_wp2_with (first | (go_at_call 117; refine (within_any _ _ _ _).mono ?_; rintro r w1 ⟨rfl, rfl⟩) | (go_at_call 118; refine (low_any _ _ _ _ hz (by omega) (by omega) (by omega) (by omega)).mono ?_; rintro r w1 ⟨rfl, rfl⟩))
    go_ret2
    exact ⟨by rw [HV.out]; rfl, Keep.refl _ _⟩

set_option maxRecDepth 100000 in
set_option maxHeartbeats 8000000 in
theorem begins_f4T (s : ByteArray) (i : Nat) (w : World) (hz : s.size ≤ 4611686018427387904) (hi : i < s.size) (hT : i + 4 ≤ s.size ∧ byt s i = 244 ∧ byt s (i + 1) / 64 = 2 ∧ byt s (i + 2) / 64 = 2 ∧ byt s (i + 3) / 64 = 2 ∧ 128 ≤ byt s (i + 1) ∧ byt s (i + 1) ≤ 143) :
    Calls Tryz.prog 100 #[.string s, .int .i64 i] w fun e w' => e = .returned (begV s i) ∧ Keep [] w w' := by
  have hb0 := byt_at hi
  have hl0 := byt_lt s i
  have hl1 := byt_lt s (i + 1)
  have hl2 := byt_lt s (i + 2)
  have hl3 := byt_lt s (i + 3)
  have d1 : decide ((byt s i : Int) ≤ 127) = false := by simp; omega
  have w194 : withinZ (byt s i : Int) 194 223 = false := by unfold withinZ; simp <;> omega
  have w225 : withinZ (byt s i : Int) 225 236 = false := by unfold withinZ; simp <;> omega
  have w238 : withinZ (byt s i : Int) 238 239 = false := by unfold withinZ; simp <;> omega
  have w241 : withinZ (byt s i : Int) 241 243 = false := by unfold withinZ; simp <;> omega
  have e224 : ((byt s i : Int) == 224) = false := by simp; omega
  have e237 : ((byt s i : Int) == 237) = false := by simp; omega
  have e240 : ((byt s i : Int) == 240) = false := by simp; omega
  have e244 : ((byt s i : Int) == 244) = true := by simp; omega
  have hsz : i + 4 ≤ s.size := hT.1
  have hR : RuneAt s i ((byt s i - 240) * 262144 + byt s (i + 1) % 64 * 4096 + byt s (i + 2) % 64 * 64 + byt s (i + 3) % 64) 4 := ⟨hsz, .inr (.inr (.inr ⟨rfl, by omega, by omega, by omega, by omega, by omega, rfl, by omega, by omega⟩))⟩
  have HV := Lib.hid (begV_is hR); clear hR
  have wb : withinZ (byt s (i + 1) : Int) 128 143 = true := by unfold withinZ; simp <;> omega
  have lw : lowZ s ((i : Int) + 1) 3 = true := by rw [lowZ_nat]; show lowB s (i + 1) 3 = _; rw [lowZ_3]; simp; omega
  have hs1 : i + 1 < s.size := by omega
  have hb1 := byt_at hs1
  have hsd : decide ((i : Int) + 1 < (s.size : Int)) = true := by simp; omega
  have hs2 : i + 2 < s.size := by omega
  have hb2 := byt_at hs2
  have hs3 : i + 3 < s.size := by omega
  have hb3 := byt_at hs3
  have hk2 : ((i : Int) + 2 < (s.size : Int)) := by omega
  have hk3 : ((i : Int) + 3 < (s.size : Int)) := by omega
  have hc1 : byt s (i + 1) < 192 ∧ 128 ≤ byt s (i + 1) := by omega
  obtain ⟨hc1, hd1⟩ := hc1
  have hc2 : byt s (i + 2) < 192 ∧ 128 ≤ byt s (i + 2) := by omega
  obtain ⟨hc2, hd2⟩ := hc2
  have hc3 : byt s (i + 3) < 192 ∧ 128 ≤ byt s (i + 3) := by omega
  obtain ⟨hc3, hd3⟩ := hc3
  have g1 : 240 ≤ byt s i := by omega
  have g2 : byt s i < 245 := by omega
  obtain ⟨hT1, hT⟩ := hT
  have HT := Lib.hid hT; clear hT
  go_enter Tryz.func100, Tryz.ntmps100
  go_wp2_with (first | (go_at_call 117; refine (within_any _ _ _ _).mono ?_; rintro r w1 ⟨rfl, rfl⟩) | (go_at_call 118; refine (low_any _ _ _ _ hz (by omega) (by omega) (by omega) (by omega)).mono ?_; rintro r w1 ⟨rfl, rfl⟩))
  have x2 : IntKind.i64.wrap ((i : Int) + 2) = (i : Int) + 2 := IntWalk.i64_in _ (by omega)
  have y2 : 0 ≤ (i : Int) + 2 := by omega
  have z2 : ((i : Int) + 2).toNat = i + 2 := by omega
  have x3 : IntKind.i64.wrap ((i : Int) + 3) = (i : Int) + 3 := IntWalk.i64_in _ (by omega)
  have y3 : 0 ≤ (i : Int) + 3 := by omega
  have z3 : ((i : Int) + 3).toNat = i + 3 := by omega
  have u0 : IntKind.u8.wrap ((byt s i : Int) - 240) = ((byt s i : Int) - 240) := by rw [IntKind.wrap_u8]; omega
  have u1 : IntKind.u8.wrap ((byt s (i + 1) : Int) - 128) = ((byt s (i + 1) : Int) - 128) := by rw [IntKind.wrap_u8]; omega
  have u2 : IntKind.u8.wrap ((byt s (i + 2) : Int) - 128) = ((byt s (i + 2) : Int) - 128) := by rw [IntKind.wrap_u8]; omega
  have u3 : IntKind.u8.wrap ((byt s (i + 3) : Int) - 128) = ((byt s (i + 3) : Int) - 128) := by rw [IntKind.wrap_u8]; omega
  have v0 : IntKind.i32.wrap (((byt s i : Int) - 240) * 262144) = ((byt s i : Int) - 240) * 262144 := by rw [IntKind.wrap_i32]; omega
  have v1 : IntKind.i32.wrap (((byt s (i + 1) : Int) - 128) * 4096) = ((byt s (i + 1) : Int) - 128) * 4096 := by rw [IntKind.wrap_i32]; omega
  have v2 : IntKind.i32.wrap (((byt s i : Int) - 240) * 262144 + ((byt s (i + 1) : Int) - 128) * 4096) = ((byt s i : Int) - 240) * 262144 + ((byt s (i + 1) : Int) - 128) * 4096 := by rw [IntKind.wrap_i32]; omega
  have v3 : IntKind.i32.wrap (((byt s (i + 2) : Int) - 128) * 64) = ((byt s (i + 2) : Int) - 128) * 64 := by rw [IntKind.wrap_i32]; omega
  have v4 : IntKind.i32.wrap (((byt s i : Int) - 240) * 262144 + ((byt s (i + 1) : Int) - 128) * 4096 + ((byt s (i + 2) : Int) - 128) * 64) = ((byt s i : Int) - 240) * 262144 + ((byt s (i + 1) : Int) - 128) * 4096 + ((byt s (i + 2) : Int) - 128) * 64 := by rw [IntKind.wrap_i32]; omega
  have v5 : IntKind.i32.wrap (((byt s i : Int) - 240) * 262144 + ((byt s (i + 1) : Int) - 128) * 4096 + ((byt s (i + 2) : Int) - 128) * 64 + ((byt s (i + 3) : Int) - 128)) = ((byt s i : Int) - 240) * 262144 + ((byt s (i + 1) : Int) - 128) * 4096 + ((byt s (i + 2) : Int) - 128) * 64 + ((byt s (i + 3) : Int) - 128) := by rw [IntKind.wrap_i32]; omega
  go_quiet (fail)
  clear x2 y2 z2 x3 y3 z3 u0 u1 u2 u3 v0 v1 v2 v3 v4 v5
  go_wp2
  go_ret2
  have := HT.out
  exact ⟨by rw [HV.out]; exact beg_eq (by omega) rfl, (Keep.refl _ _).drewN _⟩

set_option maxRecDepth 100000 in
set_option maxHeartbeats 8000000 in
theorem begins_f4B (s : ByteArray) (i : Nat) (w : World) (hz : s.size ≤ 4611686018427387904) (hi : i < s.size) (hF : byt s i = 244 ∧ (byt s (i + 1) < 128 ∨ 143 < byt s (i + 1))) :
    Calls Tryz.prog 100 #[.string s, .int .i64 i] w fun e w' => e = .returned (begV s i) ∧ Keep [] w w' := by
  have hb0 := byt_at hi
  have hl0 := byt_lt s i
  have hl1 := byt_lt s (i + 1)
  have hl2 := byt_lt s (i + 2)
  have hl3 := byt_lt s (i + 3)
  have d1 : decide ((byt s i : Int) ≤ 127) = false := by simp; omega
  have w194 : withinZ (byt s i : Int) 194 223 = false := by unfold withinZ; simp <;> omega
  have w225 : withinZ (byt s i : Int) 225 236 = false := by unfold withinZ; simp <;> omega
  have w238 : withinZ (byt s i : Int) 238 239 = false := by unfold withinZ; simp <;> omega
  have w241 : withinZ (byt s i : Int) 241 243 = false := by unfold withinZ; simp <;> omega
  have e224 : ((byt s i : Int) == 224) = false := by simp; omega
  have e237 : ((byt s i : Int) == 237) = false := by simp; omega
  have e240 : ((byt s i : Int) == 240) = false := by simp; omega
  have e244 : ((byt s i : Int) == 244) = true := by simp; omega
  have HV := Lib.hid (begV_no (no_rune hi (fun r n ⟨h1, h2⟩ => by omega)))
  by_cases hsz : i + 1 < s.size
  · have hb1 := byt_at hsz
    have hsd : decide ((i : Int) + 1 < (s.size : Int)) = true := by simp; omega
    have wb : withinZ (byt s (i + 1) : Int) 128 143 = false := by unfold withinZ; simp <;> omega
    have HF := Lib.hid hF; clear hF
    go_enter Tryz.func100, Tryz.ntmps100
    go_wp2_with (first | (go_at_call 117; refine (within_any _ _ _ _).mono ?_; rintro r w1 ⟨rfl, rfl⟩) | (go_at_call 118; refine (low_any _ _ _ _ hz (by omega) (by omega) (by omega) (by omega)).mono ?_; rintro r w1 ⟨rfl, rfl⟩))
    go_ret2
    exact ⟨by rw [HV.out]; rfl, Keep.refl _ _⟩
  · have hb1 : byt s (i + 1) = 0 := byt_end (by omega)
    have hsd : decide ((i : Int) + 1 < (s.size : Int)) = false := by simp; omega
    have wb : withinZ (0 : Int) 128 143 = false := by unfold withinZ; simp <;> omega
    clear hb1
    have HF := Lib.hid hF; clear hF
    go_enter Tryz.func100, Tryz.ntmps100
    go_wp2_with (first | (go_at_call 117; refine (within_any _ _ _ _).mono ?_; rintro r w1 ⟨rfl, rfl⟩) | (go_at_call 118; refine (low_any _ _ _ _ hz (by omega) (by omega) (by omega) (by omega)).mono ?_; rintro r w1 ⟨rfl, rfl⟩))
    go_ret2
    exact ⟨by rw [HV.out]; rfl, Keep.refl _ _⟩

set_option maxRecDepth 100000 in
set_option maxHeartbeats 8000000 in
theorem begins_f4L (s : ByteArray) (i : Nat) (w : World) (hz : s.size ≤ 4611686018427387904) (hi : i < s.size) (hF : byt s i = 244 ∧ (128 ≤ byt s (i + 1) ∧ byt s (i + 1) ≤ 143) ∧ ¬ (i + 4 ≤ s.size ∧ byt s (i + 1) / 64 = 2 ∧ byt s (i + 2) / 64 = 2 ∧ byt s (i + 3) / 64 = 2)) :
    Calls Tryz.prog 100 #[.string s, .int .i64 i] w fun e w' => e = .returned (begV s i) ∧ Keep [] w w' := by
  have hb0 := byt_at hi
  have hl0 := byt_lt s i
  have hl1 := byt_lt s (i + 1)
  have hl2 := byt_lt s (i + 2)
  have hl3 := byt_lt s (i + 3)
  have d1 : decide ((byt s i : Int) ≤ 127) = false := by simp; omega
  have w194 : withinZ (byt s i : Int) 194 223 = false := by unfold withinZ; simp <;> omega
  have w225 : withinZ (byt s i : Int) 225 236 = false := by unfold withinZ; simp <;> omega
  have w238 : withinZ (byt s i : Int) 238 239 = false := by unfold withinZ; simp <;> omega
  have w241 : withinZ (byt s i : Int) 241 243 = false := by unfold withinZ; simp <;> omega
  have e224 : ((byt s i : Int) == 224) = false := by simp; omega
  have e237 : ((byt s i : Int) == 237) = false := by simp; omega
  have e240 : ((byt s i : Int) == 240) = false := by simp; omega
  have e244 : ((byt s i : Int) == 244) = true := by simp; omega
  have HV := Lib.hid (begV_no (no_rune hi (fun r n ⟨h1, h2⟩ => by omega)))
  by_cases hsz : i + 1 < s.size
  · have hb1 := byt_at hsz
    have hsd : decide ((i : Int) + 1 < (s.size : Int)) = true := by simp; omega
    have wb : withinZ (byt s (i + 1) : Int) 128 143 = true := by unfold withinZ; simp <;> omega
    have lw : lowZ s ((i : Int) + 1) 3 = false := by rw [lowZ_nat]; show lowB s (i + 1) 3 = _; rw [lowZ_3]; simp; omega
    have HF := Lib.hid hF; clear hF
    go_enter Tryz.func100, Tryz.ntmps100
    go_wp2_with (first | (go_at_call 117; refine (within_any _ _ _ _).mono ?_; rintro r w1 ⟨rfl, rfl⟩) | (go_at_call 118; refine (low_any _ _ _ _ hz (by omega) (by omega) (by omega) (by omega)).mono ?_; rintro r w1 ⟨rfl, rfl⟩))
    go_ret2
    exact ⟨by rw [HV.out]; rfl, Keep.refl _ _⟩
  · have hb1 : byt s (i + 1) = 0 := byt_end (by omega)
    have hsd : decide ((i : Int) + 1 < (s.size : Int)) = false := by simp; omega
    have wb : withinZ (0 : Int) 128 143 = false := by unfold withinZ; simp
    have lw : lowZ s ((i : Int) + 1) 3 = false := by rw [lowZ_nat]; show lowB s (i + 1) 3 = _; rw [lowZ_3]; simp; omega
    clear hb1
    have HF := Lib.hid hF; clear hF
    go_enter Tryz.func100, Tryz.ntmps100
    go_wp2_with (first | (go_at_call 117; refine (within_any _ _ _ _).mono ?_; rintro r w1 ⟨rfl, rfl⟩) | (go_at_call 118; refine (low_any _ _ _ _ hz (by omega) (by omega) (by omega) (by omega)).mono ?_; rintro r w1 ⟨rfl, rfl⟩))
    go_ret2
    exact ⟨by rw [HV.out]; rfl, Keep.refl _ _⟩

theorem begins_any (s : ByteArray) (i : Nat) (w : World) (hz : s.size ≤ 4611686018427387904) (hi : i < s.size) :
    Calls Tryz.prog 100 #[.string s, .int .i64 i] w fun e w' => e = .returned (begV s i) ∧ Keep [] w w' := by
  by_cases h1 : byt s i < 128
  · exact begins_asc s i w hz hi h1
  by_cases h2 : byt s i < 194 ∨ 245 ≤ byt s i
  · exact begins_none s i w hz hi (by omega)
  by_cases cc2 : 194 ≤ byt s i ∧ byt s i < 224
  · by_cases hl : i + 2 ≤ s.size ∧ byt s (i + 1) / 64 = 2
    · exact begins_c2T s i w hz hi (by omega)
    · exact begins_c2L s i w hz hi (by omega)
  by_cases ce0 : byt s i = 224
  · by_cases hl : i + 3 ≤ s.size ∧ byt s (i + 1) / 64 = 2 ∧ byt s (i + 2) / 64 = 2
    · by_cases hb : 160 ≤ byt s (i + 1) ∧ byt s (i + 1) ≤ 191
      · exact begins_e0T s i w hz hi (by omega)
      · exact begins_e0B s i w hz hi (by omega)
    · by_cases hb : 160 ≤ byt s (i + 1) ∧ byt s (i + 1) ≤ 191
      · exact begins_e0L s i w hz hi (by omega)
      · exact begins_e0B s i w hz hi (by omega)
  by_cases ce1 : 225 ≤ byt s i ∧ byt s i < 237
  · by_cases hl : i + 3 ≤ s.size ∧ byt s (i + 1) / 64 = 2 ∧ byt s (i + 2) / 64 = 2
    · exact begins_e1T s i w hz hi (by omega)
    · exact begins_e1L s i w hz hi (by omega)
  by_cases ced : byt s i = 237
  · by_cases hl : i + 3 ≤ s.size ∧ byt s (i + 1) / 64 = 2 ∧ byt s (i + 2) / 64 = 2
    · by_cases hb : 128 ≤ byt s (i + 1) ∧ byt s (i + 1) ≤ 159
      · exact begins_edT s i w hz hi (by omega)
      · exact begins_edB s i w hz hi (by omega)
    · by_cases hb : 128 ≤ byt s (i + 1) ∧ byt s (i + 1) ≤ 159
      · exact begins_edL s i w hz hi (by omega)
      · exact begins_edB s i w hz hi (by omega)
  by_cases cee : 238 ≤ byt s i ∧ byt s i < 240
  · by_cases hl : i + 3 ≤ s.size ∧ byt s (i + 1) / 64 = 2 ∧ byt s (i + 2) / 64 = 2
    · exact begins_eeT s i w hz hi (by omega)
    · exact begins_eeL s i w hz hi (by omega)
  by_cases cf0 : byt s i = 240
  · by_cases hl : i + 4 ≤ s.size ∧ byt s (i + 1) / 64 = 2 ∧ byt s (i + 2) / 64 = 2 ∧ byt s (i + 3) / 64 = 2
    · by_cases hb : 144 ≤ byt s (i + 1) ∧ byt s (i + 1) ≤ 191
      · exact begins_f0T s i w hz hi (by omega)
      · exact begins_f0B s i w hz hi (by omega)
    · by_cases hb : 144 ≤ byt s (i + 1) ∧ byt s (i + 1) ≤ 191
      · exact begins_f0L s i w hz hi (by omega)
      · exact begins_f0B s i w hz hi (by omega)
  by_cases cf1 : 241 ≤ byt s i ∧ byt s i < 244
  · by_cases hl : i + 4 ≤ s.size ∧ byt s (i + 1) / 64 = 2 ∧ byt s (i + 2) / 64 = 2 ∧ byt s (i + 3) / 64 = 2
    · exact begins_f1T s i w hz hi (by omega)
    · exact begins_f1L s i w hz hi (by omega)
  by_cases cf4 : byt s i = 244
  · by_cases hl : i + 4 ≤ s.size ∧ byt s (i + 1) / 64 = 2 ∧ byt s (i + 2) / 64 = 2 ∧ byt s (i + 3) / 64 = 2
    · by_cases hb : 128 ≤ byt s (i + 1) ∧ byt s (i + 1) ≤ 143
      · exact begins_f4T s i w hz hi (by omega)
      · exact begins_f4B s i w hz hi (by omega)
    · by_cases hb : 128 ≤ byt s (i + 1) ∧ byt s (i + 1) ≤ 143
      · exact begins_f4L s i w hz hi (by omega)
      · exact begins_f4B s i w hz hi (by omega)
  · exfalso; omega
end Go.Proofs.YtbidppjhenfjdaaGreatDoor
