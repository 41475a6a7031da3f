/-
  Walks of apart, edge, Break.
-/
import Derived.Test.YthbcancckogloaaClmC
namespace Go.Proofs.Ythbcancckogloaa
open Go.RowKit Go.Shelf
set_option linter.unusedVariables false
set_option linter.unusedSimpArgs false

set_option maxRecDepth 100000 in
set_option maxHeartbeats 64000000 in
theorem apart_any (s : ByteArray) (l : List Nat) (p : Nat) (w : World) (hz : s.size ≤ 1073741824) (h : At s l p) (h0 : 0 < p) (hp : p < s.size) :
    Calls Try.prog 35 #[.string s, .int .i64 p] w fun e w' => e = .returned (.bool (isb s p)) ∧ Keep [] w w' := by
  obtain ⟨l', i, rfl, hat, hi, hpe⟩ := h.inv h0
  have hib := isb_at h
  rw [ctx_snoc] at hib
  have hlast := (hat.last hi).2
  rw [← hpe] at hlast
  have hlv : lstV s p = .tuple #[.int .i32 (dec s i).1, .int .i64 (dec s i).2, .bool (decide (lstN s p ≠ 0))] := by unfold lstV; rw [hlast]
  have hdv : decV s p = .tuple #[.int .i32 (dec s p).1, .int .i64 (dec s p).2, .bool (isB s p)] := rfl
  have hcp : Hid (∀ W : World, Calls Try.prog 45 #[.string (s.extract 0 i)] W fun e w' => e = .returned (.bool (pic (ctx s l'))) ∧ Keep [] W w') := Lib.hid fun W => by
    have := pictured_any (s.extract 0 i) W (by rw [size_ext _ _ _ hat.le]; have := hat.le; omega)
    rwa [ctx_pre hat] at this
  have hcf : Hid (∀ W : World, Calls Try.prog 46 #[.string (s.extract 0 p)] W fun e w' => e = .returned (.int .i64 (flg (clsAt s i :: ctx s l') : Nat)) ∧ Keep [] W w') := Lib.hid fun W => by
    have := flags_any (s.extract 0 p) W (by rw [size_ext _ _ _ h.le]; have := h.le; omega)
    rwa [ctx_pre h, ctx_snoc] at this
  obtain ⟨ra0, ra1⟩ := cls32 hi
  obtain ⟨rb0, rb1⟩ := cls32 hp
  have HLV := Lib.hid hlv; have HDV := Lib.hid hdv; have HIB := Lib.hid hib
  have hin : (p : Int) - ((dec s i).2 : Int) = (i : Int) := by omega
  have his : i ≤ s.size := hat.le
  have HIN := Lib.hid hin
  have HCA := Lib.hid (show cls (dec s i).1 = clsAt s i from rfl)
  have HCB := Lib.hid (show cls (dec s p).1 = clsAt s p from rfl)
  have HA0 := Lib.hid (cls_range (dec s i).1); have HB0 := Lib.hid (cls_range (dec s p).1)
  rw [HCA.out] at HA0
  rw [HCB.out] at HB0
  clear hlv hdv hlast hib hin hat h hpe
  go_enter Try.func35, Try.ntmps35
  go_wp2_with fail
  refine (last_in s p w (by omega) (by omega) (by omega)).mono ?_
  rintro e w1 ⟨rfl, rfl⟩
  rw [HLV.out]
  clear HLV
  go_wp2_with fail
  refine (decode_in s p _ (by omega) (by omega)).mono ?_
  rintro e w1 ⟨rfl, rfl⟩
  rw [HDV.out]
  clear HDV
  generalize decide (lstN s p ≠ 0) = y0 at *
  generalize isB s p = y1 at *
  generalize (dec s p).2 = n2 at *
  go_wp2_with fail
  refine (class_any _ _ ra0 ra1).mono ?_
  rintro e w1 ⟨rfl, hk⟩
  rw [HCA.out]
  have K1 := Lib.hid hk; clear hk
  go_wp2_with fail
  refine (class_any _ _ rb0 rb1).mono ?_
  rintro e w2 ⟨rfl, hk⟩
  rw [HCB.out]
  have K2 := Lib.hid (K1.out.trans0 hk); clear hk K1 HCA HCB ra0 ra1 rb0 rb1
  generalize clsAt s i = a at *
  generalize clsAt s p = b at *
  generalize (dec s i).2 = n1 at *
  generalize (dec s i).1 = r1 at *
  generalize (dec s p).1 = r2 at *
  obtain ⟨ha0, ha1⟩ := HA0.out
  obtain ⟨hb0, hb1⟩ := HB0.out
  clear HA0 HB0
  generalize hcx : ctx s l' = cx at *
  generalize hres : isb s p = res at *
  have HRES := Lib.hid hres; clear hcx hres
  have hav : a = 0 ∨ a = 1 ∨ a = 2 ∨ a = 3 ∨ a = 4 ∨ a = 5 ∨ a = 6 ∨ a = 7 ∨ a = 8 ∨ a = 9 ∨ a = 10 ∨ a = 11 ∨ a = 12 := by omega
  clear ha0 ha1
  rcases hav with rfl | rfl | rfl | rfl | rfl | rfl | rfl | rfl | rfl | rfl | rfl | rfl | rfl
  · -- 0
    have hbv : (1 ≤ b ∧ b ≤ 3) ∨ b = 0 ∨ b = 4 ∨ b = 5 ∨ (6 ≤ b ∧ b ≠ 4 ∧ b ≠ 5) := by omega
    rcases hbv with hbb | rfl | rfl | rfl | hbb
    · obtain ⟨g1, g2⟩ := hbb
      have d1 : decide (1 ≤ b) = true := by simpa using g1
      have d2 : decide (b ≤ 3) = true := by simpa using g2
      have HR : Hid (res = true) := Lib.hid (by rw [HIB.out]; simp [bt, hardC] <;> omega)
      clear HIB hb0 hb1
      go_wp2
      go_ret
      exact ⟨by rw [HRES.out, HR.out]; rfl, K2.out⟩
    · -- 0
      have HR : Hid (res = true) := Lib.hid (by rw [HIB.out]; simp [bt, hardC] <;> omega)
      clear HIB hb0 hb1
      go_wp2
      go_ret
      exact ⟨by rw [HRES.out, HR.out]; rfl, K2.out⟩
    · -- 4
      have HR : Hid (res = false) := Lib.hid (by rw [HIB.out]; simp [bt, hardC] <;> omega)
      clear HIB hb0 hb1
      go_wp2
      go_ret
      exact ⟨by rw [HRES.out, HR.out]; rfl, K2.out⟩
    · -- 5
      have HR : Hid (res = false) := Lib.hid (by rw [HIB.out]; simp [bt, hardC] <;> omega)
      clear HIB hb0 hb1
      go_wp2
      go_ret
      exact ⟨by rw [HRES.out, HR.out]; rfl, K2.out⟩
    · obtain ⟨g1, q4, q5⟩ := hbb
      have d1 : decide (1 ≤ b) = true := by simp; omega
      have d2 : decide (b ≤ 3) = false := by simp; omega
      have e4 : (b == 4) = false := by simpa using q4
      have e5 : (b == 5) = false := by simpa using q5
      have HR : Hid (res = true) := Lib.hid (by rw [HIB.out]; simp [bt, hardC] <;> omega)
      clear HIB hb0 hb1
      go_wp2
      go_ret
      exact ⟨by rw [HRES.out, HR.out]; rfl, K2.out⟩
  · -- 1
    by_cases h : b = 2
    · subst h
      have HR : Hid (res = false) := Lib.hid (by rw [HIB.out]; simp [bt, hardC] <;> omega)
      clear HIB hb0 hb1
      go_wp2
      go_ret
      exact ⟨by rw [HRES.out, HR.out]; rfl, K2.out⟩
    · have hd : (b == 2) = false := by simpa using h
      have HR : Hid (res = true) := Lib.hid (by rw [HIB.out]; simp [bt, hardC] <;> omega)
      clear HIB hb0 hb1
      go_wp2
      go_ret
      exact ⟨by rw [HRES.out, HR.out]; rfl, K2.out⟩
  · -- 2
    have HR : Hid (res = true) := Lib.hid (by rw [HIB.out]; simp [bt, hardC] <;> omega)
    clear HIB hb0 hb1
    go_wp2
    go_ret
    exact ⟨by rw [HRES.out, HR.out]; rfl, K2.out⟩
  · -- 3
    have HR : Hid (res = true) := Lib.hid (by rw [HIB.out]; simp [bt, hardC] <;> omega)
    clear HIB hb0 hb1
    go_wp2
    go_ret
    exact ⟨by rw [HRES.out, HR.out]; rfl, K2.out⟩
  · -- 4
    have hbv : (1 ≤ b ∧ b ≤ 3) ∨ b = 0 ∨ b = 4 ∨ b = 5 ∨ b = 12 ∨ (6 ≤ b ∧ b ≠ 4 ∧ b ≠ 5 ∧ b ≠ 12) := by omega
    rcases hbv with hbb | rfl | rfl | rfl | rfl | hbb
    · obtain ⟨g1, g2⟩ := hbb
      have d1 : decide (1 ≤ b) = true := by simpa using g1
      have d2 : decide (b ≤ 3) = true := by simpa using g2
      have HR : Hid (res = true) := Lib.hid (by rw [HIB.out]; simp [bt, hardC] <;> omega)
      clear HIB hb0 hb1
      go_wp2
      go_ret
      exact ⟨by rw [HRES.out, HR.out]; rfl, K2.out⟩
    · -- 0
      have HR : Hid (res = true) := Lib.hid (by rw [HIB.out]; simp [bt, hardC] <;> omega)
      clear HIB hb0 hb1
      go_wp2
      go_ret
      exact ⟨by rw [HRES.out, HR.out]; rfl, K2.out⟩
    · -- 4
      have HR : Hid (res = false) := Lib.hid (by rw [HIB.out]; simp [bt, hardC] <;> omega)
      clear HIB hb0 hb1
      go_wp2
      go_ret
      exact ⟨by rw [HRES.out, HR.out]; rfl, K2.out⟩
    · -- 5
      have HR : Hid (res = false) := Lib.hid (by rw [HIB.out]; simp [bt, hardC] <;> omega)
      clear HIB hb0 hb1
      go_wp2
      go_ret
      exact ⟨by rw [HRES.out, HR.out]; rfl, K2.out⟩
    · -- 12
      have hin := HIN.out
      have hzz : decide (s.size < i) = false := by simp; omega
      clear HIN
      go_wp2_with fail
      refine (hcp.out _).mono ?_
      rintro e w3 ⟨rfl, hk⟩
      have K3 := Lib.hid (K2.out.trans0 hk); clear hk
      cases hpv : pic cx with
      | true =>
        have HR : Hid (res = false) := Lib.hid (by rw [HIB.out]; simp [bt, hardC, hpv])
        clear hpv
        go_wp2
        go_ret
        exact ⟨by rw [HRES.out, HR.out]; rfl, K3.out⟩
      | false =>
        have HR : Hid (res = true) := Lib.hid (by rw [HIB.out]; simp [bt, hardC, hpv])
        clear hpv
        go_wp2
        go_ret
        exact ⟨by rw [HRES.out, HR.out]; rfl, K3.out⟩
    · obtain ⟨g1, q4, q5, q12⟩ := hbb
      have d1 : decide (1 ≤ b) = true := by simp; omega
      have d2 : decide (b ≤ 3) = false := by simp; omega
      have e4 : (b == 4) = false := by simpa using q4
      have e5 : (b == 5) = false := by simpa using q5
      have e12 : (b == 12) = false := by simpa using q12
      have HR : Hid (res = true) := Lib.hid (by rw [HIB.out]; simp [bt, hardC] <;> omega)
      clear HIB hb0 hb1
      go_wp2
      go_ret
      exact ⟨by rw [HRES.out, HR.out]; rfl, K2.out⟩
  · -- 5
    have hbv : (1 ≤ b ∧ b ≤ 3) ∨ b = 0 ∨ b = 4 ∨ b = 5 ∨ (6 ≤ b ∧ b ≠ 4 ∧ b ≠ 5) := by omega
    rcases hbv with hbb | rfl | rfl | rfl | hbb
    · obtain ⟨g1, g2⟩ := hbb
      have d1 : decide (1 ≤ b) = true := by simpa using g1
      have d2 : decide (b ≤ 3) = true := by simpa using g2
      have HR : Hid (res = true) := Lib.hid (by rw [HIB.out]; simp [bt, hardC] <;> omega)
      clear HIB hb0 hb1
      go_wp2
      go_ret
      exact ⟨by rw [HRES.out, HR.out]; rfl, K2.out⟩
    · -- 0
      have HR : Hid (res = true) := Lib.hid (by rw [HIB.out]; simp [bt, hardC] <;> omega)
      clear HIB hb0 hb1
      go_wp2
      go_ret
      exact ⟨by rw [HRES.out, HR.out]; rfl, K2.out⟩
    · -- 4
      have HR : Hid (res = false) := Lib.hid (by rw [HIB.out]; simp [bt, hardC] <;> omega)
      clear HIB hb0 hb1
      go_wp2
      go_ret
      exact ⟨by rw [HRES.out, HR.out]; rfl, K2.out⟩
    · -- 5
      have HR : Hid (res = false) := Lib.hid (by rw [HIB.out]; simp [bt, hardC] <;> omega)
      clear HIB hb0 hb1
      go_wp2
      go_ret
      exact ⟨by rw [HRES.out, HR.out]; rfl, K2.out⟩
    · obtain ⟨g1, q4, q5⟩ := hbb
      have d1 : decide (1 ≤ b) = true := by simp; omega
      have d2 : decide (b ≤ 3) = false := by simp; omega
      have e4 : (b == 4) = false := by simpa using q4
      have e5 : (b == 5) = false := by simpa using q5
      have HR : Hid (res = true) := Lib.hid (by rw [HIB.out]; simp [bt, hardC] <;> omega)
      clear HIB hb0 hb1
      go_wp2
      go_ret
      exact ⟨by rw [HRES.out, HR.out]; rfl, K2.out⟩
  · -- 6
    have hbv : (1 ≤ b ∧ b ≤ 3) ∨ b = 0 ∨ b = 4 ∨ b = 5 ∨ b = 6 ∨ (6 ≤ b ∧ b ≠ 4 ∧ b ≠ 5 ∧ b ≠ 6) := by omega
    rcases hbv with hbb | rfl | rfl | rfl | rfl | hbb
    · obtain ⟨g1, g2⟩ := hbb
      have d1 : decide (1 ≤ b) = true := by simpa using g1
      have d2 : decide (b ≤ 3) = true := by simpa using g2
      have HR : Hid (res = true) := Lib.hid (by rw [HIB.out]; simp [bt, hardC] <;> omega)
      clear HIB hb0 hb1
      go_wp2
      go_ret
      exact ⟨by rw [HRES.out, HR.out]; rfl, K2.out⟩
    · -- 0
      have HR : Hid (res = true) := Lib.hid (by rw [HIB.out]; simp [bt, hardC] <;> omega)
      clear HIB hb0 hb1
      go_wp2
      go_ret
      exact ⟨by rw [HRES.out, HR.out]; rfl, K2.out⟩
    · -- 4
      have HR : Hid (res = false) := Lib.hid (by rw [HIB.out]; simp [bt, hardC] <;> omega)
      clear HIB hb0 hb1
      go_wp2
      go_ret
      exact ⟨by rw [HRES.out, HR.out]; rfl, K2.out⟩
    · -- 5
      have HR : Hid (res = false) := Lib.hid (by rw [HIB.out]; simp [bt, hardC] <;> omega)
      clear HIB hb0 hb1
      go_wp2
      go_ret
      exact ⟨by rw [HRES.out, HR.out]; rfl, K2.out⟩
    · -- 6
      have hzz : decide (s.size < p) = false := by simp; omega
      clear HIN
      go_wp2_with fail
      refine (hcf.out _).mono ?_
      rintro e w3 ⟨rfl, hk⟩
      have K3 := Lib.hid (K2.out.trans0 hk); clear hk
      generalize hfn : flg (6 :: cx) = fn at *
      have HR : Hid (res = (((fn : Int) % 2) == 0)) := Lib.hid (by
        rw [HIB.out]
        have : bt (6 :: cx) 6 = if fn % 2 = 1 then false else true := by simp [bt, hardC, hfn]
        rw [this]
        by_cases hq : fn % 2 = 1
        · rw [if_pos hq]; symm; simp; omega
        · rw [if_neg hq]; symm; simp; omega)
      clear hfn
      go_wp2
      go_ret
      exact ⟨by rw [HRES.out, HR.out]; rfl, K3.out⟩
    · obtain ⟨g1, q4, q5, q6⟩ := hbb
      have d1 : decide (1 ≤ b) = true := by simp; omega
      have d2 : decide (b ≤ 3) = false := by simp; omega
      have e4 : (b == 4) = false := by simpa using q4
      have e5 : (b == 5) = false := by simpa using q5
      have e6 : (b == 6) = false := by simpa using q6
      have HR : Hid (res = true) := Lib.hid (by rw [HIB.out]; simp [bt, hardC] <;> omega)
      clear HIB hb0 hb1
      go_wp2
      go_ret
      exact ⟨by rw [HRES.out, HR.out]; rfl, K2.out⟩
  · -- 7
    have hbv : (1 ≤ b ∧ b ≤ 3) ∨ b = 0 ∨ b = 4 ∨ b = 5 ∨ b = 7 ∨ b = 8 ∨ b = 10 ∨ b = 11 ∨ (6 ≤ b ∧ b ≠ 4 ∧ b ≠ 5 ∧ b ≠ 7 ∧ b ≠ 8 ∧ b ≠ 10 ∧ b ≠ 11) := by omega
    rcases hbv with hbb | rfl | rfl | rfl | rfl | rfl | rfl | rfl | hbb
    · obtain ⟨g1, g2⟩ := hbb
      have d1 : decide (1 ≤ b) = true := by simpa using g1
      have d2 : decide (b ≤ 3) = true := by simpa using g2
      have HR : Hid (res = true) := Lib.hid (by rw [HIB.out]; simp [bt, hardC] <;> omega)
      clear HIB hb0 hb1
      go_wp2
      go_ret
      exact ⟨by rw [HRES.out, HR.out]; rfl, K2.out⟩
    · -- 0
      have HR : Hid (res = true) := Lib.hid (by rw [HIB.out]; simp [bt, hardC] <;> omega)
      clear HIB hb0 hb1
      go_wp2
      go_ret
      exact ⟨by rw [HRES.out, HR.out]; rfl, K2.out⟩
    · -- 4
      have HR : Hid (res = false) := Lib.hid (by rw [HIB.out]; simp [bt, hardC] <;> omega)
      clear HIB hb0 hb1
      go_wp2
      go_ret
      exact ⟨by rw [HRES.out, HR.out]; rfl, K2.out⟩
    · -- 5
      have HR : Hid (res = false) := Lib.hid (by rw [HIB.out]; simp [bt, hardC] <;> omega)
      clear HIB hb0 hb1
      go_wp2
      go_ret
      exact ⟨by rw [HRES.out, HR.out]; rfl, K2.out⟩
    · -- 7
      have HR : Hid (res = false) := Lib.hid (by rw [HIB.out]; simp [bt, hardC] <;> omega)
      clear HIB hb0 hb1
      go_wp2
      go_ret
      exact ⟨by rw [HRES.out, HR.out]; rfl, K2.out⟩
    · -- 8
      have HR : Hid (res = false) := Lib.hid (by rw [HIB.out]; simp [bt, hardC] <;> omega)
      clear HIB hb0 hb1
      go_wp2
      go_ret
      exact ⟨by rw [HRES.out, HR.out]; rfl, K2.out⟩
    · -- 10
      have HR : Hid (res = false) := Lib.hid (by rw [HIB.out]; simp [bt, hardC] <;> omega)
      clear HIB hb0 hb1
      go_wp2
      go_ret
      exact ⟨by rw [HRES.out, HR.out]; rfl, K2.out⟩
    · -- 11
      have HR : Hid (res = false) := Lib.hid (by rw [HIB.out]; simp [bt, hardC] <;> omega)
      clear HIB hb0 hb1
      go_wp2
      go_ret
      exact ⟨by rw [HRES.out, HR.out]; rfl, K2.out⟩
    · obtain ⟨g1, q4, q5, q7, q8, q10, q11⟩ := hbb
      have d1 : decide (1 ≤ b) = true := by simp; omega
      have d2 : decide (b ≤ 3) = false := by simp; omega
      have e4 : (b == 4) = false := by simpa using q4
      have e5 : (b == 5) = false := by simpa using q5
      have e7 : (b == 7) = false := by simpa using q7
      have e8 : (b == 8) = false := by simpa using q8
      have e10 : (b == 10) = false := by simpa using q10
      have e11 : (b == 11) = false := by simpa using q11
      have HR : Hid (res = true) := Lib.hid (by rw [HIB.out]; simp [bt, hardC] <;> omega)
      clear HIB hb0 hb1
      go_wp2
      go_ret
      exact ⟨by rw [HRES.out, HR.out]; rfl, K2.out⟩
  · -- 8
    have hbv : (1 ≤ b ∧ b ≤ 3) ∨ b = 0 ∨ b = 4 ∨ b = 5 ∨ b = 8 ∨ b = 9 ∨ (6 ≤ b ∧ b ≠ 4 ∧ b ≠ 5 ∧ b ≠ 8 ∧ b ≠ 9) := by omega
    rcases hbv with hbb | rfl | rfl | rfl | rfl | rfl | hbb
    · obtain ⟨g1, g2⟩ := hbb
      have d1 : decide (1 ≤ b) = true := by simpa using g1
      have d2 : decide (b ≤ 3) = true := by simpa using g2
      have HR : Hid (res = true) := Lib.hid (by rw [HIB.out]; simp [bt, hardC] <;> omega)
      clear HIB hb0 hb1
      go_wp2
      go_ret
      exact ⟨by rw [HRES.out, HR.out]; rfl, K2.out⟩
    · -- 0
      have HR : Hid (res = true) := Lib.hid (by rw [HIB.out]; simp [bt, hardC] <;> omega)
      clear HIB hb0 hb1
      go_wp2
      go_ret
      exact ⟨by rw [HRES.out, HR.out]; rfl, K2.out⟩
    · -- 4
      have HR : Hid (res = false) := Lib.hid (by rw [HIB.out]; simp [bt, hardC] <;> omega)
      clear HIB hb0 hb1
      go_wp2
      go_ret
      exact ⟨by rw [HRES.out, HR.out]; rfl, K2.out⟩
    · -- 5
      have HR : Hid (res = false) := Lib.hid (by rw [HIB.out]; simp [bt, hardC] <;> omega)
      clear HIB hb0 hb1
      go_wp2
      go_ret
      exact ⟨by rw [HRES.out, HR.out]; rfl, K2.out⟩
    · -- 8
      have HR : Hid (res = false) := Lib.hid (by rw [HIB.out]; simp [bt, hardC] <;> omega)
      clear HIB hb0 hb1
      go_wp2
      go_ret
      exact ⟨by rw [HRES.out, HR.out]; rfl, K2.out⟩
    · -- 9
      have HR : Hid (res = false) := Lib.hid (by rw [HIB.out]; simp [bt, hardC] <;> omega)
      clear HIB hb0 hb1
      go_wp2
      go_ret
      exact ⟨by rw [HRES.out, HR.out]; rfl, K2.out⟩
    · obtain ⟨g1, q4, q5, q8, q9⟩ := hbb
      have d1 : decide (1 ≤ b) = true := by simp; omega
      have d2 : decide (b ≤ 3) = false := by simp; omega
      have e4 : (b == 4) = false := by simpa using q4
      have e5 : (b == 5) = false := by simpa using q5
      have e8 : (b == 8) = false := by simpa using q8
      have e9 : (b == 9) = false := by simpa using q9
      have HR : Hid (res = true) := Lib.hid (by rw [HIB.out]; simp [bt, hardC] <;> omega)
      clear HIB hb0 hb1
      go_wp2
      go_ret
      exact ⟨by rw [HRES.out, HR.out]; rfl, K2.out⟩
  · -- 9
    have hbv : (1 ≤ b ∧ b ≤ 3) ∨ b = 0 ∨ b = 4 ∨ b = 5 ∨ b = 9 ∨ (6 ≤ b ∧ b ≠ 4 ∧ b ≠ 5 ∧ b ≠ 9) := by omega
    rcases hbv with hbb | rfl | rfl | rfl | rfl | hbb
    · obtain ⟨g1, g2⟩ := hbb
      have d1 : decide (1 ≤ b) = true := by simpa using g1
      have d2 : decide (b ≤ 3) = true := by simpa using g2
      have HR : Hid (res = true) := Lib.hid (by rw [HIB.out]; simp [bt, hardC] <;> omega)
      clear HIB hb0 hb1
      go_wp2
      go_ret
      exact ⟨by rw [HRES.out, HR.out]; rfl, K2.out⟩
    · -- 0
      have HR : Hid (res = true) := Lib.hid (by rw [HIB.out]; simp [bt, hardC] <;> omega)
      clear HIB hb0 hb1
      go_wp2
      go_ret
      exact ⟨by rw [HRES.out, HR.out]; rfl, K2.out⟩
    · -- 4
      have HR : Hid (res = false) := Lib.hid (by rw [HIB.out]; simp [bt, hardC] <;> omega)
      clear HIB hb0 hb1
      go_wp2
      go_ret
      exact ⟨by rw [HRES.out, HR.out]; rfl, K2.out⟩
    · -- 5
      have HR : Hid (res = false) := Lib.hid (by rw [HIB.out]; simp [bt, hardC] <;> omega)
      clear HIB hb0 hb1
      go_wp2
      go_ret
      exact ⟨by rw [HRES.out, HR.out]; rfl, K2.out⟩
    · -- 9
      have HR : Hid (res = false) := Lib.hid (by rw [HIB.out]; simp [bt, hardC] <;> omega)
      clear HIB hb0 hb1
      go_wp2
      go_ret
      exact ⟨by rw [HRES.out, HR.out]; rfl, K2.out⟩
    · obtain ⟨g1, q4, q5, q9⟩ := hbb
      have d1 : decide (1 ≤ b) = true := by simp; omega
      have d2 : decide (b ≤ 3) = false := by simp; omega
      have e4 : (b == 4) = false := by simpa using q4
      have e5 : (b == 5) = false := by simpa using q5
      have e9 : (b == 9) = false := by simpa using q9
      have HR : Hid (res = true) := Lib.hid (by rw [HIB.out]; simp [bt, hardC] <;> omega)
      clear HIB hb0 hb1
      go_wp2
      go_ret
      exact ⟨by rw [HRES.out, HR.out]; rfl, K2.out⟩
  · -- 10
    have hbv : (1 ≤ b ∧ b ≤ 3) ∨ b = 0 ∨ b = 4 ∨ b = 5 ∨ b = 8 ∨ b = 9 ∨ (6 ≤ b ∧ b ≠ 4 ∧ b ≠ 5 ∧ b ≠ 8 ∧ b ≠ 9) := by omega
    rcases hbv with hbb | rfl | rfl | rfl | rfl | rfl | hbb
    · obtain ⟨g1, g2⟩ := hbb
      have d1 : decide (1 ≤ b) = true := by simpa using g1
      have d2 : decide (b ≤ 3) = true := by simpa using g2
      have HR : Hid (res = true) := Lib.hid (by rw [HIB.out]; simp [bt, hardC] <;> omega)
      clear HIB hb0 hb1
      go_wp2
      go_ret
      exact ⟨by rw [HRES.out, HR.out]; rfl, K2.out⟩
    · -- 0
      have HR : Hid (res = true) := Lib.hid (by rw [HIB.out]; simp [bt, hardC] <;> omega)
      clear HIB hb0 hb1
      go_wp2
      go_ret
      exact ⟨by rw [HRES.out, HR.out]; rfl, K2.out⟩
    · -- 4
      have HR : Hid (res = false) := Lib.hid (by rw [HIB.out]; simp [bt, hardC] <;> omega)
      clear HIB hb0 hb1
      go_wp2
      go_ret
      exact ⟨by rw [HRES.out, HR.out]; rfl, K2.out⟩
    · -- 5
      have HR : Hid (res = false) := Lib.hid (by rw [HIB.out]; simp [bt, hardC] <;> omega)
      clear HIB hb0 hb1
      go_wp2
      go_ret
      exact ⟨by rw [HRES.out, HR.out]; rfl, K2.out⟩
    · -- 8
      have HR : Hid (res = false) := Lib.hid (by rw [HIB.out]; simp [bt, hardC] <;> omega)
      clear HIB hb0 hb1
      go_wp2
      go_ret
      exact ⟨by rw [HRES.out, HR.out]; rfl, K2.out⟩
    · -- 9
      have HR : Hid (res = false) := Lib.hid (by rw [HIB.out]; simp [bt, hardC] <;> omega)
      clear HIB hb0 hb1
      go_wp2
      go_ret
      exact ⟨by rw [HRES.out, HR.out]; rfl, K2.out⟩
    · obtain ⟨g1, q4, q5, q8, q9⟩ := hbb
      have d1 : decide (1 ≤ b) = true := by simp; omega
      have d2 : decide (b ≤ 3) = false := by simp; omega
      have e4 : (b == 4) = false := by simpa using q4
      have e5 : (b == 5) = false := by simpa using q5
      have e8 : (b == 8) = false := by simpa using q8
      have e9 : (b == 9) = false := by simpa using q9
      have HR : Hid (res = true) := Lib.hid (by rw [HIB.out]; simp [bt, hardC] <;> omega)
      clear HIB hb0 hb1
      go_wp2
      go_ret
      exact ⟨by rw [HRES.out, HR.out]; rfl, K2.out⟩
  · -- 11
    have hbv : (1 ≤ b ∧ b ≤ 3) ∨ b = 0 ∨ b = 4 ∨ b = 5 ∨ b = 9 ∨ (6 ≤ b ∧ b ≠ 4 ∧ b ≠ 5 ∧ b ≠ 9) := by omega
    rcases hbv with hbb | rfl | rfl | rfl | rfl | hbb
    · obtain ⟨g1, g2⟩ := hbb
      have d1 : decide (1 ≤ b) = true := by simpa using g1
      have d2 : decide (b ≤ 3) = true := by simpa using g2
      have HR : Hid (res = true) := Lib.hid (by rw [HIB.out]; simp [bt, hardC] <;> omega)
      clear HIB hb0 hb1
      go_wp2
      go_ret
      exact ⟨by rw [HRES.out, HR.out]; rfl, K2.out⟩
    · -- 0
      have HR : Hid (res = true) := Lib.hid (by rw [HIB.out]; simp [bt, hardC] <;> omega)
      clear HIB hb0 hb1
      go_wp2
      go_ret
      exact ⟨by rw [HRES.out, HR.out]; rfl, K2.out⟩
    · -- 4
      have HR : Hid (res = false) := Lib.hid (by rw [HIB.out]; simp [bt, hardC] <;> omega)
      clear HIB hb0 hb1
      go_wp2
      go_ret
      exact ⟨by rw [HRES.out, HR.out]; rfl, K2.out⟩
    · -- 5
      have HR : Hid (res = false) := Lib.hid (by rw [HIB.out]; simp [bt, hardC] <;> omega)
      clear HIB hb0 hb1
      go_wp2
      go_ret
      exact ⟨by rw [HRES.out, HR.out]; rfl, K2.out⟩
    · -- 9
      have HR : Hid (res = false) := Lib.hid (by rw [HIB.out]; simp [bt, hardC] <;> omega)
      clear HIB hb0 hb1
      go_wp2
      go_ret
      exact ⟨by rw [HRES.out, HR.out]; rfl, K2.out⟩
    · obtain ⟨g1, q4, q5, q9⟩ := hbb
      have d1 : decide (1 ≤ b) = true := by simp; omega
      have d2 : decide (b ≤ 3) = false := by simp; omega
      have e4 : (b == 4) = false := by simpa using q4
      have e5 : (b == 5) = false := by simpa using q5
      have e9 : (b == 9) = false := by simpa using q9
      have HR : Hid (res = true) := Lib.hid (by rw [HIB.out]; simp [bt, hardC] <;> omega)
      clear HIB hb0 hb1
      go_wp2
      go_ret
      exact ⟨by rw [HRES.out, HR.out]; rfl, K2.out⟩
  · -- 12
    have hbv : (1 ≤ b ∧ b ≤ 3) ∨ b = 0 ∨ b = 4 ∨ b = 5 ∨ (6 ≤ b ∧ b ≠ 4 ∧ b ≠ 5) := by omega
    rcases hbv with hbb | rfl | rfl | rfl | hbb
    · obtain ⟨g1, g2⟩ := hbb
      have d1 : decide (1 ≤ b) = true := by simpa using g1
      have d2 : decide (b ≤ 3) = true := by simpa using g2
      have HR : Hid (res = true) := Lib.hid (by rw [HIB.out]; simp [bt, hardC] <;> omega)
      clear HIB hb0 hb1
      go_wp2
      go_ret
      exact ⟨by rw [HRES.out, HR.out]; rfl, K2.out⟩
    · -- 0
      have HR : Hid (res = true) := Lib.hid (by rw [HIB.out]; simp [bt, hardC] <;> omega)
      clear HIB hb0 hb1
      go_wp2
      go_ret
      exact ⟨by rw [HRES.out, HR.out]; rfl, K2.out⟩
    · -- 4
      have HR : Hid (res = false) := Lib.hid (by rw [HIB.out]; simp [bt, hardC] <;> omega)
      clear HIB hb0 hb1
      go_wp2
      go_ret
      exact ⟨by rw [HRES.out, HR.out]; rfl, K2.out⟩
    · -- 5
      have HR : Hid (res = false) := Lib.hid (by rw [HIB.out]; simp [bt, hardC] <;> omega)
      clear HIB hb0 hb1
      go_wp2
      go_ret
      exact ⟨by rw [HRES.out, HR.out]; rfl, K2.out⟩
    · obtain ⟨g1, q4, q5⟩ := hbb
      have d1 : decide (1 ≤ b) = true := by simp; omega
      have d2 : decide (b ≤ 3) = false := by simp; omega
      have e4 : (b == 4) = false := by simpa using q4
      have e5 : (b == 5) = false := by simpa using q5
      have HR : Hid (res = true) := Lib.hid (by rw [HIB.out]; simp [bt, hardC] <;> omega)
      clear HIB hb0 hb1
      go_wp2
      go_ret
      exact ⟨by rw [HRES.out, HR.out]; rfl, K2.out⟩
end Go.Proofs.Ythbcancckogloaa
