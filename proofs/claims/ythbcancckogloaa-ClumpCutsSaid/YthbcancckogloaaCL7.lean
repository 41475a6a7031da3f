/-
  ClumpOne, walked.
-/
import Derived.Test.YthbcancckogloaaClmM
import Derived.Test.YthbcancckogloaaClmT
namespace Go.Proofs.Ythbcancckogloaa
open Go.RowKit
set_option linter.unusedVariables false
set_option linter.unusedSimpArgs false

theorem cluV_cluT (s : ByteArray) : cluV s = (cluT s).map .string := by unfold cluV cluT; rw [List.map_map]; rfl
theorem cluT_len (s : ByteArray) : (cluT s).length = (clumps s).length := by simp [cluT]
theorem cluT_at {s : ByteArray} {k : Nat} (h : k < (clumps s).length) : (cluT s)[k]? = some (s.extract (plc s k) (plc s (k + 1))) := by
  unfold cluT
  rw [List.getElem?_map, List.getElem?_eq_getElem h, (clumps_at h).1]; rfl
theorem clump_whole_at {s : ByteArray} {k : Nat} (h : k < (clumps s).length) : ∀ q ∈ cut (s.extract (plc s k) (plc s (k + 1))) 0, q ≠ 0 → isb (s.extract (plc s k) (plc s (k + 1))) q = false := by
  have hl := clumps_len s
  have h1 := List.getElem?_eq_getElem (show k < (brk s).length by omega)
  have h2 := List.getElem?_eq_getElem (show k + 1 < (brk s).length by omega)
  have e1 : plc s k = (brk s)[k] := by unfold plc; rw [h1]; rfl
  have e2 : plc s (k + 1) = (brk s)[k + 1] := by unfold plc; rw [h2]; rfl
  rw [e1, e2]
  exact clump_whole h1 h2

set_option maxRecDepth 100000 in
set_option maxHeartbeats 16000000 in
theorem clumpOne_walk (s : ByteArray) (w : World) (hs : s.size ≤ maxLen) :
    Calls Try.prog 9 #[.string s] w fun e w' => e = .returned (.bool true) ∧ Keep [] w w' := by
  unfold maxLen at hs
  by_cases hz : s.size ≤ 20000
  · have hzd : decide ((20000 : Int) < (s.size : Int)) = false := by simp; omega
    go_enter Try.func9, Try.ntmps9
    go_wp2_with fail
    refine (parts_any s _ (by omega)).mono ?_
    rintro e w1 ⟨ad, cap, rfl, hown, hk⟩
    obtain ⟨_, _, he, _, hc⟩ := SlAt.of_owns hown
    cases he
    have HC := Lib.hid hc; have K1 := Lib.hid hk
    clear hc hk hown
    have hcl := clumps_len s
    have hbl := brk_len s
    have hn2 : (clumps s).length ≤ 20000 := by omega
    clear hcl hbl
    obtain ⟨n, hn⟩ : ∃ n, n = (clumps s).length := ⟨_, rfl⟩
    rw [← hn] at HC hn2 ⊢
    have HN := Lib.hid hn; clear hn
    go_wp2
    go_loopw [5] (fun i W => ∃ k : Nat, k ≤ n ∧ i = .int .i64 k ∧ Keep [] w1 W) (fun i _ => n - (intOf i).toNat)
    case atStart => exact ⟨0, by omega, rfl, Keep.refl _ _⟩
    case round =>
      rename World => w2
      obtain ⟨k, hk, rfl, hkp⟩ := hrel
      by_cases hlt : k < n
      · have hltd : decide ((k : Int) < (n : Int)) = true := by simp; omega
        have hkl : k < (clumps s).length := by rw [← HN.out]; omega
        obtain ⟨b, off, rfl, hcs⟩ := HC.out (by omega)
        have c0 := hkp.cellv (hcs k _ (cluV_at hkl)) (by simp)
        have HW := Lib.hid (clump_whole_at hkl)
        obtain ⟨_, hpl, hps⟩ := clumps_at hkl
        have hxz : (s.extract (plc s k) (plc s (k + 1))).size ≤ 20000 := by rw [size_ext _ _ _ hps]; omega
        have HKP := Lib.hid hkp
        clear hcs hkp hpl hps
        generalize s.extract (plc s k) (plc s (k + 1)) = x at *
        have hcx := cut_len_le x 0 (Nat.zero_le _)
        go_wp2_with fail
        refine (pieces_any x w2 (by omega)).mono ?_
        rintro r w3 ⟨v, rfl, ho, hk3, _⟩
        obtain ⟨ad2, cap2, rfl, hpc⟩ := PcAt.of_owns ho
        have HP := Lib.hid hpc
        have c0' := hk3.cellv c0 (by simp)
        have HC0 := Lib.hid c0'
        have HK3 := Lib.hid (HKP.out.trans0 hk3); clear hk3 ho hpc c0 c0'
        obtain ⟨q, hq⟩ : ∃ q, q = (cut x 0).length := ⟨_, rfl⟩
        rw [← hq] at hcx HP ⊢
        have HQ := Lib.hid hq; clear hq
        go_wp2
        go_loopw [7, 8, 9, 10, 11] (fun f p h bf j W => ∃ m : Nat, m ≤ q ∧ j = .int .i64 m ∧ f = .int .i64 (flN x m : Nat) ∧ p = .int .i64 (piN x m : Nat) ∧ h = .int .i64 (haN x m : Nat) ∧ bf = .int .i64 (bfN x m) ∧ Keep [] w3 W) (fun _ _ _ _ j _ => q - (intOf j).toNat)
        case atStart => exact ⟨0, by omega, rfl, rfl, rfl, rfl, rfl, Keep.refl _ _⟩
        case round =>
          rename World => w4
          obtain ⟨m, hm, rfl, rfl, rfl, rfl, rfl, hk4⟩ := hrel
          have hfl := flN_le x m
          have hpi := piN_le x m
          have hha := haN_le x m
          by_cases hlm : m < q
          · have hlmd : decide ((m : Int) < (q : Int)) = true := by simp; omega
            have hml : m < (cut x 0).length := by rw [← HQ.out]; omega
            obtain ⟨b2, off2, rfl, hcs⟩ := HP.out (by omega)
            have hke := List.getElem?_eq_getElem hml
            have hpss := (at_get x m hml).2
            obtain ⟨_, c1, _, c3⟩ := hcs m _ hke
            have d1 := hk4.cellv c1 (by simp)
            have d3 := hk4.cellv c3 (by simp)
            obtain ⟨r0, r1⟩ := cls32b hpss
            have hcc := clN_at hke
            have HBAD := Lib.hid (fun h => clsAt_bad hpss h)
            have HCL := Lib.hid (show cls (dec x (cut x 0)[m]).1 = clsAt x (cut x 0)[m] from rfl)
            rw [← hcc] at HCL HBAD
            have E6 := Lib.hid (show flN x (m + 1) = if clN x m = 6 then flN x m + 1 else flN x m from rfl)
            have E12 := Lib.hid (show piN x (m + 1) = if clN x m = 12 ∧ bfN x m ≠ 4 then piN x m + 1 else piN x m from rfl)
            have E1 := Lib.hid (show haN x (m + 1) = if 1 ≤ clN x m ∧ clN x m ≤ 3 then haN x m + 1 else haN x m from rfl)
            have EB := Lib.hid (show bfN x (m + 1) = clN x m from rfl)
            have HK4 := Lib.hid hk4
            clear c1 c3 hcs hke hcc hk4
            generalize (dec x (cut x 0)[m]).1 = r1 at *
            generalize isB x (cut x 0)[m] = bb at *
            generalize clN x m = c at *
            generalize flN x m = fl at *
            generalize piN x m = pi at *
            generalize haN x m = ha at *
            generalize bfN x m = bf at *
            generalize clsAt x (cut x 0)[m] = ct at *
            generalize (cut x 0)[m] = pp at *
            go_wp2_with fail
            refine (class_any _ _ r0 r1).mono ?_
            rintro r w5 ⟨rfl, hk5⟩
            rw [HCL.out]
            have d3 := hk5.cellv d3 (by simp)
            have HK5 := Lib.hid (HK4.out.trans0 hk5)
            clear hk5 HCL d1
            cases bb with
            | true =>
              by_cases h6 : c = 6
              · have EE := Lib.hid (show flN x (m + 1) = fl + 1 ∧ piN x (m + 1) = pi ∧ haN x (m + 1) = ha ∧ bfN x (m + 1) = c from ⟨by rw [E6.out, if_pos (by omega)], by rw [E12.out, if_neg (by omega)], by rw [E1.out, if_neg (by omega)], EB.out⟩)
                have t6 : (c == 6) = true := by simp; omega
                have t12 : (c == 12) = false := by simp; omega
                have t1 : decide (1 ≤ c) = true := by simp; omega
                have t3 : decide (c ≤ 3) = false := by simp; omega
                clear h6
                go_wp2
                exact ⟨⟨m + 1, by omega, by go_num, by rw [EE.out.1]; go_num, by rw [EE.out.2.1], by rw [EE.out.2.2.1], by rw [EE.out.2.2.2], HK5.out⟩, by simp [intOf]; omega⟩
              by_cases h12 : c = 12 ∧ bf ≠ 4
              · have EE := Lib.hid (show flN x (m + 1) = fl ∧ piN x (m + 1) = pi + 1 ∧ haN x (m + 1) = ha ∧ bfN x (m + 1) = c from ⟨by rw [E6.out, if_neg (by omega)], by rw [E12.out, if_pos (by omega)], by rw [E1.out, if_neg (by omega)], EB.out⟩)
                have t6 : (c == 6) = false := by simp; omega
                have t12 : (c == 12) = true := by simp; omega
                have tb : (bf != 4) = true := by simp; omega
                have t1 : decide (1 ≤ c) = true := by simp; omega
                have t3 : decide (c ≤ 3) = false := by simp; omega
                clear h12 h6
                go_wp2
                exact ⟨⟨m + 1, by omega, by go_num, by rw [EE.out.1], by rw [EE.out.2.1]; go_num, by rw [EE.out.2.2.1], by rw [EE.out.2.2.2], HK5.out⟩, by simp [intOf]; omega⟩
              by_cases h12' : c = 12
              · have EE := Lib.hid (show flN x (m + 1) = fl ∧ piN x (m + 1) = pi ∧ haN x (m + 1) = ha ∧ bfN x (m + 1) = c from ⟨by rw [E6.out, if_neg (by omega)], by rw [E12.out, if_neg (by omega)], by rw [E1.out, if_neg (by omega)], EB.out⟩)
                have t6 : (c == 6) = false := by simp; omega
                have t12 : (c == 12) = true := by simp; omega
                have tb : (bf != 4) = false := by simp; omega
                have t1 : decide (1 ≤ c) = true := by simp; omega
                have t3 : decide (c ≤ 3) = false := by simp; omega
                clear h12 h12' h6
                go_wp2
                exact ⟨⟨m + 1, by omega, by go_num, by rw [EE.out.1], by rw [EE.out.2.1], by rw [EE.out.2.2.1], by rw [EE.out.2.2.2], HK5.out⟩, by simp [intOf]; omega⟩
              by_cases h1 : 1 ≤ c ∧ c ≤ 3
              · have EE := Lib.hid (show flN x (m + 1) = fl ∧ piN x (m + 1) = pi ∧ haN x (m + 1) = ha + 1 ∧ bfN x (m + 1) = c from ⟨by rw [E6.out, if_neg (by omega)], by rw [E12.out, if_neg (by omega)], by rw [E1.out, if_pos (by omega)], EB.out⟩)
                have t6 : (c == 6) = false := by simp; omega
                have t12 : (c == 12) = false := by simp; omega
                have t1 : decide (1 ≤ c) = true := by simp; omega
                have t3 : decide (c ≤ 3) = true := by simp; omega
                clear h12 h12' h6 h1
                go_wp2
                exact ⟨⟨m + 1, by omega, by go_num, by rw [EE.out.1], by rw [EE.out.2.1], by rw [EE.out.2.2.1]; go_num, by rw [EE.out.2.2.2], HK5.out⟩, by simp [intOf]; omega⟩
              by_cases h3 : 1 ≤ c
              · have EE := Lib.hid (show flN x (m + 1) = fl ∧ piN x (m + 1) = pi ∧ haN x (m + 1) = ha ∧ bfN x (m + 1) = c from ⟨by rw [E6.out, if_neg (by omega)], by rw [E12.out, if_neg (by omega)], by rw [E1.out, if_neg (by omega)], EB.out⟩)
                have t6 : (c == 6) = false := by simp; omega
                have t12 : (c == 12) = false := by simp; omega
                have t1 : decide (1 ≤ c) = true := by simp; omega
                have t3 : decide (c ≤ 3) = false := by simp; omega
                clear h12 h12' h6 h1 h3
                go_wp2
                exact ⟨⟨m + 1, by omega, by go_num, by rw [EE.out.1], by rw [EE.out.2.1], by rw [EE.out.2.2.1], by rw [EE.out.2.2.2], HK5.out⟩, by simp [intOf]; omega⟩
              · have EE := Lib.hid (show flN x (m + 1) = fl ∧ piN x (m + 1) = pi ∧ haN x (m + 1) = ha ∧ bfN x (m + 1) = c from ⟨by rw [E6.out, if_neg (by omega)], by rw [E12.out, if_neg (by omega)], by rw [E1.out, if_neg (by omega)], EB.out⟩)
                have t6 : (c == 6) = false := by simp; omega
                have t12 : (c == 12) = false := by simp; omega
                have t1 : decide (1 ≤ c) = false := by simp; omega
                clear h12 h12' h6 h1 h3
                go_wp2
                exact ⟨⟨m + 1, by omega, by go_num, by rw [EE.out.1], by rw [EE.out.2.1], by rw [EE.out.2.2.1], by rw [EE.out.2.2.2], HK5.out⟩, by simp [intOf]; omega⟩
            | false =>
              obtain rfl : c = 0 := HBAD.out rfl
              have EE := Lib.hid (show flN x (m + 1) = fl ∧ piN x (m + 1) = pi ∧ haN x (m + 1) = ha ∧ bfN x (m + 1) = 0 from ⟨by rw [E6.out, if_neg (by omega)], by rw [E12.out, if_neg (by omega)], by rw [E1.out, if_neg (by omega)], EB.out⟩)
              go_wp2
              exact ⟨⟨m + 1, by omega, by go_num, by rw [EE.out.1], by rw [EE.out.2.1], by rw [EE.out.2.2.1], by rw [EE.out.2.2.2], HK5.out⟩, by simp [intOf]; omega⟩
          · have hlmd : decide ((m : Int) < (q : Int)) = false := by simp; omega
            obtain rfl : m = q := by omega
            have hqe : (clL x).length = m := by rw [clL_len]; exact HQ.out.symm
            have hf2 := flags_2 HW.out (clL x).length (Nat.le_refl _)
            have hp1 := pics_1 HW.out (clL x).length (Nat.le_refl _)
            have hh := hards HW.out
            rw [hqe] at hf2 hp1 hh
            have HX := Lib.hid (HK3.out.trans0 hk4)
            have cX := hk4.cellv HC0.out (by simp)
            clear hk4 hqe
            generalize flN x m = fl at *
            generalize piN x m = pi at *
            generalize haN x m = ha at *
            generalize bfN x m = bf at *
            have tf : decide ((2 : Int) < (fl : Int)) = false := by simp; omega
            have tp : decide ((1 : Int) < (pi : Int)) = false := by simp; omega
            clear hf2 hp1
            by_cases h0 : ha = 0
            · have th : decide (0 < ha) = false := by simp; omega
              clear hh h0
              go_wp2
              exact ⟨⟨k + 1, by omega, by go_num, HX.out⟩, by simp [intOf]; omega⟩
            · have th : decide (0 < ha) = true := by simp; omega
              by_cases hm1 : m ≤ 1
              · have tm : decide ((1 : Int) < (m : Int)) = false := by simp; omega
                clear hh h0 hm1
                go_wp2
                exact ⟨⟨k + 1, by omega, by go_num, HX.out⟩, by simp [intOf]; omega⟩
              · have tm : decide ((1 : Int) < (m : Int)) = true := by simp; omega
                have hx : x = crlfB := hh.resolve_left h0 |>.resolve_left hm1
                have tx : (x.toList == [13, 10]) = true := by rw [hx]; kernel_rfl
                clear hh h0 hm1 hx
                go_wp2
                exact ⟨⟨k + 1, by omega, by go_num, HX.out⟩, by simp [intOf]; omega⟩
      · have hltd : decide ((k : Int) < (n : Int)) = false := by simp; omega
        have HK2 := Lib.hid (K1.out.trans0 hkp); clear hkp
        go_wp2_with fail
        refine (known_true _).mono ?_
        rintro q w7 ⟨rfl, hk7⟩
        have K7 := Lib.hid (HK2.out.trans0 hk7); clear hk7
        go_wp2
        go_ret
        exact ⟨rfl, K7.out⟩
  · have hzd : decide ((20000 : Int) < (s.size : Int)) = true := by simp; omega
    go_enter Try.func9, Try.ntmps9
    go_wp2_with fail
    refine (known_true _).mono ?_
    rintro q w3 ⟨rfl, hk3⟩
    have HK3 := Lib.hid hk3; clear hk3
    go_wp2
    go_ret
    exact ⟨rfl, HK3.out⟩
end Go.Proofs.Ythbcancckogloaa
