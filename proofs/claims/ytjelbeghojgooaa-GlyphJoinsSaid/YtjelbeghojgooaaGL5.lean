/-
  GlyphMends, walked.
-/
import Derived.Test.YtjelbeghojgooaaGlyO
namespace Go.Proofs.Ytjelbeghojgooaa
open Go.RowKit
set_option linter.unusedVariables false
set_option linter.unusedSimpArgs false

theorem badAt_good {s : ByteArray} (h : Good s 0) : badAt s = -1 := badAt_none h
theorem badAt_or (s : ByteArray) : (badAt s = -1 ∧ Good s 0) ∨ 0 ≤ badAt s := by
  unfold badAt
  cases hf : (cut s 0).find? (fun j => wid s j == 0) with
  | none =>
    left
    refine ⟨rfl, fun j hj => ?_⟩
    have := List.find?_eq_none.1 hf j hj
    simpa using this
  | some j => right; exact Int.natCast_nonneg j
theorem mend_is_good (s : ByteArray) : Good (mend s) 0 := (runs_text (runs s 0)).2
theorem mend_mend (s : ByteArray) : mend (mend s) = mend s := mend_good (mend_is_good s)
theorem mend_count (s : ByteArray) : (cut (mend s) 0).length = (cut s 0).length := by
  unfold mend; rw [cut_txt_len]; simp [runs]
theorem mend_ne {s : ByteArray} (h : 0 ≤ badAt s) : mend s ≠ s := fun e => by
  have := badAt_good (mend_is_good s)
  rw [e] at this
  omega
theorem mend_size (s : ByteArray) : (mend s).size ≤ 4 * s.size := by
  have := txt_size (runs s 0)
  have hc := cut_len_le s 0 (Nat.zero_le _)
  have : (runs s 0).length = (cut s 0).length := by simp [runs]
  unfold mend
  omega
theorem runs_len (s : ByteArray) : (runs s 0).length = (cut s 0).length := by simp [runs]
theorem runs_txt_len (l : List Int) : (runs (txt l) 0).length = l.length := by rw [(runs_text l).1]; simp
theorem str_ne {a b : ByteArray} (h : a ≠ b) : (a.toList == b.toList) = false := by
  rw [beq_eq_false_iff_ne, ByteArray.toList_eq, ByteArray.toList_eq]
  intro e
  exact h (ByteArray.ext (Array.toList_inj.1 e))
theorem valid_no {n : Int} (h : ¬ ((0 ≤ n ∧ n < 55296) ∨ (57344 ≤ n ∧ n ≤ 1114111))) : fixr n = 65533 := by unfold fixr; rw [valid_f h]; rfl
theorem valid_yes {n : Int} (h : (0 ≤ n ∧ n < 55296) ∨ (57344 ≤ n ∧ n ≤ 1114111)) : fixr n = n := fixr_of (valid_t h)

set_option maxRecDepth 100000 in
set_option maxHeartbeats 16000000 in
theorem glyphMends_walk (s : ByteArray) (va : Value) (l : List Int) (w : World) (hs : s.size ≤ maxLen) (ha : ElemsAt w va 1 (fun x => [Value.int .i32 x]) l) :
    Calls Try.prog 8 #[.string s, va] w fun e w' => e = .returned (.bool true) ∧ Keep [] w w' := by
  unfold maxLen at hs
  have hsl := ha.runes
  obtain ⟨ad, cap, rfl, hx1, hx2⟩ := hsl
  have HSL := Lib.hid (show SlAt w (.slice ad l.length cap) l.length (l.map (Value.int .i32)) from ⟨ad, cap, rfl, hx1, hx2⟩)
  have HC := Lib.hid hx2; clear hx1 hx2 ha
  by_cases hzs : s.size ≤ 20000
  · have hzd : decide ((20000 : Int) < (s.size : Int)) = false := by simp; omega
    by_cases hzl : l.length ≤ 20000
    · have hzld : decide ((20000 : Int) < (l.length : Int)) = false := by simp; omega
      have hms := mend_size s
      have HMM := Lib.hid (mend_mend s); have HMC := Lib.hid (mend_count s); have HMG := Lib.hid (badAt_good (mend_is_good s)); have HRL := Lib.hid (runs_len s)
      have hcl := cut_len_le s 0 (Nat.zero_le _)
      have HTB := Lib.hid (badAt_good (runs_text l).2)
      have HTL := Lib.hid (runs_txt_len l)
      have HTR := Lib.hid (runs_text l).1
      have hts := txt_size l
      go_enter Try.func8, Try.ntmps8
      go_wp2_with fail
      refine (mend_any s _ (by omega)).mono ?_
      rintro q w1 ⟨rfl, hk⟩
      have HK1 := Lib.hid hk; clear hk
      have hcalls : ∀ W, Calls Try.prog 19 #[.string s] W fun e w' => e = .returned (.int .i64 (badAt s)) ∧ Keep [] W w' := fun W => badAt_any s W (by omega)
      have HBA := Lib.hid hcalls; clear hcalls
      have HBM := Lib.hid (fun W => badAt_any (mend s) W (by omega)); have HMMC := Lib.hid (fun W => mend_any (mend s) W (by omega)); have HCM := Lib.hid (fun W => count_any (mend s) W (by omega)); have HCS := Lib.hid (fun W => count_any s W (by omega))
      have HRS := Lib.hid (fun W => runes_any s W (by omega))
      have HTX := Lib.hid (fun v W (h : SlAt W v (runs s 0).length ((runs s 0).map (Value.int .i32))) => text_any v (runs s 0) W h)
      rw [HMG.out] at HBM
      rw [HMM.out] at HMMC
      rw [HMC.out] at HCM
      have hmt : txt (runs s 0) = mend s := rfl
      rw [hmt] at HTX
      clear hmt
      have hgood : (badAt s = -1 ∧ mend s = s) ∨ (0 ≤ badAt s ∧ ((mend s).toList == s.toList) = false) := by
        rcases badAt_or s with ⟨h1, h2⟩ | h
        · exact .inl ⟨h1, mend_good h2⟩
        · exact .inr ⟨h, str_ne (mend_ne h)⟩
      clear hms
      rcases hgood with ⟨hb, hm⟩ | ⟨hb, hm⟩
      · rw [hm] at HBM HMMC HCM HTX HMG ⊢
        rw [hb] at HBA
        clear hm hb HMM HMC
        go_wp2_with fail
        refine (HBA.out _).mono ?_
        rintro q W2 ⟨rfl, hk⟩
        have HK2 := Lib.hid (HK1.out.trans0 hk); clear hk HK1
        go_wp2_with fail
        refine (HBM.out _).mono ?_
        rintro q W3 ⟨rfl, hk⟩
        have HK3 := Lib.hid (HK2.out.trans0 hk); clear hk HK2
        go_wp2_with fail
        refine (HBA.out _).mono ?_
        rintro q W4 ⟨rfl, hk⟩
        have HK4 := Lib.hid (HK3.out.trans0 hk); clear hk HK3
        go_wp2_with fail
        refine (HMMC.out _).mono ?_
        rintro q W5 ⟨rfl, hk⟩
        have HK5 := Lib.hid (HK4.out.trans0 hk); clear hk HK4
        go_wp2_with fail
        refine (HCM.out _).mono ?_
        rintro q W6 ⟨rfl, hk⟩
        have HK6 := Lib.hid (HK5.out.trans0 hk); clear hk HK5
        go_wp2_with fail
        refine (HCS.out _).mono ?_
        rintro q W7 ⟨rfl, hk⟩
        have HK7 := Lib.hid (HK6.out.trans0 hk); clear hk HK6
        generalize (cut s 0).length = cc at *
        have hcc : (cc != cc) = false := by simp
        have hccz : ((cc : Int) != (cc : Int)) = false := by simp
        go_wp2_with fail
        refine (HRS.out _).mono ?_
        intro r w9 hp
        obtain ⟨rfl, hs9, hk⟩ := hp.sl
        have HK8 := Lib.hid (HK7.out.trans0 hk); have HS9 := Lib.hid hs9; clear hk HK7 hs9 hp
        go_wp2_with fail
        refine (HTX.out _ _ HS9.out).mono ?_
        rintro q w10 ⟨rfl, rfl⟩
        clear hcc hccz
        go_wp2_with fail
        refine (text_any _ l _ (HSL.out.keep0 HK8.out)).mono ?_
        rintro q w11 ⟨rfl, rfl⟩
        have HRT := Lib.hid (fun W => runes_any (txt l) W (by omega)); have HBT := Lib.hid (fun W => badAt_any (txt l) W (by omega))
        rw [HTB.out] at HBT
        go_wp2_with fail
        refine (HRT.out _).mono ?_
        intro r w12 hp
        obtain ⟨rfl, hs12, hk⟩ := hp.sl
        rw [HTL.out] at hs12 ⊢
        rw [HTR.out] at hs12
        have HK9 := Lib.hid (HK8.out.trans0 hk); have HS12 := Lib.hid hs12; clear hk HK8 hs12 hp HRT
        generalize txt l = T at *
        go_wp2_with fail
        refine (HBT.out _).mono ?_
        rintro q w13 ⟨rfl, hk⟩
        have HS13 := Lib.hid (HS12.out.keep0 hk)
        have HK10 := Lib.hid (HK9.out.trans0 hk); clear hk HK9 HS12
        generalize w9.heap.size = B at *
        obtain ⟨n, hn⟩ : ∃ n, n = l.length := ⟨_, rfl⟩
        rw [← hn] at hzl hzld ⊢
        have HNN := Lib.hid hn; clear hn
        have hnn : ((n : Int) != (n : Int)) = false := by simp
        obtain ⟨wx, hwx⟩ : ∃ wx : World, wx = w13 := ⟨_, rfl⟩
        rw [← hwx] at HS13 HK10 ⊢
        clear hwx
        go_wp2
        go_loopw [9] (fun i wr => ∃ k : Nat, k ≤ n ∧ i = .int .i64 k ∧ Keep [] wx wr) (fun i _ => n - (intOf i).toNat)
        case atStart => exact ⟨0, Nat.zero_le _, rfl, Keep.refl _ _⟩
        case round =>
          obtain ⟨k, hk, rfl, hkp⟩ := hrel
          have HKR := Lib.hid hkp; clear hkp
          by_cases hlt : k < n
          · have hltd : decide (k < n) = true := by simpa using hlt
            have hkl : k < l.length := by rw [← HNN.out]; exact hlt
            obtain ⟨b, off, rfl, hcs⟩ := HC.out (by omega)
            obtain ⟨_, _, he, _, hcb⟩ := HS13.out
            have hc1 := (HK10.out.trans0 HKR.out).cellv (hcs k (.int .i32 l[k]) (by rw [List.getElem?_map, List.getElem?_eq_getElem hkl]; rfl)) (by simp)
            obtain ⟨b', o', he', hcb'⟩ := hcb (by omega)
            subst he'
            simp only [Value.slice.injEq, Option.some.injEq, Addr.mk.injEq] at he
            obtain ⟨⟨rfl, rfl, _⟩, _, rfl⟩ := he
            have hc2 := HKR.out.cellv (hcb' k (.int .i32 (fixr l[k])) (by rw [List.getElem?_map, List.getElem?_map, List.getElem?_eq_getElem hkl]; rfl)) (by simp)
            rw [Nat.zero_add] at hc2
            have HCS2 := Lib.hid hcs; have HCB := Lib.hid hcb'; clear hcs hcb' hcb
            have hki : ((k : Int) < (n : Int)) := by omega
            generalize l[k] = x at *
            have hxx : (x != x) = false := by simp
            by_cases hA : x < 0
            · rw [valid_no (by omega)] at hc2
              go_wp2_with fail
              go_quiet (fail)
              go_wp2
              go_roundw
              case rel => exact ⟨k + 1, by omega, by go_num, HKR.out.drewN _⟩
              case measure => simp [intOf]; omega
            by_cases hB : 1114111 < x
            · rw [valid_no (by omega)] at hc2
              go_wp2_with fail
              go_quiet (fail)
              go_wp2
              go_roundw
              case rel => exact ⟨k + 1, by omega, by go_num, HKR.out.drewN _⟩
              case measure => simp [intOf]; omega
            by_cases hC : x < 55296
            · rw [valid_yes (by omega)] at hc2
              go_wp2_with fail
              go_quiet (fail)
              go_wp2
              go_roundw
              case rel => exact ⟨k + 1, by omega, by go_num, HKR.out.drewN _⟩
              case measure => simp [intOf]; omega
            by_cases hD : 57343 < x
            · rw [valid_yes (by omega)] at hc2
              go_wp2_with fail
              go_quiet (fail)
              go_wp2
              go_roundw
              case rel => exact ⟨k + 1, by omega, by go_num, HKR.out.drewN _⟩
              case measure => simp [intOf]; omega
            · rw [valid_no (by omega)] at hc2
              go_wp2_with fail
              go_quiet (fail)
              go_wp2
              go_roundw
              case rel => exact ⟨k + 1, by omega, by go_num, HKR.out.drewN _⟩
              case measure => simp [intOf]; omega
          · have hltd : decide (k < n) = false := by simpa using hlt
            go_wp2_with fail
            refine (known_true _).mono ?_
            rintro q w14 ⟨rfl, hk3⟩
            have HK99 := Lib.hid ((HK10.out.trans0 HKR.out).trans0 hk3); clear hk3
            go_wp2
            go_ret
            exact ⟨rfl, HK99.out⟩
      · generalize mend s = M at *
        have hb1 : decide (badAt s < 0) = false := by simp; omega
        have hb2 : (badAt s == -1) = false := by simp; omega
        generalize badAt s = ba at *
        go_wp2_with fail
        refine (HBA.out _).mono ?_
        rintro q W2 ⟨rfl, hk⟩
        have HK2 := Lib.hid (HK1.out.trans0 hk); clear hk HK1
        go_wp2_with fail
        refine (HBM.out _).mono ?_
        rintro q W3 ⟨rfl, hk⟩
        have HK3 := Lib.hid (HK2.out.trans0 hk); clear hk HK2
        go_wp2_with fail
        refine (HMMC.out _).mono ?_
        rintro q W4 ⟨rfl, hk⟩
        have HK4 := Lib.hid (HK3.out.trans0 hk); clear hk HK3
        go_wp2_with fail
        refine (HCM.out _).mono ?_
        rintro q W5 ⟨rfl, hk⟩
        have HK5 := Lib.hid (HK4.out.trans0 hk); clear hk HK4
        go_wp2_with fail
        refine (HCS.out _).mono ?_
        rintro q W6 ⟨rfl, hk⟩
        have HK6 := Lib.hid (HK5.out.trans0 hk); clear hk HK5
        generalize (cut s 0).length = cc at *
        have hcc : (cc != cc) = false := by simp
        have hccz : ((cc : Int) != (cc : Int)) = false := by simp
        go_wp2_with fail
        refine (HRS.out _).mono ?_
        intro r w9 hp
        obtain ⟨rfl, hs9, hk⟩ := hp.sl
        have HK7 := Lib.hid (HK6.out.trans0 hk); have HS9 := Lib.hid hs9; clear hk HK6 hs9 hp
        go_wp2_with fail
        refine (HTX.out _ _ HS9.out).mono ?_
        rintro q w10 ⟨rfl, rfl⟩
        clear hcc hccz
        go_wp2_with fail
        refine (text_any _ l _ (HSL.out.keep0 HK7.out)).mono ?_
        rintro q w11 ⟨rfl, rfl⟩
        have HRT := Lib.hid (fun W => runes_any (txt l) W (by omega)); have HBT := Lib.hid (fun W => badAt_any (txt l) W (by omega))
        rw [HTB.out] at HBT
        go_wp2_with fail
        refine (HRT.out _).mono ?_
        intro r w12 hp
        obtain ⟨rfl, hs12, hk⟩ := hp.sl
        rw [HTL.out] at hs12 ⊢
        rw [HTR.out] at hs12
        have HK8 := Lib.hid (HK7.out.trans0 hk); have HS12 := Lib.hid hs12; clear hk HK7 hs12 hp HRT
        generalize txt l = T at *
        go_wp2_with fail
        refine (HBT.out _).mono ?_
        rintro q w13 ⟨rfl, hk⟩
        have HS13 := Lib.hid (HS12.out.keep0 hk)
        have HK9 := Lib.hid (HK8.out.trans0 hk); clear hk HK8 HS12
        generalize w9.heap.size = B at *
        obtain ⟨n, hn⟩ : ∃ n, n = l.length := ⟨_, rfl⟩
        rw [← hn] at hzl hzld ⊢
        have HNN := Lib.hid hn; clear hn
        have hnn : ((n : Int) != (n : Int)) = false := by simp
        obtain ⟨wx, hwx⟩ : ∃ wx : World, wx = w13 := ⟨_, rfl⟩
        rw [← hwx] at HS13 HK9 ⊢
        clear hwx
        go_wp2
        go_loopw [9] (fun i wr => ∃ k : Nat, k ≤ n ∧ i = .int .i64 k ∧ Keep [] wx wr) (fun i _ => n - (intOf i).toNat)
        case atStart => exact ⟨0, Nat.zero_le _, rfl, Keep.refl _ _⟩
        case round =>
          obtain ⟨k, hk, rfl, hkp⟩ := hrel
          have HKR := Lib.hid hkp; clear hkp
          by_cases hlt : k < n
          · have hltd : decide (k < n) = true := by simpa using hlt
            have hkl : k < l.length := by rw [← HNN.out]; exact hlt
            obtain ⟨b, off, rfl, hcs⟩ := HC.out (by omega)
            obtain ⟨_, _, he, _, hcb⟩ := HS13.out
            have hc1 := (HK9.out.trans0 HKR.out).cellv (hcs k (.int .i32 l[k]) (by rw [List.getElem?_map, List.getElem?_eq_getElem hkl]; rfl)) (by simp)
            obtain ⟨b', o', he', hcb'⟩ := hcb (by omega)
            subst he'
            simp only [Value.slice.injEq, Option.some.injEq, Addr.mk.injEq] at he
            obtain ⟨⟨rfl, rfl, _⟩, _, rfl⟩ := he
            have hc2 := HKR.out.cellv (hcb' k (.int .i32 (fixr l[k])) (by rw [List.getElem?_map, List.getElem?_map, List.getElem?_eq_getElem hkl]; rfl)) (by simp)
            rw [Nat.zero_add] at hc2
            have HCS2 := Lib.hid hcs; have HCB := Lib.hid hcb'; clear hcs hcb' hcb
            have hki : ((k : Int) < (n : Int)) := by omega
            generalize l[k] = x at *
            have hxx : (x != x) = false := by simp
            by_cases hA : x < 0
            · rw [valid_no (by omega)] at hc2
              go_wp2_with fail
              go_quiet (fail)
              go_wp2
              go_roundw
              case rel => exact ⟨k + 1, by omega, by go_num, HKR.out.drewN _⟩
              case measure => simp [intOf]; omega
            by_cases hB : 1114111 < x
            · rw [valid_no (by omega)] at hc2
              go_wp2_with fail
              go_quiet (fail)
              go_wp2
              go_roundw
              case rel => exact ⟨k + 1, by omega, by go_num, HKR.out.drewN _⟩
              case measure => simp [intOf]; omega
            by_cases hC : x < 55296
            · rw [valid_yes (by omega)] at hc2
              go_wp2_with fail
              go_quiet (fail)
              go_wp2
              go_roundw
              case rel => exact ⟨k + 1, by omega, by go_num, HKR.out.drewN _⟩
              case measure => simp [intOf]; omega
            by_cases hD : 57343 < x
            · rw [valid_yes (by omega)] at hc2
              go_wp2_with fail
              go_quiet (fail)
              go_wp2
              go_roundw
              case rel => exact ⟨k + 1, by omega, by go_num, HKR.out.drewN _⟩
              case measure => simp [intOf]; omega
            · rw [valid_no (by omega)] at hc2
              go_wp2_with fail
              go_quiet (fail)
              go_wp2
              go_roundw
              case rel => exact ⟨k + 1, by omega, by go_num, HKR.out.drewN _⟩
              case measure => simp [intOf]; omega
          · have hltd : decide (k < n) = false := by simpa using hlt
            go_wp2_with fail
            refine (known_true _).mono ?_
            rintro q w14 ⟨rfl, hk3⟩
            have HK99 := Lib.hid ((HK9.out.trans0 HKR.out).trans0 hk3); clear hk3
            go_wp2
            go_ret
            exact ⟨rfl, HK99.out⟩
    · have hzld : decide ((20000 : Int) < (l.length : Int)) = true := by simp; omega
      go_enter Try.func8, Try.ntmps8
      go_wp2_with fail
      refine (known_true _).mono ?_
      rintro q w3 ⟨rfl, hk3⟩
      have HK3 := Lib.hid hk3; clear hk3
      go_wp2
      go_ret
      exact ⟨rfl, HK3.out⟩
  · have hzd : decide ((20000 : Int) < (s.size : Int)) = true := by simp; omega
    go_enter Try.func8, Try.ntmps8
    go_wp2_with fail
    refine (known_true _).mono ?_
    rintro q w3 ⟨rfl, hk3⟩
    have HK3 := Lib.hid hk3; clear hk3
    go_wp2
    go_ret
    exact ⟨rfl, HK3.out⟩
end Go.Proofs.Ytjelbeghojgooaa
