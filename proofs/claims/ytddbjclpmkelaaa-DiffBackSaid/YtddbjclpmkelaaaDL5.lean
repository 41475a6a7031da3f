/-
  DiffBack, walked.
-/
import Derived.Test.YtddbjclpmkelaaaDifY
namespace Go.Proofs.Ytddbjclpmkelaaa
open Go.RowKit
set_option linter.unusedVariables false
set_option linter.unusedSimpArgs false

theorem apAll_not {a : ByteArray} {l : List EdV} (h : ¬ (apAll a l).1 = 0) : apAll a l = ((apAll a l).1, [], []) ∧ invOut a l = ((apAll a l).1, []) := by
  refine ⟨?_, by unfold invOut; rw [if_neg h]⟩
  by_cases hb : 0 ≤ badAt a
  · unfold apAll at *; rw [if_pos hb] at *
  · rw [apAll_apS hb] at *
    split at h
    · exact absurd rfl h
    · rename_i h2; rw [if_neg h2]
structure BackF (a : ByteArray) (l : List EdV) : Prop where
  inv : (invOut a l).1 = 0
  ap : txt (apAll (txt (apAll a l).2.1) (invOut a l).2).2.1 = a ∧ (apAll (txt (apAll a l).2.1) (invOut a l).2).1 = 0
  inv2 : invOut (txt (apAll a l).2.1) (invOut a l).2 = (0, l)
  wt : wsat 0 (invOut a l).2 = wsat 0 l
  len : (invOut a l).2.length = l.length
  size : (txt (apAll a l).2.1).size ≤ 64000
  nums : ∀ e ∈ (invOut a l).2, -9223372036854775808 ≤ e.1 ∧ e.1 ≤ 9223372036854775807 ∧ -9223372036854775808 ≤ e.2.1 ∧ e.2.1 ≤ 9223372036854775807 ∧ e.2.2.size ≤ 10000
theorem back_facts {a : ByteArray} {l : List EdV} (ha : a.size ≤ 8000) (hl : Light l) (hb : ∀ e ∈ l, -9223372036854775808 ≤ e.1 ∧ e.1 ≤ 9223372036854775807) (h : (apAll a l).1 = 0) : BackF a l := by
  have hbd : ¬ 0 ≤ badAt a := by intro hb; unfold apAll at h; rw [if_pos hb] at h; simp at h
  have he := apAll_apS hbd l
  have h4 : (apS (runs a 0) l).1 = 0 := by
    rw [he] at h
    split at h
    · assumption
    · exact h
  rw [if_pos h4] at he
  have B := back l (runs a 0) _ _ (runs_valid a 0) hb (show apS (runs a 0) l = (0, (apS (runs a 0) l).2.1, (apS (runs a 0) l).2.2) by rw [← h4])
  have hta := txt_runs hbd
  have hi : invOut a l = (0, invL l (apS (runs a 0) l).2.2) := by unfold invOut; rw [he]; simp
  have ho : runs (txt (apS (runs a 0) l).2.1) 0 = (apS (runs a 0) l).2.1 := txt_valid B.valid
  have hap : apAll (txt (apS (runs a 0) l).2.1) (invL l (apS (runs a 0) l).2.2) = (0, runs a 0, laid l) := by
    rw [apAll_apS (by rw [badAt_txt]; omega), ho, B.there]; simp
  have hra := runs_size a
  have hts := txt_size (apS (runs a 0) l).2.1
  have hlen := B.len
  have hl3 := hl.2.2
  refine ⟨by rw [hi], ?_, ?_, by rw [hi]; exact B.wt 0, by rw [hi]; exact B.same, by rw [he]; simp only; omega, fun e hm => ?_⟩
  · rw [hi, he]; simp only; rw [hap]; exact ⟨hta, rfl⟩
  · rw [hi, he]; simp only; unfold invOut; rw [hap]; simp only [if_true]; rw [B.again]
  · rw [hi] at hm
    have h1 := B.nums e hm
    have h2 := B.size e hm
    rw [hta] at h2
    omega

set_option maxRecDepth 100000 in
set_option maxHeartbeats 16000000 in
theorem diffBack_walk (a : ByteArray) (va : Value) (xs : List EdB) (w : World) (hsa : a.size ≤ maxLen) (hE : ElemsAt w va 3 encB xs) :
    Calls Try.prog 7 #[.string a, va] w fun e w' => e = .returned (.bool true) ∧ Keep [] w w' := by
  unfold maxLen at hsa
  have HED := Lib.hid hE.eds; have HBD := Lib.hid (eds_bound xs)
  have hlm : (xs.map Subtype.val).length = xs.length := List.length_map ..
  obtain ⟨ad, cap, rfl, _, _, hlc⟩ := hE
  generalize xs.map Subtype.val = l at *
  rw [← hlm] at HED
  obtain ⟨n, hn⟩ : ∃ n, n = l.length := ⟨_, rfl⟩
  rw [← hlm, ← hn]
  have HNN := Lib.hid hn; clear hn hlm hlc
  rw [← HNN.out] at HED
  by_cases hza : a.size ≤ 8000
  · have hzd : ¬ ((8000 : Int) < (a.size : Int)) := by omega
    go_enter Try.func7, Try.ntmps7
    go_wp2_with fail
    refine (heavy_any _ l w HED.out (fun e he => (HBD.out e he).2.2.2.2)).mono ?_
    rintro r w1 ⟨b, rfl, hb, hk1⟩
    have HK1 := Lib.hid hk1
    have HE1 := Lib.hid (HED.out.keep0 hk1); clear hk1
    cases b with
    | true =>
      go_wp2_with fail
      refine (known_true _).mono ?_
      rintro r w4 ⟨rfl, k4⟩
      have K4 := Lib.hid (HK1.out.trans0 k4); clear k4
      go_wp2_with fail
      go_ret
      exact ⟨rfl, K4.out⟩
    | false =>
      have HLI := Lib.hid (hb rfl); clear hb
      have hn300 : n ≤ 300 := by rw [HNN.out]; exact HLI.out.1
      have hfw : Hid (∀ e ∈ l, -9223372036854775808 ≤ e.1 ∧ e.1 ≤ 9223372036854775807 ∧ -9223372036854775808 ≤ e.2.1 ∧ e.2.1 ≤ 9223372036854775807 ∧ e.2.2.size ≤ 10000) := Lib.hid (fun e he => by
        obtain ⟨b1, b2, b3, b4, _⟩ := HBD.out e he
        have := HLI.out.2.1 e he
        exact ⟨b1, b2, b3, b4, by omega⟩)
      have hwl := (fun (l : List EdV) (h : ∀ e ∈ l, -9223372036854775808 ≤ e.1 ∧ e.1 ≤ 9223372036854775807 ∧ -9223372036854775808 ≤ e.2.1 ∧ e.2.1 ≤ 9223372036854775807 ∧ e.2.2.size ≤ 10000) (e : EdV) (he : e ∈ l) => (show -9223372036854775808 ≤ e.2.1 ∧ e.2.1 ≤ 9223372036854775807 ∧ e.2.2.size ≤ 1073741824 from ⟨(h e he).2.2.1, (h e he).2.2.2.1, by have := (h e he).2.2.2.2; omega⟩))
      have HA := Lib.hid (fun (W : World) (h : EdAt W (.slice ad n cap) l) => apply_any a _ l W h (by rw [← HNN.out]; omega) (by omega) hfw.out)
      have HIV := Lib.hid (fun (W : World) (h : EdAt W (.slice ad n cap) l) => (invert_any a _ l W h (by rw [← HNN.out]; omega) (by omega) hfw.out).mono (fun _ _ h => h.r))
      by_cases hc : (apAll a l).1 = 0
      · have BF := back_facts hza HLI.out (fun e he => ⟨(hfw.out e he).1, (hfw.out e he).2.1⟩) hc
        have hil := BF.len
        rw [← HNN.out] at hil
        have HA2 := Lib.hid (fun (W : World) (v : Value) (h : EdAt W v (invOut a l).2) => apply_any (txt (apAll a l).2.1) v _ W h (by rw [hil]; omega) (by have := BF.size; omega) BF.nums)
        have HIV2 := Lib.hid (fun (W : World) (v : Value) (h : EdAt W v (invOut a l).2) => (invert_any (txt (apAll a l).2.1) v _ W h (by rw [hil]; omega) (by have := BF.size; omega) BF.nums).mono (fun _ _ h => h.r))
        have HW1 := Lib.hid (fun (W : World) (v : Value) (h : EdAt W v (invOut a l).2) => weight_any v _ W h (by rw [hil]; omega) (hwl _ BF.nums))
        have HW2 := Lib.hid (fun (W : World) (v : Value) (h : EdAt W v l) => weight_any v _ W h (by rw [← HNN.out]; omega) (hwl _ hfw.out))
        rw [BF.ap.1, BF.ap.2] at HA2
        have hy4 : (invOut (txt (apAll a l).2.1) (invOut a l).2).1 = 0 := by rw [BF.inv2]
        have hy5 : (invOut (txt (apAll a l).2.1) (invOut a l).2).2 = l := by rw [BF.inv2]
        rw [hy4, hy5] at HIV2
        clear hy4 hy5
        rw [BF.wt] at HW1
        rw [BF.inv] at HIV
        rw [hc] at HA
        clear BF hc hwl
        generalize txt (apAll a l).2.1 = tb at *
        generalize (invOut a l).2 = il at *
        generalize wsat 0 l = wt at *
        go_wp2_with fail
        refine (HA.out _ HE1.out).mono ?_
        rintro r w2 ⟨rfl, k2⟩
        have K2 := Lib.hid (HK1.out.trans0 k2); have E2 := Lib.hid (HE1.out.keep0 k2); clear k2
        go_wp2_with fail
        refine (HIV.out _ E2.out).mono ?_
        rintro r w3 ⟨ad3, c3, rfl, f3, k3⟩
        have K3 := Lib.hid (K2.out.trans0 k3); have E3 := Lib.hid (E2.out.keep0 k3); have F3 := Lib.hid f3; clear k3 f3
        go_wp2_with fail
        rw [hil] at F3
        refine (HA2.out _ _ F3.out).mono ?_
        rintro r w4 ⟨rfl, k4⟩
        have K4 := Lib.hid (K3.out.trans0 k4); have E4 := Lib.hid (E3.out.keep0 k4); have F4 := Lib.hid (F3.out.keep0 k4); clear k4
        go_wp2_with fail
        refine (HIV2.out _ _ F4.out).mono ?_
        rintro r w5 ⟨ad5, c5, rfl, g5, k5⟩
        have K5 := Lib.hid (K4.out.trans0 k5); have E5 := Lib.hid (E4.out.keep0 k5); have F5 := Lib.hid (F4.out.keep0 k5); have G5 := Lib.hid g5; clear k5 g5
        rw [← HNN.out] at G5 ⊢
        go_wp2_with fail
        refine (edits_true _ _ l _ G5.out E5.out (by rw [← HNN.out]; omega)).mono ?_
        rintro r w6 ⟨rfl, k6⟩
        have K6 := Lib.hid (K5.out.trans0 k6); have E6 := Lib.hid (E5.out.keep0 k6); have F6 := Lib.hid (F5.out.keep0 k6); clear k6
        go_wp2_with fail
        refine (HW1.out _ _ F6.out).mono ?_
        rintro r w7 ⟨rfl, k7⟩
        have K7 := Lib.hid (K6.out.trans0 k7); have E7 := Lib.hid (E6.out.keep0 k7); clear k7
        go_wp2_with fail
        refine (HW2.out _ _ E7.out).mono ?_
        rintro r w8 ⟨rfl, k8⟩
        have K8 := Lib.hid (K7.out.trans0 k8); clear k8
        go_wp2_with fail
        refine (known_true _).mono ?_
        rintro r w9 ⟨rfl, k9⟩
        have K9 := Lib.hid (K8.out.trans0 k9); clear k9
        go_wp2_with fail
        go_ret
        exact ⟨rfl, K9.out⟩
      · obtain ⟨hz1, hz2⟩ := apAll_not hc
        have hcb : ((apAll a l).1 != 0) = true := by simpa using hc
        have hy1 : (apAll a l).2.1 = [] := by rw [hz1]
        have hy2 : (invOut a l).1 = (apAll a l).1 := by rw [hz2]
        have hy3 : (invOut a l).2 = [] := by rw [hz2]
        rw [hy1] at HA
        rw [hy2, hy3] at HIV
        clear hz1 hz2 hc hy1 hy2 hy3 hwl
        generalize (apAll a l).1 = oc at *
        have HTX : Hid (txt [] = ByteArray.empty) := by show txt [] = _; rfl
        rw [HTX.out] at HA
        go_wp2_with fail
        refine (HA.out _ HE1.out).mono ?_
        rintro r w2 ⟨rfl, k2⟩
        have K2 := Lib.hid (HK1.out.trans0 k2); have E2 := Lib.hid (HE1.out.keep0 k2); clear k2
        go_wp2_with fail
        refine (HIV.out _ E2.out).mono ?_
        rintro r w3 ⟨ad3, c3, rfl, f3, k3⟩
        have K3 := Lib.hid (K2.out.trans0 k3); clear k3 f3
        go_wp2_with fail
        refine (known_true _).mono ?_
        rintro r w4 ⟨rfl, k4⟩
        have K4 := Lib.hid (K3.out.trans0 k4); clear k4
        go_wp2_with fail
        go_ret
        exact ⟨rfl, K4.out⟩
  · have hzd : ((8000 : Int) < (a.size : Int)) := by omega
    go_enter Try.func7, Try.ntmps7
    go_wp2_with fail
    refine (known_true _).mono ?_
    rintro r w4 ⟨rfl, k4⟩
    have K4 := Lib.hid k4; clear k4
    go_wp2_with fail
    go_ret
    exact ⟨rfl, K4.out⟩
end Go.Proofs.Ytddbjclpmkelaaa
