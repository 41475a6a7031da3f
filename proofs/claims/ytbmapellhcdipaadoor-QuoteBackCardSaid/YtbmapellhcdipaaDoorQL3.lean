/-
  Walk of the law QuoteBack.
-/
import Derived.Test.YtbmapellhcdipaaDoorQuoV
import Derived.Test.YtbmapellhcdipaaDoorQuoT
import Derived.Test.YtbmapellhcdipaaDoorQL2
namespace Go.Proofs.YtbmapellhcdipaaDoor
open Go.RowKit
set_option linter.unusedVariables false
set_option linter.unusedSimpArgs false

theorem slice_pre {s : ByteArray} {n : Nat} (h : n ≤ s.size) (W : World) : (Instr.slice 9 (.string s) none (some (.int .i64 (n : Nat))) none).run Tryd.prog W = .ok (.string (s.extract 0 n)) W := by
  have hu := Tryd.underlying9
  have h1 : (n : Int) ≤ (s.size : Int) := by omega
  simp [go_sem, hu, h1, h]
theorem rgood_quo (s : ByteArray) (w : World) (hz : (quo s).size ≤ 1000000) : Calls Tryd.prog 14 #[.string (quo s)] w fun e w' => e = .returned (.bool true) ∧ Keep [] w w' := by
  have hb := badAt_none (quo_good s)
  generalize quo s = q at *
  have H := Lib.hid (rbadAt_any q w (by omega))
  rw [hb] at H
  go_enter Tryd.func14, Tryd.ntmps14
  go_wp2_with fail
  refine H.out.mono ?_
  rintro e w1 ⟨rfl, hk⟩
  have HK := Lib.hid hk; clear hk
  go_wp2
  go_ret
  exact ⟨rfl, HK.out⟩

set_option maxHeartbeats 16000000 in
set_option maxRecDepth 100000 in
theorem quoteBack_walk (s t : ByteArray) (w : World) (hT : TZ w) :
    Calls Tryd.prog 5 #[.string s, .string t] w fun e w' => e = .returned (.bool true) ∧ Keep [] w w' := by
  by_cases hz : s.size ≤ 20000
  · have f1 := dec_lt_f (show ¬ (20000 : Int) < (s.size : Int) by omega)
    have f2 := dec_ltn_f (show ¬ 20000 < s.size by omega)
    by_cases hzt : t.size ≤ 20000
    · have f3 := dec_lt_f (show ¬ (20000 : Int) < (t.size : Int) by omega)
      have f4 := dec_ltn_f (show ¬ 20000 < t.size by omega)
      obtain ⟨z1, z2⟩ := quo_size hz
      have HQ := Lib.hid (quote_any s w (by omega) hT)
      have HQT := Lib.hid (fun W hT => quote_any t W (by omega) hT)
      have HU := Lib.hid (fun W => unquote_any (quo s) W (by omega))
      rw [unq_quo] at HU
      have HG := Lib.hid (fun W => rgood_quo s W (by omega))
      have HT := Lib.hid hT; clear hT
      obtain ⟨B, hB1, hB2⟩ : ∃ B : Bool, ((quo s).toList == (quo t).toList) = B ∧ (s.toList == t.toList) = B := by
        by_cases h : s = t
        · exact ⟨true, by rw [h]; simp, by rw [h]; simp⟩
        · exact ⟨false, str_neq (fun e => h (quo_inj e)), str_neq h⟩
      have HF := Lib.hid (quo_fine s)
      have HP := Lib.hid (unq_pre s)
      generalize quo s = q at *
      generalize quo t = q2 at *
      have hsn : (s.toList != s.toList) = false := by simp
      have g1 := dec_lt_f (show ¬ (q.size : Int) < 2 by omega)
      have g2 := dec_ltn_f (show ¬ q.size < 2 by omega)
      go_enter Tryd.func5, Tryd.ntmps5
      go_wp2_with fail
      refine HQ.out.mono ?_
      rintro e W1 ⟨rfl, hk1⟩
      have K1 := Lib.hid hk1; clear hk1
      go_wp2_with fail
      refine (HU.out _).mono ?_
      rintro e W2 ⟨rfl, hk2⟩
      have K2 := Lib.hid (K1.out.trans0 hk2); clear hk2
      go_wp2_with fail
      refine (HG.out _).mono ?_
      rintro e W3 ⟨rfl, hk3⟩
      have K3 := Lib.hid (K2.out.trans0 hk3); clear hk3
      go_wp2_with fail
      refine (HQT.out _ (HT.out.keep0 K3.out)).mono ?_
      rintro e W4 ⟨rfl, hk4⟩
      have K4 := Lib.hid (K3.out.trans0 hk4); clear hk4
      go_wp2
      clear f1 f2 f3 f4 g1 g2 hB1 hB2 hsn
      go_loopw [9] (fun i wr => ∃ k : Nat, k ≤ q.size ∧ i = .int .i64 k ∧ W4 = wr) (fun i _ => q.size - (intOf i).toNat)
      case atStart => exact ⟨0, Nat.zero_le _, rfl, rfl⟩
      case round =>
        obtain ⟨k, hk, rfl, rfl⟩ := hrel
        by_cases hlt : k < q.size
        · have e1 := dec_lt_t (show (k : Int) < (q.size : Int) by omega)
          have e2 := dec_ltn_t hlt
          have hix := byte_z (s := q) (i := k) (z := (k : Nat)) hlt rfl
          have hf := HF.out k hlt
          obtain ⟨c, hc⟩ : ∃ c : Int, c = ((byt q k : Nat) : Int) := ⟨_, rfl⟩
          rw [← hc] at hix
          have e3 : decide (c < 32) = false := by simp; omega
          have e4 : (c == 127) = false := ((ar4 hc).2 hf.2).1
          clear hf hc
          go_wp2
          go_roundw
          case rel => exact ⟨k + 1, by omega, by go_num, by trivial⟩
          case measure => simp [intOf]; omega
        · have e1 := dec_lt_f (show ¬ (k : Int) < (q.size : Int) by omega)
          have e2 := dec_ltn_f hlt
          obtain rfl : k = q.size := by omega
          clear hlt
          go_wp2
          go_loopw [10] (fun i wr => ∃ k : Nat, k ≤ q.size ∧ i = .int .i64 k ∧ Keep [] w wr) (fun i _ => q.size - (intOf i).toNat)
          case atStart => exact ⟨0, Nat.zero_le _, rfl, K4.out⟩
          case round =>
            clear e1 e2 hk
            obtain ⟨k, hk, rfl, hkp⟩ := hrel
            have HKP := Lib.hid hkp; clear hkp
            by_cases hlt : k < q.size
            · have e1 := dec_lt_t (show (k : Int) < (q.size : Int) by omega)
              have e2 := dec_ltn_t hlt
              have hcs : (decide ((64 : Int) < (k : Int)) = true ∧ decide (64 < k) = true ∧ decide ((k : Int) < (q.size : Int) - 64) = true) ∨ (decide ((64 : Int) < (k : Int)) = false ∧ decide (64 < k) = false) ∨ (decide ((64 : Int) < (k : Int)) = true ∧ decide (64 < k) = true ∧ decide ((k : Int) < (q.size : Int) - 64) = false) := by
                by_cases h1 : 64 < k
                · by_cases h2 : (k : Int) < (q.size : Int) - 64
                  · exact .inl ⟨dec_lt_t (by omega), dec_ltn_t h1, dec_lt_t h2⟩
                  · exact .inr (.inr ⟨dec_lt_t (by omega), dec_ltn_t h1, dec_lt_f h2⟩)
                · exact .inr (.inl ⟨dec_lt_f (by omega), dec_ltn_f h1⟩)
              have hsl := slice_pre (s := q) (n := k) (by omega)
              obtain ⟨e, he1, he2⟩ := HP.out k hlt
              have HUP := Lib.hid (fun W => unquote_any (q.extract 0 k) W (by rw [ByteArray.size_extract]; omega))
              rw [he1] at HUP
              generalize q.extract 0 k = qk at *
              have e3 := dec_lt_f (show ¬ (e : Int) < 0 by omega)
              have e4 := dec_lt_f (show ¬ (k : Int) < (e : Int) by omega)
              have e5 := dec_ltn_f (show ¬ k < e by omega)
              have hse : (ByteArray.empty.toList != ByteArray.empty.toList) = false := by simp
              clear he1 he2
              rcases hcs with ⟨c1, c2, c3⟩ | ⟨c1, c2⟩ | ⟨c1, c2, c3⟩
              · go_wp2
                go_roundw
                case rel => exact ⟨k + 1, by omega, by go_num, HKP.out⟩
                case measure => simp [intOf]; omega
              · go_wp2_with fail
                refine (HUP.out _).mono ?_
                rintro r W6 ⟨rfl, hk6⟩
                have HK6 := Lib.hid (HKP.out.trans0 hk6); clear hk6
                go_wp2
                go_roundw
                case rel => exact ⟨k + 1, by omega, by go_num, HK6.out⟩
                case measure => simp [intOf]; omega
              · go_wp2_with fail
                refine (HUP.out _).mono ?_
                rintro r W6 ⟨rfl, hk6⟩
                have HK6 := Lib.hid (HKP.out.trans0 hk6); clear hk6
                go_wp2
                go_roundw
                case rel => exact ⟨k + 1, by omega, by go_num, HK6.out⟩
                case measure => simp [intOf]; omega
            · have e1 := dec_lt_f (show ¬ (k : Int) < (q.size : Int) by omega)
              have e2 := dec_ltn_f hlt
              clear hlt
              go_wp2_with fail
              refine (known_true _ (HT.out.keep0 HKP.out)).mono ?_
              rintro e W8 ⟨rfl, hk8⟩
              have HK8 := Lib.hid (HKP.out.trans0 hk8); clear hk8
              go_wp2
              go_ret
              exact ⟨rfl, HK8.out⟩
    · have f3 := dec_lt_t (show (20000 : Int) < (t.size : Int) by omega)
      have f4 := dec_ltn_t (show 20000 < t.size by omega)
      go_enter Tryd.func5, Tryd.ntmps5
      go_wp2_with fail
      refine (known_true _ hT).mono ?_
      rintro e W3 ⟨rfl, hk3⟩
      have K3 := Lib.hid hk3; clear hk3
      go_wp2
      go_ret
      exact ⟨rfl, K3.out⟩
  · have f1 := dec_lt_t (show (20000 : Int) < (s.size : Int) by omega)
    have f2 := dec_ltn_t (show 20000 < s.size by omega)
    go_enter Tryd.func5, Tryd.ntmps5
    go_wp2_with fail
    refine (known_true _ hT).mono ?_
    rintro e W3 ⟨rfl, hk3⟩
    have K3 := Lib.hid hk3; clear hk3
    go_wp2
    go_ret
    exact ⟨rfl, K3.out⟩
end Go.Proofs.YtbmapellhcdipaaDoor
