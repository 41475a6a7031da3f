/-
  Walk of the reference's escape, whole.
-/
import Derived.Test.YtbidppjhenfjdaaGreatDoorQuoL
namespace Go.Proofs.YtbidppjhenfjdaaGreatDoor
open Go.RowKit
set_option linter.unusedVariables false
set_option linter.unusedSimpArgs false

theorem unl_1 {c : Nat} (h : unl c ≠ 0) : c = 34 ∨ c = 92 ∨ c = 110 ∨ c = 114 ∨ c = 116 := by
  unfold unl at h
  (repeat' split at h) <;> omega
theorem unl_no {c : Nat} (h : ¬ unl c ≠ 0) : c ≠ 34 ∧ c ≠ 92 ∧ c ≠ 110 ∧ c ≠ 114 ∧ c ≠ 116 := by
  unfold unl at h
  refine ⟨?_, ?_, ?_, ?_, ?_⟩ <;> (intro e; subst e; simp at h)
theorem dec_le_t {a b : Int} (h : a ≤ b) : decide (a ≤ b) = true := by simpa using h
theorem dec_le_f {a b : Int} (h : ¬ a ≤ b) : decide (a ≤ b) = false := by simpa using h
theorem dec_lt_t {a b : Int} (h : a < b) : decide (a < b) = true := by simpa using h
theorem dec_lt_f {a b : Int} (h : ¬ a < b) : decide (a < b) = false := by simpa using h
theorem dec_len_t {a b : Nat} (h : a ≤ b) : decide (a ≤ b) = true := by simpa using h
theorem dec_len_f {a b : Nat} (h : ¬ a ≤ b) : decide (a ≤ b) = false := by simpa using h
theorem dec_ltn_t {a b : Nat} (h : a < b) : decide (a < b) = true := by simpa using h
theorem dec_ltn_f {a b : Nat} (h : ¬ a < b) : decide (a < b) = false := by simpa using h
theorem escn_pos {n : Nat} (h : n ≠ 0) : escn n = n + 1 := by unfold escn; rw [if_neg h]

set_option maxHeartbeats 32000000 in
set_option maxRecDepth 100000 in
theorem resc_any (s : ByteArray) (a : Nat) (w : World) (hz : s.size ≤ 100000000) (ha : a < s.size) :
    Calls Tryz.prog 83 #[.string s, .int .i64 (a : Nat)] w fun e w' => e = .returned (.tuple #[.string (esc (s.extract (a + 1) s.size)).1, .int .i64 (escn (esc (s.extract (a + 1) s.size)).2)]) ∧ Keep [] w w' := by
  have htz := size_tail s (a + 1) (by omega)
  have hbt := byt_tail s (a + 1)
  generalize s.extract (a + 1) s.size = t at *
  by_cases h0 : t.size = 0
  · have HE := Lib.hid (show esc t = (ByteArray.empty, 0) by unfold esc; exact if_pos h0)
    have e1 := dec_le_t (show (s.size : Int) ≤ (a : Int) + 1 by omega)
    have e2 := dec_len_t (show s.size ≤ a + 1 by omega)
    clear htz hbt h0
    go_enter Tryz.func83, Tryz.ntmps83
    go_wp2
    go_ret2
    rw [HE.out]
    exact ⟨rfl, Keep.refl _ _⟩
  have hs1 : a + 1 < s.size := by omega
  have e1 := dec_le_f (show ¬ (s.size : Int) ≤ (a : Int) + 1 by omega)
  have e2 := dec_len_f (show ¬ s.size ≤ a + 1 by omega)
  have hi0 := byte_z (s := s) (i := a + 1) (z := (a : Int) + 1) hs1 (by omega)
  have hb0 : byt s (a + 1) = byt t 0 := (hbt 0).symm
  have hcl := byt_lt t 0
  have HES : esc t = if unl (byt t 0) ≠ 0 then (one (unl (byt t 0)), 1) else if byt t 0 = 120 ∧ 2 < t.size then (if hx (byt t 1) < 16 ∧ hx (byt t 2) < 16 then (one (16 * hx (byt t 1) + hx (byt t 2)), 3) else (ByteArray.empty, 0)) else if byt t 0 = 117 ∧ 1 < t.size ∧ byt t 1 = 123 then brc t else (ByteArray.empty, 0) := by unfold esc; rw [if_neg h0]
  rw [hb0] at hi0
  by_cases hu : unl (byt t 0) ≠ 0
  · have HE := HES.trans (if_pos hu)
    clear HES
    rcases unl_1 hu with hc | hc | hc | hc | hc
    · rw [hc] at hi0 HE
      have hsl := fun W => slice_one (s := s) (p := a + 1) (c := 34) hs1 (hb0.trans hc) W (x := (a : Int) + 1) (y := (a : Int) + 2) (by omega) (by omega)
      have HE2 := Lib.hid (show esc t = (one 34, 1) from HE)
      clear HE hc hu hb0 hcl htz hbt h0 hs1
      go_enter Tryz.func83, Tryz.ntmps83
      go_wp2
      go_ret2
      rw [HE2.out]
      exact ⟨rfl, Keep.refl _ _⟩
    · rw [hc] at hi0 HE
      have hsl := fun W => slice_one (s := s) (p := a + 1) (c := 92) hs1 (hb0.trans hc) W (x := (a : Int) + 1) (y := (a : Int) + 2) (by omega) (by omega)
      have HE2 := Lib.hid (show esc t = (one 92, 1) from HE)
      clear HE hc hu hb0 hcl htz hbt h0 hs1
      go_enter Tryz.func83, Tryz.ntmps83
      go_wp2
      go_ret2
      rw [HE2.out]
      exact ⟨rfl, Keep.refl _ _⟩
    · rw [hc] at hi0 HE
      have HE2 := Lib.hid (show esc t = (one 10, 1) from HE)
      clear HE hc hu hb0 hcl htz hbt h0 hs1
      go_enter Tryz.func83, Tryz.ntmps83
      go_wp2
      go_ret2
      rw [HE2.out]
      exact ⟨rfl, Keep.refl _ _⟩
    · rw [hc] at hi0 HE
      have HE2 := Lib.hid (show esc t = (one 13, 1) from HE)
      clear HE hc hu hb0 hcl htz hbt h0 hs1
      go_enter Tryz.func83, Tryz.ntmps83
      go_wp2
      go_ret2
      rw [HE2.out]
      exact ⟨rfl, Keep.refl _ _⟩
    · rw [hc] at hi0 HE
      have HE2 := Lib.hid (show esc t = (one 9, 1) from HE)
      clear HE hc hu hb0 hcl htz hbt h0 hs1
      go_enter Tryz.func83, Tryz.ntmps83
      go_wp2
      go_ret2
      rw [HE2.out]
      exact ⟨rfl, Keep.refl _ _⟩
  have HE := HES.trans (if_neg hu)
  have hun := unl_no hu
  clear HES hu
  by_cases c1 : byt t 0 = 120
  · rw [c1] at hi0
    by_cases h2 : 2 < t.size
    · have HE2 := HE.trans (if_pos ⟨c1, h2⟩)
      have f1 := dec_lt_t (show (a : Int) + 3 < (s.size : Int) by omega)
      have f2 := dec_ltn_t (show a + 3 < s.size by omega)
      have hi1 := byte_z (s := s) (i := a + 2) (z := (a : Int) + 2) (by omega) (by omega)
      have hi2 := byte_z (s := s) (i := a + 3) (z := (a : Int) + 3) (by omega) (by omega)
      rw [show byt s (a + 2) = byt t 1 from (hbt 1).symm] at hi1
      rw [show byt s (a + 3) = byt t 2 from (hbt 2).symm] at hi2
      have HI1 := Lib.hid (fun W => value_back (byt t 1) W (byt_lt t 1))
      have HI2 := Lib.hid (fun W => value_back (byt t 2) W (byt_lt t 2))
      have hb1 := byt_lt t 1
      have hb2 := byt_lt t 2
      clear HE c1 h2 hun hb0 hcl htz hbt h0 hs1
      generalize byt t 1 = x1 at *
      generalize byt t 2 = x2 at *
      by_cases d1 : hx x1 < 16
      · rw [hxi_lt d1] at HI1
        by_cases d2 : hx x2 < 16
        · rw [hxi_lt d2] at HI2
          have HE4 := Lib.hid (HE2.trans (if_pos ⟨d1, d2⟩))
          clear HE2
          generalize hx x1 = h at *
          generalize hx x2 = l at *
          have hcv : ∀ W : World, (convert 38 9 (.slice (some ⟨W.heap.size, 0, none⟩) 1 1)).run Tryz.prog (W.alloc (.cells #[.int .u8 (16 * (h : Int) + (l : Int))] 5)) = .ok (.string (one (16 * h + l))) (W.alloc (.cells #[.int .u8 (16 * (h : Int) + (l : Int))] 5)) := fun W => by
            have h1 := conv_one (16 * h + l) W (by omega)
            rw [show (((16 * h + l : Nat)) : Int) = 16 * (h : Int) + (l : Int) by omega] at h1
            exact h1
          have hcv2 : ∀ W : World, (convert 38 9 (.slice (some ⟨W.heap.size, 0, none⟩) 1 1)).run Tryz.prog (W.alloc (.cells #[.int .u8 (16 * (h : Int) + (l : Int))] 5)).drew = .ok (.string (one (16 * h + l))) (W.alloc (.cells #[.int .u8 (16 * (h : Int) + (l : Int))] 5)).drew := fun W => hcv W.drew
          have W1 : IntKind.i64.wrap ((a : Int) + 2) = (a : Int) + 2 := by rw [IntKind.wrap_i64]; omega
          have W2 : IntKind.i64.wrap ((a : Int) + 3) = (a : Int) + 3 := by rw [IntKind.wrap_i64]; omega
          have W3 : IntKind.i64.wrap (16 * (h : Int)) = 16 * (h : Int) := by rw [IntKind.wrap_i64]; omega
          have W4 : IntKind.i64.wrap (16 * (h : Int) + (l : Int)) = 16 * (h : Int) + (l : Int) := by rw [IntKind.wrap_i64]; omega
          have W5 : IntKind.u8.wrap (16 * (h : Int) + (l : Int)) = 16 * (h : Int) + (l : Int) := by rw [IntKind.wrap_u8]; omega
          go_enter Tryz.func83, Tryz.ntmps83
          go_wp2_with fail
          refine (HI1.out _).mono ?_
          rintro e w1 ⟨rfl, rfl⟩
          go_wp2_with fail
          refine (HI2.out _).mono ?_
          rintro e w1 ⟨rfl, rfl⟩
          go_wp2_with fail
          refine wp_still_tail_drew 13 (by kernel_rfl) (by kernel_rfl) ?_
          simp only [List.take_succ_cons, List.take_zero, List.drop_succ_cons, List.drop_zero]
          repeat still_step
          still_call (HI1.out _)
          repeat still_step
          still_call (HI2.out _)
          repeat still_step
          refine wpStill_nil ?_
          go_wp2
          go_ret2
          rw [HE4.out]
          exact ⟨rfl, ((Keep.refl _ _).drew).alloc _⟩
        · rw [hxi_no d2] at HI2
          have HE4 := Lib.hid (HE2.trans (if_neg (fun h => d2 h.2)))
          clear HE2 d2
          generalize hx x1 = h at *
          go_enter Tryz.func83, Tryz.ntmps83
          go_wp2_with fail
          refine (HI1.out _).mono ?_
          rintro e w1 ⟨rfl, rfl⟩
          go_wp2_with fail
          refine (HI2.out _).mono ?_
          rintro e w1 ⟨rfl, rfl⟩
          go_wp2
          go_ret2
          rw [HE4.out]
          exact ⟨rfl, Keep.refl _ _⟩
      · rw [hxi_no d1] at HI1
        have HE4 := Lib.hid (HE2.trans (if_neg (fun h => d1 h.1)))
        clear HE2 d1
        go_enter Tryz.func83, Tryz.ntmps83
        go_wp2_with fail
        refine (HI1.out _).mono ?_
        rintro e w1 ⟨rfl, rfl⟩
        go_wp2
        go_ret2
        rw [HE4.out]
        exact ⟨rfl, Keep.refl _ _⟩
    · have HE2 := Lib.hid (HE.trans ((if_neg (fun h => h2 h.2)).trans (if_neg (fun h => absurd (h.1.symm.trans c1) (by decide)))))
      have f1 := dec_lt_f (show ¬ (a : Int) + 3 < (s.size : Int) by omega)
      have f2 := dec_ltn_f (show ¬ a + 3 < s.size by omega)
      clear HE c1 h2 hun hb0 hcl htz hbt h0 hs1
      go_enter Tryz.func83, Tryz.ntmps83
      go_wp2
      go_ret2
      rw [HE2.out]
      exact ⟨rfl, Keep.refl _ _⟩
  have HE2 := HE.trans (if_neg (fun h => c1 h.1))
  by_cases c2 : byt t 0 = 117
  · by_cases h2 : 1 < t.size
    · by_cases c3 : byt t 1 = 123
      · have HE3 := Lib.hid (HE2.trans (if_pos ⟨c2, h2, c3⟩))
        have hh : 2 < t.size ∨ t.size = 2 := by omega
        rcases hh with hh | hh
        · refine (resc_u s t a w hz (by omega) htz hbt c2 c3).mono ?_
          rintro e w' ⟨rfl, hk⟩
          rw [HE3.out]
          exact ⟨rfl, hk⟩
        · refine (resc_u s t a w hz (by omega) htz hbt c2 c3).mono ?_
          rintro e w' ⟨rfl, hk⟩
          rw [HE3.out]
          exact ⟨rfl, hk⟩
      · have HE3 := Lib.hid (HE2.trans (if_neg (fun h => c3 h.2.2)))
        have f1 := dec_le_f (show ¬ (s.size : Int) ≤ (a : Int) + 2 by omega)
        have f2 := dec_len_f (show ¬ s.size ≤ a + 2 by omega)
        have hi1 := byte_z (s := s) (i := a + 2) (z := (a : Int) + 2) (by omega) (by omega)
        rw [show byt s (a + 2) = byt t 1 from (hbt 1).symm] at hi1
        rw [c2] at hi0
        obtain ⟨d, hd⟩ : ∃ d : Int, d = ((byt t 1 : Nat) : Int) := ⟨_, rfl⟩
        rw [← hd] at hi1
        have e5 : (d == 123) = false := ((ar4 hd).2 c3).1
        have e6 : (d != 123) = true := ((ar4 hd).2 c3).2
        clear HE HE2 c1 c2 c3 h2 hun hb0 hcl htz hbt h0 hs1 hd
        go_enter Tryz.func83, Tryz.ntmps83
        go_wp2
        go_ret2
        rw [HE3.out]
        exact ⟨rfl, Keep.refl _ _⟩
    · have HE3 := Lib.hid (HE2.trans (if_neg (fun h => h2 h.2.1)))
      have f1 := dec_le_t (show (s.size : Int) ≤ (a : Int) + 2 by omega)
      have f2 := dec_len_t (show s.size ≤ a + 2 by omega)
      rw [c2] at hi0
      clear HE HE2 c1 c2 h2 hun hb0 hcl htz hbt h0 hs1
      go_enter Tryz.func83, Tryz.ntmps83
      go_wp2
      go_ret2
      rw [HE3.out]
      exact ⟨rfl, Keep.refl _ _⟩
  · have HE3 := Lib.hid (HE2.trans (if_neg (fun h => c2 h.1)))
    obtain ⟨c, hc⟩ : ∃ c : Int, c = ((byt t 0 : Nat) : Int) := ⟨_, rfl⟩
    rw [← hc] at hi0
    have g1 : (c == 34) = false := ((ar4 hc).2 hun.1).1
    have g2 : (c == 92) = false := ((ar4 hc).2 hun.2.1).1
    have g3 : (c == 110) = false := ((ar4 hc).2 hun.2.2.1).1
    have g4 : (c == 114) = false := ((ar4 hc).2 hun.2.2.2.1).1
    have g5 : (c == 116) = false := ((ar4 hc).2 hun.2.2.2.2).1
    have g6 : (c == 120) = false := ((ar4 hc).2 c1).1
    have g7 : (c == 117) = false := ((ar4 hc).2 c2).1
    clear HE HE2 c1 c2 hun hb0 hcl htz hbt h0 hs1 hc
    go_enter Tryz.func83, Tryz.ntmps83
    go_wp2
    go_ret2
    rw [HE3.out]
    exact ⟨rfl, Keep.refl _ _⟩
end Go.Proofs.YtbidppjhenfjdaaGreatDoor
