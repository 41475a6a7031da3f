/-
  DiffLimits, walked.
-/
import Derived.Test.YtddbjclpmkelaaaDifU
namespace Go.Proofs.Ytddbjclpmkelaaa
open Go.RowKit
set_option linter.unusedVariables false
set_option linter.unusedSimpArgs false

/-- Rows that share no rune: one Edit. -/
theorem mkE_apart (n : Nat) : ∀ (x y : List Int) (e : Ed), x.length + y.length ≤ n → (∀ a ∈ x, ∀ b ∈ y, a ≠ b) → mkE x y e = Ed.flush ⟨e.keep, e.drop + x.length, e.text ++ y⟩ := by
  induction n with
  | zero =>
    intro x y e hn h
    have hx : x = [] := List.length_eq_zero_iff.1 (by omega)
    have hy : y = [] := List.length_eq_zero_iff.1 (by omega)
    subst hx; subst hy
    rw [mkE_nil]; simp
  | succ n ih =>
    intro x y e hn h
    match x, y with
    | [], [] => rw [mkE_nil]; simp
    | [], b :: y =>
      rw [mkE_lay0, ih [] y _ (by simp at hn ⊢; omega) (by simp)]
      simp [Ed.lay]
    | a :: x, [] =>
      rw [mkE_more0, ih x [] _ (by simp at hn ⊢; omega) (by simp)]
      simp [Ed.more]; congr 2; omega
    | a :: x, b :: y =>
      have hab : a ≠ b := h a (by simp) b (by simp)
      by_cases hl : lft x (b :: y) < lft (a :: x) (b :: y)
      · rw [mkE_more hab _ _ _ hl, ih x (b :: y) _ (by simp at hn ⊢; omega) (fun c hc d hd => h c (by simp [hc]) d hd)]
        simp [Ed.more]; congr 2; omega
      · rw [mkE_lay hab _ _ _ hl, ih (a :: x) y _ (by simp at hn ⊢; omega) (fun c hc d hd => h c hc d (by simp [hd]))]
        simp [Ed.lay]
theorem mkD_rep {r s : Int} (n m : Nat) (h : r ≠ s) (hn : 0 < n) : mkD (List.replicate n r) (List.replicate m s) = [⟨0, n, List.replicate m s⟩] ∧ mkD (List.replicate m s) (List.replicate n r) = [⟨0, m, List.replicate n r⟩] := by
  refine ⟨?_, ?_⟩
  · unfold mkD
    rw [mkE_apart _ _ _ _ (Nat.le_refl _) (fun a ha b hb => by rw [(List.mem_replicate.1 ha).2, (List.mem_replicate.1 hb).2]; exact h)]
    unfold Ed.flush
    split
    · simp
    · rename_i hc; exact absurd (Or.inl (by simpa using hn)) hc
  · unfold mkD
    rw [mkE_apart _ _ _ _ (Nat.le_refl _) (fun a ha b hb => by rw [(List.mem_replicate.1 ha).2, (List.mem_replicate.1 hb).2]; exact fun hh => h hh.symm)]
    unfold Ed.flush
    split
    · simp
    · rename_i hc; exact absurd (Or.inr (by intro hh; have := congrArg List.length hh; simp at this; omega)) hc
theorem lim_out {r : Int} (n m : Nat) (hv : Utf8.valid r = true) (hr : r ≠ 98) (hn : 0 < n) :
    (400 < n ∨ 400 < m → mkOut (txt (List.replicate n r)) (txt (List.replicate m 98)) = (7, []) ∧ mkOut (txt (List.replicate m 98)) (txt (List.replicate n r)) = (7, [])) ∧
    (n ≤ 400 → m ≤ 400 → ((mkOut (txt (List.replicate n r)) (txt (List.replicate m 98))).1 = 0 ∧ (mkOut (txt (List.replicate n r)) (txt (List.replicate m 98))).2.map edv = [(0, (n : Int), txt (List.replicate m 98))]) ∧
      (mkOut (txt (List.replicate m 98)) (txt (List.replicate n r))).1 = 0 ∧ (mkOut (txt (List.replicate m 98)) (txt (List.replicate n r))).2.map edv = [(0, (m : Int), txt (List.replicate n r))]) := by
  have h1 : (List.replicate n r).map fixr = List.replicate n r := map_fix_valid (fun a ha => by rw [(List.mem_replicate.1 ha).2]; exact hv)
  have h2 : (List.replicate m (98 : Int)).map fixr = List.replicate m 98 := map_fix_valid (fun a ha => by rw [(List.mem_replicate.1 ha).2]; decide)
  refine ⟨fun h => ?_, fun ha hb => ?_⟩
  · refine ⟨?_, ?_⟩ <;>
    · unfold mkOut
      rw [badAt_txt, badAt_txt, (runs_text _).1, (runs_text _).1, h1, h2, if_pos (by decide), List.length_replicate, List.length_replicate, if_neg (by omega)]
  · refine ⟨?_, ?_⟩ <;>
    · unfold mkOut
      rw [badAt_txt, badAt_txt, (runs_text _).1, (runs_text _).1, h1, h2, if_pos (by decide), List.length_replicate, List.length_replicate, if_pos (by omega)]
      first | rw [(mkD_rep n m hr hn).1] | rw [(mkD_rep n m hr hn).2]
      exact ⟨rfl, rfl⟩
theorem rep_txt (r : Int) (lit : ByteArray) (h : txt [r] = lit) (k : Nat) : txt (List.replicate k r) ++ lit = txt (List.replicate (k + 1) r) := by
  rw [List.replicate_succ', txt_append, h]
theorem lim_a : (∀ k, txt (List.replicate k 97) ++ (⟨#[97]⟩ : ByteArray) = txt (List.replicate (k + 1) 97)) ∧ (∀ k, txt (List.replicate k 98) ++ (⟨#[98]⟩ : ByteArray) = txt (List.replicate (k + 1) 98)) ∧ Utf8.valid 97 = true ∧ (97 : Int) ≠ 98 :=
  ⟨rep_txt 97 _ (by kernel_rfl), rep_txt 98 _ (by kernel_rfl), by decide, by decide⟩
theorem lim_w : (∀ k, txt (List.replicate k 119070) ++ (⟨#[240, 157, 132, 158]⟩ : ByteArray) = txt (List.replicate (k + 1) 119070)) ∧ (∀ k, txt (List.replicate k 98) ++ (⟨#[98]⟩ : ByteArray) = txt (List.replicate (k + 1) 98)) ∧ Utf8.valid 119070 = true ∧ (119070 : Int) ≠ 98 :=
  ⟨rep_txt 119070 _ (by kernel_rfl), rep_txt 98 _ (by kernel_rfl), by decide, by decide⟩
theorem edits_lit (w : World) (ad : Option Addr) (c : Nat) (x : EdV) (h : EdAt w (.slice ad 1 c) [x]) : Calls Try.prog 13 #[.slice ad 1 c, .slice (some ⟨w.heap.size, 0, none⟩) 1 1]
    (w.alloc (.cells #[.int .i64 x.1, .int .i64 x.2.1, .string x.2.2] 32)) fun r w' => r = .returned (.bool true) ∧ Keep [] w w' := by
  refine (edits_true _ _ [x] _ (h.keep0 ((Keep.refl _ _).alloc _)) (EdAt.lit w [x] _ _ 1 rfl rfl) (by simp)).mono ?_
  rintro r w' ⟨rfl, hk⟩
  exact ⟨rfl, ((Keep.refl _ _).alloc _).trans0 hk⟩

set_option maxRecDepth 100000 in
set_option maxHeartbeats 16000000 in
theorem diffLimits_walk (n m : Int) (wd : Bool) (w : World) (hn : -9223372036854775808 ≤ n ∧ n ≤ 9223372036854775807) (hm : -9223372036854775808 ≤ m ∧ m ≤ 9223372036854775807) :
    Calls Try.prog 4 #[.int .i64 n, .int .i64 m, .bool wd] w fun e w' => e = .returned (.bool true) ∧ Keep [] w w' := by
  by_cases h1 : n < 397
  · have h1' : (n < 397) := h1
    go_enter Try.func4, Try.ntmps4
    go_wp2_with fail
    refine (known_true _).mono ?_
    rintro r w4 ⟨rfl, k4⟩
    have K4 := Lib.hid k4; clear k4
    go_wp2_with fail
    go_ret
    exact ⟨rfl, K4.out⟩
  · by_cases h2 : 403 < n
    · have h2' : (403 < n) := h2
      go_enter Try.func4, Try.ntmps4
      go_wp2_with fail
      refine (known_true _).mono ?_
      rintro r w4 ⟨rfl, k4⟩
      have K4 := Lib.hid k4; clear k4
      go_wp2_with fail
      go_ret
      exact ⟨rfl, K4.out⟩
    · by_cases h3 : m < 0
      · have h3' : (m < 0) := h3
        go_enter Try.func4, Try.ntmps4
        go_wp2_with fail
        refine (known_true _).mono ?_
        rintro r w4 ⟨rfl, k4⟩
        have K4 := Lib.hid k4; clear k4
        go_wp2_with fail
        go_ret
        exact ⟨rfl, K4.out⟩
      · by_cases h4 : 403 < m
        · have h4' : (403 < m) := h4
          go_enter Try.func4, Try.ntmps4
          go_wp2_with fail
          refine (known_true _).mono ?_
          rintro r w4 ⟨rfl, k4⟩
          have K4 := Lib.hid k4; clear k4
          go_wp2_with fail
          go_ret
          exact ⟨rfl, K4.out⟩
        · obtain ⟨n, rfl⟩ := Int.eq_ofNat_of_zero_le (show 0 ≤ n by omega)
          obtain ⟨m, rfl⟩ := Int.eq_ofNat_of_zero_le (show 0 ≤ m by omega)
          cases wd with
          | false =>
            obtain ⟨HS, HB, HR⟩ := lim_a
            have t400 : ∀ k : Nat, k ≤ 403 → (txt (List.replicate k 97)).size ≤ 1612 := fun k hk => by have := txt_size (List.replicate k 97); simp at this; omega
            have b400 : ∀ k : Nat, k ≤ 403 → (txt (List.replicate k 98)).size ≤ 1612 := fun k hk => by have := txt_size (List.replicate k 98); simp at this; omega
            have M1 := Lib.hid (fun W => (make_any (txt (List.replicate n 97)) (txt (List.replicate m 98)) W (by have := t400 n (by omega); omega) (by have := b400 m (by omega); omega)).mono (fun _ _ h => h.r))
            have M2 := Lib.hid (fun W => (make_any (txt (List.replicate m 98)) (txt (List.replicate n 97)) W (by have := b400 m (by omega); omega) (by have := t400 n (by omega); omega)).mono (fun _ _ h => h.r))
            have HT := Lib.hid t400; have HU := Lib.hid b400; clear t400 b400
            have HHS := Lib.hid HS; have HHB := Lib.hid HB; clear HS HB
            have HWK : Hid (Keep [] w w) := Lib.hid (Keep.refl _ _)
            have HG := Lib.hid (lim_out (r := 97) n m HR.1 HR.2 (by omega)); clear HR
            go_enter Try.func4, Try.ntmps4
            go_wp2
            go_loopw [8, 10] (fun sa si wr => ∃ k : Nat, k ≤ n ∧ si = .int .i64 k ∧ sa = .string (txt (List.replicate k 97)) ∧ Keep [] w wr) (fun _ si _ => n - (intOf si).toNat)
            case atStart => exact ⟨0, by omega, rfl, by rw [List.replicate_zero]; rfl, HWK.out⟩
            case round =>
              obtain ⟨k, hk, rfl, rfl, hkw⟩ := hrel
              have HWK := Lib.hid hkw; clear hkw
              have hsz := HT.out k (by omega)
              have hst := HHS.out k
              have HST := Lib.hid hst; clear hst
              by_cases hlt : k < n
              · have hltd : decide (k < n) = true := by simpa using hlt
                have hki : ((k : Int) < (n : Int)) := by omega
                generalize txt (List.replicate k 97) = ta at *
                go_wp2
                all_goals first
                  | (exfalso; omega)
                  | (exfalso; simp at *; omega)
                  | exact ⟨⟨k + 1, by omega, by go_num, by rw [← HST.out], HWK.out⟩, by simp [intOf]; omega⟩
              · have hltd : decide (k < n) = false := by simpa using hlt
                obtain rfl : k = n := by omega
                generalize txt (List.replicate k 97) = ta at *
                go_wp2
                go_loopw [9, 11] (fun sb sj wr => ∃ q : Nat, q ≤ m ∧ sj = .int .i64 q ∧ sb = .string (txt (List.replicate q 98)) ∧ Keep [] w wr) (fun _ sj _ => m - (intOf sj).toNat)
                case atStart => exact ⟨0, by omega, rfl, by rw [List.replicate_zero]; rfl, HWK.out⟩
                case round =>
                  obtain ⟨q, hq, rfl, rfl, hkw⟩ := hrel
                  have HWQ := Lib.hid hkw; clear hkw
                  have hsz2 := HU.out q (by omega)
                  have hst := HHB.out q
                  have HST2 := Lib.hid hst; clear hst
                  by_cases hlq : q < m
                  · have hlqd : decide (q < m) = true := by simpa using hlq
                    have hqi : ((q : Int) < (m : Int)) := by omega
                    generalize txt (List.replicate q 98) = tb at *
                    go_wp2
                    all_goals first
                      | (exfalso; omega)
                      | (exfalso; simp at *; omega)
                      | exact ⟨⟨q + 1, by omega, by go_num, by rw [← HST2.out], HWQ.out⟩, by simp [intOf]; omega⟩
                  · have hlqd : decide (q < m) = false := by simpa using hlq
                    obtain rfl : q = m := by omega
                    clear HT HU HHS HHB HST HST2
                    generalize txt (List.replicate q 98) = tb at *
                    by_cases hbig : 400 < k ∨ 400 < q
                    · obtain ⟨g1, g2⟩ := HG.out.1 hbig
                      have g3 : mkOut tb ta = (7, []) := g2
                      rw [g1] at M1
                      rw [g3] at M2
                      clear g1 g2 g3 HG
                      have hkb : (400 : Int) < (k : Int) ∨ (¬ (400 : Int) < (k : Int)) ∧ (400 : Int) < (q : Int) := by omega
                      clear hbig
                      rcases hkb with hkb | ⟨hkb, hqb⟩
                      all_goals
                        go_wp2_with fail
                        refine (M1.out _).mono ?_
                        rintro rr w1 ⟨ad1, c1, rfl, _, k1⟩
                        have K1 := Lib.hid (HWQ.out.trans0 k1); clear k1
                        go_wp2_with fail
                        refine (M2.out _).mono ?_
                        rintro rr w2 ⟨ad2, c2, rfl, _, k2⟩
                        have K2 := Lib.hid (K1.out.trans0 k2); clear k2
                        go_wp2_with fail
                        refine (known_true _).mono ?_
                        rintro rr w3 ⟨rfl, k3⟩
                        have K3 := Lib.hid (K2.out.trans0 k3); clear k3
                        go_wp2_with fail
                        go_ret
                        exact ⟨rfl, K3.out⟩
                    · obtain ⟨g1, g2⟩ := HG.out.2 (by omega) (by omega)
                      rw [g1.1, g1.2] at M1
                      rw [g2.1, g2.2] at M2
                      clear g1 g2 HG
                      have hk0 : ¬ (400 : Int) < (k : Int) := by omega
                      have hq0 : ¬ (400 : Int) < (q : Int) := by omega
                      clear hbig
                      go_wp2_with fail
                      refine (M1.out _).mono ?_
                      rintro rr w1 ⟨ad1, c1, rfl, a1, k1⟩
                      have K1 := Lib.hid (HWQ.out.trans0 k1); have A1 := Lib.hid a1; clear k1 a1
                      go_wp2_with fail
                      refine (M2.out _).mono ?_
                      rintro rr w2 ⟨ad2, c2, rfl, a2, k2⟩
                      have K2 := Lib.hid (K1.out.trans0 k2); have B1 := Lib.hid (A1.out.keep0 k2); have A2 := Lib.hid a2; clear k2 a2
                      go_wp2_with fail
                      refine (edits_lit _ _ _ _ B1.out).mono ?_
                      rintro rr w3 ⟨rfl, k3⟩
                      have K3 := Lib.hid (K2.out.trans0 k3); have B2 := Lib.hid (A2.out.keep0 k3); clear k3
                      go_wp2_with fail
                      refine (edits_lit _ _ _ _ B2.out).mono ?_
                      rintro rr w4 ⟨rfl, k4⟩
                      have K4 := Lib.hid (K3.out.trans0 k4); clear k4
                      go_wp2_with fail
                      refine (known_true _).mono ?_
                      rintro rr w5 ⟨rfl, k5⟩
                      have K5 := Lib.hid (K4.out.trans0 k5); clear k5
                      go_wp2_with fail
                      go_ret
                      exact ⟨rfl, K5.out⟩
          | true =>
            obtain ⟨HS, HB, HR⟩ := lim_w
            have t400 : ∀ k : Nat, k ≤ 403 → (txt (List.replicate k 119070)).size ≤ 1612 := fun k hk => by have := txt_size (List.replicate k 119070); simp at this; omega
            have b400 : ∀ k : Nat, k ≤ 403 → (txt (List.replicate k 98)).size ≤ 1612 := fun k hk => by have := txt_size (List.replicate k 98); simp at this; omega
            have M1 := Lib.hid (fun W => (make_any (txt (List.replicate n 119070)) (txt (List.replicate m 98)) W (by have := t400 n (by omega); omega) (by have := b400 m (by omega); omega)).mono (fun _ _ h => h.r))
            have M2 := Lib.hid (fun W => (make_any (txt (List.replicate m 98)) (txt (List.replicate n 119070)) W (by have := b400 m (by omega); omega) (by have := t400 n (by omega); omega)).mono (fun _ _ h => h.r))
            have HT := Lib.hid t400; have HU := Lib.hid b400; clear t400 b400
            have HHS := Lib.hid HS; have HHB := Lib.hid HB; clear HS HB
            have HWK : Hid (Keep [] w w) := Lib.hid (Keep.refl _ _)
            have HG := Lib.hid (lim_out (r := 119070) n m HR.1 HR.2 (by omega)); clear HR
            go_enter Try.func4, Try.ntmps4
            go_wp2
            go_loopw [8, 10] (fun sa si wr => ∃ k : Nat, k ≤ n ∧ si = .int .i64 k ∧ sa = .string (txt (List.replicate k 119070)) ∧ Keep [] w wr) (fun _ si _ => n - (intOf si).toNat)
            case atStart => exact ⟨0, by omega, rfl, by rw [List.replicate_zero]; rfl, HWK.out⟩
            case round =>
              obtain ⟨k, hk, rfl, rfl, hkw⟩ := hrel
              have HWK := Lib.hid hkw; clear hkw
              have hsz := HT.out k (by omega)
              have hst := HHS.out k
              have HST := Lib.hid hst; clear hst
              by_cases hlt : k < n
              · have hltd : decide (k < n) = true := by simpa using hlt
                have hki : ((k : Int) < (n : Int)) := by omega
                generalize txt (List.replicate k 119070) = ta at *
                go_wp2
                all_goals first
                  | (exfalso; omega)
                  | (exfalso; simp at *; omega)
                  | exact ⟨⟨k + 1, by omega, by go_num, by rw [← HST.out], HWK.out⟩, by simp [intOf]; omega⟩
              · have hltd : decide (k < n) = false := by simpa using hlt
                obtain rfl : k = n := by omega
                generalize txt (List.replicate k 119070) = ta at *
                go_wp2
                go_loopw [9, 11] (fun sb sj wr => ∃ q : Nat, q ≤ m ∧ sj = .int .i64 q ∧ sb = .string (txt (List.replicate q 98)) ∧ Keep [] w wr) (fun _ sj _ => m - (intOf sj).toNat)
                case atStart => exact ⟨0, by omega, rfl, by rw [List.replicate_zero]; rfl, HWK.out⟩
                case round =>
                  obtain ⟨q, hq, rfl, rfl, hkw⟩ := hrel
                  have HWQ := Lib.hid hkw; clear hkw
                  have hsz2 := HU.out q (by omega)
                  have hst := HHB.out q
                  have HST2 := Lib.hid hst; clear hst
                  by_cases hlq : q < m
                  · have hlqd : decide (q < m) = true := by simpa using hlq
                    have hqi : ((q : Int) < (m : Int)) := by omega
                    generalize txt (List.replicate q 98) = tb at *
                    go_wp2
                    all_goals first
                      | (exfalso; omega)
                      | (exfalso; simp at *; omega)
                      | exact ⟨⟨q + 1, by omega, by go_num, by rw [← HST2.out], HWQ.out⟩, by simp [intOf]; omega⟩
                  · have hlqd : decide (q < m) = false := by simpa using hlq
                    obtain rfl : q = m := by omega
                    clear HT HU HHS HHB HST HST2
                    generalize txt (List.replicate q 98) = tb at *
                    by_cases hbig : 400 < k ∨ 400 < q
                    · obtain ⟨g1, g2⟩ := HG.out.1 hbig
                      have g3 : mkOut tb ta = (7, []) := g2
                      rw [g1] at M1
                      rw [g3] at M2
                      clear g1 g2 g3 HG
                      have hkb : (400 : Int) < (k : Int) ∨ (¬ (400 : Int) < (k : Int)) ∧ (400 : Int) < (q : Int) := by omega
                      clear hbig
                      rcases hkb with hkb | ⟨hkb, hqb⟩
                      all_goals
                        go_wp2_with fail
                        refine (M1.out _).mono ?_
                        rintro rr w1 ⟨ad1, c1, rfl, _, k1⟩
                        have K1 := Lib.hid (HWQ.out.trans0 k1); clear k1
                        go_wp2_with fail
                        refine (M2.out _).mono ?_
                        rintro rr w2 ⟨ad2, c2, rfl, _, k2⟩
                        have K2 := Lib.hid (K1.out.trans0 k2); clear k2
                        go_wp2_with fail
                        refine (known_true _).mono ?_
                        rintro rr w3 ⟨rfl, k3⟩
                        have K3 := Lib.hid (K2.out.trans0 k3); clear k3
                        go_wp2_with fail
                        go_ret
                        exact ⟨rfl, K3.out⟩
                    · obtain ⟨g1, g2⟩ := HG.out.2 (by omega) (by omega)
                      rw [g1.1, g1.2] at M1
                      rw [g2.1, g2.2] at M2
                      clear g1 g2 HG
                      have hk0 : ¬ (400 : Int) < (k : Int) := by omega
                      have hq0 : ¬ (400 : Int) < (q : Int) := by omega
                      clear hbig
                      go_wp2_with fail
                      refine (M1.out _).mono ?_
                      rintro rr w1 ⟨ad1, c1, rfl, a1, k1⟩
                      have K1 := Lib.hid (HWQ.out.trans0 k1); have A1 := Lib.hid a1; clear k1 a1
                      go_wp2_with fail
                      refine (M2.out _).mono ?_
                      rintro rr w2 ⟨ad2, c2, rfl, a2, k2⟩
                      have K2 := Lib.hid (K1.out.trans0 k2); have B1 := Lib.hid (A1.out.keep0 k2); have A2 := Lib.hid a2; clear k2 a2
                      go_wp2_with fail
                      refine (edits_lit _ _ _ _ B1.out).mono ?_
                      rintro rr w3 ⟨rfl, k3⟩
                      have K3 := Lib.hid (K2.out.trans0 k3); have B2 := Lib.hid (A2.out.keep0 k3); clear k3
                      go_wp2_with fail
                      refine (edits_lit _ _ _ _ B2.out).mono ?_
                      rintro rr w4 ⟨rfl, k4⟩
                      have K4 := Lib.hid (K3.out.trans0 k4); clear k4
                      go_wp2_with fail
                      refine (known_true _).mono ?_
                      rintro rr w5 ⟨rfl, k5⟩
                      have K5 := Lib.hid (K4.out.trans0 k5); clear k5
                      go_wp2_with fail
                      go_ret
                      exact ⟨rfl, K5.out⟩
end Go.Proofs.Ytddbjclpmkelaaa
