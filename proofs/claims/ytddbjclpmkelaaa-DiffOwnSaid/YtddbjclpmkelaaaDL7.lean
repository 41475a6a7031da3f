/-
  DiffAround, walked.
-/
import Derived.Test.YtddbjclpmkelaaaDifU
namespace Go.Proofs.Ytddbjclpmkelaaa
open Go.RowKit
set_option linter.unusedVariables false
set_option linter.unusedSimpArgs false

theorem mkOut_txt {x y : List Int} (hx : ∀ r ∈ x, Utf8.valid r = true) (hy : ∀ r ∈ y, Utf8.valid r = true) (h1 : x.length ≤ 400) (h2 : y.length ≤ 400) : mkOut (txt x) (txt y) = (0, mkD x y) := by
  unfold mkOut
  rw [badAt_txt, badAt_txt, (runs_text x).1, (runs_text y).1, map_fix_valid hx, map_fix_valid hy, if_pos (by decide), if_pos ⟨h1, h2⟩]
theorem wsat_eds (l : List Ed) : ∀ n : Int, 0 ≤ n → n + (wgt l : Int) ≤ 9223372036854775807 → wsat n (l.map edv) = n + wgt l := by
  induction l with
  | nil => intro n _ _; simp [wsat, wgt]
  | cons e l ih =>
    intro n h0 h
    simp only [wgt, Int.natCast_add] at h
    rw [List.map_cons, wsat]
    simp only [edv, cut_txt_len]
    rw [show min (9223372036854775807 : Int) (n + max (e.drop : Int) 0 + (e.text.length : Int)) = n + (e.drop : Int) + (e.text.length : Int) by omega, ih _ (by omega) (by omega)]
    simp only [wgt, Int.natCast_add]; omega
theorem eds_len (l : List Ed) (h : ∀ d ∈ l, d.full) : l.length ≤ wgt l := by
  induction l with
  | nil => simp
  | cons e l ih =>
    have he := h e (by simp)
    have := ih (fun d hd => h d (by simp [hd]))
    have : 1 ≤ e.drop + e.text.length := by
      rcases he with h | h
      · omega
      · cases ht : e.text with
        | nil => exact absurd ht h
        | cons => simp; omega
    simp [wgt]; omega
theorem eds_text (l : List Ed) : ∀ e ∈ l, e.drop ≤ wgt l ∧ e.text.length ≤ wgt l := by
  induction l with
  | nil => simp
  | cons a l ih =>
    intro e he
    rcases List.mem_cons.1 he with rfl | he
    · simp [wgt]; omega
    · have := ih e he; simp [wgt]; omega
theorem lft_le (x y : List Int) : lft x y ≤ x.length + y.length := by have := lft_lcs x y; omega
/-- The weight of what is made. -/
theorem weight_mk (x y : List Int) (hx : x.length ≤ 400) (hy : y.length ≤ 400) (W : World) (v : Value) (h : EdAt W v ((mkD x y).map edv)) :
    Calls Try.prog 19 #[v] W fun e w' => e = .returned (.int .i64 (lft x y)) ∧ Keep [] W w' := by
  have hw := mkD_wgt x y
  have hl := lft_le x y
  have hn := eds_len (mkD x y) (form_mk x y ⟨0, 0, []⟩).1
  refine (weight_any v _ W h (by rw [List.length_map]; omega) (fun e he => ?_)).mono ?_
  · obtain ⟨d, hd, rfl⟩ := List.mem_map.1 he
    have := eds_text _ d hd
    have ht := txt_size d.text
    simp only [edv]
    omega
  · rintro e w' ⟨rfl, hk⟩
    rw [wsat_eds _ 0 (by omega) (by omega), hw, Int.zero_add]
    exact ⟨rfl, hk⟩
theorem cut_mend_120 (a : ByteArray) : cutV (mend a) 120 = .tuple #[.string (txt ((runs a 0).take 120)), .string (txt ((runs a 0).drop 120))] := by
  unfold mend; rw [cutV_txt]; rfl
theorem mend_size2 (a : ByteArray) : (mend a).size ≤ 4 * a.size := by
  have h1 := txt_size (runs a 0)
  have h2 := runs_size a
  unfold mend; omega

set_option maxRecDepth 100000 in
set_option maxHeartbeats 16000000 in
theorem diffAround_walk (a b c : ByteArray) (w : World) (hsa : a.size ≤ maxLen) (hsb : b.size ≤ maxLen) (hsc : c.size ≤ maxLen) :
    Calls Try.prog 9 #[.string a, .string b, .string c] w fun e w' => e = .returned (.bool true) ∧ Keep [] w w' := by
  unfold maxLen at hsa hsb hsc
  by_cases hza : a.size ≤ 1200
  · have hzd : ¬ ((1200 : Int) < (a.size : Int)) := by omega
    by_cases hzb : b.size ≤ 1200
    · have hzl : ¬ ((1200 : Int) < (b.size : Int)) := by omega
      by_cases hzc : c.size ≤ 1200
      · have hzm : ¬ ((1200 : Int) < (c.size : Int)) := by omega
        have hma := mend_size2 a
        have hmb := mend_size2 b
        have hmc := mend_size2 c
        have MA := Lib.hid (fun W => mend_any a W (by omega)); have MB := Lib.hid (fun W => mend_any b W (by omega)); have MC := Lib.hid (fun W => mend_any c W (by omega))
        have CA := Lib.hid (fun W => cut_any (mend a) 120 W (by omega) (by omega) (by omega)); have CB := Lib.hid (fun W => cut_any (mend b) 120 W (by omega) (by omega) (by omega)); have CC := Lib.hid (fun W => cut_any (mend c) 120 W (by omega) (by omega) (by omega))
        rw [cut_mend_120] at CA CB CC
        have hvx : ∀ r ∈ (runs a 0).take 120, Utf8.valid r = true := fun r hr => runs_valid a 0 r (List.mem_of_mem_take hr)
        have hvy : ∀ r ∈ (runs b 0).take 120, Utf8.valid r = true := fun r hr => runs_valid b 0 r (List.mem_of_mem_take hr)
        have hvz : ∀ r ∈ (runs c 0).take 120, Utf8.valid r = true := fun r hr => runs_valid c 0 r (List.mem_of_mem_take hr)
        have hlx : ((runs a 0).take 120).length ≤ 120 := by simp; omega
        have hly : ((runs b 0).take 120).length ≤ 120 := by simp; omega
        have hlz : ((runs c 0).take 120).length ≤ 120 := by simp; omega
        generalize txt ((runs a 0).drop 120) = ra at *
        generalize txt ((runs b 0).drop 120) = rb at *
        generalize txt ((runs c 0).drop 120) = rc at *
        generalize mend a = ma at *
        generalize mend b = mb at *
        generalize mend c = mc at *
        generalize (runs a 0).take 120 = x at *
        generalize (runs b 0).take 120 = y at *
        generalize (runs c 0).take 120 = z at *
        have hvj : ∀ p : List Int, (∀ r ∈ p, Utf8.valid r = true) → ∀ r ∈ z ++ p ++ z, Utf8.valid r = true := fun p hp r hr => by
          rcases List.mem_append.1 hr with h | h
          · rcases List.mem_append.1 h with h | h
            · exact hvz r h
            · exact hp r h
          · exact hvz r h
        have tsx := txt_size x
        have tsy := txt_size y
        have tsz := txt_size z
        have MK : ∀ p q : List Int, (∀ r ∈ p, Utf8.valid r = true) → (∀ r ∈ q, Utf8.valid r = true) → p.length ≤ 400 → q.length ≤ 400 → ∀ W, Calls Try.prog 11 #[.string (txt p), .string (txt q)] W (EdsR .i64 0 ((mkD p q).map edv) W) := fun p q hp hq h1 h2 W => by
          have t1 := txt_size p
          have t2 := txt_size q
          have := (make_any (txt p) (txt q) W (by omega) (by omega)).mono (fun _ _ h => h.r)
          rw [mkOut_txt hp hq h1 h2] at this
          exact this
        have M0 := Lib.hid (MK x x hvx hvx (by omega) (by omega))
        have M1 := Lib.hid (MK x y hvx hvy (by omega) (by omega))
        have M2 := Lib.hid (MK y x hvy hvx (by omega) (by omega))
        have M3 := Lib.hid (MK x z hvx hvz (by omega) (by omega))
        have M4 := Lib.hid (MK z y hvz hvy (by omega) (by omega))
        have M5 := Lib.hid (MK (z ++ x ++ z) (z ++ y ++ z) (hvj x hvx) (hvj y hvy) (by simp; omega) (by simp; omega))
        have W1 := Lib.hid (weight_mk x y (by omega) (by omega))
        have W2 := Lib.hid (weight_mk y x (by omega) (by omega))
        have W3 := Lib.hid (weight_mk x z (by omega) (by omega))
        have W4 := Lib.hid (weight_mk z y (by omega) (by omega))
        have W5 := Lib.hid (weight_mk (z ++ x ++ z) (z ++ y ++ z) (by simp; omega) (by simp; omega))
        rw [lft_comm y x] at W2
        rw [lft_affix] at W5
        have h3 := lft_third x y z
        have l1 := lft_le x y
        have l2 := lft_le x z
        have l3 := lft_le z y
        rw [mkD_self, List.map_nil] at M0
        rw [txt_append, txt_append, txt_append, txt_append] at M5
        clear MK hvj hvx hvy hvz
        generalize txt x = sx at *
        generalize txt y = sy at *
        generalize txt z = sz at *
        generalize (mkD x y).map edv = L1 at *
        generalize (mkD y x).map edv = L2 at *
        generalize (mkD x z).map edv = L3 at *
        generalize (mkD z y).map edv = L4 at *
        generalize (mkD (z ++ x ++ z) (z ++ y ++ z)).map edv = L5 at *
        generalize lft x y = n at *
        generalize lft x z = p at *
        generalize lft z y = q at *
        have hnpq : ((n : Int) ≤ (p : Int) + (q : Int)) := by omega
        go_enter Try.func9, Try.ntmps9
        go_wp2_with fail
        refine (MA.out _).mono ?_
        rintro r w1 ⟨rfl, k⟩
        have K := Lib.hid k; clear k
        go_wp2_with fail
        refine (CA.out _).mono ?_
        rintro r w2 ⟨rfl, k⟩
        replace K := Lib.hid (K.out.trans0 k); clear k
        go_wp2_with fail
        refine (MB.out _).mono ?_
        rintro r w3 ⟨rfl, k⟩
        replace K := Lib.hid (K.out.trans0 k); clear k
        go_wp2_with fail
        refine (CB.out _).mono ?_
        rintro r w4 ⟨rfl, k⟩
        replace K := Lib.hid (K.out.trans0 k); clear k
        go_wp2_with fail
        refine (MC.out _).mono ?_
        rintro r w5 ⟨rfl, k⟩
        replace K := Lib.hid (K.out.trans0 k); clear k
        go_wp2_with fail
        refine (CC.out _).mono ?_
        rintro r w6 ⟨rfl, k⟩
        replace K := Lib.hid (K.out.trans0 k); clear k
        go_wp2_with fail
        refine (M0.out _).mono ?_
        rintro r w7 ⟨ad0, c0, rfl, _, k⟩
        replace K := Lib.hid (K.out.trans0 k); clear k
        go_wp2_with fail
        refine (M1.out _).mono ?_
        rintro r w8 ⟨ad1, c1, rfl, e, k⟩
        replace K := Lib.hid (K.out.trans0 k); have E1 := Lib.hid e; clear k e
        go_wp2_with fail
        refine (M2.out _).mono ?_
        rintro r w9 ⟨ad2, c2, rfl, e, k⟩
        replace K := Lib.hid (K.out.trans0 k); replace E1 := Lib.hid (E1.out.keep0 k); have E2 := Lib.hid e; clear k e
        go_wp2_with fail
        refine (M3.out _).mono ?_
        rintro r wa ⟨ad3, c3, rfl, e, k⟩
        replace K := Lib.hid (K.out.trans0 k); replace E1 := Lib.hid (E1.out.keep0 k); replace E2 := Lib.hid (E2.out.keep0 k); have E3 := Lib.hid e; clear k e
        go_wp2_with fail
        refine (M4.out _).mono ?_
        rintro r wb ⟨ad4, c4, rfl, e, k⟩
        replace K := Lib.hid (K.out.trans0 k); replace E1 := Lib.hid (E1.out.keep0 k); replace E2 := Lib.hid (E2.out.keep0 k); replace E3 := Lib.hid (E3.out.keep0 k); have E4 := Lib.hid e; clear k e
        go_wp2_with fail
        refine (M5.out _).mono ?_
        rintro r wc ⟨ad5, c5, rfl, e, k⟩
        replace K := Lib.hid (K.out.trans0 k); replace E1 := Lib.hid (E1.out.keep0 k); replace E2 := Lib.hid (E2.out.keep0 k); replace E3 := Lib.hid (E3.out.keep0 k); replace E4 := Lib.hid (E4.out.keep0 k); have E5 := Lib.hid e; clear k e
        go_wp2_with fail
        refine (W1.out _ _ E1.out).mono ?_
        rintro r wd ⟨rfl, k⟩
        replace K := Lib.hid (K.out.trans0 k); replace E2 := Lib.hid (E2.out.keep0 k); replace E3 := Lib.hid (E3.out.keep0 k); replace E4 := Lib.hid (E4.out.keep0 k); replace E5 := Lib.hid (E5.out.keep0 k); clear k
        go_wp2_with fail
        refine (W2.out _ _ E2.out).mono ?_
        rintro r we ⟨rfl, k⟩
        replace K := Lib.hid (K.out.trans0 k); replace E3 := Lib.hid (E3.out.keep0 k); replace E4 := Lib.hid (E4.out.keep0 k); replace E5 := Lib.hid (E5.out.keep0 k); clear k
        go_wp2_with fail
        refine (W3.out _ _ E3.out).mono ?_
        rintro r wf ⟨rfl, k⟩
        replace K := Lib.hid (K.out.trans0 k); replace E4 := Lib.hid (E4.out.keep0 k); replace E5 := Lib.hid (E5.out.keep0 k); clear k
        go_wp2_with fail
        refine (W4.out _ _ E4.out).mono ?_
        rintro r wg ⟨rfl, k⟩
        replace K := Lib.hid (K.out.trans0 k); replace E5 := Lib.hid (E5.out.keep0 k); clear k
        go_wp2_with fail
        refine (W5.out _ _ E5.out).mono ?_
        rintro r wh ⟨rfl, k⟩
        replace K := Lib.hid (K.out.trans0 k); clear k
        go_wp2_with fail
        refine (known_true _).mono ?_
        rintro r wi ⟨rfl, k⟩
        replace K := Lib.hid (K.out.trans0 k); clear k
        go_wp2_with fail
        go_ret
        exact ⟨rfl, K.out⟩
      · have hzm : ((1200 : Int) < (c.size : Int)) := by omega
        go_enter Try.func9, Try.ntmps9
        go_wp2_with fail
        refine (known_true _).mono ?_
        rintro r w4 ⟨rfl, k4⟩
        have K4 := Lib.hid k4; clear k4
        go_wp2_with fail
        go_ret
        exact ⟨rfl, K4.out⟩
    · have hzl : ((1200 : Int) < (b.size : Int)) := by omega
      go_enter Try.func9, Try.ntmps9
      go_wp2_with fail
      refine (known_true _).mono ?_
      rintro r w4 ⟨rfl, k4⟩
      have K4 := Lib.hid k4; clear k4
      go_wp2_with fail
      go_ret
      exact ⟨rfl, K4.out⟩
  · have hzd : ((1200 : Int) < (a.size : Int)) := by omega
    go_enter Try.func9, Try.ntmps9
    go_wp2_with fail
    refine (known_true _).mono ?_
    rintro r w4 ⟨rfl, k4⟩
    have K4 := Lib.hid k4; clear k4
    go_wp2_with fail
    go_ret
    exact ⟨rfl, K4.out⟩
end Go.Proofs.Ytddbjclpmkelaaa
