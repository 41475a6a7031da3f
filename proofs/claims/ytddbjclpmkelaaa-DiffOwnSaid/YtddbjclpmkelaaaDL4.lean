/-
  DiffLeast, walked.
-/
import Derived.Test.YtddbjclpmkelaaaDifZ
import Derived.Test.YtddbjclpmkelaaaDifY
import Derived.Test.YtddbjclpmkelaaaDL7
namespace Go.Proofs.Ytddbjclpmkelaaa
open Go.RowKit
set_option linter.unusedVariables false
set_option linter.unusedSimpArgs false

theorem app_facts (l : List Ed) : ∀ x out : List Int, app x l = some out → ∀ e ∈ l, e.keep ≤ x.length ∧ e.drop ≤ x.length ∧ e.text.length ≤ out.length ∧ ∀ r ∈ e.text, r ∈ out := by
  induction l with
  | nil => intro x out _ e he; cases he
  | cons a l ih =>
    intro x out h e he
    rw [app] at h
    split at h
    · rename_i hc
      cases hr : app (x.drop (a.keep + a.drop)) l with
      | none => rw [hr] at h; cases h
      | some r =>
        rw [hr] at h
        simp only [Option.map_some, Option.some.injEq] at h
        subst h
        rcases List.mem_cons.1 he with rfl | he
        · exact ⟨by omega, by omega, by simp; omega, fun r hr => by simp [hr]⟩
        · obtain ⟨h1, h2, h3, h4⟩ := ih _ _ hr e he
          rw [List.length_drop] at h1 h2
          exact ⟨by omega, by omega, by simp; omega, fun r hr => by simp [h4 r hr]⟩
    · cases h
theorem apS_ok (x : List Int) (e : EdV) (l : List EdV) (h1 : ¬ (e.1 < 0 ∨ e.2.1 < 0)) (h2 : ¬ 0 ≤ badAt e.2.2) (h3 : ¬ ((x.length : Int) < e.1 ∨ (x.length : Int) - e.1 < e.2.1)) (h4 : (apS (x.drop (e.1.toNat + e.2.1.toNat)) l).1 = 0) :
    apS x (e :: l) = (0, x.take e.1.toNat ++ runs e.2.2 0 ++ (apS (x.drop (e.1.toNat + e.2.1.toNat)) l).2.1, (x.drop e.1.toNat).take e.2.1.toNat :: (apS (x.drop (e.1.toNat + e.2.1.toNat)) l).2.2) := by
  rw [apS, if_neg h1, if_neg h2, if_neg h3, if_pos h4]
theorem app_apS (l : List Ed) : ∀ x out : List Int, app x l = some out → (∀ e ∈ l, ∀ r ∈ e.text, Utf8.valid r = true) → (apS x (l.map edv)).1 = 0 ∧ (apS x (l.map edv)).2.1 = out := by
  induction l with
  | nil => intro x out h _; rw [app] at h; cases h; exact ⟨rfl, rfl⟩
  | cons a l ih =>
    intro x out h hv
    rw [app] at h
    split at h
    · rename_i hc
      cases hr : app (x.drop (a.keep + a.drop)) l with
      | none => rw [hr] at h; cases h
      | some r =>
        rw [hr] at h
        simp only [Option.map_some, Option.some.injEq] at h
        obtain ⟨i1, i2⟩ := ih _ _ hr (fun e he => hv e (by simp [he]))
        have hva := hv a (by simp)
        have hba : badAt (txt a.text) = -1 := badAt_txt a.text
        have hone := apS_ok x (edv a) (l.map edv) (show ¬ ((a.keep : Int) < 0 ∨ (a.drop : Int) < 0) by omega) (show ¬ 0 ≤ badAt (txt a.text) by omega) (show ¬ ((x.length : Int) < (a.keep : Int) ∨ (x.length : Int) - (a.keep : Int) < (a.drop : Int)) by omega) (show (apS (x.drop (a.keep + a.drop)) (l.map edv)).1 = 0 from i1)
        rw [List.map_cons, hone]
        refine ⟨rfl, ?_⟩
        show x.take a.keep ++ runs (txt a.text) 0 ++ (apS (x.drop (a.keep + a.drop)) (l.map edv)).2.1 = out
        rw [i2, (runs_text a.text).1, map_fix_valid hva]
        exact h
    · cases h
theorem txt_ne {t : List Int} (h : t ≠ []) : txt t ≠ ⟨#[]⟩ := by
  intro hc
  have h1 := cut_txt_len t
  rw [hc] at h1
  have h2 : (cut (⟨#[]⟩ : ByteArray) 0).length = 0 := by have h3 := cut_len_le (⟨#[]⟩ : ByteArray) 0 (Nat.zero_le _); have h4 : (⟨#[]⟩ : ByteArray).size = 0 := rfl; omega
  rw [h2] at h1
  exact h (List.eq_nil_of_length_eq_zero h1.symm)
theorem str_ne0 {a : ByteArray} (h : a ≠ ⟨#[]⟩) : a.toList.isEmpty = false := by
  cases he : a.toList with
  | nil =>
    rw [ByteArray.toList_eq] at he
    exact absurd (ByteArray.ext (Array.toList_inj.1 (by rw [he]))) h
  | cons => rfl
/-- What the law looks for in each Edit. -/
def EdForm (l : List EdV) : Prop := ∀ (i : Nat) (e : EdV), l[i]? = some e → 0 ≤ e.1 ∧ 0 ≤ e.2.1 ∧ (0 < i → 1 ≤ e.1) ∧ e.1 ≤ 400 ∧ e.2.1 ≤ 400 ∧ (e.2.1 ≠ 0 ∨ e.2.2 ≠ ⟨#[]⟩)
structure LeastF (a b : ByteArray) (l : List EdV) : Prop where
  ap : (apAll a l).1 = 0 ∧ txt (apAll a l).2.1 = b
  form : EdForm l
  len : l.length ≤ 1000
  nums : ∀ e ∈ l, -9223372036854775808 ≤ e.1 ∧ e.1 ≤ 9223372036854775807 ∧ -9223372036854775808 ≤ e.2.1 ∧ e.2.1 ≤ 9223372036854775807 ∧ e.2.2.size ≤ 10000
theorem least_facts {a b : ByteArray} (ha : ¬ 0 ≤ badAt a) (hb : ¬ 0 ≤ badAt b) (h1 : (runs a 0).length ≤ 400) (h2 : (runs b 0).length ≤ 400) : LeastF a b ((mkD (runs a 0) (runs b 0)).map edv) := by
  have happ := mkD_app (runs a 0) (runs b 0)
  have hf := app_facts _ _ _ happ
  have hs := app_apS _ _ _ happ (fun e he r hr => runs_valid b 0 r ((hf e he).2.2.2 r hr))
  have hw := mkD_wgt (runs a 0) (runs b 0)
  have hl := lft_le (runs a 0) (runs b 0)
  have hfm := form_mk (runs a 0) (runs b 0) ⟨0, 0, []⟩
  have hn := eds_len (mkD (runs a 0) (runs b 0)) hfm.1
  refine ⟨?_, ?_, by rw [List.length_map]; omega, ?_⟩
  · rw [apAll_apS ha, if_pos hs.1]
    exact ⟨rfl, by show txt _ = b; rw [hs.2]; exact txt_runs hb⟩
  · intro i e he
    rw [List.getElem?_map] at he
    cases hd : (mkD (runs a 0) (runs b 0))[i]? with
    | none => rw [hd] at he; cases he
    | some d =>
      rw [hd] at he
      simp only [Option.map_some, Option.some.injEq] at he
      subst he
      have hm := List.mem_of_getElem? hd
      have hb2 := hf d hm
      refine ⟨by simp only [edv]; omega, by simp only [edv]; omega, fun h0 => ?_, by simp only [edv]; omega, by simp only [edv]; omega, ?_⟩
      · have ht : d ∈ (mkE (runs a 0) (runs b 0) ⟨0, 0, []⟩).tail := by
          obtain ⟨j, rfl⟩ : ∃ j, i = j + 1 := ⟨i - 1, by omega⟩
          have : (mkD (runs a 0) (runs b 0)).tail[j]? = some d := by rw [List.getElem?_tail]; exact hd
          exact List.mem_of_getElem? this
        have := hfm.2.2 d ht
        simp only [edv]; omega
      · rcases hfm.1 d hm with h | h
        · left; simp only [edv]; omega
        · right; exact txt_ne h
  · intro e he
    obtain ⟨d, hd, rfl⟩ := List.mem_map.1 he
    have hb2 := hf d hd
    have ht := txt_size d.text
    simp only [edv]
    refine ⟨by omega, by omega, by omega, by omega, by omega⟩
theorem runes_at (s : ByteArray) (W : World) (h : s.size ≤ 1073741824) : Calls Try.prog 21 #[.string s] W fun r w' => ∃ g, r = .returned (.slice (some ⟨g, 0, none⟩) (runs s 0).length (runs s 0).length) ∧
    SlAt w' (.slice (some ⟨g, 0, none⟩) (runs s 0).length (runs s 0).length) (runs s 0).length ((runs s 0).map (Value.int .i32)) ∧ Keep [] W w' := by
  refine (runes_any s W h).mono ?_
  intro r w' hp
  obtain ⟨g, h1, h2, h3⟩ := runes_sl hp
  refine ⟨g, h1, ⟨_, _, rfl, ⟨fun h0 => ?_, fun h => by cases h⟩, fun _ => ⟨g, 0, rfl, fun i u hu => by rw [Nat.zero_add]; exact h3 i u hu⟩⟩, h2⟩
  rw [List.eq_nil_of_length_eq_zero h0]; rfl

set_option maxRecDepth 100000 in
set_option maxHeartbeats 16000000 in
theorem diffLeast_walk (a b : ByteArray) (w : World) (hsa : a.size ≤ maxLen) (hsb : b.size ≤ maxLen) :
    Calls Try.prog 6 #[.string a, .string b] w fun e w' => e = .returned (.bool true) ∧ Keep [] w w' := by
  unfold maxLen at hsa hsb
  by_cases hza : a.size ≤ 8000
  · have hzd : ¬ ((8000 : Int) < (a.size : Int)) := by omega
    by_cases hzb : b.size ≤ 8000
    · have hzl : ¬ ((8000 : Int) < (b.size : Int)) := by omega
      have M := Lib.hid (fun W => (make_any a b W (by omega) (by omega)).mono (fun _ _ h => h.r))
      have RA := Lib.hid (fun W => runes_at a W (by omega)); have RB := Lib.hid (fun W => runes_at b W (by omega))
      have BA := Lib.hid (fun W => badAt_any a W (by omega)); have BB := Lib.hid (fun W => badAt_any b W (by omega))
      have hla := runs_size a; have hlb := runs_size b
      by_cases hga : badAt a < 0
      · by_cases hgb : badAt b < 0
        · by_cases hl : (runs a 0).length ≤ 400 ∧ (runs b 0).length ≤ 400
          · have hm : mkOut a b = (0, mkD (runs a 0) (runs b 0)) := by unfold mkOut; rw [if_pos ⟨hga, hgb⟩, if_pos hl]
            rw [hm] at M
            have LF := least_facts (by omega) (by omega) hl.1 hl.2
            have WT := Lib.hid (fun W v (h : EdAt W v _) => weight_mk (runs a 0) (runs b 0) hl.1 hl.2 W v h)
            have AP := Lib.hid (fun W v (h : EdAt W v _) => apply_any a v _ W h LF.len (by omega) LF.nums)
            rw [LF.ap.1, LF.ap.2] at AP
            have LO := Lib.hid (fun va vb W h1 h2 => longest_any va vb (runs a 0) (runs b 0) W h1 h2 (by omega) (by omega))
            have hll := lft_lcs (runs a 0) (runs b 0)
            have HF := Lib.hid LF.form
            have EL := Lib.hid LF.len
            clear hm
            generalize badAt a = pa at *
            generalize badAt b = pb at *
            simp only at M
            generalize (mkD (runs a 0) (runs b 0)).map edv = l at *
            generalize lft (runs a 0) (runs b 0) = wt at *
            generalize lcs (runs a 0) (runs b 0) = lc at *
            clear LF
            generalize runs a 0 = x at *
            generalize runs b 0 = y at *
            have hx0 : ¬ ((400 : Int) < (x.length : Int)) := by omega
            have hy0 : ¬ ((400 : Int) < (y.length : Int)) := by omega
            have hsum : (x.length : Int) + (y.length : Int) - 2 * (lc : Int) = (wt : Int) := by omega
            go_enter Try.func6, Try.ntmps6
            go_wp2_with fail
            refine (M.out _).mono ?_
            rintro r w1 ⟨ad1, c1, rfl, e, k⟩
            have K := Lib.hid k; have E := Lib.hid e; clear k e
            go_wp2_with fail
            refine (RA.out _).mono ?_
            rintro r w2 ⟨g1, rfl, s, k⟩
            replace K := Lib.hid (K.out.trans0 k); replace E := Lib.hid (E.out.keep0 k); have S1 := Lib.hid s; clear k s
            go_wp2_with fail
            refine (RB.out _).mono ?_
            rintro r w3 ⟨g2, rfl, s, k⟩
            replace K := Lib.hid (K.out.trans0 k); replace E := Lib.hid (E.out.keep0 k); replace S1 := Lib.hid (S1.out.keep0 k); have S2 := Lib.hid s; clear k s
            go_wp2_with fail
            refine (BA.out _).mono ?_
            rintro r w4 ⟨rfl, k⟩
            replace K := Lib.hid (K.out.trans0 k); replace E := Lib.hid (E.out.keep0 k); replace S1 := Lib.hid (S1.out.keep0 k); replace S2 := Lib.hid (S2.out.keep0 k); clear k
            go_wp2_with fail
            refine (BB.out _).mono ?_
            rintro r w5 ⟨rfl, k⟩
            replace K := Lib.hid (K.out.trans0 k); replace E := Lib.hid (E.out.keep0 k); replace S1 := Lib.hid (S1.out.keep0 k); replace S2 := Lib.hid (S2.out.keep0 k); clear k
            go_wp2_with fail
            refine (AP.out _ _ E.out).mono ?_
            rintro r w6 ⟨rfl, k⟩
            replace K := Lib.hid (K.out.trans0 k); replace E := Lib.hid (E.out.keep0 k); replace S1 := Lib.hid (S1.out.keep0 k); replace S2 := Lib.hid (S2.out.keep0 k); clear k
            go_wp2_with fail
            refine (WT.out _ _ E.out).mono ?_
            rintro r w7 ⟨rfl, k⟩
            replace K := Lib.hid (K.out.trans0 k); replace E := Lib.hid (E.out.keep0 k); replace S1 := Lib.hid (S1.out.keep0 k); replace S2 := Lib.hid (S2.out.keep0 k); clear k
            go_wp2_with fail
            refine (LO.out _ _ _ S1.out S2.out).mono ?_
            rintro r w8 ⟨rfl, k⟩
            replace K := Lib.hid (K.out.trans0 k); replace E := Lib.hid (E.out.keep0 k); clear k S1 S2
            have hel := EL.out
            clear AP WT LO M RA RB BA BB
            go_wp2
            go_loopw [12] (fun s wr => ∃ i : Nat, i ≤ l.length ∧ s = .int .i64 i ∧ Keep [] w wr ∧ EdAt wr (.slice ad1 l.length c1) l) (fun s _ => l.length - (intOf s).toNat)
            case atStart => exact ⟨0, by omega, rfl, K.out, E.out⟩
            case round =>
              obtain ⟨i, hi, rfl, k, e⟩ := hrel
              replace K := Lib.hid k; replace E := Lib.hid e; clear k e
              by_cases hlt : i < l.length
              · have hltd : decide (i < l.length) = true := by simpa using hlt
                obtain ⟨ad, cap, hv, hc⟩ := E.out
                cases hv
                obtain ⟨b1, o1, rfl, hcc⟩ := hc (by omega)
                obtain ⟨p1, p2, p3⟩ := hcc i _ (List.getElem?_eq_getElem hlt)
                have hf := HF.out i _ (List.getElem?_eq_getElem hlt)
                have HC := Lib.hid hcc; clear hc hcc
                generalize l[i] = x at *
                obtain ⟨x1, x2, x3⟩ := x
                simp only at hf p1 p2 p3
                obtain ⟨f1, f2, f3, f4, f5, f6⟩ := hf
                have hli : ((i : Int) < (l.length : Int)) := by omega
                have n1 : ¬ x1 < 0 := by omega
                have n2 : ¬ x2 < 0 := by omega
                by_cases h0 : 0 < i
                · have h01 : ((0 : Int) < (i : Int)) := by omega
                  have n3 : ¬ x1 < 1 := by have := f3 h0; omega
                  by_cases hd : x2 = 0
                  · subst hd
                    have hs : x3 ≠ ⟨#[]⟩ := by rcases f6 with h | h; exact absurd rfl h; exact h
                    have hsb := str_ne0 hs
                    go_wp2
                    all_goals first
                      | (exfalso; omega)
                      | exact ⟨⟨i + 1, by omega, by go_num, K.out, E.out⟩, by simp [intOf]; omega⟩
                  · have hdd : decide (x2 = 0) = false := by simpa using hd
                    go_wp2
                    all_goals first
                      | (exfalso; omega)
                      | exact ⟨⟨i + 1, by omega, by go_num, K.out, E.out⟩, by simp [intOf]; omega⟩
                · have h01 : ¬ ((0 : Int) < (i : Int)) := by omega
                  by_cases hd : x2 = 0
                  · subst hd
                    have hs : x3 ≠ ⟨#[]⟩ := by rcases f6 with h | h; exact absurd rfl h; exact h
                    have hsb := str_ne0 hs
                    go_wp2
                    all_goals first
                      | (exfalso; omega)
                      | exact ⟨⟨i + 1, by omega, by go_num, K.out, E.out⟩, by simp [intOf]; omega⟩
                  · have hdd : decide (x2 = 0) = false := by simpa using hd
                    go_wp2
                    all_goals first
                      | (exfalso; omega)
                      | exact ⟨⟨i + 1, by omega, by go_num, K.out, E.out⟩, by simp [intOf]; omega⟩
              · have hltd : decide (i < l.length) = false := by simpa using hlt
                obtain rfl : i = l.length := by omega
                go_wp2_with fail
                refine (known_true _).mono ?_
                rintro r w9 ⟨rfl, k⟩
                replace K := Lib.hid (K.out.trans0 k); clear k
                go_wp2_with fail
                go_ret
                exact ⟨rfl, K.out⟩
          · have hm : mkOut a b = (7, []) := by unfold mkOut; rw [if_pos ⟨hga, hgb⟩, if_neg hl]
            rw [hm] at M
            clear hm
            generalize badAt a = pa at *
            generalize badAt b = pb at *
            generalize runs a 0 = x at *
            generalize runs b 0 = y at *
            have hxy : (400 : Int) < (x.length : Int) ∨ (¬ (400 : Int) < (x.length : Int)) ∧ (400 : Int) < (y.length : Int) := by omega
            clear hl
            rcases hxy with hx0 | ⟨hx0, hy0⟩
            all_goals
              go_enter Try.func6, Try.ntmps6
              go_wp2_with fail
              refine (M.out _).mono ?_
              rintro r w1 ⟨ad1, c1, rfl, e, k⟩
              have K := Lib.hid k; have E := Lib.hid e; clear k e
              go_wp2_with fail
              refine (RA.out _).mono ?_
              rintro r w2 ⟨g1, rfl, s, k⟩
              replace K := Lib.hid (K.out.trans0 k); replace E := Lib.hid (E.out.keep0 k); have S1 := Lib.hid s; clear k s
              go_wp2_with fail
              refine (RB.out _).mono ?_
              rintro r w3 ⟨g2, rfl, s, k⟩
              replace K := Lib.hid (K.out.trans0 k); replace E := Lib.hid (E.out.keep0 k); replace S1 := Lib.hid (S1.out.keep0 k); have S2 := Lib.hid s; clear k s
              go_wp2_with fail
              refine (BA.out _).mono ?_
              rintro r w4 ⟨rfl, k⟩
              replace K := Lib.hid (K.out.trans0 k); replace E := Lib.hid (E.out.keep0 k); replace S1 := Lib.hid (S1.out.keep0 k); replace S2 := Lib.hid (S2.out.keep0 k); clear k
              go_wp2_with fail
              refine (BB.out _).mono ?_
              rintro r w5 ⟨rfl, k⟩
              replace K := Lib.hid (K.out.trans0 k); replace E := Lib.hid (E.out.keep0 k); replace S1 := Lib.hid (S1.out.keep0 k); replace S2 := Lib.hid (S2.out.keep0 k); clear k
              go_wp2_with fail
              refine (known_true _).mono ?_
              rintro r w9 ⟨rfl, k⟩
              replace K := Lib.hid (K.out.trans0 k); clear k
              go_wp2_with fail
              go_ret
              exact ⟨rfl, K.out⟩
        · have hm : mkOut a b = (2, []) := by unfold mkOut; rw [if_neg (fun h => hgb h.2)]
          rw [hm] at M
          clear hm
          generalize badAt a = pa at *
          generalize badAt b = pb at *
          generalize runs a 0 = x at *
          generalize runs b 0 = y at *
          have hgd : decide (pb < 0) = false := by simpa using hgb
          go_enter Try.func6, Try.ntmps6
          go_wp2_with fail
          refine (M.out _).mono ?_
          rintro r w1 ⟨ad1, c1, rfl, e, k⟩
          have K := Lib.hid k; have E := Lib.hid e; clear k e
          go_wp2_with fail
          refine (RA.out _).mono ?_
          rintro r w2 ⟨g1, rfl, s, k⟩
          replace K := Lib.hid (K.out.trans0 k); replace E := Lib.hid (E.out.keep0 k); have S1 := Lib.hid s; clear k s
          go_wp2_with fail
          refine (RB.out _).mono ?_
          rintro r w3 ⟨g2, rfl, s, k⟩
          replace K := Lib.hid (K.out.trans0 k); replace E := Lib.hid (E.out.keep0 k); replace S1 := Lib.hid (S1.out.keep0 k); have S2 := Lib.hid s; clear k s
          go_wp2_with fail
          refine (BA.out _).mono ?_
          rintro r w4 ⟨rfl, k⟩
          replace K := Lib.hid (K.out.trans0 k); replace E := Lib.hid (E.out.keep0 k); replace S1 := Lib.hid (S1.out.keep0 k); replace S2 := Lib.hid (S2.out.keep0 k); clear k
          go_wp2_with fail
          refine (BB.out _).mono ?_
          rintro r w5 ⟨rfl, k⟩
          replace K := Lib.hid (K.out.trans0 k); replace E := Lib.hid (E.out.keep0 k); replace S1 := Lib.hid (S1.out.keep0 k); replace S2 := Lib.hid (S2.out.keep0 k); clear k
          go_wp2_with fail
          refine (known_true _).mono ?_
          rintro r w9 ⟨rfl, k⟩
          replace K := Lib.hid (K.out.trans0 k); clear k
          go_wp2_with fail
          go_ret
          exact ⟨rfl, K.out⟩
      · have hm : mkOut a b = (2, []) := by unfold mkOut; rw [if_neg (fun h => hga h.1)]
        rw [hm] at M
        clear hm
        generalize badAt a = pa at *
        generalize badAt b = pb at *
        generalize runs a 0 = x at *
        generalize runs b 0 = y at *
        have hgd : decide (pa < 0) = false := by simpa using hga
        go_enter Try.func6, Try.ntmps6
        go_wp2_with fail
        refine (M.out _).mono ?_
        rintro r w1 ⟨ad1, c1, rfl, e, k⟩
        have K := Lib.hid k; have E := Lib.hid e; clear k e
        go_wp2_with fail
        refine (RA.out _).mono ?_
        rintro r w2 ⟨g1, rfl, s, k⟩
        replace K := Lib.hid (K.out.trans0 k); replace E := Lib.hid (E.out.keep0 k); have S1 := Lib.hid s; clear k s
        go_wp2_with fail
        refine (RB.out _).mono ?_
        rintro r w3 ⟨g2, rfl, s, k⟩
        replace K := Lib.hid (K.out.trans0 k); replace E := Lib.hid (E.out.keep0 k); replace S1 := Lib.hid (S1.out.keep0 k); have S2 := Lib.hid s; clear k s
        go_wp2_with fail
        refine (BA.out _).mono ?_
        rintro r w4 ⟨rfl, k⟩
        replace K := Lib.hid (K.out.trans0 k); replace E := Lib.hid (E.out.keep0 k); replace S1 := Lib.hid (S1.out.keep0 k); replace S2 := Lib.hid (S2.out.keep0 k); clear k
        go_wp2_with fail
        refine (known_true _).mono ?_
        rintro r w9 ⟨rfl, k⟩
        replace K := Lib.hid (K.out.trans0 k); clear k
        go_wp2_with fail
        go_ret
        exact ⟨rfl, K.out⟩
    · have hzl : ((8000 : Int) < (b.size : Int)) := by omega
      go_enter Try.func6, Try.ntmps6
      go_wp2_with fail
      refine (known_true _).mono ?_
      rintro r w4 ⟨rfl, k4⟩
      have K4 := Lib.hid k4; clear k4
      go_wp2_with fail
      go_ret
      exact ⟨rfl, K4.out⟩
  · have hzd : ((8000 : Int) < (a.size : Int)) := by omega
    go_enter Try.func6, Try.ntmps6
    go_wp2_with fail
    refine (known_true _).mono ?_
    rintro r w4 ⟨rfl, k4⟩
    have K4 := Lib.hid k4; clear k4
    go_wp2_with fail
    go_ret
    exact ⟨rfl, K4.out⟩
end Go.Proofs.Ytddbjclpmkelaaa
