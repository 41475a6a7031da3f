/-
  Line.
-/
import Derived.Test.YtodbjehggkdjaaaPlaH
namespace Go.Proofs.Ytodbjehggkdjaaa
open Go.RowKit
set_option linter.unusedVariables false
set_option linter.unusedSimpArgs false

theorem cellR_out {s : ByteArray} {l c : Int} (h : l < 1 ∨ (ln s (np s) : Int) < l) : cellR s l c = (none, 3) := if_pos h
theorem cellR_in {s : ByteArray} {j a : Nat} (h : (lns s)[j]? = some a) (c : Int) :
    cellR s ((j : Nat) + 1 : Int) c = if c < 1 ∨ (cw s j a : Int) + 1 < c then (none, 3) else (some (a + c.toNat - 1), 0) := by
  have hj := (List.getElem?_eq_some_iff.1 h).1
  rw [lns_len] at hj
  unfold cellR
  rw [if_neg (by omega), show ((j : Int) + 1).toNat - 1 = j by omega]
  unfold cellR.sl0
  rw [h]; rfl

set_option maxRecDepth 100000 in
set_option maxHeartbeats 8000000 in
theorem cell_any (mb : Nat) (s : ByteArray) (l c : Int) (w : World) (h : MapAt w mb s) (hz : s.size ≤ 1000000) (hc0 : -9223372036854775808 ≤ c) (hc1 : c ≤ 9223372036854775807) :
    Calls Try.prog 11 #[.pointer (some ⟨mb, 0, none⟩), .int .i64 l, .int .i64 c] w fun e w' => e = .returned (.tuple #[.agg (spO s (cellR s l c).1), .int .i64 (cellR s l c).2]) ∧ Keep [] w w' := by
  have HM := Lib.hid h; clear h
  obtain ⟨rb, hrb⟩ : ∃ rb, rb = w.heap.size := ⟨_, rfl⟩
  have HRB := Lib.hid (show w.heap.size ≤ rb by omega)
  obtain ⟨W1, hW1⟩ : ∃ W1, W1 = w.alloc (.cells #[.int .i64 0, .int .i64 0, .int .i64 0, .int .i64 0, .int .i64 0, .int .i64 0] 29) := ⟨_, rfl⟩
  have K1 := Lib.hid (show Keep [] w W1 by rw [hW1]; exact (Keep.refl _ _).alloc _)
  have X1 := Lib.hid (show W1.heap[rb]? = some (.cells #[.int .i64 0, .int .i64 0, .int .i64 0, .int .i64 0, .int .i64 0, .int .i64 0] 29 (0, 0)) by rw [hW1, hrb]; exact World.alloc_heap_new w _)
  have HM1 := Lib.hid (HM.out.keep K1.out)
  by_cases hl : l < 1 ∨ (ln s (np s) : Int) < l
  · have HR := Lib.hid (cellR_out (s := s) (c := c) hl)
    have HLO := Lib.hid (fun W hM => line_out mb s l W hM hl)
    clear hl
    go_enter Try.func11, Try.ntmps11
    go_upto_region 3 with (fail)
    rw [← hW1, ← hrb]
    clear hW1 hrb
    go_wp2_with fail
    (with_reducible refine (HLO.out _ HM1.out).mono ?_)
    rintro e W2 ⟨rfl, hk⟩
    obtain ⟨W7, hs7, hb7, hk7⟩ := store_row (P := Try.prog) (t := 29) (cs := noSp) spot_info (hk.at_ X1.out (by simp)) rfl rfl noSp_one
    have HL7 := Lib.hid (load_var (P := Try.prog) Try.underlying29 rfl spot_info hb7 rfl)
    have K7 := Lib.hid ((K1.out.trans0 hk).trans hk7 (fun b hb => by simp at hb; exact .inr (by have := HRB.out; omega)))
    clear hb7 hk7 hk
    go_wp2_with (with_reducible refine park_store 6 35 _ rfl ?_)
    refine wpList_store_eq rfl _ (.tmp 6) (.tmp 35) rfl hs7 ?_
    clear hs7
    go_wp2
    rw [HR.out]
    exact bodyPost_ret (results_cell_two rfl _ _ rb _ _ rfl rfl HL7.out) rfl ⟨rfl, K7.out⟩
  · obtain ⟨j, rfl⟩ : ∃ j : Nat, l = (j : Int) + 1 := ⟨l.toNat - 1, by omega⟩
    have hjl : j < (lns s).length := by rw [lns_len]; omega
    have hj : (lns s)[j]? = some (lns s)[j] := List.getElem?_eq_getElem hjl
    generalize (lns s)[j] = a at *
    have HR := Lib.hid (cellR_in hj c)
    have hcw := cw_lt hj
    have hnx := nx_le s j
    have hnp := np_le s
    have HLI := Lib.hid (fun W hM => line_in mb s j a W hM hz hj)
    obtain ⟨cv, hcv⟩ : ∃ cv, cv = cw s j a := ⟨_, rfl⟩
    rw [← hcv] at HR HLI hcw
    obtain ⟨en, hen⟩ : ∃ en : Nat, en = a + cv := ⟨_, rfl⟩
    rw [← hen] at HLI
    have hen1 : en ≤ np s := by omega
    have HEN := Lib.hid hen
    clear hl hjl hj hcv hen hcw hnx
    by_cases hc : c < 1 ∨ (cv : Int) + 1 < c
    · have HR2 := Lib.hid (HR.out.trans (if_pos hc))
      have hb : decide (c < 1) = true ∨ (decide (c < 1) = false ∧ decide ((en : Int) - (a : Int) + 1 < c) = true) := by
        have := HEN.out
        by_cases h1 : c < 1
        · exact .inl (by simpa using h1)
        · exact .inr ⟨by simpa using h1, by simp; omega⟩
      have hae : (a : Int) ≤ (en : Int) := by have := HEN.out; omega
      clear hc HR
      rcases hb with t1 | ⟨t1, t2⟩
      all_goals
        go_enter Try.func11, Try.ntmps11
        go_upto_region 3 with (fail)
        rw [← hW1, ← hrb]
        clear hW1 hrb
        go_wp2_with fail
        (with_reducible refine (HLI.out _ HM1.out).mono ?_)
        rintro e W2 ⟨rfl, hk⟩
        obtain ⟨W7, hs7, hb7, hk7⟩ := store_row (P := Try.prog) (t := 29) (cs := noSp) spot_info (hk.at_ X1.out (by simp)) rfl rfl noSp_one
        have HL7 := Lib.hid (load_var (P := Try.prog) Try.underlying29 rfl spot_info hb7 rfl)
        have K7 := Lib.hid ((K1.out.trans0 hk).trans hk7 (fun b hb => by simp at hb; exact .inr (by have := HRB.out; omega)))
        clear hb7 hk7 hk
        go_wp2_with (with_reducible refine park_store 6 35 _ rfl ?_)
        refine wpList_store_eq rfl _ (.tmp 6) (.tmp 35) rfl hs7 ?_
        clear hs7
        go_wp2
        rw [HR2.out]
        exact bodyPost_ret (results_cell_two rfl _ _ rb _ _ rfl rfl HL7.out) rfl ⟨rfl, K7.out⟩
    · have HR2 := Lib.hid (HR.out.trans (if_neg hc))
      have hae : (a : Int) ≤ (en : Int) := by have := HEN.out; omega
      have t1 : decide (c < 1) = false := by simp; omega
      have t2 : decide ((en : Int) - (a : Int) + 1 < c) = false := by have := HEN.out; simp; omega
      have g1 : 1 ≤ c := by omega
      have g2 : c ≤ 2000000 := by have := HEN.out; omega
      obtain ⟨k, hk⟩ : ∃ k, k = a + c.toNat - 1 := ⟨_, rfl⟩
      have hkn : k < np s + 1 := by have := HEN.out; omega
      have hidx : (a : Int) + c - 1 = (k : Int) := by omega
      rw [← hk] at HR2
      have hk0 : (0 : Int) ≤ (k : Int) := by omega
      have hk1 : (k : Int) < (np s : Int) + 1 := by omega
      clear hc HR hk
      go_enter Try.func11, Try.ntmps11
      go_upto_region 3 with (fail)
      rw [← hW1, ← hrb]
      clear hW1 hrb
      go_wp2_with fail
      (with_reducible refine (HLI.out _ HM1.out).mono ?_)
      rintro e W2 ⟨rfl, hk⟩
      have K2 := Lib.hid (K1.out.trans0 hk); have X2 := Lib.hid (hk.at_ X1.out (by simp)); have HM2 := Lib.hid (HM1.out.keep hk)
      clear hk
      go_wp2_with fail
      refine (mall_any mb s _ HM2.out).mono ?_
      rintro e W3 ⟨b1, o1, c1, rfl, hsp, hk⟩
      have hld := load_spot hsp hkn
      obtain ⟨W7, hs7, hb7, hk7⟩ := store_row (P := Try.prog) (t := 29) (cs := spV s k) spot_info (hk.at_ X2.out (by simp)) rfl (spV_size s k) (spV_one s k)
      have HL7 := Lib.hid (load_var (P := Try.prog) Try.underlying29 rfl spot_info hb7 (spV_size s k))
      have K7 := Lib.hid ((K2.out.trans0 hk).trans hk7 (fun b hb => by simp at hb; exact .inr (by have := HRB.out; omega)))
      clear hb7 hk7 hk hsp
      go_wp2_with (with_reducible refine park_load 42 _ rfl ?_)
      refine wpList_load_eq rfl _ (.tmp 42) rfl hld ?_
      go_wp2_with (with_reducible refine park_store 6 43 _ rfl ?_)
      refine wpList_store_eq rfl _ (.tmp 6) (.tmp 43) rfl hs7 ?_
      clear hs7 hld
      go_wp2
      rw [HR2.out]
      exact bodyPost_ret (results_cell_two rfl _ _ rb _ _ rfl rfl HL7.out) rfl ⟨rfl, K7.out⟩
end Go.Proofs.Ytodbjehggkdjaaa
namespace Go.Proofs.Ytodbjehggkdjaaa
open Go.RowKit
set_option linter.unusedVariables false
set_option linter.unusedSimpArgs false

theorem lineR_out {s : ByteArray} {l : Int} (h : l < 1 ∨ (ln s (np s) : Int) < l) : lineR s l = (⟨#[]⟩, 3) := if_pos h
theorem lineR_in {s : ByteArray} {j a : Nat} (h : (lns s)[j]? = some a) : lineR s ((j : Nat) + 1 : Int) = (s.extract (pos s a) (pos s (nx s j)), 0) := by
  have hj := (List.getElem?_eq_some_iff.1 h).1
  rw [lns_len] at hj
  unfold lineR
  rw [if_neg (by omega), show ((j : Int) + 1).toNat - 1 = j by omega]
  unfold cellR.sl0
  rw [h]; rfl
theorem slice_part (s : ByteArray) {a p : Nat} (h1 : a ≤ p) (h2 : p ≤ s.size) (w : World) : (Instr.slice 9 (.string s) (some (.int .i64 a)) (some (.int .i64 p)) none).run Try.prog w = .ok (.string (s.extract a p)) w := slice_str2 s h1 h2 w

set_option maxRecDepth 100000 in
set_option maxHeartbeats 8000000 in
theorem tline_any (mb : Nat) (s : ByteArray) (l : Int) (w : World) (h : MapAt w mb s) (hz : s.size ≤ 1000000) :
    Calls Try.prog 15 #[.pointer (some ⟨mb, 0, none⟩), .int .i64 l] w fun e w' => e = .returned (.tuple #[.string (lineR s l).1, .int .i64 (lineR s l).2]) ∧ Keep [] w w' := by
  have HM := Lib.hid h; clear h
  by_cases hl : l < 1 ∨ (ln s (np s) : Int) < l
  · have HR := Lib.hid (lineR_out (s := s) hl)
    have hb : decide (l < 1) = true ∨ (decide (l < 1) = false ∧ decide (((ln s (np s) : Nat) : Int) < l) = true) := by
      by_cases h1 : l < 1
      · exact .inl (by simpa using h1)
      · exact .inr ⟨by simpa using h1, by simp; omega⟩
    clear hl
    rcases hb with t1 | ⟨t1, t2⟩
    all_goals
      go_enter Try.func15, Try.ntmps15
      go_wp2_with fail
      refine (mall_any mb s _ HM.out).mono ?_
      rintro e W1 ⟨b1, o1, c1, rfl, hsp, hk1⟩
      have HM1 := Lib.hid (HM.out.keep hk1); have K1 := Lib.hid hk1; clear hsp hk1
      go_wp2_with fail
      refine (starts_any mb s _ HM1.out).mono ?_
      rintro e W2 ⟨b2, o2, c2, rfl, hsl, hk2⟩
      have K2 := Lib.hid (K1.out.trans0 hk2); clear hsl hk2
      go_wp2
      go_ret2
      rw [HR.out]
      exact ⟨rfl, K2.out⟩
  · obtain ⟨j, rfl⟩ : ∃ j : Nat, l = (j : Int) + 1 := ⟨l.toNat - 1, by omega⟩
    have hjl : j < (lns s).length := by rw [lns_len]; omega
    have hj : (lns s)[j]? = some (lns s)[j] := List.getElem?_eq_getElem hjl
    generalize (lns s)[j] = a at *
    have HR := Lib.hid (lineR_in hj)
    have hnx := nx_le s j
    have hnp := np_le s
    have hanp := st_np hj
    have hanx := (line_is (k := a) hanp hj).2.2
    have hll := ln_le s (np s)
    rw [lns_len] at hjl
    have t1 : decide ((j : Int) + 1 < 1) = false := by simp; omega
    have t2 : decide (((ln s (np s) : Nat) : Int) < (j : Int) + 1) = false := by simp; omega
    have HA := Lib.hid (ints_at hj)
    have HNX := Lib.hid (show nx s j = (lns s)[j + 1]?.getD (np s + 1) from rfl)
    have hpx : pos s a ≤ pos s (nx s j) := by
      by_cases e : nx s j ≤ np s
      · have := pos_mono (s := s) hanx e; omega
      · rw [pos_end (k := nx s j) (by omega)]; exact pos_le s a
    have HSL := Lib.hid (fun W => slice_part s hpx (pos_le s (nx s j)) W)
    have HPE := Lib.hid (pos_end (s := s) (k := nx s j))
    obtain ⟨L, hL⟩ : ∃ L, L = ln s (np s) := ⟨_, rfl⟩
    rw [← hL] at hjl hll t2
    have HL := Lib.hid hL
    clear hl hj hpx hL
    go_enter Try.func15, Try.ntmps15
    go_wp2_with fail
    refine (mall_any mb s _ HM.out).mono ?_
    rintro e W1 ⟨b1, o1, c1, rfl, hsp, hk1⟩
    have HM1 := Lib.hid (HM.out.keep hk1); have K1 := Lib.hid hk1; have SP := Lib.hid hsp; clear hsp hk1
    go_wp2_with fail
    refine (starts_any mb s _ HM1.out).mono ?_
    rintro e W2 ⟨b2, o2, c2, rfl, hsl, hk2⟩
    have K2 := Lib.hid (K1.out.trans0 hk2); have SP2 := Lib.hid (SP.out.keep0 hk2); have HM2 := Lib.hid (HM1.out.keep hk2)
    rw [← HL.out] at hsl ⊢
    obtain ⟨b2', o2', c2', e2, hcs⟩ := SlAt.at_ hsl (by omega)
    simp only [Value.slice.injEq, Option.some.injEq, Addr.mk.injEq] at e2
    obtain ⟨⟨rfl, rfl, _⟩, _, _⟩ := e2
    obtain ⟨b1', o1', c1', e1, hsc⟩ := SpAt.cells SP2.out (by omega)
    simp only [Value.slice.injEq, Option.some.injEq, Addr.mk.injEq] at e1
    obtain ⟨⟨rfl, rfl, _⟩, _, _⟩ := e1
    have d0 := hcs j _ HA.out
    have c0 := (hsc a (by omega)).1
    have HCS := Lib.hid hcs; have HSC := Lib.hid hsc
    clear hsl hk2 K1 SP HM1 hcs hsc
    go_upto_region 6 with (fail)
    have q0 := HM2.out.text
    have q1 := c0
    have q2 := d0
    clear c0 d0
    have hw1 : IntKind.i64.wrap ((j : Int) + 1 - 1) = (j : Int) := by rw [IntKind.wrap_i64]; omega
    have hw2 : IntKind.i64.wrap (j : Int) = (j : Int) := by rw [IntKind.wrap_i64]; omega
    have i0 : (0 : Int) ≤ (j : Int) := by omega
    have i1 : (j : Int) < (L : Int) := by omega
    have i2 : (0 : Int) ≤ (a : Int) := by omega
    have i3 : (a : Int) < (np s : Int) + 1 := by omega
    go_quiet (fail)
    generalize hW3 : W2.drewN _ = W3
    have hkq : Keep [] W2 W3 := by rw [← hW3]; exact (Keep.refl _ _).drewN _
    have K3 := Lib.hid (K2.out.trans0 hkq); have HT := Lib.hid (HM2.out.keep hkq).text
    have HKQ := Lib.hid hkq
    clear q0 q1 q2 hkq hW3 hw1 hw2
    have ht := HT.out
    have hsr := HSL.out W3
    by_cases hlast : j + 1 < L
    · have t3 : decide ((j : Int) + 1 < (L : Int)) = true := by simp; omega
      have hl2 : j + 1 < (lns s).length := by rw [lns_len, ← HL.out]; exact hlast
      have hn1 : (lns s)[j + 1]? = some (nx s j) := by rw [HNX.out, List.getElem?_eq_getElem hl2]; rfl
      have hnle := st_np hn1
      have d1 := HKQ.out.cellv (HCS.out (j + 1) _ (ints_at hn1)) (by simp)
      have c1 := HKQ.out.cellv (HSC.out (nx s j) (by omega)).1 (by simp)
      have i4 : (0 : Int) ≤ (j : Int) + 1 := by omega
      have i5 : (j : Int) + 1 < (L : Int) := by omega
      have i6 : (0 : Int) ≤ (nx s j : Int) := by omega
      have i7 : (nx s j : Int) < (np s : Int) + 1 := by omega
      have i8 : ((j : Int) + 1).toNat = j + 1 := by omega
      clear hlast hn1 hl2
      generalize nx s j = m at *
      go_wp2
      go_ret2
      rw [HR.out]
      exact ⟨rfl, K3.out⟩
    · have t3 : decide ((j : Int) + 1 < (L : Int)) = false := by simp; omega
      have hn : nx s j = np s + 1 := by rw [HNX.out, List.getElem?_eq_none (by rw [lns_len, ← HL.out]; omega)]; rfl
      have hp : pos s (nx s j) = s.size := HPE.out (by omega)
      rw [hp] at hsr HR
      clear hlast hn hp
      go_wp2
      go_ret2
      rw [HR.out]
      exact ⟨rfl, K3.out⟩
end Go.Proofs.Ytodbjehggkdjaaa
