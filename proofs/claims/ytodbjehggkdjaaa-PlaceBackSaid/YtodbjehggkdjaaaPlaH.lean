/-
  line, Cell, Line.
-/
import Derived.Test.YtodbjehggkdjaaaMQ
namespace Go.Proofs.Ytodbjehggkdjaaa
open Go.RowKit
set_option linter.unusedVariables false
set_option linter.unusedSimpArgs false

theorem index_byte {s : ByteArray} {i : Nat} (h : i < s.size) (W : World) : (Instr.index 9 (.string s) (.int .i64 (i : Nat))).run Try.prog W = .ok (.int .u8 (byt s i : Nat)) W := by
  rw [run_index_string (P := Try.prog) W 9 s .i64 _ Try.underlying9, dif_pos (by omega)]
  congr 2
  rw [byt_at]
  congr 2
/-- What a Map's block holds. -/
theorem MapAt.text {W : World} {mb : Nat} {s : ByteArray} (h : MapAt W mb s) : W.cell? ⟨mb, 0, none⟩ = some (.string s) := by
  obtain ⟨vs, vl, h1, _⟩ := h
  rw [cell_of_block h1]; rfl
theorem ints_len' (s : ByteArray) : (ints (lns s)).length = ln s (np s) := by rw [ints_len, lns_len]

set_option maxRecDepth 100000 in
set_option maxHeartbeats 8000000 in
theorem line_out (mb : Nat) (s : ByteArray) (n : Int) (w : World) (h : MapAt w mb s) (hn : n < 1 ∨ (ln s (np s) : Int) < n) :
    Calls Try.prog 25 #[.pointer (some ⟨mb, 0, none⟩), .int .i64 n] w fun e w' => e = .returned (.tuple #[.int .i64 0, .int .i64 0, .int .i64 3]) ∧ Keep [] w w' := by
  have HM := Lib.hid h; clear h
  by_cases h1 : n < 1
  · have t1 : decide (n < 1) = true := by simpa using h1
    clear h1 hn
    go_enter Try.func25, Try.ntmps25
    go_wp2_with fail
    refine (mall_any mb s _ HM.out).mono ?_
    rintro e W1 ⟨b1, o1, c1, rfl, hsp, hk1⟩
    have HM1 := Lib.hid (HM.out.keep hk1); have K1 := Lib.hid hk1; clear hsp hk1
    go_wp2_with fail
    refine (starts_any mb s _ HM1.out).mono ?_
    rintro e W2 ⟨b2, o2, c2, rfl, hsl, hk2⟩
    have K2 := Lib.hid (K1.out.trans0 hk2); clear hsl hk2
    go_wp2
    go_ret3
    exact ⟨rfl, K2.out⟩
  · have t1 : decide (n < 1) = false := by simpa using h1
    have t2 : decide (((ln s (np s) : Nat) : Int) < n) = true := by simp; omega
    clear h1 hn
    go_enter Try.func25, Try.ntmps25
    go_wp2_with fail
    refine (mall_any mb s _ HM.out).mono ?_
    rintro e W1 ⟨b1, o1, c1, rfl, hsp, hk1⟩
    have HM1 := Lib.hid (HM.out.keep hk1); have K1 := Lib.hid hk1; clear hsp hk1
    go_wp2_with fail
    refine (starts_any mb s _ HM1.out).mono ?_
    rintro e W2 ⟨b2, o2, c2, rfl, hsl, hk2⟩
    have K2 := Lib.hid (K1.out.trans0 hk2); clear hsl hk2
    go_wp2
    go_ret3
    exact ⟨rfl, K2.out⟩

set_option maxRecDepth 100000 in
set_option maxHeartbeats 8000000 in
theorem line_in (mb : Nat) (s : ByteArray) (j a : Nat) (w : World) (h : MapAt w mb s) (hz : s.size ≤ 1000000) (hj : (lns s)[j]? = some a) :
    Calls Try.prog 25 #[.pointer (some ⟨mb, 0, none⟩), .int .i64 ((j : Nat) + 1 : Int)] w fun e w' => e = .returned (.tuple #[.int .i64 (a : Nat), .int .i64 ((a + cw s j a : Nat) : Int), .int .i64 0]) ∧ Keep [] w w' := by
  have HM := Lib.hid h; clear h
  have hjl := (List.getElem?_eq_some_iff.1 hj).1
  rw [lns_len] at hjl
  have hnp := np_le s
  have hll := ln_le s (np s)
  have hanp := st_np hj
  have hanx := (line_is (k := a) hanp hj).2.2
  have hnx := nx_le s j
  have t1 : decide ((j : Int) + 1 < 1) = false := by simp; omega
  have t2 : decide (((ln s (np s) : Nat) : Int) < (j : Int) + 1) = false := by simp; omega
  have HA := Lib.hid (ints_at hj)
  have HCW := Lib.hid (show cw s j a = if nx s j = np s + 1 then np s - a else if a < nx s j - 1 ∧ rn s (nx s j - 1) = 10 ∧ rn s (nx s j - 2) = 13 then nx s j - 2 - a else nx s j - 1 - a from rfl)
  have HNX := Lib.hid (show nx s j = (lns s)[j + 1]?.getD (np s + 1) from rfl)
  have HJ := Lib.hid hj; clear hj
  obtain ⟨L, hL⟩ : ∃ L, L = ln s (np s) := ⟨_, rfl⟩
  rw [← hL] at hjl hll t2
  have HL := Lib.hid hL; clear hL
  obtain ⟨en, hen⟩ : ∃ en : Nat, en = a + cw s j a := ⟨_, rfl⟩
  rw [← hen]
  have HEN := Lib.hid hen; clear hen
  go_enter Try.func25, Try.ntmps25
  go_wp2_with fail
  refine (mall_any mb s _ HM.out).mono ?_
  rintro e W1 ⟨b1, o1, c1, rfl, hsp, hk1⟩
  have HM1 := Lib.hid (HM.out.keep hk1); have K1 := Lib.hid hk1; have SP := Lib.hid hsp; clear hsp hk1
  go_wp2_with fail
  refine (starts_any mb s _ HM1.out).mono ?_
  rintro e W2 ⟨b2, o2, c2, rfl, hsl, hk2⟩
  have K2 := Lib.hid (K1.out.trans0 hk2); have SP2 := Lib.hid (SP.out.keep0 hk2); have HM2 := Lib.hid (HM1.out.keep hk2)
  rw [← HL.out] at hsl ⊢
  obtain ⟨b2', o2', c2', e2, hcs⟩ := SlAt.at_ hsl (by omega)
  simp only [Value.slice.injEq, Option.some.injEq, Addr.mk.injEq] at e2
  obtain ⟨⟨rfl, rfl, _⟩, _, _⟩ := e2
  have d0 := hcs j _ HA.out
  have HCS := Lib.hid hcs
  clear hsl hk2 K1 SP HM1 hcs
  by_cases hlast : j + 1 = L
  · have t3 : (((j : Int) + 1) == (L : Int)) = true := by simp; omega
    have hn : nx s j = np s + 1 := by
      rw [HNX.out, List.getElem?_eq_none (by rw [lns_len, ← HL.out]; omega)]; rfl
    have hcw : en = np s := by rw [HEN.out, HCW.out, if_pos hn]; omega
    have HC := Lib.hid hcw
    clear hcw hn hlast
    go_wp2
    go_ret3
    rw [HC.out]
    exact ⟨rfl, K2.out⟩
  · have t3 : (((j : Int) + 1) == (L : Int)) = false := by simp; omega
    have hlt : j + 1 < L := by omega
    have hl2 : j + 1 < (lns s).length := by rw [lns_len, ← HL.out]; exact hlt
    have hn1 : (lns s)[j + 1]? = some (nx s j) := by rw [HNX.out, List.getElem?_eq_getElem hl2]; rfl
    have hnle := st_np hn1
    have d1 := HCS.out (j + 1) _ (ints_at hn1)
    have HN1 := Lib.hid hn1
    clear hlast hn1
    generalize nx s j = m at *
    obtain ⟨e, rfl⟩ : ∃ e, m = e + 1 := ⟨m - 1, by omega⟩
    go_upto_region 8 with (fail)
    clear d0 d1 t1 t2 t3
    obtain ⟨b1', o1', c1', e1, hsc⟩ := SpAt.cells SP2.out (by omega)
    simp only [Value.slice.injEq, Option.some.injEq, Addr.mk.injEq] at e1
    obtain ⟨⟨rfl, rfl, _⟩, _, _⟩ := e1
    have c0 := (hsc e (by omega)).1
    have c1 := (hsc (e - 1) (by omega)).1
    have hpe := pos_lt (s := s) (k := e) (by omega)
    have hpe1 := pos_lt (s := s) (k := e - 1) (by omega)
    have hx0 := index_byte hpe
    have hx1 := index_byte hpe1
    have hr0 := rn_byte (s := s) (k := e) (by omega) (c := 10) (by decide)
    have hr1 := rn_byte (s := s) (k := e - 1) (by omega) (c := 13) (by decide)
    have HR0 := Lib.hid hr0; have HR1 := Lib.hid hr1
    have HCW2 := Lib.hid (show cw s j a = if a < e ∧ rn s e = 10 ∧ rn s (e - 1) = 13 then e - 1 - a else e - a by
      rw [HCW.out, if_neg (by omega)]
      simp only [Nat.add_sub_cancel, show e + 1 - 2 = e - 1 by omega])
    clear hr0 hr1 hsc
    generalize pos s e = p0 at *
    generalize pos s (e - 1) = p1 at *
    generalize byt s p0 = y0 at *
    generalize byt s p1 = y1 at *
    obtain ⟨I, f, hf1, hf2⟩ := kept_class W2
    have q0 : ∀ i, (f i).cell? ⟨mb, 0, none⟩ = some (.string s) := fun i => (HM2.out.keep (hf1 i)).text
    have q1 : ∀ i, (f i).cell? ⟨b1, o1 + e * 6, none⟩ = some (.int .i64 (p0 : Nat)) := fun i => (hf1 i).cellv c0 (by simp)
    have q2 : ∀ i, (f i).cell? ⟨b1, o1 + (e - 1) * 6, none⟩ = some (.int .i64 (p1 : Nat)) := fun i => (hf1 i).cellv c1 (by simp)
    obtain ⟨iw, hiw⟩ := hf2 W2.drew (Keep.refl _ _).drew
    haveI : Nonempty I := ⟨iw⟩
    have HF1 := Lib.hid hf1
    clear hf1 hf2 c0 c1
    have he0 : (0 : Int) ≤ (e : Int) := by omega
    have he1 : (e : Int) < (np s : Int) + 1 := by omega
    by_cases hae : a < e
    · have hw1 : IntKind.i64.wrap ((e : Int) - 1) = ((e - 1 : Nat) : Int) := by rw [IntKind.wrap_i64]; omega
      have t4 : decide (a < e) = true := by simpa using hae
      have he2 : (0 : Int) ≤ ((e - 1 : Nat) : Int) := by omega
      have he3 : ((e - 1 : Nat) : Int) < (np s : Int) + 1 := by omega
      generalize hem : e - 1 = e' at *
      have HEM := Lib.hid hem; clear hem
      by_cases hy0 : y0 = 10
      · have t5 : (((y0 : Nat) : Int) == 10) = true := by simp; omega
        refine wp_quiet_tail 29 f ⟨iw, hiw⟩ (by kernel_rfl) (by kernel_rfl) ?_
        clear hiw iw
        simp only [List.take_succ_cons, List.take_zero, List.drop_succ_cons, List.drop_zero]
        repeat (quiet_step (fail))
        refine wpQuiet_nil ?_
        intro i
        have K3 := Lib.hid (K2.out.trans0 (HF1.out i))
        clear q0 q1 q2 HF1
        generalize f i = W3 at *
        clear i f hw1
        by_cases hy1 : y1 = 13
        · have t6 : (((y1 : Nat) : Int) == 13) = true := by simp; omega
          have HC := Lib.hid (show (en : Int) = (e : Int) - 1 by rw [HEN.out, HCW2.out, if_pos ⟨hae, HR0.out.2 hy0, HR1.out.2 hy1⟩]; have := HEM.out; omega)
          clear hae hy0 hy1
          go_wp2
          go_ret3
          rw [HC.out]
          exact ⟨rfl, K3.out⟩
        · have t6 : (((y1 : Nat) : Int) == 13) = false := by simp; omega
          have HC := Lib.hid (show (en : Int) = (e : Int) by rw [HEN.out, HCW2.out, if_neg (fun h => hy1 (HR1.out.1 h.2.2))]; omega)
          clear hae hy0 hy1
          go_wp2
          go_ret3
          rw [HC.out]
          exact ⟨rfl, K3.out⟩
      · obtain ⟨tb, htb⟩ : ∃ tb : Bool, tb = (((y0 : Nat) : Int) == 10) := ⟨_, rfl⟩
        have HTB := Lib.hid (show tb = false by rw [htb]; simp; omega)
        have HC := Lib.hid (show (en : Int) = (e : Int) by rw [HEN.out, HCW2.out, if_neg (fun h => hy0 (HR0.out.1 h.2.1))]; omega)
        have t5 := htb.symm
        clear htb hy0
        refine wp_quiet_tail 29 f ⟨iw, hiw⟩ (by kernel_rfl) (by kernel_rfl) ?_
        clear hiw iw
        simp only [List.take_succ_cons, List.take_zero, List.drop_succ_cons, List.drop_zero]
        iterate 17 (quiet_step (fail))
        repeat (refine wpQuiet_step (fun K hK => ?_); rw [if_neg (by have h := HTB.out; subst h; exact Bool.false_ne_true)]; go_simp; refine hK _ ?_; clear hK K)
        refine wpQuiet_nil ?_
        intro i
        have K3 := Lib.hid (K2.out.trans0 (HF1.out i))
        clear q0 q1 q2 HF1
        generalize f i = W3 at *
        clear i f hw1 hae
        obtain rfl := HTB.out
        go_wp2
        go_ret3
        rw [HC.out]
        exact ⟨rfl, K3.out⟩
    · obtain ⟨tb, htb⟩ : ∃ tb : Bool, tb = decide (a < e) := ⟨_, rfl⟩
      have HTB := Lib.hid (show tb = false by rw [htb]; simpa using hae)
      have HC := Lib.hid (show (en : Int) = (e : Int) by rw [HEN.out, HCW2.out, if_neg (fun h => hae h.1)]; omega)
      have t5 := htb.symm
      clear htb hae
      refine wp_quiet_tail 29 f ⟨iw, hiw⟩ (by kernel_rfl) (by kernel_rfl) ?_
      clear hiw iw
      simp only [List.take_succ_cons, List.take_zero, List.drop_succ_cons, List.drop_zero]
      iterate 4 (quiet_step (fail))
      repeat (first
        | (refine wpQuiet_step (fun K hK => ?_); rw [if_neg (by have h := HTB.out; subst h; exact Bool.false_ne_true)]; go_simp; refine hK _ ?_; clear hK K)
        | quiet_step (fail))
      refine wpQuiet_nil ?_
      intro i
      have K3 := Lib.hid (K2.out.trans0 (HF1.out i))
      clear q0 q1 q2 HF1
      generalize f i = W3 at *
      clear i f
      obtain rfl := HTB.out
      go_wp2
      go_ret3
      rw [HC.out]
      exact ⟨rfl, K3.out⟩
end Go.Proofs.Ytodbjehggkdjaaa
