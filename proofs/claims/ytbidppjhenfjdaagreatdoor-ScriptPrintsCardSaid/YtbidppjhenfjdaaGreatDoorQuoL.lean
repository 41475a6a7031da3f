/-
  Walk of the reference's escape.
-/
import Derived.Test.YtbidppjhenfjdaaGreatDoorQuoH
import Derived.Test.YtbidppjhenfjdaaGreatDoorQuoG
import Derived.Deep.CutRange
namespace Go.Proofs.YtbidppjhenfjdaaGreatDoor
open Go.RowKit
set_option linter.unusedVariables false
set_option linter.unusedSimpArgs false

/-- How many bytes an escape has, its backslash with it. -/
def escn (n : Nat) : Nat := if n = 0 then 0 else n + 1
theorem value_back (c : Nat) (w : World) (h : c < 256) : Calls Tryz.prog 101 #[.int .u8 (c : Nat)] w fun e w' => e = .returned (.int .i64 (hxi c)) ∧ w' = w := (value_any c w h).mono fun e w' hh => ⟨hh.1, hh.2.symm⟩
theorem slice_one {s : ByteArray} {p c : Nat} (h : p < s.size) (hc : byt s p = c) (W : World) {x y : Int} (hx : x = (p : Nat)) (hy : y = ((p + 1 : Nat) : Int)) : (Instr.slice 9 (.string s) (some (.int .i64 x)) (some (.int .i64 y)) none).run Tryz.prog W = .ok (.string (one c)) W := by
  have h1 := slice_str (s := s) (p := p) (n := 1) (by omega) W
  have he : s.extract p (p + 1) = one c := by
    apply ext_byt
    · rw [ByteArray.size_extract, one_size]; omega
    · intro i hi
      rw [ByteArray.size_extract] at hi
      obtain rfl : i = 0 := by omega
      rw [byt_extract s p (p + 1) 0 (by omega) (by omega), Nat.add_zero, hc]
      have := byt_lt s p
      show c = byt ⟨[UInt8.ofNat c].toArray⟩ 0
      rw [mk_byt]
      show c = (UInt8.ofNat c).toNat
      rw [u8_of c (by omega)]
  rw [he] at h1
  rw [hx, hy, show ((p + 1 : Nat) : Int) = (p : Int) + ((1 : Nat) : Int) by omega]
  exact h1

theorem ar1 {sz tz a k q : Nat} (hq : q = a + 1 + k) (hk : k ≤ tz) (htz : tz = sz - (a + 1)) (ha : a + 2 < sz) (hk2 : 2 ≤ k) (hz : sz ≤ 100000000) :
    (tz ≤ k → q = sz) ∧ (¬ tz ≤ k → q < sz ∧ a + 3 < sz) ∧ wrap64 ((q : Int) + 1) = (q : Int) + 1 ∧ wrap64 ((q : Int) - (a : Int)) = (q : Int) - (a : Int) ∧ wrap64 ((q : Int) - (a : Int) - 3) = (q : Int) - (a : Int) - 3 ∧ wrap64 ((q : Int) + 1 - (a : Int)) = (q : Int) + 1 - (a : Int) ∧
    (k = 2 → decide ((q : Int) - (a : Int) - 3 < 1) = true) ∧ (¬ k = 2 → decide ((q : Int) - (a : Int) - 3 < 1) = false) ∧ (3 < k → decide ((1 : Int) < (q : Int) - (a : Int) - 3) = true) ∧ (¬ 3 < k → decide ((1 : Int) < (q : Int) - (a : Int) - 3) = false) ∧ (q : Int) + 1 - (a : Int) = ((k + 2 : Nat) : Int) := by
  refine ⟨fun h => by omega, fun h => by omega, by unfold wrap64; omega, by unfold wrap64; omega, by unfold wrap64; omega, by unfold wrap64; omega, fun h => by simp; omega, fun h => by simp; omega, fun h => by simp; omega, fun h => by simp; omega, by omega⟩
theorem ar2 {sz q : Nat} (h : q = sz) : decide ((sz : Int) ≤ (q : Int)) = true ∧ decide (sz ≤ q) = true := by constructor <;> (simp; omega)
theorem ar3 {sz q : Nat} (h : q < sz) : decide ((sz : Int) ≤ (q : Int)) = false ∧ decide (sz ≤ q) = false := by constructor <;> (simp; omega)
theorem ar4 {c n : Nat} {d : Int} (h : d = (c : Nat)) : (c = n → (d == (n : Int)) = true) ∧ (¬ c = n → (d == (n : Int)) = false ∧ (d != (n : Int)) = true) := by
  refine ⟨fun e => by simp; omega, fun e => ⟨by simp; omega, by simp; omega⟩⟩
theorem ar5 (m : Nat) (h : m < 16777216) : IntKind.i32.wrap (m : Int) = (m : Int) := by rw [IntKind.wrap_i32]; omega
theorem ar6 (m j : Nat) (h : (m + 1) * 16 ^ j ≤ 16777216) : m < 16777216 := by
  have h2 : (m + 1) * 1 ≤ (m + 1) * 16 ^ j := Nat.mul_le_mul_left _ (Nat.pow_pos (by decide))
  omega

set_option maxHeartbeats 32000000 in
set_option maxRecDepth 100000 in
theorem resc_u (s t : ByteArray) (a : Nat) (w : World) (hz : s.size ≤ 100000000) (ha : a + 2 < s.size) (htz : t.size = s.size - (a + 1)) (hbt : ∀ k, byt t k = byt s (a + 1 + k)) (hc : byt t 0 = 117) (hc1 : byt t 1 = 123) :
    Calls Tryz.prog 83 #[.string s, .int .i64 (a : Nat)] w fun e w' => e = .returned (.tuple #[.string (brc t).1, .int .i64 (escn (brc t).2)]) ∧ Keep [] w w' := by
  have h2 : 2 ≤ t.size := by omega
  have HBT := Lib.hid hbt
  have hi0 := byte_z (s := s) (i := a + 1) (z := (a : Int) + 1) (by omega) (by omega)
  have hi1 := byte_z (s := s) (i := a + 2) (z := (a : Int) + 2) (by omega) (by omega)
  rw [show byt s (a + 1) = 117 from (hbt 0).symm.trans hc] at hi0
  rw [show byt s (a + 2) = 123 from (hbt 1).symm.trans hc1] at hi1
  clear hbt hc hc1
  have hg1 : decide ((s.size : Int) ≤ (a : Int) + 1) = false := by simp; omega
  have hg2 : decide ((s.size : Int) ≤ (a : Int) + 2) = false := by simp; omega
  have hg3 : decide (s.size ≤ a + 1) = false := by simp; omega
  have hg4 : decide (s.size ≤ a + 2) = false := by simp; omega
  go_enter Tryz.func83, Tryz.ntmps83
  go_wp2
  obtain ⟨q0, hq0⟩ : ∃ q0 : Nat, q0 = a + 3 := ⟨_, rfl⟩
  rw [show (a : Int) + 3 = ((q0 : Nat) : Int) by omega]
  go_loopw [6, 7] (fun n r wr => ∃ (j k m q : Nat), n = .int .i64 q ∧ r = .int .i64 m ∧ w = wr ∧ hrun t 6 2 0 = hrun t j k m ∧ j + k = 8 ∧ 2 ≤ k ∧ (m + 1) * 16 ^ j ≤ 16777216 ∧ q = a + 1 + k) (fun n _ _ => a + 9 - (intOf n).toNat)
  case atStart => exact ⟨6, 2, 0, q0, rfl, rfl, rfl, rfl, rfl, Nat.le_refl _, by decide, by omega⟩
  case round =>
    clear hi0 hi1 hg1 hg2 hg3 hg4 hq0
    obtain ⟨j, k, m, q, rfl, rfl, rfl, hr, hjk, hk2, hb, hq⟩ := hrel
    have HR := Lib.hid hr; have HB := Lib.hid hb; clear hr hb
    have hdig := hrun_spec t 6 2 0 h2
    have hkz : hrun t j k m = (k, m) → k ≤ t.size := fun e => by have := hdig.2.2.1; rw [HR.out, e] at this; exact this
    have HKZ := Lib.hid hkz
    clear hdig hkz
    obtain ⟨cb, hcb⟩ : ∃ cb : Bool, cb = decide (k < t.size ∧ k < 8 ∧ hx (byt t k) < 16) := ⟨_, rfl⟩
    have HCB := Lib.hid hcb; clear hcb
    have hqb : q ≤ 100000000 ∨ ¬ k < t.size := by omega
    have HA := Lib.hid (show j + k = 8 ∧ 2 ≤ k ∧ q = a + 1 + k ∧ t.size = s.size - (a + 1) from ⟨hjk, hk2, hq, htz⟩)
    go_upto_region 21 with (fail)
    go_cut [103] from 87 to 112 (fun sv wx => sv = .bool cb ∧ w = wx)
    case first =>
      by_cases hlt : k < t.size
      · have f1 : decide ((q : Int) < (s.size : Int)) = true := by simp; omega
        have f2 : decide (q < s.size) = true := by simp; omega
        by_cases h8 : k < 8
        · have f3 : decide ((q : Int) < (a : Int) + 9) = true := by simp; omega
          have hix := byte_z (s := s) (i := q) (z := (q : Nat)) (by omega) rfl
          rw [show byt s q = byt t k by rw [HBT.out, hq]] at hix
          have HI := Lib.hid (fun W => value_any (byt t k) W (byt_lt t k))
          by_cases hd : hx (byt t k) < 16
          · obtain rfl : cb = true := by rw [HCB.out]; simp; exact ⟨hlt, h8, hd⟩
            rw [hxi_lt hd] at HI
            clear hjk hk2 hq htz hlt h8 hqb HCB
            generalize hx (byt t k) = d at *
            generalize byt t k = c at *
            go_wp2_with fail
            refine (HI.out _).mono ?_
            rintro e w1 ⟨rfl, rfl⟩
            go_wp2
            go_meet
            exact ⟨rfl, rfl⟩
          · obtain rfl : cb = false := by rw [HCB.out]; simp; intros; omega
            rw [hxi_no hd] at HI
            clear hjk hk2 hq htz hlt h8 hqb HCB hd
            generalize byt t k = c at *
            go_wp2_with fail
            refine (HI.out _).mono ?_
            rintro e w1 ⟨rfl, rfl⟩
            go_wp2
            go_meet
            exact ⟨rfl, rfl⟩
        · obtain rfl : cb = false := by rw [HCB.out]; simp; intros; omega
          have f3 : decide ((q : Int) < (a : Int) + 9) = false := by simp; omega
          clear hjk hk2 hq htz hlt h8 hqb HCB
          go_wp2
          go_meet
          exact ⟨rfl, rfl⟩
      · obtain rfl : cb = false := by rw [HCB.out]; simp; intros; omega
        have f1 : decide ((q : Int) < (s.size : Int)) = false := by simp; omega
        have f2 : decide (q < s.size) = false := by simp; omega
        clear hjk hk2 hq htz hlt hqb HCB
        go_wp2
        go_meet
        exact ⟨rfl, rfl⟩
    case rest =>
    obtain ⟨rfl, rfl⟩ := hcut
    cases cb with
    | true =>
      obtain ⟨hlt, h8, hd⟩ := of_decide_eq_true HCB.out.symm
      clear HCB
      cases j with
      | zero => exfalso; omega
      | succ j =>
        have hix := byte_z (s := s) (i := q) (z := (q : Nat)) (by omega) rfl
        rw [show byt s q = byt t k by rw [HBT.out, hq]] at hix
        have HI := Lib.hid (fun W => value_any (byt t k) W (byt_lt t k))
        have HE := Lib.hid (hrun_on (j := j) (n := m) hlt hd)
        obtain ⟨sb1, sb2⟩ := step_bound (d := hx (byt t k)) HB.out hd
        have HS := Lib.hid sb1; clear sb1
        rw [hxi_lt hd] at HI
        have hqb2 : q ≤ 100000000 := by omega
        clear hlt h8 hjk hk2 hq htz hqb
        generalize hx (byt t k) = d at *
        generalize byt t k = c at *
        go_wp2_with fail
        refine (HI.out _).mono ?_
        rintro e w1 ⟨rfl, rfl⟩
        go_wp2
        go_roundw
        case rel =>
          obtain ⟨hjk, hk2, hq, htz⟩ := HA.out
          exact ⟨j, k + 1, 16 * m + d, q + 1, by go_num, by go_num, trivial, HR.out.trans HE.out, by omega, by omega, HS.out, by omega⟩
        case measure =>
          obtain ⟨hjk, hk2, hq, htz⟩ := HA.out
          simp [intOf]; omega
    | false =>
      have he : hrun t j k m = (k, m) := by
        have hcb := HCB.out.symm
        rw [decide_eq_false_iff_not] at hcb
        cases j with
        | zero => rfl
        | succ j => exact hrun_end (fun h => hcb ⟨h.1, by omega, h.2⟩)
      clear HCB HA hqb
      have hbr : brc t = if k = 2 ∨ t.size ≤ k ∨ byt t k ≠ 125 ∨ (byt t 2 = 48 ∧ 3 < k) ∨ Utf8.valid (m : Nat) = false then (ByteArray.empty, 0) else (Utf8.encode (m : Nat), k + 1) := by unfold brc; rw [HR.out, he]
      have hk := HKZ.out he
      have hm : m < 16777216 := ar6 m j HB.out
      clear HR HB HKZ he
      have HBN : Hid (brc t = (ByteArray.empty, 0) → (brc t).1 = ByteArray.empty ∧ escn (brc t).2 = 0) := Lib.hid (fun h => by rw [h]; exact ⟨rfl, rfl⟩)
      have har := ar1 hq hk htz ha hk2 hz
      obtain ⟨dg, hdg⟩ : ∃ dg : Int, (q : Int) - (a : Int) - 3 = dg := ⟨_, rfl⟩
      obtain ⟨rn, hrn⟩ : ∃ rn : Int, (q : Int) + 1 - (a : Int) = rn := ⟨_, rfl⟩
      rw [hdg, hrn] at har
      obtain ⟨r1, r2, hwr, hw1, hw2, hw3, r3, r4, r5, r6, r7⟩ := har
      have R1 := Lib.hid r1; have R2 := Lib.hid r2; have R3 := Lib.hid r3; have R4 := Lib.hid r4; have R5 := Lib.hid r5; have R6 := Lib.hid r6; have R7 := Lib.hid r7; have HW3 := Lib.hid hw3
      clear r1 r2 r3 r4 r5 r6 r7
      by_cases a1 : k = 2
      · have hb9 : brc t = (ByteArray.empty, 0) := hbr.trans (if_pos (.inl a1))
        have HBR := Lib.hid (HBN.out hb9); clear hb9; clear hbr HBN
        have e1 := R3.out a1
        clear a1 hq htz hjk hk hrn hwr
        go_wp2
        go_ret2
        rw [HBR.out.1, HBR.out.2]
        exact ⟨rfl, Keep.refl _ _⟩
      have e1 := R4.out a1
      by_cases a2 : t.size ≤ k
      · have hb9 : brc t = (ByteArray.empty, 0) := hbr.trans (if_pos (.inr (.inl a2)))
        have HBR := Lib.hid (HBN.out hb9); clear hb9; clear hbr HBN
        obtain ⟨e2, e3⟩ := ar2 (R1.out a2)
        clear a1 a2 hq htz hjk hk hrn hwr
        go_wp2
        go_ret2
        rw [HBR.out.1, HBR.out.2]
        exact ⟨rfl, Keep.refl _ _⟩
      have hqs := R2.out a2
      have hix := byte_z (s := s) (i := q) (z := (q : Nat)) hqs.1 rfl
      have hi2 := byte_z (s := s) (i := a + 3) (z := (a : Int) + 3) hqs.2 rfl
      rw [show byt s q = byt t k by rw [HBT.out, hq]] at hix
      rw [show byt s (a + 3) = byt t 2 by rw [HBT.out]] at hi2
      obtain ⟨e2, e3⟩ := ar3 hqs.1
      clear hqs
      have hb2 := byt_lt t 2
      obtain ⟨d, hd⟩ : ∃ d : Int, d = ((byt t 2 : Nat) : Int) := ⟨_, rfl⟩
      rw [← hd] at hi2
      by_cases a3 : byt t k = 125
      · rw [a3] at hix
        by_cases a4 : byt t 2 = 48 ∧ 3 < k
        · have hb9 : brc t = (ByteArray.empty, 0) := hbr.trans (if_pos (.inr (.inr (.inr (.inl a4)))))
          have HBR := Lib.hid (HBN.out hb9); clear hb9; clear hbr HBN
          have e5 : (d == 48) = true := (ar4 hd).1 a4.1
          have e4 := R5.out a4.2
          clear a1 a2 hd a4 hq htz hjk hk hrn hwr
          go_wp2
          go_ret2
          rw [HBR.out.1, HBR.out.2]
          exact ⟨rfl, Keep.refl _ _⟩
        · have hcase : decide ((1 : Int) < dg) = false ∨ (decide ((1 : Int) < dg) = true ∧ (d == 48) = false) := by
            by_cases h : 3 < k
            · exact .inr ⟨R5.out h, ((ar4 hd).2 (fun e => a4 ⟨e, h⟩)).1⟩
            · exact .inl (R6.out h)
          have hcv : ∀ W, (convert 3 21 (.int .i64 (m : Nat))).run Tryz.prog W = .ok (.int .i32 (m : Nat)) W := fun W => by
            have hu := Tryz.underlying3
            have hv := Tryz.underlying21
            have hw := ar5 m hm
            simp [go_sem, hu, hv, hw]
          obtain ⟨mi, hmi⟩ : ∃ mi : Int, mi = ((m : Nat) : Int) := ⟨_, rfl⟩
          rw [← hmi] at hbr hcv ⊢
          have HIR := Lib.hid (fun W => isrune_any mi W)
          have HE := Lib.hid (fun W => rencode_any mi W)
          cases hv : Utf8.valid mi
          · have hb9 : brc t = (ByteArray.empty, 0) := hbr.trans (if_pos (.inr (.inr (.inr (.inr hv)))))
            have HBR := Lib.hid (HBN.out hb9); clear hb9; clear hbr HBN
            rw [hv] at HIR
            clear a1 a2 hd a4 hv hmi hm hq htz hjk hk
            rcases hcase with e4 | ⟨e4, e5⟩
            all_goals
              go_wp2_with fail
              refine (HIR.out _).mono ?_
              rintro e w1 ⟨rfl, rfl⟩
              go_wp2
              go_ret2
              rw [HBR.out.1, HBR.out.2]
              exact ⟨rfl, Keep.refl _ _⟩
          · have HBR := Lib.hid (show brc t = (Utf8.encode mi, k + 1) by
              rw [hbr, if_neg]
              rintro (h | h | h | h | h)
              · exact a1 h
              · exact a2 h
              · exact h a3
              · exact a4 h
              · rw [hv] at h; cases h)
            clear hbr HBN
            have HBS := Lib.hid (show ((escn (brc t).2 : Nat) : Int) = rn by
              rw [HBR.out]
              show ((escn (k + 1) : Nat) : Int) = rn
              unfold escn
              rw [if_neg (Nat.succ_ne_zero k)]
              exact R7.out.symm)
            rw [hv] at HIR
            clear a1 a2 hd a4 hv hmi hm hq htz hjk hk
            rcases hcase with e4 | ⟨e4, e5⟩
            all_goals
              go_wp2_with fail
              refine (HIR.out _).mono ?_
              rintro e w1 ⟨rfl, rfl⟩
              go_wp2_with fail
              refine (HE.out _).mono ?_
              rintro e w1 ⟨rfl, hk9⟩
              have HK9 := Lib.hid hk9; clear hk9
              go_wp2
              go_ret2
              rw [HBS.out, HBR.out, HW3.out]
              exact ⟨rfl, HK9.out⟩
      · have hb9 : brc t = (ByteArray.empty, 0) := hbr.trans (if_pos (.inr (.inr (.inl a3))))
        have HBR := Lib.hid (HBN.out hb9); clear hb9; clear hbr HBN
        obtain ⟨c, hc⟩ : ∃ c : Int, c = ((byt t k : Nat) : Int) := ⟨_, rfl⟩
        rw [← hc] at hix
        have e4 : (c == 125) = false := ((ar4 hc).2 a3).1
        have e5 : (c != 125) = true := ((ar4 hc).2 a3).2
        clear a1 a2 a3 hc hd hq htz hjk hk hrn hwr
        go_wp2
        go_ret2
        rw [HBR.out.1, HBR.out.2]
        exact ⟨rfl, Keep.refl _ _⟩
end Go.Proofs.YtbidppjhenfjdaaGreatDoor
