/-
  Walks of the program's braced and escaped.
-/
import Derived.Test.YtbidppjhenfjdaaGreatDoorQuoR
import Derived.Test.YtbidppjhenfjdaaGreatDoorQuoD
import Derived.Test.YtbidppjhenfjdaaGreatDoorShelf
import Derived.Test.YtbidppjhenfjdaaGreatDoorGlyF
import Derived.Deep.CutRange
namespace Go.Proofs.YtbidppjhenfjdaaGreatDoor
open Go.RowKit
set_option linter.unusedVariables false
set_option linter.unusedSimpArgs false

theorem ib_any (c : Nat) (w : World) (h : c < 256) : Calls Tryz.prog 97 #[.string ⟨#[48, 49, 50, 51, 52, 53, 54, 55, 56, 57, 97, 98, 99, 100, 101, 102]⟩, .int .u8 (c : Nat)] w fun e w' => e = .returned (.int .i64 (hxi c)) ∧ w = w' := by
  refine (Tryz.strings_IndexByte ⟨#[48, 49, 50, 51, 52, 53, 54, 55, 56, 57, 97, 98, 99, 100, 101, 102]⟩ (c : Nat) w).mono ?_
  rintro e w' ⟨rfl, rfl⟩
  have hall : ∀ y : Fin 256, Lib.indexByte (⟨#[48, 49, 50, 51, 52, 53, 54, 55, 56, 57, 97, 98, 99, 100, 101, 102]⟩ : ByteArray).data.toList ((y.1 : Nat) : Int).toNat.toUInt8 = hxi y.1 := by decide +kernel
  exact ⟨by rw [hall ⟨c, h⟩], rfl⟩
theorem byte_z {s : ByteArray} {i : Nat} {z : Int} (h : i < s.size) (hz : z = (i : Nat)) (W : World) : (Instr.index 9 (.string s) (.int .i64 z)).run Tryz.prog W = .ok (.int .u8 (byt s i : Nat)) W := by
  subst hz
  rw [run_index_string (P := Tryz.prog) W 9 s .i64 _ Tryz.underlying9, dif_pos (by omega)]
  congr 2
  rw [byt_at]
  rfl
theorem or4_i32 (m d : Nat) (h : m * 16 + 16 ≤ 2147483648) (hd : d < 16) : bits .or .i32 ((m : Int) * 16) (d : Int) = (m : Int) * 16 + (d : Int) :=
  bits_join .i32 31 (by decide) wraps_i32 4 _ _ (by omega) (by omega) (by omega) (by omega) (by omega) (by omega)
theorem or4_i64 (m d : Nat) (h : m * 16 + 16 ≤ 2147483648) (hd : d < 16) : bits .or .i64 ((m : Int) * 16) (d : Int) = (m : Int) * 16 + (d : Int) :=
  bits_join .i64 63 (by decide) (fun n h0 h1 => by rw [IntKind.wrap_i64]; omega) 4 _ _ (by omega) (by omega) (by omega) (by omega) (by omega) (by omega)
theorem str_neq {a b : ByteArray} (h : a ≠ b) : (a.toList == b.toList) = false := by
  rw [beq_eq_false_iff_ne, ByteArray.toList_eq, ByteArray.toList_eq]
  intro e
  exact h (ByteArray.ext (Array.toList_inj.1 e))
theorem enc_ne {n : Int} (hv : Utf8.valid n = true) (hn : n ≠ 65533) : Utf8.encode n ≠ Utf8.encode 65533 := by
  intro h
  have h1 := (rune_mid ByteArray.empty ByteArray.empty n).dec
  have h2 := (rune_mid ByteArray.empty ByteArray.empty ((65533 : Nat) : Int)).dec
  rw [show Utf8.encode ((65533 : Nat) : Int) = Utf8.encode 65533 from rfl, show fixr ((65533 : Nat) : Int) = 65533 from rfl] at h2
  rw [h, h2, fixr_of hv] at h1
  have := congrArg Prod.fst h1
  have h0 := fixr_nat n
  rw [fixr_of hv] at h0
  simp at this
  omega

set_option maxHeartbeats 16000000 in
set_option maxRecDepth 100000 in
theorem braced_any (t : ByteArray) (w : World) (hz : t.size ≤ 100000000) (h2 : 2 ≤ t.size) : Calls Tryz.prog 99 #[.string t] w fun e w' => e = .returned (.tuple #[.string (brc t).1, .int .i64 (brc t).2]) ∧ w = w' := by
  go_enter Tryz.func99, Tryz.ntmps99
  go_wp2
  go_loopw [4, 5] (fun n r wr => ∃ (j k m : Nat), n = .int .i64 k ∧ r = .int .i32 m ∧ w = wr ∧ hrun t 6 2 0 = hrun t j k m ∧ j + k = 8 ∧ 2 ≤ k ∧ (m + 1) * 16 ^ j ≤ 16777216) (fun n _ _ => 8 - (intOf n).toNat)
  case atStart => exact ⟨6, 2, 0, rfl, rfl, rfl, rfl, rfl, Nat.le_refl _, by decide⟩
  case round =>
    rename_i K hK
    have HKK := Lib.hid hK; clear hK
    obtain ⟨j, k, m, rfl, rfl, rfl, hr, hjk, hk2, hb⟩ := hrel
    have HR := Lib.hid hr; have HB := Lib.hid hb; clear hr hb
    have hdig := hrun_spec t 6 2 0 h2
    have hkz : hrun t j k m = (k, m) → k ≤ t.size := fun e => by have := hdig.2.2.1; rw [HR.out, e] at this; exact this
    have HKZ := Lib.hid hkz
    clear hdig hkz
    have tail : hrun t j k m = (k, m) → ∀ {u6 u8 u9 u10 u11 u12 u13 u14 u15 u16 u17 u18 u19 u20 u21 u22 u23 u24 u25 u26 u27 u28 : Value}, K ⟨#[.string t, undef, .string ⟨#[]⟩, .int .i64 0, .int .i64 (k : Nat), .int .i32 (m : Nat), u6, undef, u8, u9, u10, u11, u12, u13, u14, u15, u16, u17, u18, u19, u20, u21, u22, u23, u24, u25, u26, u27, u28, undef, undef, undef, undef, undef, undef, undef, undef, undef, undef, undef, undef, undef, undef, undef, undef, undef, undef, undef, undef, undef, undef, undef, undef, undef, undef, undef, undef, undef, undef, undef, undef, undef, undef, undef], []⟩ w := by
      intro he u6 u8 u9 u10 u11 u12 u13 u14 u15 u16 u17 u18 u19 u20 u21 u22 u23 u24 u25 u26 u27 u28
      have hbr : brc t = if k = 2 ∨ t.size ≤ k ∨ byt t k ≠ 125 ∨ (byt t 2 = 48 ∧ 3 < k) ∨ Utf8.valid (m : Nat) = false then (ByteArray.empty, 0) else (Utf8.encode (m : Nat), k + 1) := by unfold brc; rw [HR.out, he]
      have hk := HKZ.out he
      have hm : m < 16777216 := by
        have h1 := HB.out
        have h2 : (m + 1) * 1 ≤ (m + 1) * 16 ^ j := Nat.mul_le_mul_left _ (Nat.pow_pos (by decide))
        omega
      refine HKK.out _ _ ?_
      clear HKK
      clear HR HB HKZ he
      obtain ⟨mi, hmi⟩ : ∃ mi : Int, mi = ((m : Nat) : Int) := ⟨_, rfl⟩
      rw [← hmi] at hbr ⊢
      have HMI := Lib.hid hmi; clear hmi
      by_cases a1 : k = 2
      · have HBR := Lib.hid (hbr.trans (if_pos (.inl a1))); clear hbr
        subst a1
        go_wp2
        go_ret2
        rw [HBR.out]
        exact ⟨rfl, rfl⟩
      have e1 : (((k : Nat) : Int) == 2) = false := by simp; omega
      by_cases a2 : t.size ≤ k
      · have HBR := Lib.hid (hbr.trans (if_pos (.inr (.inl a2)))); clear hbr
        obtain rfl : k = t.size := by omega
        clear a2
        go_wp2
        go_ret2
        rw [HBR.out]
        exact ⟨rfl, rfl⟩
      have hix := byte_z (s := t) (i := k) (show k < t.size by omega) rfl
      have hi2 := byte_z (s := t) (i := 2) (z := 2) (by omega) rfl
      have e2 : decide ((t.size : Int) ≤ (k : Int)) = false := by simp; omega
      have e2n : decide (t.size ≤ k) = false := by simp; omega
      have hb1 := byt_lt t k
      have hb2 := byt_lt t 2
      obtain ⟨d, hd⟩ : ∃ d, d = byt t 2 := ⟨_, rfl⟩
      rw [← hd] at hi2 hbr hb2
      clear hd
      by_cases a3 : byt t k = 125
      · rw [a3] at hix
        clear hb1
        by_cases a4 : d = 48 ∧ 3 < k
        · have HBR := Lib.hid (hbr.trans (if_pos (.inr (.inr (.inr (.inl a4)))))); clear hbr
          obtain ⟨rfl, a4⟩ := a4
          have e3 : decide ((3 : Int) < (k : Int)) = true := by simp; omega
          have e3n : decide (3 < k) = true := by simp; omega
          clear a1 a2
          go_wp2
          go_ret2
          rw [HBR.out]
          exact ⟨rfl, rfl⟩
        · have hcase : (d = 48 ∧ decide ((3 : Int) < (k : Int)) = false ∧ decide (3 < k) = false) ∨ (((d : Nat) : Int) == 48) = false := by
            by_cases h : d = 48
            · exact .inl ⟨h, by simp; omega, by simp; omega⟩
            · exact .inr (by simp; omega)
          have hv : Utf8.valid mi = false ∨ (Utf8.valid mi = true ∧ mi = 65533) ∨ (Utf8.valid mi = true ∧ mi ≠ 65533) := by
            cases Utf8.valid mi
            · exact .inl rfl
            · by_cases h : mi = 65533
              · exact .inr (.inl ⟨rfl, h⟩)
              · exact .inr (.inr ⟨rfl, h⟩)
          have hbr3 : Utf8.valid mi = true → brc t = (Utf8.encode mi, k + 1) := fun hv => by
            rw [hbr, if_neg]
            rintro (h | h | h | h | h)
            · exact a1 h
            · exact a2 h
            · exact h a3
            · exact a4 h
            · rw [hv] at h; cases h
          have HE := Lib.hid (fun W => encode_any mi W)
          have HB := Lib.hid (fun W => encode_any 65533 W)
          rcases hv with hv | ⟨hv, hm3⟩ | ⟨hv, hm3⟩
          · have HBR := Lib.hid (hbr.trans (if_pos (.inr (.inr (.inr (.inr hv))))))
            have hee : Utf8.encode mi = Utf8.encode 65533 := enc_bad hv
            have hm3 : mi ≠ 65533 := by rintro h; rw [h] at hv; revert hv; decide
            have e4 : (mi == 65533) = false := by simp; exact hm3
            have e5 : (mi != 65533) = true := by simp; exact hm3
            rw [hee] at HE
            clear hbr hbr3 hv hee hm3 a1 a2 a4
            generalize Utf8.encode 65533 = zb at *
            have hss : (zb.toList == zb.toList) = true := by simp
            rcases hcase with ⟨rfl, e3, e3n⟩ | e3
            all_goals
              go_wp2_with fail
              refine (HE.out _).mono ?_
              rintro e w1 ⟨rfl, rfl⟩
              go_wp2_with fail
              refine (HB.out _).mono ?_
              rintro e w1 ⟨rfl, rfl⟩
              go_wp2
              go_ret2
              rw [HBR.out]
              exact ⟨rfl, rfl⟩
          · have HBR := Lib.hid (hbr3 hv)
            have e4 : (mi == 65533) = true := by simp; exact hm3
            have e5 : (mi != 65533) = false := by simp; exact hm3
            clear hbr hbr3 hv hm3 a1 a2 a4
            generalize Utf8.encode mi = z at *
            rcases hcase with ⟨rfl, e3, e3n⟩ | e3
            all_goals
              go_wp2_with fail
              refine (HE.out _).mono ?_
              rintro e w1 ⟨rfl, rfl⟩
              go_wp2
              go_ret2
              rw [HBR.out]
              exact ⟨rfl, rfl⟩
          · have HBR := Lib.hid (hbr3 hv)
            have hne := enc_ne hv hm3
            have e4 : (mi == 65533) = false := by simp; exact hm3
            have e5 : (mi != 65533) = true := by simp; exact hm3
            clear hbr hbr3 hv hm3 a1 a2 a4
            generalize Utf8.encode 65533 = zb at *
            generalize Utf8.encode mi = z at *
            have hss := str_neq hne
            clear hne
            rcases hcase with ⟨rfl, e3, e3n⟩ | e3
            all_goals
              go_wp2_with fail
              refine (HE.out _).mono ?_
              rintro e w1 ⟨rfl, rfl⟩
              go_wp2_with fail
              refine (HB.out _).mono ?_
              rintro e w1 ⟨rfl, rfl⟩
              go_wp2
              go_ret2
              rw [HBR.out]
              exact ⟨rfl, rfl⟩
      · have HBR := Lib.hid (hbr.trans (if_pos (.inr (.inr (.inl a3))))); clear hbr
        obtain ⟨c, hc⟩ : ∃ c : Int, c = ((byt t k : Nat) : Int) := ⟨_, rfl⟩
        rw [← hc] at hix
        have e3 : (c == 125) = false := by simp; omega
        have e4 : (c != 125) = true := by simp; omega
        clear a1 a2 a3 hc hb1
        go_wp2
        go_ret2
        rw [HBR.out]
        exact ⟨rfl, rfl⟩
    have HT : Hid (hrun t j k m = (k, m) → ∀ {u6 u8 u9 u10 u11 u12 u13 u14 u15 u16 u17 u18 u19 u20 u21 u22 u23 u24 u25 u26 u27 u28 : Value}, K ⟨#[.string t, undef, .string ⟨#[]⟩, .int .i64 0, .int .i64 (k : Nat), .int .i32 (m : Nat), u6, undef, u8, u9, u10, u11, u12, u13, u14, u15, u16, u17, u18, u19, u20, u21, u22, u23, u24, u25, u26, u27, u28, undef, undef, undef, undef, undef, undef, undef, undef, undef, undef, undef, undef, undef, undef, undef, undef, undef, undef, undef, undef, undef, undef, undef, undef, undef, undef, undef, undef, undef, undef, undef, undef, undef, undef, undef], []⟩ w) := Lib.hid tail
    clear tail
    by_cases hlt : k < t.size
    · have hltd : decide (k < t.size) = true := by simpa using hlt
      cases j with
      | zero =>
        obtain rfl : k = 8 := by omega
        go_wp2_with fail
        exact HT.out rfl
      | succ j =>
        have hk8 : k < 8 := by omega
        have hix := byte_z (s := t) (i := k) hlt rfl
        have HI := Lib.hid (fun W => ib_any (byt t k) W (byt_lt t k))
        by_cases hd : hx (byt t k) < 16
        · have HE := Lib.hid (hrun_on (j := j) (n := m) hlt hd)
          obtain ⟨sb1, sb2⟩ := step_bound (d := hx (byt t k)) HB.out hd
          have HS := Lib.hid sb1; clear sb1
          have HXI := Lib.hid (hxi_lt hd)
          have hor := or4_i32 m (hx (byt t k)) (by omega) hd
          go_wp2_with fail
          refine (HI.out _).mono ?_
          rintro e w1 ⟨rfl, rfl⟩
          rw [HXI.out]
          generalize hx (byt t k) = d at *
          go_wp2
          exact ⟨⟨j, k + 1, 16 * m + d, by go_num, by go_num, trivial, HR.out.trans HE.out, by omega, by omega, HS.out⟩, by simp [intOf]; omega⟩
        · have HXI := Lib.hid (hxi_no hd)
          have HT2 := Lib.hid (hrun_end (t := t) (j := j + 1) (k := k) (n := m) (fun h => hd h.2))
          go_wp2_with fail
          refine (HI.out _).mono ?_
          rintro e w1 ⟨rfl, rfl⟩
          rw [HXI.out]
          clear hd
          go_wp2_with fail
          exact HT.out HT2.out
    · have hltd : decide (k < t.size) = false := by simpa using hlt
      have HT2 := Lib.hid (hrun_end (t := t) (j := j) (k := k) (n := m) (fun h => hlt h.1))
      clear hlt
      go_wp2_with fail
      exact HT.out HT2.out
end Go.Proofs.YtbidppjhenfjdaaGreatDoor
