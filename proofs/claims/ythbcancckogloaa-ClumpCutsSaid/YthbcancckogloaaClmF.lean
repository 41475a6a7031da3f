/-
  Walks of Break, Next, Prev.
-/
import Derived.Test.YthbcancckogloaaClmD
import Derived.Test.YthbcancckogloaaClmE
namespace Go.Proofs.Ythbcancckogloaa
open Go.RowKit Go.Shelf
set_option linter.unusedVariables false
set_option linter.unusedSimpArgs false

/-- Is there a break at a byte? -/
def isBrk (s : ByteArray) (p : Nat) : Bool := decide (p ∈ brk s)
theorem isBrk_mid {s : ByteArray} {p : Nat} (h0 : 0 < p) (hp : p < s.size) : isBrk s p = (bgn s p && isb s p) := by
  have key : (isBrk s p = true) ↔ ((bgn s p && isb s p) = true) := by
    unfold isBrk bgn
    rw [Bool.and_eq_true, decide_eq_true_eq, decide_eq_true_eq, mem_brk, mem_cut]
    constructor
    · rintro (h | h | ⟨h, l, hl, hb⟩)
      · omega
      · omega
      · exact ⟨⟨⟨l, hl⟩, h⟩, by rw [isb_at hl]; exact hb⟩
    · rintro ⟨⟨⟨l, hl⟩, h⟩, hb⟩
      exact .inr (.inr ⟨h, l, hl, by rw [← isb_at hl]; exact hb⟩)
  cases h1 : isBrk s p <;> cases h2 : (bgn s p && isb s p) <;> simp_all
theorem isBrk_zero (s : ByteArray) : isBrk s 0 = true := by unfold isBrk; simpa using brk_zero s
theorem isBrk_size (s : ByteArray) : isBrk s s.size = true := by unfold isBrk; simpa using brk_size s

set_option maxHeartbeats 4000000 in
theorem break_any (s : ByteArray) (p : Nat) (w : World) (hz : s.size ≤ 1073741824) (hp : p ≤ s.size) :
    Calls Try.prog 15 #[.string s, .int .i64 p] w fun e w' => e = .returned (.bool (isBrk s p)) ∧ Keep [] w w' := by
  have d0 : decide ((p : Int) < 0) = false := by simp
  have d1 : decide (s.size < p) = false := by simpa using hp
  by_cases h0 : p = 0
  · have HR := Lib.hid (isBrk_zero s)
    subst h0
    go_enter Try.func15, Try.ntmps15
    go_wp2
    go_ret
    exact ⟨by rw [HR.out]; rfl, Keep.refl _ _⟩
  · have e0 : ((p : Int) == 0) = false := by simpa using h0
    by_cases h1 : p = s.size
    · have HR := Lib.hid (isBrk_size s)
      rw [← h1] at HR
      have e1 : ((p : Int) == (s.size : Int)) = true := by simp; omega
      have H1 := Lib.hid h1; clear h1
      go_enter Try.func15, Try.ntmps15
      go_wp2
      go_ret
      exact ⟨by rw [HR.out]; rfl, Keep.refl _ _⟩
    · have e1 : ((p : Int) == (s.size : Int)) = false := by simp; omega
      have e2 : (p == s.size) = false := by simpa using h1
      have HE := Lib.hid (fun W => edge_any s p W hz (by omega) (by omega))
      have HR := Lib.hid (isBrk_mid (s := s) (p := p) (by omega) (by omega))
      cases hb : bgn s p with
      | false =>
        rw [hb] at HE HR
        clear hb
        go_enter Try.func15, Try.ntmps15
        go_wp2_with fail
        refine (HE.out _).mono ?_
        rintro e w1 ⟨rfl, rfl⟩
        go_wp2
        go_ret
        exact ⟨by rw [HR.out]; rfl, Keep.refl _ _⟩
      | true =>
        have hl : ∃ l, At s l p := by unfold bgn at hb; exact (mem_cut.1 (by simpa using hb)).1
        obtain ⟨l, hl⟩ := hl
        have HA := Lib.hid (fun W => apart_any s l p W hz hl (by omega) (by omega))
        rw [hb] at HE HR
        clear hb hl
        generalize isb s p = x at *
        go_enter Try.func15, Try.ntmps15
        go_wp2_with fail
        refine (HE.out _).mono ?_
        rintro e w1 ⟨rfl, rfl⟩
        go_wp2_with fail
        refine (HA.out _).mono ?_
        rintro e w2 ⟨rfl, hk⟩
        have K2 := Lib.hid hk; clear hk
        go_wp2
        go_ret
        exact ⟨by rw [HR.out]; rfl, K2.out⟩
theorem break_out (s : ByteArray) (p : Int) (w : World) (hz : s.size ≤ 1073741824) (hp : p < 0 ∨ s.size < p) :
    Calls Try.prog 15 #[.string s, .int .i64 p] w fun e w' => e = .returned (.bool false) ∧ w = w' := by
  by_cases h0 : p < 0
  · have d0 : decide (p < 0) = true := by simpa using h0
    go_enter Try.func15, Try.ntmps15
    go_wp2
    go_ret
    exact ⟨rfl, rfl⟩
  · have d0 : decide (p < 0) = false := by simpa using h0
    have d1 : decide ((s.size : Int) < p) = true := by simp; omega
    go_enter Try.func15, Try.ntmps15
    go_wp2
    go_ret
    exact ⟨rfl, rfl⟩

theorem nxt_from {s : ByteArray} {a : Int} {k : Nat} (hk : k ≤ s.size) (hb : isBrk s k = true) (ha : a < k) (hno : ∀ j : Nat, a < (j : Int) → j < k → isBrk s j = false) : nxtB s a = k := by
  refine nxt_is (by unfold isBrk at hb; simpa using hb) ha fun q hq haq => ?_
  refine Classical.byContradiction fun h => ?_
  have := hno q haq (by omega)
  unfold isBrk at this
  simp at this
  exact this hq
theorem prv_from {s : ByteArray} {a : Int} {k : Nat} (hk : k ≤ s.size) (hb : isBrk s k = true) (ha : (k : Int) < a) (hno : ∀ j : Nat, k < j → j ≤ s.size → (j : Int) < a → isBrk s j = false) : prvB s a = k := by
  refine prv_is (by unfold isBrk at hb; simpa using hb) ha fun q hq haq => ?_
  refine Classical.byContradiction fun h => ?_
  have := hno q (by omega) (brk_le hq) haq
  unfold isBrk at this
  simp at this
  exact this hq

set_option maxHeartbeats 4000000 in
theorem next_any (s : ByteArray) (a : Int) (w : World) (hz : s.size ≤ 1073741824) (ha0 : -9223372036854775808 ≤ a) (ha1 : a ≤ 9223372036854775807) :
    Calls Try.prog 24 #[.string s, .int .i64 a] w fun e w' => e = .returned (.int .i64 (nxtB s a : Nat)) ∧ Keep [] w w' := by
  by_cases hlt : a < s.size
  · have hltd : decide (a < (s.size : Int)) = true := by simpa using hlt
    obtain ⟨m, hmx, hm, hms⟩ : ∃ m : Nat, (∀ (ts : Array TypeId) (t : TypeId) (W : World), (Builtin.max_ ts t #[.int .i64 (a + 1), .int .i64 0]).run Try.prog W = .ok (.int .i64 (m : Int)) W) ∧ (∀ j : Nat, a < (j : Int) → m ≤ j) ∧ m ≤ s.size ∧ a < (m : Int) := by
      refine ⟨(a + 1).toNat, fun ts t W => ?_, fun j hj => by omega, by omega, by omega⟩
      rw [run_max_int2 (P := Try.prog) W ts t .i64 .i64 (a + 1) 0]
      congr 2
      split <;> omega
    obtain ⟨hms, ham⟩ := hms
    have HB := Lib.hid (fun (k : Nat) W (hk : k ≤ s.size) => break_any s k W hz hk)
    have HM := Lib.hid hm; clear hm
    go_enter Try.func24, Try.ntmps24
    go_wp2
    clear hmx
    go_loopw [5] (fun i W => ∃ k : Nat, m ≤ k ∧ k ≤ s.size ∧ i = .int .i64 k ∧ Keep [] w W ∧ ∀ j : Nat, a < (j : Int) → j < k → isBrk s j = false) (fun i _ => s.size - (intOf i).toNat)
    case atStart => exact ⟨m, by omega, by omega, rfl, Keep.refl _ _, fun j h1 h2 => by have := HM.out j h1; omega⟩
    case round =>
      obtain ⟨k, hmk, hks, rfl, hkp, hno⟩ := hrel
      have HN := Lib.hid hno; have HK := Lib.hid hkp; clear hno hkp
      by_cases hk : k < s.size
      · have hkd : decide (k < s.size) = true := by simpa using hk
        cases hb : isBrk s k with
        | true =>
          have HC := HB.out k
          have HR := Lib.hid (nxt_from (by omega) hb (by omega) HN.out)
          rw [hb] at HC
          have HC2 := Lib.hid HC; clear HC hb
          go_wp2_with fail
          refine (HC2.out _ (by omega)).mono ?_
          rintro e w1 ⟨rfl, hk1⟩
          have K1 := Lib.hid (HK.out.trans0 hk1); clear hk1
          go_wp2
          go_ret
          exact ⟨by rw [HR.out]; rfl, K1.out⟩
        | false =>
          have HC := HB.out k
          have HN2 : Hid (∀ j : Nat, a < (j : Int) → j < k + 1 → isBrk s j = false) := Lib.hid fun j h1 h2 => by
            by_cases e : j = k
            · subst e; exact hb
            · exact HN.out j h1 (by omega)
          rw [hb] at HC
          have HC2 := Lib.hid HC; clear HC hb
          go_wp2_with fail
          refine (HC2.out _ (by omega)).mono ?_
          rintro e w1 ⟨rfl, hk1⟩
          have K1 := Lib.hid (HK.out.trans0 hk1); clear hk1
          go_wp2
          exact ⟨⟨k + 1, by omega, by omega, by go_num, K1.out, HN2.out⟩, by simp [intOf]; omega⟩
      · have hkd : decide (k < s.size) = false := by simpa using hk
        have hke : k = s.size := by omega
        have HR := Lib.hid (nxt_from (s := s) (a := a) (k := s.size) (Nat.le_refl _) (isBrk_size s) hlt (by rw [← hke]; exact HN.out))
        clear hke
        go_wp2
        go_ret
        exact ⟨by rw [HR.out]; rfl, HK.out⟩
  · have hltd : decide (a < (s.size : Int)) = false := by simpa using hlt
    have HR := Lib.hid (nxt_end (s := s) (a := a) (by omega))
    go_enter Try.func24, Try.ntmps24
    go_wp2
    all_goals
      go_loopw [] (fun W => w = W) (fun _ => 0)
      case atStart => rfl
      case round =>
        subst hrel
        go_wp2
        go_ret
        exact ⟨by rw [HR.out]; rfl, Keep.refl _ _⟩

set_option maxHeartbeats 4000000 in
theorem prev_any (s : ByteArray) (a : Int) (w : World) (hz : s.size ≤ 1073741824) (ha0 : -9223372036854775808 ≤ a) (ha1 : a ≤ 9223372036854775807) :
    Calls Try.prog 26 #[.string s, .int .i64 a] w fun e w' => e = .returned (.int .i64 (prvB s a : Nat)) ∧ Keep [] w w' := by
  by_cases hlt : 0 < a
  · have hltd : decide (0 < a) = true := by simpa using hlt
    obtain ⟨m, hmx, hm, hms⟩ : ∃ m : Nat, (∀ (ts : Array TypeId) (t : TypeId) (W : World), (Builtin.min_ ts t #[.int .i64 (a - 1), .int .i64 (s.size : Int)]).run Try.prog W = .ok (.int .i64 (m : Int)) W) ∧ (∀ j : Nat, j ≤ s.size → (j : Int) < a → j ≤ m) ∧ m ≤ s.size ∧ (m : Int) < a := by
      refine ⟨(min (a - 1) (s.size : Int)).toNat, fun ts t W => ?_, fun j hj hj2 => by omega, by omega, by omega⟩
      rw [run_min_int2 (P := Try.prog) W ts t .i64 .i64 (a - 1) (s.size : Int)]
      congr 2
      split <;> omega
    obtain ⟨hms, ham⟩ := hms
    have HB := Lib.hid (fun (k : Nat) W (hk : k ≤ s.size) => break_any s k W hz hk)
    have HM := Lib.hid hm; clear hm
    go_enter Try.func26, Try.ntmps26
    go_wp2
    clear hmx
    go_loopw [5] (fun i W => ∃ k : Nat, k ≤ m ∧ i = .int .i64 k ∧ Keep [] w W ∧ ∀ j : Nat, k < j → j ≤ s.size → (j : Int) < a → isBrk s j = false) (fun i _ => (intOf i).toNat)
    case atStart => exact ⟨m, by omega, rfl, Keep.refl _ _, fun j h1 h2 h3 => by have := HM.out j h2 h3; omega⟩
    case round =>
      obtain ⟨k, hmk, rfl, hkp, hno⟩ := hrel
      have HN := Lib.hid hno; have HK := Lib.hid hkp; clear hno hkp
      by_cases hk : 0 < k
      · have hkd : decide ((0 : Int) < (k : Int)) = true := by simpa using hk
        have hsub : (k : Int) - 1 = ((k - 1 : Nat) : Int) := by omega
        cases hb : isBrk s k with
        | true =>
          have HC := HB.out k
          have HR := Lib.hid (prv_from (by omega) hb (by omega) HN.out)
          rw [hb] at HC
          have HC2 := Lib.hid HC; clear HC hb hsub
          go_wp2_with fail
          refine (HC2.out _ (by omega)).mono ?_
          rintro e w1 ⟨rfl, hk1⟩
          have K1 := Lib.hid (HK.out.trans0 hk1); clear hk1
          go_wp2
          go_ret
          exact ⟨by rw [HR.out]; rfl, K1.out⟩
        | false =>
          have HC := HB.out k
          have HN2 : Hid (∀ j : Nat, k - 1 < j → j ≤ s.size → (j : Int) < a → isBrk s j = false) := Lib.hid fun j h1 h2 h3 => by
            by_cases e : j = k
            · subst e; exact hb
            · exact HN.out j (by omega) h2 h3
          rw [hb] at HC
          have HC2 := Lib.hid HC; clear HC hb hsub
          go_wp2_with fail
          refine (HC2.out _ (by omega)).mono ?_
          rintro e w1 ⟨rfl, hk1⟩
          have K1 := Lib.hid (HK.out.trans0 hk1); clear hk1
          go_wp2
          exact ⟨⟨k - 1, by omega, by congr 1; omega, K1.out, HN2.out⟩, by simp [intOf]; omega⟩
      · have hkd : decide ((0 : Int) < (k : Int)) = false := by simpa using hk
        have HR := Lib.hid (prv_from (s := s) (a := a) (k := 0) (Nat.zero_le _) (isBrk_zero s) (by omega) (fun j h1 h2 h3 => HN.out j (by omega) h2 h3))
        go_wp2
        go_ret
        exact ⟨by rw [HR.out]; rfl, HK.out⟩
  · have hltd : decide (0 < a) = false := by simpa using hlt
    have HR := Lib.hid (prv_start (s := s) (a := a) (by omega))
    go_enter Try.func26, Try.ntmps26
    go_wp2
    all_goals
      go_loopw [] (fun W => w = W) (fun _ => 0)
      case atStart => rfl
      case round =>
        subst hrel
        go_wp2
        go_ret
        exact ⟨by rw [HR.out]; rfl, Keep.refl _ _⟩
end Go.Proofs.Ythbcancckogloaa
