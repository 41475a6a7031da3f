/-
  ClumpBreaks, walked.
-/
import Derived.Test.YthbcancckogloaaClmL
import Derived.Test.YthbcancckogloaaClmK
namespace Go.Proofs.Ythbcancckogloaa
open Go.RowKit
set_option linter.unusedVariables false
set_option linter.unusedSimpArgs false

theorem brkI_nat {s : ByteArray} {k : Nat} : brkI s k = isBrk s k := by
  unfold brkI isBrk
  have : ((brk s).any fun p => decide ((p : Int) = (k : Int))) = true ↔ decide (k ∈ brk s) = true := by
    rw [List.any_eq_true, decide_eq_true_eq]
    constructor
    · rintro ⟨p, hp, h⟩
      have : p = k := by have := of_decide_eq_true h; omega
      subst this; exact hp
    · intro h; exact ⟨k, h, by simp⟩
  cases h1 : ((brk s).any fun p => decide ((p : Int) = (k : Int))) <;> cases h2 : decide (k ∈ brk s) <;> simp_all
theorem brkI_out {s : ByteArray} {a : Int} (h : a < 0 ∨ s.size < a) : brkI s a = false := by
  unfold brkI
  refine List.any_eq_false.2 fun p hp => ?_
  have := brk_le hp
  simp; omega
/-- Break at whatever number. -/
theorem break_int (s : ByteArray) (a : Int) (w : World) (hz : s.size ≤ 1073741824) :
    Calls Try.prog 15 #[.string s, .int .i64 a] w fun e w' => e = .returned (.bool (brkI s a)) ∧ Keep [] w w' := by
  by_cases h : a < 0 ∨ s.size < a
  · rw [brkI_out h]
    exact (break_out s a w hz h).mono fun e w' ⟨h1, h2⟩ => ⟨h1, by subst h2; exact Keep.refl _ _⟩
  · obtain ⟨k, rfl⟩ : ∃ k : Nat, a = k := ⟨a.toNat, by omega⟩
    rw [brkI_nat]
    exact break_any s k w hz (by omega)

/-- How many breaks lie below a byte. -/
def below (s : ByteArray) (i : Nat) : Nat := ((brk s).filter fun p => decide (p < i)).length
theorem filter_lt_sorted {l : List Nat} (h : l.Pairwise (· < ·)) (i : Nat) : ∀ k p, l[k]? = some p → (p < i ↔ k < (l.filter fun p => decide (p < i)).length) := by
  induction l with
  | nil => intro k p h; simp at h
  | cons a l ih =>
    obtain ⟨h1, h2⟩ := List.pairwise_cons.1 h
    intro k p hk
    by_cases ha : a < i
    · rw [List.filter_cons, if_pos (by simpa using ha), List.length_cons]
      cases k with
      | zero => simp at hk; subst hk; exact ⟨fun _ => by omega, fun _ => ha⟩
      | succ k =>
        have := ih h2 k p (by simpa using hk)
        omega
    · have hall : ∀ q ∈ l, ¬ q < i := fun q hq => by have := h1 q hq; omega
      rw [List.filter_cons, if_neg (by simpa using ha), List.filter_eq_nil_iff.2 (fun q hq => by simpa using Nat.not_lt.1 (hall q hq))]
      have hp : p ∈ a :: l := List.mem_of_getElem? hk
      constructor
      · intro hpi
        rcases List.mem_cons.1 hp with rfl | hp
        · exact absurd hpi ha
        · exact absurd hpi (hall p hp)
      · intro h; simp at h
theorem below_at {s : ByteArray} {i k p : Nat} (h : (brk s)[k]? = some p) : p < i ↔ k < below s i := filter_lt_sorted (brk_sorted s) i k p h
theorem below_le (s : ByteArray) (i : Nat) : below s i ≤ (brk s).length := List.length_filter_le _ _
/-- The next break is the byte itself, or it is none. -/
theorem below_is {s : ByteArray} {i : Nat} : isBrk s i = true ↔ (brk s)[below s i]? = some i := by
  constructor
  · intro h
    have hm : i ∈ brk s := by unfold isBrk at h; simpa using h
    obtain ⟨k, hk, rfl⟩ := List.mem_iff_getElem.1 hm
    have hke := List.getElem?_eq_getElem hk
    have h1 : ¬ k < below s (brk s)[k] := fun h => by have := (below_at hke).2 h; omega
    have h2 : below s (brk s)[k] ≤ k := by omega
    rcases Nat.lt_or_ge (below s (brk s)[k]) k with h3 | h3
    · exfalso
      have h4 : below s (brk s)[k] < (brk s).length := by omega
      have h5 := List.pairwise_iff_getElem.1 (brk_sorted s) _ _ h4 hk h3
      have := (below_at (List.getElem?_eq_getElem h4)).1 h5
      omega
    · rw [show below s (brk s)[k] = k by omega]; exact hke
  · intro h
    have := List.mem_of_getElem? h
    unfold isBrk; simpa using this
theorem below_step {s : ByteArray} {i : Nat} : below s (i + 1) = below s i + (if isBrk s i = true then 1 else 0) := by
  have key : ∀ l : List Nat, l.Pairwise (· < ·) → (l.filter fun p => decide (p < i + 1)).length = (l.filter fun p => decide (p < i)).length + (if i ∈ l then 1 else 0) := by
    intro l
    induction l with
    | nil => intro _; simp
    | cons a l ih =>
      intro h
      obtain ⟨h1, h2⟩ := List.pairwise_cons.1 h
      have := ih h2
      by_cases ha : a < i
      · rw [List.filter_cons, if_pos (by simp; omega), List.filter_cons, if_pos (by simpa using ha)]
        simp only [List.length_cons, List.mem_cons]
        rw [this]
        by_cases hi : i ∈ l
        · rw [if_pos hi, if_pos (.inr hi)]
        · rw [if_neg hi, if_neg (by rintro (h | h); omega; exact hi h)]
      · by_cases he : a = i
        · subst he
          have hni : a ∉ l := fun h => by have := h1 a h; omega
          rw [List.filter_cons, if_pos (by simp), List.filter_cons, if_neg (by simp), List.length_cons, this, if_neg hni, if_pos (by simp)]
        · have hni : i ∉ a :: l := fun h => by rcases List.mem_cons.1 h with h | h; omega; have := h1 i h; omega
          rw [List.filter_cons, if_neg (by simp; omega), List.filter_cons, if_neg (by simp; omega), this, if_neg hni, if_neg (fun h => hni (by simp [h]))]
  unfold below isBrk
  rw [key _ (brk_sorted s)]
  simp
theorem below_zero (s : ByteArray) : below s 0 = 0 := by unfold below; simp

set_option maxRecDepth 100000 in
set_option maxHeartbeats 8000000 in
theorem clumpBreaks_walk (s : ByteArray) (a : Int) (w : World) (hs : s.size ≤ maxLen) (ha : -9223372036854775808 ≤ a ∧ a ≤ 9223372036854775807) :
    Calls Try.prog 4 #[.string s, .int .i64 a] w fun e w' => e = .returned (.bool true) ∧ Keep [] w w' := by
  unfold maxLen at hs
  by_cases hz : s.size ≤ 2000
  · have hzd : decide ((2000 : Int) < (s.size : Int)) = false := by simp; omega
    have hbl := brk_len s
    go_enter Try.func4, Try.ntmps4
    go_wp2_with fail
    refine (rbreaks_any s _ (by omega)).mono ?_
    intro r w1 hN
    obtain ⟨ad, cap, rfl, hsl, hk, _⟩ := hN.at_
    obtain ⟨_, _, he, _, hc⟩ := hsl
    cases he
    have HC := Lib.hid hc; have K1 := Lib.hid hk
    clear hN hc hk
    obtain ⟨n, hn⟩ : ∃ n, n = (brk s).length := ⟨_, rfl⟩
    rw [← hn] at HC hbl ⊢
    have HN := Lib.hid hn; clear hn
    go_wp2
    go_loopw [6, 7] (fun q i W => ∃ k : Nat, k ≤ s.size + 1 ∧ q = .int .i64 (below s k : Nat) ∧ i = .int .i64 k ∧ Keep [] w1 W) (fun _ i _ => s.size + 1 - (intOf i).toNat)
    case atStart => exact ⟨0, by omega, by rw [below_zero]; rfl, rfl, Keep.refl _ _⟩
    case round =>
      rename World => w2
      obtain ⟨k, hk, rfl, rfl, hkp⟩ := hrel
      by_cases hlt : k ≤ s.size
      · have hltd : decide (k ≤ s.size) = true := by simpa using hlt
        have hst := below_step (s := s) (i := k)
        have hq0 : below s k ≤ n := by rw [HN.out]; exact below_le s k
        have hb := Lib.hid (break_any s k)
        have hiff := below_is (s := s) (i := k)
        have HK2 := Lib.hid hkp
        cases hbb : isBrk s k with
        | true =>
          rw [hbb] at hst hb
          rw [if_pos rfl] at hst
          have hget := hiff.1 hbb
          have hqn : below s k < n := by rw [HN.out]; exact (List.getElem?_eq_some_iff.1 hget).1
          obtain ⟨b, off, rfl, hcs⟩ := HC.out (by omega)
          have c0 := hkp.cellv (hcs _ _ (ints_at hget)) (by simp)
          have HST := Lib.hid hst
          clear hcs hkp hst hiff hget hbb
          generalize below s k = q at *
          have hqd : decide (q < n) = true := by simpa using hqn
          have hee : ((k : Int) == (k : Int)) = true := by simp
          go_wp2_with fail
          refine (hb.out _ (by omega) hlt).mono ?_
          rintro r w3 ⟨rfl, hk3⟩
          have K3 := Lib.hid (HK2.out.trans0 hk3); clear hk3
          go_wp2
          exact ⟨⟨k + 1, by omega, by rw [HST.out]; go_num, by go_num, K3.out⟩, by simp [intOf]; omega⟩
        | false =>
          rw [hbb] at hst hb
          rw [if_neg (by decide), Nat.add_zero] at hst
          have HST := Lib.hid hst
          by_cases hqn : below s k < n
          · have hqn' : below s k < (brk s).length := by rw [← HN.out]; exact hqn
            have hge := List.getElem?_eq_getElem hqn'
            have hne : (brk s)[below s k] ≠ k := fun h => by
              have := hiff.2 (by rw [hge, h])
              rw [hbb] at this; cases this
            obtain ⟨b, off, rfl, hcs⟩ := HC.out (by omega)
            have c0 := hkp.cellv (hcs _ _ (ints_at hge)) (by simp)
            clear hcs hkp hst hiff hge hbb
            generalize (brk s)[below s k] = p at *
            generalize below s k = q at *
            have hqd : decide (q < n) = true := by simpa using hqn
            have hee : ((p : Int) == (k : Int)) = false := by simp; omega
            clear hne
            go_wp2_with fail
            refine (hb.out _ (by omega) hlt).mono ?_
            rintro r w3 ⟨rfl, hk3⟩
            have K3 := Lib.hid (HK2.out.trans0 hk3); clear hk3
            go_wp2
            exact ⟨⟨k + 1, by omega, by rw [HST.out]; rfl, by go_num, K3.out⟩, by simp [intOf]; omega⟩
          · clear hkp hst hiff hbb
            generalize below s k = q at *
            have hqd : decide (q < n) = false := by simpa using hqn
            go_wp2_with fail
            refine (hb.out _ (by omega) hlt).mono ?_
            rintro r w3 ⟨rfl, hk3⟩
            have K3 := Lib.hid (HK2.out.trans0 hk3); clear hk3
            go_wp2
            exact ⟨⟨k + 1, by omega, by rw [HST.out]; rfl, by go_num, K3.out⟩, by simp [intOf]; omega⟩
      · have hltd : decide (k ≤ s.size) = false := by simpa using hlt
        have HK2 := Lib.hid (K1.out.trans0 hkp); clear hkp
        clear hlt
        generalize below s k = q at *
        go_wp2_with fail
        refine (break_int s a _ (by omega)).mono ?_
        rintro r w3 ⟨rfl, hk3⟩
        have K3 := Lib.hid (HK2.out.trans0 hk3); clear hk3
        go_wp2_with fail
        refine (rbreak_any s a _ (by omega)).mono ?_
        rintro r w4 ⟨rfl, hk4⟩
        have K4 := Lib.hid (K3.out.trans0 hk4); clear hk4
        generalize brkI s a = x at *
        have hxx : (x == x) = true := by simp
        go_wp2_with fail
        refine (ccount_any s _ (by omega)).mono ?_
        rintro r w5 ⟨rfl, hk5⟩
        have K5 := Lib.hid (K4.out.trans0 hk5); clear hk5
        go_wp2_with fail
        refine (rcount2_any s _ (by omega)).mono ?_
        rintro r w6 ⟨rfl, hk6⟩
        have K6 := Lib.hid (K5.out.trans0 hk6); clear hk6
        generalize (clumps s).length = m at *
        have hmm : ((m : Int) == (m : Int)) = true := by simp
        go_wp2_with fail
        refine (known_true _).mono ?_
        rintro q w7 ⟨rfl, hk7⟩
        have K7 := Lib.hid (K6.out.trans0 hk7); clear hk7
        go_wp2
        go_ret
        exact ⟨rfl, K7.out⟩
  · have hzd : decide ((2000 : Int) < (s.size : Int)) = true := by simp; omega
    go_enter Try.func4, Try.ntmps4
    go_wp2_with fail
    refine (known_true _).mono ?_
    rintro q w3 ⟨rfl, hk3⟩
    have HK3 := Lib.hid hk3; clear hk3
    go_wp2
    go_ret
    exact ⟨rfl, HK3.out⟩
end Go.Proofs.Ythbcancckogloaa
