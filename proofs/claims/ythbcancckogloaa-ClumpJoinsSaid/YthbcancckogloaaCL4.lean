/-
  ClumpSteps, walked.
-/
import Derived.Test.YthbcancckogloaaClmL
import Derived.Test.YthbcancckogloaaClmK
namespace Go.Proofs.Ythbcancckogloaa
open Go.RowKit
set_option linter.unusedVariables false
set_option linter.unusedSimpArgs false

/-- Between neighbours there is no break. -/
theorem brk_gap {s : ByteArray} {k a p : Nat} (h1 : (brk s)[k]? = some a) (h2 : (brk s)[k + 1]? = some p) : ∀ q ∈ brk s, q ≤ a ∨ p ≤ q := by
  intro q hq
  obtain ⟨j, hj, rfl⟩ := List.mem_iff_getElem.1 hq
  obtain ⟨hk, rfl⟩ := List.getElem?_eq_some_iff.1 h1
  obtain ⟨hk2, rfl⟩ := List.getElem?_eq_some_iff.1 h2
  have hs := List.pairwise_iff_getElem.1 (brk_sorted s)
  rcases Nat.lt_or_ge j k with h | h
  · left; have := hs _ _ hj hk h; omega
  · by_cases e : j = k
    · subst e; exact .inl (Nat.le_refl _)
    · right
      by_cases e2 : j = k + 1
      · subst e2; exact Nat.le_refl _
      · have := hs _ _ hk2 hj (by omega); omega
theorem nxt_gap {s : ByteArray} {k a p : Nat} {x : Int} (h1 : (brk s)[k]? = some a) (h2 : (brk s)[k + 1]? = some p) (ha : (a : Int) ≤ x) (hp : x < p) : nxtB s x = p :=
  nxt_is (List.mem_of_getElem? h2) hp fun q hq hx => by have := brk_gap h1 h2 q hq; omega
theorem prv_gap {s : ByteArray} {k a p : Nat} {x : Int} (h1 : (brk s)[k]? = some a) (h2 : (brk s)[k + 1]? = some p) (ha : (a : Int) < x) (hp : x ≤ p) : prvB s x = a :=
  prv_is (List.mem_of_getElem? h1) ha fun q hq hx => by have := brk_gap h1 h2 q hq; omega

set_option maxRecDepth 100000 in
set_option maxHeartbeats 16000000 in
theorem clumpSteps_walk (s : ByteArray) (a : Int) (w : World) (hs : s.size ≤ maxLen) (ha : -9223372036854775808 ≤ a ∧ a ≤ 9223372036854775807) :
    Calls Try.prog 6 #[.string s, .int .i64 a] w fun e w' => e = .returned (.bool true) ∧ Keep [] w w' := by
  unfold maxLen at hs
  by_cases hz : s.size ≤ 20000
  · have hzd : decide ((20000 : Int) < (s.size : Int)) = false := by simp; omega
    have hbl := brk_len s
    have hbp := brk_pos s
    go_enter Try.func6, Try.ntmps6
    go_wp2_with fail
    refine (next_any s a _ (by omega) ha.1 ha.2).mono ?_
    rintro e w1 ⟨rfl, hk⟩
    have K1 := Lib.hid hk; clear hk
    go_wp2_with fail
    refine (rnext_any s a _ (by omega)).mono ?_
    rintro e w2 ⟨rfl, hk⟩
    have K2 := Lib.hid (K1.out.trans0 hk); clear hk K1
    generalize nxtB s a = x1 at *
    have hx1 : ((x1 : Int) != (x1 : Int)) = false := by simp
    go_wp2_with fail
    refine (prev_any s a _ (by omega) ha.1 ha.2).mono ?_
    rintro e w3 ⟨rfl, hk⟩
    have K3 := Lib.hid (K2.out.trans0 hk); clear hk K2
    go_wp2_with fail
    refine (rprev_any s a _ (by omega)).mono ?_
    rintro e w4 ⟨rfl, hk⟩
    have K4 := Lib.hid (K3.out.trans0 hk); clear hk K3
    generalize prvB s a = x2 at *
    have hx2 : ((x2 : Int) != (x2 : Int)) = false := by simp
    go_wp2_with fail
    refine (rbreaks_any s _ (by omega)).mono ?_
    intro r w5 hN
    obtain ⟨ad, cap, rfl, hsl, hk, _⟩ := hN.at_
    obtain ⟨_, _, he, _, hc⟩ := hsl
    cases he
    have HC := Lib.hid hc; have K5 := Lib.hid (K4.out.trans0 hk)
    clear hN hc hk K4 hx1 hx2
    obtain ⟨n, hn⟩ : ∃ n, n = (brk s).length := ⟨_, rfl⟩
    rw [← hn] at HC hbl hbp ⊢
    have HN := Lib.hid hn; clear hn
    go_wp2
    go_loopw [6] (fun i W => ∃ k : Nat, k + 1 ≤ n ∧ i = .int .i64 k ∧ Keep [] w5 W) (fun i _ => n - (intOf i).toNat)
    case atStart => exact ⟨0, by omega, rfl, Keep.refl _ _⟩
    case round =>
      rename World => w6
      obtain ⟨k, hk, rfl, hkp⟩ := hrel
      by_cases hlt : k + 1 < n ∧ k < 300
      · obtain ⟨hlt, hl3⟩ := hlt
        have hltd : decide ((k : Int) + 1 < (n : Int)) = true := by simp; omega
        have hl3d : decide ((k : Int) < 300) = true := by simp; omega
        have hkl : k < (brk s).length := by rw [← HN.out]; omega
        have hkl2 : k + 1 < (brk s).length := by rw [← HN.out]; omega
        have hke := List.getElem?_eq_getElem hkl
        have hke2 := List.getElem?_eq_getElem hkl2
        obtain ⟨b, off, rfl, hcs⟩ := HC.out (by omega)
        have c0 := hkp.cellv (hcs k _ (ints_at hke)) (by simp)
        have c1 := hkp.cellv (hcs (k + 1) _ (ints_at hke2)) (by simp)
        obtain ⟨hrise, hle⟩ := brk_rise hke hke2
        have HK6 := Lib.hid hkp
        have N1 := Lib.hid (fun W => next_any s (((brk s)[k] : Nat) : Int) W (by omega) (by omega) (by omega))
        have N2 := Lib.hid (fun W => prev_any s (((brk s)[k + 1] : Nat) : Int) W (by omega) (by omega) (by omega))
        have N3 := Lib.hid (fun W => next_any s ((((brk s)[k + 1] : Nat) : Int) - 1) W (by omega) (by omega) (by omega))
        have N4 := Lib.hid (fun W => prev_any s ((((brk s)[k] : Nat) : Int) + 1) W (by omega) (by omega) (by omega))
        rw [nxt_gap hke hke2 (by omega) (by omega)] at N1
        rw [prv_gap hke hke2 (by omega) (by omega)] at N2
        rw [nxt_gap hke hke2 (by omega) (by omega)] at N3
        rw [prv_gap hke hke2 (by omega) (by omega)] at N4
        clear hcs hke hke2 hkp
        generalize (brk s)[k] = x at *
        generalize (brk s)[k + 1] = y at *
        obtain ⟨I, f, hf1, hf2⟩ := kept_class w6
        have q0 : ∀ i, (f i).cell? _ = _ := fun i => (hf1 i).cellv c0 (by simp)
        have q1 : ∀ i, (f i).cell? _ = _ := fun i => (hf1 i).cellv c1 (by simp)
        obtain ⟨iw, hiw⟩ := hf2 w6.drew (Keep.refl _ _).drew
        haveI : Nonempty I := ⟨iw⟩
        have HF1 := Lib.hid hf1; have HF2 := Lib.hid hf2
        have hkn : (k : Int) < (n : Int) := by omega
        have hkn1 : (k : Int) + 1 < (n : Int) := by omega
        have hk0 : (0 : Int) ≤ (k : Int) + 1 := by omega
        have hkt : ((k : Int) + 1).toNat = k + 1 := by omega
        have hw1 : IntKind.i64.wrap ((k : Int) + 1) = (k : Int) + 1 := by rw [IntKind.wrap_i64]; omega
        have hw2 : IntKind.i64.wrap ((x : Int) + 1) = (x : Int) + 1 := by rw [IntKind.wrap_i64]; omega
        have hw3 : IntKind.i64.wrap ((y : Int) - 1) = (y : Int) - 1 := by rw [IntKind.wrap_i64]; omega
        have hxx : ((x : Int) != (x : Int)) = false := by simp
        have hyy : ((y : Int) != (y : Int)) = false := by simp
        clear c0 c1 hf1 hf2
        go_wp2_with fail
        refine wp_quiet_tail 55 f ⟨iw, hiw⟩ (by kernel_rfl) (by kernel_rfl) ?_
        clear hiw iw
        simp only [List.take_succ_cons, List.take_zero, List.drop_succ_cons, List.drop_zero]
        repeat (quiet_step (first
          | ((with_reducible refine (N1.out _).mono ?_); rintro e w'' ⟨rfl, hk⟩; exact ⟨rfl, HF2.out _ ((HF1.out _).trans0 hk)⟩)
          | ((with_reducible refine (N2.out _).mono ?_); rintro e w'' ⟨rfl, hk⟩; exact ⟨rfl, HF2.out _ ((HF1.out _).trans0 hk)⟩)
          | ((with_reducible refine (N3.out _).mono ?_); rintro e w'' ⟨rfl, hk⟩; exact ⟨rfl, HF2.out _ ((HF1.out _).trans0 hk)⟩)
          | ((with_reducible refine (N4.out _).mono ?_); rintro e w'' ⟨rfl, hk⟩; exact ⟨rfl, HF2.out _ ((HF1.out _).trans0 hk)⟩)))
        refine wpQuiet_nil ?_
        intro i
        have hkq := Lib.hid (HK6.out.trans0 (HF1.out i))
        clear q0 q1 HF1 HF2
        generalize f i = wq at *
        clear i f
        go_wp2
        exact ⟨⟨k + 1, by omega, by go_num, hkq.out⟩, by simp [intOf]; omega⟩
      · have HK6 := Lib.hid (K5.out.trans0 hkp); clear hkp
        by_cases hl1 : k + 1 < n
        · have hltd : decide ((k : Int) + 1 < (n : Int)) = true := by simp; omega
          have hl3d : decide ((k : Int) < 300) = false := by simp; omega
          go_wp2_with fail
          refine (known_true _).mono ?_
          rintro q w7 ⟨rfl, hk7⟩
          have K7 := Lib.hid (HK6.out.trans0 hk7); clear hk7
          go_wp2
          go_ret
          exact ⟨rfl, K7.out⟩
        · have hltd : decide ((k : Int) + 1 < (n : Int)) = false := by simp; omega
          go_wp2_with fail
          refine (known_true _).mono ?_
          rintro q w7 ⟨rfl, hk7⟩
          have K7 := Lib.hid (HK6.out.trans0 hk7); clear hk7
          go_wp2
          go_ret
          exact ⟨rfl, K7.out⟩
  · have hzd : decide ((20000 : Int) < (s.size : Int)) = true := by simp; omega
    go_enter Try.func6, Try.ntmps6
    go_wp2_with fail
    refine (known_true _).mono ?_
    rintro q w3 ⟨rfl, hk3⟩
    have HK3 := Lib.hid hk3; clear hk3
    go_wp2
    go_ret
    exact ⟨rfl, HK3.out⟩
end Go.Proofs.Ythbcancckogloaa
