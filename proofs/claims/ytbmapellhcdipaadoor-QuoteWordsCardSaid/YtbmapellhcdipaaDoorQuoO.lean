/-
  Walks of both Unquotes.
-/
import Derived.Test.YtbmapellhcdipaaDoorQuoN
import Derived.Deep.QuietTactic
import Derived.BigQuiet
namespace Go.Proofs.YtbmapellhcdipaaDoor
open Go.RowKit
set_option linter.unusedVariables false
set_option linter.unusedSimpArgs false

theorem keep_dN {L : List Nat} {w w' : World} (h : Keep L w w') (n : Nat) : Keep L w (w'.drewN n) := ⟨h.os, h.tape, h.output, h.size, h.block⟩
theorem unq_yes {s x : ByteArray} {e : Nat} (h : qtd s 0 = (true, x, e)) (he : s.size ≤ e) : unq s = (x, 0, 0) := by unfold unq; rw [h]; exact if_pos ⟨rfl, he⟩
theorem unq_long {s x : ByteArray} {e : Nat} (h : qtd s 0 = (true, x, e)) (he : ¬ s.size ≤ e) : unq s = (ByteArray.empty, e, 18) := by unfold unq; rw [h]; exact if_neg (fun h => he h.2)
theorem unq_no {s x : ByteArray} {e : Nat} (h : qtd s 0 = (false, x, e)) : unq s = (ByteArray.empty, e, 18) := by unfold unq; rw [h]; exact if_neg (fun h => by simp at h)
theorem qtd_no {s x : ByteArray} {a e : Nat} (ha : a ≤ s.size) (h : qtd s a = (false, x, e)) : x = ByteArray.empty := by
  unfold qtd at h
  split at h
  · rename_i h0
    have := (qd_pos s (a + 1) ByteArray.empty (by omega)).2.2.2
    rw [h] at this
    exact this rfl
  · injection h with _ h; injection h with h _; exact h.symm

set_option maxHeartbeats 8000000 in
set_option maxRecDepth 100000 in
theorem unquote_any (s : ByteArray) (w : World) (hz : s.size ≤ 1000000) : Calls Tryd.prog 12 #[.string s] w fun e w' => e = .returned (.tuple #[.string (unq s).1, .int .i64 (unq s).2.1, .int .i64 (unq s).2.2]) ∧ Keep [] w w' := by
  have H := Lib.hid (quoted_any s 0 w hz (Nat.zero_le _))
  rw [show ((0 : Nat) : Int) = 0 from rfl] at H
  obtain ⟨⟨ok, x, e⟩, hr⟩ : ∃ r, qtd s 0 = r := ⟨_, rfl⟩
  have HQ := Lib.hid hr; clear hr
  rw [HQ.out] at H
  cases ok with
  | false =>
    have HU := Lib.hid (unq_no HQ.out)
    go_enter Tryd.func12, Tryd.ntmps12
    go_wp2_with fail
    refine H.out.mono ?_
    rintro r W1 ⟨rfl, hk⟩
    have HK := Lib.hid hk; clear hk
    go_wp2
    go_ret3
    rw [HU.out]
    exact ⟨rfl, HK.out⟩
  | true =>
    by_cases he : s.size ≤ e
    · have HU := Lib.hid (unq_yes HQ.out he)
      have f1 := dec_lt_f (show ¬ (e : Int) < (s.size : Int) by omega)
      have f2 := dec_ltn_f (show ¬ e < s.size by omega)
      clear he
      go_enter Tryd.func12, Tryd.ntmps12
      go_wp2_with fail
      refine H.out.mono ?_
      rintro r W1 ⟨rfl, hk⟩
      have HK := Lib.hid hk; clear hk
      go_wp2
      go_ret3
      rw [HU.out]
      exact ⟨rfl, HK.out⟩
    · have HU := Lib.hid (unq_long HQ.out he)
      have f1 := dec_lt_t (show (e : Int) < (s.size : Int) by omega)
      have f2 := dec_ltn_t (show e < s.size by omega)
      clear he
      go_enter Tryd.func12, Tryd.ntmps12
      go_wp2_with fail
      refine H.out.mono ?_
      rintro r W1 ⟨rfl, hk⟩
      have HK := Lib.hid hk; clear hk
      go_wp2
      go_ret3
      rw [HU.out]
      exact ⟨rfl, HK.out⟩

set_option maxHeartbeats 8000000 in
set_option maxRecDepth 100000 in
theorem runquote_any (s : ByteArray) (w : World) (hz : s.size ≤ 1000000) : Calls Tryd.prog 13 #[.string s] w fun e w' => e = .returned (.tuple #[.string (unq s).1, .int .i64 (unq s).2.1, .int .i64 (unq s).2.2]) ∧ Keep [] w w' := by
  have H := Lib.hid (rquoted_any s 0 w hz (Nat.zero_le _))
  rw [show ((0 : Nat) : Int) = 0 from rfl] at H
  obtain ⟨⟨ok, x, e⟩, hr⟩ : ∃ r, qtd s 0 = r := ⟨_, rfl⟩
  have HQ := Lib.hid hr; clear hr
  cases ok with
  | false =>
    have hx := qtd_no (Nat.zero_le _) HQ.out
    subst hx
    have HU := Lib.hid (unq_no HQ.out)
    rw [partA_no HQ.out] at H
    go_enter Tryd.func13, Tryd.ntmps13
    go_wp2_with fail
    refine H.out.mono ?_
    rintro r W1 ⟨rfl, hk⟩
    have HK := Lib.hid hk; clear hk
    go_wp2
    go_quiet (fail)
    go_wp2
    go_ret3
    rw [HU.out]
    exact ⟨rfl, keep_dN (HK.out.alloc _) _⟩
  | true =>
    rw [partA_yes HQ.out] at H
    have e0 := dec_lt_f (show ¬ (e : Int) < 0 by omega)
    by_cases he : s.size ≤ e
    · have HU := Lib.hid (unq_yes HQ.out he)
      have f1 := dec_lt_f (show ¬ (e : Int) < (s.size : Int) by omega)
      have f2 := dec_ltn_f (show ¬ e < s.size by omega)
      clear he
      go_enter Tryd.func13, Tryd.ntmps13
      go_wp2_with fail
      refine H.out.mono ?_
      rintro r W1 ⟨rfl, hk⟩
      have HK := Lib.hid hk; clear hk
      go_wp2
      go_ret3
      rw [HU.out]
      exact ⟨rfl, HK.out.alloc _⟩
    · have HU := Lib.hid (unq_long HQ.out he)
      have f1 := dec_lt_t (show (e : Int) < (s.size : Int) by omega)
      have f2 := dec_ltn_t (show e < s.size by omega)
      clear he
      go_enter Tryd.func13, Tryd.ntmps13
      go_wp2_with fail
      refine H.out.mono ?_
      rintro r W1 ⟨rfl, hk⟩
      have HK := Lib.hid hk; clear hk
      go_wp2
      go_quiet (fail)
      go_wp2
      go_ret3
      rw [HU.out]
      exact ⟨rfl, keep_dN (HK.out.alloc _) _⟩
end Go.Proofs.YtbmapellhcdipaaDoor
