/-
  Clumps: what the law knows.
-/
import Derived.Test.YthbcancckogloaaClmH
namespace Go.Proofs.Ythbcancckogloaa
open Go.RowKit
set_option linter.unusedVariables false
set_option linter.unusedSimpArgs false

def cutF (s : ByteArray) : Nat → Nat → List Nat
  | 0, _ => []
  | n + 1, i => if i < s.size then i :: cutF s n (i + (dec s i).2) else []
theorem cutF_eq (s : ByteArray) : ∀ (n i : Nat), s.size - i ≤ n → cutF s n i = cut s i := by
  intro n
  induction n with
  | zero => intro i h; rw [cut_end (by omega)]; rfl
  | succ n ih =>
    intro i h
    unfold cutF
    by_cases hi : i < s.size
    · have := dec_n hi
      rw [if_pos hi, cut_step hi, ih _ (by omega)]
    · rw [if_neg hi, cut_end hi]
def ks : ByteArray := ⟨#[101, 204, 129, 120]⟩
theorem ks_size : ks.size = 4 := rfl
theorem ks_cut : cut ks 0 = [0, 1, 3] := by rw [← cutF_eq ks 5 0 (by decide)]; kernel_rfl
theorem ks_get (k : Nat) (hk : k < 3) : At ks (([0, 1, 3] : List Nat).take k) (([0, 1, 3] : List Nat)[k]) := by
  have := (at_get ks k (by rw [ks_cut]; exact hk)).1
  simpa only [ks_cut] using this
theorem ks_brk : brk ks = [0, 3, 4] := by
  have h1 : isb ks 1 = false := by rw [isb_at (show At ks [0] 1 from ks_get 1 (by decide))]; kernel_rfl
  have h3 : isb ks 3 = true := by rw [isb_at (show At ks [0, 1] 3 from ks_get 2 (by decide))]; kernel_rfl
  unfold brk
  rw [if_neg (by decide), ks_cut, List.filter_cons, if_pos (isb_zero ks), List.filter_cons, if_neg (by rw [h1]; decide), List.filter_cons, if_pos h3]
  rfl
theorem ks_clumps : (clumps ks).length = 2 := by unfold clumps; rw [ks_brk]; rfl
theorem ks_b3 : isBrk ks 3 = true := by unfold isBrk; rw [ks_brk]; decide
theorem ks_b1 : isBrk ks 1 = false := by unfold isBrk; rw [ks_brk]; decide
theorem ks_n0 : nxtB ks 0 = 3 := by unfold nxtB; rw [ks_brk]; decide
theorem ks_p4 : prvB ks 4 = 3 := by unfold prvB; rw [ks_brk]; decide

theorem kn1 (w : World) : Calls Try.prog 11 #[.int .i32 97] w fun e w' => e = .returned (.int .i64 0) ∧ Keep [] w w' :=
  (class_any 97 w (by decide) (by decide)).mono fun _ _ h => by rw [show cls 97 = 0 by decide +kernel] at h; exact h
theorem kn2 (w : World) : Calls Try.prog 11 #[.int .i32 13] w fun e w' => e = .returned (.int .i64 1) ∧ Keep [] w w' :=
  (class_any 13 w (by decide) (by decide)).mono fun _ _ h => by rw [show cls 13 = 1 by decide +kernel] at h; exact h
theorem kn3 (w : World) : Calls Try.prog 11 #[.int .i32 769] w fun e w' => e = .returned (.int .i64 5) ∧ Keep [] w w' :=
  (class_any 769 w (by decide) (by decide)).mono fun _ _ h => by rw [show cls 769 = 5 by decide +kernel] at h; exact h
theorem kn4 (w : World) : Calls Try.prog 17 #[.string ⟨#[101, 204, 129, 120]⟩] w fun e w' => e = .returned (.int .i64 2) ∧ Keep [] w w' :=
  (ccount_any ks w (by decide)).mono fun _ _ h => by rw [ks_clumps] at h; exact h
theorem kn5 (w : World) : Calls Try.prog 15 #[.string ⟨#[101, 204, 129, 120]⟩, .int .i64 3] w fun e w' => e = .returned (.bool true) ∧ Keep [] w w' :=
  (break_any ks 3 w (by decide) (by decide)).mono fun _ _ h => by rw [ks_b3] at h; exact h
theorem kn6 (w : World) : Calls Try.prog 15 #[.string ⟨#[101, 204, 129, 120]⟩, .int .i64 1] w fun e w' => e = .returned (.bool false) ∧ Keep [] w w' :=
  (break_any ks 1 w (by decide) (by decide)).mono fun _ _ h => by rw [ks_b1] at h; exact h
theorem kn7 (w : World) : Calls Try.prog 24 #[.string ⟨#[101, 204, 129, 120]⟩, .int .i64 0] w fun e w' => e = .returned (.int .i64 3) ∧ Keep [] w w' :=
  (next_any ks 0 w (by decide) (by decide) (by decide)).mono fun _ _ h => by rw [ks_n0] at h; exact h
theorem kn8 (w : World) : Calls Try.prog 26 #[.string ⟨#[101, 204, 129, 120]⟩, .int .i64 4] w fun e w' => e = .returned (.int .i64 3) ∧ Keep [] w w' :=
  (prev_any ks 4 w (by decide) (by decide) (by decide)).mono fun _ _ h => by rw [ks_p4] at h; exact h

set_option maxRecDepth 100000 in
set_option maxHeartbeats 4000000 in
theorem known_true (w : World) : Calls Try.prog 10 #[] w fun e w' => e = .returned (.bool true) ∧ Keep [] w w' := by
  go_enter Try.func10, Try.ntmps10
  go_wp2_with fail
  (with_reducible refine (kn1 _).mono ?_)
  rintro e w1 ⟨rfl, hk⟩
  have K1 := Lib.hid hk; clear hk
  go_wp2_with fail
  (with_reducible refine (kn2 _).mono ?_)
  rintro e w2 ⟨rfl, hk⟩
  have K2 := Lib.hid (K1.out.trans0 hk); clear hk
  go_wp2_with fail
  (with_reducible refine (kn3 _).mono ?_)
  rintro e w3 ⟨rfl, hk⟩
  have K3 := Lib.hid (K2.out.trans0 hk); clear hk
  go_wp2_with fail
  (with_reducible refine (kn4 _).mono ?_)
  rintro e w4 ⟨rfl, hk⟩
  have K4 := Lib.hid (K3.out.trans0 hk); clear hk
  go_wp2_with fail
  (with_reducible refine (kn5 _).mono ?_)
  rintro e w5 ⟨rfl, hk⟩
  have K5 := Lib.hid (K4.out.trans0 hk); clear hk
  go_wp2_with fail
  (with_reducible refine (kn6 _).mono ?_)
  rintro e w6 ⟨rfl, hk⟩
  have K6 := Lib.hid (K5.out.trans0 hk); clear hk
  go_wp2_with fail
  (with_reducible refine (kn7 _).mono ?_)
  rintro e w7 ⟨rfl, hk⟩
  have K7 := Lib.hid (K6.out.trans0 hk); clear hk
  go_wp2_with fail
  (with_reducible refine (kn8 _).mono ?_)
  rintro e w8 ⟨rfl, hk⟩
  have K8 := Lib.hid (K7.out.trans0 hk); clear hk
  go_wp2
  go_ret
  exact ⟨rfl, K8.out⟩
end Go.Proofs.Ythbcancckogloaa
