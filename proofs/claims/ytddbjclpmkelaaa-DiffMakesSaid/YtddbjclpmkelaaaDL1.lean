/-
  DiffMakes, walked.
-/
import Derived.Test.YtddbjclpmkelaaaDifU
namespace Go.Proofs.Ytddbjclpmkelaaa
open Go.RowKit
set_option linter.unusedVariables false
set_option linter.unusedSimpArgs false

theorem mkD_len (a b : ByteArray) : ((mkOut a b).2.map edv).length ≤ 4611686018427387904 := by
  have h1 := mkD_wgt (runs a 0) (runs b 0)
  have h2 := (form_mk (runs a 0) (runs b 0) ⟨0, 0, []⟩).1
  have key : ∀ l : List Ed, (∀ d ∈ l, d.full) → l.length ≤ wgt l := by
    intro l
    induction l with
    | nil => intro _; simp
    | cons e l ih =>
      intro h
      have he := h e (by simp)
      have := ih (fun d hd => h d (by simp [hd]))
      have : 1 ≤ e.drop + e.text.length := by
        rcases he with h | h
        · omega
        · cases ht : e.text with
          | nil => exact absurd ht h
          | cons => simp; omega
      simp [wgt]; omega
  rw [List.length_map]
  unfold mkOut
  split
  · split
    · rename_i _ h3
      have h4 := key (mkD (runs a 0) (runs b 0)) h2
      have h5 := lft_lcs (runs a 0) (runs b 0)
      show (mkD (runs a 0) (runs b 0)).length ≤ _
      omega
    · simp
  · simp

set_option maxRecDepth 100000 in
set_option maxHeartbeats 4000000 in
theorem diffMakes_walk (a b : ByteArray) (w : World) (hsa : a.size ≤ maxLen) (hsb : b.size ≤ maxLen) :
    Calls Try.prog 3 #[.string a, .string b] w fun e w' => e = .returned (.bool true) ∧ Keep [] w w' := by
  unfold maxLen at hsa hsb
  by_cases hza : a.size ≤ 8000
  · have hzd : ¬ ((8000 : Int) < (a.size : Int)) := by omega
    by_cases hzb : b.size ≤ 8000
    · have hzl : ¬ ((8000 : Int) < (b.size : Int)) := by omega
      have HM := Lib.hid (fun W => (make_any a b W (by omega) (by omega)).mono (fun _ _ h => h.r)); have HR := Lib.hid (fun W => (rmake_any a b W (by omega) (by omega)).mono (fun _ _ h => h.r))
      have HL := Lib.hid (mkD_len a b)
      generalize (mkOut a b).1 = c at *
      generalize (mkOut a b).2.map edv = l at *
      go_enter Try.func3, Try.ntmps3
      go_wp2_with fail
      refine (HM.out _).mono ?_
      rintro r w1 ⟨ad1, c1, rfl, e1, k1⟩
      have K1 := Lib.hid k1; have E1 := Lib.hid e1; clear k1 e1
      go_wp2_with fail
      refine (HR.out _).mono ?_
      rintro r w2 ⟨ad2, c2, rfl, e2, k2⟩
      have K2 := Lib.hid (K1.out.trans0 k2); have E2 := Lib.hid e2; have F2 := Lib.hid (E1.out.keep0 k2); clear k2 e2
      go_wp2_with fail
      refine (edits_true _ _ _ _ F2.out E2.out HL.out).mono ?_
      rintro r w3 ⟨rfl, k3⟩
      have K3 := Lib.hid (K2.out.trans0 k3); clear k3
      go_wp2_with fail
      refine (known_true _).mono ?_
      rintro r w4 ⟨rfl, k4⟩
      have K4 := Lib.hid (K3.out.trans0 k4); clear k4
      go_wp2_with fail
      go_ret
      exact ⟨rfl, K4.out⟩
    · have hzl : ((8000 : Int) < (b.size : Int)) := by omega
      go_enter Try.func3, Try.ntmps3
      go_wp2_with fail
      refine (known_true _).mono ?_
      rintro r w4 ⟨rfl, k4⟩
      have K4 := Lib.hid k4; clear k4
      go_wp2_with fail
      go_ret
      exact ⟨rfl, K4.out⟩
  · have hzd : ((8000 : Int) < (a.size : Int)) := by omega
    go_enter Try.func3, Try.ntmps3
    go_wp2_with fail
    refine (known_true _).mono ?_
    rintro r w4 ⟨rfl, k4⟩
    have K4 := Lib.hid k4; clear k4
    go_wp2_with fail
    go_ret
    exact ⟨rfl, K4.out⟩
end Go.Proofs.Ytddbjclpmkelaaa
