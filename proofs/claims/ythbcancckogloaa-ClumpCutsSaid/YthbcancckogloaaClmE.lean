/-
  Walk of edge.
-/
import Derived.Test.YthbcancckogloaaClmC
namespace Go.Proofs.Ythbcancckogloaa
open Go.RowKit Go.Shelf
set_option linter.unusedVariables false
set_option linter.unusedSimpArgs false

/-- Does a piece begin there? -/
def bgn (s : ByteArray) (p : Nat) : Bool := decide (p ∈ cut s 0)
theorem bgn_iff {s : ByteArray} {p : Nat} (hp : p < s.size) : bgn s p = true ↔ ∀ j, p ≤ j + 3 → j < p → j + wid s j ≤ p := by
  unfold bgn
  rw [decide_eq_true_eq, mem_cut, ← at_iff s p (by omega)]
  exact ⟨fun h => h.1, fun h => ⟨h, hp⟩⟩
set_option maxHeartbeats 4000000 in
theorem edge_any (s : ByteArray) (p : Nat) (w : World) (hz : s.size ≤ 1073741824) (h0 : 0 < p) (hp : p < s.size) :
    Calls Try.prog 34 #[.string s, .int .i64 p] w fun e w' => e = .returned (.bool (bgn s p)) ∧ w = w' := by
  obtain ⟨m, hmx, hm3, hmp, hm4⟩ : ∃ m : Nat, (∀ (ts : Array TypeId) (t : TypeId) (W : World), (Builtin.max_ ts t #[.int .i64 0, .int .i64 ((p : Int) - 3)]).run Try.prog W = .ok (.int .i64 (m : Int)) W) ∧ p ≤ m + 3 ∧ m < p ∧ m ≤ p - 3 := by
    refine ⟨p - 3, fun ts t W => ?_, by omega, by omega, by omega⟩
    rw [run_max_int2 (P := Try.prog) W ts t .i64 .i64 0 ((p : Int) - 3)]
    congr 2
    split <;> omega
  go_enter Try.func34, Try.ntmps34
  go_wp2
  clear hmx
  go_loopw [5] (fun i W => ∃ k : Nat, m ≤ k ∧ k ≤ p ∧ i = .int .i64 k ∧ w = W ∧ ∀ j, m ≤ j → j < k → j + wid s j ≤ p) (fun i _ => p - (intOf i).toNat)
  case atStart => exact ⟨m, by omega, by omega, rfl, rfl, fun j h1 h2 => by omega⟩
  case round =>
    obtain ⟨k, hmk, hkp, rfl, rfl, hno⟩ := hrel
    have HN := Lib.hid hno; clear hno
    by_cases hlt : k < p
    · have hltd : decide (k < p) = true := by simpa using hlt
      have hstep : k + wid s k ≤ p → Hid (∀ j, m ≤ j → j < k + 1 → j + wid s j ≤ p) := fun h => Lib.hid fun j h1 h2 => by
        by_cases e : j = k
        · subst e; exact h
        · exact HN.out j h1 (by omega)
      have hdv : decV s k = .tuple #[.int .i32 (dec s k).1, .int .i64 (dec s k).2, .bool (isB s k)] := rfl
      have HDV := Lib.hid hdv
      clear hdv
      have hn4 := (dec_n (s := s) (i := k) (by omega)).2.1
      by_cases hw : wid s k = 0
      · have hib : isB s k = false := by unfold isB; rw [hw]; rfl
        have HS := hstep (by omega)
        rw [hib] at HDV
        clear hstep hw hib
        go_wp2_with fail
        refine (decode_in s k _ (by omega) (by omega)).mono ?_
        rintro e w1 ⟨rfl, rfl⟩
        rw [HDV.out]
        generalize (dec s k).1 = r1 at *
        generalize (dec s k).2 = n1 at *
        go_wp2
        exact ⟨⟨k + 1, by omega, by omega, by go_num, by trivial, HS.out⟩, by simp [intOf]; omega⟩
      · have hib : isB s k = true := by unfold isB; simpa using hw
        rw [hib] at HDV
        have hww := wid_snd hw
        by_cases hov : p < k + wid s k
        · have HR : Hid (bgn s p = false) := Lib.hid (by
            cases hb : bgn s p with
            | false => rfl
            | true => have := (bgn_iff hp).1 hb k (by omega) hlt; omega)
          have hovd : decide ((p : Int) < (k : Int) + ((dec s k).2 : Int)) = true := by simp; omega
          clear hstep hw hww hov hib
          go_wp2_with fail
          refine (decode_in s k _ (by omega) (by omega)).mono ?_
          rintro e w1 ⟨rfl, rfl⟩
          rw [HDV.out]
          generalize (dec s k).1 = r1 at *
          generalize (dec s k).2 = n1 at *
          go_wp2
          go_ret
          exact ⟨by rw [HR.out]; rfl, rfl⟩
        · have HS := hstep (by omega)
          have hovd : decide ((p : Int) < (k : Int) + ((dec s k).2 : Int)) = false := by simp; omega
          clear hstep hw hww hov hib
          go_wp2_with fail
          refine (decode_in s k _ (by omega) (by omega)).mono ?_
          rintro e w1 ⟨rfl, rfl⟩
          rw [HDV.out]
          generalize (dec s k).1 = r1 at *
          generalize (dec s k).2 = n1 at *
          go_wp2
          exact ⟨⟨k + 1, by omega, by omega, by go_num, by trivial, HS.out⟩, by simp [intOf]; omega⟩
    · have hltd : decide (k < p) = false := by simpa using hlt
      have HR : Hid (bgn s p = true) := Lib.hid ((bgn_iff hp).2 fun j h1 h2 => by
        by_cases hjm : m ≤ j
        · exact HN.out j hjm (by omega)
        · omega)
      go_wp2
      go_ret
      exact ⟨by rw [HR.out]; rfl, rfl⟩
end Go.Proofs.Ythbcancckogloaa
