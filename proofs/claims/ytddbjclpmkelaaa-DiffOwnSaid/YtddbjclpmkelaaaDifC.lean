/-
  Weight: the plain sum, and the reference's walk.
-/
import Derived.Test.YtddbjclpmkelaaaDifB
import Derived.Test.YtddbjclpmkelaaaGlyY
namespace Go.Proofs.Ytddbjclpmkelaaa
open Go.RowKit
set_option linter.unusedVariables false
set_option linter.unusedSimpArgs false

/-- What Weight adds up: no more than the greatest int. -/
def wsat : Int → List EdV → Int
  | n, [] => n
  | n, e :: l => wsat (min 9223372036854775807 (n + max e.2.1 0 + ((cut e.2.2 0).length : Int))) l
theorem wsat_max (l : List EdV) : wsat 9223372036854775807 l = 9223372036854775807 := by
  induction l with
  | nil => rfl
  | cons e l ih =>
    rw [wsat, show min (9223372036854775807 : Int) (9223372036854775807 + max e.2.1 0 + ((cut e.2.2 0).length : Int)) = 9223372036854775807 by omega, ih]
theorem wsat_step {l : List EdV} {k : Nat} (h : k < l.length) (n : Int) : wsat n (l.drop k) = wsat (min 9223372036854775807 (n + max l[k].2.1 0 + ((cut l[k].2.2 0).length : Int))) (l.drop (k + 1)) := by
  rw [List.drop_eq_getElem_cons h, wsat]

set_option maxHeartbeats 4000000 in
theorem rweight_any (va : Value) (l : List EdV) (w : World) (ha : EdAt w va l) (hl : l.length ≤ 4611686018427387904) (hb : ∀ e ∈ l, -9223372036854775808 ≤ e.2.1 ∧ e.2.1 ≤ 9223372036854775807 ∧ e.2.2.size ≤ 1073741824) :
    Calls Try.prog 20 #[va] w fun e w' => e = .returned (.int .i64 (wsat 0 l)) ∧ Keep [] w w' := by
  obtain ⟨ada, ca, rfl, h1⟩ := ha
  have H1 := Lib.hid h1; clear h1
  obtain ⟨n, hn⟩ : ∃ n, n = l.length := ⟨_, rfl⟩
  rw [← hn] at hl ⊢
  have HNN := Lib.hid hn; clear hn
  have HB := Lib.hid hb; clear hb
  go_enter Try.func20, Try.ntmps20
  go_wp2
  go_loopw [3, 4] (fun s i wr => ∃ (k : Nat) (m : Int), k ≤ n ∧ i = .int .i64 k ∧ s = .int .i64 m ∧ 0 ≤ m ∧ m ≤ 9223372036854775807 ∧ wsat m (l.drop k) = wsat 0 l ∧ Keep [] w wr) (fun _ i _ => n - (intOf i).toNat)
  case atStart => exact ⟨0, 0, Nat.zero_le _, rfl, rfl, by omega, by omega, by simp, Keep.refl _ _⟩
  case round =>
    obtain ⟨k, m, hk, rfl, rfl, hm0, hm1, hws, hkp⟩ := hrel
    have HK := Lib.hid hkp; clear hkp
    by_cases hlt : k < n
    · have hltd : decide (k < n) = true := by simpa using hlt
      have hkl : k < l.length := by rw [← HNN.out]; exact hlt
      obtain ⟨b1, o1, rfl, c1⟩ := H1.out (by rw [← HNN.out]; omega)
      obtain ⟨p1, p2, p3⟩ := c1 k _ (List.getElem?_eq_getElem hkl)
      have d2 := HK.out.cellv p2 (by simp)
      have d3 := HK.out.cellv p3 (by simp)
      obtain ⟨hx0, hx1, hx2⟩ := HB.out _ (List.getElem_mem hkl)
      rw [wsat_step hkl] at hws
      have HWS := Lib.hid hws
      have C1 := Lib.hid c1; clear c1 p1 p2 p3 hws
      generalize l[k] = x at *
      obtain ⟨x1, x2, x3⟩ := x
      have hcl := cut_len_le x3 0 (Nat.zero_le _)
      have hki : ((k : Int) < (n : Int)) := by omega
      simp only at HWS hx0 hx1 hx2 d2 d3
      have HC := Lib.hid (fun W => rcount_any x3 W (by omega))
      generalize (cut x3 0).length = c at *
      go_wp2_with fail
      refine (HC.out _).mono ?_
      rintro q w1 ⟨rfl, hk1⟩
      have d2' := hk1.cellv d2 (by simp)
      have HK1 := Lib.hid (HK.out.trans0 hk1); clear hk1
      have hmx : max x2 0 = if x2 < 0 then 0 else x2 := by split <;> omega
      by_cases hx : x2 < 0
      · by_cases hov : (c : Int) ≤ 9223372036854775807 - m
        · have hw : min (9223372036854775807 : Int) (m + max x2 0 + (c : Int)) = m + c := by omega
          rw [hw] at HWS
          clear hw hmx
          go_wp2
          all_goals first
            | (exfalso; omega)
            | exact ⟨⟨k + 1, m + c, by omega, by go_num, rfl, by omega, by omega, HWS.out, HK1.out⟩, by simp [intOf]; omega⟩
        · have hw : min (9223372036854775807 : Int) (m + max x2 0 + (c : Int)) = 9223372036854775807 := by omega
          rw [hw, wsat_max] at HWS
          clear hw hmx
          go_wp2
          all_goals first
            | (exfalso; omega)
            | (go_ret; exact ⟨by rw [← HWS.out]; rfl, HK1.out⟩)
      · by_cases hov : x2 + (c : Int) ≤ 9223372036854775807 - m
        · have hw : min (9223372036854775807 : Int) (m + max x2 0 + (c : Int)) = m + x2 + c := by omega
          rw [hw] at HWS
          clear hw hmx
          go_wp2
          all_goals first
            | (exfalso; omega)
            | exact ⟨⟨k + 1, m + x2 + c, by omega, by go_num, rfl, by omega, by omega, HWS.out, HK1.out⟩, by simp [intOf]; omega⟩
        · have hw : min (9223372036854775807 : Int) (m + max x2 0 + (c : Int)) = 9223372036854775807 := by omega
          rw [hw, wsat_max] at HWS
          clear hw hmx
          go_wp2
          all_goals first
            | (exfalso; omega)
            | (go_ret; exact ⟨by rw [← HWS.out]; rfl, HK1.out⟩)
    · have hltd : decide (k < n) = false := by simpa using hlt
      obtain rfl : k = n := by omega
      have he : wsat m (l.drop k) = m := by rw [HNN.out, List.drop_length]; rfl
      rw [he] at hws
      have HWS := Lib.hid hws; clear hws he
      go_wp2
      go_ret
      exact ⟨by rw [← HWS.out]; rfl, HK.out⟩
end Go.Proofs.Ytddbjclpmkelaaa
