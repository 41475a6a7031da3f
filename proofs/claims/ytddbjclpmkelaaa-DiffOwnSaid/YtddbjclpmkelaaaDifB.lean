/-
  Lists of Edits; walk of the law's edits.
-/
import Derived.Test.YtddbjclpmkelaaaSl
import Derived.Test.YtddbjclpmkelaaaKeep
import Derived.Test.YtddbjclpmkelaaaChecked
import Derived.WalkKit
import Derived.Shelf.Abstract
import Derived.WalkSpells
import Derived.OwnWalkIn
namespace Go.Proofs.Ytddbjclpmkelaaa
open Go.RowKit
set_option linter.unusedVariables false
set_option linter.unusedSimpArgs false

/-- An Edit: kept, dropped, laid. -/
abbrev EdV := Int × Int × ByteArray
/-- A slice of Edits that is read. -/
def EdAt (W : World) (v : Value) (l : List EdV) : Prop :=
  ∃ ad cap, v = .slice ad l.length cap ∧ (l.length ≠ 0 → ∃ b off, ad = some ⟨b, off, none⟩ ∧ ∀ (i : Nat) (e : EdV), l[i]? = some e →
    W.cell? ⟨b, off + i * 3, none⟩ = some (.int .i64 e.1) ∧ W.cell? ⟨b, off + i * 3 + 1, none⟩ = some (.int .i64 e.2.1) ∧ W.cell? ⟨b, off + i * 3 + 2, none⟩ = some (.string e.2.2))
theorem EdAt.keep0 {W W' : World} {v : Value} {l : List EdV} (h : EdAt W v l) (k : Keep [] W W') : EdAt W' v l := by
  obtain ⟨ad, cap, rfl, h⟩ := h
  refine ⟨ad, cap, rfl, fun hn => ?_⟩
  obtain ⟨b, off, rfl, hc⟩ := h hn
  exact ⟨b, off, rfl, fun i e he => ⟨k.cellv (hc i e he).1 (by simp), k.cellv (hc i e he).2.1 (by simp), k.cellv (hc i e he).2.2 (by simp)⟩⟩

set_option maxHeartbeats 4000000 in
theorem edits_true (va vb : Value) (l : List EdV) (w : World) (ha : EdAt w va l) (hb : EdAt w vb l) (hl : l.length ≤ 4611686018427387904) :
    Calls Try.prog 13 #[va, vb] w fun e w' => e = .returned (.bool true) ∧ Keep [] w w' := by
  obtain ⟨ada, ca, rfl, h1⟩ := ha
  obtain ⟨adb, cb, rfl, h2⟩ := hb
  have H1 := Lib.hid h1; have H2 := Lib.hid h2; clear h1 h2
  obtain ⟨n, hn⟩ : ∃ n, n = l.length := ⟨_, rfl⟩
  rw [← hn] at hl ⊢
  have HNN := Lib.hid hn; clear hn
  have hne : ((n : Int) != (n : Int)) = false := by simp
  go_enter Try.func13, Try.ntmps13
  go_wp2
  go_loopw [5] (fun i wr => ∃ k : Nat, k ≤ n ∧ i = .int .i64 k ∧ Keep [] w wr) (fun i _ => n - (intOf i).toNat)
  case atStart => exact ⟨0, Nat.zero_le _, rfl, Keep.refl _ _⟩
  case round =>
    obtain ⟨k, hk, rfl, hkp⟩ := hrel
    have HK := Lib.hid hkp; clear hkp
    by_cases hlt : k < n
    · have hltd : decide (k < n) = true := by simpa using hlt
      have hkl : k < l.length := by rw [← HNN.out]; exact hlt
      obtain ⟨b1, o1, rfl, c1⟩ := H1.out (by rw [← HNN.out]; omega)
      obtain ⟨b2, o2, rfl, c2⟩ := H2.out (by rw [← HNN.out]; omega)
      obtain ⟨p1, p2, p3⟩ := c1 k _ (List.getElem?_eq_getElem hkl)
      obtain ⟨q1, q2, q3⟩ := c2 k _ (List.getElem?_eq_getElem hkl)
      have d1 := HK.out.cellv p1 (by simp)
      have d2 := HK.out.cellv p2 (by simp)
      have d3 := HK.out.cellv p3 (by simp)
      have e1 := HK.out.cellv q1 (by simp)
      have e2 := HK.out.cellv q2 (by simp)
      have e3 := HK.out.cellv q3 (by simp)
      have C1 := Lib.hid c1; have C2 := Lib.hid c2; clear c1 c2 p1 p2 p3 q1 q2 q3
      generalize l[k] = x at *
      obtain ⟨x1, x2, x3⟩ := x
      have hki : ((k : Int) < (n : Int)) := by omega
      go_wp2_with fail
      go_quiet (fail)
      go_wp2
      go_roundw
      case rel => exact ⟨k + 1, by omega, by go_num, HK.out.drewN _⟩
      case measure => simp [intOf]; omega
    · have hltd : decide (k < n) = false := by simpa using hlt
      obtain rfl : k = n := by omega
      go_wp2
      go_ret
      exact ⟨rfl, HK.out⟩
end Go.Proofs.Ytddbjclpmkelaaa
