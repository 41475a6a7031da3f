/-
  Changes that come in; walk of heavy.
-/
import Derived.Test.YtddbjclpmkelaaaDifU
import Derived.Test.YtddbjclpmkelaaaOpen
import Derived.Deep.Strs
namespace Go.Proofs.Ytddbjclpmkelaaa
open Go.ChangeShapes Go.WideShapes Go.RowKit
set_option linter.unusedVariables false
set_option linter.unusedSimpArgs false

/-- An Edit that comes in: its numbers are ints, its text is a string. -/
abbrev EdB := { e : EdV // -9223372036854775808 ≤ e.1 ∧ e.1 ≤ 9223372036854775807 ∧ -9223372036854775808 ≤ e.2.1 ∧ e.2.1 ≤ 9223372036854775807 ∧ e.2.2.size ≤ maxLen }
def encB (x : EdB) : List Value := [.int .i64 x.1.1, .int .i64 x.1.2.1, .string x.1.2.2]
theorem cellsEdit : Try.prog.cellsOf 32 = 3 := by kernel_rfl
theorem cellsIntE : Try.prog.cellsOf 3 = 1 := by kernel_rfl
theorem cellsStrE : Try.prog.cellsOf 9 = 1 := by kernel_rfl
theorem ed_reads {H : Type} {enc : TypeId × Value → H} {w : World} (n : Nat) (cs : List Value) (y : DataW H × List MemPlace) (h : DataW.trod enc Try.prog w 0 (fun _ => true) true n 32 cs = some y) : ∃ x : EdB, cs = encB x := by
  obtain ⟨y0, y1, y2, m, _, hl, h0, h1, h2⟩ := Go.Deep.trod_struct3 Try.underlying32 h
  rw [cellsEdit] at hl
  rw [cellsIntE] at h0
  rw [cellsIntE] at h1
  rw [cellsStrE] at h2
  match cs, hl with
  | [a, b, c], _ =>
    obtain ⟨k0, e0, _, b0⟩ := DataW.trod_int Try.underlying3 h0
    obtain ⟨k1, e1, _, b1⟩ := DataW.trod_int Try.underlying3 h1
    obtain ⟨s, e2, _, b2⟩ := DataW.trod_string Try.underlying9 h2
    simp at e0 e1 e2
    simp only [Lit.wf, Bool.and_eq_true, decide_eq_true_eq] at b0 b1
    exact ⟨⟨(k0, k1, s), b0.1, b0.2, b1.1, b1.2, b2⟩, by rw [e0, e1, e2]; rfl⟩
theorem ElemsAt.eds {w : World} {v : Value} {xs : List EdB} (h : ElemsAt w v 3 encB xs) : EdAt w v (xs.map Subtype.val) := by
  obtain ⟨ad, cap, rfl, h1, h2⟩ := h
  refine ⟨ad, cap, by rw [List.length_map], fun hn => ?_⟩
  rw [List.length_map] at hn
  obtain ⟨b, off, rfl, hc⟩ := h1 hn
  refine ⟨b, off, rfl, fun i e he => ?_⟩
  rw [List.getElem?_map] at he
  cases hx : xs[i]? with
  | none => rw [hx] at he; cases he
  | some x =>
    rw [hx] at he
    simp only [Option.map_some, Option.some.injEq] at he
    subst he
    have c0 := hc i x hx 0 _ rfl
    have c1 := hc i x hx 1 _ rfl
    have c2 := hc i x hx 2 _ rfl
    simp only [Nat.add_zero] at c0
    exact ⟨c0, by rw [Nat.add_assoc]; exact c1, by rw [Nat.add_assoc]; exact c2⟩
theorem eds_bound (xs : List EdB) : ∀ e ∈ xs.map Subtype.val, -9223372036854775808 ≤ e.1 ∧ e.1 ≤ 9223372036854775807 ∧ -9223372036854775808 ≤ e.2.1 ∧ e.2.1 ≤ 9223372036854775807 ∧ e.2.2.size ≤ maxLen := by
  intro e he
  obtain ⟨x, _, rfl⟩ := List.mem_map.1 he
  exact x.2

/-- How many bytes the texts have. -/
def sumB (l : List EdV) : Nat := (l.map fun e => e.2.2.size).sum
theorem sumB_take {l : List EdV} {k : Nat} (h : k < l.length) : sumB (l.take (k + 1)) = sumB (l.take k) + l[k].2.2.size := by
  unfold sumB; rw [List.take_succ_eq_append_getElem h, List.map_append, List.sum_append]; simp
/-- A change that is looked at. -/
def Light (l : List EdV) : Prop := l.length ≤ 300 ∧ (∀ e ∈ l, e.2.2.size ≤ 8000) ∧ sumB l ≤ 8000

def HeavyPost (l : List EdV) (w : World) (e : Ending) (w' : World) : Prop := ∃ b, e = .returned (.bool b) ∧ (b = false → Light l) ∧ Keep [] w w'

set_option maxRecDepth 100000 in
set_option maxHeartbeats 8000000 in
theorem heavy_any (va : Value) (l : List EdV) (w : World) (ha : EdAt w va l) (hb : ∀ e ∈ l, e.2.2.size ≤ maxLen) :
    Calls Try.prog 14 #[va] w (HeavyPost l w) := by
  obtain ⟨ada, ca, rfl, h1⟩ := ha
  have H1 := Lib.hid h1; clear h1
  obtain ⟨n, hn⟩ : ∃ n, n = l.length := ⟨_, rfl⟩
  rw [← hn]
  have HNN := Lib.hid hn; have HB := Lib.hid hb; clear hn hb
  by_cases h3 : n ≤ 300
  · have h30 : ¬ ((300 : Int) < (n : Int)) := by omega
    go_enter Try.func14, Try.ntmps14
    go_wp2
    go_loopw [3, 4] (fun s i wr => ∃ (k m : Nat), k ≤ n ∧ i = .int .i64 k ∧ s = .int .i64 m ∧ m ≤ 8000 ∧ m = sumB (l.take k) ∧ (∀ e ∈ l.take k, e.2.2.size ≤ 8000) ∧ Keep [] w wr) (fun _ i _ => n - (intOf i).toNat)
    case atStart => exact ⟨0, 0, by omega, rfl, rfl, by omega, rfl, by simp, Keep.refl _ _⟩
    case round =>
      obtain ⟨k, m, hk, rfl, rfl, hm, hsm, hall, hkp⟩ := hrel
      have HK := Lib.hid hkp; have HSM := Lib.hid hsm; have HAL := Lib.hid hall; clear hkp hsm hall
      by_cases hlt : k < n
      · have hltd : decide (k < n) = true := by simpa using hlt
        have hkl : k < l.length := by rw [← HNN.out]; exact hlt
        obtain ⟨b1, o1, rfl, c1⟩ := H1.out (by rw [← HNN.out]; omega)
        obtain ⟨p1, p2, p3⟩ := c1 k _ (List.getElem?_eq_getElem hkl)
        have d3 := HK.out.cellv p3 (by simp)
        have hx := HB.out _ (List.getElem_mem hkl)
        unfold maxLen at hx
        have hst := sumB_take hkl
        rw [← HSM.out] at hst
        have hmem : l[k].2.2.size ≤ 8000 → ∀ e ∈ l.take (k + 1), e.2.2.size ≤ 8000 := fun h e he => by
          rw [List.take_succ_eq_append_getElem hkl] at he
          rcases List.mem_append.1 he with h' | h'
          · exact HAL.out e h'
          · simp at h'; rw [h']; exact h
        have HST := Lib.hid hst; have HME := Lib.hid hmem; have C1 := Lib.hid c1; clear c1 p1 p2 p3 hst hmem
        generalize l[k] = x at *
        obtain ⟨x1, x2, x3⟩ := x
        simp only at hx d3 HST HME
        have hki : ((k : Int) < (n : Int)) := by omega
        by_cases hs : x3.size ≤ 8000
        · have hs0 : ¬ ((8000 : Int) < (x3.size : Int)) := by omega
          by_cases hs2 : m + x3.size ≤ 8000
          · have hs3 : ¬ ((8000 : Int) < (m : Int) + (x3.size : Int)) := by omega
            go_wp2
            all_goals first
              | (exfalso; omega)
              | exact ⟨⟨k + 1, m + x3.size, by omega, by go_num, by go_num, by omega, HST.out.symm, HME.out hs, HK.out⟩, by simp [intOf]; omega⟩
          · have hs3 : ((8000 : Int) < (m : Int) + (x3.size : Int)) := by omega
            go_wp2
            all_goals first
              | (exfalso; omega)
              | (go_ret; exact ⟨true, rfl, fun h => (by cases h), HK.out⟩)
        · have hs0 : ((8000 : Int) < (x3.size : Int)) := by omega
          go_wp2
          all_goals first
            | (exfalso; omega)
            | (go_ret; exact ⟨true, rfl, fun h => (by cases h), HK.out⟩)
      · have hltd : decide (k < n) = false := by simpa using hlt
        obtain rfl : k = n := by omega
        have hsm := HSM.out
        have hall := HAL.out
        rw [List.take_of_length_le (by rw [← HNN.out]; omega)] at hsm hall
        have HLG : Hid (Light l) := Lib.hid ⟨by rw [← HNN.out]; exact h3, hall, by omega⟩
        clear hsm hall
        go_wp2
        go_ret
        exact ⟨false, rfl, fun _ => HLG.out, HK.out⟩
  · have h30 : ((300 : Int) < (n : Int)) := by omega
    go_enter Try.func14, Try.ntmps14
    go_wp2
    go_ret
    exact ⟨true, rfl, fun h => (by cases h), Keep.refl _ _⟩
end Go.Proofs.Ytddbjclpmkelaaa
