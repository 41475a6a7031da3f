/-
  RollTwo, walked.
-/
import Derived.Test.YtfhgeanacecpjaaDoorLawP
namespace Go.Proofs.YtfhgeanacecpjaaDoor
open Go.RowKit Go.Shelf
set_option linter.unusedVariables false

/-- Two pairs of Rolls of a state each. -/
structure Two (w : World) (a x b y : Nat) (s t : St) : Prop where
  one : BothS w a x s
  two : BothS w b y t
theorem Two.keep {w w' : World} {a x b y : Nat} {s t : St} {L : List Nat} (h : Two w a x b y s t) (k : Keep L w w') (ha : a ∉ L) (hx : x ∉ L) (hb : b ∉ L) (hy : y ∉ L) : Two w' a x b y s t := ⟨h.one.keep k ha hx, h.two.keep k hb hy⟩

theorem take_more {α : Type} (l : List α) (k : Nat) (h : ¬ k < l.length) : l.take (k + 1) = l.take k := by
  rw [List.take_of_length_le (by omega), List.take_of_length_le (by omega)]

/-- All four lie apart and are new. -/
def Apart4 (n a x b y : Nat) : Prop := n ≤ a ∧ n ≤ x ∧ n ≤ b ∧ n ≤ y ∧ a ≠ x ∧ a ≠ b ∧ a ≠ y ∧ x ≠ b ∧ x ≠ y ∧ b ≠ y

set_option maxHeartbeats 4000000 in
theorem rollTwo_walk (va : Value) (xs : List (Bool × Int)) (vb : Value) (ys : List (Bool × Int)) (w : World) (ha : StepsAt w va xs) (hb : StepsAt w vb ys) (hT : TabW w) :
    Calls Tryd.prog 7 #[va, vb] w fun e W' => e = .returned (.bool true) ∧ Keep [] w W' := by
  have HT := Lib.hid hT; clear hT
  obtain ⟨ada, ca, rfl, h1⟩ := ha
  obtain ⟨adb, cb, rfl, h2⟩ := hb
  have H1 := Lib.hid h1; have H2 := Lib.hid h2; clear h1 h2
  by_cases hx : xs.length ≤ 300
  · have hx' : decide ((300 : Int) < (xs.length : Int)) = false := by simp; omega
    by_cases hy : ys.length ≤ 300
    · have hy' : ¬ ((300 : Int) < (ys.length : Int)) := by omega
      go_enter Tryd.func7, Tryd.ntmps7
      go_wp2_with fail
      refine (new_any w).mono ?_
      rintro r w1 ⟨rfl, hw1⟩
      have hr1 : RollS w1 w.heap.size (0, 0, 0) := by rw [hw1]; exact ⟨by decide, by decide, heap_alloc_new w _⟩
      have hk1 : Keep [] w w1 := by rw [hw1]; exact (Keep.refl _ _).alloc _
      clear hw1
      have R1 := Lib.hid hr1; have K1 := Lib.hid hk1; clear hr1 hk1
      go_wp2_with fail
      have hr2 : RollS (w1.alloc (.cells #[.int .u32 0, .int .u32 0, .int .i64 0] 51)) w1.heap.size (0, 0, 0) := ⟨by decide, by decide, heap_alloc_new w1 _⟩
      have hk2 : Keep [] w1 (w1.alloc (.cells #[.int .u32 0, .int .u32 0, .int .i64 0] 51)) := (Keep.refl _ _).alloc _
      have hs2 : (w1.alloc (.cells #[.int .u32 0, .int .u32 0, .int .i64 0] 51)).heap.size = w1.heap.size + 1 := by simp
      generalize w1.alloc (.cells #[.int .u32 0, .int .u32 0, .int .i64 0] 51) = w2 at hr2 hk2 hs2 ⊢
      have S2 := Lib.hid hs2; clear hs2
      refine (rnew_any w2).mono ?_
      rintro r w3 ⟨rfl, hr3, hk3⟩
      have S3 := Lib.hid hr3.lt
      go_wp2_with fail
      refine (rnew_any w3).mono ?_
      rintro r w4 ⟨rfl, hr4, hk4⟩
      have hap : Apart4 w.heap.size w.heap.size w2.heap.size w1.heap.size w3.heap.size := by
        have q1 := R1.out.lt; have q2 := S2.out; have q3 := S3.out; have q4 := K1.out.size
        unfold Apart4; omega
      have hTw : Two w4 w.heap.size w2.heap.size w1.heap.size w3.heap.size (0, 0, 0) (0, 0, 0) :=
        ⟨⟨R1.out.keep (hk2.trans0 (hk3.trans0 hk4)) (by simp), hr3.keep hk4 (by simp), hap.2.2.2.2.1, by decide, by decide⟩, ⟨hr2.keep (hk3.trans0 hk4) (by simp), hr4, hap.2.2.2.2.2.2.2.2.2, by decide, by decide⟩⟩
      have K4 := Lib.hid (K1.out.trans0 (hk2.trans0 (hk3.trans0 hk4)))
      obtain ⟨a, hae⟩ : ∃ a, a = w.heap.size := ⟨_, rfl⟩
      obtain ⟨b, hbe⟩ : ∃ b, b = w1.heap.size := ⟨_, rfl⟩
      obtain ⟨x, hxe⟩ : ∃ x, x = w2.heap.size := ⟨_, rfl⟩
      obtain ⟨y, hye⟩ : ∃ y, y = w3.heap.size := ⟨_, rfl⟩
      have hap' : Apart4 w.heap.size a x b y := by rw [hae, hxe, hbe, hye]; exact hap
      rw [← hae, ← hbe, ← hxe, ← hye] at hTw
      rw [← hae, ← hbe, ← hxe, ← hye]
      have AP := Lib.hid hap'
      clear hk2 hk3 hk4 hr2 hr3 hr4 hap hap' hae hbe hxe hye R1 K1 S2 S3
      go_wp2
      go_loopw [9] (fun i wr => ∃ k : Nat, k ≤ 300 ∧ (k ≤ xs.length ∨ k ≤ ys.length) ∧ i = .int .i64 k ∧ Two wr a x b y (runS (0, 0, 0) (xs.take k)) (runS (0, 0, 0) (ys.take k)) ∧ Keep [] w wr) (fun i _ => 300 - (intOf i).toNat)
      case atStart => exact ⟨0, by omega, .inl (by omega), rfl, hTw, K4.out⟩
      case round =>
        clear hTw K4
        obtain ⟨k, hk, hor, rfl, hB, hK⟩ := hrel
        have HB := Lib.hid hB; have HK := Lib.hid hK; clear hB hK
        have HI := Lib.hid (Inv.new.run (xs.take k))
        have HJ := Lib.hid (Inv.new.run (ys.take k))
        by_cases hlx : k < xs.length
        · obtain ⟨bs, off, rfl, hcs⟩ := H1.out (by omega)
          obtain ⟨c1, c2⟩ := ElemsAt.cells2 hcs HK.out k hlx
          have HTK := Lib.hid (List.take_succ_eq_append_getElem hlx); have HCS := Lib.hid hcs; clear hcs
          have hst := step_s a x _ xs[k] wr HB.out.one HI.out
          generalize xs[k] = p at *
          have HST := Lib.hid hst; clear hst
          go_wp2_with fail
          refine HST.out.mono ?_
          rintro r w5 ⟨rfl, hB5, hk5⟩
          have HB5 := Lib.hid (show Two w5 a x b y (stepS (runS (0, 0, 0) (xs.take k)) p) (runS (0, 0, 0) (ys.take k)) from ⟨hB5, HB.out.two.keep hk5 (by have := AP.out; unfold Apart4 at this; simp; omega) (by have := AP.out; unfold Apart4 at this; simp; omega)⟩)
          have HK5 := Lib.hid (HK.out.trans hk5 (by have := AP.out; unfold Apart4 at this; simp; omega)); clear hB5 hk5
          by_cases hly : k < ys.length
          · obtain ⟨bs2, off2, rfl, hcs2⟩ := H2.out (by omega)
            obtain ⟨c3, c4⟩ := ElemsAt.cells2 hcs2 HK5.out k hly
            have HTK2 := Lib.hid (List.take_succ_eq_append_getElem hly); have HCS2 := Lib.hid hcs2; clear hcs2
            have hst := step_s b y _ ys[k] w5 HB5.out.two HJ.out
            generalize ys[k] = q at *
            have HST2 := Lib.hid hst; clear hst
            go_wp2_with fail
            refine HST2.out.mono ?_
            rintro r w6 ⟨rfl, hB6, hk6⟩
            have HB6 := Lib.hid (show Two w6 a x b y (stepS (runS (0, 0, 0) (xs.take k)) p) (stepS (runS (0, 0, 0) (ys.take k)) q) from ⟨HB5.out.one.keep hk6 (by have := AP.out; unfold Apart4 at this; simp; omega) (by have := AP.out; unfold Apart4 at this; simp; omega), hB6⟩)
            have HK6 := Lib.hid (HK5.out.trans hk6 (by have := AP.out; unfold Apart4 at this; simp; omega)); clear hB6 hk6
            go_wp2
            go_roundw
            case rel => exact ⟨k + 1, by omega, .inl (by omega), by go_num, by rw [HTK.out, runS_snoc, HTK2.out, runS_snoc]; exact HB6.out, HK6.out⟩
            case measure => simp [intOf]; omega
          · have HTK2 := Lib.hid (take_more ys k hly)
            go_wp2
            go_roundw
            case rel => exact ⟨k + 1, by omega, .inl (by omega), by go_num, by rw [HTK.out, runS_snoc, HTK2.out]; exact HB5.out, HK5.out⟩
            case measure => simp [intOf]; omega
        · have HTK := Lib.hid (take_more xs k hlx)
          have hlx' : decide ((k : Int) < (xs.length : Int)) = false := by simp; omega
          by_cases hly : k < ys.length
          · obtain ⟨bs2, off2, rfl, hcs2⟩ := H2.out (by omega)
            obtain ⟨c3, c4⟩ := ElemsAt.cells2 hcs2 HK.out k hly
            have HTK2 := Lib.hid (List.take_succ_eq_append_getElem hly); have HCS2 := Lib.hid hcs2; clear hcs2
            have hst := step_s b y _ ys[k] wr HB.out.two HJ.out
            generalize ys[k] = q at *
            have HST2 := Lib.hid hst; clear hst
            go_wp2_with fail
            refine HST2.out.mono ?_
            rintro r w6 ⟨rfl, hB6, hk6⟩
            have HB6 := Lib.hid (show Two w6 a x b y (runS (0, 0, 0) (xs.take k)) (stepS (runS (0, 0, 0) (ys.take k)) q) from ⟨HB.out.one.keep hk6 (by have := AP.out; unfold Apart4 at this; simp; omega) (by have := AP.out; unfold Apart4 at this; simp; omega), hB6⟩)
            have HK6 := Lib.hid (HK.out.trans hk6 (by have := AP.out; unfold Apart4 at this; simp; omega)); clear hB6 hk6
            go_wp2
            go_roundw
            case rel => exact ⟨k + 1, by omega, .inr (by omega), by go_num, by rw [HTK.out, HTK2.out, runS_snoc]; exact HB6.out, HK6.out⟩
            case measure => simp [intOf]; omega
          · have hly' : decide ((k : Int) < (ys.length : Int)) = false := by simp; omega
            generalize runS (0, 0, 0) (xs.take k) = s at *
            generalize runS (0, 0, 0) (ys.take k) = t at *
            go_wp2_with fail
            refine (alike_any a x _ _ _ wr HB.out.one (HT.out.keep HK.out (by simp))).mono ?_
            rintro r w7 ⟨rfl, hk7⟩
            have HB7 := Lib.hid (HB.out.keep hk7 (by simp) (by simp) (by simp) (by simp)); have HK7 := Lib.hid (HK.out.trans0 hk7); clear hk7
            go_wp2_with fail
            refine (alike_any b y _ _ _ w7 HB7.out.two (HT.out.keep HK7.out (by simp))).mono ?_
            rintro r w8 ⟨rfl, hk8⟩
            have HK8 := Lib.hid (HK7.out.trans0 hk8); clear hk8
            go_wp2_with fail
            refine (known_true w8 (HT.out.keep HK8.out (by simp))).mono ?_
            rintro r w9 ⟨rfl, hk9⟩
            go_wp2
            go_ret
            exact ⟨rfl, HK8.out.trans0 hk9⟩
    · have hy' : ((300 : Int) < (ys.length : Int)) := by omega
      go_enter Tryd.func7, Tryd.ntmps7
      go_wp2_with fail
      refine (known_true w HT.out).mono ?_
      rintro r w3 ⟨rfl, hk⟩
      go_wp2
      go_ret
      exact ⟨rfl, hk⟩
  · have hx' : ((300 : Int) < (xs.length : Int)) := by omega
    go_enter Tryd.func7, Tryd.ntmps7
    go_wp2_with fail
    refine (known_true w HT.out).mono ?_
    rintro r w3 ⟨rfl, hk⟩
    go_wp2
    go_ret
    exact ⟨rfl, hk⟩
end Go.Proofs.YtfhgeanacecpjaaDoor
