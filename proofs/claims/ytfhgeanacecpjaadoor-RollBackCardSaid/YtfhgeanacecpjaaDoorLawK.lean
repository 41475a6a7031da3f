/-
  RollBack, walked.
-/
import Derived.Test.YtfhgeanacecpjaaDoorLawP
namespace Go.Proofs.YtfhgeanacecpjaaDoor
open Go.RowKit Go.Shelf
set_option linter.unusedVariables false

set_option maxHeartbeats 4000000 in
theorem rollBack_walk (va : Value) (xs : List (Bool × Int)) (vb : Value) (ys : List (Bool × Int)) (w : World) (ha : StepsAt w va xs) (hb : StepsAt w vb ys) (hT : TabW w) :
    Calls Tryd.prog 3 #[va, vb] w fun e W' => e = .returned (.bool true) ∧ Keep [] w W' := by
  have HT := Lib.hid hT; clear hT
  obtain ⟨ada, ca, rfl, h1⟩ := ha
  obtain ⟨adb, cb, rfl, h2⟩ := hb
  have H1 := Lib.hid h1; have H2 := Lib.hid h2; clear h1 h2
  by_cases hx : xs.length ≤ 300
  · have hx' : decide ((300 : Int) < (xs.length : Int)) = false := by simp; omega
    by_cases hy : ys.length ≤ 300
    · have hy' : ¬ ((300 : Int) < (ys.length : Int)) := by omega
      go_enter Tryd.func3, Tryd.ntmps3
      go_wp2_with fail
      refine (new_any w).mono ?_
      rintro r w1 ⟨rfl, hw1⟩
      have hr1 : RollS w1 w.heap.size (0, 0, 0) := by rw [hw1]; exact ⟨by decide, by decide, heap_alloc_new w _⟩
      have hk1 : Keep [] w w1 := by rw [hw1]; exact (Keep.refl _ _).alloc _
      clear hw1
      obtain ⟨a, hae⟩ : ∃ a, a = w.heap.size := ⟨_, rfl⟩
      rw [← hae] at hr1 ⊢
      have HA := Lib.hid (show w.heap.size ≤ a by omega)
      have R1 := Lib.hid hr1; have K1 := Lib.hid hk1; clear hr1 hk1 hae
      go_wp2
      go_loopw [6] (fun i wr => ∃ k : Nat, k ≤ xs.length ∧ i = .int .i64 k ∧ RollS wr a (runS (0, 0, 0) (xs.take k)) ∧ Keep [] w wr) (fun i _ => xs.length - (intOf i).toNat)
      case atStart => exact ⟨0, Nat.zero_le _, rfl, R1.out, K1.out⟩
      case round =>
        clear R1 K1
        obtain ⟨k, hk, rfl, hB, hK⟩ := hrel
        have HB := Lib.hid hB; have HK := Lib.hid hK; clear hB hK
        have HI := Lib.hid (Inv.new.run (xs.take k))
        by_cases hlt : k < xs.length
        · obtain ⟨bs, off, rfl, hcs⟩ := H1.out (by omega)
          obtain ⟨c1, c2⟩ := ElemsAt.cells2 hcs HK.out k hlt
          have htake := List.take_succ_eq_append_getElem hlt
          have HTK := Lib.hid htake; have HCS := Lib.hid hcs; clear htake hcs
          have hst := do_s a _ xs[k] wr HB.out HI.out
          generalize xs[k] = x at *
          have HST := Lib.hid hst; clear hst
          go_wp2_with fail
          refine HST.out.mono ?_
          rintro r w3 ⟨rfl, hB3, hk3⟩
          have HB3 := Lib.hid hB3; have HK3 := Lib.hid (HK.out.trans hk3 (by have := HA.out; simp; omega)); clear hB3 hk3
          go_wp2
          go_roundw
          case rel => exact ⟨k + 1, hlt, by go_num, by rw [HTK.out, runS_snoc]; exact HB3.out, HK3.out⟩
          case measure => simp [intOf]; omega
        · obtain rfl : k = xs.length := by omega
          clear hlt hk
          generalize runS (0, 0, 0) (xs.take xs.length) = s at *
          have hbd := HI.out.bounds
          have hb1 := hbd.1
          have hb2 := hbd.2
          clear hbd
          go_wp2_with fail
          refine (joined_any a _ _ _ wr HB.out (HT.out.keep HK.out (by simp))).mono ?_
          intro r w4 q1
          obtain ⟨v4, rfl, hs4, hk4⟩ := q1.sl
          have S4 := Lib.hid hs4; have K4 := Lib.hid (HK.out.trans0 hk4); have R4 := Lib.hid (HB.out.keep hk4 (by simp)); clear q1 hs4 hk4
          go_wp2_with fail
          refine (left_any a _ _ _ w4 R4.out (HT.out.keep K4.out (by simp))).mono ?_
          intro r w5 q1
          obtain ⟨v5, rfl, hs5, hk5⟩ := q1.sl
          have S4' := Lib.hid (S4.out.keep0 hk5); have S5 := Lib.hid hs5; have K5 := Lib.hid (K4.out.trans0 hk5); have R5 := Lib.hid (R4.out.keep hk5 (by simp)); clear q1 hs5 hk5 S4 R4 K4
          go_wp2_with fail
          refine (epoch_any a _ _ _ w5 R5.out).mono ?_
          rintro r w6 ⟨rfl, rfl⟩
          go_wp2_with fail
          refine (load_any v4 v5 _ _ s.2.2 w5 S4'.out S5.out (bitList_len' _) (bitList_len' _) (by omega)).mono ?_
          rintro r w6 ⟨hk6, ⟨_, b, hbl, rfl, hrb⟩ | ⟨hne, _⟩⟩
          · rw [bitsOf_bitList _ HI.out.jl, bitsOf_bitList _ HI.out.ll] at hrb
            have R6 := Lib.hid (R5.out.keep hk6 (by simp)); have Q6 := Lib.hid (show RollS w6 b s from hrb); have K6 := Lib.hid (K5.out.trans0 hk6)
            have HAB := Lib.hid (show a ≠ b ∧ w.heap.size ≤ b from ⟨by have := R5.out.lt; omega, by have := K5.out.size; omega⟩)
            clear hk6 hrb hbl R5 K5 S4' S5 HB HK
            go_wp2
            go_loopw [9] (fun i wr => ∃ k : Nat, k ≤ ys.length ∧ i = .int .i64 k ∧ RollS wr a (runS s (ys.take k)) ∧ RollS wr b (runS s (ys.take k)) ∧ Keep [] w wr) (fun i _ => ys.length - (intOf i).toNat)
            case atStart => exact ⟨0, Nat.zero_le _, rfl, R6.out, Q6.out, K6.out⟩
            case round =>
              clear R6 Q6 K6
              obtain ⟨k, hk, rfl, hB, hC, hK⟩ := hrel
              have HB := Lib.hid hB; have HC := Lib.hid hC; have HK := Lib.hid hK; clear hB hC hK
              have HIs := Lib.hid (HI.out.run (ys.take k))
              by_cases hlt : k < ys.length
              · obtain ⟨bs, off, rfl, hcs⟩ := H2.out (by omega)
                obtain ⟨c1, c2⟩ := ElemsAt.cells2 hcs HK.out k hlt
                have htake := List.take_succ_eq_append_getElem hlt
                have HTK := Lib.hid htake; clear htake
                have hst := do_s a _ ys[k] wr HB.out HIs.out
                have hst2 := fun w' (h : RollS w' b _) => do_s b _ ys[k] w' h HIs.out
                have hcc := fun w' (h : Keep [] w w') => ElemsAt.cells2 hcs h k hlt
                generalize ys[k] = x at *
                have HST := Lib.hid hst; have HST2 := Lib.hid hst2; have HCC := Lib.hid hcc; clear hst hst2 hcc hcs
                go_wp2_with fail
                refine HST.out.mono ?_
                rintro r w7 ⟨rfl, hB7, hk7⟩
                have HB7 := Lib.hid hB7; have HK7 := Lib.hid (HK.out.trans hk7 (by have := HA.out; simp; omega)); have HC7 := Lib.hid (HC.out.keep hk7 (by have := HAB.out.1; simp; omega)); clear hB7 hk7
                obtain ⟨c3, c4⟩ := HCC.out w7 HK7.out
                go_wp2_with fail
                refine (HST2.out w7 HC7.out).mono ?_
                rintro r w8 ⟨rfl, hC8, hk8⟩
                have HC8 := Lib.hid hC8; have HK8 := Lib.hid (HK7.out.trans hk8 (by have := HAB.out.2; simp; omega)); have HB8 := Lib.hid (HB7.out.keep hk8 (by have := HAB.out.1; simp; omega)); clear hC8 hk8
                generalize stepR x.1 (runS s (ys.take k)).1 (runS s (ys.take k)).2.1 x.2 = rr at *
                have hrr : (rr != rr) = false := by simp
                go_wp2
                go_roundw
                case rel => exact ⟨k + 1, hlt, by go_num, by rw [HTK.out, runS_snoc]; exact HB8.out, by rw [HTK.out, runS_snoc]; exact HC8.out, HK8.out⟩
                case measure => simp [intOf]; omega
              · obtain rfl : k = ys.length := by omega
                clear hlt hk
                generalize runS s (ys.take ys.length) = t at *
                go_wp2_with fail
                refine (same_eq a b _ _ _ _ wr HB.out HC.out (HT.out.keep HK.out (by simp))).mono ?_
                rintro r w9 ⟨rfl, hk9⟩
                have B9 := Lib.hid (HB.out.keep hk9 (by simp)); have C9 := Lib.hid (HC.out.keep hk9 (by simp)); have K9 := Lib.hid (HK.out.trans0 hk9); clear hk9
                go_wp2_with fail
                refine (epoch_any a _ _ _ w9 B9.out).mono ?_
                rintro r w10 ⟨rfl, rfl⟩
                go_wp2_with fail
                refine (epoch_any b _ _ _ w9 C9.out).mono ?_
                rintro r w10 ⟨rfl, rfl⟩
                have htt : (t.2.2 == t.2.2) = true := by simp
                go_wp2_with fail
                refine (known_true w9 (HT.out.keep K9.out (by simp))).mono ?_
                rintro r w10 ⟨rfl, hk10⟩
                go_wp2
                go_ret
                exact ⟨rfl, K9.out.trans0 hk10⟩
          · exact absurd HI.out.loads hne
    · have hy' : ((300 : Int) < (ys.length : Int)) := by omega
      go_enter Tryd.func3, Tryd.ntmps3
      go_wp2_with fail
      refine (known_true w HT.out).mono ?_
      rintro r w3 ⟨rfl, hk⟩
      go_wp2
      go_ret
      exact ⟨rfl, hk⟩
  · have hx' : ((300 : Int) < (xs.length : Int)) := by omega
    go_enter Tryd.func3, Tryd.ntmps3
    go_wp2_with fail
    refine (known_true w HT.out).mono ?_
    rintro r w3 ⟨rfl, hk⟩
    go_wp2
    go_ret
    exact ⟨rfl, hk⟩
end Go.Proofs.YtfhgeanacecpjaaDoor
