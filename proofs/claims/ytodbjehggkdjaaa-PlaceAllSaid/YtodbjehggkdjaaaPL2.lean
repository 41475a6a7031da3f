/-
  PlaceAll, walked.
-/
import Derived.Test.YtodbjehggkdjaaaMU
namespace Go.Proofs.Ytodbjehggkdjaaa
open Go.RowKit
set_option linter.unusedVariables false
set_option linter.unusedSimpArgs false

set_option maxRecDepth 100000 in
set_option maxHeartbeats 16000000 in
theorem placeAll_walk (s : ByteArray) (w : World) (hs : s.size ≤ maxLen) :
    Calls Try.prog 4 #[.string s] w fun e w' => e = .returned (.bool true) ∧ Keep [] w w' := by
  unfold maxLen at hs
  by_cases hz : s.size ≤ 75
  · have hzd : decide ((75 : Int) < (s.size : Int)) = false := by simp; omega
    have HT := Lib.hid (fun mb u x l c W hM h1 h2 h3 h4 => tells_any mb s u x l c W hM (by omega) h1 h2 h3 h4)
    have hnp := np_le s
    have hll := ln_le s (np s)
    go_enter Try.func4, Try.ntmps4
    go_wp2_with fail
    refine (new_any s _ (by omega)).mono ?_
    rintro e W1 ⟨mb, rfl, _, hm, hk1⟩
    have HM := Lib.hid hm; have K1 := Lib.hid hk1; clear hm hk1 hzd
    go_wp2
    go_loopw [4, 5] (fun i j wr => ∃ u : Nat, u ≤ 6 ∧ i = .int .i64 u ∧ Keep [] W1 wr) (fun i _ _ => 6 - (intOf i).toNat)
    case atStart => exact ⟨0, Nat.zero_le _, rfl, Keep.refl _ _⟩
    case round =>
      obtain ⟨u, hu, rfl, hk⟩ := hrel
      have K2 := Lib.hid (K1.out.trans0 hk); have HM2 := Lib.hid (HM.out.keep hk); have KW := Lib.hid hk; clear hk
      by_cases hlt : u < 6
      · have hud : decide ((u : Int) ≤ 5) = true := by simp; omega
        go_wp2
        go_loopw [5] (fun j wq => ∃ k : Nat, k ≤ s.size + 3 ∧ j = .int .i64 ((k : Int) - 1) ∧ Keep [] W1 wq) (fun j _ => (s.size + 3 - (intOf j + 1).toNat))
        case atStart => exact ⟨0, Nat.zero_le _, rfl, KW.out⟩
        case round =>
          obtain ⟨k, hk, rfl, hkq⟩ := hrel
          have HM3 := Lib.hid (HM.out.keep hkq); have K3 := Lib.hid hkq; clear hkq
          have hw1 : IntKind.i64.wrap ((s.size : Int) + 1) = (s.size : Int) + 1 := by rw [IntKind.wrap_i64]; omega
          have hw2 : IntKind.i64.wrap ((k : Int) - 1 + 1) = (k : Int) := by rw [IntKind.wrap_i64]; omega
          by_cases hlk : k < s.size + 3
          · have hkd : decide ((k : Int) - 1 ≤ (s.size : Int) + 1) = true := by simp; omega
            obtain ⟨ki, hki⟩ : ∃ ki : Int, ki = (k : Int) - 1 := ⟨_, rfl⟩
            have HKI := Lib.hid hki
            rw [← hki] at hw2 hkd ⊢
            clear hki
            go_wp2_with fail
            refine (HT.out mb _ _ _ _ _ HM3.out (by have := HKI.out; omega) (by have := HKI.out; omega) (by decide) (by decide)).mono ?_
            rintro e W4 ⟨rfl, hk4⟩
            have K4 := Lib.hid (K3.out.trans0 hk4); clear hk4
            go_wp2
            exact ⟨⟨k + 1, by omega, congrArg (Value.int .i64) (by omega), K4.out⟩, by have := HKI.out; simp [intOf]; omega⟩
          · have hkd : decide ((k : Int) - 1 ≤ (s.size : Int) + 1) = false := by simp; omega
            go_wp2
            exact ⟨⟨u + 1, by omega, by go_num, K3.out⟩, by simp [intOf]; omega⟩
      · have hud : decide ((u : Int) ≤ 5) = false := by simp; omega
        clear hlt
        go_wp2
        rename World => W2
        go_loopw [6, 7, 8, 9, 10, 11] (fun i a1 a2 a3 a4 a5 wr => ∃ l : Nat, l ≤ ln s (np s) + 2 ∧ i = .int .i64 l ∧ Keep [] W1 wr) (fun i _ _ _ _ _ _ => ln s (np s) + 2 - (intOf i).toNat)
        case atStart => exact ⟨0, Nat.zero_le _, rfl, KW.out⟩
        case round =>
          obtain ⟨l, hl, rfl, hk⟩ := hrel
          have K3 := Lib.hid hk; clear hk
          have hw1 : IntKind.i64.wrap (((ln s (np s) : Nat) : Int) + 1) = ((ln s (np s) : Nat) : Int) + 1 := by rw [IntKind.wrap_i64]; omega
          go_wp2_with fail
          refine (rlines_any s _ (by omega)).mono ?_
          rintro e W4 ⟨rfl, hk4⟩
          have K4 := Lib.hid (K3.out.trans0 hk4); clear hk4
          by_cases hll2 : l < ln s (np s) + 2
          · have hld : decide ((l : Int) ≤ ((ln s (np s) : Nat) : Int) + 1) = true := by simp; omega
            go_wp2
            go_loopw [7, 8, 9, 10, 11] (fun i a2 a3 a4 a5 wr => ∃ c : Nat, c ≤ s.size + 3 ∧ i = .int .i64 c ∧ Keep [] W1 wr) (fun i _ _ _ _ _ => s.size + 3 - (intOf i).toNat)
            case atStart => exact ⟨0, Nat.zero_le _, rfl, K4.out⟩
            case round =>
              obtain ⟨c, hc, rfl, hk⟩ := hrel
              have K5 := Lib.hid hk; have HM5 := Lib.hid (HM.out.keep hk); clear hk
              have hw2 : IntKind.i64.wrap ((s.size : Int) + 2) = (s.size : Int) + 2 := by rw [IntKind.wrap_i64]; omega
              by_cases hcl : c < s.size + 3
              · have hcd : decide ((c : Int) ≤ (s.size : Int) + 2) = true := by simp; omega
                have H3 := Lib.hid (fun W hM => cell_any mb s (l : Int) (c : Int) W hM (by omega) (by omega) (by omega))
                have H4 := Lib.hid (fun W => rcell_any s (l : Int) (c : Int) W (by omega))
                obtain ⟨b0, b1, b2, b3, b4, b5, hb⟩ := spO_six s (cellR s l c).1
                rw [hb] at H3 H4
                generalize (cellR s l c).2 = ec at *
                clear hb
                go_wp2_with fail
                refine (H3.out _ HM5.out).mono ?_
                rintro e W6 ⟨rfl, hk6⟩
                have K6 := Lib.hid (K5.out.trans0 hk6); clear hk6
                go_upto_region 21 with (fail)
                obtain ⟨B1, hB1⟩ : ∃ B, B = W6.heap.size := ⟨_, rfl⟩
                refine wp_cut (fun W => Keep [] W1 W ∧ W.heap[W6.heap.size]? = some (.cells #[.int .i64 b0, .int .i64 b1, .int .i64 b2, .int .i64 b3, .int .i64 b4, .int .i64 b5] 29 (0, 0))) ⟨K6.out.alloc _, World.alloc_heap_new W6 _⟩ ?_
                rw [← hB1]
                rintro W7 ⟨k7, g7⟩
                clear hB1
                have K7 := Lib.hid k7; have G7 := Lib.hid g7; clear k7 g7
                go_wp2_with fail
                refine (H4.out _).mono ?_
                rintro e W8 ⟨rfl, hk8⟩
                have K8 := Lib.hid (K7.out.trans0 hk8); have G8 := Lib.hid (hk8.at_ G7.out (by simp)); clear hk8
                go_upto_region 22 with (fail)
                obtain ⟨B2, hB2⟩ : ∃ B, B = W8.heap.size := ⟨_, rfl⟩
                refine wp_cut (fun W => Keep [] W1 W ∧ W.heap[B1]? = some (.cells #[.int .i64 b0, .int .i64 b1, .int .i64 b2, .int .i64 b3, .int .i64 b4, .int .i64 b5] 29 (0, 0)) ∧ W.heap[W8.heap.size]? = some (.cells #[.int .i64 b0, .int .i64 b1, .int .i64 b2, .int .i64 b3, .int .i64 b4, .int .i64 b5] 29 (0, 0))) ⟨K8.out.alloc _, ((Keep.refl [] _).alloc _).at_ G8.out (by simp), World.alloc_heap_new W8 _⟩ ?_
                rw [← hB2]
                rintro W9 ⟨k9, g91, g92⟩
                clear hB2
                have p0 := cell_of_block g91 0; have p1 := cell_of_block g91 1; have p2 := cell_of_block g91 2; have p3 := cell_of_block g91 3; have p4 := cell_of_block g91 4; have p5 := cell_of_block g91 5
                have q0 := cell_of_block g92 0; have q1 := cell_of_block g92 1; have q2 := cell_of_block g92 2; have q3 := cell_of_block g92 3; have q4 := cell_of_block g92 4; have q5 := cell_of_block g92 5
                simp at p0 p1 p2 p3 p4 p5 q0 q1 q2 q3 q4 q5
                have K9 := Lib.hid k9
                clear k9 g91 g92
                go_wp2
                exact ⟨⟨c + 1, by omega, by go_num, K9.out⟩, by simp [intOf]; omega⟩
              · have hcd : decide ((c : Int) ≤ (s.size : Int) + 2) = false := by simp; omega
                go_wp2_with fail
                refine (HT.out mb _ _ _ _ _ HM5.out (by decide) (by decide) (by decide) (by decide)).mono ?_
                rintro e W6 ⟨rfl, hk6⟩
                have K6 := Lib.hid (K5.out.trans0 hk6); clear hk6
                go_wp2
                exact ⟨⟨l + 1, by omega, by go_num, K6.out⟩, by simp [intOf]; omega⟩
          · have hld : decide ((l : Int) ≤ ((ln s (np s) : Nat) : Int) + 1) = false := by simp; omega
            go_wp2_with fail
            refine (known_any _).mono ?_
            rintro e W5 ⟨rfl, hk5⟩
            have K5 := Lib.hid (K1.out.trans0 (K4.out.trans0 hk5)); clear hk5
            go_wp2
            go_ret
            exact ⟨rfl, K5.out⟩
  · have hzd : decide ((75 : Int) < (s.size : Int)) = true := by simp; omega
    go_enter Try.func4, Try.ntmps4
    go_wp2_with fail
    refine (known_any _).mono ?_
    rintro e W3 ⟨rfl, hk3⟩
    have K3 := Lib.hid hk3; clear hk3
    go_wp2
    go_ret
    exact ⟨rfl, K3.out⟩
end Go.Proofs.Ytodbjehggkdjaaa
