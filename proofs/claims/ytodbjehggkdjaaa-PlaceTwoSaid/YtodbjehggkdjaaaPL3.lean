/-
  PlaceTwo, walked.
-/
import Derived.Test.YtodbjehggkdjaaaMU
namespace Go.Proofs.Ytodbjehggkdjaaa
open Go.RowKit
set_option linter.unusedVariables false
set_option linter.unusedSimpArgs false

theorem at_nil (u x : Int) (w : World) : Calls Try.prog 13 #[.pointer none, .int .i64 u, .int .i64 x] w fun e w' => e = .returned (.tuple #[.agg #[.int .i64 0, .int .i64 0, .int .i64 0, .int .i64 0, .int .i64 0, .int .i64 0], .int .i64 1]) ∧ Keep [] w w' := by
  go_enter Try.func13, Try.ntmps13
  go_upto_region 2 with (fail)
  obtain ⟨W1, hW1⟩ : ∃ W1, W1 = (w.alloc (.cells #[.int .i64 x] 3)).alloc (.cells #[.int .i64 0, .int .i64 0, .int .i64 0, .int .i64 0, .int .i64 0, .int .i64 0] 29) := ⟨_, rfl⟩
  rw [← hW1]
  have hk1 : Keep [] w W1 := by rw [hW1]; exact ((Keep.refl _ _).alloc _).alloc _
  have x1 : W1.heap[w.heap.size + 1]? = some (.cells noSp 29 (0, 0)) := by
    rw [hW1]
    have := World.alloc_heap_new (w.alloc (.cells #[.int .i64 x] 3)) (.cells #[.int .i64 0, .int .i64 0, .int .i64 0, .int .i64 0, .int .i64 0, .int .i64 0] 29); rwa [World.size_alloc] at this
  obtain ⟨rb, hrb⟩ : ∃ rb, rb = w.heap.size + 1 := ⟨_, rfl⟩
  rw [← hrb]
  rw [← hrb] at x1
  obtain ⟨W7, hs7, hb7, hk7⟩ := store_row (P := Try.prog) (t := 29) (cs := noSp) spot_info x1 rfl rfl noSp_one
  have HL7 := Lib.hid (load_var (P := Try.prog) Try.underlying29 rfl spot_info hb7 rfl)
  have K7 := Lib.hid (hk1.trans hk7 (fun b hb => by simp at hb; exact .inr (by omega)))
  clear hW1 hk1 x1 hb7 hk7 hrb
  go_wp2_with (with_reducible refine park_store 6 14 _ rfl ?_)
  refine wpList_store_eq rfl _ (.tmp 6) (.tmp 14) rfl hs7 ?_
  clear hs7
  go_wp2
  exact bodyPost_ret (results_cell_two rfl _ _ rb _ _ rfl rfl HL7.out) rfl ⟨rfl, K7.out⟩
theorem cell_nil (l c : Int) (w : World) : Calls Try.prog 11 #[.pointer none, .int .i64 l, .int .i64 c] w fun e w' => e = .returned (.tuple #[.agg #[.int .i64 0, .int .i64 0, .int .i64 0, .int .i64 0, .int .i64 0, .int .i64 0], .int .i64 1]) ∧ Keep [] w w' := by
  go_enter Try.func11, Try.ntmps11
  go_upto_region 2 with (fail)
  obtain ⟨W1, hW1⟩ : ∃ W1, W1 = w.alloc (.cells #[.int .i64 0, .int .i64 0, .int .i64 0, .int .i64 0, .int .i64 0, .int .i64 0] 29) := ⟨_, rfl⟩
  rw [← hW1]
  have hk1 : Keep [] w W1 := by rw [hW1]; exact (Keep.refl _ _).alloc _
  have x1 : W1.heap[w.heap.size]? = some (.cells noSp 29 (0, 0)) := by rw [hW1]; exact World.alloc_heap_new w _
  obtain ⟨rb, hrb⟩ : ∃ rb, rb = w.heap.size := ⟨_, rfl⟩
  rw [← hrb]
  rw [← hrb] at x1
  obtain ⟨W7, hs7, hb7, hk7⟩ := store_row (P := Try.prog) (t := 29) (cs := noSp) spot_info x1 rfl rfl noSp_one
  have HL7 := Lib.hid (load_var (P := Try.prog) Try.underlying29 rfl spot_info hb7 rfl)
  have K7 := Lib.hid (hk1.trans hk7 (fun b hb => by simp at hb; exact .inr (by omega)))
  clear hW1 hk1 x1 hb7 hk7 hrb
  go_wp2_with (with_reducible refine park_store 6 13 _ rfl ?_)
  refine wpList_store_eq rfl _ (.tmp 6) (.tmp 13) rfl hs7 ?_
  clear hs7
  go_wp2
  exact bodyPost_ret (results_cell_two rfl _ _ rb _ _ rfl rfl HL7.out) rfl ⟨rfl, K7.out⟩
theorem len_nil (u : Int) (w : World) : Calls Try.prog 14 #[.pointer none, .int .i64 u] w fun e w' => e = .returned (.tuple #[.int .i64 0, .int .i64 1]) ∧ w = w' := by
  go_enter Try.func14, Try.ntmps14
  go_wp2
  go_ret2
  exact ⟨rfl, rfl⟩
theorem line_nil (l : Int) (w : World) : Calls Try.prog 15 #[.pointer none, .int .i64 l] w fun e w' => e = .returned (.tuple #[.string ⟨#[]⟩, .int .i64 1]) ∧ w = w' := by
  go_enter Try.func15, Try.ntmps15
  go_wp2
  go_ret2
  exact ⟨rfl, rfl⟩
theorem lines_nil (w : World) : Calls Try.prog 16 #[.pointer none] w fun e w' => e = .returned (.int .i64 0) ∧ w = w' := by
  go_enter Try.func16, Try.ntmps16
  go_wp2
  go_ret
  exact ⟨rfl, rfl⟩

set_option maxRecDepth 100000 in
set_option maxHeartbeats 16000000 in
theorem placeTwo_walk (a b : ByteArray) (u x : Int) (w : World) (ha : a.size ≤ maxLen) (hb : b.size ≤ maxLen) (hu : -9223372036854775808 ≤ u ∧ u ≤ 9223372036854775807) (hx : -9223372036854775808 ≤ x ∧ x ≤ 9223372036854775807) :
    Calls Try.prog 5 #[.string a, .string b, .int .i64 u, .int .i64 x] w fun e w' => e = .returned (.bool true) ∧ Keep [] w w' := by
  unfold maxLen at ha hb
  by_cases hz : a.size ≤ 300 ∧ b.size ≤ 300
  · obtain ⟨hza, hzb⟩ := hz
    have had : decide ((300 : Int) < (a.size : Int)) = false := by simp; omega
    have hbd : decide ((300 : Int) < (b.size : Int)) = false := by simp; omega
    have HT1 := Lib.hid (fun mb W hM => tells_any mb a u x 1 x W hM (by omega) hx.1 hx.2 hx.1 hx.2)
    have HT2 := Lib.hid (fun mb W hM => tells_any mb b u x 2 1 W hM (by omega) hx.1 hx.2 (by decide) (by decide))
    have HT3 := Lib.hid (fun mb W hM => tells_any mb a 1 x 2 1 W hM (by omega) hx.1 hx.2 (by decide) (by decide))
    have HT4 := Lib.hid (fun mb W hM => tells_any mb ⟨#[]⟩ u x 1 x W hM (by decide) hx.1 hx.2 hx.1 hx.2)
    have HT5 := Lib.hid (fun mb W hM => tells_any mb ⟨#[]⟩ u 0 x 1 W hM (by decide) (by decide) (by decide) (by decide) (by decide))
    clear hu hx
    go_enter Try.func5, Try.ntmps5
    go_wp2_with fail
    refine (new_any a _ (by omega)).mono ?_
    rintro e W1 ⟨pa, rfl, _, hm, hk1⟩
    have HM := Lib.hid hm; have K1 := Lib.hid hk1; clear hm hk1
    go_wp2_with fail
    refine (new_any b _ (by omega)).mono ?_
    rintro e W2 ⟨pb, rfl, _, hm, hk2⟩
    have HM2 := Lib.hid hm; have K2 := Lib.hid (K1.out.trans0 hk2); have HA2 := Lib.hid (HM.out.keep hk2); clear hm hk2 K1 HM
    go_upto_region 6 with (fail)
    obtain ⟨zb, hzb2⟩ : ∃ z, z = W2.heap.size := ⟨_, rfl⟩
    refine wp_cut (fun W => Keep [] w W ∧ MapAt W pa a ∧ MapAt W pb b ∧ MapAt W W2.heap.size ⟨#[]⟩) ⟨K2.out.alloc _, HA2.out.keep ((Keep.refl [] _).alloc _), HM2.out.keep ((Keep.refl [] _).alloc _), ⟨_, _, World.alloc_heap_new W2 _, .inl ⟨rfl, rfl, rfl⟩⟩⟩ ?_
    rw [← hzb2]
    rintro W3 ⟨k3, ma, mb, mz⟩
    have K3 := Lib.hid k3; have MA := Lib.hid ma; have MB := Lib.hid mb; have MZ := Lib.hid mz
    clear k3 ma mb mz hzb2 K2 HA2 HM2
    go_wp2_with fail
    refine (HT1.out _ _ MA.out).mono ?_
    rintro e W4 ⟨rfl, hk4⟩
    have K4 := Lib.hid hk4; clear hk4
    go_wp2_with fail
    refine (HT2.out _ _ (MB.out.keep K4.out)).mono ?_
    rintro e W5 ⟨rfl, hk5⟩
    have K5 := Lib.hid (K4.out.trans0 hk5); clear hk5
    go_wp2_with fail
    refine (HT3.out _ _ (MA.out.keep K5.out)).mono ?_
    rintro e W6 ⟨rfl, hk6⟩
    have K6 := Lib.hid (K5.out.trans0 hk6); clear hk6
    go_wp2_with fail
    refine (HT4.out _ _ (MZ.out.keep K6.out)).mono ?_
    rintro e W7 ⟨rfl, hk7⟩
    have K7 := Lib.hid (K6.out.trans0 hk7); clear hk7
    go_wp2_with fail
    refine (HT5.out _ _ (MZ.out.keep K7.out)).mono ?_
    rintro e W8 ⟨rfl, hk8⟩
    have K8 := Lib.hid (K3.out.trans0 (K7.out.trans0 hk8)); clear hk8
    go_wp2_with fail
    refine (at_nil _ _ _).mono ?_
    rintro e W9 ⟨rfl, hk9⟩
    have K9 := Lib.hid (K8.out.trans0 hk9); clear hk9
    go_upto_region 10 with (fail)
    obtain ⟨B1, hB1⟩ : ∃ B, B = W9.heap.size := ⟨_, rfl⟩
    refine wp_cut (fun W => Keep [] w W ∧ W.heap[W9.heap.size]? = some (.cells noSp 29 (0, 0))) ⟨K9.out.alloc _, World.alloc_heap_new W9 _⟩ ?_
    rw [← hB1]
    rintro W10 ⟨k10, g10⟩
    clear hB1
    have K10 := Lib.hid k10; have G10 := Lib.hid g10; clear k10 g10
    go_wp2_with fail
    refine (cell_nil _ _ _).mono ?_
    rintro e W11 ⟨rfl, hk11⟩
    have K11 := Lib.hid (K10.out.trans0 hk11); have G11 := Lib.hid (hk11.at_ G10.out (by simp)); clear hk11
    go_upto_region 11 with (fail)
    obtain ⟨B2, hB2⟩ : ∃ B, B = W11.heap.size := ⟨_, rfl⟩
    refine wp_cut (fun W => Keep [] w W ∧ W.heap[B1]? = some (.cells noSp 29 (0, 0)) ∧ W.heap[W11.heap.size]? = some (.cells noSp 29 (0, 0))) ⟨K11.out.alloc _, ((Keep.refl [] _).alloc _).at_ G11.out (by simp), World.alloc_heap_new W11 _⟩ ?_
    rw [← hB2]
    rintro W12 ⟨k12, g121, g122⟩
    clear hB2
    have p0 := cell_of_block g121 0; have p1 := cell_of_block g121 1; have p2 := cell_of_block g121 2; have p3 := cell_of_block g121 3; have p4 := cell_of_block g121 4; have p5 := cell_of_block g121 5
    have q0 := cell_of_block g122 0; have q1 := cell_of_block g122 1; have q2 := cell_of_block g122 2; have q3 := cell_of_block g122 3; have q4 := cell_of_block g122 4; have q5 := cell_of_block g122 5
    simp [noSp] at p0 p1 p2 p3 p4 p5 q0 q1 q2 q3 q4 q5
    have K12 := Lib.hid k12
    clear k12 g121 g122
    go_wp2_with fail
    refine (len_nil _ _).mono ?_
    rintro e W13 ⟨rfl, rfl⟩
    go_wp2_with fail
    refine (line_nil _ _).mono ?_
    rintro e W13 ⟨rfl, rfl⟩
    go_wp2_with fail
    refine (lines_nil _).mono ?_
    rintro e W13 ⟨rfl, rfl⟩
    go_wp2_with fail
    refine (known_any _).mono ?_
    rintro e W14 ⟨rfl, hk14⟩
    have K14 := Lib.hid (K12.out.trans0 hk14); clear hk14
    go_wp2
    go_ret
    exact ⟨rfl, K14.out⟩
  · clear hu hx
    have hb2 : decide ((300 : Int) < (a.size : Int)) = true ∨ (decide ((300 : Int) < (a.size : Int)) = false ∧ decide ((300 : Int) < (b.size : Int)) = true) := by
      by_cases h : a.size ≤ 300
      · exact .inr ⟨by simp; omega, by simp; omega⟩
      · exact .inl (by simp; omega)
    clear hz
    rcases hb2 with t1 | ⟨t1, t2⟩
    all_goals
      go_enter Try.func5, Try.ntmps5
      go_wp2_with fail
      refine (known_any _).mono ?_
      rintro e W3 ⟨rfl, hk3⟩
      have K3 := Lib.hid hk3; clear hk3
      go_wp2
      go_ret
      exact ⟨rfl, K3.out⟩
end Go.Proofs.Ytodbjehggkdjaaa
