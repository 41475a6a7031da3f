/-
  The law's known.
-/
import Derived.Test.YtodbjehggkdjaaaPlaT
import Derived.Test.YtodbjehggkdjaaaPlaL
import Derived.Test.YtodbjehggkdjaaaMQ
namespace Go.Proofs.Ytodbjehggkdjaaa
open Go.RowKit
set_option linter.unusedVariables false
set_option linter.unusedSimpArgs false

theorem spO_six (s : ByteArray) (o : Option Nat) : ∃ x0 x1 x2 x3 x4 x5 : Int, spO s o = #[.int .i64 x0, .int .i64 x1, .int .i64 x2, .int .i64 x3, .int .i64 x4, .int .i64 x5] := by
  cases o
  · exact ⟨_, _, _, _, _, _, rfl⟩
  · exact ⟨_, _, _, _, _, _, rfl⟩

set_option maxRecDepth 100000 in
set_option maxHeartbeats 8000000 in
theorem tells_any (mb : Nat) (s : ByteArray) (u x l c : Int) (w : World) (h : MapAt w mb s) (hz : s.size ≤ 1000000) (hx0 : -9223372036854775808 ≤ x) (hx1 : x ≤ 9223372036854775807) (hc0 : -9223372036854775808 ≤ c) (hc1 : c ≤ 9223372036854775807) :
    Calls Try.prog 9 #[.pointer (some ⟨mb, 0, none⟩), .string s, .int .i64 u, .int .i64 x, .int .i64 l, .int .i64 c] w fun e w' => e = .returned (.bool true) ∧ Keep [] w w' := by
  have HM := Lib.hid h; clear h
  have H1 := Lib.hid (fun W hM => at_any mb s u x W hM hz hx0 hx1)
  have H2 := Lib.hid (fun W => rat_any s u x W hz)
  have H3 := Lib.hid (fun W hM => cell_any mb s l c W hM hz hc0 hc1)
  have H4 := Lib.hid (fun W => rcell_any s l c W hz)
  have H5 := Lib.hid (fun W hM => len_any mb s u W hM hz)
  have H6 := Lib.hid (fun W => rlen_any s u W hz)
  have H7 := Lib.hid (fun W hM => tline_any mb s l W hM hz)
  have H8 := Lib.hid (fun W => rline_any s l W hz)
  have H9 := Lib.hid (fun W hM => lines_any mb s W hM)
  have H10 := Lib.hid (fun W => rlines_any s W hz)
  obtain ⟨a0, a1, a2, a3, a4, a5, ha⟩ := spO_six s (atR s u x).1
  obtain ⟨b0, b1, b2, b3, b4, b5, hb⟩ := spO_six s (cellR s l c).1
  rw [ha] at H1 H2
  rw [hb] at H3 H4
  generalize (atR s u x).2 = ea at *
  generalize (cellR s l c).2 = ec at *
  generalize (lenR s u).1 = n1 at *
  generalize (lenR s u).2 = n2 at *
  generalize (lineR s l).1 = l1 at *
  generalize (lineR s l).2 = l2 at *
  generalize ((ln s (np s) : Nat) : Int) = m1 at *
  clear ha hb hx0 hx1 hc0 hc1 hz
  go_enter Try.func9, Try.ntmps9
  go_wp2_with fail
  refine (H1.out _ HM.out).mono ?_
  rintro e W1 ⟨rfl, hk1⟩
  have K1 := Lib.hid hk1; clear hk1
  go_upto_region 2 with (fail)
  obtain ⟨B1, hB1⟩ : ∃ B, B = W1.heap.size := ⟨_, rfl⟩
  refine wp_cut (fun W => Keep [] w W ∧ W.heap[W1.heap.size]? = some (.cells #[.int .i64 a0, .int .i64 a1, .int .i64 a2, .int .i64 a3, .int .i64 a4, .int .i64 a5] 29 (0, 0))) ⟨K1.out.alloc _, World.alloc_heap_new W1 _⟩ ?_
  rw [← hB1]
  rintro W2 ⟨k2, g2⟩
  clear hB1 K1
  have K2 := Lib.hid k2; have G2 := Lib.hid g2
  clear k2 g2
  go_wp2_with fail
  refine (H2.out _).mono ?_
  rintro e W3 ⟨rfl, hk3⟩
  have K3 := Lib.hid (K2.out.trans0 hk3); have G3 := Lib.hid (hk3.at_ G2.out (by simp)); clear hk3 K2 G2
  go_upto_region 3 with (fail)
  obtain ⟨B2, hB2⟩ : ∃ B, B = W3.heap.size := ⟨_, rfl⟩
  refine wp_cut (fun W => Keep [] w W ∧ W.heap[B1]? = some (.cells #[.int .i64 a0, .int .i64 a1, .int .i64 a2, .int .i64 a3, .int .i64 a4, .int .i64 a5] 29 (0, 0)) ∧ W.heap[W3.heap.size]? = some (.cells #[.int .i64 a0, .int .i64 a1, .int .i64 a2, .int .i64 a3, .int .i64 a4, .int .i64 a5] 29 (0, 0))) ⟨K3.out.alloc _, ((Keep.refl [] _).alloc _).at_ G3.out (by simp), World.alloc_heap_new W3 _⟩ ?_
  rw [← hB2]
  rintro W4 ⟨k4, g4, g4'⟩
  clear hB2 K3 G3
  have K4 := Lib.hid k4; have G4 := Lib.hid (And.intro g4 g4')
  clear k4 g4 g4'
  go_wp2_with fail
  refine (H3.out _ (HM.out.keep K4.out)).mono ?_
  rintro e W5 ⟨rfl, hk5⟩
  have K5 := Lib.hid (K4.out.trans0 hk5); have G5 := Lib.hid (And.intro (hk5.at_ G4.out.1 (by simp)) (hk5.at_ G4.out.2 (by simp))); clear hk5 K4 G4
  go_upto_region 4 with (fail)
  obtain ⟨B3, hB3⟩ : ∃ B, B = W5.heap.size := ⟨_, rfl⟩
  refine wp_cut (fun W => Keep [] w W ∧ W.heap[B1]? = some (.cells #[.int .i64 a0, .int .i64 a1, .int .i64 a2, .int .i64 a3, .int .i64 a4, .int .i64 a5] 29 (0, 0)) ∧ W.heap[B2]? = some (.cells #[.int .i64 a0, .int .i64 a1, .int .i64 a2, .int .i64 a3, .int .i64 a4, .int .i64 a5] 29 (0, 0)) ∧ W.heap[W5.heap.size]? = some (.cells #[.int .i64 b0, .int .i64 b1, .int .i64 b2, .int .i64 b3, .int .i64 b4, .int .i64 b5] 29 (0, 0))) ⟨K5.out.alloc _, ((Keep.refl [] _).alloc _).at_ G5.out.1 (by simp), ((Keep.refl [] _).alloc _).at_ G5.out.2 (by simp), World.alloc_heap_new W5 _⟩ ?_
  rw [← hB3]
  rintro W6 ⟨k6, g6, g6', g6''⟩
  clear hB3 K5 G5
  have K6 := Lib.hid k6; have G6 := Lib.hid (And.intro g6 (And.intro g6' g6''))
  clear k6 g6 g6' g6''
  go_wp2_with fail
  refine (H4.out _).mono ?_
  rintro e W7 ⟨rfl, hk7⟩
  have K7 := Lib.hid (K6.out.trans0 hk7); have G7 := Lib.hid (And.intro (hk7.at_ G6.out.1 (by simp)) (And.intro (hk7.at_ G6.out.2.1 (by simp)) (hk7.at_ G6.out.2.2 (by simp)))); clear hk7 K6 G6
  go_upto_region 5 with (fail)
  obtain ⟨B4, hB4⟩ : ∃ B, B = W7.heap.size := ⟨_, rfl⟩
  refine wp_cut (fun W => Keep [] w W ∧ W.heap[B1]? = some (.cells #[.int .i64 a0, .int .i64 a1, .int .i64 a2, .int .i64 a3, .int .i64 a4, .int .i64 a5] 29 (0, 0)) ∧ W.heap[B2]? = some (.cells #[.int .i64 a0, .int .i64 a1, .int .i64 a2, .int .i64 a3, .int .i64 a4, .int .i64 a5] 29 (0, 0)) ∧ W.heap[B3]? = some (.cells #[.int .i64 b0, .int .i64 b1, .int .i64 b2, .int .i64 b3, .int .i64 b4, .int .i64 b5] 29 (0, 0)) ∧ W.heap[W7.heap.size]? = some (.cells #[.int .i64 b0, .int .i64 b1, .int .i64 b2, .int .i64 b3, .int .i64 b4, .int .i64 b5] 29 (0, 0))) ⟨K7.out.alloc _, ((Keep.refl [] _).alloc _).at_ G7.out.1 (by simp), ((Keep.refl [] _).alloc _).at_ G7.out.2.1 (by simp), ((Keep.refl [] _).alloc _).at_ G7.out.2.2 (by simp), World.alloc_heap_new W7 _⟩ ?_
  rw [← hB4]
  rintro W8 ⟨k8, g81, g82, g83, g84⟩
  clear hB4 K7 G7
  have K8 := Lib.hid k8
  have p0 := cell_of_block g81 0; have p1 := cell_of_block g81 1; have p2 := cell_of_block g81 2; have p3 := cell_of_block g81 3; have p4 := cell_of_block g81 4; have p5 := cell_of_block g81 5
  have q0 := cell_of_block g82 0; have q1 := cell_of_block g82 1; have q2 := cell_of_block g82 2; have q3 := cell_of_block g82 3; have q4 := cell_of_block g82 4; have q5 := cell_of_block g82 5
  have r0 := cell_of_block g83 0; have r1 := cell_of_block g83 1; have r2 := cell_of_block g83 2; have r3 := cell_of_block g83 3; have r4 := cell_of_block g83 4; have r5 := cell_of_block g83 5
  have s0 := cell_of_block g84 0; have s1 := cell_of_block g84 1; have s2 := cell_of_block g84 2; have s3 := cell_of_block g84 3; have s4 := cell_of_block g84 4; have s5 := cell_of_block g84 5
  simp at p0 p1 p2 p3 p4 p5 q0 q1 q2 q3 q4 q5 r0 r1 r2 r3 r4 r5 s0 s1 s2 s3 s4 s5
  clear k8 g81 g82 g83 g84
  go_upto_region 7 with (fail)
  clear p0 p1 p2 p3 p4 p5 q0 q1 q2 q3 q4 q5 r0 r1 r2 r3 r4 r5 s0 s1 s2 s3 s4 s5
  go_wp2_with fail
  refine (H5.out _ (HM.out.keep K8.out)).mono ?_
  rintro e W9 ⟨rfl, hk9⟩
  have K9 := Lib.hid (K8.out.trans0 hk9); clear hk9 K8
  go_wp2_with fail
  refine (H6.out _).mono ?_
  rintro e W10 ⟨rfl, hk10⟩
  have K10 := Lib.hid (K9.out.trans0 hk10); clear hk10 K9
  go_wp2_with fail
  refine (H7.out _ (HM.out.keep K10.out)).mono ?_
  rintro e W11 ⟨rfl, hk11⟩
  have K11 := Lib.hid (K10.out.trans0 hk11); clear hk11 K10
  go_wp2_with fail
  refine (H8.out _).mono ?_
  rintro e W12 ⟨rfl, hk12⟩
  have K12 := Lib.hid (K11.out.trans0 hk12); clear hk12 K11
  go_wp2_with fail
  refine (H9.out _ (HM.out.keep K12.out)).mono ?_
  rintro e W13 ⟨rfl, hk13⟩
  have K13 := Lib.hid (K12.out.trans0 hk13); clear hk13 K12
  go_wp2_with fail
  refine (H10.out _).mono ?_
  rintro e W14 ⟨rfl, hk14⟩
  have K14 := Lib.hid (K13.out.trans0 hk14); clear hk14 K13
  go_wp2
  go_ret
  exact ⟨rfl, K14.out⟩
end Go.Proofs.Ytodbjehggkdjaaa
namespace Go.Proofs.Ytodbjehggkdjaaa
open Go.RowKit
set_option linter.unusedVariables false
set_option linter.unusedSimpArgs false

def s0 : ByteArray := ⟨#[97, 110, 204, 131, 13, 10, 240, 157, 132, 158, 255]⟩
theorem s0_size : s0.size = 11 := rfl
theorem s0_a : atR s0 3 7 = (some 6, 0) := by kernel_rfl
theorem s0_b : atR s0 3 6 = (none, 4) := by kernel_rfl
theorem s0_c : cellR s0 1 4 = (some 3, 0) := by kernel_rfl
theorem s0_6 : spV s0 6 = #[.int .i64 10, .int .i64 6, .int .i64 7, .int .i64 4, .int .i64 2, .int .i64 2] := by kernel_rfl
theorem s0_3 : spV s0 3 = #[.int .i64 4, .int .i64 3, .int .i64 3, .int .i64 2, .int .i64 1, .int .i64 4] := by kernel_rfl
theorem s0_l : ln s0 (np s0) = 2 := by kernel_rfl
theorem kn_new (w : World) : Calls Try.prog 8 #[.string ⟨#[97, 110, 204, 131, 13, 10, 240, 157, 132, 158, 255]⟩] w fun e w' => ∃ mb, e = .returned (.pointer (some ⟨mb, 0, none⟩)) ∧ w.heap.size ≤ mb ∧ MapAt w' mb s0 ∧ Keep [] w w' := new_any s0 w (by rw [s0_size]; decide)
theorem kn_at7 (mb : Nat) (w : World) (h : MapAt w mb s0) : Calls Try.prog 13 #[.pointer (some ⟨mb, 0, none⟩), .int .i64 3, .int .i64 7] w fun e w' => e = .returned (.tuple #[.agg #[.int .i64 10, .int .i64 6, .int .i64 7, .int .i64 4, .int .i64 2, .int .i64 2], .int .i64 0]) ∧ Keep [] w w' := by
  have := at_any mb s0 3 7 w h (by rw [s0_size]; decide) (by decide) (by decide)
  rw [s0_a] at this
  simp only [spO, s0_6] at this
  exact this
theorem kn_at6 (mb : Nat) (w : World) (h : MapAt w mb s0) : Calls Try.prog 13 #[.pointer (some ⟨mb, 0, none⟩), .int .i64 3, .int .i64 6] w fun e w' => e = .returned (.tuple #[.agg #[.int .i64 0, .int .i64 0, .int .i64 0, .int .i64 0, .int .i64 0, .int .i64 0], .int .i64 4]) ∧ Keep [] w w' := by
  have := at_any mb s0 3 6 w h (by rw [s0_size]; decide) (by decide) (by decide)
  rw [s0_b] at this
  exact this
theorem kn_cell (mb : Nat) (w : World) (h : MapAt w mb s0) : Calls Try.prog 11 #[.pointer (some ⟨mb, 0, none⟩), .int .i64 1, .int .i64 4] w fun e w' => e = .returned (.tuple #[.agg #[.int .i64 4, .int .i64 3, .int .i64 3, .int .i64 2, .int .i64 1, .int .i64 4], .int .i64 0]) ∧ Keep [] w w' := by
  have := cell_any mb s0 1 4 w h (by rw [s0_size]; decide) (by decide) (by decide)
  rw [s0_c] at this
  simp only [spO, s0_3] at this
  exact this
theorem kn_lines (mb : Nat) (w : World) (h : MapAt w mb s0) : Calls Try.prog 16 #[.pointer (some ⟨mb, 0, none⟩)] w fun e w' => e = .returned (.int .i64 2) ∧ Keep [] w w' := by
  have := lines_any mb s0 w h
  rw [s0_l] at this
  exact this

set_option maxRecDepth 100000 in
set_option maxHeartbeats 8000000 in
theorem known_any (w : World) : Calls Try.prog 7 #[] w fun e w' => e = .returned (.bool true) ∧ Keep [] w w' := by
  go_enter Try.func7, Try.ntmps7
  go_wp2_with fail
  (with_reducible refine (kn_new _).mono ?_)
  rintro e W1 ⟨mb, rfl, _, hm, hk1⟩
  have HM := Lib.hid hm; have K1 := Lib.hid hk1; clear hm hk1
  go_wp2_with fail
  (with_reducible refine (kn_at7 _ _ HM.out).mono ?_)
  rintro e W2 ⟨rfl, hk2⟩
  have K2 := Lib.hid (K1.out.trans0 hk2); have HM2 := Lib.hid (HM.out.keep hk2); clear hk2 K1 HM
  go_upto_region 5 with (fail)
  obtain ⟨B1, hB1⟩ : ∃ B, B = W2.heap.size := ⟨_, rfl⟩
  refine wp_cut (fun W => Keep [] w W ∧ MapAt W mb s0 ∧ W.heap[W2.heap.size]? = some (.cells #[.int .i64 10, .int .i64 6, .int .i64 7, .int .i64 4, .int .i64 2, .int .i64 2] 29 (0, 0))) ⟨K2.out.alloc _, HM2.out.keep ((Keep.refl [] _).alloc _), World.alloc_heap_new W2 _⟩ ?_
  rw [← hB1]
  rintro W3 ⟨k3, m3, g3⟩
  clear hB1 K2 HM2
  have K3 := Lib.hid k3; have M3 := Lib.hid m3; have G3 := Lib.hid g3; clear k3 m3 g3
  go_wp2_with fail
  (with_reducible refine (kn_at6 _ _ M3.out).mono ?_)
  rintro e W4 ⟨rfl, hk4⟩
  have K4 := Lib.hid (K3.out.trans0 (hk4.alloc (.cells #[.int .i64 0, .int .i64 0, .int .i64 0, .int .i64 0, .int .i64 0, .int .i64 0] 29))); have M4 := Lib.hid (M3.out.keep (hk4.alloc (.cells #[.int .i64 0, .int .i64 0, .int .i64 0, .int .i64 0, .int .i64 0, .int .i64 0] 29))); have G4 := Lib.hid ((hk4.alloc (.cells #[.int .i64 0, .int .i64 0, .int .i64 0, .int .i64 0, .int .i64 0, .int .i64 0] 29)).at_ G3.out (by simp)); clear hk4 K3 M3 G3
  go_upto_region 6 with (fail)
  refine wp_cut (fun W => Keep [] w W ∧ MapAt W mb s0 ∧ W.heap[B1]? = some (.cells #[.int .i64 10, .int .i64 6, .int .i64 7, .int .i64 4, .int .i64 2, .int .i64 2] 29 (0, 0))) ⟨K4.out, M4.out, G4.out⟩ ?_
  rintro W5 ⟨k5, m5, g5⟩
  have K5 := Lib.hid k5; have M5 := Lib.hid m5; have G5 := Lib.hid g5; clear k5 m5 g5 K4 M4 G4
  go_wp2_with fail
  (with_reducible refine (kn_cell _ _ M5.out).mono ?_)
  rintro e W6 ⟨rfl, hk6⟩
  have K6 := Lib.hid (K5.out.trans0 hk6); have M6 := Lib.hid (M5.out.keep hk6); have G6 := Lib.hid (hk6.at_ G5.out (by simp)); clear hk6 K5 M5 G5
  go_upto_region 7 with (fail)
  refine wp_cut (fun W => Keep [] w W ∧ MapAt W mb s0 ∧ W.heap[B1]? = some (.cells #[.int .i64 10, .int .i64 6, .int .i64 7, .int .i64 4, .int .i64 2, .int .i64 2] 29 (0, 0)) ∧ W.cell? ⟨W6.heap.size, 0, none⟩ = some (.int .i64 4)) ⟨K6.out.alloc _, M6.out.keep ((Keep.refl [] _).alloc _), ((Keep.refl [] _).alloc _).at_ G6.out (by simp), cell_of_block (World.alloc_heap_new W6 _) 0⟩ ?_
  rintro W7 ⟨k7, m7, g7, c7⟩
  have p0 := cell_of_block g7 0; have p1 := cell_of_block g7 1; have p2 := cell_of_block g7 2; have p3 := cell_of_block g7 3; have p4 := cell_of_block g7 4; have p5 := cell_of_block g7 5
  simp at p0 p1 p2 p3 p4 p5
  have K7 := Lib.hid k7; have M7 := Lib.hid m7; clear k7 m7 g7 K6 M6 G6
  go_wp2_with fail
  (with_reducible refine (kn_lines _ _ M7.out).mono ?_)
  rintro e W8 ⟨rfl, hk8⟩
  have K8 := Lib.hid (K7.out.trans0 hk8); clear hk8
  go_wp2
  go_ret
  exact ⟨rfl, K8.out⟩
end Go.Proofs.Ytodbjehggkdjaaa
