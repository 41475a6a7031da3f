/-
  Walks of the law's helpers: known.
-/
import Derived.Test.YtfhgeanacecpjaaDoorLawB
namespace Go.Proofs.YtfhgeanacecpjaaDoor
open Go.RowKit Go.Shelf
set_option linter.unusedVariables false

theorem SlAt.new (w : World) (cs : List Value) (e : TypeId) (n : Nat) (h0 : n = 0 → cs = []) : SlAt (w.alloc (.cells cs.toArray e)) (.slice (some ⟨w.heap.size, 0, none⟩) n n) n cs :=
  ⟨_, n, rfl, ⟨h0, fun h => by cases h⟩, fun _ => ⟨w.heap.size, 0, rfl, fun i u hu => by rw [Nat.zero_add, cell_of_block (heap_alloc_new w _)]; simpa using hu⟩⟩

theorem two_lists (w : World) : SlAt ((w.alloc (.cells #[.int .i64 1, .int .i64 2] 3)).alloc (.cells #[.int .i64 2] 3)) (.slice (some ⟨w.heap.size, 0, none⟩) 2 2) 2 ([1, 2].map (Value.int .i64)) ∧
    SlAt ((w.alloc (.cells #[.int .i64 1, .int .i64 2] 3)).alloc (.cells #[.int .i64 2] 3)) (.slice (some ⟨w.heap.size + 1, 0, none⟩) 1 1) 1 ([2].map (Value.int .i64)) := by
  refine ⟨(SlAt.new w [.int .i64 1, .int .i64 2] 3 2 (by simp)).keep0 ((Keep.refl _ _).alloc _), ?_⟩
  have := SlAt.new (w.alloc (.cells #[.int .i64 1, .int .i64 2] 3)) [.int .i64 2] 3 1 (by simp)
  rwa [World.size_alloc] at this
theorem one_list (w : World) (n : Int) : SlAt (w.alloc (.cells #[.int .i64 n] 3)) (.slice (some ⟨w.heap.size, 0, none⟩) 1 1) 1 ([n].map (Value.int .i64)) :=
  SlAt.new w [.int .i64 n] 3 1 (by simp)

theorem known_load3 : loadErr [1, 2] [2] 3 = 0 := by decide +kernel
theorem known_load4 : loadErr [1, 2] [2] 4 = 6 := by decide +kernel
theorem known_bits : bitsOf 0 [1, 2] = 6 ∧ bitsOf 0 [2] = 4 ∧ bitList (butNot 6 4) = [1] ∧ bitList 4 = [2] := by decide +kernel

set_option maxHeartbeats 4000000 in
theorem known_true (w : World) (hT : TabW w) : Calls Tryd.prog 10 #[] w fun r w' => r = .returned (.bool true) ∧ Keep [] w w' := by
  have HT := Lib.hid hT; clear hT
  go_enter Tryd.func10, Tryd.ntmps10
  go_wp2_with fail
  refine (new_any w).mono ?_
  rintro r w1 ⟨rfl, hw1⟩
  have hr1 : RollAt w1 w.heap.size 0 0 0 := by rw [hw1]; exact ⟨by decide, by decide, heap_alloc_new w _⟩
  have hk1 : Keep [] w w1 := by rw [hw1]; exact (Keep.refl _ _).alloc _
  clear hw1
  obtain ⟨b, hb⟩ : ∃ b, b = w.heap.size := ⟨_, rfl⟩
  rw [← hb] at hr1 ⊢
  have HB := Lib.hid hb; have R1 := Lib.hid hr1; have K1 := Lib.hid hk1; clear hb hr1 hk1
  go_wp2_with fail
  refine (join_any b 0 0 0 2 w1 R1.out (by decide) (by decide)).mono ?_
  rintro r w2 ⟨rfl, h2, k2⟩
  rw [show joinR 0 0 2 = true by decide] at h2 ⊢
  rw [show withBit 0 2 = 4 by decide] at h2
  have R2 := Lib.hid h2; have K2 := Lib.hid ((K1.out.mono (L' := []) (by simp)).trans k2 (by have := HB.out; simp; omega)); clear h2 k2 R1 K1
  go_wp2_with fail
  refine (join_any b 4 0 1 2 w2 R2.out (by decide) (by decide)).mono ?_
  rintro r w3 ⟨rfl, h3, k3⟩
  rw [show joinR 4 0 2 = false by decide] at h3 ⊢
  rw [show withBit 4 2 = 4 by decide] at h3
  have R3 := Lib.hid h3; have K3 := Lib.hid (K2.out.trans k3 (by have := HB.out; simp; omega)); clear h3 k3 R2 K2
  go_wp2_with fail
  refine (join_any b 4 0 1 1 w3 R3.out (by decide) (by decide)).mono ?_
  rintro r w4 ⟨rfl, h4, k4⟩
  rw [show joinR 4 0 1 = true by decide] at h4 ⊢
  rw [show withBit 4 1 = 6 by decide] at h4
  have R4 := Lib.hid h4; have K4 := Lib.hid (K3.out.trans k4 (by have := HB.out; simp; omega)); clear h4 k4 R3 K3
  go_wp2_with fail
  refine (leave_any b 6 0 2 2 w4 R4.out (by decide) (by decide)).mono ?_
  rintro r w5 ⟨rfl, h5, k5⟩
  rw [show leaveR 6 0 2 = true by decide] at h5 ⊢
  rw [show withBit 0 2 = 4 by decide] at h5
  have R5 := Lib.hid h5; have K5 := Lib.hid (K4.out.trans k5 (by have := HB.out; simp; omega)); clear h5 k5 R4 K4
  go_wp2_with fail
  have hl := two_lists w5
  have ha : Keep [] w5 ((w5.alloc (.cells #[.int .i64 1, .int .i64 2] 3)).alloc (.cells #[.int .i64 2] 3)) := ((Keep.refl _ _).alloc _).alloc _
  generalize (w5.alloc (.cells #[.int .i64 1, .int .i64 2] 3)).alloc (.cells #[.int .i64 2] 3) = wa at hl ha ⊢
  refine (load_any _ _ [1, 2] [2] 3 wa hl.1 hl.2 (by decide) (by decide) (by decide)).mono ?_
  rintro r w6 ⟨k6, ⟨_, b2, hb2, rfl, r6⟩ | ⟨h6, _⟩⟩
  · rw [known_bits.1, known_bits.2.1] at r6
    have K5' := Lib.hid (K5.out.trans0 ha)
    have hb2' : w.heap.size ≤ b2 := Nat.le_trans (K5'.out.size) hb2
    have R6 := Lib.hid (R5.out.keep (ha.trans0 k6) (by simp)); have Q6 := Lib.hid r6; have K6 := Lib.hid (K5'.out.trans0 k6)
    clear hl ha k6 r6 hb2 R5 K5 K5'
    go_wp2_with fail
    have hl := two_lists w6
    have ha : Keep [] w6 ((w6.alloc (.cells #[.int .i64 1, .int .i64 2] 3)).alloc (.cells #[.int .i64 2] 3)) := ((Keep.refl _ _).alloc _).alloc _
    generalize (w6.alloc (.cells #[.int .i64 1, .int .i64 2] 3)).alloc (.cells #[.int .i64 2] 3) = wb at hl ha ⊢
    refine (load_any _ _ [1, 2] [2] 4 wb hl.1 hl.2 (by decide) (by decide) (by decide)).mono ?_
    rintro r w7 ⟨k7, ⟨h7, _⟩ | ⟨_, rfl⟩⟩
    · rw [known_load4] at h7; exact absurd h7 (by decide)
    · rw [known_load4]
      have R7 := Lib.hid (R6.out.keep (ha.trans0 k7) (by simp)); have Q7 := Lib.hid (Q6.out.keep (ha.trans0 k7) (by simp)); have K7 := Lib.hid ((K6.out.trans0 ha).trans0 k7)
      clear hl ha k7 R6 Q6 K6
      go_wp2_with fail
      refine (members_any b 6 4 3 w7 R7.out (HT.out.keep K7.out (by simp))).mono ?_
      intro r w8 h1
      rw [known_bits.2.2.1] at h1
      obtain ⟨v8, rfl, hs1, hk1⟩ := h1.sl
      have S8 := Lib.hid hs1; have K8 := Lib.hid (K7.out.trans0 hk1); have R8 := Lib.hid (R7.out.keep hk1 (by simp)); have Q8 := Lib.hid (Q7.out.keep hk1 (by simp)); clear h1 hs1 hk1 K7 R7 Q7
      go_wp2_with fail
      have hl := one_list w8 1
      have ha : Keep [] w8 (w8.alloc (.cells #[.int .i64 1] 3)) := (Keep.refl _ _).alloc _
      generalize w8.alloc (.cells #[.int .i64 1] 3) = wc at hl ha ⊢
      refine (ints_any v8 _ [1] [1] wc (S8.out.keep0 ha) hl (by decide) (by decide)).mono ?_
      rintro r w9 ⟨rfl, hd⟩
      rw [sameB_self]
      have K9 := Lib.hid ((K8.out.trans0 ha).trans0 hd.keep); have R9 := Lib.hid (R8.out.keep (ha.trans0 hd.keep) (by simp)); have Q9 := Lib.hid (Q8.out.keep (ha.trans0 hd.keep) (by simp)); clear hl ha hd S8 K8 R8 Q8
      go_wp2_with fail
      refine (left_any b 6 4 3 w9 R9.out (HT.out.keep K9.out (by simp))).mono ?_
      intro r w10 h1
      rw [known_bits.2.2.2] at h1
      obtain ⟨v10, rfl, hs1, hk1⟩ := h1.sl
      have S8 := Lib.hid hs1; have K8 := Lib.hid (K9.out.trans0 hk1); have R8 := Lib.hid (R9.out.keep hk1 (by simp)); have Q8 := Lib.hid (Q9.out.keep hk1 (by simp)); clear h1 hs1 hk1 K9 R9 Q9
      go_wp2_with fail
      have hl := one_list w10 2
      have ha : Keep [] w10 (w10.alloc (.cells #[.int .i64 2] 3)) := (Keep.refl _ _).alloc _
      generalize w10.alloc (.cells #[.int .i64 2] 3) = wd at hl ha ⊢
      refine (ints_any v10 _ [2] [2] wd (S8.out.keep0 ha) hl (by decide) (by decide)).mono ?_
      rintro r w11 ⟨rfl, hd⟩
      rw [sameB_self]
      have K9 := Lib.hid ((K8.out.trans0 ha).trans0 hd.keep); have R9 := Lib.hid (R8.out.keep (ha.trans0 hd.keep) (by simp)); have Q9 := Lib.hid (Q8.out.keep (ha.trans0 hd.keep) (by simp)); clear hl ha hd S8 K8 R8 Q8
      go_wp2_with fail
      refine (epoch_any b 6 4 3 w11 R9.out).mono ?_
      rintro r w12 ⟨rfl, rfl⟩
      go_wp2_with fail
      refine (members_any b2 6 4 3 w11 Q9.out (HT.out.keep K9.out (by simp))).mono ?_
      intro r w12 h1
      rw [known_bits.2.2.1] at h1
      obtain ⟨v12, rfl, hs1, hk1⟩ := h1.sl
      have S8 := Lib.hid hs1; have K8 := Lib.hid (K9.out.trans0 hk1); clear h1 hs1 hk1 K9
      go_wp2_with fail
      have hl := one_list w12 1
      have ha : Keep [] w12 (w12.alloc (.cells #[.int .i64 1] 3)) := (Keep.refl _ _).alloc _
      generalize w12.alloc (.cells #[.int .i64 1] 3) = we at hl ha ⊢
      refine (ints_any v12 _ [1] [1] we (S8.out.keep0 ha) hl (by decide) (by decide)).mono ?_
      rintro r w13 ⟨rfl, hd⟩
      rw [sameB_self]
      have K9 := Lib.hid ((K8.out.trans0 ha).trans0 hd.keep); clear hl ha hd S8 K8
      go_wp2
      go_ret
      exact ⟨rfl, K9.out⟩
  · rw [known_load3] at h6; exact absurd rfl h6
end Go.Proofs.YtfhgeanacecpjaaDoor
