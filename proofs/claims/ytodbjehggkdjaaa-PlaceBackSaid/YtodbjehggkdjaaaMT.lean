/-
  The reference's At and Cell.
-/
import Derived.Test.YtodbjehggkdjaaaPlaN
import Derived.Test.YtodbjehggkdjaaaMR
namespace Go.Proofs.Ytodbjehggkdjaaa
open Go.RowKit
set_option linter.unusedVariables false
set_option linter.unusedSimpArgs false

theorem rcount3_any (s : ByteArray) (k : Nat) (u : Int) (w : World) : Calls Try.prog 39 #[.agg (spV s k), .int .i64 u] w fun e w' => e = .returned (.int .i64 (cnt s u k : Nat)) ∧ Keep [] w w' := by
  unfold spV
  have h4 : u = 1 ∨ (u ≠ 1 ∧ u = 2) ∨ (u ≠ 1 ∧ u ≠ 2 ∧ u = 3) ∨ (u ≠ 1 ∧ u ≠ 2 ∧ u ≠ 3) := by omega
  rcases h4 with h | ⟨h1, h2⟩ | ⟨h1, h2, h3⟩ | ⟨h1, h2, h3⟩
  · have HC : Hid (cnt s u k = pos s k) := Lib.hid (if_pos h)
    have t1 : (u == 1) = true := by simpa using h
    clear h
    go_enter Try.func39, Try.ntmps39
    go_wp2
    go_ret
    rw [HC.out]; exact ⟨rfl, (Keep.refl _ _).alloc _⟩
  · have HC : Hid (cnt s u k = k) := Lib.hid (by unfold cnt; rw [if_neg h1, if_pos h2])
    have t1 : (u == 1) = false := by simpa using h1
    have t2 : (u == 2) = true := by simpa using h2
    clear h1 h2
    go_enter Try.func39, Try.ntmps39
    go_wp2
    go_ret
    rw [HC.out]; exact ⟨rfl, (Keep.refl _ _).alloc _⟩
  · have HC : Hid (cnt s u k = un s k) := Lib.hid (by unfold cnt; rw [if_neg h1, if_neg h2, if_pos h3])
    have t1 : (u == 1) = false := by simpa using h1
    have t2 : (u == 2) = false := by simpa using h2
    have t3 : (u == 3) = true := by simpa using h3
    clear h1 h2 h3
    go_enter Try.func39, Try.ntmps39
    go_wp2
    go_ret
    rw [HC.out]; exact ⟨rfl, (Keep.refl _ _).alloc _⟩
  · have HC : Hid (cnt s u k = cl s k) := Lib.hid (by unfold cnt; rw [if_neg h1, if_neg h2, if_neg h3])
    have t1 : (u == 1) = false := by simpa using h1
    have t2 : (u == 2) = false := by simpa using h2
    have t3 : (u == 3) = false := by simpa using h3
    clear h1 h2 h3
    go_enter Try.func39, Try.ntmps39
    go_wp2
    go_ret
    rw [HC.out]; exact ⟨rfl, (Keep.refl _ _).alloc _⟩

theorem rknown_any (u : Int) (w : World) : Calls Try.prog 40 #[.int .i64 u] w fun e w' => e = .returned (.bool (decide (1 ≤ u) && decide (u ≤ 4))) ∧ w = w' := by
  obtain ⟨b1, h1⟩ : ∃ b, decide (1 ≤ u) = b := ⟨_, rfl⟩
  obtain ⟨b2, h2⟩ : ∃ b, decide (u ≤ 4) = b := ⟨_, rfl⟩
  rw [h1, h2]
  cases b1
  all_goals
    go_enter Try.func40, Try.ntmps40
    go_wp2
    go_ret
    exact ⟨rfl, rfl⟩

/-- The spots, as the reference has them. -/
theorem NewSl.spots {s : ByteArray} {w : World} {r : Ending} {w' : World} (h : NewSl 29 6 (np s + 1) (spCells s (np s + 1)) w r w') :
    ∃ b off cap, r = .returned (.slice (some ⟨b, off, none⟩) (np s + 1) cap) ∧ Keep [] w w' ∧ ∀ k, k < np s + 1 → w'.cell? ⟨b, off + k * 6, none⟩ = some (.int .i64 (pos s k : Nat)) ∧ w'.cell? ⟨b, off + k * 6 + 1, none⟩ = some (.int .i64 (k : Nat)) ∧ w'.cell? ⟨b, off + k * 6 + 2, none⟩ = some (.int .i64 (un s k : Nat)) ∧
      w'.cell? ⟨b, off + k * 6 + 3, none⟩ = some (.int .i64 (cl s k : Nat)) ∧ w'.cell? ⟨b, off + k * 6 + 4, none⟩ = some (.int .i64 (ln s k : Nat)) ∧ w'.cell? ⟨b, off + k * 6 + 5, none⟩ = some (.int .i64 (co s k : Nat)) := by
  obtain ⟨v, rfl, ho, hk, _⟩ := h
  obtain ⟨b, off, cap, rfl, hc⟩ := SpAt.cells (SlAt.of_owns ho) (by omega)
  exact ⟨b, off, cap, rfl, hk, hc⟩

set_option maxHeartbeats 4000000 in
theorem rlen_any (s : ByteArray) (u : Int) (w : World) (hz : s.size ≤ 1000000) :
    Calls Try.prog 22 #[.string s, .int .i64 u] w fun e w' => e = .returned (.tuple #[.int .i64 (lenR s u).1, .int .i64 (lenR s u).2]) ∧ Keep [] w w' := by
  have hnp := np_le s
  by_cases hu : u < 1 ∨ 4 < u
  · have HL : Hid (lenR s u = (0, 1)) := Lib.hid (if_pos hu)
    have hb : (decide (1 ≤ u) && decide (u ≤ 4)) = false := by rw [Bool.and_eq_false_iff, decide_eq_false_iff_not, decide_eq_false_iff_not]; omega
    have HB := Lib.hid hb
    clear hu hb
    go_enter Try.func22, Try.ntmps22
    go_wp2_with fail
    refine (rknown_any u _).mono ?_
    rintro e w1 ⟨rfl, rfl⟩
    rw [HB.out]
    go_wp2
    go_ret2
    rw [HL.out]; exact ⟨rfl, Keep.refl _ _⟩
  · have HL : Hid (lenR s u = (((cnt s u (np s) : Nat) : Int), 0)) := Lib.hid (if_neg hu)
    have hb : (decide (1 ≤ u) && decide (u ≤ 4)) = true := by rw [Bool.and_eq_true, decide_eq_true_eq, decide_eq_true_eq]; omega
    have HB := Lib.hid hb
    clear hu hb
    go_enter Try.func22, Try.ntmps22
    go_wp2_with fail
    refine (rknown_any u _).mono ?_
    rintro e w1 ⟨rfl, rfl⟩
    rw [HB.out]
    go_wp2_with fail
    refine (spots_any s _ hz).mono ?_
    intro e w1 hN
    obtain ⟨b, off, cap, rfl, hk, hc⟩ := hN.spots
    obtain ⟨d0, d1, d2, d3, d4, d5⟩ := hc (np s) (by omega)
    have K1 := Lib.hid hk
    clear hN hk hc
    go_wp2_with fail
    refine (rcount3_any s (np s) u _).mono ?_
    rintro e w2 ⟨rfl, hk2⟩
    have K2 := Lib.hid (K1.out.trans0 hk2)
    clear hk2
    go_wp2
    go_ret2
    rw [HL.out]; exact ⟨rfl, K2.out⟩

set_option maxHeartbeats 4000000 in
theorem rlines_any (s : ByteArray) (w : World) (hz : s.size ≤ 1000000) :
    Calls Try.prog 10 #[.string s] w fun e w' => e = .returned (.int .i64 (ln s (np s) : Nat)) ∧ Keep [] w w' := by
  have hnp := np_le s
  go_enter Try.func10, Try.ntmps10
  go_wp2_with fail
  refine (spots_any s _ hz).mono ?_
  intro e w1 hN
  obtain ⟨b, off, cap, rfl, hk, hc⟩ := hN.spots
  obtain ⟨d0, d1, d2, d3, d4, d5⟩ := hc (np s) (by omega)
  have K1 := Lib.hid hk
  clear hN hk hc
  go_wp2
  go_ret
  exact ⟨rfl, K1.out⟩
set_option maxRecDepth 100000 in
set_option maxHeartbeats 8000000 in
theorem rline_any (s : ByteArray) (l : Int) (w : World) (hz : s.size ≤ 1000000) :
    Calls Try.prog 23 #[.string s, .int .i64 l] w fun e w' => e = .returned (.tuple #[.string (lineR s l).1, .int .i64 (lineR s l).2]) ∧ Keep [] w w' := by
  have hnp := np_le s
  have hll := ln_le s (np s)
  by_cases hl : l < 1 ∨ (ln s (np s) : Int) < l
  · have HR := Lib.hid (lineR_out (s := s) hl)
    by_cases h1 : l < 1
    · have t1 : decide (l < 1) = true := by simpa using h1
      clear hl h1
      go_enter Try.func23, Try.ntmps23
      go_wp2
      go_ret2
      rw [HR.out]
      exact ⟨rfl, Keep.refl _ _⟩
    · have t1 : decide (l < 1) = false := by simpa using h1
      have t2 : decide (((ln s (np s) : Nat) : Int) < l) = true := by simp; omega
      clear hl h1
      go_enter Try.func23, Try.ntmps23
      go_wp2_with fail
      refine (rlines_any s _ hz).mono ?_
      rintro e w1 ⟨rfl, hk1⟩
      have K1 := Lib.hid hk1; clear hk1
      go_wp2
      go_ret2
      rw [HR.out]
      exact ⟨rfl, K1.out⟩
  · obtain ⟨j, rfl⟩ : ∃ j : Nat, l = (j : Int) + 1 := ⟨l.toNat - 1, by omega⟩
    have hjl : j < (lns s).length := by rw [lns_len]; omega
    have hj : (lns s)[j]? = some (lns s)[j] := List.getElem?_eq_getElem hjl
    generalize (lns s)[j] = a at *
    have HR := Lib.hid (lineR_in hj)
    have hanp := st_np hj
    have hanx := (line_is (k := a) hanp hj).2.2
    have hnx := nx_le s j
    rw [lns_len] at hjl
    have t1 : decide ((j : Int) + 1 < 1) = false := by simp; omega
    have t2 : decide (((ln s (np s) : Nat) : Int) < (j : Int) + 1) = false := by simp; omega
    have HLI := Lib.hid (fun k (hk : k ≤ np s) => line_is hk hj)
    have HJ := Lib.hid hj
    clear hl hj
    go_enter Try.func23, Try.ntmps23
    go_wp2_with fail
    refine (rlines_any s _ hz).mono ?_
    rintro e w1 ⟨rfl, hk1⟩
    have K1 := Lib.hid hk1; clear hk1
    go_wp2_with fail
    refine (spots_any s _ hz).mono ?_
    intro e w2 hN
    obtain ⟨b, off, cap, rfl, hk, hc⟩ := hN.spots
    have K2 := Lib.hid (K1.out.trans0 hk); have HC := Lib.hid hc
    clear hN hk hc
    clear t1 t2
    go_wp2
    go_loopw [7, 8, 9] (fun fr tt i wr => ∃ k : Nat, k ≤ np s + 1 ∧ i = .int .i64 ((k : Int) - 1) ∧ fr = .int .i64 (if k < nx s j then ((pos s (max k a) : Nat) : Int) else -1) ∧ tt = .int .i64 (pos s (max k (nx s j)) : Nat) ∧ w2 = wr) (fun _ _ i _ => (intOf i + 1).toNat)
    case atStart =>
      refine ⟨np s + 1, Nat.le_refl _, congrArg (Value.int .i64) (by omega), ?_, ?_, rfl⟩
      · rw [if_neg (by omega)]
      · rw [pos_end (by omega)]
    case round =>
      obtain ⟨k, hk, rfl, rfl, rfl, rfl⟩ := hrel
      cases k with
      | zero =>
        rw [show (((0 : Nat) : Int) - 1) = (-1 : Int) from rfl, if_pos (by omega), show max 0 a = a by omega, show max 0 (nx s j) = nx s j by omega]
        have hle : pos s a ≤ pos s (nx s j) := by
          by_cases h : nx s j ≤ np s
          · exact Nat.le_of_lt (pos_mono hanx h)
          · rw [pos_end (k := nx s j) (by omega)]; exact pos_le s a
        have hsl := slice_part s hle (pos_le s (nx s j))
        go_wp2
        go_ret2
        rw [HR.out]
        exact ⟨rfl, K2.out⟩
      | succ k =>
        rw [show (((k + 1 : Nat) : Int) - 1) = (k : Int) by omega]
        obtain ⟨d0, d1, d2, d3, d4, d5⟩ := HC.out k (by omega)
        have hli := HLI.out k (by omega)
        have hkn : (k : Int) < (np s : Int) + 1 := by omega
        have hki : IntKind.i64.wrap ((k : Int) - 1) = ((k : Int) - 1) := by rw [IntKind.wrap_i64]; omega
        have hfin : Hid ((if nx s j ≤ k then ((pos s k : Nat) : Int) else (pos s (max (k + 1) (nx s j)) : Nat)) = (pos s (max k (nx s j)) : Nat) ∧
            (if a ≤ k ∧ k < nx s j then ((pos s k : Nat) : Int) else (if k + 1 < nx s j then ((pos s (max (k + 1) a) : Nat) : Int) else -1)) = (if k < nx s j then ((pos s (max k a) : Nat) : Int) else -1)) := Lib.hid (by
          constructor
          · split
            · rw [show max k (nx s j) = k by omega]
            · rw [show max k (nx s j) = max (k + 1) (nx s j) by omega]
          · by_cases h1 : a ≤ k ∧ k < nx s j
            · rw [if_pos h1, if_pos h1.2, show max k a = k by omega]
            · rw [if_neg h1]
              by_cases h2 : k < nx s j
              · rw [if_pos (show k + 1 < nx s j by omega), if_pos h2, show max k a = max (k + 1) a by omega]
              · rw [if_neg (show ¬ k + 1 < nx s j by omega), if_neg h2])
        generalize hF : (if k + 1 < nx s j then ((pos s (max (k + 1) a) : Nat) : Int) else -1) = F at *
        generalize hT : pos s (max (k + 1) (nx s j)) = T at *
        clear hF hT
        have HLK := Lib.hid hli
        clear hli
        generalize hln : ln s k = lk at *
        clear hln
        rcases Nat.lt_trichotomy (j + 1) lk with h | h | h
        · have t1 : decide ((j : Int) + 1 < (lk : Int)) = true := by simp; omega
          have t2 : ((lk : Int) == (j : Int) + 1) = false := by simp; omega
          have h1 := HLK.out.1.1 h
          have HF : Hid (Value.int .i64 F = .int .i64 (if k < nx s j then ((pos s (max k a) : Nat) : Int) else -1) ∧ Value.int .i64 (pos s k : Nat) = .int .i64 (pos s (max k (nx s j)) : Nat)) := Lib.hid (by
            have := hfin.out; rw [if_pos h1, if_neg (by omega)] at this; exact ⟨by rw [this.2], by rw [this.1]⟩)
          clear h h1
          go_wp2
          exact ⟨⟨k, by omega, rfl, HF.out.1, HF.out.2, by trivial⟩, by simp [intOf]⟩
        · have t1 : decide ((j : Int) + 1 < (lk : Int)) = false := by simp; omega
          have t2 : ((lk : Int) == (j : Int) + 1) = true := by simp; omega
          have h1 := HLK.out.2.1.1 h.symm
          have HF : Hid (Value.int .i64 (pos s k : Nat) = .int .i64 (if k < nx s j then ((pos s (max k a) : Nat) : Int) else -1) ∧ Value.int .i64 (T : Nat) = .int .i64 (pos s (max k (nx s j)) : Nat)) := Lib.hid (by
            have := hfin.out; rw [if_neg (by omega), if_pos h1] at this; exact ⟨by rw [this.2], by rw [this.1]⟩)
          clear h h1
          go_wp2
          exact ⟨⟨k, by omega, rfl, HF.out.1, HF.out.2, by trivial⟩, by simp [intOf]⟩
        · have t1 : decide ((j : Int) + 1 < (lk : Int)) = false := by simp; omega
          have t2 : ((lk : Int) == (j : Int) + 1) = false := by simp; omega
          have h1 : ¬ nx s j ≤ k := fun h' => by have := HLK.out.1.2 h'; omega
          have h2 : ¬ (a ≤ k ∧ k < nx s j) := fun h' => by have := HLK.out.2.1.2 h'; omega
          have HF : Hid (Value.int .i64 F = .int .i64 (if k < nx s j then ((pos s (max k a) : Nat) : Int) else -1) ∧ Value.int .i64 (T : Nat) = .int .i64 (pos s (max k (nx s j)) : Nat)) := Lib.hid (by
            have := hfin.out; rw [if_neg h1, if_neg h2] at this; exact ⟨by rw [this.2], by rw [this.1]⟩)
          clear h h1 h2
          go_wp2
          exact ⟨⟨k, by omega, rfl, HF.out.1, HF.out.2, by trivial⟩, by simp [intOf]⟩
end Go.Proofs.Ytodbjehggkdjaaa
namespace Go.Proofs.Ytodbjehggkdjaaa
open Go.RowKit
set_option linter.unusedVariables false
set_option linter.unusedSimpArgs false

theorem noSp_row : (Obj.cells #[.int .i64 0, .int .i64 0, .int .i64 0, .int .i64 0, .int .i64 0, .int .i64 0] 29 (0, 0)) = .cells noSp 29 (0, 0) := rfl
theorem spO_size (s : ByteArray) (o : Option Nat) : (spO s o).size = 6 := by cases o <;> rfl
theorem spO_one (s : ByteArray) (o : Option Nat) : (spO s o).all (·.oneCell') = true := by cases o; exact noSp_one; exact spV_one s _

set_option maxRecDepth 100000 in
set_option maxHeartbeats 8000000 in
theorem rat_any (s : ByteArray) (u x : Int) (w : World) (hz : s.size ≤ 1000000) :
    Calls Try.prog 21 #[.string s, .int .i64 u, .int .i64 x] w fun e w' => e = .returned (.tuple #[.agg (spO s (atR s u x).1), .int .i64 (atR s u x).2]) ∧ Keep [] w w' := by
  have hnp := np_le s
  have hstore : ∀ (W : World) (o : Option Nat), W.heap[w.heap.size]? = some (.cells noSp 29 (0, 0)) → Keep [] w W → ∃ W', (Instr.storeAt 29 (.pointer (some ⟨w.heap.size, 0, none⟩)) (.agg (spO s o))).run Try.prog W = .ok () W' ∧
      (loadVar 29 ⟨w.heap.size, 0, none⟩).run Try.prog W' = .ok (.agg (spO s o)) W' ∧ Keep [] w W' := fun W o hb hk => by
    obtain ⟨W', h1, h2, h3⟩ := store_row (P := Try.prog) (t := 29) (cs := spO s o) spot_info hb rfl (spO_size s o) (spO_one s o)
    exact ⟨W', h1, load_var (P := Try.prog) Try.underlying29 rfl spot_info h2 (spO_size s o), hk.trans h3 (fun b hb => by simp at hb; subst hb; exact .inr (Nat.le_refl _))⟩
  have HST := Lib.hid hstore; clear hstore
  go_enter Try.func21, Try.ntmps21
  go_wp2_with fail
  have hk0 : Keep [] w (w.alloc (.cells #[.int .i64 0, .int .i64 0, .int .i64 0, .int .i64 0, .int .i64 0, .int .i64 0] 29)) := (Keep.refl _ _).alloc _
  refine (rlen_any s u _ hz).mono ?_
  rintro e W1 ⟨rfl, hk1⟩
  have X1 := Lib.hid (hk1.at_ (World.alloc_heap_new w (.cells #[.int .i64 0, .int .i64 0, .int .i64 0, .int .i64 0, .int .i64 0, .int .i64 0] 29)) (by simp))
  have K1 := Lib.hid (hk0.trans0 hk1)
  clear hk0 hk1
  by_cases hu : u < 1 ∨ 4 < u
  · have HR : Hid (atR s u x = (none, 1)) := Lib.hid (if_pos hu)
    rw [show lenR s u = (0, 1) from if_pos hu]
    obtain ⟨W7, hs7, hl7, hk7⟩ := HST.out W1 none X1.out K1.out
    have HL7 := Lib.hid hl7; have K7 := Lib.hid hk7
    clear hu hl7 hk7
    go_wp2_with (with_reducible refine park_store 6 20 _ rfl ?_)
    refine wpList_store_eq rfl _ (.tmp 6) (.tmp 20) rfl hs7 ?_
    clear hs7
    go_wp2
    rw [HR.out]
    exact bodyPost_ret (results_cell_two rfl _ _ _ _ _ rfl rfl HL7.out) rfl ⟨rfl, K7.out⟩
  · rw [show lenR s u = (((cnt s u (np s) : Nat) : Int), 0) from if_neg hu]
    have HU := Lib.hid hu; clear hu
    by_cases hx : x < 0 ∨ (cnt s u (np s) : Int) < x
    · have HR : Hid (atR s u x = (none, 3)) := Lib.hid (by unfold atR; rw [if_neg HU.out, if_pos hx])
      obtain ⟨W7, hs7, hl7, hk7⟩ := HST.out W1 none X1.out K1.out
      have HL7 := Lib.hid hl7; have K7 := Lib.hid hk7
      clear hl7 hk7
      have hb : decide (x < 0) = true ∨ (decide (x < 0) = false ∧ decide (((cnt s u (np s) : Nat) : Int) < x) = true) := by
        by_cases h1 : x < 0
        · exact .inl (by simpa using h1)
        · exact .inr ⟨by simpa using h1, by simp; omega⟩
      clear hx
      rcases hb with t1 | ⟨t1, t2⟩
      all_goals
        go_wp2_with (with_reducible refine park_store 6 29 _ rfl ?_)
        refine wpList_store_eq rfl _ (.tmp 6) (.tmp 29) rfl hs7 ?_
        clear hs7
        go_wp2
        rw [HR.out]
        exact bodyPost_ret (results_cell_two rfl _ _ _ _ _ rfl rfl HL7.out) rfl ⟨rfl, K7.out⟩
    · have t1 : decide (x < 0) = false := by simp; omega
      have t2 : decide (((cnt s u (np s) : Nat) : Int) < x) = false := by simp; omega
      have HX := Lib.hid hx; clear hx
      go_wp2_with fail
      refine (spots_any s _ hz).mono ?_
      intro e W2 hN
      obtain ⟨b, off, cap, rfl, hk, hc⟩ := hN.spots
      have K2 := Lib.hid (K1.out.trans0 hk); have X2 := Lib.hid (hk.at_ X1.out (by simp)); have HC := Lib.hid hc
      clear hN hk hc t1 t2
      go_wp2
      go_loopw [11] (fun i wr => ∃ k : Nat, k ≤ np s + 1 ∧ i = .int .i64 k ∧ Keep [] W2 wr ∧ ∀ j, j < k → (cnt s u j : Int) ≠ x) (fun i _ => np s + 1 - (intOf i).toNat)
      case atStart => exact ⟨0, Nat.zero_le _, rfl, Keep.refl _ _, fun j h => by omega⟩
      case round =>
        obtain ⟨k, hk, rfl, hkp, hno⟩ := hrel
        have HNO := Lib.hid hno; clear hno
        by_cases hlt : k < np s + 1
        · have hltd : decide (k < np s + 1) = true := by simpa using hlt
          have hkd : ((k : Int) < (np s : Int) + 1) := by omega
          obtain ⟨d0, d1, d2, d3, d4, d5⟩ := HC.out k hlt
          have d0 := hkp.cellv d0 (by simp)
          have d1 := hkp.cellv d1 (by simp)
          have d2 := hkp.cellv d2 (by simp)
          have d3 := hkp.cellv d3 (by simp)
          have d4 := hkp.cellv d4 (by simp)
          have d5 := hkp.cellv d5 (by simp)
          have KP := Lib.hid hkp; clear hkp
          go_wp2_with fail
          refine (rcount3_any s k u _).mono ?_
          rintro e W3 ⟨rfl, hk3⟩
          have d0 := hk3.cellv d0 (by simp)
          have d1 := hk3.cellv d1 (by simp)
          have d2 := hk3.cellv d2 (by simp)
          have d3 := hk3.cellv d3 (by simp)
          have d4 := hk3.cellv d4 (by simp)
          have d5 := hk3.cellv d5 (by simp)
          have KP3 := Lib.hid (KP.out.trans0 hk3); clear hk3 KP
          by_cases he : (cnt s u k : Int) = x
          · have t3 : (((cnt s u k : Nat) : Int) == x) = true := by simpa using he
            have hfst : fst (cnt s u) x (np s) = k := fst_uniq (cnt_mono s u) (by omega) (by omega) (fun i hi => by
              have h1 := HNO.out i hi; have h2 := cnt_mono s u i k (by omega) (by omega); omega)
            have HR : Hid (atR s u x = (some k, 0)) := Lib.hid (by unfold atR; rw [if_neg HU.out, if_neg HX.out, hfst, if_pos he])
            obtain ⟨W7, hs7, hl7, hk7⟩ := HST.out W3 (some k) (KP3.out.at_ X2.out (by simp)) (K2.out.trans0 KP3.out)
            have HL7 := Lib.hid hl7; have K7 := Lib.hid hk7
            simp only [spO, spV] at hs7
            clear hl7 hk7 he hfst
            go_wp2_with (with_reducible refine park_store 6 49 _ rfl ?_)
            refine wpList_store_eq rfl _ (.tmp 6) (.tmp 49) rfl hs7 ?_
            clear hs7
            go_wp2
            rw [HR.out]
            exact bodyPost_ret (results_cell_two rfl _ _ _ _ _ rfl rfl HL7.out) rfl ⟨rfl, K7.out⟩
          · have t3 : (((cnt s u k : Nat) : Int) == x) = false := by simpa using he
            have HNO2 : Hid (∀ j, j < k + 1 → (cnt s u j : Int) ≠ x) := Lib.hid (fun j hj => by
              by_cases e : j = k
              · subst e; exact he
              · exact HNO.out j (by omega))
            clear he
            go_wp2
            exact ⟨⟨k + 1, by omega, by go_num, KP3.out, HNO2.out⟩, by simp [intOf]; omega⟩
        · have hltd : decide (k < np s + 1) = false := by simpa using hlt
          have hkd : ¬ ((k : Int) < (np s : Int) + 1) := by omega
          have HR : Hid (atR s u x = (none, 4)) := Lib.hid (by
            unfold atR; rw [if_neg HU.out, if_neg HX.out, if_neg (HNO.out _ (by have := fst_le (cnt s u) x (np s); omega))])
          obtain ⟨W7, hs7, hl7, hk7⟩ := HST.out _ none (hkp.at_ X2.out (by simp)) (K2.out.trans0 hkp)
          have HL7 := Lib.hid hl7; have K7 := Lib.hid hk7
          clear hl7 hk7 hkp
          go_wp2_with (with_reducible refine park_store 6 50 _ rfl ?_)
          refine wpList_store_eq rfl _ (.tmp 6) (.tmp 50) rfl hs7 ?_
          clear hs7
          go_wp2
          rw [HR.out]
          exact bodyPost_ret (results_cell_two rfl _ _ _ _ _ rfl rfl HL7.out) rfl ⟨rfl, K7.out⟩
end Go.Proofs.Ytodbjehggkdjaaa
