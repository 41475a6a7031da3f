/-
  The reference's Cell.
-/
import Derived.Test.YtodbjehggkdjaaaMT
namespace Go.Proofs.Ytodbjehggkdjaaa
open Go.RowKit
set_option linter.unusedVariables false
set_option linter.unusedSimpArgs false

/-- The pieces of a line's text. -/
theorem line_text {s : ByteArray} {j a : Nat} (hj : (lns s)[j]? = some a) : np (s.extract (pos s a) (pos s (nx s j))) = min (nx s j) (np s) - a ∧
    ∀ i, i < min (nx s j) (np s) - a → rn (s.extract (pos s a) (pos s (nx s j))) i = rn s (a + i) := by
  have h3 := (line_is (k := a) (st_np hj) hj).2.2
  have hnp := st_np hj
  have e : pos s (nx s j) = pos s (min (nx s j) (np s)) := by
    by_cases h : nx s j ≤ np s
    · rw [show min (nx s j) (np s) = nx s j by omega]
    · rw [pos_end (k := nx s j) (by omega), pos_end (k := min (nx s j) (np s)) (by omega)]
  rw [e]
  exact part_cut (by omega) (by omega)

set_option maxRecDepth 100000 in
set_option maxHeartbeats 32000000 in
theorem rcell_any (s : ByteArray) (l c : Int) (w : World) (hz : s.size ≤ 1000000) :
    Calls Try.prog 12 #[.string s, .int .i64 l, .int .i64 c] w fun e w' => e = .returned (.tuple #[.agg (spO s (cellR s l c).1), .int .i64 (cellR s l c).2]) ∧ Keep [] w w' := by
  have hnp := np_le s
  have hstore : ∀ (W : World) (o : Option Nat), W.heap[w.heap.size]? = some (.cells noSp 29 (0, 0)) → Keep [] w W → ∃ W', (Instr.storeAt 29 (.pointer (some ⟨w.heap.size, 0, none⟩)) (.agg (spO s o))).run Try.prog W = .ok () W' ∧
      (loadVar 29 ⟨w.heap.size, 0, none⟩).run Try.prog W' = .ok (.agg (spO s o)) W' ∧ Keep [] w W' := fun W o hb hk => by
    obtain ⟨W', h1, h2, h3⟩ := store_row (P := Try.prog) (t := 29) (cs := spO s o) spot_info hb rfl (spO_size s o) (spO_one s o)
    exact ⟨W', h1, load_var (P := Try.prog) Try.underlying29 rfl spot_info h2 (spO_size s o), hk.trans h3 (fun b hb => by simp at hb; subst hb; exact .inr (Nat.le_refl _))⟩
  have HST := Lib.hid hstore; clear hstore
  go_enter Try.func12, Try.ntmps12
  go_wp2_with fail
  have hk0 : Keep [] w (w.alloc (.cells #[.int .i64 0, .int .i64 0, .int .i64 0, .int .i64 0, .int .i64 0, .int .i64 0] 29)) := (Keep.refl _ _).alloc _
  refine (rline_any s l _ hz).mono ?_
  rintro e W1 ⟨rfl, hk1⟩
  have X1 := Lib.hid (hk1.at_ (World.alloc_heap_new w (.cells #[.int .i64 0, .int .i64 0, .int .i64 0, .int .i64 0, .int .i64 0, .int .i64 0] 29)) (by simp))
  have K1 := Lib.hid (hk0.trans0 hk1)
  clear hk0 hk1
  by_cases hl : l < 1 ∨ (ln s (np s) : Int) < l
  · have HR := Lib.hid (cellR_out (s := s) (c := c) hl)
    rw [lineR_out hl]
    obtain ⟨W7, hs7, hl7, hk7⟩ := HST.out W1 none X1.out K1.out
    have HL7 := Lib.hid hl7; have K7 := Lib.hid hk7
    clear hl hl7 hk7
    go_wp2_with (with_reducible refine park_store 6 22 _ rfl ?_)
    refine wpList_store_eq rfl _ (.tmp 6) (.tmp 22) rfl hs7 ?_
    clear hs7
    go_wp2
    rw [HR.out]
    exact bodyPost_ret (results_cell_two rfl _ _ _ _ _ rfl rfl HL7.out) rfl ⟨rfl, K7.out⟩
  · obtain ⟨j, rfl⟩ : ∃ j : Nat, l = (j : Int) + 1 := ⟨l.toNat - 1, by omega⟩
    have hjl : j < (lns s).length := by rw [lns_len]; omega
    have hj : (lns s)[j]? = some (lns s)[j] := List.getElem?_eq_getElem hjl
    generalize (lns s)[j] = a at *
    rw [lineR_in hj]
    have HR := Lib.hid (cellR_in hj c)
    have hcw := cw_lt hj
    have hnx := nx_le s j
    have hce := cw_eq hj
    have HLI := Lib.hid (fun k (hk : k ≤ np s) => line_is hk hj)
    have HCO := Lib.hid (fun k (hk : k ≤ np s) h1 h2 => co_is hk hj h1 h2)
    obtain ⟨hT1, hT2⟩ := line_text hj
    have hanx := (line_is (k := a) (st_np hj) hj).2.2
    have hanp := st_np hj
    have HPT := Lib.hid (show (s.extract (pos s a) (pos s (nx s j))).size ≤ s.size by simp; omega)
    clear hl hj hjl
    obtain ⟨m, hm⟩ : ∃ m, m = min (nx s j) (np s) - a := ⟨_, rfl⟩
    obtain ⟨c0, hc0⟩ : ∃ c0, c0 = cw s j a := ⟨_, rfl⟩
    rw [← hm] at hT1 hT2 hce
    rw [← hc0] at hcw hce
    rw [← hc0] at HR
    have hml : m ≤ np s := by omega
    have HJ := Lib.hid (show a + c0 < nx s j from hcw)
    have HNX := Lib.hid hnx
    generalize s.extract (pos s a) (pos s (nx s j)) = T at *
    clear hm hcw hnx hc0
    go_wp2_with fail
    refine (pieces_any T _ (by have := HPT.out; omega)).mono ?_
    rintro e W2 ⟨v2, rfl, ho2, hk2, _⟩
    obtain ⟨ad, cap, e2, hpc⟩ := PcAt.of_owns ho2
    subst e2
    have K2 := Lib.hid (K1.out.trans0 hk2); have X2 := Lib.hid (hk2.at_ X1.out (by simp))
    rw [show (cut T 0).length = m from hT1] at hpc ⊢
    have HPC : Hid (m ≠ 0 → ∃ b off, ad = some ⟨b, off, none⟩ ∧ ∀ i, i < m → W2.cell? ⟨b, off + i * 4 + 1, none⟩ = some (.int .i32 (rn s (a + i) : Nat))) := Lib.hid (fun h => by
      obtain ⟨b, off, h1, h2⟩ := hpc h
      refine ⟨b, off, h1, fun i hi => ?_⟩
      rw [← hT2 i hi]
      exact (h2 i _ (pos_get (by rw [hT1]; exact hi))).2.1)
    have HT := Lib.hid hT1
    clear ho2 hk2 hpc hT1 hT2
    have hce2 : c0 = if 0 < m ∧ (rn s (a + (m - 1)) = 10 ∨ rn s (a + (m - 1)) = 13) then (if 0 < m - 1 ∧ rn s (a + (m - 1)) = 10 ∧ rn s (a + (m - 2)) = 13 then m - 2 else m - 1) else m := hce.symm
    clear hce
    have hcases : (m = 0 ∧ c0 = m) ∨ (0 < m ∧ rn s (a + (m - 1)) ≠ 10 ∧ rn s (a + (m - 1)) ≠ 13 ∧ c0 = m) ∨ (0 < m ∧ rn s (a + (m - 1)) = 13 ∧ ¬ 0 < m - 1 ∧ c0 = m - 1) ∨ (0 < m ∧ rn s (a + (m - 1)) = 13 ∧ 0 < m - 1 ∧ c0 = m - 1) ∨
        (0 < m ∧ rn s (a + (m - 1)) = 10 ∧ ¬ 0 < m - 1 ∧ c0 = m - 1) ∨ (0 < m ∧ rn s (a + (m - 1)) = 10 ∧ 0 < m - 1 ∧ rn s (a + (m - 2)) ≠ 13 ∧ c0 = m - 1) ∨ (0 < m ∧ rn s (a + (m - 1)) = 10 ∧ 0 < m - 1 ∧ rn s (a + (m - 2)) = 13 ∧ c0 = m - 2) := by
      by_cases h0 : 0 < m
      · by_cases h10 : rn s (a + (m - 1)) = 10
        · by_cases h1 : 0 < m - 1
          · by_cases h13 : rn s (a + (m - 2)) = 13
            · rw [if_pos ⟨h0, .inl h10⟩, if_pos ⟨h1, h10, h13⟩] at hce2; omega
            · rw [if_pos ⟨h0, .inl h10⟩, if_neg (fun h => h13 h.2.2)] at hce2; omega
          · rw [if_pos ⟨h0, .inl h10⟩, if_neg (fun h => h1 h.1)] at hce2; omega
        · by_cases h13 : rn s (a + (m - 1)) = 13
          · rw [if_pos ⟨h0, .inr h13⟩, if_neg (fun h => h10 h.2.1)] at hce2; omega
          · rw [if_neg (fun h => h.2.elim h10 h13)] at hce2; omega
      · rw [if_neg (fun h => h0 h.1)] at hce2; omega
    clear hce2
    have hwm : ∀ q : Nat, q ≤ m → 0 < q → IntKind.i64.wrap ((q : Int) - 1) = ((q - 1 : Nat) : Int) := fun q hq h0 => by rw [IntKind.wrap_i64]; omega
    rcases hcases with ⟨h0, rfl⟩ | ⟨h0, h10, h13, rfl⟩ | ⟨h0, h13, h1, h2⟩ | ⟨h0, h13, h1, h2⟩ | ⟨h0, h10, h1, h2⟩ | ⟨h0, h10, h1, h13, h2⟩ | ⟨h0, h10, h1, h13, h2⟩
    case' inl =>
      have t1 : decide (0 < c0) = false := by simp; omega
      clear h0 hwm
    case' inr.inl =>
      have t1 : decide (0 < c0) = true := by simpa using h0
      have hw1 := hwm c0 (Nat.le_refl _) h0
      obtain ⟨b, off, e3, hb⟩ := HPC.out (by omega)
      subst e3
      have x1 := hb (c0 - 1) (by omega)
      have hm1 : c0 - 1 < c0 := by omega
      obtain ⟨ri, hri⟩ : ∃ ri : Int, ((rn s (a + (c0 - 1)) : Nat) : Int) = ri := ⟨_, rfl⟩
      rw [hri] at x1
      have t2 : (ri == 10) = false := by simp; omega
      have t3 : (ri == 13) = false := by simp; omega
      clear h0 h10 h13 hwm hb hri
      generalize c0 - 1 = m1 at *
    case' inr.inr.inl =>
      have t1 : decide (0 < m) = true := by simpa using h0
      have hw1 := hwm m (Nat.le_refl _) h0
      obtain ⟨b, off, e3, hb⟩ := HPC.out (by omega)
      subst e3
      have x1 := hb (m - 1) (by omega)
      have hm1 : m - 1 < m := by omega
      obtain ⟨ri, hri⟩ : ∃ ri : Int, ((rn s (a + (m - 1)) : Nat) : Int) = ri := ⟨_, rfl⟩
      rw [hri] at x1
      have t2 : (ri == 10) = false := by simp; omega
      have t3 : (ri == 13) = true := by simp; omega
      rw [← h2] at *
      have t4 : decide (0 < c0) = false := by simp; omega
      clear h0 h1 h13 hwm hb hri h2
    case' inr.inr.inr.inl =>
      have t1 : decide (0 < m) = true := by simpa using h0
      have hw1 := hwm m (Nat.le_refl _) h0
      obtain ⟨b, off, e3, hb⟩ := HPC.out (by omega)
      subst e3
      have x1 := hb (m - 1) (by omega)
      have hm1 : m - 1 < m := by omega
      obtain ⟨ri, hri⟩ : ∃ ri : Int, ((rn s (a + (m - 1)) : Nat) : Int) = ri := ⟨_, rfl⟩
      rw [hri] at x1
      have t2 : (ri == 10) = false := by simp; omega
      have t3 : (ri == 13) = true := by simp; omega
      have t4 : decide (0 < c0) = true := by rw [h2]; simpa using h1
      rw [← h2] at *
      clear h0 h1 h13 hwm hb hri h2
    case' inr.inr.inr.inr.inl =>
      have t1 : decide (0 < m) = true := by simpa using h0
      have hw1 := hwm m (Nat.le_refl _) h0
      obtain ⟨b, off, e3, hb⟩ := HPC.out (by omega)
      subst e3
      have x1 := hb (m - 1) (by omega)
      have hm1 : m - 1 < m := by omega
      obtain ⟨ri, hri⟩ : ∃ ri : Int, ((rn s (a + (m - 1)) : Nat) : Int) = ri := ⟨_, rfl⟩
      rw [hri] at x1
      have t2 : (ri == 10) = true := by simp; omega
      rw [← h2] at *
      have t4 : decide (0 < c0) = false := by simp; omega
      clear h0 h1 h10 hwm hb hri h2
    case' inr.inr.inr.inr.inr.inl =>
      have t1 : decide (0 < m) = true := by simpa using h0
      have hw1 := hwm m (Nat.le_refl _) h0
      have hw2 := hwm (m - 1) (by omega) h1
      obtain ⟨b, off, e3, hb⟩ := HPC.out (by omega)
      subst e3
      have x1 := hb (m - 1) (by omega)
      have x2 := hb (m - 2) (by omega)
      have hm1 : m - 1 < m := by omega
      have hm2 : m - 2 < m := by omega
      obtain ⟨ri, hri⟩ : ∃ ri : Int, ((rn s (a + (m - 1)) : Nat) : Int) = ri := ⟨_, rfl⟩
      obtain ⟨zi, hzi⟩ : ∃ zi : Int, ((rn s (a + (m - 2)) : Nat) : Int) = zi := ⟨_, rfl⟩
      rw [hri] at x1
      rw [hzi] at x2
      have t2 : (ri == 10) = true := by simp; omega
      have t5 : (zi == 13) = false := by simp; omega
      rw [show m - 1 - 1 = m - 2 by omega] at hw2
      have t4 : decide (0 < c0) = true := by rw [h2]; simpa using h1
      rw [← h2] at *
      clear h0 h1 h10 h13 hwm hb hri hzi h2
      generalize m - 2 = m2 at *
    case' inr.inr.inr.inr.inr.inr =>
      have t1 : decide (0 < m) = true := by simpa using h0
      have hw1 := hwm m (Nat.le_refl _) h0
      have hw2 := hwm (m - 1) (by omega) h1
      obtain ⟨b, off, e3, hb⟩ := HPC.out (by omega)
      subst e3
      have x1 := hb (m - 1) (by omega)
      have x2 := hb (m - 2) (by omega)
      have hm1 : m - 1 < m := by omega
      have hm2 : m - 2 < m := by omega
      obtain ⟨ri, hri⟩ : ∃ ri : Int, ((rn s (a + (m - 1)) : Nat) : Int) = ri := ⟨_, rfl⟩
      obtain ⟨zi, hzi⟩ : ∃ zi : Int, ((rn s (a + (m - 2)) : Nat) : Int) = zi := ⟨_, rfl⟩
      rw [hri] at x1
      rw [hzi] at x2
      have t2 : (ri == 10) = true := by simp; omega
      have t5 : (zi == 13) = true := by simp; omega
      have t4 : decide (0 < m - 1) = true := by simpa using h1
      rw [show m - 1 - 1 = m - 2 by omega] at hw2
      rw [← h2] at *
      clear h0 h1 h10 h13 hwm hb hri hzi h2
      generalize m - 1 = m1 at *
    all_goals
      go_upto_region 10 with (fail)
      try clear t1
      try clear t2
      try clear t3
      try clear t4
      try clear t5
      try clear x1
      try clear x2
      try clear hw1
      try clear hw2
      have hw9 : IntKind.i64.wrap ((c0 : Int) + 1) = (c0 : Int) + 1 := by rw [IntKind.wrap_i64]; have := HJ.out; have := HNX.out; omega
      by_cases hc : c < 1 ∨ (c0 : Int) + 1 < c
      · have HR2 : Hid (cellR s ((j : Int) + 1) c = (none, 3)) := Lib.hid (by rw [HR.out, if_pos hc])
        obtain ⟨W7, hs7, hl7, hk7⟩ := HST.out W2 none X2.out K2.out
        have HL7 := Lib.hid hl7; have K7 := Lib.hid hk7
        clear hl7 hk7
        have hb : decide (c < 1) = true ∨ (decide (c < 1) = false ∧ decide ((c0 : Int) + 1 < c) = true) := by
          by_cases h1 : c < 1
          · exact .inl (by simpa using h1)
          · exact .inr ⟨by simpa using h1, by simp; omega⟩
        clear hc
        rcases hb with t1 | ⟨t1, t2⟩
        all_goals
          go_wp2_with (with_reducible refine park_store 6 79 _ rfl ?_)
          refine wpList_store_eq rfl _ (.tmp 6) (.tmp 79) rfl hs7 ?_
          clear hs7
          go_wp2
          rw [HR2.out]
          exact bodyPost_ret (results_cell_two rfl _ _ _ _ _ rfl rfl HL7.out) rfl ⟨rfl, K7.out⟩
      · have t1 : decide (c < 1) = false := by simp; omega
        have t2 : decide ((c0 : Int) + 1 < c) = false := by simp; omega
        obtain ⟨d, hd⟩ : ∃ d : Nat, c = (d : Int) + 1 := ⟨c.toNat - 1, by omega⟩
        have HCD := Lib.hid hd
        have HR2 : Hid (cellR s ((j : Int) + 1) c = (some (a + d), 0)) := Lib.hid (by rw [HR.out, if_neg hc, show a + c.toNat - 1 = a + d by omega])
        have HD := Lib.hid (show a + d < nx s j ∧ a + d ≤ np s by have := HJ.out; have := HNX.out; omega)
        clear hc hd
        go_wp2_with fail
        refine (spots_any s _ hz).mono ?_
        intro e W3 hN
        obtain ⟨bs, os, cs, rfl, hk, hcs⟩ := hN.spots
        have K3 := Lib.hid (K2.out.trans0 hk); have X3 := Lib.hid (hk.at_ X2.out (by simp)); have HC := Lib.hid hcs
        clear hN hk hcs t1 t2 hw9
        go_wp2
        go_loopw [13] (fun i wr => ∃ k : Nat, k ≤ a + d ∧ i = .int .i64 k ∧ W3 = wr) (fun i _ => np s + 1 - (intOf i).toNat)
        case atStart => exact ⟨0, Nat.zero_le _, rfl, rfl⟩
        case round =>
          obtain ⟨k, hk, rfl, rfl⟩ := hrel
          have hkn : k < np s + 1 := by have := HD.out; omega
          have hltd : decide (k < np s + 1) = true := by simpa using hkn
          have hkd : ((k : Int) < (np s : Int) + 1) := by omega
          obtain ⟨d0, d1, d2, d3, d4, d5⟩ := HC.out k hkn
          have hline := (HLI.out k (by omega)).2.1
          by_cases he : k = a + d
          · have hl2 := hline.2 ⟨by omega, by have := HD.out; omega⟩
            have hc2 := HCO.out k (by omega) (by omega) (by have := HD.out; omega)
            have t1 : (((ln s k : Nat) : Int) == (j : Int) + 1) = true := by simp; omega
            have t2 : (((co s k : Nat) : Int) == c) = true := by have := HCD.out; simp; omega
            obtain ⟨W7, hs7, hl7, hk7⟩ := HST.out W3 (some k) X3.out K3.out
            have HL7 := Lib.hid hl7; have K7 := Lib.hid hk7
            rw [← he] at HR2
            simp only [spO, spV] at hs7
            clear hl7 hk7 hl2 hc2 hline he
            go_wp2_with (with_reducible refine park_store 6 107 _ rfl ?_)
            refine wpList_store_eq rfl _ (.tmp 6) (.tmp 107) rfl hs7 ?_
            clear hs7
            go_wp2
            rw [HR2.out]
            exact bodyPost_ret (results_cell_two rfl _ _ _ _ _ rfl rfl HL7.out) rfl ⟨rfl, K7.out⟩
          · by_cases hln : ln s k = j + 1
            · have h1 := hline.1 hln
              have hc2 := HCO.out k (by omega) h1.1 h1.2
              have t1 : (((ln s k : Nat) : Int) == (j : Int) + 1) = true := by simp; omega
              have t2 : (((co s k : Nat) : Int) == c) = false := by have := HCD.out; simp; omega
              clear hline hc2 h1 hln
              go_wp2
              exact ⟨⟨k + 1, by omega, by go_num, by trivial⟩, by simp [intOf]; omega⟩
            · have t1 : (((ln s k : Nat) : Int) == (j : Int) + 1) = false := by simp; omega
              clear hline hln
              go_wp2
              exact ⟨⟨k + 1, by omega, by go_num, by trivial⟩, by simp [intOf]; omega⟩
end Go.Proofs.Ytodbjehggkdjaaa
