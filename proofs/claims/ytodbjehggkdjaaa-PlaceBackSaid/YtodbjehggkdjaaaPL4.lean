/-
  PlaceBack, walked.
-/
import Derived.Test.YtodbjehggkdjaaaPL4a
import Derived.Test.YtodbjehggkdjaaaQuietT
namespace Go.Proofs.Ytodbjehggkdjaaa
open Go.RowKit
set_option linter.unusedVariables false
set_option linter.unusedSimpArgs false

theorem bytes_join (s : ByteArray) {p q : Nat} (h1 : p ≤ q) (h2 : q ≤ s.size) : s.extract 0 p ++ s.extract p q = s.extract 0 q := by
  rw [ByteArray.extract_append_extract]
  congr 1 <;> omega

/-- The spot of place i in a block. -/
def spBlk (s : ByteArray) (i : Nat) : Obj := .cells (spV s i) 29 (0, 0)
theorem spBlk_cells {W : World} {b : Nat} {s : ByteArray} {i : Nat} (h : W.heap[b]? = some (spBlk s i)) : W.cell? ⟨b, 0, none⟩ = some (.int .i64 (pos s i : Nat)) ∧ W.cell? ⟨b, 1, none⟩ = some (.int .i64 (i : Nat)) ∧ W.cell? ⟨b, 2, none⟩ = some (.int .i64 (un s i : Nat)) ∧
    W.cell? ⟨b, 3, none⟩ = some (.int .i64 (cl s i : Nat)) ∧ W.cell? ⟨b, 4, none⟩ = some (.int .i64 (ln s i : Nat)) ∧ W.cell? ⟨b, 5, none⟩ = some (.int .i64 (co s i : Nat)) :=
  ⟨cell_of_block h 0, cell_of_block h 1, cell_of_block h 2, cell_of_block h 3, cell_of_block h 4, cell_of_block h 5⟩

/-- What stands in 'last' ahead of round k. -/
def lastB (s : ByteArray) (k : Nat) : Obj := if k = 0 then .cells noSp 29 (0, 0) else spBlk s (k - 1)
theorem lastB_cells (s : ByteArray) (k : Nat) : ∃ cs, lastB s k = .cells cs 29 (0, 0) ∧ cs.size = 6 := by
  unfold lastB
  split
  · exact ⟨_, rfl, rfl⟩
  · exact ⟨_, rfl, rfl⟩
theorem lastB_succ (s : ByteArray) (k : Nat) : lastB s (k + 1) = .cells (spV s k) 29 (0, 0) := rfl
theorem lastB_is {s : ByteArray} {k : Nat} (hk : k ≤ np s + 1) (hz : s.size ≤ 300) : ∃ p r u c l o : Int, lastB s k = .cells #[.int .i64 p, .int .i64 r, .int .i64 u, .int .i64 c, .int .i64 l, .int .i64 o] 29 (0, 0) ∧
    0 ≤ l ∧ l ≤ 400 ∧ 0 ≤ o ∧ o ≤ 400 ∧ (0 < k → k ≤ np s → p < (pos s k : Nat) ∧ u < (un s k : Nat) ∧ c ≤ (cl s k : Nat) ∧ ((((ln s k : Nat) : Int) = l ∧ ((co s k : Nat) : Int) = o + 1) ∨ (((ln s k : Nat) : Int) = l + 1 ∧ ((co s k : Nat) : Int) = 1))) := by
  have hnp := np_le s
  unfold lastB
  by_cases h0 : k = 0
  · rw [if_pos h0]
    exact ⟨_, _, _, _, _, _, rfl, by decide, by decide, by decide, by decide, fun h => absurd h0 (by omega)⟩
  · rw [if_neg h0]
    obtain ⟨m, rfl⟩ : ∃ m, k = m + 1 := ⟨k - 1, by omega⟩
    rw [Nat.add_sub_cancel]
    have h1 := ln_le s m
    have h2 : co s m ≤ m + 1 := by unfold co; omega
    refine ⟨_, _, _, _, _, _, rfl, by omega, by omega, by omega, by omega, fun _ hle => ?_⟩
    have h3 := pos_succ (s := s) (k := m) (by omega)
    have h4 := un_succ s m
    have h5 := cl_mono (s := s) (i := m) (j := m + 1) (by omega) hle
    have hc := co_step s m
    have hl : ln s (m + 1) = if endP s m = true then ln s m + 1 else ln s m := rfl
    refine ⟨by omega, by omega, by omega, ?_⟩
    by_cases he : endP s m = true
    · rw [if_pos he] at hc hl
      exact .inr ⟨by omega, by omega⟩
    · rw [if_neg he] at hc hl
      exact .inl ⟨by omega, by omega⟩

set_option maxRecDepth 100000 in
set_option maxHeartbeats 32000000 in
theorem placeBack_walk (s : ByteArray) (w : World) (hs : s.size ≤ maxLen) :
    Calls Try.prog 6 #[.string s] w fun e w' => e = .returned (.bool true) ∧ Keep [] w w' := by
  unfold maxLen at hs
  by_cases hz : s.size ≤ 300
  · have hzd : decide ((300 : Int) < (s.size : Int)) = false := by simp; omega
    have hnp := np_le s
    have hll := ln_le s (np s)
    have HA := Lib.hid (fun mb u x W hM h1 h2 => at_any mb s u x W hM (by omega) h1 h2)
    have HC := Lib.hid (fun mb l c W hM h1 h2 => cell_any mb s l c W hM (by omega) h1 h2)
    have HN := Lib.hid (fun mb u W hM => len_any mb s u W hM (by omega))
    have HL := Lib.hid (fun mb l W hM => tline_any mb s l W hM (by omega))
    have HLS := Lib.hid (fun mb W hM => lines_any mb s W hM)
    go_enter Try.func6, Try.ntmps6
    go_wp2_with fail
    refine (new_any s _ (by omega)).mono ?_
    rintro e W1 ⟨mb, rfl, _, hm, hk1⟩
    have HM := Lib.hid hm; have K1 := Lib.hid hk1; clear hm hk1 hzd
    go_wp2
    go_loopw [4, 5] (fun tx i wr => ∃ j : Nat, j ≤ ln s (np s) ∧ i = .int .i64 ((j : Int) + 1) ∧ tx = .string (s.extract 0 (pos s (stj s j))) ∧ Keep [] W1 wr) (fun _ i _ => ln s (np s) + 1 - (intOf i).toNat)
    case atStart => exact ⟨0, Nat.zero_le _, rfl, by rw [stj_zero, pos_zero]; simp; rfl, Keep.refl _ _⟩
    case round =>
      obtain ⟨j, hj, rfl, rfl, hk⟩ := hrel
      have K2 := Lib.hid hk; have HM2 := Lib.hid (HM.out.keep hk); clear hk
      go_wp2_with fail
      refine (HLS.out _ _ HM2.out).mono ?_
      rintro e W3 ⟨rfl, hk3⟩
      have K3 := Lib.hid (K2.out.trans0 hk3); have HM3 := Lib.hid (HM2.out.keep hk3); clear hk3
      by_cases hjl : j < ln s (np s)
      · have hjd : decide ((j : Int) + 1 ≤ ((ln s (np s) : Nat) : Int)) = true := by simp; omega
        obtain ⟨hln, hle⟩ := line_stj hjl
        have hpe := pos_le s (stj s (j + 1))
        obtain ⟨ji, hji⟩ : ∃ ji : Int, ji = (j : Int) + 1 := ⟨_, rfl⟩
        have hw1 : IntKind.i64.wrap (ji + 1) = ji + 1 := by rw [hji, IntKind.wrap_i64]; omega
        have hlr : lineR s ji = (s.extract (pos s (stj s j)) (pos s (stj s (j + 1))), 0) := by rw [hji]; exact hln
        have HJI := Lib.hid hji; have HLR := Lib.hid hlr
        have HJN := Lib.hid (bytes_join s hle hpe)
        have hsz2 : (s.extract 0 (pos s (stj s j)) ++ s.extract (pos s (stj s j)) (pos s (stj s (j + 1)))).size ≤ 300 := by rw [HJN.out]; simp; omega
        rw [← hji] at hjd ⊢
        clear hji hlr hln hle hpe
        go_wp2_with fail
        refine (HL.out _ _ _ HM3.out).mono ?_
        rintro e W4 ⟨rfl, hk4⟩
        rw [HLR.out]
        have K4 := Lib.hid (K3.out.trans0 hk4); clear hk4
        have HSZ := Lib.hid hsz2
        go_wp2
        refine ⟨⟨j + 1, by omega, by rw [HJI.out]; exact congrArg (Value.int .i64) (by omega), ?_, K4.out⟩, by have := HJI.out; simp [intOf]; omega⟩
        first
          | (rw [← HJN.out]; rfl)
          | (simp [← HJN.out])
      · have hjd : decide ((j : Int) + 1 ≤ ((ln s (np s) : Nat) : Int)) = false := by simp; omega
        obtain rfl : j = ln s (np s) := by omega
        rw [pos_stj_end]
        have hfull : s.extract 0 s.size = s := by simp
        rw [hfull]
        have hN1 : lenR s 1 = (((s.size : Nat) : Int), 0) := by unfold lenR; rw [if_neg (by decide)]; show (((pos s (np s) : Nat) : Int), (0 : Int)) = _; rw [pos_np]
        have hN2 : lenR s 2 = (((np s : Nat) : Int), 0) := by unfold lenR; rw [if_neg (by decide)]; rfl
        have hN3 : lenR s 3 = (((un s (np s) : Nat) : Int), 0) := by unfold lenR; rw [if_neg (by decide)]; rfl
        have hN4 : lenR s 4 = (((cl s (np s) : Nat) : Int), 0) := by unfold lenR; rw [if_neg (by decide)]; rfl
        have G1 := Lib.hid (fun W hM => HN.out mb 1 W hM); have G2 := Lib.hid (fun W hM => HN.out mb 2 W hM); have G3 := Lib.hid (fun W hM => HN.out mb 3 W hM); have G4 := Lib.hid (fun W hM => HN.out mb 4 W hM)
        rw [hN1] at G1; rw [hN2] at G2; rw [hN3] at G3; rw [hN4] at G4
        have t1 : decide ((np s : Nat) < cl s (np s)) = false := by have := cl_le (s := s) (np s) (Nat.le_refl _); simp; omega
        have t2 : decide (un s (np s) < np s) = false := by have := le_un s (np s); simp; omega
        have t3 : decide (s.size < un s (np s)) = false := by have := un_le s (np s) (Nat.le_refl _); rw [pos_np] at this; simp; omega
        clear hN1 hN2 hN3 hN4 hfull HN
        go_wp2_with fail
        refine (G1.out _ HM3.out).mono ?_
        rintro e W4 ⟨rfl, hk4⟩
        have K4 := Lib.hid (K3.out.trans0 hk4); clear hk4
        go_wp2_with fail
        refine (G2.out _ (HM.out.keep K4.out)).mono ?_
        rintro e W5 ⟨rfl, hk5⟩
        have K5 := Lib.hid (K4.out.trans0 hk5); clear hk5
        go_wp2_with fail
        refine (G3.out _ (HM.out.keep K5.out)).mono ?_
        rintro e W6 ⟨rfl, hk6⟩
        have K6 := Lib.hid (K5.out.trans0 hk6); clear hk6
        go_wp2_with fail
        refine (G4.out _ (HM.out.keep K6.out)).mono ?_
        rintro e W7 ⟨rfl, hk7⟩
        have K7 := Lib.hid (K6.out.trans0 hk7); clear hk7 G1 G2 G3 G4
        go_wp2_with fail
        refine (count_any s _ (by omega)).mono ?_
        rintro e W8 ⟨rfl, hk8⟩
        rw [show (cut s 0).length = np s from rfl]
        have K8 := Lib.hid (K7.out.trans0 hk8); clear hk8
        go_upto_region 21 with (fail)
        obtain ⟨LB, hLB⟩ : ∃ B, B = W8.heap.size := ⟨_, rfl⟩
        refine wp_cut (fun W => Keep [] W1 W ∧ W.heap[W8.heap.size]? = some (lastB s 0)) ⟨K8.out.alloc _, World.alloc_heap_new W8 _⟩ ?_
        rw [← hLB]
        rintro W9 ⟨k9, g9⟩
        have HLB := Lib.hid (show W1.heap.size ≤ LB by have := K8.out.size; omega)
        clear hLB t1 t2 t3 hjd K2 HM2 K3 HM3
        go_wp2
        go_loopw [17] (fun i wr => ∃ k : Nat, k ≤ np s + 1 ∧ i = .int .i64 k ∧ Keep [] W1 wr ∧ wr.heap[LB]? = some (lastB s k)) (fun i _ => np s + 1 - (intOf i).toNat)
        case atStart => exact ⟨0, Nat.zero_le _, rfl, k9, g9⟩
        case round =>
          clear k9 g9
          obtain ⟨k, hk, rfl, hkw, hlast⟩ := hrel
          have KW := Lib.hid hkw; have LW := Lib.hid hlast; have MW := Lib.hid (HM.out.keep hkw)
          clear hkw hlast
          by_cases hkn : k ≤ np s
          · have hkd : decide (k ≤ np s) = true := by simpa using hkn
            have A1 := Lib.hid (fun W hM => HA.out mb 2 (k : Nat) W hM (by omega) (by omega))
            have hple := pos_le s k
            have hule := un_le s k hkn
            have hcle := cl_le (s := s) k hkn
            have A2 := Lib.hid (fun W hM => HA.out mb 1 (pos s k : Nat) W hM (by omega) (by omega))
            have A3 := Lib.hid (fun W hM => HA.out mb 3 (un s k : Nat) W hM (by omega) (by omega))
            have A4 := Lib.hid (fun W hM => HA.out mb 4 (cl s k : Nat) W hM (by omega) (by omega))
            obtain ⟨kc, hac, hkc, hclc⟩ := at_clumps hkn
            rw [at_runes hkn] at A1; rw [at_bytes hkn] at A2; rw [at_units hkn] at A3; rw [hac] at A4
            simp only [spO, spV] at A1 A2 A3 A4
            rw [hclc] at A4
            have hpkc : pos s kc ≤ pos s k := by
              by_cases e : kc = k
              · rw [e]; exact Nat.le_refl _
              · exact Nat.le_of_lt (pos_mono (by omega) hkn)
            clear hac hclc
            go_wp2_with fail
            refine (A1.out _ MW.out).mono ?_
            rintro e V1 ⟨rfl, hv1⟩
            have KV1 := Lib.hid (KW.out.trans0 hv1); have LV1 := Lib.hid (hv1.at_ LW.out (by simp)); clear hv1
            go_upto_region 25 with (fail)
            obtain ⟨X, hX⟩ : ∃ B, B = V1.heap.size := ⟨_, rfl⟩
            refine wp_cut (fun W => Keep [] W1 W ∧ W.heap[LB]? = some (lastB s k) ∧ W.heap[V1.heap.size]? = some (.cells #[.int .i64 (pos s k : Nat), .int .i64 (k : Nat), .int .i64 (un s k : Nat), .int .i64 (cl s k : Nat), .int .i64 (ln s k : Nat), .int .i64 (co s k : Nat)] 29 (0, 0))) ⟨KV1.out.alloc _, ((Keep.refl [] _).alloc _).at_ LV1.out (by simp), World.alloc_heap_new V1 _⟩ ?_
            rw [← hX]
            rintro V2 ⟨kv2, lv2, x2⟩
            clear hX
            have KV2 := Lib.hid kv2; have LV2 := Lib.hid lv2; have X2 := Lib.hid x2
            have c0 := cell_of_block x2 0
            simp at c0
            clear kv2 lv2 x2
            go_wp2_with fail
            refine (A2.out _ (HM.out.keep KV2.out)).mono ?_
            rintro e V3 ⟨rfl, hv3⟩
            have KV3 := Lib.hid (KV2.out.trans0 hv3); have LV3 := Lib.hid (hv3.at_ LV2.out (by simp)); have X3 := Lib.hid (hv3.at_ X2.out (by simp)); clear hv3 c0
            go_upto_region 26 with (fail)
            obtain ⟨Y, hY⟩ : ∃ B, B = V3.heap.size := ⟨_, rfl⟩
            refine wp_cut (fun W => Keep [] W1 W ∧ W.heap[LB]? = some (lastB s k) ∧ W.heap[X]? = some (.cells #[.int .i64 (pos s k : Nat), .int .i64 (k : Nat), .int .i64 (un s k : Nat), .int .i64 (cl s k : Nat), .int .i64 (ln s k : Nat), .int .i64 (co s k : Nat)] 29 (0, 0)) ∧ W.heap[V3.heap.size]? = some (.cells #[.int .i64 (pos s k : Nat), .int .i64 (k : Nat), .int .i64 (un s k : Nat), .int .i64 (cl s k : Nat), .int .i64 (ln s k : Nat), .int .i64 (co s k : Nat)] 29 (0, 0))) ⟨KV3.out.alloc _, ((Keep.refl [] _).alloc _).at_ LV3.out (by simp), ((Keep.refl [] _).alloc _).at_ X3.out (by simp), World.alloc_heap_new V3 _⟩ ?_
            rw [← hY]
            rintro V4 ⟨kv4, lv4, x4, y4⟩
            clear hY
            have KV4 := Lib.hid kv4; have LV4 := Lib.hid lv4; have X4 := Lib.hid x4; have Y4 := Lib.hid y4
            have c2 := cell_of_block x4 2
            simp at c2
            clear kv4 lv4 x4 y4
            go_wp2_with fail
            refine (A3.out _ (HM.out.keep KV4.out)).mono ?_
            rintro e V5 ⟨rfl, hv5⟩
            have KV5 := Lib.hid (KV4.out.trans0 hv5); have LV5 := Lib.hid (hv5.at_ LV4.out (by simp)); have X5 := Lib.hid (hv5.at_ X4.out (by simp)); have Y5 := Lib.hid (hv5.at_ Y4.out (by simp)); clear hv5 c2
            go_upto_region 27 with (fail)
            obtain ⟨Z, hZ⟩ : ∃ B, B = V5.heap.size := ⟨_, rfl⟩
            refine wp_cut (fun W => Keep [] W1 W ∧ W.heap[LB]? = some (lastB s k) ∧ W.heap[X]? = some (.cells #[.int .i64 (pos s k : Nat), .int .i64 (k : Nat), .int .i64 (un s k : Nat), .int .i64 (cl s k : Nat), .int .i64 (ln s k : Nat), .int .i64 (co s k : Nat)] 29 (0, 0)) ∧ W.heap[Y]? = some (.cells #[.int .i64 (pos s k : Nat), .int .i64 (k : Nat), .int .i64 (un s k : Nat), .int .i64 (cl s k : Nat), .int .i64 (ln s k : Nat), .int .i64 (co s k : Nat)] 29 (0, 0)) ∧ W.heap[V5.heap.size]? = some (.cells #[.int .i64 (pos s k : Nat), .int .i64 (k : Nat), .int .i64 (un s k : Nat), .int .i64 (cl s k : Nat), .int .i64 (ln s k : Nat), .int .i64 (co s k : Nat)] 29 (0, 0))) ⟨KV5.out.alloc _, ((Keep.refl [] _).alloc _).at_ LV5.out (by simp), ((Keep.refl [] _).alloc _).at_ X5.out (by simp), ((Keep.refl [] _).alloc _).at_ Y5.out (by simp), World.alloc_heap_new V5 _⟩ ?_
            rw [← hZ]
            rintro V6 ⟨kv6, lv6, x6, y6, z6⟩
            clear hZ
            have KV6 := Lib.hid kv6; have LV6 := Lib.hid lv6; have X6 := Lib.hid x6; have Y6 := Lib.hid y6; have Z6 := Lib.hid z6
            have c3 := cell_of_block x6 3
            simp at c3
            clear kv6 lv6 x6 y6 z6
            go_wp2_with fail
            refine (A4.out _ (HM.out.keep KV6.out)).mono ?_
            rintro e V7 ⟨rfl, hv7⟩
            have KV7 := Lib.hid (KV6.out.trans0 hv7); have LV7 := Lib.hid (hv7.at_ LV6.out (by simp)); have X7 := Lib.hid (hv7.at_ X6.out (by simp)); have Y7 := Lib.hid (hv7.at_ Y6.out (by simp)); have Z7 := Lib.hid (hv7.at_ Z6.out (by simp)); clear hv7 c3
            go_upto_region 28 with (fail)
            obtain ⟨C, hC⟩ : ∃ B, B = V7.heap.size := ⟨_, rfl⟩
            refine wp_cut (fun W => Keep [] W1 W ∧ W.heap[LB]? = some (lastB s k) ∧ W.heap[X]? = some (.cells #[.int .i64 (pos s k : Nat), .int .i64 (k : Nat), .int .i64 (un s k : Nat), .int .i64 (cl s k : Nat), .int .i64 (ln s k : Nat), .int .i64 (co s k : Nat)] 29 (0, 0)) ∧ W.heap[Y]? = some (.cells #[.int .i64 (pos s k : Nat), .int .i64 (k : Nat), .int .i64 (un s k : Nat), .int .i64 (cl s k : Nat), .int .i64 (ln s k : Nat), .int .i64 (co s k : Nat)] 29 (0, 0)) ∧ W.heap[Z]? = some (.cells #[.int .i64 (pos s k : Nat), .int .i64 (k : Nat), .int .i64 (un s k : Nat), .int .i64 (cl s k : Nat), .int .i64 (ln s k : Nat), .int .i64 (co s k : Nat)] 29 (0, 0)) ∧ W.cell? ⟨V7.heap.size, 0, none⟩ = some (.int .i64 (pos s kc : Nat)) ∧ W.cell? ⟨V7.heap.size, 3, none⟩ = some (.int .i64 (cl s k : Nat)))
              ⟨KV7.out.alloc _, ((Keep.refl [] _).alloc _).at_ LV7.out (by simp), ((Keep.refl [] _).alloc _).at_ X7.out (by simp), ((Keep.refl [] _).alloc _).at_ Y7.out (by simp), ((Keep.refl [] _).alloc _).at_ Z7.out (by simp), cell_of_block (World.alloc_heap_new V7 _) 0, cell_of_block (World.alloc_heap_new V7 _) 3⟩ ?_
            rw [← hC]
            rintro V8 ⟨kv8, lv8, x8, y8, z8, cc0, cc3⟩
            clear hC A1 A2 A3 A4
            have xc0 := cell_of_block x8 0; have xc1 := cell_of_block x8 1; have xc2 := cell_of_block x8 2; have xc3 := cell_of_block x8 3; have xc4 := cell_of_block x8 4; have xc5 := cell_of_block x8 5
            have yc0 := cell_of_block y8 0; have yc1 := cell_of_block y8 1; have yc2 := cell_of_block y8 2; have yc3 := cell_of_block y8 3; have yc4 := cell_of_block y8 4; have yc5 := cell_of_block y8 5
            have zc0 := cell_of_block z8 0; have zc1 := cell_of_block z8 1; have zc2 := cell_of_block z8 2; have zc3 := cell_of_block z8 3; have zc4 := cell_of_block z8 4; have zc5 := cell_of_block z8 5
            simp at xc0 xc1 xc2 xc3 xc4 xc5 yc0 yc1 yc2 yc3 yc4 yc5 zc0 zc1 zc2 zc3 zc4 zc5
            have KV8 := Lib.hid kv8; have LV8 := Lib.hid lv8; have X8 := Lib.hid x8
            have tc : decide (pos s k < pos s kc) = false := by simp; omega
            clear kv8 lv8 x8 y8 z8
            go_upto_region 30 with (fail)
            clear yc0 yc1 yc2 yc3 yc4 yc5 zc0 zc1 zc2 zc3 zc4 zc5 cc0 cc3 tc
            obtain ⟨lp, lr, lu, lc, ll, lo, hlb, hl0, hl1, hlo0, hlo1, hrel⟩ := lastB_is hk hz
            have hlw := LV8.out
            rw [hlb] at hlw
            have w0 := cell_of_block hlw 0; have w1 := cell_of_block hlw 1; have w2 := cell_of_block hlw 2; have w3 := cell_of_block hlw 3; have w4 := cell_of_block hlw 4; have w5 := cell_of_block hlw 5
            simp at w0 w1 w2 w3 w4 w5
            have hwl : IntKind.i64.wrap (ll + 1) = ll + 1 := by rw [IntKind.wrap_i64]; omega
            have hwo : IntKind.i64.wrap (lo + 1) = lo + 1 := by rw [IntKind.wrap_i64]; omega
            have hcb := cell_back hkn
            have hlnp := ln_pos s k
            have hlnk := ln_le s k
            have hcok : co s k ≤ k + 1 := by unfold co; omega
            have A5 := Lib.hid (fun W hM => HC.out mb (ln s k : Nat) (co s k : Nat) W hM (by omega) (by omega))
            rw [hcb] at A5
            have HBT := Lib.hid (show (¬ 0 < pos s k ∧ mid2 s k = false) ∨ (0 < pos s k ∧ ¬ pos s k < s.size ∧ mid2 s k = false) ∨ (0 < pos s k ∧ pos s k < s.size ∧ mid2 s k = (decide (byt s (pos s k - 1) = 13) && decide (byt s (pos s k) = 10))) by
              by_cases h0 : 0 < pos s k
              · by_cases h1 : pos s k < s.size
                · refine .inr (.inr ⟨h0, h1, mid2_byte ?_ ?_⟩)
                  · refine Classical.byContradiction fun h => ?_
                    have : k = 0 := by omega
                    rw [this, pos_zero] at h0; omega
                  · refine Classical.byContradiction fun h => ?_
                    rw [pos_end (by omega)] at h1; omega
                · refine .inr (.inl ⟨h0, h1, mid2_out (.inr ?_)⟩)
                  refine Classical.byContradiction fun h => h1 (pos_lt (by omega))
              · refine .inl ⟨h0, mid2_out (.inl ?_)⟩
                have := le_pos hkn
                omega)
            generalize hpk : pos s k = pk at *
            generalize huk : un s k = uk at *
            generalize hck : cl s k = ck at *
            generalize hlk : ln s k = lk at *
            generalize hok : co s k = ok at *
            generalize hmk : mid2 s k = mk at *
            have HEQ := Lib.hid (show #[Value.int .i64 (pk : Nat), .int .i64 (k : Nat), .int .i64 (uk : Nat), .int .i64 (ck : Nat), .int .i64 (lk : Nat), .int .i64 (ok : Nat)] = spV s k by rw [← hpk, ← huk, ← hck, ← hlk, ← hok]; rfl)
            have HPK := Lib.hid hpk
            clear hpk huk hck hlk hok hmk hlb hlw hcb hlnk hlnp hcok hl0 hl1 hlo0 hlo1 hule hcle hpkc hkc hll
            have hthree : (decide (0 < k) = false) ∨ (decide (0 < k) = true ∧ decide ((pk : Int) ≤ lp) = false ∧ decide ((uk : Int) ≤ lu) = false ∧ decide ((ck : Int) < lc) = false ∧ decide ((lk : Int) < ll) = false ∧ (((lk : Int) == ll) = true ∧ ((ok : Int) != lo + 1) = false ∧ decide (ll < (lk : Int)) = false)) ∨
                (decide (0 < k) = true ∧ decide ((pk : Int) ≤ lp) = false ∧ decide ((uk : Int) ≤ lu) = false ∧ decide ((ck : Int) < lc) = false ∧ decide ((lk : Int) < ll) = false ∧ (((lk : Int) == ll) = false ∧ decide (ll < (lk : Int)) = true ∧ ((ok : Int) != 1) = false ∧ ((lk : Int) != ll + 1) = false)) := by
              by_cases h0 : 0 < k
              · obtain ⟨r1, r2, r3, r4⟩ := hrel h0 hkn
                rcases r4 with ⟨r5, r6⟩ | ⟨r5, r6⟩
                · exact .inr (.inl ⟨by simpa using h0, by simp; omega, by simp; omega, by simp; omega, by simp; omega, by simp; omega, by simp; omega, by simp; omega⟩)
                · exact .inr (.inr ⟨by simpa using h0, by simp; omega, by simp; omega, by simp; omega, by simp; omega, by simp; omega, by simp; omega, by simp; omega, by simp; omega⟩)
              · exact .inl (by simpa using h0)
            clear hrel
            have HT3 := Lib.hid hthree; clear hthree
            go_cut [244] from 180 to 244 (fun s244 wx => s244 = .bool false ∧ V8 = wx)
            case first =>
              have hthree := HT3.out
              simp only [List.append_eq, List.cons_append, List.nil_append]
              rcases hthree with t0 | ⟨t0, t1, t2, t3, t4, t5, t6, t7⟩ | ⟨t0, t1, t2, t3, t4, t5, t6, t7, t8⟩
              all_goals
                go_wp2
                go_meet
                exact ⟨rfl, rfl⟩
            case rest =>
              obtain ⟨rfl, rfl⟩ := hcut
              clear hwl hwo w0 w1 w2 w3 w4 w5
              go_upto_region 32 with (fail)
              go_cut [26] from 245 to 269 (fun s26 wx => s26 = .bool mk ∧ V8 = wx)
              case first =>
                have hix0 : pk < s.size → ∀ W : World, (Instr.index 9 (.string s) (.int .i64 (pk : Nat))).run Try.prog W = .ok (.int .u8 (byt s pk : Nat)) W := fun h W => index_byte h W
                have hix1 : 0 < pk → pk < s.size → ∀ W : World, (Instr.index 9 (.string s) (.int .i64 ((pk - 1 : Nat) : Int))).run Try.prog W = .ok (.int .u8 (byt s (pk - 1) : Nat)) W := fun h0 h W => index_byte (by omega) W
                have hwp : 0 < pk → IntKind.i64.wrap ((pk : Int) - 1) = ((pk - 1 : Nat) : Int) := fun h => by rw [IntKind.wrap_i64]; omega
                obtain ⟨y1, hy1⟩ : ∃ y1 : Int, ((byt s (pk - 1) : Nat) : Int) = y1 := ⟨_, rfl⟩
                obtain ⟨y2, hy2⟩ : ∃ y2 : Int, ((byt s pk : Nat) : Int) = y2 := ⟨_, rfl⟩
                have hfive : (decide (0 < pk) = false ∧ mk = false) ∨ (decide (0 < pk) = true ∧ decide (pk < s.size) = false ∧ mk = false) ∨ (decide (0 < pk) = true ∧ decide (pk < s.size) = true ∧ (y1 == 13) = false ∧ mk = false) ∨
                    (decide (0 < pk) = true ∧ decide (pk < s.size) = true ∧ (y1 == 13) = true ∧ (y2 == 10) = false ∧ mk = false) ∨ (decide (0 < pk) = true ∧ decide (pk < s.size) = true ∧ (y1 == 13) = true ∧ (y2 == 10) = true ∧ mk = true) := by
                  rcases HBT.out with ⟨h0, h1⟩ | ⟨h0, h1, h2⟩ | ⟨h0, h1, h2⟩
                  · exact .inl ⟨by simpa using h0, h1⟩
                  · exact .inr (.inl ⟨by simpa using h0, by simpa using h1, h2⟩)
                  · by_cases e1 : byt s (pk - 1) = 13
                    · by_cases e2 : byt s pk = 10
                      · exact .inr (.inr (.inr (.inr ⟨by simpa using h0, by simpa using h1, by simp; omega, by simp; omega, by rw [h2]; simp [e1, e2]⟩)))
                      · exact .inr (.inr (.inr (.inl ⟨by simpa using h0, by simpa using h1, by simp; omega, by simp; omega, by rw [h2]; simp [e1, e2]⟩)))
                    · exact .inr (.inr (.inl ⟨by simpa using h0, by simpa using h1, by simp; omega, by rw [h2]; simp [e1]⟩))
                rw [hy2] at hix0
                rw [hy1] at hix1
                clear hy1 hy2
                rcases hfive with ⟨t0, rfl⟩ | ⟨t0, t1, rfl⟩ | ⟨t0, t1, t2, rfl⟩ | ⟨t0, t1, t2, t3, rfl⟩ | ⟨t0, t1, t2, t3, rfl⟩
                case' inl => clear hix0 hix1 hwp
                case' inr.inl => clear hix0 hix1 hwp
                case' inr.inr.inl =>
                  have hix0 := hix0 (by simpa using t1)
                  have hix1 := hix1 (by simpa using t0) (by simpa using t1)
                  have hwp := hwp (by simpa using t0)
                case' inr.inr.inr.inl =>
                  have hix0 := hix0 (by simpa using t1)
                  have hix1 := hix1 (by simpa using t0) (by simpa using t1)
                  have hwp := hwp (by simpa using t0)
                case' inr.inr.inr.inr =>
                  have hix0 := hix0 (by simpa using t1)
                  have hix1 := hix1 (by simpa using t0) (by simpa using t1)
                  have hwp := hwp (by simpa using t0)
                all_goals
                  generalize pk - 1 = pk1 at *
                  go_wp2
                  go_meet
                  exact ⟨rfl, rfl⟩
              case rest =>
                obtain ⟨rfl, rfl⟩ := hcut
                cases mk
                all_goals
                  simp only [Bool.false_eq_true, ↓reduceIte, spO] at A5
                  first
                    | rw [← HEQ.out] at A5
                    | simp only [noSp] at A5
                  go_wp2_with fail
                  refine (A5.out _ (HM.out.keep KV8.out)).mono ?_
                  rintro e V9 ⟨rfl, hv9⟩
                  have KV9 := Lib.hid (KV8.out.trans0 hv9); have LV9 := Lib.hid (hv9.at_ LV8.out (by simp)); have X9 := Lib.hid (hv9.at_ X8.out (by simp)); clear hv9 xc0 xc1 xc2 xc3 xc4 xc5
                  go_upto_region 34 with (fail)
                  have kn9 := (Keep.refl [] V9).alloc
                  obtain ⟨NB, hNB⟩ : ∃ B, B = V9.heap.size := ⟨_, rfl⟩
                  first
                    | refine wp_cut (fun W => Keep [] W1 W ∧ W.heap[LB]? = some (lastB s k) ∧ W.heap[X]? = some (.cells #[.int .i64 (pk : Nat), .int .i64 (k : Nat), .int .i64 (uk : Nat), .int .i64 (ck : Nat), .int .i64 (lk : Nat), .int .i64 (ok : Nat)] 29 (0, 0)) ∧ W.heap[V9.heap.size]? = some (.cells #[.int .i64 (pk : Nat), .int .i64 (k : Nat), .int .i64 (uk : Nat), .int .i64 (ck : Nat), .int .i64 (lk : Nat), .int .i64 (ok : Nat)] 29 (0, 0))) ⟨KV9.out.alloc _, (kn9 _).at_ LV9.out (by simp), (kn9 _).at_ X9.out (by simp), World.alloc_heap_new V9 _⟩ ?_
                    | refine wp_cut (fun W => Keep [] W1 W ∧ W.heap[LB]? = some (lastB s k) ∧ W.heap[X]? = some (.cells #[.int .i64 (pk : Nat), .int .i64 (k : Nat), .int .i64 (uk : Nat), .int .i64 (ck : Nat), .int .i64 (lk : Nat), .int .i64 (ok : Nat)] 29 (0, 0)) ∧ W.heap[V9.heap.size]? = some (.cells #[.int .i64 0, .int .i64 0, .int .i64 0, .int .i64 0, .int .i64 0, .int .i64 0] 29 (0, 0))) ⟨KV9.out.alloc _, (kn9 _).at_ LV9.out (by simp), (kn9 _).at_ X9.out (by simp), World.alloc_heap_new V9 _⟩ ?_
                  rw [← hNB]
                  rintro V10 ⟨kv10, lv10, x10, n10⟩
                  clear hNB kn9
                  have xc0 := cell_of_block x10 0; have xc1 := cell_of_block x10 1; have xc2 := cell_of_block x10 2; have xc3 := cell_of_block x10 3; have xc4 := cell_of_block x10 4; have xc5 := cell_of_block x10 5
                  have nc0 := cell_of_block n10 0; have nc1 := cell_of_block n10 1; have nc2 := cell_of_block n10 2; have nc3 := cell_of_block n10 3; have nc4 := cell_of_block n10 4; have nc5 := cell_of_block n10 5
                  simp at xc0 xc1 xc2 xc3 xc4 xc5 nc0 nc1 nc2 nc3 nc4 nc5
                  obtain ⟨lcs, hlcs, hlz⟩ := lastB_cells s k
                  rw [hlcs] at lv10
                  obtain ⟨V11, hs11, hb11, hk11⟩ := store_row (P := Try.prog) (t := 29) (cs := #[.int .i64 (pk : Nat), .int .i64 (k : Nat), .int .i64 (uk : Nat), .int .i64 (ck : Nat), .int .i64 (lk : Nat), .int .i64 (ok : Nat)]) spot_info lv10 hlz rfl (by simp [Value.oneCell'])
                  have KV11 := Lib.hid (kv10.trans hk11 (fun b hb => by simp at hb; subst hb; exact .inr HLB.out))
                  have LV11 := Lib.hid (show V11.heap[LB]? = some (lastB s (k + 1)) by rw [hb11, HEQ.out]; exact congrArg some (lastB_succ s k).symm)
                  clear kv10 lv10 x10 n10 hb11 hk11 hlcs hlz
                  go_wp2_with (with_reducible refine park_store 16 297 _ rfl ?_)
                  refine wpList_store_eq rfl _ (.tmp 16) (.tmp 297) rfl hs11 ?_
                  clear hs11 xc0 xc1 xc2 xc3 xc4 xc5 nc0 nc1 nc2 nc3 nc4 nc5
                  go_wp2
                  exact ⟨⟨k + 1, by omega, by go_num, KV11.out, LV11.out⟩, by simp [intOf]; omega⟩
          · have hkd : decide (k ≤ np s) = false := by simpa using hkn
            obtain rfl : k = np s + 1 := by omega
            have hlb : lastB s (np s + 1) = .cells (spV s (np s)) 29 (0, 0) := lastB_succ s (np s)
            have hlw := LW.out
            rw [hlb] at hlw
            have w0 := cell_of_block hlw 0; have w2 := cell_of_block hlw 2; have w3 := cell_of_block hlw 3; have w4 := cell_of_block hlw 4
            simp [spV] at w0 w2 w3 w4
            rw [pos_np] at w0
            rename World => V0
            obtain ⟨I, f, hf1, hf2⟩ := kept_class V0
            have q0 : ∀ i, (f i).cell? _ = _ := fun i => (hf1 i).cellv w0 (by simp)
            have q2 : ∀ i, (f i).cell? _ = _ := fun i => (hf1 i).cellv w2 (by simp)
            have q3 : ∀ i, (f i).cell? _ = _ := fun i => (hf1 i).cellv w3 (by simp)
            have q4 : ∀ i, (f i).cell? _ = _ := fun i => (hf1 i).cellv w4 (by simp)
            obtain ⟨iw, hiw⟩ := hf2 V0.drew (Keep.refl _ _).drew
            haveI : Nonempty I := ⟨iw⟩
            have HF1 := Lib.hid hf1; have HF2 := Lib.hid hf2
            clear hlb hlw w0 w2 w3 w4 hf1 hf2 hkn
            go_wp2_with fail
            refine wp_quiet_tail 27 f ⟨iw, hiw⟩ (by kernel_rfl) (by kernel_rfl) ?_
            clear hiw iw
            simp only [List.take_succ_cons, List.take_zero, List.drop_succ_cons, List.drop_zero]
            repeat (quiet_step (first
              | ((with_reducible refine (HLS.out _ _ (MW.out.keep (HF1.out _))).mono ?_); rintro e w'' ⟨rfl, hk⟩; exact ⟨rfl, HF2.out _ ((HF1.out _).trans0 hk)⟩)
              | ((with_reducible refine (known_any _).mono ?_); rintro e w'' ⟨rfl, hk⟩; exact ⟨rfl, HF2.out _ ((HF1.out _).trans0 hk)⟩)))
            refine wpQuiet_nil ?_
            intro i
            have KE := Lib.hid (K1.out.trans0 (KW.out.trans0 (HF1.out i)))
            clear q0 q2 q3 q4 HF1 HF2
            generalize f i = VE at *
            clear i f
            go_wp2
            go_ret
            exact ⟨rfl, KE.out⟩
  · have hzd : decide ((300 : Int) < (s.size : Int)) = true := by simp; omega
    go_enter Try.func6, Try.ntmps6
    go_wp2_with fail
    refine (known_any _).mono ?_
    rintro e W3 ⟨rfl, hk3⟩
    have K3 := Lib.hid hk3; clear hk3
    go_wp2
    go_ret
    exact ⟨rfl, K3.out⟩
end Go.Proofs.Ytodbjehggkdjaaa
