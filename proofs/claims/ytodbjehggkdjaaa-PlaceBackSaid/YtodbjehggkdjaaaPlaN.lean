/-
  The reference's Spots.
-/
import Derived.Test.YtodbjehggkdjaaaMR
import Derived.Test.YtodbjehggkdjaaaRegFix
import Derived.Test.YtodbjehggkdjaaaMM
import Derived.Test.YtodbjehggkdjaaaQuietT
import Derived.Test.YtodbjehggkdjaaaMS
namespace Go.Proofs.Ytodbjehggkdjaaa
open Go.RowKit
set_option linter.unusedVariables false
set_option linter.unusedSimpArgs false

theorem wp_cut {P : Program} {c : Code} {Q : Exit → Act → World → Prop} {a : Act} {w : World} (R : World → Prop) (h : R w) (hw : ∀ W, R W → c.wp P Q a W) : c.wp P Q a w := hw w h

theorem wide_any (a r n : Int) (b : Bool) (w : World) : Calls Try.prog 42 #[.agg #[.int .i64 a, .int .i32 r, .int .i64 n, .bool b]] w fun e w' => e = .returned (.int .i64 (if 65536 ≤ r then 2 else 1)) ∧ Keep [] w w' := by
  have hall : ∃ b : Bool, decide (65536 ≤ r) = b := ⟨_, rfl⟩
  obtain ⟨big, tb⟩ := hall
  have hr : (if 65536 ≤ r then (2 : Int) else 1) = if big = true then 2 else 1 := by rw [← tb]; by_cases h : 65536 ≤ r <;> simp [h]
  rw [hr]
  clear hr
  cases big
  all_goals
    go_enter Try.func42, Try.ntmps42
    go_wp2
    go_ret
    exact ⟨rfl, (Keep.refl _ _).alloc _⟩

theorem ends_any (v : Value) (s : ByteArray) (k : Nat) (w : World) (h : PcAt w v s (cut s 0)) (hk : k < np s) (hz : s.size ≤ 1073741823) :
    Calls Try.prog 43 #[v, .int .i64 (k : Nat)] w fun e w' => e = .returned (.bool (endP s k)) ∧ w = w' := by
  have hnp := np_le s
  have hcl : (cut s 0).length = np s := rfl
  obtain ⟨ad, cap, rfl, hc⟩ := h
  obtain ⟨b, off, rfl, hcs⟩ := hc (by omega)
  have c1 := (hcs k _ (pos_get hk)).2.1
  rw [show (dec s (pos s k)).1 = rn s k from rfl] at c1
  obtain ⟨ri, hri⟩ : ∃ ri : Int, ((rn s k : Nat) : Int) = ri := ⟨_, rfl⟩
  rw [hri] at c1
  rw [hcl]
  have hw1 : IntKind.i64.wrap ((k : Int) + 1) = ((k : Int) + 1) := by rw [IntKind.wrap_i64]; omega
  have hlt : decide (k < np s) = true := by simpa using hk
  have HC := Lib.hid hcs; have HRI := Lib.hid hri
  clear hcs hri hc hcl
  by_cases h10 : ri = 10
  · have t1 : (ri == 10) = true := by simpa using h10
    have HE : Hid (endP s k = true) := Lib.hid (by unfold endP; have := HRI.out; rw [show decide (rn s k = 10) = true by simp; omega]; rfl)
    clear h10
    go_enter Try.func43, Try.ntmps43
    go_wp2
    go_ret
    rw [HE.out]
    exact ⟨rfl, rfl⟩
  · have t1 : (ri == 10) = false := by simpa using h10
    by_cases h13 : ri = 13
    · have t2 : (ri == 13) = true := by simpa using h13
      by_cases hl : k + 1 = np s
      · have t3 : (((k : Int) + 1) == (np s : Int)) = true := by simp; omega
        have HE : Hid (endP s k = true) := Lib.hid (by unfold endP; have := HRI.out; rw [show decide (rn s k = 13) = true by simp; omega, show decide (k + 1 = np s) = true by simpa using hl]; simp)
        clear h10 h13 hl
        go_enter Try.func43, Try.ntmps43
        go_wp2
        go_ret
        rw [HE.out]
        exact ⟨rfl, rfl⟩
      · have t3 : (((k : Int) + 1) == (np s : Int)) = false := by simp; omega
        have hk1 : k + 1 < np s := by omega
        have c2 := (HC.out (k + 1) _ (pos_get hk1)).2.1
        rw [show (dec s (pos s (k + 1))).1 = rn s (k + 1) from rfl] at c2
        obtain ⟨zi, hzi⟩ : ∃ zi : Int, ((rn s (k + 1) : Nat) : Int) = zi := ⟨_, rfl⟩
        rw [hzi] at c2
        have hi0 : (0 : Int) ≤ (k : Int) + 1 := by omega
        have hi1 : (k : Int) + 1 < (np s : Int) := by omega
        have hi2 : ((k : Int) + 1).toNat = k + 1 := by omega
        have HE : Hid (endP s k = (zi != 10)) := Lib.hid (by
          unfold endP; have := HRI.out
          rw [show decide (rn s k = 10) = false by simp; omega, show decide (rn s k = 13) = true by simp; omega, show decide (k + 1 = np s) = false by simpa using hl, ← hzi]
          simp
          by_cases h : rn s (k + 1) = 10
          · simp [h]
          · have : ¬ ((rn s (k + 1) : Nat) : Int) = 10 := by omega
            simp [h, this])
        clear h10 h13 hl hzi
        go_enter Try.func43, Try.ntmps43
        go_wp2
        go_ret
        rw [HE.out]
        exact ⟨rfl, rfl⟩
    · have t2 : (ri == 13) = false := by simpa using h13
      have HE : Hid (endP s k = false) := Lib.hid (by unfold endP; have := HRI.out; rw [show decide (rn s k = 10) = false by simp; omega, show decide (rn s k = 13) = false by simp; omega]; rfl)
      clear h10 h13
      go_enter Try.func43, Try.ntmps43
      go_wp2
      go_ret
      rw [HE.out]
      exact ⟨rfl, rfl⟩
theorem spV0 (s : ByteArray) : spV s 0 = #[.int .i64 0, .int .i64 0, .int .i64 0, .int .i64 0, .int .i64 1, .int .i64 1] := by
  unfold spV
  rw [pos_zero, cl_zero]
  rfl
/-- The breaks among the first q that lie behind 0 and not behind p. -/
def cnq (s : ByteArray) (p q : Nat) : Nat := (((brk s).take q).filter fun b => decide (0 < b) && decide (b ≤ p)).length
theorem cnq_all (s : ByteArray) (k : Nat) : cnq s (pos s k) (brk s).length = cl s k := by unfold cnq cl; rw [List.take_length]
theorem cnq_le (s : ByteArray) (p q : Nat) : cnq s p q ≤ q := by unfold cnq; have := List.length_filter_le (fun b => decide (0 < b) && decide (b ≤ p)) ((brk s).take q); rw [List.length_take] at this; omega
theorem cnq_step {s : ByteArray} {p q b : Nat} (h : (brk s)[q]? = some b) : cnq s p (q + 1) = cnq s p q + (if 0 < b ∧ b ≤ p then 1 else 0) := by
  unfold cnq
  rw [List.take_add_one, h]
  simp only [Option.toList, List.filter_append, List.length_append]
  by_cases hb : 0 < b ∧ b ≤ p
  · simp [hb]
  · rw [if_neg hb]
    have : (decide (0 < b) && decide (b ≤ p)) = false := by
      rw [Bool.and_eq_false_iff, decide_eq_false_iff_not, decide_eq_false_iff_not]; omega
    simp [List.filter_cons, this]
theorem own_base {w : World} {b b' : Nat} {e : TypeId} {sz n : Nat} {v : Value} {xs : List Value} (h : w.ownsRow b e sz v n xs) (hb : b' ≤ b) : w.ownsRow b' e sz v n xs := by
  refine ⟨h.1, ?_⟩
  rcases h.2 with h | ⟨g, cap, cur, h1, h2, h3⟩
  · exact .inl h
  · exact .inr ⟨g, cap, cur, h1, by omega, h3⟩
theorem pc_un {s : ByteArray} {k : Nat} : un s (k + 1) = un s k + (if 65536 ≤ rn s k then 2 else 1) := rfl
set_option maxRecDepth 100000 in
set_option maxHeartbeats 16000000 in
theorem spots_any (s : ByteArray) (w : World) (hz : s.size ≤ 1000000) :
    Calls Try.prog 24 #[.string s] w (NewSl 29 6 (np s + 1) (spCells s (np s + 1)) w) := by
  have hnp := np_le s
  have hbl := brk_len s
  go_enter Try.func24, Try.ntmps24
  go_wp2_with fail
  refine (pieces_any s w (by omega)).mono ?_
  rintro r w1 ⟨v1, rfl, ho1, hk1, _⟩
  have P1 := Lib.hid (PcAt.of_owns ho1)
  have K1 := Lib.hid hk1
  clear ho1 hk1
  go_wp2_with fail
  refine (rbreaks_any s _ (by omega)).mono ?_
  intro r w2 hN
  obtain ⟨adb, capb, rfl, hs, hk, _⟩ := hN.at_
  obtain ⟨_, _, he, _, hc⟩ := hs
  cases he
  have HB := Lib.hid hc; have K2 := Lib.hid (K1.out.trans0 hk); have P2 := Lib.hid (P1.out.keep0 hk)
  clear hN hc hk K1 P1
  obtain ⟨adp, capp, e1, hp⟩ := P2.out
  subst e1
  obtain ⟨m, hm⟩ : ∃ m, m = (brk s).length := ⟨_, rfl⟩
  rw [← hm] at hbl HB ⊢
  rw [show (cut s 0).length = np s from rfl]
  have HM := Lib.hid hm; have HP := Lib.hid hp; clear hm hp
  obtain ⟨i0, hi⟩ : ∃ i, Try.prog.info? 29 = some i := ⟨_, rfl⟩
  have HZ0 : Hid (i0.zero = some (.agg noSp)) := Lib.hid (by cases hi; rfl)
  have HZ1 : Hid (i0.size = 6) := Lib.hid (by cases hi; rfl)
  have HZ2 : Hid (i0.bytes = 48) := Lib.hid (by cases hi; rfl)
  have HI := Lib.hid hi
  clear hi
  go_upto_region 5 with (fail)
  obtain ⟨bx, hbx⟩ : ∃ bx, bx = w2.heap.size := ⟨_, rfl⟩
  refine wp_cut (fun W => Keep [] w2 W ∧ W.heap[w2.heap.size]? = some (.cells (spV s 0) 29 (0, 0)) ∧ W.ownsRow (w2.heap.size + 1) 29 6 (.slice (some ⟨w2.heap.size + 1, 0, none⟩) 1 1) 1 (spCells s 1)) ⟨?_, ?_, ?_⟩ ?_
  · exact ((Keep.refl _ _).alloc _).alloc _
  · rw [spV0]; exact (Below.heap_alloc _ _ _ (by simp)).trans (World.alloc_heap_new w2 _)
  · have := World.alloc_heap_new (w2.alloc (.cells (spV s 0) 29)) (.cells (spV s 0) 29)
    rw [World.size_alloc] at this
    rw [spV0] at this
    refine ⟨by rw [spCells_len], .inr ⟨_, 1, _, rfl, Nat.le_refl _, this, Nat.le_refl _, by unfold maxLen; omega, rfl, ?_⟩⟩
    show _ = [] ++ (spV s 0).toList
    rw [spV0]
    rfl
  rw [← hbx]
  rintro W0 ⟨k0, b0, r0⟩
  have HBX := Lib.hid hbx; clear hbx
  go_wp2
  go_loopw [6, 7] (fun v i wr => ∃ k : Nat, k ≤ np s ∧ i = .int .i64 k ∧ Keep [] w2 wr ∧ wr.heap[bx]? = some (.cells (spV s k) 29 (0, 0)) ∧ wr.ownsRow (bx + 1) 29 6 v (k + 1) (spCells s (k + 1))) (fun _ i _ => np s - (intOf i).toNat)
  case atStart => exact ⟨0, Nat.zero_le _, rfl, k0, b0, r0⟩
  case round =>
    clear k0 b0 r0
    obtain ⟨k, hk, rfl, kr, br, rr⟩ := hrel
    by_cases hlt : k < np s
    · have hltd : decide (k < np s) = true := by simpa using hlt
      obtain ⟨b, off, e2, hcs⟩ := HP.out (by show np s ≠ 0; omega)
      cases e2
      obtain ⟨d0, d1, d2, d3⟩ := hcs k _ (pos_get hlt)
      rw [show (dec s (pos s k)).1 = rn s k from rfl] at d1
      have d0 := kr.cellv d0 (by simp)
      have d1 := kr.cellv d1 (by simp)
      have d2 := kr.cellv d2 (by simp)
      have d3 := kr.cellv d3 (by simp)
      have hps := pos_step hlt
      have hple := pos_le s (k + 1)
      have hlnk := ln_le s k
      have hcok : co s k ≤ k + 1 := by unfold co; omega
      have u0 := cell_of_block br 0
      have u1 := cell_of_block br 1
      have u2 := cell_of_block br 2
      have u3 := cell_of_block br 3
      have u4 := cell_of_block br 4
      have u5 := cell_of_block br 5
      simp [spV] at u0 u1 u2 u3 u4 u5
      have f0 := free_of_block br 0; have f1 := free_of_block br 1; have f2 := free_of_block br 2; have f3 := free_of_block br 3; have f4 := free_of_block br 4; have f5 := free_of_block br 5
      have lx := lt_of_block br
      have hbb : b < w2.heap.size := World.block_lt_of_cell? _ _ (hcs k _ (pos_get hlt)).1
      have e1 : b ≠ bx := by have := HBX.out; omega
      have KR := Lib.hid kr; have BR := Lib.hid br; have RR := Lib.hid rr; have HCS := Lib.hid hcs
      clear kr br rr hcs
      obtain ⟨wd, hwd⟩ : ∃ wd, wd = (dec s (pos s k)).2 := ⟨_, rfl⟩
      rw [← hwd] at d2 hps
      have HWD := Lib.hid hwd; have HPS := Lib.hid hps
      have hw0 : IntKind.i64.wrap ((pos s k : Int) + (wd : Int)) = ((pos s (k + 1) : Nat) : Int) := by rw [IntKind.wrap_i64]; omega
      have hw1 : IntKind.i64.wrap ((k : Int) + 1) = ((k : Int) + 1) := by rw [IntKind.wrap_i64]; omega
      have hw3 : IntKind.i64.wrap ((co s k : Int) + 1) = ((co s k : Int) + 1) := by rw [IntKind.wrap_i64]; omega
      clear hwd hps
      go_upto_region 8 with (fail)
      go_still_tail 8, (by kernel_rfl)
      go_upto_region 9 with (fail)
      refine wp_cut (fun W => Keep [bx] wr W ∧ W.heap[bx]? = some (.cells #[.int .i64 (pos s (k + 1) : Nat), .int .i64 (k : Nat), .int .i64 (un s k : Nat), .int .i64 (cl s k : Nat), .int .i64 (ln s k : Nat), .int .i64 (co s k : Nat)] 29 (0, 0))) ⟨?_, ?_⟩ ?_
      · exact ((Keep.refl _ _).drew).setCell (.inl (by simp)) _
      · have hb : wr.drew.heap[bx]? = _ := BR.out
        exact block_setCell hb 0 (.int .i64 (pos s (k + 1) : Nat))
      rintro W1 ⟨k1, b1⟩
      have v1 := cell_of_block b1 1
      simp at v1
      have g1 := free_of_block b1 1
      have l1 := lt_of_block b1
      clear u0 u1 u2 u3 u4 u5 f0 f1 f2 f3 f4 f5 lx
      go_upto_region 10 with (fail)
      refine wp_cut (fun W => Keep [bx] wr W ∧ W.heap[bx]? = some (.cells #[.int .i64 (pos s (k + 1) : Nat), .int .i64 ((k : Int) + 1), .int .i64 (un s k : Nat), .int .i64 (cl s k : Nat), .int .i64 (ln s k : Nat), .int .i64 (co s k : Nat)] 29 (0, 0))) ⟨?_, ?_⟩ ?_
      · exact k1.setCell (.inl (by simp)) _
      · exact block_setCell b1 1 (.int .i64 ((k : Int) + 1))
      clear k1 b1 v1 g1 l1 hw0
      rintro W2 ⟨k2, b2⟩
      have hbn : b ∉ [bx] := by simp; exact e1
      have v2 := cell_of_block b2 2
      simp at v2
      have d0 := k2.cellv d0 hbn
      have d1 := k2.cellv d1 hbn
      have d2 := k2.cellv d2 hbn
      have d3 := k2.cellv d3 hbn
      obtain ⟨I, f, hf1, hf2⟩ := kept_class W2
      have q0 : ∀ i, (f i).cell? _ = _ := fun i => (hf1 i).cellv d0 (by simp)
      have q1 : ∀ i, (f i).cell? _ = _ := fun i => (hf1 i).cellv d1 (by simp)
      have q2 : ∀ i, (f i).cell? _ = _ := fun i => (hf1 i).cellv d2 (by simp)
      have q3 : ∀ i, (f i).cell? _ = _ := fun i => (hf1 i).cellv d3 (by simp)
      have q4 : ∀ i, (f i).cell? _ = _ := fun i => (hf1 i).cellv v2 (by simp)
      obtain ⟨iw, hiw⟩ := hf2 W2.drew (Keep.refl _ _).drew
      haveI : Nonempty I := ⟨iw⟩
      have HF1 := Lib.hid hf1; have HF2 := Lib.hid hf2
      obtain ⟨wv, hwv⟩ : ∃ wv : Int, (if 65536 ≤ ((rn s k : Nat) : Int) then (2 : Int) else 1) = wv := ⟨_, rfl⟩
      have hun : un s (k + 1) = un s k + (if 65536 ≤ rn s k then 2 else 1) := rfl
      have hwv2 : (un s k : Int) + wv = (un s (k + 1) : Nat) := by
        rw [hun, ← hwv]
        by_cases h : 65536 ≤ rn s k
        · rw [if_pos h, if_pos (by omega)]; push_cast; rfl
        · rw [if_neg h, if_neg (by omega)]; push_cast; rfl
      have hule := un_le s (k + 1) (by omega)
      have hw2 : IntKind.i64.wrap ((un s k : Int) + wv) = ((un s (k + 1) : Nat) : Int) := by rw [hwv2, IntKind.wrap_i64]; omega
      have HWV := Lib.hid hwv
      clear hwv2 hun hwv d0 d1 d2 d3 v2 hf1 hf2
      refine wp_quiet_tail 8 f ⟨iw, hiw⟩ (by kernel_rfl) (by kernel_rfl) ?_
      clear hiw iw
      simp only [List.take_succ_cons, List.take_zero, List.drop_succ_cons, List.drop_zero]
      repeat (quiet_step (((with_reducible refine (wide_any _ _ _ _ _).mono ?_); rintro e w'' ⟨rfl, hk⟩; rw [HWV.out]; exact ⟨rfl, HF2.out _ ((HF1.out _).trans0 hk)⟩)))
      refine wpQuiet_nil ?_
      intro i
      have k3 : Keep [bx] wr (f i) := k2.trans0 (HF1.out i)
      have b3 := (HF1.out i).at_ b2 (by simp)
      clear q0 q1 q2 q3 q4 HF1 HF2 k2 b2
      generalize f i = W3 at *
      clear i f
      have v2 := cell_of_block b3 2
      have v5 := cell_of_block b3 5
      simp at v2 v5
      have g2 := free_of_block b3 2
      have g5 := free_of_block b3 5
      have l3 := lt_of_block b3
      go_upto_region 12 with (fail)
      refine wp_cut (fun W => Keep [bx] wr W ∧ W.heap[bx]? = some (.cells #[.int .i64 (pos s (k + 1) : Nat), .int .i64 ((k : Int) + 1), .int .i64 (un s (k + 1) : Nat), .int .i64 (cl s k : Nat), .int .i64 (ln s k : Nat), .int .i64 ((co s k : Int) + 1)] 29 (0, 0))) ⟨?_, ?_⟩ ?_
      · exact (k3.setCell (.inl (by simp)) _).setCell (.inl (by simp)) _
      · exact block_setCell (block_setCell b3 2 (.int .i64 (un s (k + 1) : Nat))) 5 (.int .i64 ((co s k : Int) + 1))
      clear k3 b3 v2 v5 g2 g5 l3 hw1 hw2 hw3
      rintro W4 ⟨k4, b4⟩
      have kw4 : Keep [] w2 W4 := KR.out.trans k4 (fun x hx => .inr (by simp at hx; have := HBX.out; omega))
      go_wp2_with fail
      refine (ends_any _ s k _ (P2.out.keep0 kw4) hlt (by omega)).mono ?_
      rintro r W5 ⟨rfl, rfl⟩
      have hln : ln s (k + 1) = if endP s k = true then ln s k + 1 else ln s k := rfl
      have hco := co_step s k
      have hwl : IntKind.i64.wrap ((ln s k : Int) + 1) = ((ln s k : Int) + 1) := by rw [IntKind.wrap_i64]; omega
      have v3 := cell_of_block b4 3
      have v4 := cell_of_block b4 4
      have v5 := cell_of_block b4 5
      simp at v3 v4 v5
      have g3 := free_of_block b4 3
      have g4 := free_of_block b4 4
      have g5 := free_of_block b4 5
      have l4 := lt_of_block b4
      have HLN := Lib.hid hln; have HCO := Lib.hid hco; have K4 := Lib.hid k4; have B4 := Lib.hid b4
      clear hln hco k4 b4 kw4
      generalize endP s k = en at *
      cases en
      all_goals
        go_upto_region 16 with (fail)
        refine wp_cut (fun W => Keep [bx] wr W ∧ W.heap[bx]? = some (.cells #[.int .i64 (pos s (k + 1) : Nat), .int .i64 ((k : Int) + 1), .int .i64 (un s (k + 1) : Nat), .int .i64 (0 : Nat), .int .i64 (ln s (k + 1) : Nat), .int .i64 (co s (k + 1) : Nat)] 29 (0, 0))) ?_ ?_
        · first
            | exact ⟨K4.out.setCell (.inl (by simp)) _, by rw [HLN.out, HCO.out]; exact block_setCell B4.out 3 (.int .i64 0)⟩
            | exact ⟨((K4.out.setCell (.inl (by simp)) _).setCell (.inl (by simp)) _).setCell (.inl (by simp)) _, by rw [HLN.out, HCO.out]; exact block_setCell (block_setCell (block_setCell B4.out 4 (.int .i64 ((ln s k : Int) + 1))) 5 (.int .i64 1)) 3 (.int .i64 0)⟩
        clear hwl v3 v4 v5 g3 g4 g5 l4
        rintro W6 ⟨k6, b6⟩
        go_wp2
        go_loopw [8] (fun j wq => ∃ q : Nat, q ≤ m ∧ j = .int .i64 q ∧ Keep [bx] wr wq ∧ wq.heap[bx]? = some (.cells #[.int .i64 (pos s (k + 1) : Nat), .int .i64 ((k : Int) + 1), .int .i64 (un s (k + 1) : Nat), .int .i64 (cnq s (pos s (k + 1)) q : Nat), .int .i64 (ln s (k + 1) : Nat), .int .i64 (co s (k + 1) : Nat)] 29 (0, 0))) (fun j _ => m - (intOf j).toNat)
        case atStart => exact ⟨0, Nat.zero_le _, rfl, k6, b6⟩
        case round =>
          obtain ⟨q, hq, rfl, kq, bq⟩ := hrel
          by_cases hql : q < m
          · have hqd : decide (q < m) = true := by simpa using hql
            have hkl : q < (brk s).length := by rw [← HM.out]; exact hql
            have hke := List.getElem?_eq_getElem hkl
            obtain ⟨bb, ob, e3, hbs⟩ := HB.out (by omega)
            cases e3
            have c0 := hbs q _ (ints_at hke)
            have hbw : bb < w2.heap.size := World.block_lt_of_cell? _ _ c0
            have cq := (KR.out.trans kq (fun x hx => .inr (by simp at hx; have := HBX.out; omega)) : Keep [] w2 wr).cellv c0 (by simp)
            have hcs := cnq_step (p := pos s (k + 1)) hke
            have hcl := cnq_le s (pos s (k + 1)) q
            generalize (brk s)[q] = pb at *
            have v0 := cell_of_block bq 0
            have v3 := cell_of_block bq 3
            simp at v0 v3
            have g3 := free_of_block bq 3
            have lq := lt_of_block bq
            have hwc : IntKind.i64.wrap ((cnq s (pos s (k + 1)) q : Int) + 1) = ((cnq s (pos s (k + 1)) q : Int) + 1) := by rw [IntKind.wrap_i64]; omega
            have HCS := Lib.hid hcs; have KQ := Lib.hid kq; have BQ := Lib.hid bq
            clear hcs kq bq c0 hbs hke hkl hbw
            by_cases h0 : 0 < pb
            · have t1 : decide (0 < pb) = true := by simpa using h0
              by_cases hp : pb ≤ pos s (k + 1)
              · have t2 : decide (pb ≤ pos s (k + 1)) = true := by simpa using hp
                have hc2 : cnq s (pos s (k + 1)) (q + 1) = cnq s (pos s (k + 1)) q + 1 := by rw [HCS.out, if_pos ⟨h0, hp⟩]
                have HC2 := Lib.hid hc2
                clear h0 hp hc2
                go_upto_region 19 with (fail)
                go_still_tail 13, (by kernel_rfl)
                go_wp2
                refine ⟨⟨q + 1, by omega, by go_num, ((KQ.out.drew).setCell (.inl (by simp)) _), ?_⟩, by simp [intOf]; omega⟩
                rw [HC2.out]
                have hb : wr.drew.heap[bx]? = _ := BQ.out
                exact block_setCell hb 3 (.int .i64 ((cnq s (pos s (k + 1)) q : Int) + 1))
              · have t2 : decide (pb ≤ pos s (k + 1)) = false := by simpa using hp
                have hc2 : cnq s (pos s (k + 1)) (q + 1) = cnq s (pos s (k + 1)) q := by rw [HCS.out, if_neg (fun h => hp h.2)]; rfl
                have HC2 := Lib.hid hc2
                clear h0 hp hc2
                go_upto_region 19 with (fail)
                go_still_tail 13, (by kernel_rfl)
                go_wp2
                exact ⟨⟨q + 1, by omega, by go_num, KQ.out.drew, by rw [HC2.out]; exact BQ.out⟩, by simp [intOf]; omega⟩
            · have t1 : decide (0 < pb) = false := by simpa using h0
              have hc2 : cnq s (pos s (k + 1)) (q + 1) = cnq s (pos s (k + 1)) q := by rw [HCS.out, if_neg (fun h => h0 h.1)]; rfl
              have HC2 := Lib.hid hc2
              clear h0 hc2
              go_upto_region 19 with (fail)
              refine (wpIn_wide (n := 0)).1 ?_
              refine wpIn_fix (.inl rfl) 13 [] (fun _ => wr.drew) (fun w' => w' = wr.drew)
                [.slice (some ⟨bb, ob, none⟩) m capb, .int .i64 (q : Nat), .pointer (some ⟨bb, ob + q, none⟩), .int .i64 (pb : Nat), .bool false, .bool false, undef, undef, undef, undef, undef, undef, undef]
                (by kernel_rfl) (by kernel_rfl) rfl rfl rfl ?hC19 ?rest19
              case hC19 => exact fun _ _ => rfl
              case rest19 =>
                intro A hA
                simp only [putVals, List.take, Act.put, List.setIfInBounds_toArray, List.set_cons_succ, List.set_cons_zero] at hA
                subst hA
                refine ⟨?_, fixWrites_nil, ?_⟩
                · iterate 6
                    refine fixReads_cons rfl ?_ ?_
                    · intro w1 hw1 K Q hK
                      subst hw1
                      go_simp
                      exact hK
                  iterate 7
                    refine fixReads_out rfl rfl ?_
                  exact fixReads_nil
                · simp only [List.drop]
                  gi_wp2
                  go_wp2
                  exact ⟨⟨q + 1, by omega, by go_num, KQ.out.drew, by rw [HC2.out]; exact BQ.out⟩, by simp [intOf]; omega⟩
          · have hqd : decide (q < m) = false := by simpa using hql
            obtain rfl : q = m := by omega
            have hbx : wr.heap[bx]? = some (.cells (spV s (k + 1)) 29 (0, 0)) := by
              rw [bq]
              unfold spV
              rw [← cnq_all, HM.out]
              rfl
            have v0 := cell_of_block bq 0
            have v1 := cell_of_block bq 1
            have v2 := cell_of_block bq 2
            have v3 := cell_of_block bq 3
            have v4 := cell_of_block bq 4
            have v5 := cell_of_block bq 5
            simp at v0 v1 v2 v3 v4 v5
            have hown := kq.owns RR.out (fun g hg => by simp; have := (RR.out.lt g hg).1; omega)
            have KQ := Lib.hid kq; have BQ := Lib.hid bq; have HBQ := Lib.hid hbx; have HOW := Lib.hid hown
            clear kq bq hbx hown
            have KW := Lib.hid (KR.out.trans KQ.out (fun x hx => .inr (by simp at hx; have := HBX.out; omega)) : Keep [] w2 wr)
            have hsz := KW.out.size
            have HBX2 := Lib.hid (show bx < wr.heap.size from lt_of_block HBQ.out)
            have HSP := Lib.hid (show (spV s (k + 1)).toList = [.int .i64 (pos s (k + 1) : Nat), .int .i64 ((k : Int) + 1), .int .i64 (un s (k + 1) : Nat), .int .i64 (cnq s (pos s (k + 1)) q : Nat), .int .i64 (ln s (k + 1) : Nat), .int .i64 (co s (k + 1) : Nat)] by
              unfold spV; rw [← cnq_all, HM.out]; rfl)
            go_wp2_with (at_builtin; refine wpList_append_mine _ rfl (.tmp 81) (.tmp 83) 36 rfl (bx + 1) 29 i0 (.agg noSp) 6 48 Try.underlying36 HI.out HZ0.out HZ1.out HZ2.out rfl (by decide) _ _ _ rfl (HOW.out.alloc _) ⟨wr.heap.size, 0, none⟩ 1 1 (spV s (k + 1)).toList rfl rfl (by rw [HSP.out]; exact cell_new_row _ _ _) (by simp [spV, Value.oneCell']) (by unfold maxLen; omega) (by omega) (by have := HBX2.out; simp; omega) ?_; intro v' W7 hp2; have hfin := Lib.hid hp2; clear hp2)
            have hge : ∀ g, u6.ownBlock = some g → bx + 1 ≤ g := fun g hg => (HOW.out.lt g hg).1
            have k7 := Keep.trans' (((Keep.refl [] wr).alloc _).mono (by simp)) hfin.out.2.1
            refine ⟨⟨k + 1, by omega, by go_num, KW.out.trans k7 (fun x hx => .inr (by simp at hx; have := hge _ hx; have := HBX.out; omega)), k7.at_ HBQ.out (fun h => by simp at h; have := hge _ h; omega), hfin.out.1⟩, by simp [intOf]; omega⟩
    · have hltd : decide (k < np s) = false := by simpa using hlt
      obtain rfl : k = np s := by omega
      have HK := Lib.hid (K2.out.trans0 kr); have HR := Lib.hid rr
      clear kr br rr
      go_wp2
      go_ret
      have hb : w.heap.size ≤ bx + 1 := by have := K2.out.size; have := HBX.out; omega
      refine ⟨_, rfl, own_base HR.out hb, HK.out, ?_⟩
      have hv : u6 ≠ .slice none 0 0 := fun h => by
        rw [h] at HR
        rcases HR.out.2 with ⟨_, h0⟩ | ⟨g, cap, cur, h0, _⟩
        · omega
        · cases h0
      exact ⟨fun h => absurd h hv, fun h => by omega⟩
end Go.Proofs.Ytodbjehggkdjaaa
