/-
  The reference's table: one row.
-/
import Derived.Test.YtddbjclpmkelaaaDifG
import Derived.BigRegion
import Derived.Test.YtddbjclpmkelaaaStillIn
namespace Go.Proofs.Ytddbjclpmkelaaa
open Go.RowKit Go.Shelf
set_option linter.unusedVariables false
set_option linter.unusedSimpArgs false

theorem info_int2 : (Try.prog.info? 3).map (fun i => (i.zero, i.size, i.bytes)) = some (some (.int .i64 0), 1, 8) := by kernel_rfl
theorem make_row (c : Nat) (hn : c ≤ 100000000) (W : World) : (Instr.makeSlice 56 (.int .i64 (c : Int)) (.int .i64 (c : Int))).run Try.prog W =
    .ok (.slice (some ⟨W.heap.size, 0, none⟩) c c) (W.alloc (.cells (madeCells #[.int .i64 0] c) 3)) := by
  obtain ⟨i, hi, hz, hs, hb⟩ := info_parts info_int2
  have := run_make (P := Try.prog) W 56 3 i (.int .i64 0) Try.underlying56 hi hz .i64 .i64 (c : Int) (c : Int) (by omega) (by omega) (by rw [hb]; omega) (by omega)
  rw [this, hs, Nat.mul_one]
  rfl

/-- The place i, k in one row. -/
def rw_ (m i k : Nat) : Nat := i * (m + 1) + k
theorem rw_div {m i k : Nat} (hk : k ≤ m) : rw_ m i k / (m + 1) = i := by
  unfold rw_; rw [Nat.mul_comm, Nat.mul_add_div (by omega), Nat.div_eq_of_lt (by omega), Nat.add_zero]
theorem rw_mod {m i k : Nat} (hk : k ≤ m) : rw_ m i k % (m + 1) = k := by
  unfold rw_; rw [Nat.mul_comm, Nat.mul_add_mod, Nat.mod_eq_of_lt (by omega)]
theorem rw_lt {n m i k : Nat} (hi : i ≤ n) (hk : k ≤ m) : rw_ m i k < (n + 1) * (m + 1) := by
  unfold rw_
  have := Nat.mul_le_mul_right (m + 1) hi
  rw [Nat.succ_mul]; omega
def lfr (x y : List Int) (p : Nat) : Int := (lf x y (p / (y.length + 1)) (p % (y.length + 1)) : Int)
theorem lfr_at {x y : List Int} {i k : Nat} (hk : k ≤ y.length) : lfr x y (rw_ y.length i k) = (lf x y i k : Int) := by
  unfold lfr; rw [rw_div hk, rw_mod hk]

/-- The table in one row, as it is read. -/
def LeftAt (W : World) (v : Value) (x y : List Int) : Prop :=
  ∃ T, v = .slice (some ⟨T, 0, none⟩) ((x.length + 1) * (y.length + 1)) ((x.length + 1) * (y.length + 1)) ∧ ∀ i k, i ≤ x.length → k ≤ y.length → W.cell? ⟨T, rw_ y.length i k, none⟩ = some (.int .i64 (lf x y i k))
theorem LeftAt.keep {W W' : World} {v : Value} {x y : List Int} (h : LeftAt W v x y) (k : Keep [] W W') : LeftAt W' v x y := by
  obtain ⟨T, rfl, h⟩ := h
  exact ⟨T, rfl, fun i j hi hj => k.cellv (h i j hi hj) (by simp)⟩

set_option maxRecDepth 100000 in
set_option maxHeartbeats 16000000 in
theorem left_any (va vb : Value) (x y : List Int) (w : World) (ha : SlAt w va x.length (x.map (Value.int .i32))) (hb : SlAt w vb y.length (y.map (Value.int .i32))) (hx : x.length ≤ 1000) (hy : y.length ≤ 1000) :
    Calls Try.prog 31 #[va, vb] w fun e w' => ∃ v, e = .returned v ∧ LeftAt w' v x y ∧ Keep [] w w' := by
  obtain ⟨ada, ca, rfl, ha0, ha1⟩ := ha
  obtain ⟨adb, cb, rfl, hb0, hb1⟩ := hb
  have HA := Lib.hid ha1; have HB := Lib.hid hb1; clear ha0 hb0 ha1 hb1
  obtain ⟨n, hn⟩ : ∃ n, n = x.length := ⟨_, rfl⟩
  obtain ⟨m, hm⟩ : ∃ m, m = y.length := ⟨_, rfl⟩
  rw [← hn] at hx; rw [← hm] at hy
  rw [← hn, ← hm]
  have HN := Lib.hid hn; have HM := Lib.hid hm; clear hn hm
  obtain ⟨c, hc⟩ : ∃ c, c = (n + 1) * (m + 1) := ⟨_, rfl⟩
  have hcl : c ≤ 1002001 := by rw [hc]; exact Nat.mul_le_mul (show n + 1 ≤ 1001 by omega) (show m + 1 ≤ 1001 by omega)
  have hci : ((n : Int) + 1) * ((m : Int) + 1) = (c : Int) := by rw [hc]; push_cast; rfl
  have hmkr := make_row c (by omega)
  obtain ⟨orow, hor⟩ : ∃ o, o = Obj.cells (madeCells #[.int .i64 0] c) 3 := ⟨_, rfl⟩
  rw [← hor] at hmkr
  have HOR := Lib.hid hor; have HC := Lib.hid hc; clear hor hc
  go_enter Try.func31, Try.ntmps31
  go_wp2
  go_loopw [7] (fun s wr => ∃ k : Nat, k ≤ n + 1 ∧ s = .int .i64 ((k : Int) - 1) ∧ Keep [] w wr ∧ FillAt wr w.heap.size c (k * (m + 1)) (lfr x y)) (fun s _ => (intOf s + 1).toNat)
  case atStart =>
    refine ⟨n + 1, by omega, congrArg (Value.int .i64) (by omega), (Keep.refl _ _).alloc _, ?_⟩
    rw [HOR.out, ← HC.out]
    exact FillAt.made _ _ _
  case round =>
    obtain ⟨k, hk, rfl, hkp, hfl⟩ := hrel
    have HK := Lib.hid hkp; have HF := Lib.hid hfl; clear hkp hfl
    cases k with
    | zero =>
      rw [show (((0 : Nat) : Int) - 1) = (-1 : Int) from rfl]
      go_wp2
      go_ret
      refine ⟨.slice (some ⟨w.heap.size, 0, none⟩) c c, rfl, ⟨w.heap.size, by rw [HC.out, HN.out, HM.out], fun i j hi hj => ?_⟩, HK.out⟩
      have := HF.out.cell (i := rw_ y.length i j) (by omega) (by rw [HC.out, HN.out, HM.out]; exact rw_lt hi hj)
      rw [this, lfr_at hj]
    | succ i =>
      rw [show (((i + 1 : Nat) : Int) - 1) = (i : Int) by omega]
      obtain ⟨p, hp⟩ : ∃ p, p = i * (m + 1) := ⟨_, rfl⟩
      have hpi : (i : Int) * ((m : Int) + 1) = (p : Int) := by rw [hp]; push_cast; rfl
      have hp2 : (i + 1) * (m + 1) = p + (m + 1) := by rw [Nat.succ_mul, hp]
      have hpi2 : ((i : Int) + 1) * ((m : Int) + 1) = (p : Int) + ((m : Int) + 1) := by rw [Int.add_mul, hpi]; omega
      have hpc : p + (m + 1) ≤ c := by rw [← hp2, HC.out]; exact Nat.mul_le_mul_right _ hk
      have hpc2 : i < n → p + (m + 1) + (m + 1) ≤ c := fun h => by
        have : (i + 1 + 1) * (m + 1) ≤ (n + 1) * (m + 1) := Nat.mul_le_mul_right _ (by omega)
        rw [Nat.succ_mul, hp2] at this; rw [HC.out]; exact this
      have hin : i ≤ n := by omega
      rw [hp2] at HF
      have HPP := Lib.hid hp; have HPC2 := Lib.hid hpc2; clear hp hp2 hpc2
      go_wp2
      go_loopw [8] (fun s wq => ∃ q : Nat, q ≤ m + 1 ∧ s = .int .i64 ((q : Int) - 1) ∧ Keep [] w wq ∧ FillAt wq w.heap.size c (p + q) (lfr x y)) (fun s _ => (intOf s + 1).toNat)
      case atStart => exact ⟨m + 1, by omega, congrArg (Value.int .i64) (by omega), HK.out, HF.out⟩
      case round =>
        obtain ⟨q, hq, rfl, hkq, hfq⟩ := hrel
        cases q with
        | zero =>
          rw [show (((0 : Nat) : Int) - 1) = (-1 : Int) from rfl]
          have HKQ := Lib.hid hkq; have HFQ := Lib.hid hfq; clear hkq hfq
          go_wp2
          exact ⟨⟨i, by omega, rfl, HKQ.out, by rw [← HPP.out]; exact HFQ.out⟩, by simp [intOf]⟩
        | succ j =>
          rw [show (((j + 1 : Nat) : Int) - 1) = (j : Int) by omega]
          have hjm : j ≤ m := by omega
          have eT := hfq.zero (i := p + j) (by omega) (by omega)
          have fT := hfq.free (p + j)
          have hpj : ((p : Int) + (j : Int) < (c : Int)) := by omega
          have hpj0 : ((0 : Int) ≤ (p : Int) + (j : Int)) := by omega
          have hpjt : ((p : Int) + (j : Int)).toNat = p + j := by omega
          have hat : lfr x y (p + j) = (lf x y i j : Int) := by
            have := lfr_at (x := x) (y := y) (i := i) (k := j) (by rw [← HM.out]; exact hjm)
            rw [← this]; unfold rw_; rw [← HM.out, HPP.out]
          have hpost : ∀ v : Int, v = (lf x y i j : Int) → Hid (Keep [] w (wr.setCell ⟨w.heap.size, p + j, none⟩ (.int .i64 v)) ∧ FillAt (wr.setCell ⟨w.heap.size, p + j, none⟩ (.int .i64 v)) w.heap.size c (p + j) (lfr x y)) := fun v hv => by
            refine ⟨hkq.setCell (.inr (Nat.le_refl _)) _, ?_⟩
            rw [hv, ← hat]
            exact hfq.store (m := p + j) (by omega)
          have HKQ := Lib.hid hkq; have HFQ := Lib.hid hfq; have HPO := Lib.hid hpost; have HAT := Lib.hid hat
          clear hkq hfq hpost hat
          by_cases hin2 : i = n
          · subst hin2
            have hv : (m : Int) - (j : Int) = (lf x y i j : Int) := by rw [HN.out, lf_end, ← HM.out]; omega
            have HP := Lib.hid (HPO.out _ hv).out
            clear HPO hv
            go_wp2
            exact ⟨⟨j, by omega, rfl, HP.out.1, HP.out.2⟩, by simp [intOf]⟩
          · have hlt : i < n := by omega
            have hni : ¬ ((i : Int) = (n : Int)) := by omega
            have hin3 : ((i : Int) < (n : Int)) := by omega
            by_cases hjm2 : j = m
            · subst hjm2
              have hv : (n : Int) - (i : Int) = (lf x y i j : Int) := by rw [HM.out, lf_end', ← HN.out]; omega
              have HP := Lib.hid (HPO.out _ hv).out
              clear HPO hv
              go_wp2
              exact ⟨⟨j, by omega, rfl, HP.out.1, HP.out.2⟩, by simp [intOf]⟩
            · have hjlt : j < m := by omega
              have hnj : ¬ ((j : Int) = (m : Int)) := by omega
              have hjm3 : ((j : Int) < (m : Int)) := by omega
              have hix : i < x.length := by rw [← HN.out]; exact hlt
              have hjy : j < y.length := by rw [← HM.out]; exact hjlt
              obtain ⟨ba, oa, rfl, hca⟩ := HA.out (by omega)
              obtain ⟨bb, ob, rfl, hcb⟩ := HB.out (by omega)
              have exi := HKQ.out.cellv (hca i (.int .i32 x[i]) (by rw [List.getElem?_map, List.getElem?_eq_getElem hix]; rfl)) (by simp)
              have eyj := HKQ.out.cellv (hcb j (.int .i32 y[j]) (by rw [List.getElem?_map, List.getElem?_eq_getElem hjy]; rfl)) (by simp)
              have hpc2 := HPC2.out hlt
              have atn : ∀ i' j', i' = i + 1 → j' ≤ m → lfr x y (p + (m + 1) + j') = (lf x y i' j' : Int) := fun i' j' hi' hj' => by
                have := lfr_at (x := x) (y := y) (i := i') (k := j') (by rw [← HM.out]; exact hj')
                rw [← this]; unfold rw_; rw [← HM.out, hi', Nat.succ_mul, HPP.out]
              have at0 : lfr x y (p + j + 1) = (lf x y i (j + 1) : Int) := by
                have := lfr_at (x := x) (y := y) (i := i) (k := j + 1) (by rw [← HM.out]; exact hjlt)
                rw [← this]; unfold rw_; rw [← HM.out, HPP.out]; rfl
              have er1 := HFQ.out.cell (i := p + (m + 1) + (j + 1)) (by omega) (by omega)
              have er0 := HFQ.out.cell (i := p + (m + 1) + j) (by omega) (by omega)
              have eg1 := HFQ.out.cell (i := p + j + 1) (by omega) (by omega)
              rw [atn _ _ rfl (by omega)] at er1 er0
              rw [at0] at eg1
              have hq1 : ((p : Int) + ((m : Int) + 1) + (j : Int) + 1 < (c : Int)) := by omega
              have hq2 : ((p : Int) + ((m : Int) + 1) + (j : Int) < (c : Int)) := by omega
              have hq3 : ((p : Int) + (j : Int) + 1 < (c : Int)) := by omega
              have hr1 : ((0 : Int) ≤ (p : Int) + ((m : Int) + 1) + (j : Int) + 1) := by omega
              have hr2 : ((0 : Int) ≤ (p : Int) + ((m : Int) + 1) + (j : Int)) := by omega
              have hr3 : ((0 : Int) ≤ (p : Int) + (j : Int) + 1) := by omega
              have ht1 : ((p : Int) + ((m : Int) + 1) + (j : Int) + 1).toNat = p + (m + 1) + (j + 1) := by omega
              have ht2 : ((p : Int) + ((m : Int) + 1) + (j : Int)).toNat = p + (m + 1) + j := by omega
              have ht3 : ((p : Int) + (j : Int) + 1).toNat = p + j + 1 := by omega
              have hsame : x[i] = y[j] → (lf x y (i + 1) (j + 1) : Int) = (lf x y i j : Int) := fun h => by rw [lf_same hix hjy h]
              have hdiff : x[i] ≠ y[j] → 1 + min (lf x y (i + 1) j : Int) (lf x y i (j + 1) : Int) = (lf x y i j : Int) := fun h => by rw [lf_ne hix hjy h]; omega
              have hl1 := lf_le x y (i + 1) j
              have hl2 := lf_le x y i (j + 1)
              have HSA := Lib.hid hsame; have HDF := Lib.hid hdiff; have HCA := Lib.hid hca; have HCB := Lib.hid hcb
              rw [← HN.out, ← HM.out] at hl1 hl2
              clear hsame hdiff hca hcb atn at0 hpc2
              generalize x[i] = xi at *
              generalize y[j] = yj at *
              by_cases hxy : xi = yj
              · subst hxy
                have HP := Lib.hid (HPO.out _ (HSA.out rfl)).out
                clear HPO HSA HDF
                generalize (lf x y (i + 1) (j + 1) : Int) = v11 at *
                go_wp2_with fail
                refine wp_still_tail_drew 9 (by kernel_rfl) (by kernel_rfl) ?_
                simp only [List.take_succ_cons, List.take_zero, List.drop_succ_cons, List.drop_zero]
                repeat still_step
                refine wpStill_nil ?_
                go_wp2
                exact ⟨⟨j, by omega, rfl, HP.out.1.drew, HP.out.2⟩, by simp [intOf]⟩
              · clear HSA
                have hdxy : decide (xi = yj) = false := by simpa using hxy
                generalize (lf x y (i + 1) j) = v10 at *
                generalize (lf x y i (j + 1)) = v01 at *
                go_wp2_with fail
                refine wp_still_tail_drew 9 (by kernel_rfl) (by kernel_rfl) ?_
                simp only [List.take_succ_cons, List.take_zero, List.drop_succ_cons, List.drop_zero]
                repeat still_step
                refine wpStill_nil ?_
                go_wp2_with fail
                have hw1 : IntKind.i64.wrap ((i : Int) + 1) = (i : Int) + 1 := by rw [IntKind.wrap_i64]; omega
                have hw2 : IntKind.i64.wrap ((p : Int)) = (p : Int) := by rw [IntKind.wrap_i64]; omega
                have hw3 : IntKind.i64.wrap ((p : Int) + (j : Int)) = (p : Int) + (j : Int) := by rw [IntKind.wrap_i64]; omega
                have hw4 : IntKind.i64.wrap ((p : Int) + ((m : Int) + 1)) = (p : Int) + ((m : Int) + 1) := by rw [IntKind.wrap_i64]; omega
                have hw5 : IntKind.i64.wrap ((p : Int) + ((m : Int) + 1) + (j : Int)) = (p : Int) + ((m : Int) + 1) + (j : Int) := by rw [IntKind.wrap_i64]; omega
                have hw6 : IntKind.i64.wrap ((p : Int) + (j : Int) + 1) = (p : Int) + (j : Int) + 1 := by rw [IntKind.wrap_i64]; omega
                refine wp_still_tail_drew 27 (by kernel_rfl) (by kernel_rfl) ?_
                simp only [List.take_succ_cons, List.take_zero, List.drop_succ_cons, List.drop_zero]
                repeat still_step
                refine wpStill_nil ?_
                go_wp2
                have hv : (1 + (if v01 < v10 then (v01 : Int) else (v10 : Int))) = (lf x y i j : Int) := by have := HDF.out hxy; split <;> omega
                have HP := (HPO.out _ hv).out
                exact ⟨⟨j, by omega, rfl, HP.1.drew.drew, HP.2⟩, by simp [intOf]⟩
end Go.Proofs.Ytddbjclpmkelaaa
