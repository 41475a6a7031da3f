/-
  RollOrder, walked.
-/
import Derived.Test.YtfhgeanacecpjaaDoorLawJ
import Derived.Deep.CutRange
namespace Go.Proofs.YtfhgeanacecpjaaDoor
open Go.RowKit Go.Shelf
set_option linter.unusedVariables false

set_option maxRecDepth 100000 in
set_option maxHeartbeats 16000000 in
theorem rollOrder_walk (va : Value) (xs : List (Bool × Int)) (vt : Value) (ts : List Int) (w : World) (ha : StepsAt w va xs) (ht : ElemsAt w vt 1 (fun x => [Value.int .i64 x]) ts) (hT : TabW w) :
    Calls Tryd.prog 9 #[va, vt] w fun e W' => e = .returned (.bool true) ∧ Keep [] w W' := by
  have HT := Lib.hid hT; clear hT
  have ST := Lib.hid ht.sl; clear ht
  obtain ⟨adt, ct, rfl, _, ht1⟩ := ST.out
  have H2 := Lib.hid ht1; clear ht1
  have HS0 := Lib.hid ha
  obtain ⟨ada, ca, rfl, h1, _, hca⟩ := ha
  have H1 := Lib.hid h1; clear h1
  by_cases hx : xs.length ≤ 300
  · have hx' : decide ((300 : Int) < (xs.length : Int)) = false := by simp; omega
    by_cases hy : ts.length ≤ 300
    · have hy' : decide ((300 : Int) < (ts.length : Int)) = false := by simp; omega
      go_enter Tryd.func9, Tryd.ntmps9
      go_wp2_with fail
      refine (new_any w).mono ?_
      rintro r w1 ⟨rfl, hw1⟩
      have hr1 : RollS w1 w.heap.size (0, 0, 0) := by rw [hw1]; exact ⟨by decide, by decide, heap_alloc_new w _⟩
      have hk1 : Keep [] w w1 := by rw [hw1]; exact (Keep.refl _ _).alloc _
      have hz1 : w1.heap.size = w.heap.size + 1 := by rw [hw1]; simp
      clear hw1
      go_wp2_with fail
      refine (new_any w1).mono ?_
      rintro r w2 ⟨rfl, hw2⟩
      have hr2 : RollS w2 w1.heap.size (0, 0, 0) := by rw [hw2]; exact ⟨by decide, by decide, heap_alloc_new w1 _⟩
      have hk2 : Keep [] w1 w2 := by rw [hw2]; exact (Keep.refl _ _).alloc _
      clear hw2
      obtain ⟨a, hae⟩ : ∃ a, a = w.heap.size := ⟨_, rfl⟩
      obtain ⟨b, hbe⟩ : ∃ b, b = w1.heap.size := ⟨_, rfl⟩
      rw [← hae] at hr1 ⊢
      rw [← hbe] at hr2 ⊢
      have HAB := Lib.hid (show w.heap.size ≤ a ∧ w.heap.size ≤ b ∧ a ≠ b by omega)
      have R1 := Lib.hid (hr1.keep hk2 (by simp)); have Q1 := Lib.hid hr2; have K1 := Lib.hid (hk1.trans0 hk2); clear hr1 hk1 hae hbe hr2 hk2 hz1
      go_wp2
      go_loopw [7, 8, 9] (fun n e i wr => ∃ k : Nat, k ≤ xs.length ∧ i = .int .i64 k ∧ n = .int .i64 (runS (0, 0, 0) (xs.take k)).2.2 ∧ e = .bool (earlyL xs k) ∧ RollS wr a (runS (0, 0, 0) (xs.take k)) ∧ RollS wr b (0, 0, 0) ∧ Keep [] w wr) (fun _ _ i _ => xs.length - (intOf i).toNat)
      case atStart => exact ⟨0, Nat.zero_le _, rfl, rfl, rfl, R1.out, Q1.out, K1.out⟩
      case round =>
        clear R1 K1 Q1
        obtain ⟨k, hk, rfl, rfl, rfl, hB, hC, hK⟩ := hrel
        have HB := Lib.hid hB; have HC := Lib.hid hC; have HK := Lib.hid hK; clear hB hC hK
        have HI := Lib.hid (Inv.new.run (xs.take k))
        by_cases hlt : k < xs.length
        · have hkd : decide ((k : Int) < (xs.length : Int)) = true := by simp; omega
          obtain ⟨bs, off, rfl, hcs⟩ := H1.out (by omega)
          obtain ⟨c1, c2⟩ := ElemsAt.cells2 hcs HK.out k hlt
          have htake := List.take_succ_eq_append_getElem hlt
          have HTK := Lib.hid htake; clear htake hcs
          have HE := Lib.hid (show earlyL xs (k + 1) = (earlyL xs k || earlyAt (xs.take k) xs[k]) by simp only [earlyL, List.getElem?_eq_getElem hlt])
          have hst := fun w' (h : RollS w' a _) => do_s a _ xs[k] w' h HI.out
          have hst2 := fun w' (h : RollS w' a _) => do_s a _ xs[k] w' h (HI.out.step xs[k])
          have hag := step_again (runS (0, 0, 0) (xs.take k)) xs[k]
          have htu := step_turn (runS (0, 0, 0) (xs.take k)) xs[k]
          have hco := step_count (runS (0, 0, 0) (xs.take k)) xs[k]
          generalize xs[k] = x at *
          rw [hag.1, hag.2] at hst2
          have HST := Lib.hid hst; have HST2 := Lib.hid hst2; have HTU := Lib.hid htu; have HCO := Lib.hid hco
          clear hst hst2 hag htu hco
          have HI2 := Lib.hid (HI.out.step x)
          have HRS := Lib.hid (show runS (0, 0, 0) (xs.take (k + 1)) = stepS (runS (0, 0, 0) (xs.take k)) x by rw [HTK.out, runS_snoc])
          have HPR := Lib.hid (StepsAt.prefix_ HS0.out hk)
          have hka : (k : Int) ≤ (ca : Int) := by omega
          have hk0 : 0 ≤ (k : Int) := by omega
          have hbnd := Lib.hid HI.out.bounds
          generalize runS (0, 0, 0) (xs.take k) = s at *
          generalize earlyL xs k = er at *
          obtain ⟨lv, n⟩ := x
          go_upto_region 13 with fail
          have hB1 : RollS (wr.alloc (Obj.cells #[.bool lv, .int .i64 n] 28)) a s := HB.out.keep ((Keep.refl [] wr).alloc _) (by simp)
          have hC1 : RollS (wr.alloc (Obj.cells #[.bool lv, .int .i64 n] 28)) b (0, 0, 0) := HC.out.keep ((Keep.refl [] wr).alloc _) (by simp)
          have hK1 : Keep [] w (wr.alloc (Obj.cells #[.bool lv, .int .i64 n] 28)) := HK.out.alloc _
          have hX1 : (wr.alloc (Obj.cells #[.bool lv, .int .i64 n] 28)).heap[wr.heap.size]? = some (.cells #[.bool lv, .int .i64 n] 28 (0, 0)) := heap_alloc_new wr _
          have hXa : wr.heap.size ≠ a := by have := HB.out.lt; omega
          have hXb : wr.heap.size ≠ b := by have := HC.out.lt; omega
          clear HB HC HK c1 c2
          generalize wr.alloc (Obj.cells #[.bool lv, .int .i64 n] 28) = w1 at *
          generalize wr.heap.size = X at *
          have HB1 := Lib.hid hB1; have HC1 := Lib.hid hC1; have HK1 := Lib.hid hK1; have HX1 := Lib.hid hX1; have HXN := Lib.hid (show X ≠ a ∧ X ≠ b from ⟨hXa, hXb⟩)
          clear hB1 hC1 hK1 hX1 hXa hXb
          have c1 : w1.cell? ⟨X, 0, none⟩ = some (.bool lv) := cell_of_block HX1.out 0
          have c2 : w1.cell? ⟨X, 1, none⟩ = some (.int .i64 n) := cell_of_block HX1.out 1
          have HPR1 := Lib.hid (HPR.out.keep0 HK1.out)
          have hlenk : (xs.take k).length ≤ 4611686018427387904 := by simp; omega
          go_cut [64] from 34 to 91 (fun s64 wx => s64 = .bool (earlyAt (xs.take k) (lv, n)) ∧ Drawn w1 wx)
          case first =>
            cases lv
            · have hea : earlyAt (xs.take k) (false, n) = false := rfl
              go_quiet (fail)
              go_wp2
              go_meet
              exact ⟨congrArg Value.bool hea.symm, _, rfl⟩
            · by_cases hn1 : 1 ≤ n
              · have hn1' : decide (1 ≤ n) = true := by simpa using hn1
                by_cases hn2 : n ≤ 16
                · have hn2' : decide (n ≤ 16) = true := by simpa using hn2
                  have hea : earlyAt (xs.take k) (true, n) = !joinedL (xs.take k) n := by simp [earlyAt, site_mk hn1 hn2]
                  have hJ : ∀ q, Calls Tryd.prog 30 #[.slice (some ⟨bs, off, none⟩) k ca, .int .i64 n] (w1.drewN q) fun e w' => e = .returned (.bool (joinedL (xs.take k) n)) ∧ w' = w1.drewN q := fun q => (joinedS_any _ _ n _ (HPR1.out.keep0 ((Keep.refl _ _).drewN q)) hlenk).mono (fun e w' h => ⟨h.1, h.2.symm⟩)
                  have HJ := Lib.hid hJ; clear hJ
                  generalize joinedL (xs.take k) n = jj at *
                  go_quiet ((go_at_call 30; exact Calls.quiet_of_same (HJ.out _)))
                  go_wp2
                  go_meet
                  exact ⟨congrArg Value.bool hea.symm, _, rfl⟩
                · have hn2' : decide (n ≤ 16) = false := by simpa using hn2
                  have hea : earlyAt (xs.take k) (true, n) = false := by simp [earlyAt, siteB, hn2]
                  go_quiet (fail)
                  go_wp2
                  go_meet
                  exact ⟨congrArg Value.bool hea.symm, _, rfl⟩
              · have hn1' : decide (1 ≤ n) = false := by simpa using hn1
                have hea : earlyAt (xs.take k) (true, n) = false := by simp [earlyAt, siteB, hn1]
                go_quiet (fail)
                go_wp2
                go_meet
                exact ⟨congrArg Value.bool hea.symm, _, rfl⟩
          case rest =>
            obtain ⟨rfl, hd⟩ := hcut
            have hkd := hd.keep
            have HB2 := Lib.hid (HB1.out.keep hkd (by simp)); have HC2 := Lib.hid (HC1.out.keep hkd (by simp)); have HK2 := Lib.hid (HK1.out.trans0 hkd); have HX2 := Lib.hid (hkd.at_ HX1.out (by simp))
            clear hkd hd HB1 HC1 HK1 HX1 c1 c2 HPR1 HPR
            generalize earlyAt (xs.take k) (lv, n) = ea at *
            have hb0 := hbnd.out.1
            have hb1 := hbnd.out.2
            cases ea
            all_goals (
              have c1 : wc.cell? ⟨X, 0, none⟩ = some (.bool lv) := cell_of_block HX2.out 0
              have c2 : wc.cell? ⟨X, 1, none⟩ = some (.int .i64 n) := cell_of_block HX2.out 1
              go_wp2_with fail
              refine (has_any a _ _ _ n wc HB2.out).mono ?_
              rintro r w3 ⟨rfl, hd3⟩
              have hk3 := Drawn.keep (show Drawn wc w3 from hd3)
              have HB3 := Lib.hid (HB2.out.keep hk3 (by simp)); have HC3 := Lib.hid (HC2.out.keep hk3 (by simp)); have HK3 := Lib.hid (HK2.out.trans0 hk3); have HX3 := Lib.hid (hk3.at_ HX2.out (by simp))
              clear hk3 hd3 HB2 HC2 HK2 HX2 c1 c2
              have c1 : w3.cell? ⟨X, 0, none⟩ = some (.bool lv) := cell_of_block HX3.out 0
              have c2 : w3.cell? ⟨X, 1, none⟩ = some (.int .i64 n) := cell_of_block HX3.out 1
              go_wp2_with fail
              refine (HST.out w3 HB3.out).mono ?_
              rintro r w4 ⟨rfl, hB4, hk4⟩
              have HB4 := Lib.hid hB4; have HC4 := Lib.hid (HC3.out.keep hk4 (by have := HAB.out.2.2; simp; omega)); have HK4 := Lib.hid (HK3.out.trans hk4 (by have := HAB.out; simp; omega)); have HX4 := Lib.hid (hk4.at_ HX3.out (by have := HXN.out; simp; omega))
              clear hB4 hk4 HB3 HC3 HK3 HX3 c1 c2 HST
              have c1 : w4.cell? ⟨X, 0, none⟩ = some (.bool lv) := cell_of_block HX4.out 0
              have c2 : w4.cell? ⟨X, 1, none⟩ = some (.int .i64 n) := cell_of_block HX4.out 1
              generalize stepS s (lv, n) = s' at *
              go_wp2_with fail
              refine (has_any a _ _ _ n w4 HB4.out).mono ?_
              rintro r w5 ⟨rfl, hd5⟩
              have hk5 := Drawn.keep (show Drawn w4 w5 from hd5)
              have HB5 := Lib.hid (HB4.out.keep hk5 (by simp)); have HC5 := Lib.hid (HC4.out.keep hk5 (by simp)); have HK5 := Lib.hid (HK4.out.trans0 hk5); have HX5 := Lib.hid (hk5.at_ HX4.out (by simp))
              clear hk5 hd5 HB4 HC4 HK4 HX4 c1 c2
              have c1 : w5.cell? ⟨X, 0, none⟩ = some (.bool lv) := cell_of_block HX5.out 0
              have c2 : w5.cell? ⟨X, 1, none⟩ = some (.int .i64 n) := cell_of_block HX5.out 1
              have htu := HTU.out
              have hco := HCO.out
              simp only at htu hco ⊢
              generalize hasB s'.1 s'.2.1 n = h2 at *
              generalize hasB s.1 s.2.1 n = h1 at *
              generalize stepR lv s.1 s.2.1 n = q at *
              have HCO2 := Lib.hid hco; clear hco HCO HTU
              cases q
              · have hco := HCO2.out
                simp only [Bool.false_eq_true, if_false] at hco
                obtain rfl : h2 = h1 := by cases h1 <;> cases h2 <;> simp_all
                have hzz : (h2 != h2) = false := by simp
                clear htu
                have hqq : (s'.2.2 != s.2.2) = false := by rw [hco]; simp
                have HQ := Lib.hid hco; clear hco HCO2
                go_wp2_with fail
                refine (HST2.out w5 HB5.out).mono ?_
                rintro r w6 ⟨rfl, hB6, hk6⟩
                have HB6 := Lib.hid hB6; have HC6 := Lib.hid (HC5.out.keep hk6 (by have := HAB.out.2.2; simp; omega)); have HK6 := Lib.hid (HK5.out.trans hk6 (by have := HAB.out; simp; omega))
                clear hB6 hk6 HB5 HC5 HK5 HX5 c1 c2 HST2
                go_wp2_with fail
                refine (epoch_any a _ _ _ w6 HB6.out).mono ?_
                rintro r w7 ⟨rfl, rfl⟩
                go_wp2
                go_roundw
                case rel => exact ⟨k + 1, hlt, by go_num, by rw [HRS.out, HQ.out], by rw [HE.out]; simp, by rw [HRS.out]; exact HB6.out, HC6.out, HK6.out⟩
                case measure => simp [intOf]; omega
              · have hco := HCO2.out
                simp only [if_true] at hco
                obtain rfl : h2 = !h1 := by cases h1 <;> cases h2 <;> simp_all
                have hzz : ((!h1) != h1) = true := by simp
                clear htu
                have hqq : (s'.2.2 != s.2.2 + 1) = false := by rw [hco]; simp
                have HQ := Lib.hid hco; clear hco HCO2
                go_wp2_with fail
                refine (HST2.out w5 HB5.out).mono ?_
                rintro r w6 ⟨rfl, hB6, hk6⟩
                have HB6 := Lib.hid hB6; have HC6 := Lib.hid (HC5.out.keep hk6 (by have := HAB.out.2.2; simp; omega)); have HK6 := Lib.hid (HK5.out.trans hk6 (by have := HAB.out; simp; omega))
                clear hB6 hk6 HB5 HC5 HK5 HX5 c1 c2 HST2
                go_wp2_with fail
                refine (epoch_any a _ _ _ w6 HB6.out).mono ?_
                rintro r w7 ⟨rfl, rfl⟩
                go_wp2
                go_roundw
                case rel => exact ⟨k + 1, hlt, by go_num, by rw [HRS.out, HQ.out], by rw [HE.out]; simp, by rw [HRS.out]; exact HB6.out, HC6.out, HK6.out⟩
                case measure => simp [intOf]; omega)
        · obtain rfl : k = xs.length := by omega
          rw [List.take_of_length_le (Nat.le_refl _)] at *
          have hkd : decide ((xs.length : Int) < (xs.length : Int)) = false := by simp
          have HER := Lib.hid (Orderly.run xs xs.length (Nat.le_refl _)); 
          rw [List.take_of_length_le (Nat.le_refl _)] at HER
          generalize hsA : runS (0, 0, 0) xs = s at *
          have HSA := Lib.hid hsA; clear hsA
          generalize earlyL xs xs.length = er at *
          clear hlt hk
          go_wp2
          go_loopw [13] (fun i wr => ∃ k : Nat, k ≤ ts.length ∧ i = .int .i64 k ∧ (∃ zs, (∀ z ∈ zs, z ∈ xs) ∧ RollS wr b (runS (0, 0, 0) zs)) ∧ RollS wr a s ∧ Keep [] w wr) (fun i _ => ts.length - (intOf i).toNat)
          case atStart => exact ⟨0, Nat.zero_le _, rfl, ⟨[], by simp, HC.out⟩, HB.out, HK.out⟩
          case round =>
            clear HB HC HK
            obtain ⟨k, hk, rfl, ⟨zs, hzs, hC⟩, hB, hK⟩ := hrel
            have HB := Lib.hid hB; have HC := Lib.hid hC; have HK := Lib.hid hK; have HZ := Lib.hid hzs; clear hB hC hK hzs
            by_cases hgo : k < ts.length ∧ 0 < xs.length
            · obtain ⟨hlt, hpos⟩ := hgo
              have hkd1 : decide ((k : Int) < (ts.length : Int)) = true := by simp; omega
              have hkd2 : decide (0 < (xs.length : Int)) = true := by simp; omega
              obtain ⟨bt, ot, rfl, hct⟩ := H2.out (by omega)
              have hcell : wr.cell? ⟨bt, ot + k, none⟩ = some (.int .i64 ts[k]) := HK.out.cellv (hct k _ (by rw [List.getElem?_map, List.getElem?_eq_getElem hlt]; rfl)) (by simp)
              have HCT := Lib.hid hct; clear hct
              generalize ts[k] = t at *
              have hn0 : ((xs.length : Int) == 0) = false := beq_eq_false_iff_ne.2 (by omega)
              have hq1 := Int.tmod_lt_of_pos t (show (0 : Int) < (xs.length : Int) by omega)
              have hq2 := Int.lt_tmod_of_pos t (show (0 : Int) < (xs.length : Int) by omega)
              go_upto_region 27 with fail
              generalize t.tmod (xs.length : Int) = q at *
              by_cases hq : 0 ≤ q
              · obtain ⟨m, rfl⟩ := Int.eq_ofNat_of_zero_le hq
                have hm : m < xs.length := by omega
                have hqd : decide ((m : Int) < 0) = false := by simp
                clear hq hq1 hq2
                have hst := do_s b _ xs[m] wr HC.out (Inv.new.run zs)
                have hmem : xs[m] ∈ xs := List.getElem_mem hm
                have HMEM := Lib.hid hmem; clear hmem
                obtain ⟨bs, off, rfl, hcs⟩ := H1.out (by omega)
                obtain ⟨c1, c2⟩ := ElemsAt.cells2 hcs HK.out m hm
                clear hcs
                generalize xs[m] = x at *
                have HST := Lib.hid hst; clear hst
                go_wp2_with fail
                refine HST.out.mono ?_
                rintro r w3 ⟨rfl, hC3, hk3⟩
                have HB3 := Lib.hid (HB.out.keep hk3 (by have := HAB.out.2.2; simp; omega)); have HC3 := Lib.hid hC3; have HK3 := Lib.hid (HK.out.trans hk3 (by have := HAB.out; simp; omega)); clear hC3 hk3
                go_wp2
                go_roundw
                case rel => exact ⟨k + 1, hlt, by go_num, ⟨zs ++ [x], fun z hz => by
                  rcases List.mem_append.1 hz with h | h
                  · exact HZ.out z h
                  · simp at h; subst h; exact HMEM.out, by rw [runS_snoc]; exact HC3.out⟩, HB3.out, HK3.out⟩
                case measure => simp [intOf]; omega
              · obtain ⟨m, hmq⟩ := Int.eq_ofNat_of_zero_le (show 0 ≤ q + (xs.length : Int) by omega)
                obtain rfl : q = (m : Int) - (xs.length : Int) := by omega
                have hm : m < xs.length := by omega
                have hqd : decide ((m : Int) - (xs.length : Int) < 0) = true := by simp; omega
                clear hq hq1 hq2 hmq
                have hst := do_s b _ xs[m] wr HC.out (Inv.new.run zs)
                have hmem : xs[m] ∈ xs := List.getElem_mem hm
                have HMEM := Lib.hid hmem; clear hmem
                obtain ⟨bs, off, rfl, hcs⟩ := H1.out (by omega)
                obtain ⟨c1, c2⟩ := ElemsAt.cells2 hcs HK.out m hm
                clear hcs
                generalize xs[m] = x at *
                have HST := Lib.hid hst; clear hst
                go_wp2_with fail
                refine HST.out.mono ?_
                rintro r w3 ⟨rfl, hC3, hk3⟩
                have HB3 := Lib.hid (HB.out.keep hk3 (by have := HAB.out.2.2; simp; omega)); have HC3 := Lib.hid hC3; have HK3 := Lib.hid (HK.out.trans hk3 (by have := HAB.out; simp; omega)); clear hC3 hk3
                go_wp2
                go_roundw
                case rel => exact ⟨k + 1, hlt, by go_num, ⟨zs ++ [x], fun z hz => by
                  rcases List.mem_append.1 hz with h | h
                  · exact HZ.out z h
                  · simp at h; subst h; exact HMEM.out, by rw [runS_snoc]; exact HC3.out⟩, HB3.out, HK3.out⟩
                case measure => simp [intOf]; omega
            · go_upto_region 24 with fail
              go_cut [100] from 92 to 121 (fun s100 wx => s100 = .bool false ∧ wx = wr)
              case first =>
                by_cases hkt : k < ts.length
                · have hx0 : xs.length = 0 := by omega
                  have hkd1 : decide ((k : Int) < (ts.length : Int)) = true := by simp; omega
                  have hkd2 : decide (0 < (xs.length : Int)) = false := by rw [hx0]; simp
                  go_wp2
                  go_meet
                  exact ⟨rfl, rfl⟩
                · have hkd1 : decide ((k : Int) < (ts.length : Int)) = false := by simp; omega
                  go_wp2
                  go_meet
                  exact ⟨rfl, rfl⟩
              case rest =>
                obtain ⟨rfl, rfl⟩ := hcut
                go_wp2
                go_loopw [15] (fun i wr => ∃ m : Nat, m ≤ xs.length ∧ i = .int .i64 ((m : Int) - 1) ∧ (∃ zs, (∀ z ∈ zs, z ∈ xs) ∧ (∀ z ∈ xs.drop m, z ∈ zs) ∧ RollS wr b (runS (0, 0, 0) zs)) ∧ RollS wr a s ∧ Keep [] w wr) (fun i _ => (intOf i + 1).toNat)
                case atStart => exact ⟨xs.length, Nat.le_refl _, rfl, ⟨zs, HZ.out, by simp, HC.out⟩, HB.out, HK.out⟩
                case round =>
                  clear HB HC HK HZ
                  obtain ⟨m, hm, rfl, ⟨zs, hzs, hzd, hC⟩, hB, hK⟩ := hrel
                  have HB := Lib.hid hB; have HC := Lib.hid hC; have HK := Lib.hid hK; have HZ := Lib.hid hzs; have HZD := Lib.hid hzd; clear hB hC hK hzs hzd
                  cases m with
                  | succ m =>
                    rw [show ((m + 1 : Nat) : Int) - 1 = (m : Int) by omega]
                    have hdrop := Lib.hid (List.drop_eq_getElem_cons (show m < xs.length by omega))
                    have hst := do_s b _ xs[m] wr HC.out (Inv.new.run zs)
                    have HMEM := Lib.hid (show xs[m] ∈ xs from List.getElem_mem (by omega))
                    obtain ⟨bs, off, rfl, hcs⟩ := H1.out (by omega)
                    obtain ⟨c1, c2⟩ := ElemsAt.cells2 hcs HK.out m (by omega)
                    clear hcs
                    have hmd : decide (0 ≤ (m : Int)) = true := by simp
                    generalize xs[m] = x at *
                    have HST := Lib.hid hst; clear hst
                    go_wp2_with fail
                    refine HST.out.mono ?_
                    rintro r w3 ⟨rfl, hC3, hk3⟩
                    have HB3 := Lib.hid (HB.out.keep hk3 (by have := HAB.out.2.2; simp; omega)); have HC3 := Lib.hid hC3; have HK3 := Lib.hid (HK.out.trans hk3 (by have := HAB.out; simp; omega)); clear hC3 hk3
                    go_wp2
                    go_roundw
                    case rel => exact ⟨m, by omega, by first | rfl | go_num, ⟨zs ++ [x], fun z hz => by
                      rcases List.mem_append.1 hz with h | h
                      · exact HZ.out z h
                      · simp at h; subst h; exact HMEM.out, fun z hz => by
                      rw [hdrop.out] at hz
                      rcases List.mem_cons.1 hz with h | h
                      · subst h; simp
                      · exact List.mem_append_left _ (HZD.out z h), by rw [runS_snoc]; exact HC3.out⟩, HB3.out, HK3.out⟩
                    case measure => first | (simp [intOf]; done) | (simp [intOf]; omega)
                  | zero =>
                    rw [show ((0 : Nat) : Int) - 1 = (-1 : Int) by omega]
                    have hsame := run_same HZ.out (by simpa using HZD.out) (0, 0, 0)
                    rw [HSA.out] at hsame
                    have hC2 : RollAt wr b s.1 s.2.1 (runS (0, 0, 0) zs).2.2 := by rw [← hsame.1, ← hsame.2]; exact HC.out
                    have HC2 := Lib.hid hC2
                    clear hC2 hsame HC HZ HZD hm
                    go_wp2_with fail
                    refine (same_eq a b _ _ _ _ wr HB.out HC2.out (HT.out.keep HK.out (by simp))).mono ?_
                    rintro r w9 ⟨rfl, hk9⟩
                    have B9 := Lib.hid (HB.out.keep hk9 (by simp)); have K9 := Lib.hid (HK.out.trans0 hk9); clear hk9 HB HC2 HK
                    go_upto_region 36 with fail
                    go_cut [153] from 139 to 153 (fun s153 wx => s153 = .bool false ∧ Keep [] w9 wx)
                    case first =>
                      cases er
                      · have ho := (HER.out rfl).1
                        unfold popC at ho
                        have hA := bitList_len (butNot s.1 s.2.1)
                        have hL := bitList_len s.2.1
                        have HO := Lib.hid ho; clear ho
                        go_wp2_with fail
                        refine (epoch_any a _ _ _ w9 B9.out).mono ?_
                        rintro r w10 ⟨rfl, rfl⟩
                        go_wp2_with fail
                        refine (members_any a _ _ _ w9 B9.out (HT.out.keep K9.out (by simp))).mono ?_
                        intro r w10 q1
                        obtain ⟨v4, rfl, hs4, hk4⟩ := q1.sl
                        obtain ⟨ad4, c4, rfl, _, _⟩ := hs4
                        have K10 := Lib.hid hk4; clear q1 hk4
                        go_wp2_with fail
                        refine (left_any a _ _ _ w10 (B9.out.keep K10.out (by simp)) (HT.out.keep (K9.out.trans0 K10.out) (by simp))).mono ?_
                        intro r w11 q1
                        obtain ⟨v5, rfl, hs5, hk5⟩ := q1.sl
                        obtain ⟨ad5, c5, rfl, _, _⟩ := hs5
                        have K11 := Lib.hid (K10.out.trans0 hk5); clear q1 hk5
                        have he := HO.out
                        generalize (bitList (butNot s.1 s.2.1)).length = A at *
                        generalize (bitList s.2.1).length = L at *
                        have hee : (s.2.2 != (A : Int) + 2 * (L : Int)) = false := by rw [he]; simp
                        clear he HO
                        go_wp2
                        go_meet
                        exact ⟨rfl, K11.out⟩
                      · go_wp2
                        go_meet
                        exact ⟨rfl, Keep.refl _ _⟩
                    case rest =>
                      obtain ⟨rfl, hkk⟩ := hcut
                      have BX := Lib.hid (B9.out.keep hkk (by simp)); have KX := Lib.hid (K9.out.trans0 hkk); clear hkk B9 K9
                      go_wp2
                      go_loopw [16] (fun i wr => ∃ k : Nat, 1 ≤ k ∧ k ≤ 17 ∧ i = .int .i64 k ∧ RollS wr a s ∧ Keep [] w wr) (fun i _ => 17 - (intOf i).toNat)
                      case atStart => exact ⟨1, Nat.le_refl _, by omega, rfl, BX.out, KX.out⟩
                      case round =>
                        clear BX KX
                        obtain ⟨k, hk1, hk, rfl, hB, hK⟩ := hrel
                        have HB := Lib.hid hB; have HK := Lib.hid hK; clear hB hK
                        by_cases hlt : k ≤ 16
                        · have hkd : decide ((k : Int) ≤ 16) = true := by simp; omega
                          have hsite : siteB (k : Int) = true := site_mk (by omega) (by omega)
                          have hkn := known_run xs (k : Int) hsite
                          have hhn := has_run xs (k : Int) hsite
                          rw [HSA.out] at hkn hhn
                          have hJ : ∀ (u : World), Keep [] w u → Calls Tryd.prog 30 #[.slice ada xs.length ca, .int .i64 (k : Int)] u fun e w' => e = .returned (.bool (joinedL xs (k : Int))) ∧ u = w' := fun u hu => joinedS_any _ _ _ u (HS0.out.keep0 hu) (by omega)
                          have hL : ∀ (u : World), Keep [] w u → Calls Tryd.prog 31 #[.slice ada xs.length ca, .int .i64 (k : Int)] u fun e w' => e = .returned (.bool (leftL xs (k : Int))) ∧ u = w' := fun u hu => leftS_any _ _ _ u (HS0.out.keep0 hu) (by omega)
                          generalize joinedL xs (k : Int) = J at *
                          generalize leftL xs (k : Int) = L at *
                          clear hsite
                          cases J
                          · cases L
                            · have HKN := Lib.hid hkn; have HHN := Lib.hid hhn; have HJ := Lib.hid hJ; have HL := Lib.hid hL; clear hkn hhn hJ hL
                              go_wp2_with fail
                              refine (known_any a _ _ _ (k : Int) wr HB.out).mono ?_
                              rintro r w4 ⟨rfl, hd4⟩
                              rw [HKN.out]
                              have HK4 := Lib.hid (HK.out.trans0 (Drawn.keep (show Drawn wr w4 from hd4))); have HB4 := Lib.hid (HB.out.keep (Drawn.keep (show Drawn wr w4 from hd4)) (by simp)); clear hd4
                              go_wp2_with fail
                              refine (HJ.out w4 HK4.out).mono ?_
                              rintro r w5 ⟨rfl, rfl⟩
                              go_wp2_with fail
                              refine (HL.out w4 HK4.out).mono ?_
                              rintro r w5 ⟨rfl, rfl⟩
                              go_wp2_with fail
                              refine (has_any a _ _ _ (k : Int) w4 HB4.out).mono ?_
                              rintro r w5 ⟨rfl, hd5⟩
                              rw [HHN.out]
                              have HK5 := Lib.hid (HK4.out.trans0 (Drawn.keep (show Drawn w4 w5 from hd5))); have HB5 := Lib.hid (HB4.out.keep (Drawn.keep (show Drawn w4 w5 from hd5)) (by simp)); clear hd5
                              go_wp2_with fail
                              refine (HJ.out w5 HK5.out).mono ?_
                              rintro r w6 ⟨rfl, rfl⟩
                              go_wp2
                              go_roundw
                              case rel => exact ⟨k + 1, by omega, by omega, by first | rfl | go_num, HB5.out, HK5.out⟩
                              case measure => simp [intOf]; omega
                            · have HKN := Lib.hid hkn; have HHN := Lib.hid hhn; have HJ := Lib.hid hJ; have HL := Lib.hid hL; clear hkn hhn hJ hL
                              go_wp2_with fail
                              refine (known_any a _ _ _ (k : Int) wr HB.out).mono ?_
                              rintro r w4 ⟨rfl, hd4⟩
                              rw [HKN.out]
                              have HK4 := Lib.hid (HK.out.trans0 (Drawn.keep (show Drawn wr w4 from hd4))); have HB4 := Lib.hid (HB.out.keep (Drawn.keep (show Drawn wr w4 from hd4)) (by simp)); clear hd4
                              go_wp2_with fail
                              refine (HJ.out w4 HK4.out).mono ?_
                              rintro r w5 ⟨rfl, rfl⟩
                              go_wp2_with fail
                              refine (HL.out w4 HK4.out).mono ?_
                              rintro r w5 ⟨rfl, rfl⟩
                              go_wp2_with fail
                              refine (has_any a _ _ _ (k : Int) w4 HB4.out).mono ?_
                              rintro r w5 ⟨rfl, hd5⟩
                              rw [HHN.out]
                              have HK5 := Lib.hid (HK4.out.trans0 (Drawn.keep (show Drawn w4 w5 from hd5))); have HB5 := Lib.hid (HB4.out.keep (Drawn.keep (show Drawn w4 w5 from hd5)) (by simp)); clear hd5
                              go_wp2_with fail
                              refine (HJ.out w5 HK5.out).mono ?_
                              rintro r w6 ⟨rfl, rfl⟩
                              go_wp2
                              go_roundw
                              case rel => exact ⟨k + 1, by omega, by omega, by first | rfl | go_num, HB5.out, HK5.out⟩
                              case measure => simp [intOf]; omega
                          · cases L
                            · have HKN := Lib.hid hkn; have HHN := Lib.hid hhn; have HJ := Lib.hid hJ; have HL := Lib.hid hL; clear hkn hhn hJ hL
                              go_wp2_with fail
                              refine (known_any a _ _ _ (k : Int) wr HB.out).mono ?_
                              rintro r w4 ⟨rfl, hd4⟩
                              rw [HKN.out]
                              have HK4 := Lib.hid (HK.out.trans0 (Drawn.keep (show Drawn wr w4 from hd4))); have HB4 := Lib.hid (HB.out.keep (Drawn.keep (show Drawn wr w4 from hd4)) (by simp)); clear hd4
                              go_wp2_with fail
                              refine (HJ.out w4 HK4.out).mono ?_
                              rintro r w5 ⟨rfl, rfl⟩
                              go_wp2_with fail
                              refine (has_any a _ _ _ (k : Int) w4 HB4.out).mono ?_
                              rintro r w5 ⟨rfl, hd5⟩
                              rw [HHN.out]
                              have HK5 := Lib.hid (HK4.out.trans0 (Drawn.keep (show Drawn w4 w5 from hd5))); have HB5 := Lib.hid (HB4.out.keep (Drawn.keep (show Drawn w4 w5 from hd5)) (by simp)); clear hd5
                              go_wp2_with fail
                              refine (HJ.out w5 HK5.out).mono ?_
                              rintro r w6 ⟨rfl, rfl⟩
                              go_wp2_with fail
                              refine (HL.out w5 HK5.out).mono ?_
                              rintro r w6 ⟨rfl, rfl⟩
                              go_wp2
                              go_roundw
                              case rel => exact ⟨k + 1, by omega, by omega, by first | rfl | go_num, HB5.out, HK5.out⟩
                              case measure => simp [intOf]; omega
                            · have HKN := Lib.hid hkn; have HHN := Lib.hid hhn; have HJ := Lib.hid hJ; have HL := Lib.hid hL; clear hkn hhn hJ hL
                              go_wp2_with fail
                              refine (known_any a _ _ _ (k : Int) wr HB.out).mono ?_
                              rintro r w4 ⟨rfl, hd4⟩
                              rw [HKN.out]
                              have HK4 := Lib.hid (HK.out.trans0 (Drawn.keep (show Drawn wr w4 from hd4))); have HB4 := Lib.hid (HB.out.keep (Drawn.keep (show Drawn wr w4 from hd4)) (by simp)); clear hd4
                              go_wp2_with fail
                              refine (HJ.out w4 HK4.out).mono ?_
                              rintro r w5 ⟨rfl, rfl⟩
                              go_wp2_with fail
                              refine (has_any a _ _ _ (k : Int) w4 HB4.out).mono ?_
                              rintro r w5 ⟨rfl, hd5⟩
                              rw [HHN.out]
                              have HK5 := Lib.hid (HK4.out.trans0 (Drawn.keep (show Drawn w4 w5 from hd5))); have HB5 := Lib.hid (HB4.out.keep (Drawn.keep (show Drawn w4 w5 from hd5)) (by simp)); clear hd5
                              go_wp2_with fail
                              refine (HJ.out w5 HK5.out).mono ?_
                              rintro r w6 ⟨rfl, rfl⟩
                              go_wp2_with fail
                              refine (HL.out w5 HK5.out).mono ?_
                              rintro r w6 ⟨rfl, rfl⟩
                              go_wp2
                              go_roundw
                              case rel => exact ⟨k + 1, by omega, by omega, by first | rfl | go_num, HB5.out, HK5.out⟩
                              case measure => simp [intOf]; omega
                        · have hkd : decide ((k : Int) ≤ 16) = false := by simp; omega
                          go_wp2_with fail
                          refine (known_true wr (HT.out.keep HK.out (by simp))).mono ?_
                          rintro r w7 ⟨rfl, hk7⟩
                          go_wp2
                          go_ret
                          exact ⟨rfl, HK.out.trans0 hk7⟩
    · have hy' : ((300 : Int) < (ts.length : Int)) := by omega
      go_enter Tryd.func9, Tryd.ntmps9
      go_wp2_with fail
      refine (known_true w HT.out).mono ?_
      rintro r w3 ⟨rfl, hk⟩
      go_wp2
      go_ret
      exact ⟨rfl, hk⟩
  · have hx' : ((300 : Int) < (xs.length : Int)) := by omega
    go_enter Tryd.func9, Tryd.ntmps9
    go_wp2_with fail
    refine (known_true w HT.out).mono ?_
    rintro r w3 ⟨rfl, hk⟩
    go_wp2
    go_ret
    exact ⟨rfl, hk⟩
end Go.Proofs.YtfhgeanacecpjaaDoor
