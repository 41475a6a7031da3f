/-
  Make, walked.
-/
import Derived.Test.YtddbjclpmkelaaaDifK
import Derived.BigRegion
import Derived.Laws.EntriesVeiled
namespace Go.Proofs.Ytddbjclpmkelaaa
open Go.RowKit
set_option linter.unusedVariables false
set_option linter.unusedSimpArgs false

theorem runes_sl {s : ByteArray} {w w' : World} {r : Ending} (h : RunesPost s w r w') : ∃ g, r = .returned (.slice (some ⟨g, 0, none⟩) (runs s 0).length (runs s 0).length) ∧ Keep [] w w' ∧
    (∀ (j : Nat) (u : Value), ((runs s 0).map (Value.int .i32))[j]? = some u → w'.cell? ⟨g, j, none⟩ = some u) := by
  obtain ⟨cur, h1, h2, h3, h4⟩ := h
  refine ⟨_, h1, h4, fun j u hu => ?_⟩
  rw [← h3, List.getElem?_take] at hu
  split at hu
  · rw [cell_of_block h2]; simpa using hu
  · cases hu
theorem sl_of {W : World} {g n : Nat} {cs : List Value} (hl : n = cs.length) (hc : ∀ (j : Nat) (u : Value), cs[j]? = some u → W.cell? ⟨g, j, none⟩ = some u) : SlAt W (.slice (some ⟨g, 0, none⟩) n n) n cs :=
  ⟨_, _, rfl, ⟨fun h => List.eq_nil_of_length_eq_zero (by omega), fun h => by cases h⟩, fun _ => ⟨g, 0, rfl, fun i u hu => by rw [Nat.zero_add]; exact hc i u hu⟩⟩
theorem sl_of2 {W : World} {g n : Nat} {x : List Int} (hl : n = x.length) (hc : ∀ (j : Nat) (u : Value), (x.map (Value.int .i32))[j]? = some u → W.cell? ⟨g, j, none⟩ = some u) : SlAt W (.slice (some ⟨g, 0, none⟩) n n) x.length (x.map (Value.int .i32)) := by
  subst hl; exact sl_of (by simp) hc
theorem mid_next {y : List Int} {fr k : Nat} (h1 : fr ≤ k) (h2 : k < y.length) : mid y fr (k + 1) = mid y fr k ++ [y[k]] := by
  unfold mid
  rw [show k + 1 - fr = (k - fr) + 1 by omega, List.take_succ_eq_append_getElem (by simp; omega)]
  simp [show fr + (k - fr) = k by omega]
theorem mid_none (y : List Int) (k : Nat) : mid y k k = [] := by unfold mid; simp
theorem nxt_kp (e : Ed) : e.nxt = ⟨e.kp + 1, 0, []⟩ := by unfold Ed.nxt Ed.kp; split <;> rfl
theorem alloc_at {w : World} {o o' : Obj} {b : Nat} (h : w.heap[b]? = some o) : (w.alloc o').heap[b]? = some o := (Below.heap_alloc _ _ _ (lt_of_block h)).trans h
theorem mk_start_st (w5 : World) : MkSt w5 (((((w5.alloc (.cells #[.slice none 0 0] 23)).alloc (.cells #[.int .i64 0] 3)).alloc (.cells #[.int .i64 0] 3)).alloc (.cells #[.int .i64 0] 3)).alloc (.cells #[.int .i64 0, .int .i64 0, .string ⟨#[]⟩] 32)) (.slice none 0 0) [] 0 0 0 0 := by
  have n1 := heap_alloc_new w5 (.cells #[.slice none 0 0] 23)
  have n2 := heap_alloc_new (w5.alloc (.cells #[.slice none 0 0] 23)) (.cells #[.int .i64 0] 3)
  have n3 := heap_alloc_new ((w5.alloc (.cells #[.slice none 0 0] 23)).alloc (.cells #[.int .i64 0] 3)) (.cells #[.int .i64 0] 3)
  have n4 := heap_alloc_new (((w5.alloc (.cells #[.slice none 0 0] 23)).alloc (.cells #[.int .i64 0] 3)).alloc (.cells #[.int .i64 0] 3)) (.cells #[.int .i64 0] 3)
  have n5 := heap_alloc_new ((((w5.alloc (.cells #[.slice none 0 0] 23)).alloc (.cells #[.int .i64 0] 3)).alloc (.cells #[.int .i64 0] 3)).alloc (.cells #[.int .i64 0] 3)) (.cells #[.int .i64 0, .int .i64 0, .string ⟨#[]⟩] 32)
  simp only [World.size_alloc] at n2 n3 n4 n5
  exact ⟨alloc_at (alloc_at (alloc_at (alloc_at n1))), alloc_at (alloc_at (alloc_at n2)), alloc_at (alloc_at n3), alloc_at n4, ⟨_, _, n5⟩, World.ownsRow_nil _ _ _ _, by simp, (((((Keep.refl _ _).alloc _).alloc _).alloc _).alloc _).alloc _⟩
/-- The number in a box. -/
def boxNat (W : World) (b : Nat) : Nat := match W.cell? ⟨b, 0, none⟩ with | some (.int _ z) => z.toNat | _ => 0
theorem boxNat_of {W : World} {b k : Nat} (h : W.heap[b]? = some (.cells #[.int .i64 (k : Int)] 3 (0, 0))) : boxNat W b = k := by
  unfold boxNat; rw [cell_of_one h]; simp

set_option maxRecDepth 100000 in
set_option maxHeartbeats 16000000 in
theorem make_any (a b : ByteArray) (w : World) (ha : a.size ≤ 1000000) (hb : b.size ≤ 1000000) :
    Calls Try.prog 11 #[.string a, .string b] w (NewEds .i64 (mkOut a b).1 (mkOut a b).2 w) := by
  go_enter Try.func11, Try.ntmps11
  go_wp2_with fail
  refine (badAt_any a _ (by omega)).mono ?_
  rintro q w1 ⟨rfl, hk1⟩
  have HK1 := Lib.hid hk1; clear hk1
  by_cases hga : badAt a < 0
  · have hga2 : ¬ (0 ≤ badAt a) := by omega
    go_wp2_with fail
    refine (badAt_any b _ (by omega)).mono ?_
    rintro q w2 ⟨rfl, hk2⟩
    have HK2 := Lib.hid (HK1.out.trans0 hk2); clear hk2
    by_cases hgb : badAt b < 0
    · have hgb2 : ¬ (0 ≤ badAt b) := by omega
      have HO : Hid (mkOut a b = if (runs a 0).length ≤ 400 ∧ (runs b 0).length ≤ 400 then (0, mkD (runs a 0) (runs b 0)) else (7, [])) := by show _ = _; unfold mkOut; rw [if_pos ⟨hga, hgb⟩]
      go_wp2_with fail
      refine (runes_any a _ (by omega)).mono ?_
      rintro r w3 hr
      obtain ⟨gx, rfl, hk3, hcx⟩ := runes_sl hr
      have HK3 := Lib.hid (HK2.out.trans0 hk3); clear hr hk3
      go_wp2_with fail
      refine (runes_any b _ (by omega)).mono ?_
      rintro r w4 hr
      obtain ⟨g, rfl, hk4, hcy⟩ := runes_sl hr
      have HXC := Lib.hid (fun j u hu => hk4.cellv (hcx j u hu) (by simp)); have HYC := Lib.hid hcy
      have HK4 := Lib.hid (HK3.out.trans0 hk4); clear hr hk4 hcx hcy
      generalize runs a 0 = x at *
      generalize runs b 0 = y at *
      obtain ⟨n, hn⟩ : ∃ n, n = x.length := ⟨_, rfl⟩
      obtain ⟨m, hm⟩ : ∃ m, m = y.length := ⟨_, rfl⟩
      rw [← hn, ← hm]
      by_cases hnl : n ≤ 400
      · by_cases hml : m ≤ 400
        · rw [if_pos ⟨by omega, by omega⟩] at HO
          have HN := Lib.hid hn; have HMM := Lib.hid hm; clear hn hm
          obtain ⟨mx, hmx, hmx4⟩ : ∃ mx : Int, (∀ (ts : Array TypeId) (t : TypeId) (W : World), (Builtin.max_ ts t #[.int .i64 (n : Int), .int .i64 (m : Int)]).run Try.prog W = .ok (.int .i64 mx) W) ∧ ¬ 400 < mx :=
            ⟨_, fun ts t W => run_max_int2 (P := Try.prog) W ts t .i64 .i64 n m, by split <;> omega⟩
          go_wp2_with fail
          have hyb : (w4.alloc (.cells #[.slice (some ⟨g, 0, none⟩) m m] 44)).heap[w4.heap.size]? = some (.cells #[.slice (some ⟨g, 0, none⟩) m m] 44 (0, 0)) := heap_alloc_new _ _
          have hka : Keep [] w4 (w4.alloc (.cells #[.slice (some ⟨g, 0, none⟩) m m] 44)) := (Keep.refl _ _).alloc _
          refine (table_any _ _ x y _ (sl_of2 HN.out (fun j u hu => hka.cellv (HXC.out j u hu) (by simp))) (sl_of2 HMM.out (fun j u hu => hka.cellv (HYC.out j u hu) (by simp))) (by rw [← HN.out]; omega) (by rw [← HMM.out]; omega)).mono ?_
          rintro r w5 ⟨vt, rfl, ⟨T, rfl, hT⟩, hk5⟩
          rw [← HN.out, ← HMM.out] at hT
          rw [← HN.out]
          have HYB := Lib.hid (hk5.at_ hyb (by simp))
          have hk45 := hka.trans0 hk5
          have HX5 := Lib.hid (fun j u hu => hk45.cellv (HXC.out j u hu) (by simp))
          have HY5 := Lib.hid (fun j u hu => hk45.cellv (HYC.out j u hu) (by simp))
          have HK5 := Lib.hid (HK4.out.trans0 hk45); have HT := Lib.hid hT
          clear hyb hka hk5 hk45 HXC HYC HK1 HK2 HK3 HK4 hT hmx hmx4
          go_wp2_with fail
          simp only [Nat.add_assoc, Nat.reduceAdd]
          have hst := mk_start_st w5
          revert hst
          generalize hW6 : ((((w5.alloc (.cells #[.slice none 0 0] 23)).alloc (.cells #[.int .i64 0] 3)).alloc (.cells #[.int .i64 0] 3)).alloc (.cells #[.int .i64 0] 3)).alloc (.cells #[.int .i64 0, .int .i64 0, .string ⟨#[]⟩] 32) = W6
          intro hst
          have HST := Lib.hid hst; clear hst
          have hbx6 := boxNat_of HST.out.bk
          go_loopw [10] (fun si wr => ∃ (i j kept drop fr : Nat) (v : Value) (pre : List Ed), i ≤ n ∧ j ≤ m ∧ si = .int .i64 i ∧ fr ≤ j ∧ kept ≤ i ∧ drop ≤ i ∧ pre.length ≤ i ∧ mkD x y = pre ++ mk x y i j ⟨kept, drop, mid y fr j⟩ ∧
            MkSt w5 wr v pre kept drop fr j) (fun si wr => (n - (intOf si).toNat) + (m - boxNat wr (w5.heap.size + 1)))
          case atStart => exact ⟨0, 0, 0, 0, 0, _, [], by omega, by omega, rfl, by omega, by omega, by omega, by simp, by rw [mid_none]; rfl, HST.out⟩
          case round =>
            obtain ⟨i, j, kept, drop, fr, v, pre, hin, hjm, rfl, hfj, hb1, hb2, hb4, hmk, hM⟩ := hrel
            have hbx := boxNat_of hM.bk
            have HMK := Lib.hid hmk; have HM := Lib.hid hM
            clear hmk hM hbx6 HST
            have cK := cell_of_one HM.out.bk
            have cY := HM.out.keep.cellv (cell_of_one HYB.out) (by simp)
            have fK := free_of_one HM.out.bk
            by_cases hin2 : i = n
            · by_cases hjm2 : j = m
              · subst hin2; subst hjm2
                rw [HN.out, HMM.out, mk_end] at HMK
                rw [← HMM.out] at HMK
                go_wp2_with fail
                refine (done_any w5 wr _ pre kept drop fr j w4.heap.size g j y HM.out HYB.out HMM.out (fun j u hu => HY5.out j u hu) (by omega) (by omega) (by omega) (by omega) (by omega) (by omega)).mono ?_
                rintro q wd ⟨rfl, vd, hMd⟩
                have HMD := Lib.hid hMd
                clear hMd
                have cL := cell_of_one HMD.out.bl
                go_wp2_with fail
                go_ret2
                rw [HO.out]
                rw [HMK.out]
                exact ⟨_, rfl, owns_mono HMD.out.row (by have := HK5.out.size; omega), HK5.out.trans0 HMD.out.keep, HMD.out.nil⟩
              · subst hin2
                have hjlt : j < m := by omega
                have hjm3 : ((j : Int) < (m : Int)) := by omega
                have hnj : ((j : Int) == (m : Int)) = false := by rw [beq_eq_false_iff_ne]; omega
                have hjy : j < y.length := by rw [← HMM.out]; exact hjlt
                have hmk2 : mk x y i j ⟨kept, drop, mid y fr j⟩ = mk x y i (j + 1) ⟨kept, drop, mid y fr (j + 1)⟩ := by rw [HN.out, mk_lay0 hjy, mid_next hfj hjy]; rfl
                rw [hmk2] at HMK
                clear hmk2
                go_wp2_with fail
                go_quiet (fail)
                generalize hwq : wr.drewN nq = wq
                have HMq := Lib.hid (HM.out.drewN nq)
                rw [hwq] at HMq
                replace HM := HMq
                clear HMq hwq cK cY fK
                have cK := cell_of_one HM.out.bk
                have cY := HM.out.keep.cellv (cell_of_one HYB.out) (by simp)
                have fK := free_of_one HM.out.bk
                go_wp2_with fail
                go_quiet (fail)
                generalize hwq2 : wq.drewN nq = wq2
                have HMq := Lib.hid (HM.out.drewN nq)
                rw [hwq2] at HMq
                replace HM := HMq
                clear HMq hwq2 cK cY fK
                have cK := cell_of_one HM.out.bk
                have cY := HM.out.keep.cellv (cell_of_one HYB.out) (by simp)
                have fK := free_of_one HM.out.bk
                go_wp2_with fail
                have HM2 := Lib.hid (HM.out.setK (j + 1))
                have hbx2 := boxNat_of HM2.out.bk
                exact ⟨⟨i, j + 1, kept, drop, fr, _, pre, by omega, by omega, rfl, by omega, by omega, by omega, by omega, HMK.out, HM2.out⟩, by simp only [intOf]; rw [hbx]; show _ + (m - boxNat (wq2.setCell ⟨w5.heap.size + 1, 0, none⟩ (.int .i64 ((j + 1 : Nat) : Int))) (w5.heap.size + 1)) < _; rw [hbx2]; omega⟩
            · have hlt : i < n := by omega
              have hin3 : ((i : Int) < (n : Int)) := by omega
              have hix : i < x.length := by rw [← HN.out]; exact hlt
              have exi := HM.out.keep.cellv (HX5.out i (.int .i32 x[i]) (by rw [List.getElem?_map, List.getElem?_eq_getElem hix]; rfl)) (by simp)
              by_cases hjm2 : j = m
              · subst hjm2
                have hmk2 : mk x y i j ⟨kept, drop, mid y fr j⟩ = mk x y (i + 1) j ⟨kept, drop + 1, mid y fr j⟩ := by conv => lhs; rw [show mk x y i j = mk x y i y.length by rw [← HMM.out]]
                                                                                                                      rw [mk_more0 hix, ← HMM.out]; rfl
                rw [hmk2] at HMK
                clear hmk2
                go_wp2_with fail
                go_quiet (fail)
                generalize hwq : wr.drewN nq = wq
                have HMq := Lib.hid (HM.out.drewN nq)
                rw [hwq] at HMq
                replace HM := HMq
                clear HMq hwq cK cY fK
                have cK := cell_of_one HM.out.bk
                have cY := HM.out.keep.cellv (cell_of_one HYB.out) (by simp)
                have fK := free_of_one HM.out.bk
                clear exi
                go_wp2_with fail
                go_quiet (fail)
                generalize hwq2 : wq.drewN nq = wq2
                have HMq := Lib.hid (HM.out.drewN nq)
                rw [hwq2] at HMq
                replace HM := HMq
                clear HMq hwq2 cK cY fK
                obtain ⟨ea, eb, hbe⟩ := HM.out.be
                have e1 : wq2.cell? ⟨w5.heap.size + 4, 1, none⟩ = some (.int .i64 drop) := by rw [cell_of_block hbe]; rfl
                have f1 := free_of_block hbe 1
                clear hbe
                go_wp2_with fail
                have HM2 := Lib.hid (HM.out.setE1 (drop + 1))
                have hbx2 := boxNat_of HM2.out.bk
                exact ⟨⟨i + 1, j, kept, drop + 1, fr, _, pre, by omega, by omega, by go_num, by omega, by omega, by omega, by omega, HMK.out, HM2.out⟩, by simp only [intOf]; rw [hbx]; show _ + (j - boxNat (wq2.setCell ⟨w5.heap.size + 4, 1, none⟩ (.int .i64 ((drop + 1 : Nat) : Int))) (w5.heap.size + 1)) < _; rw [hbx2]; omega⟩
              · have hjlt : j < m := by omega
                have hjm3 : ((j : Int) < (m : Int)) := by omega
                have hjy : j < y.length := by rw [← HMM.out]; exact hjlt
                have eyj := HM.out.keep.cellv (HY5.out j (.int .i32 y[j]) (by rw [List.getElem?_map, List.getElem?_eq_getElem hjy]; rfl)) (by simp)
                have hji : ((j : Int) < (m : Int) + 1) := by omega
                have hsame : x[i] = y[j] → Hid (mk x y i j ⟨kept, drop, mid y fr j⟩ = (Ed.mk kept drop (mid y fr j)).flush ++ mk x y (i + 1) (j + 1) (Ed.mk kept drop (mid y fr j)).nxt) := fun h => mk_same hix hjy h _
                have hM' : x[i] ≠ y[j] → lf x y (i + 1) j < lf x y i j → Hid (mk x y i j ⟨kept, drop, mid y fr j⟩ = mk x y (i + 1) j ⟨kept, drop + 1, mid y fr j⟩) := fun h hl => mk_more hix hjy h hl _
                have hL' : x[i] ≠ y[j] → ¬ lf x y (i + 1) j < lf x y i j → Hid (mk x y i j ⟨kept, drop, mid y fr j⟩ = mk x y i (j + 1) ⟨kept, drop, mid y fr (j + 1)⟩) := fun h hl => by show _ = _; rw [mk_lay hix hjy h hl, mid_next hfj hjy]; rfl
                have HSA := Lib.hid hsame; have HMR := Lib.hid hM'; have HLY := Lib.hid hL'
                clear hsame hM' hL'
                generalize x[i] = xi at *
                generalize y[j] = yj at *
                by_cases hxy : xi = yj
                · subst hxy
                  rw [(HSA.out rfl).out] at HMK
                  clear HSA HMR HLY
                  go_wp2_with fail
                  go_quiet (fail)
                  generalize hwq : wr.drewN nq = wq
                  have HMq := Lib.hid (HM.out.drewN nq)
                  rw [hwq] at HMq
                  replace HM := HMq
                  clear HMq hwq cK cY fK
                  clear exi eyj
                  go_wp2_with fail
                  refine (done_any w5 wq _ pre kept drop fr j w4.heap.size g m y HM.out HYB.out HMM.out (fun j u hu => HY5.out j u hu) (by omega) (by omega) (by omega) (by omega) (by omega) (by omega)).mono ?_
                  rintro q wd ⟨rfl, vd, hMd⟩
                  have HMD := Lib.hid hMd
                  clear hMd
                  have cK := cell_of_one HMD.out.bk
                  have fK := free_of_one HMD.out.bk
                  have cP := cell_of_one HMD.out.bp
                  have fP := free_of_one HMD.out.bp
                  have cF := cell_of_one HMD.out.bf
                  have fF := free_of_one HMD.out.bf
                  have hkp : (Ed.mk kept drop (mid y fr j)).kp ≤ kept := by unfold Ed.kp; split <;> simp
                  have hfl : (Ed.mk kept drop (mid y fr j)).flush.length ≤ 1 := by unfold Ed.flush; split <;> simp
                  rw [nxt_kp] at HMK
                  generalize (Ed.mk kept drop (mid y fr j)).kp = kp at *
                  generalize (Ed.mk kept drop (mid y fr j)).flush = fl at *
                  go_wp2_with fail
                  go_region
                  go_wp2_with fail
                  have HM2 := Lib.hid ((((HMD.out.setK (j + 1)).setP (kp + 1)).setF (j + 1)).drew)
                  have hbx2 := boxNat_of HM2.out.bk
                  exact ⟨⟨i + 1, j + 1, kp + 1, 0, j + 1, _, pre ++ fl, by omega, by omega, by go_num, by omega, by omega, by omega, by rw [List.length_append]; omega, by rw [mid_none, HMK.out, List.append_assoc], HM2.out⟩, by simp only [intOf]; rw [hbx]; show _ + (m - boxNat (((wd.setCell ⟨w5.heap.size + 1, 0, none⟩ (.int .i64 ((j + 1 : Nat) : Int))).setCell ⟨w5.heap.size + 2, 0, none⟩ (.int .i64 ((kp + 1 : Nat) : Int))).setCell ⟨w5.heap.size + 3, 0, none⟩ (.int .i64 ((j + 1 : Nat) : Int))).drew (w5.heap.size + 1)) < _; rw [hbx2]; omega⟩
                · have hdxy : decide (xi = yj) = false := by simpa using hxy
                  have hnj : ((j : Int) == (m : Int)) = false := by rw [beq_eq_false_iff_ne]; omega
                  obtain ⟨g0, hg0, hr0⟩ := HT.out i (by omega)
                  obtain ⟨g1, hg1, hr1⟩ := HT.out (i + 1) (by omega)
                  have t1 := HM.out.keep.cellv hg0 (by simp)
                  have t2 := HM.out.keep.cellv hg1 (by simp)
                  have t3 := HM.out.keep.cellv (hr0 j (by omega)) (by simp)
                  have t4 := HM.out.keep.cellv (hr1 j (by omega)) (by simp)
                  have hi1n : ((i : Int) + 1 < (n : Int) + 1) := by omega
                  have hi0n : ((i : Int) < (n : Int) + 1) := by omega
                  have h0i : (0 : Int) ≤ (i : Int) + 1 := by omega
                  have hti : ((i : Int) + 1).toNat = i + 1 := by omega
                  clear hr0 hr1 hg0 hg1
                  have HMR2 := Lib.hid (HMR.out hxy); have HLY2 := Lib.hid (HLY.out hxy)
                  clear HSA HMR HLY
                  generalize lf x y (i + 1) j = v10 at *
                  generalize lf x y i j = v00 at *
                  go_wp2_with fail
                  go_quiet (fail)
                  have d1 : (wr.drewN nq).cell? _ = _ := t1
                  have d2 : (wr.drewN nq).cell? _ = _ := t2
                  have d3 : (wr.drewN nq).cell? _ = _ := t3
                  have d4 : (wr.drewN nq).cell? _ = _ := t4
                  generalize hwq : wr.drewN nq = wq
                  have HMq := Lib.hid (HM.out.drewN nq)
                  rw [hwq] at HMq
                  replace HM := HMq
                  rw [hwq] at d1 d2 d3 d4
                  clear HMq hwq t1 t2 t3 t4 exi eyj cK cY fK
                  have cK := cell_of_one HM.out.bk
                  have cY := HM.out.keep.cellv (cell_of_one HYB.out) (by simp)
                  have fK := free_of_one HM.out.bk
                  by_cases hl : v10 < v00
                  · have hdl : decide (v10 < v00) = true := by simpa using hl
                    rw [(HMR2.out hl).out] at HMK
                    go_wp2_with fail
                    go_quiet (fail)
                    generalize hwq2 : wq.drewN nq = wq2
                    have HMq := Lib.hid (HM.out.drewN nq)
                    rw [hwq2] at HMq
                    replace HM := HMq
                    clear HMq hwq2 cK cY fK
                    clear d1 d2 d3 d4
                    obtain ⟨ea, eb, hbe⟩ := HM.out.be
                    have e1 : wq2.cell? ⟨w5.heap.size + 4, 1, none⟩ = some (.int .i64 drop) := by rw [cell_of_block hbe]; rfl
                    have f1 := free_of_block hbe 1
                    clear hbe
                    go_wp2_with fail
                    have HM2 := Lib.hid (HM.out.setE1 (drop + 1))
                    have hbx2 := boxNat_of HM2.out.bk
                    exact ⟨⟨i + 1, j, kept, drop + 1, fr, _, pre, by omega, by omega, by go_num, by omega, by omega, by omega, by omega, HMK.out, HM2.out⟩, by simp only [intOf]; rw [hbx]; show _ + (m - boxNat (wq2.setCell ⟨w5.heap.size + 4, 1, none⟩ (.int .i64 ((drop + 1 : Nat) : Int))) (w5.heap.size + 1)) < _; rw [hbx2]; omega⟩
                  · have hdl : decide (v10 < v00) = false := by simpa using hl
                    rw [(HLY2.out hl).out] at HMK
                    go_wp2_with fail
                    go_quiet (fail)
                    generalize hwq2 : wq.drewN nq = wq2
                    have HMq := Lib.hid (HM.out.drewN nq)
                    rw [hwq2] at HMq
                    replace HM := HMq
                    clear HMq hwq2 cK cY fK
                    clear d1 d2 d3 d4
                    have cK := cell_of_one HM.out.bk
                    have cY := HM.out.keep.cellv (cell_of_one HYB.out) (by simp)
                    have fK := free_of_one HM.out.bk
                    go_wp2_with fail
                    have HM2 := Lib.hid (HM.out.setK (j + 1))
                    have hbx2 := boxNat_of HM2.out.bk
                    exact ⟨⟨i, j + 1, kept, drop, fr, _, pre, by omega, by omega, rfl, by omega, by omega, by omega, by omega, HMK.out, HM2.out⟩, by simp only [intOf]; rw [hbx]; show _ + (m - boxNat (wq2.setCell ⟨w5.heap.size + 1, 0, none⟩ (.int .i64 ((j + 1 : Nat) : Int))) (w5.heap.size + 1)) < _; rw [hbx2]; omega⟩
        · rw [if_neg (by omega)] at HO
          obtain ⟨mx, hmx, hmx4⟩ : ∃ mx : Int, (∀ (ts : Array TypeId) (t : TypeId) (W : World), (Builtin.max_ ts t #[.int .i64 (n : Int), .int .i64 (m : Int)]).run Try.prog W = .ok (.int .i64 mx) W) ∧ 400 < mx :=
            ⟨_, fun ts t W => run_max_int2 (P := Try.prog) W ts t .i64 .i64 n m, by split <;> omega⟩
          go_wp2_with fail
          go_ret2
          rw [HO.out]
          exact ⟨_, rfl, World.ownsRow_nil _ _ _ _, HK4.out.alloc _, by simp⟩
      · rw [if_neg (by omega)] at HO
        go_wp2_with fail
        all_goals first
          | (exfalso; omega)
          | (go_ret2; rw [HO.out]; exact ⟨_, rfl, World.ownsRow_nil _ _ _ _, HK4.out.alloc _, by simp⟩)
    · have hgb2 : 0 ≤ badAt b := by omega
      have HO : Hid (mkOut a b = (2, [])) := by show _ = _; unfold mkOut; rw [if_neg (fun h => hgb h.2)]
      go_wp2_with fail
      go_ret2
      rw [HO.out]
      exact ⟨_, rfl, World.ownsRow_nil _ _ _ _, HK2.out, by simp⟩
  · have hga2 : 0 ≤ badAt a := by omega
    have HO : Hid (mkOut a b = (2, [])) := by show _ = _; unfold mkOut; rw [if_neg (fun h => hga h.1)]
    go_wp2_with fail
    go_ret2
    rw [HO.out]
    exact ⟨_, rfl, World.ownsRow_nil _ _ _ _, HK1.out, by simp⟩
end Go.Proofs.Ytddbjclpmkelaaa
