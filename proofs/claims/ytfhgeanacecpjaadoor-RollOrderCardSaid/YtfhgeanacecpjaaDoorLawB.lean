/-
  Walks of the law's helpers: step, same, alike.
-/
import Derived.Test.YtfhgeanacecpjaaDoorLawA
import Derived.Deep.RegionHeld3
namespace Go.Proofs.YtfhgeanacecpjaaDoor
open Go.RowKit Go.Shelf
set_option linter.unusedVariables false

/-- A Roll and the reference's, of one state. -/
structure Both (w : World) (b c : Nat) (j l : Nat) (e : Int) : Prop where
  p : RollAt w b j l e
  r : RefAt w c j l e
  ne : b ≠ c
  j0 : j.testBit 0 = false
  l0 : l.testBit 0 = false
theorem Both.keep {w w' : World} {b c j l : Nat} {e : Int} {L : List Nat} (h : Both w b c j l e) (k : Keep L w w') (hb : b ∉ L) (hc : c ∉ L) : Both w' b c j l e := ⟨h.p.keep k hb, h.r.keep k hc, h.ne, h.j0, h.l0⟩

theorem withBit0 (j : Nat) (n : Int) (h : j.testBit 0 = false) : (withBit j n).testBit 0 = false := by
  rw [testBit_withBit, h]
  cases hs : siteB n
  · rfl
  · have := site_yes hs
    simp; omega
theorem stepJ0 (lv : Bool) (j : Nat) (n : Int) (h : j.testBit 0 = false) : (stepJ lv j n).testBit 0 = false := by unfold stepJ; split; exact h; exact withBit0 _ _ h
theorem stepL0 (lv : Bool) (j : Nat) (n : Int) (h : j.testBit 0 = false) : (stepL lv j n).testBit 0 = false := by unfold stepL; split; exact withBit0 _ _ h; exact h

/-- The count behind a step. -/
def stepE (lv : Bool) (j l : Nat) (e n : Int) : Int := if stepR lv j l n = true then e + 1 else e

def StepPost (b c : Nat) (lv : Bool) (j l : Nat) (e n : Int) (w : World) (x : Ending) (w' : World) : Prop :=
  x = .returned (.bool true) ∧ Both w' b c (stepJ lv j n) (stepL lv l n) (stepE lv j l e n) ∧ Keep [b, c] w w'

set_option maxHeartbeats 2000000 in
theorem step_any (b c : Nat) (j l : Nat) (e n : Int) (lv : Bool) (w : World) (h : Both w b c j l e) (he0 : 0 ≤ e) (he1 : e ≤ 4611686018427387904) :
    Calls Tryd.prog 21 #[.pointer (some ⟨b, 0, none⟩), .pointer (some ⟨c, 0, none⟩), .agg #[.bool lv, .int .i64 n]] w (StepPost b c lv j l e n w) := by
  have hj := h.p.jl
  have hl := h.p.ll
  have hblt := h.p.lt
  have hclt := h.r.lt
  have hne := h.ne
  have hk0 : Keep [] w (w.alloc (.cells #[.bool lv, .int .i64 n] 28)) := (Keep.refl _ _).alloc _
  have h1 := h.keep hk0 (by simp) (by simp)
  have hx : (w.alloc (.cells #[.bool lv, .int .i64 n] 28)).heap[w.heap.size]? = some (.cells #[.bool lv, .int .i64 n] 28 (0, 0)) := heap_alloc_new w _
  have HK0 := Lib.hid hk0; have H1 := Lib.hid h1; have HX := Lib.hid hx; have H := Lib.hid h; have HNE := Lib.hid hne
  clear hk0 h1 hx h hne
  have hbx : w.heap.size ≠ b := by omega
  have hcx : w.heap.size ≠ c := by omega
  cases lv
  · go_enter Tryd.func21, Tryd.ntmps21
    go_wp2
    generalize w.alloc (.cells #[.bool false, .int .i64 n] 28) = w1 at *
    generalize hX : w.heap.size = X at *
    have hcell : w1.cell? ⟨X, 1, none⟩ = some (.int .i64 n) := cell_of_block HX.out 1
    go_region_held3 (fun w' => w'.cell? ⟨X, 1, none⟩ = some (.int .i64 n)) (go_keep)
      (first
        | (go_at_call 28; refine (join_any b j l e n w1.drew (H1.out.p.keep ((Keep.refl [] w1).drew) (by simp)) he0 he1).mono ?_; rintro r w2 ⟨rfl, hp2, hk2⟩; have hcell2 : w2.cell? ⟨X, 1, none⟩ = some (.int .i64 n) := hk2.cellv (p := ⟨X, 1, none⟩) (cell_of_block HX.out 1) (by simpa using hbx); have HR2 := Lib.hid (H1.out.r.keep (((Keep.refl [b] w1).drew).trans' hk2) (by simpa using fun h => HNE.out h.symm)); have HP2 := Lib.hid hp2; have HK2 := Lib.hid (((Keep.refl [b] w1).drew).trans' hk2); clear hp2 hk2)
        | (go_at_call 36; refine (rjoin_any c j l e n w2 HR2.out hj hl he0 he1).mono ?_; rintro r w3 ⟨rfl, hp3, hk3⟩; have hcell3 : w3.cell? ⟨X, 1, none⟩ = some (.int .i64 n) := hk3.cellv hcell2 (by simpa using hcx); have HP3 := Lib.hid hp3; have HK3 := Lib.hid hk3; clear hp3 hk3))
    go_wp2
    go_ret
    refine ⟨by simp, ⟨HP2.out.keep HK3.out (by simpa using HNE.out), HP3.out, HNE.out, stepJ0 _ _ _ H.out.j0, stepL0 _ _ _ H.out.l0⟩, ?_⟩
    exact ((HK0.out.mono (L' := [b, c]) (by simp)).trans HK2.out (by simp)).trans HK3.out (by simp)
  · go_enter Tryd.func21, Tryd.ntmps21
    go_wp2
    generalize w.alloc (.cells #[.bool true, .int .i64 n] 28) = w1 at *
    generalize hX : w.heap.size = X at *
    have hcell : w1.cell? ⟨X, 1, none⟩ = some (.int .i64 n) := cell_of_block HX.out 1
    go_region_held3 (fun w' => w'.cell? ⟨X, 1, none⟩ = some (.int .i64 n)) (go_keep)
      (first
        | (go_at_call 29; refine (leave_any b j l e n w1.drew (H1.out.p.keep ((Keep.refl [] w1).drew) (by simp)) he0 he1).mono ?_; rintro r w2 ⟨rfl, hp2, hk2⟩; have hcell2 : w2.cell? ⟨X, 1, none⟩ = some (.int .i64 n) := hk2.cellv (p := ⟨X, 1, none⟩) (cell_of_block HX.out 1) (by simpa using hbx); have HR2 := Lib.hid (H1.out.r.keep (((Keep.refl [b] w1).drew).trans' hk2) (by simpa using fun h => HNE.out h.symm)); have HP2 := Lib.hid hp2; have HK2 := Lib.hid (((Keep.refl [b] w1).drew).trans' hk2); clear hp2 hk2)
        | (go_at_call 35; refine (rleave_any c j l e n w2 HR2.out hj hl he0 he1).mono ?_; rintro r w3 ⟨rfl, hp3, hk3⟩; have hcell3 : w3.cell? ⟨X, 1, none⟩ = some (.int .i64 n) := hk3.cellv hcell2 (by simpa using hcx); have HP3 := Lib.hid hp3; have HK3 := Lib.hid hk3; clear hp3 hk3))
    go_wp2
    go_ret
    refine ⟨by simp, ⟨HP2.out.keep HK3.out (by simpa using HNE.out), HP3.out, HNE.out, stepJ0 _ _ _ H.out.j0, stepL0 _ _ _ H.out.l0⟩, ?_⟩
    exact ((HK0.out.mono (L' := [b, c]) (by simp)).trans HK2.out (by simp)).trans HK3.out (by simp)

/-- What ListPost gives a reader. -/
theorem ListPost.sl {xs : List Int} {w w' : World} {e : Ending} (h : ListPost xs w e w') : ∃ v, e = .returned v ∧ SlAt w' v xs.length (xs.map (Value.int .i64)) ∧ Keep [] w w' := by
  obtain ⟨v, h1, h2, h3, _⟩ := h
  exact ⟨v, h1, SlAt.of_owns h2, h3⟩

theorem bitList_len' (x : Nat) : (bitList x).length ≤ 4611686018427387904 := Nat.le_trans (bitList_len x) (by decide)

set_option maxHeartbeats 2000000 in
theorem same_eq (a b : Nat) (j l : Nat) (e1 e2 : Int) (w : World) (ha : RollAt w a j l e1) (hb : RollAt w b j l e2) (hT : TabW w) :
    Calls Tryd.prog 17 #[.pointer (some ⟨a, 0, none⟩), .pointer (some ⟨b, 0, none⟩)] w fun e w' => e = .returned (.bool true) ∧ Keep [] w w' := by
  have HA := Lib.hid ha; have HB := Lib.hid hb; have HT := Lib.hid hT; clear ha hb hT
  go_enter Tryd.func17, Tryd.ntmps17
  go_wp2_with fail
  refine (members_any a j l e1 w HA.out HT.out).mono ?_
  intro r w1 h1
  obtain ⟨v1, rfl, hs1, hk1⟩ := h1.sl
  have S1 := Lib.hid hs1; have K1 := Lib.hid hk1; clear h1 hs1 hk1
  go_wp2_with fail
  refine (members_any b j l e2 w1 (HB.out.keep K1.out (by simp)) (HT.out.keep K1.out (by simp))).mono ?_
  intro r w2 h2
  obtain ⟨v2, rfl, hs2, hk2⟩ := h2.sl
  have S1' := Lib.hid (S1.out.keep0 hk2); have S2 := Lib.hid hs2; have K2 := Lib.hid (K1.out.trans0 hk2); clear h2 hs2 hk2 S1 K1
  go_wp2_with fail
  refine (ints_any v1 v2 _ _ w2 S1'.out S2.out (bitList_len' _) (bitList_len' _)).mono ?_
  rintro r w3 ⟨rfl, hd⟩
  rw [sameB_self]
  have K3 := Lib.hid (K2.out.trans0 hd.keep); clear hd K2 S1' S2
  go_wp2_with fail
  refine (joined_any a j l e1 w3 (HA.out.keep K3.out (by simp)) (HT.out.keep K3.out (by simp))).mono ?_
  intro r w4 h1
  obtain ⟨v4, rfl, hs1, hk1⟩ := h1.sl
  have S1 := Lib.hid hs1; have K4 := Lib.hid (K3.out.trans0 hk1); clear h1 hs1 hk1 K3
  go_wp2_with fail
  refine (joined_any b j l e2 w4 (HB.out.keep K4.out (by simp)) (HT.out.keep K4.out (by simp))).mono ?_
  intro r w5 h2
  obtain ⟨v5, rfl, hs2, hk2⟩ := h2.sl
  have S1' := Lib.hid (S1.out.keep0 hk2); have S2 := Lib.hid hs2; have K5 := Lib.hid (K4.out.trans0 hk2); clear h2 hs2 hk2 S1 K4
  go_wp2_with fail
  refine (ints_any v4 v5 _ _ w5 S1'.out S2.out (bitList_len' _) (bitList_len' _)).mono ?_
  rintro r w6 ⟨rfl, hd⟩
  rw [sameB_self]
  have K6 := Lib.hid (K5.out.trans0 hd.keep); clear hd K5 S1' S2
  go_wp2_with fail
  refine (left_any a j l e1 w6 (HA.out.keep K6.out (by simp)) (HT.out.keep K6.out (by simp))).mono ?_
  intro r w7 h1
  obtain ⟨v7, rfl, hs1, hk1⟩ := h1.sl
  have S1 := Lib.hid hs1; have K7 := Lib.hid (K6.out.trans0 hk1); clear h1 hs1 hk1 K6
  go_wp2_with fail
  refine (left_any b j l e2 w7 (HB.out.keep K7.out (by simp)) (HT.out.keep K7.out (by simp))).mono ?_
  intro r w8 h2
  obtain ⟨v8, rfl, hs2, hk2⟩ := h2.sl
  have S1' := Lib.hid (S1.out.keep0 hk2); have S2 := Lib.hid hs2; have K8 := Lib.hid (K7.out.trans0 hk2); clear h2 hs2 hk2 S1 K7
  go_wp2_with fail
  refine (ints_any v7 v8 _ _ w8 S1'.out S2.out (bitList_len' _) (bitList_len' _)).mono ?_
  rintro r w9 ⟨rfl, hd⟩
  rw [sameB_self]
  have K9 := Lib.hid (K8.out.trans0 hd.keep); clear hd K8 S1' S2
  go_wp2
  go_ret
  exact ⟨rfl, K9.out⟩

set_option maxHeartbeats 4000000 in
theorem alike_any (b c : Nat) (j l : Nat) (e : Int) (w : World) (h : Both w b c j l e) (hT : TabW w) :
    Calls Tryd.prog 22 #[.pointer (some ⟨b, 0, none⟩), .pointer (some ⟨c, 0, none⟩)] w fun r w' => r = .returned (.bool true) ∧ Keep [] w w' := by
  have hj := h.p.jl
  have hl := h.p.ll
  have H := Lib.hid h; have HT := Lib.hid hT; clear h hT
  go_enter Tryd.func22, Tryd.ntmps22
  go_wp2
  go_loopw [5] (fun i wr => ∃ k : Nat, k ≤ 19 ∧ i = .int .i64 ((k : Int) - 1) ∧ Drawn w wr) (fun i _ => 19 - (intOf i + 1).toNat)
  case atStart => exact ⟨0, by omega, rfl, Drawn.refl _⟩
  case round =>
    obtain ⟨k, hk, rfl, hd⟩ := hrel
    have HD := Lib.hid hd; clear hd
    have HB := Lib.hid (H.out.keep HD.out.keep (by simp) (by simp))
    by_cases hlt : k < 19
    · go_wp2_with fail
      refine (has_any b j l e _ wr HB.out.p).mono ?_
      rintro r w1 ⟨rfl, hd1⟩
      have D1 := Lib.hid (show Drawn wr w1 from hd1); clear hd1
      go_wp2_with fail
      refine (rhas_any c j l e _ w1 (HB.out.r.keep D1.out.keep (by simp)) hj hl).mono ?_
      rintro r w2 ⟨rfl, rfl⟩
      have hb1 : (hasB j l ((k : Int) - 1) != hasB j l ((k : Int) - 1)) = false := by simp
      go_wp2_with fail
      refine (known_any b j l e _ w1 (HB.out.p.keep D1.out.keep (by simp))).mono ?_
      rintro r w2 ⟨rfl, hd2⟩
      have D2 := Lib.hid (show Drawn wr w2 from D1.out.trans hd2); clear hd2
      go_wp2_with fail
      refine (rknown_any c j l e _ w2 (HB.out.r.keep D2.out.keep (by simp))).mono ?_
      rintro r w3 ⟨rfl, rfl⟩
      have hb2 : (knownB j l ((k : Int) - 1) != knownB j l ((k : Int) - 1)) = false := by simp
      go_wp2
      go_roundw
      case rel => exact ⟨k + 1, by omega, by go_num, HD.out.trans D2.out⟩
      case measure => simp [intOf]; omega
    · obtain rfl : k = 19 := by omega
      have K0 := Lib.hid HD.out.keep
      clear hlt hk
      go_wp2_with fail
      refine (members_any b j l e wr HB.out.p (HT.out.keep K0.out (by simp))).mono ?_
      intro r w1 h1
      obtain ⟨v1, rfl, hs1, hk1⟩ := h1.sl
      have S1 := Lib.hid hs1; have K1 := Lib.hid (K0.out.trans0 hk1); clear h1 hs1 hk1
      go_wp2_with fail
      refine (rmembers_any c j l e w1 (H.out.r.keep K1.out (by simp)) hj hl H.out.j0).mono ?_
      intro r w2 h2
      obtain ⟨v2, rfl, hs2, hk2⟩ := h2.sl
      have S1' := Lib.hid (S1.out.keep0 hk2); have S2 := Lib.hid hs2; have K2 := Lib.hid (K1.out.trans0 hk2); clear h2 hs2 hk2 S1 K1
      go_wp2_with fail
      refine (ints_any v1 v2 _ _ w2 S1'.out S2.out (bitList_len' _) (bitList_len' _)).mono ?_
      rintro r w3 ⟨rfl, hd⟩
      rw [sameB_self]
      have K3 := Lib.hid (K2.out.trans0 hd.keep); clear hd K2 S1' S2
      go_wp2_with fail
      refine (joined_any b j l e w3 (H.out.p.keep K3.out (by simp)) (HT.out.keep K3.out (by simp))).mono ?_
      intro r w4 h1
      obtain ⟨v4, rfl, hs1, hk1⟩ := h1.sl
      have S1 := Lib.hid hs1; have K4 := Lib.hid (K3.out.trans0 hk1); clear h1 hs1 hk1 K3
      go_wp2_with fail
      refine (rjoined_any c j l e w4 (H.out.r.keep K4.out (by simp)) H.out.j0).mono ?_
      intro r w5 h2
      obtain ⟨v5, rfl, hs2, hk2⟩ := h2.sl
      have S1' := Lib.hid (S1.out.keep0 hk2); have S2 := Lib.hid hs2; have K5 := Lib.hid (K4.out.trans0 hk2); clear h2 hs2 hk2 S1 K4
      go_wp2_with fail
      refine (ints_any v4 v5 _ _ w5 S1'.out S2.out (bitList_len' _) (bitList_len' _)).mono ?_
      rintro r w6 ⟨rfl, hd⟩
      rw [sameB_self]
      have K6 := Lib.hid (K5.out.trans0 hd.keep); clear hd K5 S1' S2
      go_wp2_with fail
      refine (left_any b j l e w6 (H.out.p.keep K6.out (by simp)) (HT.out.keep K6.out (by simp))).mono ?_
      intro r w7 h1
      obtain ⟨v7, rfl, hs1, hk1⟩ := h1.sl
      have S1 := Lib.hid hs1; have K7 := Lib.hid (K6.out.trans0 hk1); clear h1 hs1 hk1 K6
      go_wp2_with fail
      refine (rleft_any c j l e w7 (H.out.r.keep K7.out (by simp)) H.out.l0).mono ?_
      intro r w8 h2
      obtain ⟨v8, rfl, hs2, hk2⟩ := h2.sl
      have S1' := Lib.hid (S1.out.keep0 hk2); have S2 := Lib.hid hs2; have K8 := Lib.hid (K7.out.trans0 hk2); clear h2 hs2 hk2 S1 K7
      go_wp2_with fail
      refine (ints_any v7 v8 _ _ w8 S1'.out S2.out (bitList_len' _) (bitList_len' _)).mono ?_
      rintro r w9 ⟨rfl, hd⟩
      rw [sameB_self]
      have K9 := Lib.hid (K8.out.trans0 hd.keep); clear hd K8 S1' S2
      go_wp2_with fail
      refine (epoch_any b j l e w9 (H.out.p.keep K9.out (by simp))).mono ?_
      rintro r w10 ⟨rfl, rfl⟩
      go_wp2_with fail
      refine (repoch_any c j l e w9 (H.out.r.keep K9.out (by simp))).mono ?_
      rintro r w10 ⟨rfl, rfl⟩
      have he : (e == e) = true := by simp
      go_wp2
      go_ret
      exact ⟨by simp, K9.out⟩
end Go.Proofs.YtfhgeanacecpjaaDoor
