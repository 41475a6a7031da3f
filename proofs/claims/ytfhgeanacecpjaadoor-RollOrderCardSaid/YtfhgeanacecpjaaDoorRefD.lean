/-
  Walks of the reference's roll: Load.
-/
import Derived.Test.YtfhgeanacecpjaaDoorRefC
namespace Go.Proofs.YtfhgeanacecpjaaDoor
open Go.RowKit Go.Shelf
set_option linter.unusedVariables false

def RLoadPost (js ls : List Int) (ep : Int) (w : World) (r : Ending) (w' : World) : Prop :=
  Keep [] w w' ∧ ((loadErr js ls ep = 0 ∧ ∃ b, w.heap.size ≤ b ∧ r = .returned (.tuple #[.pointer (some ⟨b, 0, none⟩), .int .i64 0]) ∧ RefAt w' b (bitsOf 0 js) (bitsOf 0 ls) ep) ∨
    (loadErr js ls ep ≠ 0 ∧ r = .returned (.tuple #[.pointer none, .int .i64 (loadErr js ls ep)])))

theorem rload_bad (js ls : List Int) (ep : Int) (w w' : World) (hk : Keep [] w w') (n : Int) (hn : n ≠ 0) (h : loadErr js ls ep = n) : RLoadPost js ls ep w (.returned (.tuple #[.pointer none, .int .i64 n])) w' :=
  ⟨hk, .inr ⟨by rw [h]; exact hn, by rw [h]⟩⟩

/-- A world behind some draws. -/
def Drawn (w w' : World) : Prop := ∃ k, w' = w.drewN k
theorem Drawn.keep {w w' : World} (h : Drawn w w') : Keep [] w w' := by obtain ⟨k, rfl⟩ := h; exact (Keep.refl _ _).drewN k
theorem Drawn.size {w w' : World} (h : Drawn w w') : w'.heap.size = w.heap.size := by obtain ⟨k, rfl⟩ := h; rfl

/-- How many of the first sites are in a word. -/
def bothN (x k : Nat) : Nat := (upList (fun i => x.testBit i) k).length

set_option maxHeartbeats 4000000 in
theorem rload_any (vj vl : Value) (js ls : List Int) (ep : Int) (w : World) (hj : SlAt w vj js.length (js.map (Value.int .i64))) (hl : SlAt w vl ls.length (ls.map (Value.int .i64)))
    (hjl : js.length ≤ 4611686018427387904) (hll : ls.length ≤ 4611686018427387904) (hep : ep ≤ 9223372036854775807) :
    Calls Tryd.prog 27 #[vj, vl, .int .i64 ep] w (RLoadPost js ls ep w) := by
  cases hrj : risingFrom 0 js
  · have HE := Lib.hid (show loadErr js ls ep = 1 by simp [loadErr, hrj])
    have HR := Lib.hid hrj; clear hrj
    go_enter Tryd.func27, Tryd.ntmps27
    go_wp2_with fail
    refine (rising_any vj js _ hj hjl).mono ?_
    rintro r w1 ⟨rfl, hw1⟩
    have hk1 := Drawn.keep hw1; clear hw1
    rw [HR.out]
    go_wp2
    go_ret2
    exact rload_bad js ls ep _ _ hk1 1 (by decide) HE.out
  · cases hrl : risingFrom 0 ls
    · have HE := Lib.hid (show loadErr js ls ep = 1 by simp [loadErr, hrl])
      have HR := Lib.hid hrj; clear hrj
      have HL := Lib.hid hrl; clear hrl
      go_enter Tryd.func27, Tryd.ntmps27
      go_wp2_with fail
      refine (rising_any vj js _ hj hjl).mono ?_
      rintro r w1 ⟨rfl, hw1⟩
      have hk1 := Drawn.keep hw1; clear hw1
      rw [HR.out]
      go_wp2_with fail
      refine (rising_any vl ls _ (hl.keep0 hk1) hll).mono ?_
      rintro r w2 ⟨rfl, hw2⟩
      have hk2 := hk1.trans0 (Drawn.keep hw2); clear hw2
      rw [HL.out]
      go_wp2
      go_ret2
      exact rload_bad js ls ep _ _ hk2 1 (by decide) HE.out
    · by_cases h0 : ep < 0
      · have HE := Lib.hid (show loadErr js ls ep = 1 by simp [loadErr]; omega)
        have HR := Lib.hid hrj; clear hrj
        have HL := Lib.hid hrl; clear hrl
        go_enter Tryd.func27, Tryd.ntmps27
        go_wp2_with fail
        refine (rising_any vj js _ hj hjl).mono ?_
        rintro r w1 ⟨rfl, hw1⟩
        have hk1 := Drawn.keep hw1; clear hw1
        rw [HR.out]
        go_wp2_with fail
        refine (rising_any vl ls _ (hl.keep0 hk1) hll).mono ?_
        rintro r w2 ⟨rfl, hw2⟩
        have hk2 := hk1.trans0 (Drawn.keep hw2); clear hw2
        rw [HL.out]
        go_wp2
        go_ret2
        exact rload_bad js ls ep _ _ hk2 1 (by decide) HE.out
      · have hJ : bitsOf 0 js < 131072 := bitsOf_lt js 0 0 (by decide) hrj
        have hL : bitsOf 0 ls < 131072 := bitsOf_lt ls 0 0 (by decide) hrl
        have hJ0 : (bitsOf 0 js).testBit 0 = false := bitsOf_bit0 js 0 0 (by simp) hrj
        have hdef : loadErr js ls ep = if (popC (butNot (bitsOf 0 js) (bitsOf 0 ls)) : Int) ≤ ep ∧ (ep - popC (butNot (bitsOf 0 js) (bitsOf 0 ls))) % 2 = 0 ∧ (ep - popC (butNot (bitsOf 0 js) (bitsOf 0 ls))) / 2 ≤ popC (bitsOf 0 js &&& bitsOf 0 ls) then 0 else 6 := by
          unfold loadErr; rw [if_pos ⟨hrj, hrl, by omega⟩]
        have HSJ := Lib.hid (rising_sites js 0 hrj)
        have HSL := Lib.hid (rising_sites ls 0 hrl)
        have HR := Lib.hid hrj; clear hrj
        have HL := Lib.hid hrl; clear hrl
        have HD := Lib.hid hdef; clear hdef
        have HJ0 := Lib.hid hJ0; clear hJ0
        have hd0 : decide (ep < 0) = false := by simpa using h0
        have h0' : 0 ≤ ep := by omega
        clear h0
        go_enter Tryd.func27, Tryd.ntmps27
        go_wp2_with fail
        refine (rising_any vj js _ hj hjl).mono ?_
        rintro r w1 ⟨rfl, hw1⟩
        have hk1 := Drawn.keep hw1; have hz1 := Drawn.size hw1; clear hw1
        rw [HR.out]
        go_wp2_with fail
        refine (rising_any vl ls _ (hl.keep0 hk1) hll).mono ?_
        rintro r w2 ⟨rfl, hw2⟩
        have hk2 := hk1.trans0 (Drawn.keep hw2); have hz2 := Drawn.size hw2; clear hw2
        rw [HL.out]
        have hz : w2.heap.size = w.heap.size := by omega
        have HZ := Lib.hid hz; clear hz hz1 hz2 hk1
        obtain ⟨adj, capj, rfl, hj0, hj1⟩ := hj
        obtain ⟨adl, capl, rfl, hl0, hl1⟩ := hl
        have HJ1 := Lib.hid hj1; have HL1 := Lib.hid hl1; clear hj0 hl0 hj1 hl1
        go_wp2
        go_loopw [9] (fun i wr => ∃ k : Nat, k ≤ js.length ∧ i = .int .i64 k ∧ Keep [] w wr ∧ RefAt wr w2.heap.size (bitsOf 0 (js.take k)) 0 ep) (fun i _ => js.length - (intOf i).toNat)
        case atStart => exact ⟨0, Nat.zero_le _, rfl, hk2.alloc _, RefAt.new ep (heap_alloc_new w2 _)⟩
        case round =>
          obtain ⟨k, hk, rfl, hkw, hR⟩ := hrel
          by_cases hlt : k < js.length
          · obtain ⟨b, off, rfl, hc⟩ := HJ1.out (by omega)
            have hcell : wr.cell? ⟨b, off + k, none⟩ = some (.int .i64 js[k]) := hkw.cellv (hc k _ (by rw [List.getElem?_map, List.getElem?_eq_getElem hlt]; rfl)) (by simp)
            have hs := HSJ.out js[k] (List.getElem_mem hlt)
            have hst := bitsOf_take js k hlt hs
            generalize js[k] = x at *
            have hs1 := (site_yes hs).1
            have hs2 := (site_yes hs).2
            have hcx := hR.cj x.toNat (by omega)
            have hfx := hR.fr x.toNat
            have hszw := hR.lt
            have HKW := Lib.hid hkw; have HRR := Lib.hid hR; have HS := Lib.hid hs; have HST := Lib.hid hst; have HC := Lib.hid hc
            clear hkw hR hs hst hc
            go_wp2
            go_region
            go_wp2
            go_roundw
            case rel => exact ⟨k + 1, hlt, by go_num, (HKW.out.setCell (by right; simp; have := HZ.out; omega) _).drew, by rw [HST.out]; exact ⟨(HRR.out.setJ HS.out).blk⟩⟩
            case measure => simp [intOf]; omega
          · obtain rfl : k = js.length := by omega
            rw [List.take_of_length_le (Nat.le_refl _)] at hR
            clear hlt hk
            go_wp2
            go_loopw [10] (fun i wr => ∃ k : Nat, k ≤ ls.length ∧ i = .int .i64 k ∧ Keep [] w wr ∧ RefAt wr w2.heap.size (bitsOf 0 js) (bitsOf 0 (ls.take k)) ep) (fun i _ => ls.length - (intOf i).toNat)
            case atStart => exact ⟨0, Nat.zero_le _, rfl, hkw, hR⟩
            case round =>
              clear hkw hR
              obtain ⟨k, hk, rfl, hkw, hR⟩ := hrel
              by_cases hlt : k < ls.length
              · obtain ⟨b, off, rfl, hc⟩ := HL1.out (by omega)
                have hcell : wr.cell? ⟨b, off + k, none⟩ = some (.int .i64 ls[k]) := hkw.cellv (hc k _ (by rw [List.getElem?_map, List.getElem?_eq_getElem hlt]; rfl)) (by simp)
                have hs := HSL.out ls[k] (List.getElem_mem hlt)
                have hst := bitsOf_take ls k hlt hs
                generalize ls[k] = x at *
                have hs1 := (site_yes hs).1
                have hs2 := (site_yes hs).2
                have hcx := hR.cl x.toNat (by omega)
                have hfx := hR.fr (17 + x.toNat)
                have hszw := hR.lt
                have HKW := Lib.hid hkw; have HRR := Lib.hid hR; have HS := Lib.hid hs; have HST := Lib.hid hst; have HC := Lib.hid hc
                clear hkw hR hs hst hc
                go_wp2
                go_region
                go_wp2
                go_roundw
                case rel => exact ⟨k + 1, hlt, by go_num, (HKW.out.setCell (by right; simp; have := HZ.out; omega) _).drew, by rw [HST.out]; exact ⟨(HRR.out.setL HS.out).blk⟩⟩
                case measure => simp [intOf]; omega
              · obtain rfl : k = ls.length := by omega
                rw [List.take_of_length_le (Nat.le_refl _)] at hR
                clear hlt hk
                obtain ⟨w5, rfl⟩ : ∃ w5 : World, w5 = wr := ⟨_, rfl⟩
                have HKW := Lib.hid hkw; clear hkw
                generalize hje : bitsOf 0 js = J at *
                generalize hle : bitsOf 0 ls = L at *
                have HJE := Lib.hid hje; have HLE := Lib.hid hle; clear hje hle
                go_wp2
                go_loop [11, 12] (fun c i => ∃ k : Nat, k ≤ 16 ∧ i = .int .i64 ((k : Int) + 1) ∧ c = .int .i64 (bothN (J &&& L) k : Int)) (fun _ i => 17 - (intOf i).toNat)
                case atStart => exact ⟨0, by omega, rfl, by unfold bothN; rw [upList_zero]; rfl⟩
                case round =>
                  obtain ⟨k, hk, rfl, rfl⟩ := hrel
                  have hlen : bothN (J &&& L) k ≤ k + 1 := upList_len (fun i => (J &&& L).testBit i) k
                  by_cases hlt : k < 16
                  · have hcj := hR.cj (k + 1) (by omega)
                    have hcl := hR.cl (k + 1) (by omega)
                    have hup := upList_succ (fun i => (J &&& L).testBit i) k
                    rw [Nat.testBit_and] at hup
                    have HUP := Lib.hid hup; clear hup
                    cases hb : J.testBit (k + 1)
                    · rw [hb] at hcj
                      have HU2 := Lib.hid (show bothN (J &&& L) (k + 1) = bothN (J &&& L) k by unfold bothN; rw [HUP.out, hb]; simp)
                      go_wp2
                      go_round
                      case rel => exact ⟨k + 1, by omega, by go_num, by rw [HU2.out]⟩
                      case measure => simp [intOf]; omega
                    · rw [hb] at hcj
                      cases hb2 : L.testBit (k + 1)
                      · rw [hb2] at hcl
                        have HU2 := Lib.hid (show bothN (J &&& L) (k + 1) = bothN (J &&& L) k by unfold bothN; rw [HUP.out, hb2]; simp)
                        go_wp2
                        go_round
                        case rel => exact ⟨k + 1, by omega, by go_num, by rw [HU2.out]⟩
                        case measure => simp [intOf]; omega
                      · rw [hb2] at hcl
                        have HU2 := Lib.hid (show bothN (J &&& L) (k + 1) = bothN (J &&& L) k + 1 by unfold bothN; rw [HUP.out, hb, hb2]; simp)
                        go_wp2
                        go_round
                        case rel => exact ⟨k + 1, by omega, by go_num, by rw [HU2.out]; go_num⟩
                        case measure => simp [intOf]; omega
                  · obtain rfl : k = 16 := by omega
                    have hbe : bothN (J &&& L) 16 = popC (J &&& L) := by unfold bothN popC; rw [upList_16 _ (by rw [Nat.testBit_and, HJ0.out]; rfl)]
                    rw [hbe]
                    have hpa := popC_le (J &&& L)
                    have hpl := popC_le (butNot J L)
                    clear hlen hlt hk hbe
                    go_wp2_with fail
                    refine (rmembers_any w2.heap.size J L ep _ hR hJ hL HJ0.out).mono ?_
                    rintro r w6 ⟨v, rfl, h61, h62, h63⟩
                    obtain ⟨adm, capm, rfl⟩ := (SlAt.of_owns h61).empty
                    have hpc : (bitList (butNot J L)).length = popC (butNot J L) := rfl
                    rw [hpc]
                    have hR6 := hR.keep h62 (by simp)
                    have hK6 := HKW.out.trans0 h62
                    have HR6 := Lib.hid hR6; have HK6 := Lib.hid hK6
                    clear h61 h62 h63 hR hR6 hK6 hpc
                    generalize popC (butNot J L) = p at *
                    generalize popC (J &&& L) = q at *
                    by_cases c1 : ep - (p : Int) < 0
                    · have HE := Lib.hid (show loadErr js ls ep = 6 by rw [HD.out, if_neg (by omega)])
                      go_wp2
                      go_ret2
                      exact rload_bad js ls ep _ _ HK6.out 6 (by decide) HE.out
                    · by_cases c2 : (ep - (p : Int)) % 2 = 0
                      · have c2' : ((ep - (p : Int)) % 2 != 0) = false := by simp [c2]
                        have C2 := Lib.hid c2; clear c2
                        by_cases c3 : 2 * (q : Int) < ep - (p : Int)
                        · have HE := Lib.hid (show loadErr js ls ep = 6 by rw [HD.out, if_neg (by have := C2.out; omega)])
                          go_wp2
                          go_ret2
                          exact rload_bad js ls ep _ _ HK6.out 6 (by decide) HE.out
                        · have HE := Lib.hid (show loadErr js ls ep = 0 by rw [HD.out, if_pos ⟨by omega, C2.out, by omega⟩])
                          go_wp2
                          go_ret2
                          exact ⟨HK6.out, .inl ⟨HE.out, _, by have := HZ.out; omega, rfl, by rw [HJE.out, HLE.out]; exact HR6.out⟩⟩
                      · have c2' : ((ep - (p : Int)) % 2 != 0) = true := by simp [c2]
                        have HE := Lib.hid (show loadErr js ls ep = 6 by rw [HD.out, if_neg (by omega)])
                        clear c2
                        go_wp2
                        go_ret2
                        exact rload_bad js ls ep _ _ HK6.out 6 (by decide) HE.out
end Go.Proofs.YtfhgeanacecpjaaDoor
