/-
  Walk of the reference's Breaks.
-/
import Derived.Test.YthbcancckogloaaGlyY
import Derived.Test.YthbcancckogloaaClmB
import Derived.Test.YthbcancckogloaaClmI
import Derived.Test.YthbcancckogloaaClmQ
import Derived.Laws.OwnMore
namespace Go.Proofs.Ythbcancckogloaa
open Go.RowKit
set_option linter.unusedVariables false
set_option linter.unusedSimpArgs false

theorem info_intb : (Try.prog.info? 3).map (fun i => (i.zero, i.size, i.bytes)) = some (some (.int .i64 0), 1, 8) := by kernel_rfl
/-- The classes of a text's pieces. -/
def clsL (s : ByteArray) (l : List Nat) : List Int := l.map (clsAt s)
theorem clsL_rev (s : ByteArray) (l : List Nat) : (clsL s l).reverse = ctx s l := rfl
theorem clsL_range (s : ByteArray) (l : List Nat) : ∀ x ∈ clsL s l, 0 ≤ x ∧ x ≤ 12 := by
  intro x hx
  obtain ⟨i, _, rfl⟩ := List.mem_map.1 hx
  exact cls_range _
theorem cls32b {s : ByteArray} {i : Nat} (hi : i < s.size) : -2147483648 ≤ (((dec s i).1 : Nat) : Int) ∧ (((dec s i).1 : Nat) : Int) ≤ 2147483647 := by
  have := dec_le hi; omega
theorem clsAt_bad {s : ByteArray} {i : Nat} (hi : i < s.size) (h : isB s i = false) : clsAt s i = 0 := by
  have hw : wid s i = 0 := by unfold isB at h; simpa using h
  unfold clsAt
  rw [dec_of_wid hi hw]
  exact cls_bad
def ints (l : List Nat) : List Value := l.map fun p => .int .i64 (p : Nat)
theorem ints_len (l : List Nat) : (ints l).length = l.length := by simp [ints]
/-- What has been found ahead of the piece i + 1. -/
def outB (s : ByteArray) (i : Nat) : List Nat := if s.size = 0 then [0] else ((cut s 0).take (i + 1)).filter (isb s)
theorem outB_zero (s : ByteArray) : outB s 0 = [0] := by
  unfold outB
  split
  · rfl
  · rename_i h
    rw [cut_step (by omega)]
    simp [isb_zero]
theorem outB_step {s : ByteArray} {i p : Nat} (h : (cut s 0)[i + 1]? = some p) : outB s (i + 1) = if isb s p = true then outB s i ++ [p] else outB s i := by
  have hs : s.size ≠ 0 := by
    have := (List.getElem?_eq_some_iff.1 h).1
    have := cut_len_le s 0 (Nat.zero_le _)
    omega
  unfold outB
  rw [if_neg hs, if_neg hs, List.take_add_one (i := i + 1), h]
  by_cases hi : isb s p = true
  · simp [hi]
  · simp [hi]
theorem outB_end {s : ByteArray} {i : Nat} (h : (cut s 0).length ≤ i + 1) : brk s = if s.size = 0 then outB s i else outB s i ++ [s.size] := by
  unfold brk outB
  split
  · rfl
  · rw [List.take_of_length_le h]
theorem isb_bt {s : ByteArray} {i p : Nat} (h : (cut s 0)[i + 1]? = some p) : isb s p = bt ((clsL s (cut s 0)).take (i + 1)).reverse ((clsL s (cut s 0))[i + 1]?.getD 0) := by
  obtain ⟨hk, rfl⟩ := List.getElem?_eq_some_iff.1 h
  rw [isb_at (at_get s (i + 1) hk).1]
  unfold clsL
  rw [← List.map_take, List.getElem?_map, h]
  rfl
theorem outB_len (s : ByteArray) (i : Nat) : (outB s i).length ≤ i + 1 := by
  unfold outB
  split
  · simp
  · refine Nat.le_trans (List.length_filter_le _ _) ?_
    rw [List.length_take]; omega

theorem owns_some {w : World} {base : Nat} {e : TypeId} {sz n : Nat} {v : Value} {xs : List Value} (h : w.ownsRow base e sz v n xs) (hn : n ≠ 0) : v ≠ .slice none 0 0 := by
  rcases h.2 with ⟨_, h0⟩ | ⟨g, cap, cur, rfl, _⟩
  · exact absurd h0 hn
  · intro h; cases h
set_option maxHeartbeats 16000000 in
theorem rbreaks_any (s : ByteArray) (w : World) (hz : s.size ≤ 1073741823) :
    Calls Try.prog 14 #[.string s] w (NewSl 3 1 (brk s).length (ints (brk s)) w) := by
  have hcl := cut_len_le s 0 (Nat.zero_le _)
  obtain ⟨i0, hi, hz0, hz1, hz2⟩ := info_parts info_intb
  have HI := Lib.hid hi; have HZ0 := Lib.hid hz0; have HZ1 := Lib.hid hz1; have HZ2 := Lib.hid hz2
  clear hi hz0 hz1 hz2
  go_enter Try.func14, Try.ntmps14
  go_wp2_with fail
  refine (pieces_any s w (by omega)).mono ?_
  rintro r w1 ⟨v, rfl, ho, hk, _⟩
  have hpc := PcAt.of_owns ho
  obtain ⟨ad, cap, rfl, hc⟩ := PcAt.of_owns ho
  have HP := Lib.hid hc
  have HK := Lib.hid hk; clear hk ho hc hpc
  obtain ⟨n, hn⟩ : ∃ n, n = (cut s 0).length := ⟨_, rfl⟩
  rw [← hn] at hcl HP ⊢
  have HNN := Lib.hid hn; clear hn
  go_wp2
  go_loopw [4, 5] (fun v i wr => ∃ k : Nat, k ≤ n ∧ i = .int .i64 k ∧ wr.ownsRow w1.heap.size 3 1 v k ((clsL s ((cut s 0).take k)).map (.int .i64)) ∧ Keep [] w1 wr) (fun _ i _ => n - (intOf i).toNat)
  case atStart => exact ⟨0, by omega, rfl, World.ownsRow_nil _ _ _ _, Keep.refl _ _⟩
  case round =>
    obtain ⟨k, hkn, rfl, hown, hk⟩ := hrel
    have HO := Lib.hid hown; have HK1 := Lib.hid hk; clear hown hk
    by_cases hlt : k < n
    · have hltd : decide (k < n) = true := by simpa using hlt
      obtain ⟨b, off, rfl, hcs⟩ := HP.out (by omega)
      have hkl : k < (cut s 0).length := by rw [← HNN.out]; exact hlt
      have hke := List.getElem?_eq_getElem hkl
      have hps := (at_get s k hkl).2
      obtain ⟨c0, c1, c2, c3⟩ := hcs k _ hke
      have d1 := HK1.out.cellv c1 (by simp)
      have d3 := HK1.out.cellv c3 (by simp)
      have htk : (clsL s ((cut s 0).take (k + 1))).map (Value.int .i64) = (clsL s ((cut s 0).take k)).map (.int .i64) ++ [.int .i64 (clsAt s (cut s 0)[k])] := by
        rw [List.take_add_one, hke]; unfold clsL; rw [List.map_append, List.map_append]; rfl
      have HTK := Lib.hid htk
      obtain ⟨r0, r1⟩ := cls32b hps
      have HC := Lib.hid (show cls (dec s (cut s 0)[k]).1 = clsAt s (cut s 0)[k] from rfl)
      have HBAD := Lib.hid (fun h => clsAt_bad hps h)
      have HB3 := Lib.hid c3
      clear c0 c1 c2 c3 hcs hke htk
      generalize (dec s (cut s 0)[k]).1 = r1 at *
      generalize isB s (cut s 0)[k] = bb at *
      generalize clsAt s (cut s 0)[k] = cc at *
      generalize (cut s 0)[k] = p at *
      go_wp2_with fail
      refine (rclass_any _ _ r0 r1).mono ?_
      rintro r w2 ⟨rfl, hk2⟩
      rw [HC.out]
      have HO2 := Lib.hid (hk2.owns HO.out (by simp)); have HK2 := Lib.hid (HK1.out.trans0 hk2)
      have d3 := hk2.cellv d3 (by simp)
      have hsz := HK2.out.size
      clear hk2 HC
      cases bb with
      | true =>
        go_wp2_with (with_reducible refine park_append 29 31 _ rfl ?_)
        refine wpList_append_mine _ rfl (.tmp 29) (.tmp 31) 27 rfl w1.heap.size 3 i0 (.int .i64 0) 1 8 Try.underlying27 HI.out HZ0.out HZ1.out HZ2.out rfl (by decide) _ k _ rfl (HO2.out.alloc _) ⟨w2.heap.size, 0, none⟩ 1 1 [.int .i64 cc] rfl rfl (cell_new_row _ _ _) (by simp [Value.oneCell']) (by unfold maxLen; omega) (by omega) (by simp; omega) ?_
        intro v' W3 hp2
        have hfin := Lib.hid (own_next HO2.out HK2.out ((Keep.refl _ _).alloc _) hp2 (by omega)); clear hp2
        go_wp2
        exact ⟨⟨k + 1, by omega, by go_num, by rw [HTK.out]; exact hfin.out.1, hfin.out.2.1⟩, by simp [intOf]; omega⟩
      | false =>
        have h0 := HBAD.out rfl
        rw [h0] at HTK
        clear h0
        go_wp2_with (with_reducible refine park_append 29 31 _ rfl ?_)
        refine wpList_append_mine _ rfl (.tmp 29) (.tmp 31) 27 rfl w1.heap.size 3 i0 (.int .i64 0) 1 8 Try.underlying27 HI.out HZ0.out HZ1.out HZ2.out rfl (by decide) _ k _ rfl (HO2.out.alloc _) ⟨w2.heap.size, 0, none⟩ 1 1 [.int .i64 0] rfl rfl (cell_new_row _ _ _) (by simp [Value.oneCell']) (by unfold maxLen; omega) (by omega) (by simp; omega) ?_
        intro v' W3 hp2
        have hfin := Lib.hid (own_next HO2.out HK2.out ((Keep.refl _ _).alloc _) hp2 (by omega)); clear hp2
        go_wp2
        exact ⟨⟨k + 1, by omega, by go_num, by rw [HTK.out]; exact hfin.out.1, hfin.out.2.1⟩, by simp [intOf]; omega⟩
    · have hltd : decide (k < n) = false := by simpa using hlt
      obtain rfl : k = n := by omega
      rename World => w2
      have hsl := SlAt.of_owns HO.out
      rw [List.take_of_length_le (by rw [HNN.out]; exact Nat.le_refl _)] at hsl
      have hcln : (clsL s (cut s 0)).length = k := by rw [HNN.out]; simp [clsL]
      have HSL := Lib.hid hsl; have HCN := Lib.hid hcln
      obtain ⟨lad, lcap, rfl⟩ := hsl.empty
      clear hsl hcln hlt hltd
      have hsz := HK1.out.size
      have hout0 := World.ownsRow_lit (base := w2.heap.size) (e := 3) (size := 1) w2 #[.int .i64 0] 1 (Nat.le_refl _) (by decide) rfl
      have HOUT0 := Lib.hid hout0; clear hout0
      go_wp2
      go_loopw [7, 8] (fun v i wr => ∃ j : Nat, j ≤ k ∧ i = .int .i64 j ∧ wr.ownsRow w2.heap.size 3 1 v (outB s j).length (ints (outB s j)) ∧ Keep [] w2 wr) (fun _ i _ => k - (intOf i).toNat)
      case atStart => exact ⟨0, by omega, rfl, by rw [outB_zero]; exact HOUT0.out, (Keep.refl _ _).alloc _⟩
      case round =>
        clear HOUT0
        obtain ⟨j, hj, rfl, hown, hk⟩ := hrel
        have HOO := Lib.hid hown; have HK3 := Lib.hid hk; clear hown hk
        by_cases hlt : j + 1 < k
        · have hltd : decide ((j : Int) + 1 < (k : Int)) = true := by simp; omega
          have hjl : j + 1 < (cut s 0).length := by rw [← HNN.out]; exact hlt
          have hke := List.getElem?_eq_getElem hjl
          obtain ⟨b, off, rfl, hcs⟩ := HP.out (by omega)
          obtain ⟨c0, _, _, _⟩ := hcs _ _ hke
          have hib := isb_bt hke
          have hst := outB_step hke
          have hbt := between_any _ (clsL s (cut s 0)) j wr (by rw [HCN.out]; exact HSL.out.keep0 HK3.out) (by rw [HCN.out]; omega) (by rw [HCN.out]; exact hlt) (clsL_range _ _)
          rw [← hib] at hbt
          have hol := outB_len s j
          generalize (cut s 0)[j + 1] = p at *
          have d0 := HK3.out.cellv (HK1.out.cellv c0 (by simp)) (by simp)
          have HBT := Lib.hid hbt
          clear hcs c0 hke hib hbt
          have hsz := HK3.out.size
          cases hbb : isb s p with
          | true =>
            rw [hbb] at HBT hst
            rw [if_pos rfl] at hst
            have HST := Lib.hid hst
            clear hst hbb
            obtain ⟨m, hm⟩ : ∃ m, m = (outB s j).length := ⟨_, rfl⟩
            rw [← hm] at HOO hol
            have HM := Lib.hid hm; clear hm
            go_wp2_with fail
            refine HBT.out.mono ?_
            rintro r w4 ⟨rfl, rfl⟩
            go_wp2_with (with_reducible refine park_append 44 51 _ rfl ?_)
            refine wpList_append_mine _ rfl (.tmp 44) (.tmp 51) 27 rfl w2.heap.size 3 i0 (.int .i64 0) 1 8 Try.underlying27 HI.out HZ0.out HZ1.out HZ2.out rfl (by decide) _ m _ rfl (HOO.out.alloc _) ⟨wr.heap.size, 0, none⟩ 1 1 [.int .i64 p] rfl rfl (cell_new_row _ _ _) (by simp [Value.oneCell']) (by unfold maxLen; omega) (by omega) (by simp; omega) ?_
            intro v' W3 hp2
            have hfin := Lib.hid (own_next HOO.out HK3.out ((Keep.refl _ _).alloc _) hp2 (by omega)); clear hp2
            go_wp2
            exact ⟨⟨j + 1, by omega, by go_num, by rw [HST.out, List.length_append, ← HM.out]; simpa [ints] using hfin.out.1, hfin.out.2.1⟩, by simp [intOf]; omega⟩
          | false =>
            rw [hbb] at HBT hst
            rw [if_neg (by decide)] at hst
            have HST := Lib.hid hst
            clear hst hbb
            go_wp2_with fail
            refine HBT.out.mono ?_
            rintro r w4 ⟨rfl, rfl⟩
            go_wp2
            exact ⟨⟨j + 1, by omega, by go_num, by rw [HST.out]; exact HOO.out, HK3.out⟩, by simp [intOf]; omega⟩
        · have hltd : decide ((j : Int) + 1 < (k : Int)) = false := by simp; omega
          have hend := outB_end (s := s) (i := j) (by rw [← HNN.out]; omega)
          have hol := outB_len s j
          have hsz := HK3.out.size
          have hkw : Keep [] w wr := (HK.out.trans0 HK1.out).trans0 HK3.out
          have HKW := Lib.hid hkw
          obtain ⟨m, hm⟩ : ∃ m, m = (outB s j).length := ⟨_, rfl⟩
          rw [← hm] at HOO hol
          have hb0 : w.heap.size ≤ w2.heap.size := ((HK.out.trans0 HK1.out)).size
          have HB0 := Lib.hid hb0
          by_cases hs0 : s.size = 0
          · have hd : decide (0 < s.size) = false := decide_eq_false (by omega)
            rw [if_pos hs0] at hend
            have hm1 : m ≠ 0 := by
              have : outB s j = [0] := by unfold outB; rw [if_pos hs0]
              rw [this] at hm; simp at hm; omega
            have HEND := Lib.hid hend; have HM := Lib.hid hm; have HM1 := Lib.hid hm1
            clear hend hm hs0 hkw hm1 hb0
            go_wp2
            go_ret
            refine ⟨_, rfl, ?_, HKW.out, ?_⟩
            · rw [HEND.out, ← HM.out]; exact owns_mono HOO.out HB0.out
            · rw [HEND.out, ← HM.out]
              exact ⟨fun h => absurd h (owns_some HOO.out HM1.out), fun h => absurd h HM1.out⟩
          · have hd : decide (0 < s.size) = true := decide_eq_true (by omega)
            rw [if_neg hs0] at hend
            have HEND := Lib.hid hend; have HM := Lib.hid hm
            clear hend hm hs0 hkw hb0
            go_wp2_with (with_reducible refine park_append 56 59 _ rfl ?_)
            refine wpList_append_mine _ rfl (.tmp 56) (.tmp 59) 27 rfl w2.heap.size 3 i0 (.int .i64 0) 1 8 Try.underlying27 HI.out HZ0.out HZ1.out HZ2.out rfl (by decide) _ m _ rfl (HOO.out.alloc _) ⟨wr.heap.size, 0, none⟩ 1 1 [.int .i64 s.size] rfl rfl (cell_new_row _ _ _) (by simp [Value.oneCell']) (by unfold maxLen; omega) (by omega) (by simp; omega) ?_
            intro v' W3 hp2
            have hfin := Lib.hid (own_next HOO.out HK3.out ((Keep.refl _ _).alloc _) hp2 (by omega)); clear hp2
            go_wp2
            go_ret
            refine ⟨_, rfl, ?_, (HK.out.trans0 HK1.out).trans0 hfin.out.2.1, ?_⟩
            · rw [HEND.out, List.length_append, ← HM.out]
              have := hfin.out.1
              simpa [ints] using owns_mono this HB0.out
            · rw [HEND.out, List.length_append, ← HM.out]
              exact ⟨fun h => absurd h (owns_some hfin.out.1 (by omega)), fun h => by simp at h⟩
end Go.Proofs.Ythbcancckogloaa
