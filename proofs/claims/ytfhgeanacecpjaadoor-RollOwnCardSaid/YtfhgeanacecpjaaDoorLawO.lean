/-
  RollOwn, walked.
-/
import Derived.Test.YtfhgeanacecpjaaDoorOwn
namespace Go.Proofs.YtfhgeanacecpjaaDoor
open Go.RowKit Go.Shelf
set_option linter.unusedVariables false

set_option maxRecDepth 100000 in
set_option maxHeartbeats 8000000 in
theorem rollOwn_walk (va : Value) (xs : List (Bool × Int)) (w : World) (ha : StepsAt w va xs) (hT : TabW w) :
    Calls Tryd.prog 4 #[va] w fun e W' => e = .returned (.bool true) ∧ Keep [] w W' := by
  have HT := Lib.hid hT; clear hT
  obtain ⟨ada, ca, rfl, h1, _⟩ := ha
  have H1 := Lib.hid h1; clear h1
  by_cases hx : xs.length ≤ 300
  · have hx' : decide ((300 : Int) < (xs.length : Int)) = false := by simp; omega
    obtain ⟨i0, hi, hz0, hz1, hz2⟩ := info_parts info_int
    have HI0 := Lib.hid hi; have HZ0 := Lib.hid hz0; have HZ1 := Lib.hid hz1; have HZ2 := Lib.hid hz2
    clear hi hz0 hz1 hz2
    go_enter Tryd.func4, Tryd.ntmps4
    go_wp2_with fail
    refine (new_any w).mono ?_
    rintro r w1 ⟨rfl, hw1⟩
    have hr1 : RollS w1 w.heap.size (0, 0, 0) := by rw [hw1]; exact ⟨by decide, by decide, heap_alloc_new w _⟩
    have hk1 : Keep [] w w1 := by rw [hw1]; exact (Keep.refl _ _).alloc _
    clear hw1
    obtain ⟨a, hae⟩ : ∃ a, a = w.heap.size := ⟨_, rfl⟩
    rw [← hae] at hr1 ⊢
    have HA := Lib.hid (show w.heap.size ≤ a by omega)
    have R1 := Lib.hid hr1; have K1 := Lib.hid hk1; clear hr1 hk1 hae
    go_wp2
    go_loopw [4] (fun i wr => ∃ k : Nat, k ≤ xs.length ∧ i = .int .i64 k ∧ RollS wr a (runS (0, 0, 0) (xs.take k)) ∧ Keep [] w wr) (fun i _ => xs.length - (intOf i).toNat)
    case atStart => exact ⟨0, Nat.zero_le _, rfl, R1.out, K1.out⟩
    case round =>
      clear R1 K1
      obtain ⟨k, hk, rfl, hB, hK⟩ := hrel
      have HB := Lib.hid hB; have HK := Lib.hid hK; clear hB hK
      have HI := Lib.hid (Inv.new.run (xs.take k))
      by_cases hlt : k < xs.length
      · obtain ⟨bs, off, rfl, hcs⟩ := H1.out (by omega)
        obtain ⟨c1, c2⟩ := ElemsAt.cells2 hcs HK.out k hlt
        have htake := List.take_succ_eq_append_getElem hlt
        have HTK := Lib.hid htake; have HCS := Lib.hid hcs; clear htake hcs
        have hst := do_s a _ xs[k] wr HB.out HI.out
        generalize xs[k] = x at *
        have HST := Lib.hid hst; clear hst
        go_wp2_with fail
        refine HST.out.mono ?_
        rintro r w3 ⟨rfl, hB3, hk3⟩
        have HB3 := Lib.hid hB3; have HK3 := Lib.hid (HK.out.trans hk3 (by have := HA.out; simp; omega)); clear hB3 hk3
        go_wp2
        go_roundw
        case rel => exact ⟨k + 1, hlt, by go_num, by rw [HTK.out, runS_snoc]; exact HB3.out, HK3.out⟩
        case measure => simp [intOf]; omega
      · obtain rfl : k = xs.length := by omega
        clear hlt hk
        generalize runS (0, 0, 0) (xs.take xs.length) = s at *
        go_wp2_with fail
        refine (members_any a _ _ _ wr HB.out (HT.out.keep HK.out (by simp))).mono ?_
        intro r w4 q1
        obtain ⟨vx, rfl, hs4, hk4⟩ := q1.sl
        have SX := Lib.hid hs4; have K4 := Lib.hid (HK.out.trans0 hk4); have R4 := Lib.hid (HB.out.keep hk4 (by simp)); clear q1 hs4 hk4 HB HK
        go_wp2_with fail
        refine (joined_any a _ _ _ w4 R4.out (HT.out.keep K4.out (by simp))).mono ?_
        intro r w5 q1
        obtain ⟨vy, rfl, hs5, hk5⟩ := q1.sl
        have SX5 := Lib.hid (SX.out.keep0 hk5); have SY := Lib.hid hs5; have K5 := Lib.hid (K4.out.trans0 hk5); have R5 := Lib.hid (R4.out.keep hk5 (by simp)); clear q1 hs5 hk5 SX R4 K4
        go_wp2_with fail
        refine (left_any a _ _ _ w5 R5.out (HT.out.keep K5.out (by simp))).mono ?_
        intro r w6 q1
        obtain ⟨vz, rfl, hs6, hk6⟩ := q1.sl
        have SX6 := Lib.hid (SX5.out.keep0 hk6); have SY6 := Lib.hid (SY.out.keep0 hk6); have SZ6 := Lib.hid hs6; have K6 := Lib.hid (K5.out.trans0 hk6); have R6 := Lib.hid (R5.out.keep hk6 (by simp)); clear q1 hs6 hk6 SX5 SY R5 K5
        go_wp2_with fail
        refine (members_any a _ _ _ w6 R6.out (HT.out.keep K6.out (by simp))).mono ?_
        intro r w7 q1
        obtain ⟨a1, c1, rfl, hm1, hk7⟩ := (Many.nil w6 w6.heap.size).told' (Nat.le_refl _) q1
        have M1 := Lib.hid hm1; have KX1 := Lib.hid hk7; clear q1 hm1 hk7
        go_wp2_with fail
        refine (members_any a _ _ _ w7 (R6.out.keep KX1.out (by simp)) (HT.out.keep (K6.out.trans0 KX1.out) (by simp))).mono ?_
        intro r w8 q1
        obtain ⟨a2, c2, rfl, hm1, hk7⟩ := M1.out.told' KX1.out.size q1
        have M2 := Lib.hid hm1; have KX2 := Lib.hid (KX1.out.trans0 hk7); clear q1 hm1 hk7 M1 KX1
        go_wp2_with fail
        refine (joined_any a _ _ _ w8 (R6.out.keep KX2.out (by simp)) (HT.out.keep (K6.out.trans0 KX2.out) (by simp))).mono ?_
        intro r w9 q1
        obtain ⟨a3, c3, rfl, hm1, hk7⟩ := M2.out.told' KX2.out.size q1
        have M3 := Lib.hid hm1; have KX3 := Lib.hid (KX2.out.trans0 hk7); clear q1 hm1 hk7 M2 KX2
        go_wp2_with fail
        refine (joined_any a _ _ _ w9 (R6.out.keep KX3.out (by simp)) (HT.out.keep (K6.out.trans0 KX3.out) (by simp))).mono ?_
        intro r w10 q1
        obtain ⟨a4, c4, rfl, hm1, hk7⟩ := M3.out.told' KX3.out.size q1
        have M4 := Lib.hid hm1; have KX4 := Lib.hid (KX3.out.trans0 hk7); clear q1 hm1 hk7 M3 KX3
        go_wp2_with fail
        refine (left_any a _ _ _ w10 (R6.out.keep KX4.out (by simp)) (HT.out.keep (K6.out.trans0 KX4.out) (by simp))).mono ?_
        intro r w11 q1
        obtain ⟨a5, c5, rfl, hm1, hk7⟩ := M4.out.told' KX4.out.size q1
        have M5 := Lib.hid hm1; have KX5 := Lib.hid (KX4.out.trans0 hk7); clear q1 hm1 hk7 M4 KX4
        go_wp2_with fail
        refine (left_any a _ _ _ w11 (R6.out.keep KX5.out (by simp)) (HT.out.keep (K6.out.trans0 KX5.out) (by simp))).mono ?_
        intro r w12 q1
        obtain ⟨a6, c6, rfl, hm1, hk7⟩ := M5.out.told' KX5.out.size q1
        have M6 := Lib.hid hm1; have KX6 := Lib.hid (KX5.out.trans0 hk7); clear q1 hm1 hk7 M5 KX5
        go_wp2
        have hP : OwnP w6 w12.heap.size 0 (w12.alloc (Obj.cells #[.slice a1 (bitList (butNot s.1 s.2.1)).length c1, .slice a2 (bitList (butNot s.1 s.2.1)).length c2, .slice a3 (bitList s.1).length c3, .slice a4 (bitList s.1).length c4, .slice a5 (bitList s.2.1).length c5, .slice a6 (bitList s.2.1).length c6] 32)) := ⟨_, _, Six.made (n := 6) M6.out KX6.out.size rfl (by decide) rfl, fun i ys h => by omega, fun i ys _ h => by
          have h1 := bitList_len (butNot s.1 s.2.1); have h2 := bitList_len s.1; have h3 := bitList_len s.2.1
          have hm := List.mem_of_getElem? h
          simp at hm
          rcases hm with rfl | rfl | rfl <;> assumption, KX6.out.alloc _⟩
        generalize (w12.alloc (Obj.cells #[.slice a1 (bitList (butNot s.1 s.2.1)).length c1, .slice a2 (bitList (butNot s.1 s.2.1)).length c2, .slice a3 (bitList s.1).length c3, .slice a4 (bitList s.1).length c4, .slice a5 (bitList s.2.1).length c5, .slice a6 (bitList s.2.1).length c6] 32)) = W0 at *
        generalize w12.heap.size = L at *
        have HP := Lib.hid hP
        clear hP KX6 M6
        go_loopw [9] (fun i wr => ∃ k : Nat, k ≤ 6 ∧ i = .int .i64 k ∧ OwnP w6 L k wr) (fun i _ => 6 - (intOf i).toNat)
        case atStart => exact ⟨0, Nat.zero_le _, rfl, HP.out⟩
        case round =>
          clear HP
          obtain ⟨k, hk, rfl, hP⟩ := hrel
          by_cases hlt : k < 6
          · obtain ⟨vs, zss, ys, ad, cap, hS, q1, q2, q3, hy, hyl, hv, hg⟩ := hP.at_ hlt
            have HS := Lib.hid hS; have Q1 := Lib.hid q1; have Q2 := Lib.hid q2; have Q3 := Lib.hid q3; have HY := Lib.hid hy; have HV := Lib.hid hv; have HG := Lib.hid hg
            have hcL := hS.cell hv
            clear hS q1 q2 q3 hy hv hg hP
            go_wp2
            go_loopw [10] (fun i wr' => ∃ j : Nat, j ≤ ys.length ∧ i = .int .i64 j ∧ Six wr' w6.heap.size L 6 vs (zss.set k (over ys (100 + (k : Int)) j)) ∧ Keep [] w6 wr') (fun i _ => ys.length - (intOf i).toNat)
            case atStart => exact ⟨0, Nat.zero_le _, rfl, by rw [over_zero, List.set_getElem?_self' HY.out]; exact HS.out, Q3.out⟩
            case round =>
              clear HS Q3 hcL
              obtain ⟨j, hj, rfl, hS, hK⟩ := hrel
              have HS := Lib.hid hS; have HK := Lib.hid hK; clear hS hK
              have hyk : (zss.set k (over ys (100 + (k : Int)) j))[k]? = some (over ys (100 + (k : Int)) j) := List.getElem?_set_self (List.getElem?_eq_some_iff.1 HY.out).1
              have HYK := Lib.hid hyk; clear hyk
              have hol := Lib.hid (over_len ys (100 + (k : Int)) j hj)
              have hcL := HS.out.cell HV.out
              by_cases hjl : j < ys.length
              · obtain ⟨g, rfl⟩ := HG.out (by omega)
                obtain ⟨c1, c2⟩ := HS.out.rowCell HV.out HYK.out hol.out j hjl
                go_wp2
                refine ⟨?rel, ?measure⟩
                case rel =>
                  obtain ⟨s1, s2⟩ := HS.out.stored HV.out HYK.out hol.out j (100 + (k : Int))
                  rw [List.set_set, over_set _ _ _ hjl] at s1
                  exact ⟨j + 1, hjl, by go_num, s1, HK.out.setCell (by right; exact s2) _⟩
                case measure => simp [intOf]; omega
              · obtain rfl : j = ys.length := by omega
                clear hjl hj
                have hS2 := HS.out.keep ((Keep.refl [] wr).alloc (Obj.cells #[Value.int IntKind.i64 (200 + (k : Int))] 3))
                have hrow := hS2.many.row k _ _ HV.out HYK.out
                have HS2 := Lib.hid hS2; have HROW := Lib.hid hrow
                clear hS2 hrow
                go_wp2_with (with_reducible refine park_append 79 82 _ rfl ?_)
                refine wpList_append_mine _ rfl (.tmp 79) (.tmp 82) 32 rfl w6.heap.size 3 i0 (.int .i64 0) 1 8 Tryd.underlying32 HI0.out HZ0.out HZ1.out HZ2.out rfl (by decide) (.slice ad ys.length cap) (over ys (100 + (k : Int)) ys.length).length _ rfl HROW.out ⟨wr.heap.size, 0, none⟩ 1 1 [.int .i64 (200 + (k : Int))] rfl rfl (cell_one_new _ _ _) (by simp [Value.oneCell']) (by rw [hol.out]; unfold maxLen; omega) (by rw [hol.out]; omega) (by have := HK.out.size; simp; omega) ?_
                intro v' w' hp
                obtain ⟨⟨c1, c2⟩, hS3, hb3⟩ := HS2.out.appended HV.out HYK.out (200 + (k : Int)) hp
                obtain ⟨ad', cap', rfl, _⟩ := owns_form hp.1
                have hK3 := (HK.out.alloc (Obj.cells #[Value.int IntKind.i64 (200 + (k : Int))] 3)).trans hp.2.1 (fun x hx => .inr (hb3 x (by simpa using hx)))
                have hge := HS2.out.ge
                rw [hol.out] at hS3 ⊢
                rw [List.set_set, over_all] at hS3
                have HS3 := Lib.hid hS3; have HK3 := Lib.hid hK3; have HGE := Lib.hid hge
                clear hS3 hK3 hge hp hb3 HS2 HROW HS HK
                go_wp2
                refine ⟨?rel, ?measure⟩
                case rel => exact ⟨k + 1, hlt, by go_num, OwnP.next hlt HS3.out hyl Q1.out Q2.out (HK3.out.setCell (by right; exact HGE.out) _)⟩
                case measure => simp [intOf]; omega
          · have hk6 : k = 6 := by omega
            have HP := Lib.hid (show OwnP w6 L 6 wr from hk6 ▸ hP); clear hP hk6
            go_wp2
            clear hlt hk
            go_loopw [11] (fun i W' => ∃ k : Nat, k ≤ 6 ∧ i = .int .i64 k ∧ W' = wr) (fun i _ => 6 - (intOf i).toNat)
            case atStart => exact ⟨0, Nat.zero_le _, rfl, rfl⟩
            case round =>
              obtain ⟨k, hk, rfl, rfl⟩ := hrel
              by_cases hlt : k < 6
              · obtain ⟨g, cap, n, hn, hcL, hcA, hcB⟩ := HP.out.done hlt
                have HCA := Lib.hid hcA; clear hcA
                have hkd : decide ((k : Int) < 6) = true := by simp; omega
                go_wp2
                go_loopw [12] (fun i W' => ∃ j : Nat, j ≤ n + 1 ∧ i = .int .i64 j ∧ W' = wr) (fun i _ => n + 1 - (intOf i).toNat)
                case atStart => exact ⟨0, Nat.zero_le _, rfl, rfl⟩
                case round =>
                  obtain ⟨j, hj, rfl, rfl⟩ := hrel
                  by_cases hjn : j < n
                  · have hcj := HCA.out j hjn
                    have h1 : (j : Int) + 1 < ((n + 1 : Nat) : Int) := by omega
                    have h2 : ((j : Int) + 1 == ((n + 1 : Nat) : Int)) = false := by simp; omega
                    have h3 : ((100 + (k : Int)) != (100 + (k : Int))) = false := by simp
                    go_wp2
                    go_roundw
                    case rel => exact ⟨j + 1, by omega, by go_num, by first | rfl | trivial⟩
                    case measure => first | (simp [intOf]; done) | (simp [intOf]; omega)
                  · by_cases hje : j = n
                    · subst hje
                      have h1 : ¬ ((j : Int) + 1 < ((j + 1 : Nat) : Int)) := by omega
                      have h2 : ((j : Int) + 1 == ((j + 1 : Nat) : Int)) = true := by simp
                      have h3 : ((200 + (k : Int)) != (200 + (k : Int))) = false := by simp
                      clear hjn
                      go_wp2
                      go_roundw
                      case rel => exact ⟨j + 1, by omega, by go_num, by first | rfl | trivial⟩
                      case measure => first | (simp [intOf]; done) | (simp [intOf]; omega)
                    · obtain rfl : j = n + 1 := by omega
                      clear hjn hje hj
                      go_wp2
                      go_roundw
                      case rel => exact ⟨k + 1, by omega, by go_num, by first | rfl | trivial⟩
                      case measure => first | (simp [intOf]; done) | (simp [intOf]; omega)
              · obtain rfl : k = 6 := by omega
                clear hlt hk
                have hKX : Keep [] w6 wr := by obtain ⟨_, _, _, _, _, h⟩ := HP.out; exact h
                have KX := Lib.hid hKX; clear hKX
                have RX := Lib.hid (R6.out.keep KX.out (by simp))
                have KK := Lib.hid (K6.out.trans0 KX.out)
                have SXX := Lib.hid (SX6.out.keep0 KX.out); have SYY := Lib.hid (SY6.out.keep0 KX.out); have SZZ := Lib.hid (SZ6.out.keep0 KX.out)
                clear SX6 SY6 SZ6 R6 K6 KX HP
                go_wp2_with fail
                refine (members_any a _ _ _ wr RX.out (HT.out.keep KK.out (by simp))).mono ?_
                intro r w13 q1
                obtain ⟨u1, rfl, hs, hkk⟩ := q1.sl
                have S1 := Lib.hid hs; have K13 := Lib.hid hkk; clear q1 hs hkk
                go_wp2_with fail
                refine (ints_any u1 vx _ _ w13 S1.out (SXX.out.keep0 K13.out) (bitList_len' _) (bitList_len' _)).mono ?_
                rintro r w14 ⟨rfl, hd⟩
                rw [sameB_self]
                have K14 := Lib.hid (K13.out.trans0 hd.keep); clear hd S1 K13
                go_wp2_with fail
                refine (joined_any a _ _ _ w14 (RX.out.keep K14.out (by simp)) (HT.out.keep (KK.out.trans0 K14.out) (by simp))).mono ?_
                intro r w15 q1
                obtain ⟨u2, rfl, hs, hkk⟩ := q1.sl
                have S1 := Lib.hid hs; have K15 := Lib.hid (K14.out.trans0 hkk); clear q1 hs hkk
                go_wp2_with fail
                refine (ints_any u2 vy _ _ w15 S1.out (SYY.out.keep0 K15.out) (bitList_len' _) (bitList_len' _)).mono ?_
                rintro r w16 ⟨rfl, hd⟩
                rw [sameB_self]
                have K16 := Lib.hid (K15.out.trans0 hd.keep); clear hd S1 K15
                go_wp2_with fail
                refine (left_any a _ _ _ w16 (RX.out.keep K16.out (by simp)) (HT.out.keep (KK.out.trans0 K16.out) (by simp))).mono ?_
                intro r w17 q1
                obtain ⟨u3, rfl, hs, hkk⟩ := q1.sl
                have S1 := Lib.hid hs; have K17 := Lib.hid (K16.out.trans0 hkk); clear q1 hs hkk
                go_wp2_with fail
                refine (ints_any u3 vz _ _ w17 S1.out (SZZ.out.keep0 K17.out) (bitList_len' _) (bitList_len' _)).mono ?_
                rintro r w18 ⟨rfl, hd⟩
                rw [sameB_self]
                have K18 := Lib.hid (KK.out.trans0 (K17.out.trans0 hd.keep)); clear hd S1 K17
                go_wp2_with fail
                refine (known_true w18 (HT.out.keep K18.out (by simp))).mono ?_
                rintro r w19 ⟨rfl, hk⟩
                go_wp2
                go_ret
                exact ⟨rfl, K18.out.trans0 hk⟩
  · have hx' : ((300 : Int) < (xs.length : Int)) := by omega
    go_enter Tryd.func4, Tryd.ntmps4
    go_wp2_with fail
    refine (known_true w HT.out).mono ?_
    rintro r w3 ⟨rfl, hk⟩
    go_wp2
    go_ret
    exact ⟨rfl, hk⟩
end Go.Proofs.YtfhgeanacecpjaaDoor
