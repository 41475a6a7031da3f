/-
  GlyphJoins, walked.
-/
import Derived.Test.YtjelbeghojgooaaGlyO
import Derived.Test.YtjelbeghojgooaaGlyN
import Derived.Test.YtjelbeghojgooaaGL5
namespace Go.Proofs.Ytjelbeghojgooaa
open Go.RowKit
set_option linter.unusedVariables false
set_option linter.unusedSimpArgs false

theorem runs_mend (s : ByteArray) : runs (mend s) 0 = runs s 0 := by
  unfold mend; rw [(runs_text _).1, map_fix_valid (runs_valid s 0)]
theorem cut_mend (s : ByteArray) : (cut (mend s) 0).length = (runs s 0).length := by unfold mend; rw [cut_txt_len]
theorem runs_join (a b : ByteArray) : runs (mend a ++ mend b) 0 = runs a 0 ++ runs b 0 := by
  unfold mend
  rw [← txt_append, (runs_text _).1, List.map_append, map_fix_valid (runs_valid a 0), map_fix_valid (runs_valid b 0)]
theorem cut_join (a b : ByteArray) : (cut (mend a ++ mend b) 0).length = (runs a 0).length + (runs b 0).length := by
  unfold mend
  rw [← txt_append, cut_txt_len, List.length_append]


set_option maxRecDepth 100000 in
set_option maxHeartbeats 2000000 in
theorem glyphJoins_walk (a b : ByteArray) (n : Int) (w : World) (hsa : a.size ≤ maxLen) (hsb : b.size ≤ maxLen) (hn : -9223372036854775808 ≤ n ∧ n ≤ 9223372036854775807) :
    Calls Try.prog 9 #[.string a, .string b, .int .i64 n] w fun e w' => e = .returned (.bool true) ∧ Keep [] w w' := by
  unfold maxLen at hsa hsb
  by_cases hzs : a.size ≤ 20000
  · have hzd : decide ((20000 : Int) < (a.size : Int)) = false := by simp; omega
    by_cases hzl : b.size ≤ 20000
    · have hzld : decide ((20000 : Int) < (b.size : Int)) = false := by simp; omega
      obtain ⟨i0, hi, hz0, hz1, hz2⟩ := info_parts info_rune
      have HI := Lib.hid hi; have HZ0 := Lib.hid hz0; have HZ1 := Lib.hid hz1; have HZ2 := Lib.hid hz2
      clear hi hz0 hz1 hz2
      have hma := mend_size a
      have hmb := mend_size b
      have hca := cut_len_le a 0 (Nat.zero_le _)
      have hcb := cut_len_le b 0 (Nat.zero_le _)
      rw [← runs_len] at hca hcb
      have hab : (mend a ++ mend b).size = (mend a).size + (mend b).size := ByteArray.size_append
      have HRA := Lib.hid (fun W => runes_any (mend a) W (by omega)); have HRB := Lib.hid (fun W => runes_any (mend b) W (by omega)); have HRJ := Lib.hid (fun W => runes_any (mend a ++ mend b) W (by omega))
      have HCA := Lib.hid (fun W => count_any (mend a) W (by omega)); have HCB := Lib.hid (fun W => count_any (mend b) W (by omega)); have HCJ := Lib.hid (fun W => count_any (mend a ++ mend b) W (by omega))
      have HCT := Lib.hid (fun W => cut_any (mend a ++ mend b) n W (by omega) hn.1 hn.2)
      have HMA := Lib.hid (fun W => mend_any a W (by omega)); have HMB := Lib.hid (fun W => mend_any b W (by omega))
      have HLA := Lib.hid (runs_mend a); have HLB := Lib.hid (runs_mend b); have HLJ := Lib.hid (runs_join a b)
      rw [cut_mend] at HCA HCB
      rw [cut_join] at HCJ
      have hJ : mend a ++ mend b = txt (runs a 0 ++ runs b 0) := by unfold mend; rw [← txt_append]
      have hjl : (txt (runs a 0 ++ runs b 0)).size ≤ 1073741824 := by rw [← hJ]; omega
      have hcv := cutV_txt (runs a 0 ++ runs b 0) n
      rw [← hJ] at hcv hjl
      rw [hcv] at HCT
      have hxy : txt ((runs a 0 ++ runs b 0).take n.toNat) ++ txt ((runs a 0 ++ runs b 0).drop n.toNat) = mend a ++ mend b := by rw [hJ, ← txt_append, List.take_append_drop]
      have hlx : (cut (txt ((runs a 0 ++ runs b 0).take n.toNat)) 0).length = min n.toNat ((runs a 0).length + (runs b 0).length) := by rw [cut_txt_len, List.length_take, List.length_append]
      have hly : (cut (txt ((runs a 0 ++ runs b 0).drop n.toNat)) 0).length = (runs a 0).length + (runs b 0).length - n.toNat := by rw [cut_txt_len, List.length_drop, List.length_append]
      have hsx : (txt ((runs a 0 ++ runs b 0).take n.toNat)).size ≤ 1073741824 := by have := congrArg ByteArray.size hxy; rw [ByteArray.size_append] at this; omega
      have hsy : (txt ((runs a 0 ++ runs b 0).drop n.toNat)).size ≤ 1073741824 := by have := congrArg ByteArray.size hxy; rw [ByteArray.size_append] at this; omega
      have HCX := Lib.hid (fun W => count_any (txt ((runs a 0 ++ runs b 0).take n.toNat)) W hsx); have HCY := Lib.hid (fun W => count_any (txt ((runs a 0 ++ runs b 0).drop n.toNat)) W hsy)
      rw [hlx] at HCX
      rw [hly] at HCY
      clear hlx hly hcv hjl hJ hab
      have HXY := Lib.hid hxy; clear hxy
      generalize txt ((runs a 0 ++ runs b 0).take n.toNat) = X at *
      generalize txt ((runs a 0 ++ runs b 0).drop n.toNat) = Y at *
      generalize mend a = A at *
      generalize mend b = B at *
      go_enter Try.func9, Try.ntmps9
      go_wp2_with fail
      refine (HMA.out _).mono ?_
      rintro q W1 ⟨rfl, hk⟩
      have HK1 := Lib.hid hk; clear hk
      go_wp2_with fail
      refine (HMB.out _).mono ?_
      rintro q W2 ⟨rfl, hk⟩
      have HK2 := Lib.hid (HK1.out.trans0 hk); clear hk HK1
      go_wp2_with fail
      refine (HRA.out _).mono ?_
      intro r W3 hp
      obtain ⟨rfl, hs3, hk⟩ := hp.sl
      rw [HLA.out] at hs3 ⊢
      have HK3 := Lib.hid (HK2.out.trans0 hk); have HS3 := Lib.hid hs3; clear hk HK2 hs3 hp
      generalize hla : runs a 0 = la at *
      generalize hlb : runs b 0 = lb at *
      have hsz3 := HK3.out.size
      go_wp2_with (with_reducible refine park_append 24 26 _ rfl ?_)
      refine wpList_append_sl _ rfl (.tmp 24) (.tmp 26) 31 rfl w.heap.size 21 i0 (.int .i32 0) 1 4 Try.underlying31 HI.out HZ0.out HZ1.out HZ2.out rfl (by decide) (.slice none 0 0) 0 [] rfl (World.ownsRow_nil _ _ _ _) _ la.length (la.map (Value.int .i32)) rfl HS3.out (by simp) (rune_cells la) (by unfold maxLen; omega) (by omega) hsz3 ?_
      intro v1 W4 hpa
      have hown0 := own_nxt (World.ownsRow_nil _ _ _ _) HK3.out (Keep.refl _ _) hpa
      rw [Nat.zero_add, List.nil_append] at hown0
      have HR4 := Lib.hid hown0.1; have HK4 := Lib.hid hown0.2
      clear hpa hown0 HK3 HS3 hsz3
      go_wp2_with fail
      refine (HRB.out _).mono ?_
      intro r W5 hp
      obtain ⟨rfl, hs5, hk⟩ := hp.sl
      rw [HLB.out] at hs5 ⊢
      have HR5 := Lib.hid (hk.owns HR4.out (by simp))
      have HK5 := Lib.hid (HK4.out.trans0 hk); have HS5 := Lib.hid hs5; clear hk HK4 hs5 hp HR4
      have hsz5 := HK5.out.size
      go_wp2_with (with_reducible refine park_append 28 30 _ rfl ?_)
      refine wpList_append_sl _ rfl (.tmp 28) (.tmp 30) 31 rfl w.heap.size 21 i0 (.int .i32 0) 1 4 Try.underlying31 HI.out HZ0.out HZ1.out HZ2.out rfl (by decide) v1 la.length _ rfl HR5.out _ lb.length (lb.map (Value.int .i32)) rfl HS5.out (by simp) (rune_cells lb) (by unfold maxLen; omega) (by omega) hsz5 ?_
      intro v2 W6 hpb
      obtain ⟨ho6, hk6⟩ := own_nxt HR5.out HK5.out (Keep.refl _ _) hpb
      rw [← List.map_append] at ho6
      have hsl6 := SlAt.of_owns ho6
      obtain ⟨ad, cap, rfl, hq⟩ := hsl6
      have HS6 := Lib.hid (show SlAt W6 (.slice ad (la.length + lb.length) cap) (la ++ lb).length ((la ++ lb).map (Value.int .i32)) by rw [List.length_append]; exact ⟨ad, cap, rfl, hq⟩)
      have HK6 := Lib.hid hk6
      clear hq ho6 hk6 hpb HR5 HK5 HS5 hsz5
      obtain ⟨N, hN⟩ : ∃ N, N = la.length + lb.length := ⟨_, rfl⟩
      have hN4 : N ≤ 40000 := by omega
      rw [← hN] at HS6 HCX HCY HCJ ⊢
      have HNN := Lib.hid hN; clear hN
      clear hla hlb
      have hsum : ((N : Int) != (la.length : Int) + (lb.length : Int)) = false := by have := HNN.out; simp; omega
      go_wp2_with fail
      refine (HCJ.out _).mono ?_
      rintro q W7 ⟨rfl, hk⟩
      have HS7 := Lib.hid (HS6.out.keep0 hk); have HK7 := Lib.hid (HK6.out.trans0 hk); clear hk HK6 HS6
      go_wp2_with fail
      refine (HCA.out _).mono ?_
      rintro q W8 ⟨rfl, hk⟩
      have HS8 := Lib.hid (HS7.out.keep0 hk); have HK8 := Lib.hid (HK7.out.trans0 hk); clear hk HK7 HS7
      go_wp2_with fail
      refine (HCB.out _).mono ?_
      rintro q W9 ⟨rfl, hk⟩
      have HS9 := Lib.hid (HS8.out.keep0 hk); have HK9 := Lib.hid (HK8.out.trans0 hk); clear hk HK8 HS8
      go_wp2_with fail
      refine (HRJ.out _).mono ?_
      intro r W10 hp
      obtain ⟨rfl, hs10, hk⟩ := hp.sl
      rw [HLJ.out, show (la ++ lb).length = N by rw [List.length_append, ← HNN.out]] at hs10 ⊢
      have HS10 := Lib.hid (HS9.out.keep0 hk); have HK10 := Lib.hid (HK9.out.trans0 hk); have HT10 := Lib.hid hs10; clear hk HK9 HS9 hs10 hp
      have hLN : (la ++ lb).length = N := by rw [List.length_append, ← HNN.out]
      have hjt := runes_true (.slice (some ⟨W9.heap.size, 0, none⟩) N N) (.slice ad N cap) (la ++ lb) W10 (by rw [hLN]; exact HT10.out) HS10.out (by rw [hLN]; omega)
      have HJT := Lib.hid hjt; clear hjt hLN
      go_wp2_with fail
      (with_reducible refine HJT.out.mono ?_)
      rintro q W11 ⟨rfl, hk⟩
      have HK11 := Lib.hid (HK10.out.trans0 hk); clear hk HK10 HS10 HT10 HJT hsum
      go_wp2_with fail
      refine (HCT.out _).mono ?_
      rintro q W12 ⟨rfl, hk⟩
      have HK12 := Lib.hid (HK11.out.trans0 hk); clear hk HK11
      have hxy := HXY.out
      by_cases h0 : n < 0
      · rw [show ((min n.toNat N : Nat) : Int) = 0 by omega] at HCX
        rw [show ((N - n.toNat : Nat) : Int) = (N : Int) by omega] at HCY
        have HX := HCX; have HY := HCY; clear HCX HCY
        have hn0 : decide ((N : Int) < 0) = false := by simp
        go_wp2_with fail
        refine (HX.out _).mono ?_
        rintro q W13 ⟨rfl, hk⟩
        have HK13 := Lib.hid (HK12.out.trans0 hk); clear hk HK12
        go_wp2_with fail
        refine (HY.out _).mono ?_
        rintro q W14 ⟨rfl, hk⟩
        have HK14 := Lib.hid (HK13.out.trans0 hk); clear hk HK13
        go_wp2_with fail
        refine (known_true _).mono ?_
        rintro q W15 ⟨rfl, hk⟩
        have HK15 := Lib.hid (HK14.out.trans0 hk); clear hk HK14
        go_wp2
        go_ret
        exact ⟨rfl, HK15.out⟩
      by_cases h1 : (N : Int) < n
      · rw [show ((min n.toNat N : Nat) : Int) = (N : Int) by omega] at HCX
        rw [show ((N - n.toNat : Nat) : Int) = 0 by omega] at HCY
        have HX := HCX; have HY := HCY; clear HCX HCY
        have hnn : ((N : Int) - (N : Int)) = 0 := by omega
        go_wp2_with fail
        refine (HX.out _).mono ?_
        rintro q W13 ⟨rfl, hk⟩
        have HK13 := Lib.hid (HK12.out.trans0 hk); clear hk HK12
        go_wp2_with fail
        refine (HY.out _).mono ?_
        rintro q W14 ⟨rfl, hk⟩
        have HK14 := Lib.hid (HK13.out.trans0 hk); clear hk HK13
        go_wp2_with fail
        refine (known_true _).mono ?_
        rintro q W15 ⟨rfl, hk⟩
        have HK15 := Lib.hid (HK14.out.trans0 hk); clear hk HK14
        go_wp2
        go_ret
        exact ⟨rfl, HK15.out⟩
      · rw [show ((min n.toNat N : Nat) : Int) = n by omega] at HCX
        rw [show ((N - n.toNat : Nat) : Int) = (N : Int) - n by omega] at HCY
        have HX := HCX; have HY := HCY; clear HCX HCY
        go_wp2_with fail
        refine (HX.out _).mono ?_
        rintro q W13 ⟨rfl, hk⟩
        have HK13 := Lib.hid (HK12.out.trans0 hk); clear hk HK12
        go_wp2_with fail
        refine (HY.out _).mono ?_
        rintro q W14 ⟨rfl, hk⟩
        have HK14 := Lib.hid (HK13.out.trans0 hk); clear hk HK13
        go_wp2_with fail
        refine (known_true _).mono ?_
        rintro q W15 ⟨rfl, hk⟩
        have HK15 := Lib.hid (HK14.out.trans0 hk); clear hk HK14
        go_wp2
        go_ret
        exact ⟨rfl, HK15.out⟩
    · have hzld : decide ((20000 : Int) < (b.size : Int)) = true := by simp; omega
      go_enter Try.func9, Try.ntmps9
      go_wp2_with fail
      refine (known_true _).mono ?_
      rintro q w3 ⟨rfl, hk3⟩
      have HK3 := Lib.hid hk3; clear hk3
      go_wp2
      go_ret
      exact ⟨rfl, HK3.out⟩
  · have hzd : decide ((20000 : Int) < (a.size : Int)) = true := by simp; omega
    go_enter Try.func9, Try.ntmps9
    go_wp2_with fail
    refine (known_true _).mono ?_
    rintro q w3 ⟨rfl, hk3⟩
    have HK3 := Lib.hid hk3; clear hk3
    go_wp2
    go_ret
    exact ⟨rfl, HK3.out⟩
end Go.Proofs.Ytjelbeghojgooaa
