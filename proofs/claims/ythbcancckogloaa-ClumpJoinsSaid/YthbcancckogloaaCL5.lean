/-
  ClumpJoins, walked.
-/
import Derived.Test.YthbcancckogloaaClmM
import Derived.Test.YthbcancckogloaaCL4
import Derived.Test.YthbcancckogloaaClmT
namespace Go.Proofs.Ythbcancckogloaa
open Go.RowKit
set_option linter.unusedVariables false
set_option linter.unusedSimpArgs false

theorem plc_two {s : ByteArray} {k : Nat} (h : k < (clumps s).length) : (brk s)[k]? = some (plc s k) ∧ (brk s)[k + 1]? = some (plc s (k + 1)) := by
  have hl := clumps_len s
  have h1 := List.getElem?_eq_getElem (show k < (brk s).length by omega)
  have h2 := List.getElem?_eq_getElem (show k + 1 < (brk s).length by omega)
  constructor
  · unfold plc; rw [h1]; rfl
  · unfold plc; rw [h2]; rfl
theorem ext_snoc (s : ByteArray) {a p : Nat} (h : a ≤ p) (hp : p ≤ s.size) : s.extract 0 a ++ s.extract a p = s.extract 0 p := by
  have z1 := size_ext s 0 a (by omega)
  have z2 := size_ext s a p hp
  have z3 := size_ext s 0 p hp
  apply ext_byt
  · rw [ByteArray.size_append]; omega
  · intro i hi
    rw [ByteArray.size_append] at hi
    rw [byt_extract s 0 p i (by omega) hp]
    by_cases hia : i < a
    · rw [byt_append_left _ _ _ (by omega), byt_extract s 0 a i (by omega) (by omega)]
    · have e : i = (s.extract 0 a).size + (i - a) := by omega
      rw [e, byt_append_right, byt_extract s a p _ (by omega) hp]
      congr 1; omega

set_option maxRecDepth 100000 in
set_option maxHeartbeats 32000000 in
theorem clumpJoins_walk (s : ByteArray) (w : World) (hs : s.size ≤ maxLen) :
    Calls Try.prog 7 #[.string s] w fun e w' => e = .returned (.bool true) ∧ Keep [] w w' := by
  unfold maxLen at hs
  by_cases hz : s.size ≤ 20000
  · have hzd : decide ((20000 : Int) < (s.size : Int)) = false := by simp; omega
    go_enter Try.func7, Try.ntmps7
    go_wp2_with fail
    refine (parts_any s _ (by omega)).mono ?_
    rintro e w1 ⟨ad, cap, rfl, hown, hk⟩
    obtain ⟨_, _, he, _, hc⟩ := SlAt.of_owns hown
    cases he
    have HC := Lib.hid hc; have K1 := Lib.hid hk
    clear hc hk hown
    have hcl := clumps_len s
    have hbl := brk_len s
    have hn2 : (clumps s).length ≤ 20000 := by omega
    clear hcl hbl
    have HCC := Lib.hid (fun W => ccount_any s W (by omega))
    have HB0 := Lib.hid (fun W => break_any s 0 W (by omega) (by omega))
    have HBS := Lib.hid (fun W => break_any s s.size W (by omega) (by omega))
    rw [isBrk_zero] at HB0
    rw [isBrk_size] at HBS
    obtain ⟨n, hn⟩ : ∃ n, n = (clumps s).length := ⟨_, rfl⟩
    rw [← hn] at HC hn2 HCC ⊢
    have HN := Lib.hid hn; clear hn
    have hnn : ((n : Int) != (n : Int)) = false := by simp
    go_wp2_with fail
    (with_reducible refine (HCC.out _).mono ?_)
    rintro e w2 ⟨rfl, hk2⟩
    have K2 := Lib.hid (K1.out.trans0 hk2); have KA := Lib.hid hk2; clear hk2
    go_wp2_with fail
    refine (HB0.out _).mono ?_
    rintro e w3 ⟨rfl, hk2⟩
    have K3 := Lib.hid (K2.out.trans0 hk2); have KB := Lib.hid (KA.out.trans0 hk2); clear hk2
    go_wp2_with fail
    (with_reducible refine (HBS.out _).mono ?_)
    rintro e w4 ⟨rfl, hk2⟩
    have K4 := Lib.hid (K3.out.trans0 hk2); have KC := Lib.hid (KB.out.trans0 hk2); clear hk2
    clear HCC HB0 HBS K1 K2 K3 KA KB hnn
    go_wp2
    go_loopw [5, 6, 7] (fun v a i W => ∃ k : Nat, k ≤ n ∧ i = .int .i64 k ∧ v = .string (s.extract 0 (plc s k)) ∧ a = .int .i64 (plc s k : Nat) ∧ Keep [] w4 W) (fun _ _ i _ => n - (intOf i).toNat)
    case atStart =>
      refine ⟨0, by omega, rfl, ?_, by rw [plc_zero]; rfl, Keep.refl _ _⟩
      rw [plc_zero, show s.extract 0 0 = ⟨#[]⟩ from ext_byt (by rw [size_ext _ _ _ (by omega)]; rfl) (fun i hi => by rw [size_ext _ _ _ (by omega)] at hi; omega)]
    case round =>
      rename World => w5
      obtain ⟨k, hk, rfl, rfl, rfl, hkp⟩ := hrel
      by_cases hlt : k < n
      · have hltd : decide ((k : Int) < (n : Int)) = true := by simp; omega
        have hkl : k < (clumps s).length := by rw [← HN.out]; omega
        obtain ⟨b, off, rfl, hcs⟩ := HC.out (by omega)
        have c0 := hkp.cellv (KC.out.cellv (hcs k _ (cluV_at hkl)) (by simp)) (by simp)
        obtain ⟨hb1, hb2⟩ := plc_two hkl
        obtain ⟨_, hpl, hps⟩ := clumps_at hkl
        have hxz := size_ext s (plc s k) (plc s (k + 1)) hps
        have HE := Lib.hid (ext_snoc s (Nat.le_of_lt hpl) hps)
        have N1 := Lib.hid (fun W => next_any s ((plc s k : Nat) : Int) W (by omega) (by omega) (by omega))
        have P1 := Lib.hid (fun W => prev_any s ((plc s (k + 1) : Nat) : Int) W (by omega) (by omega) (by omega))
        rw [nxt_gap hb1 hb2 (by omega) (by omega)] at N1
        rw [prv_gap hb1 hb2 (by omega) (by omega)] at P1
        have B1 := Lib.hid (fun W => break_any s (plc s k) W (by omega) (by omega))
        rw [show isBrk s (plc s k) = true from decide_eq_true (List.mem_of_getElem? hb1)] at B1
        have HJ := Lib.hid (fun (j : Nat) (hj0 : 0 < j) (hj : plc s k + j < plc s (k + 1)) =>
          show isBrk s (plc s k + j) = false ∧ nxtB s ((plc s k : Nat) + (j : Nat) : Int) = plc s (k + 1) ∧ prvB s ((plc s k : Nat) + (j : Nat) : Int) = plc s k from
          ⟨decide_eq_false (fun h => by have := brk_gap hb1 hb2 _ h; omega), nxt_gap hb1 hb2 (by omega) (by omega), prv_gap hb1 hb2 (by omega) (by omega)⟩)
        clear hcs hb1 hb2
        generalize s.extract (plc s k) (plc s (k + 1)) = x at *
        generalize hpp : plc s (k + 1) = p at *
        have HPP := Lib.hid hpp; clear hpp
        generalize plc s k = a at *
        have C0 := Lib.hid c0
        have HKP := Lib.hid hkp
        have HXZ := Lib.hid hxz
        have HW1 := Lib.hid (show IntKind.i64.wrap ((a : Int) + (x.size : Int)) = (p : Int) by rw [IntKind.wrap_i64]; omega)
        have HSUM := Lib.hid (show (a : Int) + (x.size : Int) = (p : Int) by omega)
        have hx2 : x.size ≤ 20000 := by omega
        have ha2 : a ≤ 20000 := by omega
        clear hkp hxz
        go_upto_region 12 with (fail)
        rw [HE.out]
        obtain ⟨I, f, hf1, hf2⟩ := kept_class w5
        have q0 : ∀ i, (f i).cell? _ = _ := fun i => (hf1 i).cellv c0 (by simp)
        obtain ⟨iw, hiw⟩ := hf2 w5.drew (Keep.refl _ _).drew
        haveI : Nonempty I := ⟨iw⟩
        have HF1 := Lib.hid hf1; have HF2 := Lib.hid hf2
        have hkn : (k : Int) < (n : Int) := by omega
        have hw1 := HW1.out
        have hpp : ((p : Int) != (p : Int)) = false := by simp
        have haa : ((a : Int) != (a : Int)) = false := by simp
        clear c0 hf1 hf2
        refine wp_quiet_tail 29 f ⟨iw, hiw⟩ (by kernel_rfl) (by kernel_rfl) ?_
        clear hiw iw
        simp only [List.take_succ_cons, List.take_zero, List.drop_succ_cons, List.drop_zero]
        repeat (quiet_step (first
          | ((with_reducible refine (B1.out _).mono ?_); rintro e w'' ⟨rfl, hk⟩; exact ⟨rfl, HF2.out _ ((HF1.out _).trans0 hk)⟩)
          | ((with_reducible refine (N1.out _).mono ?_); rintro e w'' ⟨rfl, hk⟩; exact ⟨rfl, HF2.out _ ((HF1.out _).trans0 hk)⟩)
          | ((with_reducible refine (P1.out _).mono ?_); rintro e w'' ⟨rfl, hk⟩; exact ⟨rfl, HF2.out _ ((HF1.out _).trans0 hk)⟩)))
        refine wpQuiet_nil ?_
        intro i
        have hkq := Lib.hid (HF1.out i)
        clear q0 HF1 HF2 hw1 hpp haa
        generalize f i = w6 at *
        clear i f B1 N1 P1
        have c1 := hkq.out.cellv C0.out (by simp)
        go_wp2
        go_loopw [8] (fun j W => ∃ m : Nat, 1 ≤ m ∧ m ≤ 40 ∧ j = .int .i64 m ∧ Keep [] w6 W) (fun j _ => 40 - (intOf j).toNat)
        case atStart => exact ⟨1, by omega, by omega, rfl, Keep.refl _ _⟩
        case round =>
          rename World => w7
          obtain ⟨m, hm1, hm2, rfl, hkm⟩ := hrel
          have c2 := hkm.cellv c1 (by simp)
          by_cases hlm : m < x.size ∧ m < 40
          · obtain ⟨hl1, hl2⟩ := hlm
            have t1 : decide (m < x.size) = true := by simpa using hl1
            have t2 : decide ((m : Int) < 40) = true := by simp; omega
            obtain ⟨jb, jn, jp⟩ := HJ.out m (by omega) (by have := HSUM.out; omega)
            have N2 := Lib.hid (fun W => next_any s ((a : Int) + (m : Int)) W (by omega) (by omega) (by omega))
            have P2 := Lib.hid (fun W => prev_any s ((a : Int) + (m : Int)) W (by omega) (by omega) (by omega))
            have B2 := Lib.hid (fun W => break_any s (a + m) W (by omega) (by have := HSUM.out; omega))
            rw [jn] at N2
            rw [jp] at P2
            rw [jb, Int.natCast_add] at B2
            clear jb jn jp
            have HKM := Lib.hid hkm
            have hm3 : m + 1 ≤ 40 := by omega
            clear hkm hl1 hl2
            go_upto_region 17 with (fail)
            obtain ⟨I, f, hf1, hf2⟩ := kept_class w7
            have q0 : ∀ i, (f i).cell? _ = _ := fun i => (hf1 i).cellv c2 (by simp)
            obtain ⟨iw, hiw⟩ := hf2 w7.drew (Keep.refl _ _).drew
            haveI : Nonempty I := ⟨iw⟩
            have HF1 := Lib.hid hf1; have HF2 := Lib.hid hf2
            have hkn : (k : Int) < (n : Int) := by omega
            have hw3 : IntKind.i64.wrap ((a : Int) + (m : Int)) = (a : Int) + (m : Int) := by rw [IntKind.wrap_i64]; omega
            have hw1 := HW1.out
            have hpp : ((p : Int) != (p : Int)) = false := by simp
            have haa : ((a : Int) != (a : Int)) = false := by simp
            clear hf1 hf2
            refine wp_quiet_tail 28 f ⟨iw, hiw⟩ (by kernel_rfl) (by kernel_rfl) ?_
            clear hiw iw
            simp only [List.take_succ_cons, List.take_zero, List.drop_succ_cons, List.drop_zero]
            repeat (quiet_step (first
              | ((with_reducible refine (B2.out _).mono ?_); rintro e w'' ⟨rfl, hk⟩; exact ⟨rfl, HF2.out _ ((HF1.out _).trans0 hk)⟩)
              | ((with_reducible refine (N2.out _).mono ?_); rintro e w'' ⟨rfl, hk⟩; exact ⟨rfl, HF2.out _ ((HF1.out _).trans0 hk)⟩)
              | ((with_reducible refine (P2.out _).mono ?_); rintro e w'' ⟨rfl, hk⟩; exact ⟨rfl, HF2.out _ ((HF1.out _).trans0 hk)⟩)))
            refine wpQuiet_nil ?_
            intro i
            have hkr := Lib.hid (HKM.out.trans0 (HF1.out i))
            clear q0 HF1 HF2 hw1 hw3 hpp haa c2
            generalize f i = w8 at *
            clear i f B2 N2 P2
            go_wp2
            exact ⟨⟨m + 1, by omega, by omega, by go_num, hkr.out⟩, by simp [intOf]; omega⟩
          · have HKM := Lib.hid ((HKP.out.trans0 hkq.out).trans0 hkm)
            clear hkm
            have hsum := HSUM.out
            by_cases hl1 : m < x.size
            · have t1 : decide (m < x.size) = true := by simpa using hl1
              have t2 : decide ((m : Int) < 40) = false := by simp; omega
              go_wp2
              exact ⟨⟨k + 1, by omega, by go_num, by rw [HPP.out], by rw [HPP.out], HKM.out⟩, by simp [intOf]; omega⟩
            · have t1 : decide (m < x.size) = false := by simpa using hl1
              go_wp2
              exact ⟨⟨k + 1, by omega, by go_num, by rw [HPP.out], by rw [HPP.out], HKM.out⟩, by simp [intOf]; omega⟩
      · have hltd : decide ((k : Int) < (n : Int)) = false := by simp; omega
        obtain rfl : k = n := by omega
        have he : plc s k = s.size := by rw [HN.out]; exact plc_end s
        have HK5 := Lib.hid (K4.out.trans0 hkp); clear hkp
        rw [he, ext_all]
        have N1 := Lib.hid (fun W => next_any s ((s.size : Nat) : Int) W (by omega) (by omega) (by omega))
        have P1 := Lib.hid (fun W => prev_any s 0 W (by omega) (by omega) (by omega))
        rw [nxt_end (Int.le_refl _)] at N1
        rw [prv_start (Int.le_refl _)] at P1
        have tss : (s.toList == s.toList) = true := by simp
        clear he
        go_wp2_with fail
        (with_reducible refine (N1.out _).mono ?_)
        rintro e w6 ⟨rfl, hk6⟩
        have K6 := Lib.hid (HK5.out.trans0 hk6); clear hk6 HK5
        go_wp2_with fail
        refine (P1.out _).mono ?_
        rintro e w7 ⟨rfl, hk6⟩
        have K7 := Lib.hid (K6.out.trans0 hk6); clear hk6 K6
        go_wp2_with fail
        refine (known_true _).mono ?_
        rintro q w8 ⟨rfl, hk7⟩
        have K8 := Lib.hid (K7.out.trans0 hk7); clear hk7
        go_wp2
        go_ret
        exact ⟨rfl, K8.out⟩
  · have hzd : decide ((20000 : Int) < (s.size : Int)) = true := by simp; omega
    go_enter Try.func7, Try.ntmps7
    go_wp2_with fail
    refine (known_true _).mono ?_
    rintro q w3 ⟨rfl, hk3⟩
    have HK3 := Lib.hid hk3; clear hk3
    go_wp2
    go_ret
    exact ⟨rfl, HK3.out⟩
end Go.Proofs.Ythbcancckogloaa
