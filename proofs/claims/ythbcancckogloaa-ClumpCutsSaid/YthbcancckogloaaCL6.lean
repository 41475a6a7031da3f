/-
  ClumpCuts, walked.
-/
import Derived.Test.YthbcancckogloaaCL7
import Derived.Test.YthbcancckogloaaSub
import Derived.Test.YthbcancckogloaaAppendG
namespace Go.Proofs.Ythbcancckogloaa
open Go.RowKit
set_option linter.unusedVariables false
set_option linter.unusedSimpArgs false

set_option maxHeartbeats 4000000 in
/-- Two rows of the same texts. -/
theorem same_true (adA adB : Option Addr) (cA cB n : Nat) (l : List Value) (w : World) (hl : l.length = n) (hv : ∀ x ∈ l, ∃ s, x = .string s) (ha : SlAt w (.slice adA n cA) n l) (hb : SlAt w (.slice adB n cB) n l) (hn : n ≤ 1073741824) :
    Calls Try.prog 29 #[.slice adA n cA, .slice adB n cB] w fun e w' => e = .returned (.bool true) ∧ Keep [] w w' := by
  obtain ⟨_, _, e1, _, h1⟩ := ha
  cases e1
  obtain ⟨_, _, e1, _, h2⟩ := hb
  cases e1
  have H1 := Lib.hid h1; have H2 := Lib.hid h2; have HL := Lib.hid hl; have HV := Lib.hid hv
  clear h1 h2 hl hv
  have hnn : ((n : Int) != (n : Int)) = false := by simp
  go_enter Try.func29, Try.ntmps29
  go_wp2
  go_loopw [5] (fun i W => ∃ k : Nat, k ≤ n ∧ i = .int .i64 k ∧ Keep [] w W) (fun i _ => n - (intOf i).toNat)
  case atStart => exact ⟨0, by omega, rfl, Keep.refl _ _⟩
  case round =>
    rename World => w2
    obtain ⟨k, hk, rfl, hkp⟩ := hrel
    by_cases hlt : k < n
    · have hltd : decide ((k : Int) < (n : Int)) = true := by simp; omega
      have hkl : k < l.length := by rw [HL.out]; exact hlt
      have hke := List.getElem?_eq_getElem hkl
      obtain ⟨x, hx⟩ := HV.out _ (List.getElem_mem hkl)
      rw [hx] at hke
      obtain ⟨b1, o1, rfl, c1⟩ := H1.out (by omega)
      obtain ⟨b2, o2, rfl, c2⟩ := H2.out (by omega)
      have d1 := hkp.cellv (c1 k _ hke) (by simp)
      have d2 := hkp.cellv (c2 k _ hke) (by simp)
      have tx : (!(x.toList == x.toList)) = false := by simp
      have hk0 : (0 : Int) ≤ (k : Int) := by omega
      have hkn : (k : Int) < (n : Int) := by omega
      have HK := Lib.hid hkp
      clear c1 c2 hke hkp hx
      go_wp2
      go_quiet (fail)
      go_wp2
      exact ⟨⟨k + 1, by omega, by go_num, HK.out.drewN _⟩, by simp [intOf]; omega⟩
    · have hltd : decide ((k : Int) < (n : Int)) = false := by simp; omega
      have HK := Lib.hid hkp; clear hkp
      go_wp2
      go_ret
      exact ⟨rfl, HK.out⟩

theorem str_one (l : List ByteArray) : ∀ u ∈ l.map Value.string, u.oneCell' = true := by
  intro u hu
  obtain ⟨x, _, rfl⟩ := List.mem_map.1 hu
  rfl
theorem cluT_le (s : ByteArray) : (cluT s).length ≤ s.size := by
  have h1 := clumps_len s
  have h2 := brk_len s
  rw [cluT_len]; omega
theorem prvB_mem (s : ByteArray) (a : Int) : prvB s a ∈ brk s := by
  unfold prvB
  cases h : (brk s).reverse.find? (fun p : Nat => decide ((p : Int) < a)) with
  | none => exact brk_zero s
  | some p => have := List.mem_of_find?_eq_some h; simpa using this
/-- parts, its result as texts. -/
theorem parts_is (s : ByteArray) (w : World) (hz : s.size ≤ 40000) :
    Calls Try.prog 28 #[.string s] w fun e w' => ∃ ad cap, e = .returned (.tuple #[.slice ad (cluT s).length cap, .bool true]) ∧ SlAt w' (.slice ad (cluT s).length cap) (cluT s).length ((cluT s).map .string) ∧ (cluT s).length ≤ cap ∧ Keep [] w w' := by
  refine (parts_any s w hz).mono ?_
  rintro e w1 ⟨ad, cap, rfl, ho, hk⟩
  rw [← cluT_len] at ho ⊢
  rw [← cluV_cluT]
  refine ⟨ad, cap, rfl, SlAt.of_owns ho, ?_, hk⟩
  rcases ho.2 with ⟨h, _⟩ | ⟨g, c, cur, h, _, _, hc, _⟩
  · simp only [Value.slice.injEq] at h; omega
  · simp only [Value.slice.injEq] at h; omega

theorem owns_empty (w : World) (e : TypeId) (sz : Nat) : (w.alloc (.cells #[] e)).ownsRow w.heap.size e sz (.slice (some ⟨w.heap.size, 0, none⟩) 0 0) 0 [] := by
  refine ⟨by simp, .inr ⟨w.heap.size, 0, #[], rfl, Nat.le_refl _, World.alloc_heap_new w _, by simp, by unfold maxLen; omega, by simp, by simp⟩⟩
set_option maxRecDepth 100000 in
set_option maxHeartbeats 32000000 in
theorem clumpCuts_walk (s : ByteArray) (a : Int) (t : ByteArray) (w : World) (hs : s.size ≤ maxLen) (ha : -9223372036854775808 ≤ a ∧ a ≤ 9223372036854775807) (ht : t.size ≤ maxLen) :
    Calls Try.prog 8 #[.string s, .int .i64 a, .string t] w fun e w' => e = .returned (.bool true) ∧ Keep [] w w' := by
  unfold maxLen at hs ht
  by_cases hz : s.size ≤ 4000 ∧ t.size ≤ 4000
  · obtain ⟨hzs, hzt⟩ := hz
    have hzd : decide ((4000 : Int) < (s.size : Int)) = false := by simp; omega
    have hzd2 : decide ((4000 : Int) < (t.size : Int)) = false := by simp; omega
    obtain ⟨i0, hi, hz0, hz1, hz2⟩ := info_parts info_strb
    have HI := Lib.hid hi; have HZ0 := Lib.hid hz0; have HZ1 := Lib.hid hz1; have HZ2 := Lib.hid hz2
    clear hi hz0 hz1 hz2
    have hpm := prvB_mem s a
    have hps := brk_le hpm
    have HSP := Lib.hid (cluT_split hpm)
    have HPV := Lib.hid (fun W => prev_any s a W (by omega) ha.1 ha.2)
    clear hpm
    generalize prvB s a = p at *
    have hpsd : decide (s.size < p) = false := by simp; omega
    have hp0d : decide ((p : Int) < 0) = false := by simp
    have z1 := size_ext s 0 p hps
    have z2 := size_tail s p hps
    have l1 := cluT_le s
    have l2 := cluT_le (s.extract 0 p)
    have l3 := cluT_le (s.extract p s.size)
    have l4 := cluT_le t
    rw [z1] at l2
    rw [z2] at l3
    have HA := Lib.hid (fun W => parts_is (s.extract 0 p) W (by omega))
    have HB := Lib.hid (fun W => parts_is (s.extract p s.size) W (by omega))
    have HS := Lib.hid (fun W => parts_is s W (by omega))
    have HT := Lib.hid (fun W => parts_is t W (by omega))
    have HU := Lib.hid (fun W => parts_is (s ++ nlB ++ t) W (by rw [ByteArray.size_append, ByteArray.size_append]; show _ + 1 + _ ≤ _; omega))
    have hsA : ∀ W, (Instr.slice 9 (.string s) none (some (.int .i64 p)) none).run Try.prog W = .ok (.string (s.extract 0 p)) W := fun W => by
      have h1 : (p : Int) ≤ (s.size : Int) := by omega
      have h0 : (0 : Int) ≤ (p : Int) := by omega
      go_simp
    have hsB : ∀ W, (Instr.slice 9 (.string s) (some (.int .i64 p)) none none).run Try.prog W = .ok (.string (s.extract p s.size)) W := fun W => by
      have h1 : (p : Int) ≤ (s.size : Int) := by omega
      have h0 : (0 : Int) ≤ (p : Int) := by omega
      go_simp
    clear z1 z2
    have HLAW := Lib.hid (cluT_line s t)
    have HHN := Lib.hid (headN_le s)
    have HDEF := Lib.hid (show headN s = if endsCR s = true then (cluT s).length - 1 else (cluT s).length from rfl)
    generalize headN s = hd at *
    generalize s.extract 0 p = sa at *
    generalize s.extract p s.size = sb at *
    generalize hLS : cluT s = LS at *
    generalize hLA : cluT sa = LA at *
    generalize hLB : cluT sb = LB at *
    generalize hLT : cluT t = LT at *
    generalize hLU : cluT (s ++ nlB ++ t) = LU at *
    clear hLS hLA hLB hLT hLU
    have HU' : Hid (∀ W, Calls Try.prog 28 #[.string (s ++ ⟨#[10]⟩ ++ t)] W fun e w' => ∃ ad cap, e = .returned (.tuple #[.slice ad LU.length cap, .bool true]) ∧ SlAt w' (.slice ad LU.length cap) LU.length (LU.map .string) ∧ LU.length ≤ cap ∧ Keep [] W w') := HU
    clear HU
    obtain ⟨nS, hnS⟩ : ∃ n, n = LS.length := ⟨_, rfl⟩
    obtain ⟨nA, hnA⟩ : ∃ n, n = LA.length := ⟨_, rfl⟩
    obtain ⟨nB, hnB⟩ : ∃ n, n = LB.length := ⟨_, rfl⟩
    obtain ⟨nT, hnT⟩ : ∃ n, n = LT.length := ⟨_, rfl⟩
    obtain ⟨nU, hnU⟩ : ∃ n, n = LU.length := ⟨_, rfl⟩
    rw [← hnS] at l1 HS HHN HDEF HLAW
    rw [← hnA] at l2 HA
    rw [← hnB] at l3 HB
    rw [← hnT] at l4 HT
    rw [← hnU] at HU'
    have NS := Lib.hid hnS; have NA := Lib.hid hnA; have NB := Lib.hid hnB; have NT := Lib.hid hnT; have NU := Lib.hid hnU
    clear hnS hnA hnB hnT hnU
    go_enter Try.func8, Try.ntmps8
    go_wp2_with fail
    (with_reducible refine (HPV.out _).mono ?_)
    rintro e w1 ⟨rfl, hk⟩
    have K1 := Lib.hid hk; clear hk HPV
    go_wp2_with fail
    (with_reducible refine (HS.out _).mono ?_)
    rintro e w2 ⟨adS, cS, rfl, hsl, hcS, hk⟩
    have K2 := Lib.hid (K1.out.trans0 hk); have SS := Lib.hid hsl; clear hk hsl K1 HS
    go_wp2_with fail
    (with_reducible refine (HA.out _).mono ?_)
    rintro e w3 ⟨adA, cA, rfl, hsl, hcA, hk⟩
    have K3 := Lib.hid (K2.out.trans0 hk); have SA := Lib.hid hsl; have SS3 := Lib.hid (SS.out.keep0 hk); clear hk hsl K2 SS HA
    go_wp2_with fail
    (with_reducible refine (HB.out _).mono ?_)
    rintro e w4 ⟨adB, cB, rfl, hsl, hcB, hk⟩
    have K4 := Lib.hid (K3.out.trans0 hk); have SB := Lib.hid hsl; have SS4 := Lib.hid (SS3.out.keep0 hk); have SA4 := Lib.hid (SA.out.keep0 hk); clear hk hsl K3 SS3 SA HB
    clear hsA hsB
    go_wp2_with (with_reducible refine park_append 67 68 _ rfl ?_)
    refine wpList_append_slG _ rfl (.tmp 67) (.tmp 68) 31 rfl w4.heap.size 9 i0 (.string ByteArray.empty) 1 16 Try.underlying31 HI.out HZ0.out HZ1.out HZ2.out rfl (by decide) _ 0 [] rfl (owns_empty w4 _ 1) (.slice adA nA cA) nA (LA.map .string) rfl (SA4.out.keep0 ((Keep.refl _ _).alloc _)) (by rw [List.length_map, NA.out]; omega) (str_one _) (by unfold maxLen; omega) (by omega) (by simp) ?_
    intro v1 w5 hp1
    have hrow := hp1.row0
    have hne : v1 ≠ .slice none 0 0 := fun e => by have := (hp1.2.2.2.1 e).1; cases this
    have hk5 : Keep [] w4 w5 := ((Keep.refl [] w4).alloc (.cells #[] 9)).trans hp1.2.1 (fun b hb => by
      have hb' : b ∈ (Value.slice (some ⟨w4.heap.size, 0, none⟩) 0 0).ownBlock.toList := hb
      simp [Value.ownBlock] at hb'
      exact .inr (by omega))
    obtain ⟨ad1, c1, hv1⟩ : ∃ ad c, v1 = .slice ad nA c := (SlAt.of_owns hrow).empty
    subst hv1
    have HR1 := Lib.hid hrow; have KK5 := Lib.hid hk5
    have hsz5 := hk5.size
    clear hp1 hrow hk5 hne
    go_wp2_with (with_reducible refine park_append 69 70 _ rfl ?_)
    refine wpList_append_slG _ rfl (.tmp 69) (.tmp 70) 31 rfl w4.heap.size 9 i0 (.string ByteArray.empty) 1 16 Try.underlying31 HI.out HZ0.out HZ1.out HZ2.out rfl (by decide) _ nA _ rfl HR1.out (.slice adB nB cB) nB (LB.map .string) rfl (SB.out.keep0 KK5.out) (by rw [List.length_map, NB.out]; omega) (str_one _) (by unfold maxLen; omega) (by omega) hsz5 ?_
    intro v2 w6 hp2
    have hSab : nA + nB = nS := by rw [NA.out, NB.out, NS.out, HSP.out, List.length_append]
    have hrow := hp2.1
    rw [← List.map_append, ← HSP.out, hSab] at hrow
    have hk6 : Keep [] w4 w6 := KK5.out.trans hp2.2.1 (fun b hb => by simp at hb; exact .inr (HR1.out.lt b hb).1)
    obtain ⟨ad2, c2, hv2⟩ : ∃ ad c, v2 = .slice ad nS c := (SlAt.of_owns hrow).empty
    subst hv2
    have K6 := Lib.hid (K4.out.trans0 hk6)
    have SR := Lib.hid (SlAt.of_owns hrow); have SS6 := Lib.hid (SS4.out.keep0 hk6)
    clear hp2 hrow hk6 hSab K4 HR1 KK5 SS4 SA4 SB hsz5
    have HSM := Lib.hid (same_true adS ad2 cS c2 nS (LS.map .string) w6 (by rw [List.length_map, NS.out]) (fun x hx => by obtain ⟨y, _, rfl⟩ := List.mem_map.1 hx; exact ⟨y, rfl⟩) SS6.out SR.out (by omega))
    go_wp2_with fail
    (with_reducible refine HSM.out.mono ?_)
    rintro e w7 ⟨rfl, hk⟩
    have K7 := Lib.hid (K6.out.trans0 hk); have SS7 := Lib.hid (SS6.out.keep0 hk); clear hk K6 SS6 SR HSM
    go_wp2_with fail
    (with_reducible refine (HU'.out _).mono ?_)
    rintro e w8 ⟨adU, cU, rfl, hsl, hcU, hk⟩
    have K8 := Lib.hid (K7.out.trans0 hk); have SU := Lib.hid hsl; have SS8 := Lib.hid (SS7.out.keep0 hk); clear hk hsl K7 SS7 HU'
    go_wp2_with fail
    (with_reducible refine (HT.out _).mono ?_)
    rintro e w9 ⟨adT, cT, rfl, hsl, hcT, hk⟩
    have K9 := Lib.hid (K8.out.trans0 hk); have ST := Lib.hid hsl; have SS9 := Lib.hid (SS8.out.keep0 hk); have SU9 := Lib.hid (SU.out.keep0 hk); clear hk hsl K8 SS8 SU HT
    go_upto_region 14 with (fail)
    by_cases h0 : s.size = 0
    · have t0 : decide (0 < s.size) = false := decide_eq_false (by omega)
      have hcr : endsCR s = false := decide_eq_false (by omega)
      have hdd : hd = nS := by rw [HDEF.out, if_neg (by rw [hcr]; decide)]
      clear h0
      have HDD := Lib.hid hdd; clear hdd hcr
      go_upto_region 16 with (fail)
      have hdd := HDD.out
      have hhd := HHN.out
      obtain ⟨x, hLU, _⟩ := HLAW.out
      have hls := NS.out
      have hlt := NT.out
      have hnU : nU = hd + 1 + nT := by rw [NU.out, hLU, NT.out]; simp; omega
      have e1 : (LU.map Value.string).take hd = (LS.map Value.string).take hd := by
        rw [← List.map_take, ← List.map_take, hLU, List.append_assoc, List.take_left' (by simp; omega)]
      have e3 : (LU.map Value.string).drop (hd + 1) = LT.map Value.string := by
        rw [← List.map_drop, hLU, List.drop_left' (by simp; omega)]
      obtain ⟨a1, c1, r1, s1, _⟩ := sub_take (P := Try.prog) 31 Try.underlying31 (fun _ => by kernel_rfl) SU9.out hcU (m := hd) (by omega) (i := (nS : Int)) (by omega)
      obtain ⟨a2, c2, r2, s2, _⟩ := sub_take (P := Try.prog) 31 Try.underlying31 (fun _ => by kernel_rfl) SS9.out hcS (m := hd) hhd (i := (nS : Int)) (by omega)
      obtain ⟨a3, c3, r3, s3, _⟩ := sub_drop (P := Try.prog) 31 Try.underlying31 (fun _ => by kernel_rfl) SU9.out (by rw [List.length_map]; exact NU.out.symm) hcU (k := hd + 1) (by omega) (i := (nS : Int) + 1) (by omega)
      rw [e3] at s3
      rw [show nU - (hd + 1) = nT by omega] at s3 r3
      rw [e1] at s1
      have SM1 := Lib.hid (fun W' (hk : Keep [] w9 W') => same_true a1 a2 c1 c2 hd _ W' (by rw [List.length_take, List.length_map, ← NS.out]; omega) (fun x hx => by obtain ⟨y, _, rfl⟩ := List.mem_map.1 (List.mem_of_mem_take hx); exact ⟨y, rfl⟩) (s1.keep0 hk) (s2.keep0 hk) (by omega))
      have SM2 := Lib.hid (fun W' (hk : Keep [] w9 W') => same_true a3 adT c3 cT nT _ W' (by rw [List.length_map]; exact NT.out.symm) (fun x hx => by obtain ⟨y, _, rfl⟩ := List.mem_map.1 hx; exact ⟨y, rfl⟩) (s3.keep0 hk) (ST.out.keep0 hk) (by omega))
      have hw1 : IntKind.i64.wrap ((nS : Int) + 1) = (nS : Int) + 1 := by rw [IntKind.wrap_i64]; omega
      have hw2 : IntKind.i64.wrap ((nS : Int) + 1 + (nT : Int)) = (nU : Int) := by rw [IntKind.wrap_i64]; omega
      have huu : ((nU : Int) != (nU : Int)) = false := by simp
      clear hdd hls hlt hLU hnU e1 e3 s1 s2 s3 hhd
      obtain ⟨J, f, hf1, hf2⟩ := kept_class w9
      obtain ⟨iw, hiw⟩ := hf2 w9.drew (Keep.refl _ _).drew
      haveI : Nonempty J := ⟨iw⟩
      have HF1 := Lib.hid hf1; have HF2 := Lib.hid hf2
      clear hf1 hf2
      refine wp_quiet_tail 34 f ⟨iw, hiw⟩ (by kernel_rfl) (by kernel_rfl) ?_
      clear hiw iw
      simp only [List.take_succ_cons, List.take_zero, List.drop_succ_cons, List.drop_zero]
      repeat (quiet_step (first
        | ((with_reducible refine (SM1.out _ (HF1.out _)).mono ?_); rintro e w'' ⟨rfl, hk⟩; exact ⟨rfl, HF2.out _ ((HF1.out _).trans0 hk)⟩)
        | ((with_reducible refine (SM2.out _ (HF1.out _)).mono ?_); rintro e w'' ⟨rfl, hk⟩; exact ⟨rfl, HF2.out _ ((HF1.out _).trans0 hk)⟩)))
      refine wpQuiet_nil ?_
      intro i
      have hkr := Lib.hid (K9.out.trans0 (HF1.out i))
      clear HF1 HF2 hw1 hw2 huu r1 r2 r3
      generalize f i = w10 at *
      clear i f SM1 SM2
      go_wp2_with fail
      refine (known_true _).mono ?_
      rintro q w11 ⟨rfl, hk7⟩
      have K11 := Lib.hid (hkr.out.trans0 hk7); clear hk7
      go_wp2
      go_ret
      exact ⟨rfl, K11.out⟩
    · have t0 : decide (0 < s.size) = true := decide_eq_true (by omega)
      have hix : ∀ W, (Instr.index 9 (.string s) (.int .i64 ((s.size : Int) - 1))).run Try.prog W = .ok (.int .u8 (byt s (s.size - 1) : Nat)) W := fun W => by
        rw [run_index_string (P := Try.prog) W 9 s .i64 _ Try.underlying9, dif_pos (by omega)]
        congr 2
        rw [byt_at]
        congr 2
        omega
      have hib := byt_lt s (s.size - 1)
      by_cases h13 : byt s (s.size - 1) = 13
      · have t1 : (((byt s (s.size - 1) : Nat) : Int) == 13) = true := by simp; omega
        have hcr : endsCR s = true := decide_eq_true (by omega)
        have hdd : hd = nS - 1 := by rw [HDEF.out, if_pos hcr]
        have hn1 : 1 ≤ nS := by obtain ⟨x, _, h⟩ := HLAW.out; exact h hcr
        have hsub : (nS : Int) - 1 = (hd : Int) := by omega
        have HDD := Lib.hid hdd; clear hdd hcr h13 h0 hn1
        generalize byt s (s.size - 1) = bl at *
        go_upto_region 16 with (fail)
        clear hix t1 hsub
        have hdd := HDD.out
        have hhd := HHN.out
        obtain ⟨x, hLU, _⟩ := HLAW.out
        have hls := NS.out
        have hlt := NT.out
        have hnU : nU = hd + 1 + nT := by rw [NU.out, hLU, NT.out]; simp; omega
        have e1 : (LU.map Value.string).take hd = (LS.map Value.string).take hd := by
          rw [← List.map_take, ← List.map_take, hLU, List.append_assoc, List.take_left' (by simp; omega)]
        have e3 : (LU.map Value.string).drop (hd + 1) = LT.map Value.string := by
          rw [← List.map_drop, hLU, List.drop_left' (by simp; omega)]
        obtain ⟨a1, c1, r1, s1, _⟩ := sub_take (P := Try.prog) 31 Try.underlying31 (fun _ => by kernel_rfl) SU9.out hcU (m := hd) (by omega) (i := (hd : Int)) (by omega)
        obtain ⟨a2, c2, r2, s2, _⟩ := sub_take (P := Try.prog) 31 Try.underlying31 (fun _ => by kernel_rfl) SS9.out hcS (m := hd) hhd (i := (hd : Int)) (by omega)
        obtain ⟨a3, c3, r3, s3, _⟩ := sub_drop (P := Try.prog) 31 Try.underlying31 (fun _ => by kernel_rfl) SU9.out (by rw [List.length_map]; exact NU.out.symm) hcU (k := hd + 1) (by omega) (i := (hd : Int) + 1) (by omega)
        rw [e3] at s3
        rw [show nU - (hd + 1) = nT by omega] at s3 r3
        rw [e1] at s1
        have SM1 := Lib.hid (fun W' (hk : Keep [] w9 W') => same_true a1 a2 c1 c2 hd _ W' (by rw [List.length_take, List.length_map, ← NS.out]; omega) (fun x hx => by obtain ⟨y, _, rfl⟩ := List.mem_map.1 (List.mem_of_mem_take hx); exact ⟨y, rfl⟩) (s1.keep0 hk) (s2.keep0 hk) (by omega))
        have SM2 := Lib.hid (fun W' (hk : Keep [] w9 W') => same_true a3 adT c3 cT nT _ W' (by rw [List.length_map]; exact NT.out.symm) (fun x hx => by obtain ⟨y, _, rfl⟩ := List.mem_map.1 hx; exact ⟨y, rfl⟩) (s3.keep0 hk) (ST.out.keep0 hk) (by omega))
        have hw1 : IntKind.i64.wrap ((hd : Int) + 1) = (hd : Int) + 1 := by rw [IntKind.wrap_i64]; omega
        have hw2 : IntKind.i64.wrap ((hd : Int) + 1 + (nT : Int)) = (nU : Int) := by rw [IntKind.wrap_i64]; omega
        have huu : ((nU : Int) != (nU : Int)) = false := by simp
        clear hdd hls hlt hLU hnU e1 e3 s1 s2 s3 hhd
        obtain ⟨J, f, hf1, hf2⟩ := kept_class w9
        obtain ⟨iw, hiw⟩ := hf2 w9.drew (Keep.refl _ _).drew
        haveI : Nonempty J := ⟨iw⟩
        have HF1 := Lib.hid hf1; have HF2 := Lib.hid hf2
        clear hf1 hf2
        refine wp_quiet_tail 34 f ⟨iw, hiw⟩ (by kernel_rfl) (by kernel_rfl) ?_
        clear hiw iw
        simp only [List.take_succ_cons, List.take_zero, List.drop_succ_cons, List.drop_zero]
        repeat (quiet_step (first
          | ((with_reducible refine (SM1.out _ (HF1.out _)).mono ?_); rintro e w'' ⟨rfl, hk⟩; exact ⟨rfl, HF2.out _ ((HF1.out _).trans0 hk)⟩)
          | ((with_reducible refine (SM2.out _ (HF1.out _)).mono ?_); rintro e w'' ⟨rfl, hk⟩; exact ⟨rfl, HF2.out _ ((HF1.out _).trans0 hk)⟩)))
        refine wpQuiet_nil ?_
        intro i
        have hkr := Lib.hid (K9.out.trans0 (HF1.out i))
        clear HF1 HF2 hw1 hw2 huu r1 r2 r3
        generalize f i = w10 at *
        clear i f SM1 SM2
        go_wp2_with fail
        refine (known_true _).mono ?_
        rintro q w11 ⟨rfl, hk7⟩
        have K11 := Lib.hid (hkr.out.trans0 hk7); clear hk7
        go_wp2
        go_ret
        exact ⟨rfl, K11.out⟩
      · have t1 : (((byt s (s.size - 1) : Nat) : Int) == 13) = false := by simp; omega
        have hcr : endsCR s = false := decide_eq_false (by omega)
        have hdd : hd = nS := by rw [HDEF.out, if_neg (by rw [hcr]; decide)]
        have HDD := Lib.hid hdd; clear hdd hcr h13 h0
        generalize byt s (s.size - 1) = bl at *
        go_upto_region 16 with (fail)
        clear hix t1
        have hdd := HDD.out
        have hhd := HHN.out
        obtain ⟨x, hLU, _⟩ := HLAW.out
        have hls := NS.out
        have hlt := NT.out
        have hnU : nU = hd + 1 + nT := by rw [NU.out, hLU, NT.out]; simp; omega
        have e1 : (LU.map Value.string).take hd = (LS.map Value.string).take hd := by
          rw [← List.map_take, ← List.map_take, hLU, List.append_assoc, List.take_left' (by simp; omega)]
        have e3 : (LU.map Value.string).drop (hd + 1) = LT.map Value.string := by
          rw [← List.map_drop, hLU, List.drop_left' (by simp; omega)]
        obtain ⟨a1, c1, r1, s1, _⟩ := sub_take (P := Try.prog) 31 Try.underlying31 (fun _ => by kernel_rfl) SU9.out hcU (m := hd) (by omega) (i := (nS : Int)) (by omega)
        obtain ⟨a2, c2, r2, s2, _⟩ := sub_take (P := Try.prog) 31 Try.underlying31 (fun _ => by kernel_rfl) SS9.out hcS (m := hd) hhd (i := (nS : Int)) (by omega)
        obtain ⟨a3, c3, r3, s3, _⟩ := sub_drop (P := Try.prog) 31 Try.underlying31 (fun _ => by kernel_rfl) SU9.out (by rw [List.length_map]; exact NU.out.symm) hcU (k := hd + 1) (by omega) (i := (nS : Int) + 1) (by omega)
        rw [e3] at s3
        rw [show nU - (hd + 1) = nT by omega] at s3 r3
        rw [e1] at s1
        have SM1 := Lib.hid (fun W' (hk : Keep [] w9 W') => same_true a1 a2 c1 c2 hd _ W' (by rw [List.length_take, List.length_map, ← NS.out]; omega) (fun x hx => by obtain ⟨y, _, rfl⟩ := List.mem_map.1 (List.mem_of_mem_take hx); exact ⟨y, rfl⟩) (s1.keep0 hk) (s2.keep0 hk) (by omega))
        have SM2 := Lib.hid (fun W' (hk : Keep [] w9 W') => same_true a3 adT c3 cT nT _ W' (by rw [List.length_map]; exact NT.out.symm) (fun x hx => by obtain ⟨y, _, rfl⟩ := List.mem_map.1 hx; exact ⟨y, rfl⟩) (s3.keep0 hk) (ST.out.keep0 hk) (by omega))
        have hw1 : IntKind.i64.wrap ((nS : Int) + 1) = (nS : Int) + 1 := by rw [IntKind.wrap_i64]; omega
        have hw2 : IntKind.i64.wrap ((nS : Int) + 1 + (nT : Int)) = (nU : Int) := by rw [IntKind.wrap_i64]; omega
        have huu : ((nU : Int) != (nU : Int)) = false := by simp
        clear hdd hls hlt hLU hnU e1 e3 s1 s2 s3 hhd
        obtain ⟨J, f, hf1, hf2⟩ := kept_class w9
        obtain ⟨iw, hiw⟩ := hf2 w9.drew (Keep.refl _ _).drew
        haveI : Nonempty J := ⟨iw⟩
        have HF1 := Lib.hid hf1; have HF2 := Lib.hid hf2
        clear hf1 hf2
        refine wp_quiet_tail 34 f ⟨iw, hiw⟩ (by kernel_rfl) (by kernel_rfl) ?_
        clear hiw iw
        simp only [List.take_succ_cons, List.take_zero, List.drop_succ_cons, List.drop_zero]
        repeat (quiet_step (first
          | ((with_reducible refine (SM1.out _ (HF1.out _)).mono ?_); rintro e w'' ⟨rfl, hk⟩; exact ⟨rfl, HF2.out _ ((HF1.out _).trans0 hk)⟩)
          | ((with_reducible refine (SM2.out _ (HF1.out _)).mono ?_); rintro e w'' ⟨rfl, hk⟩; exact ⟨rfl, HF2.out _ ((HF1.out _).trans0 hk)⟩)))
        refine wpQuiet_nil ?_
        intro i
        have hkr := Lib.hid (K9.out.trans0 (HF1.out i))
        clear HF1 HF2 hw1 hw2 huu r1 r2 r3
        generalize f i = w10 at *
        clear i f SM1 SM2
        go_wp2_with fail
        refine (known_true _).mono ?_
        rintro q w11 ⟨rfl, hk7⟩
        have K11 := Lib.hid (hkr.out.trans0 hk7); clear hk7
        go_wp2
        go_ret
        exact ⟨rfl, K11.out⟩
  · by_cases hzs : s.size ≤ 4000
    · have hzd : decide ((4000 : Int) < (s.size : Int)) = false := by simp; omega
      have hzd2 : decide ((4000 : Int) < (t.size : Int)) = true := by simp; omega
      go_enter Try.func8, Try.ntmps8
      go_wp2_with fail
      refine (known_true _).mono ?_
      rintro q w3 ⟨rfl, hk3⟩
      have HK3 := Lib.hid hk3; clear hk3
      go_wp2
      go_ret
      exact ⟨rfl, HK3.out⟩
    · have hzd : decide ((4000 : Int) < (s.size : Int)) = true := by simp; omega
      go_enter Try.func8, Try.ntmps8
      go_wp2_with fail
      refine (known_true _).mono ?_
      rintro q w3 ⟨rfl, hk3⟩
      have HK3 := Lib.hid hk3; clear hk3
      go_wp2
      go_ret
      exact ⟨rfl, HK3.out⟩
end Go.Proofs.Ythbcancckogloaa
