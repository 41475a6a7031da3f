/-
  Walks of the reference's Break, Count, Next, Prev, All.
-/
import Derived.Test.YthbcancckogloaaClmJ
import Derived.Test.YthbcancckogloaaQuietT
namespace Go.Proofs.Ythbcancckogloaa
open Go.RowKit
set_option linter.unusedVariables false
set_option linter.unusedSimpArgs false

theorem NewSl.at_ {e : TypeId} {sz n : Nat} {cs : List Value} {w : World} {r : Ending} {w' : World} (h : NewSl e sz n cs w r w') : ∃ ad cap, r = .returned (.slice ad n cap) ∧ SlAt w' (.slice ad n cap) n cs ∧ Keep [] w w' ∧ w'.ownsRow w.heap.size e sz (.slice ad n cap) n cs := by
  obtain ⟨v, rfl, ho, hk, _⟩ := h
  have hs := SlAt.of_owns ho
  obtain ⟨ad, cap, rfl⟩ := hs.empty
  exact ⟨ad, cap, rfl, hs, hk, ho⟩
theorem ints_at {l : List Nat} {k p : Nat} (h : l[k]? = some p) : (ints l)[k]? = some (.int .i64 p) := by unfold ints; rw [List.getElem?_map, h]; rfl
theorem brk_len (s : ByteArray) : (brk s).length ≤ s.size + 1 := by
  unfold brk
  split
  · simp
  · have h1 := List.length_filter_le (isb s) (cut s 0)
    have h2 := cut_len_le s 0 (Nat.zero_le _)
    rw [List.length_append, List.length_singleton]; omega
/-- Is a number a break? -/
def brkI (s : ByteArray) (a : Int) : Bool := (brk s).any fun p => decide ((p : Int) = a)

set_option maxHeartbeats 4000000 in
theorem rbreak_any (s : ByteArray) (a : Int) (w : World) (hz : s.size ≤ 1073741823) :
    Calls Try.prog 16 #[.string s, .int .i64 a] w fun e w' => e = .returned (.bool (brkI s a)) ∧ Keep [] w w' := by
  have hbl := brk_len s
  go_enter Try.func16, Try.ntmps16
  go_wp2_with fail
  refine (rbreaks_any s w hz).mono ?_
  intro r w1 hN
  obtain ⟨ad, cap, rfl, hs, hk, _⟩ := hN.at_
  obtain ⟨_, _, he, _, hc⟩ := hs
  cases he
  have HC := Lib.hid hc; have HK := Lib.hid hk
  clear hN hc hk
  obtain ⟨n, hn⟩ : ∃ n, n = (brk s).length := ⟨_, rfl⟩
  rw [← hn] at hbl HC ⊢
  have HN := Lib.hid hn; clear hn
  go_wp2
  go_loopw [6] (fun i W => ∃ k : Nat, k ≤ n ∧ i = .int .i64 k ∧ w1 = W ∧ ∀ j p, j < k → (brk s)[j]? = some p → (p : Int) ≠ a) (fun i _ => n - (intOf i).toNat)
  case atStart => exact ⟨0, by omega, rfl, rfl, fun j p h => by omega⟩
  case round =>
    obtain ⟨k, hk, rfl, rfl, hno⟩ := hrel
    have HNO := Lib.hid hno; clear hno
    by_cases hlt : k < n
    · have hltd : decide (k < n) = true := by simpa using hlt
      have hkl : k < (brk s).length := by rw [← HN.out]; exact hlt
      have hke := List.getElem?_eq_getElem hkl
      obtain ⟨b, off, rfl, hcs⟩ := HC.out (by omega)
      have c0 := hcs k _ (ints_at hke)
      have HE := Lib.hid hke
      clear hcs hke
      generalize (brk s)[k] = p at *
      by_cases hpa : (p : Int) = a
      · have hpd : ((p : Int) == a) = true := by simpa using hpa
        have HR : Hid (brkI s a = true) := Lib.hid (List.any_eq_true.2 ⟨p, List.mem_of_getElem? HE.out, by simpa using hpa⟩)
        clear hpa
        go_wp2
        go_ret
        exact ⟨by rw [HR.out]; rfl, HK.out⟩
      · have hpd : ((p : Int) == a) = false := by simpa using hpa
        have HNO2 : Hid (∀ j q, j < k + 1 → (brk s)[j]? = some q → (q : Int) ≠ a) := Lib.hid fun j q hj hq => by
          by_cases e : j = k
          · subst e; rw [HE.out] at hq; cases hq; exact hpa
          · exact HNO.out j q (by omega) hq
        clear hpa
        go_wp2
        exact ⟨⟨k + 1, by omega, by go_num, by trivial, HNO2.out⟩, by simp [intOf]; omega⟩
    · have hltd : decide (k < n) = false := by simpa using hlt
      have HR : Hid (brkI s a = false) := Lib.hid (List.any_eq_false.2 fun p hp => by
        obtain ⟨j, hj, rfl⟩ := List.mem_iff_getElem.1 hp
        simpa using HNO.out j _ (by have := HN.out; omega) (List.getElem?_eq_getElem hj))
      go_wp2
      go_ret
      exact ⟨by rw [HR.out]; rfl, HK.out⟩

theorem brk_pos (s : ByteArray) : 1 ≤ (brk s).length := List.length_pos_of_mem (brk_zero s)
theorem clumps_len (s : ByteArray) : (clumps s).length = (brk s).length - 1 := prs_len _
theorem rcount2_any (s : ByteArray) (w : World) (hz : s.size ≤ 1073741823) :
    Calls Try.prog 18 #[.string s] w fun e w' => e = .returned (.int .i64 ((clumps s).length : Nat)) ∧ Keep [] w w' := by
  have hbl := brk_len s
  have hbp := brk_pos s
  have hcl := clumps_len s
  go_enter Try.func18, Try.ntmps18
  go_wp2_with fail
  refine (rbreaks_any s w hz).mono ?_
  intro r w1 hN
  obtain ⟨ad, cap, rfl, hs, hk, _⟩ := hN.at_
  have HK := Lib.hid hk
  clear hN hk hs
  have hcc : ((brk s).length : Int) - 1 = ((clumps s).length : Int) := by omega
  have HCC := Lib.hid hcc
  clear hcc hcl
  generalize (brk s).length = n at *
  go_wp2
  go_ret
  exact ⟨by rw [← HCC.out]; rfl, HK.out⟩

set_option maxHeartbeats 4000000 in
theorem rnext_any (s : ByteArray) (a : Int) (w : World) (hz : s.size ≤ 1073741823) :
    Calls Try.prog 25 #[.string s, .int .i64 a] w fun e w' => e = .returned (.int .i64 (nxtB s a : Nat)) ∧ Keep [] w w' := by
  have hbl := brk_len s
  go_enter Try.func25, Try.ntmps25
  go_wp2_with fail
  refine (rbreaks_any s w hz).mono ?_
  intro r w1 hN
  obtain ⟨ad, cap, rfl, hs, hk, _⟩ := hN.at_
  obtain ⟨_, _, he, _, hc⟩ := hs
  cases he
  have HC := Lib.hid hc; have HK := Lib.hid hk
  clear hN hc hk
  obtain ⟨n, hn⟩ : ∃ n, n = (brk s).length := ⟨_, rfl⟩
  rw [← hn] at hbl HC ⊢
  have HN := Lib.hid hn; clear hn
  go_wp2
  go_loopw [6] (fun i W => ∃ k : Nat, k ≤ n ∧ i = .int .i64 k ∧ w1 = W ∧ ∀ j p, j < k → (brk s)[j]? = some p → ¬ a < (p : Int)) (fun i _ => n - (intOf i).toNat)
  case atStart => exact ⟨0, by omega, rfl, rfl, fun j p h => by omega⟩
  case round =>
    obtain ⟨k, hk, rfl, rfl, hno⟩ := hrel
    have HNO := Lib.hid hno; clear hno
    by_cases hlt : k < n
    · have hltd : decide (k < n) = true := by simpa using hlt
      have hkl : k < (brk s).length := by rw [← HN.out]; exact hlt
      have hke := List.getElem?_eq_getElem hkl
      obtain ⟨b, off, rfl, hcs⟩ := HC.out (by omega)
      have c0 := hcs k _ (ints_at hke)
      have hkv : (brk s)[k] = (brk s)[k]?.getD 0 := by rw [hke]; rfl
      have HE := Lib.hid hke
      clear hcs hke hkv
      by_cases hpa : a < ((brk s)[k] : Int)
      · have HR : Hid (nxtB s a = (brk s)[k]) := Lib.hid (by
          unfold nxtB
          rw [List.find?_eq_some_iff_getElem.2 ⟨by simpa using hpa, k, hkl, rfl, fun j hj => by
            have := HNO.out j _ hj (List.getElem?_eq_getElem (by omega)); simpa using this⟩]
          rfl)
        generalize (brk s)[k] = p at *
        have hpd : decide (a < (p : Int)) = true := by simpa using hpa
        clear hpa
        go_wp2
        go_ret
        exact ⟨by rw [HR.out]; rfl, HK.out⟩
      · generalize (brk s)[k] = p at *
        have hpd : decide (a < (p : Int)) = false := by simpa using hpa
        have HNO2 : Hid (∀ j q, j < k + 1 → (brk s)[j]? = some q → ¬ a < (q : Int)) := Lib.hid fun j q hj hq => by
          by_cases e : j = k
          · subst e; rw [HE.out] at hq; cases hq; exact hpa
          · exact HNO.out j q (by omega) hq
        clear hpa
        go_wp2
        exact ⟨⟨k + 1, by omega, by go_num, by trivial, HNO2.out⟩, by simp [intOf]; omega⟩
    · have hltd : decide (k < n) = false := by simpa using hlt
      have HR : Hid (nxtB s a = s.size) := Lib.hid (by
        unfold nxtB
        rw [List.find?_eq_none.2 fun p hp => by
          obtain ⟨j, hj, rfl⟩ := List.mem_iff_getElem.1 hp
          simpa using HNO.out j _ (by have := HN.out; omega) (List.getElem?_eq_getElem hj)]
        rfl)
      go_wp2
      go_ret
      exact ⟨by rw [HR.out]; rfl, HK.out⟩

/-- The last of the first k breaks below a number. -/
def prvK (s : ByteArray) (a : Int) (k : Nat) : Nat := (((brk s).take k).reverse.find? (fun p : Nat => decide ((p : Int) < a))).getD 0
theorem prvK_step {s : ByteArray} {a : Int} {k p : Nat} (h : (brk s)[k]? = some p) : prvK s a (k + 1) = if (p : Int) < a then p else prvK s a k := by
  unfold prvK
  rw [List.take_add_one, h, List.reverse_append]
  show ((p :: ((brk s).take k).reverse).find? _).getD 0 = _
  by_cases hp : (p : Int) < a
  · rw [List.find?_cons_of_pos (by simpa using hp), if_pos hp]; rfl
  · rw [List.find?_cons_of_neg (by simpa using hp), if_neg hp]
theorem prvK_all {s : ByteArray} {a : Int} {k : Nat} (h : (brk s).length ≤ k) : prvK s a k = prvB s a := by
  unfold prvK prvB
  rw [List.take_of_length_le h]
set_option maxHeartbeats 4000000 in
theorem rprev_any (s : ByteArray) (a : Int) (w : World) (hz : s.size ≤ 1073741823) :
    Calls Try.prog 27 #[.string s, .int .i64 a] w fun e w' => e = .returned (.int .i64 (prvB s a : Nat)) ∧ Keep [] w w' := by
  have hbl := brk_len s
  go_enter Try.func27, Try.ntmps27
  go_wp2_with fail
  refine (rbreaks_any s w hz).mono ?_
  intro r w1 hN
  obtain ⟨ad, cap, rfl, hs, hk, _⟩ := hN.at_
  obtain ⟨_, _, he, _, hc⟩ := hs
  cases he
  have HC := Lib.hid hc; have HK := Lib.hid hk
  clear hN hc hk
  obtain ⟨n, hn⟩ : ∃ n, n = (brk s).length := ⟨_, rfl⟩
  rw [← hn] at hbl HC ⊢
  have HN := Lib.hid hn; clear hn
  go_wp2
  go_loopw [6, 7] (fun o i W => ∃ k m : Nat, k ≤ n ∧ o = .int .i64 m ∧ i = .int .i64 k ∧ w1 = W ∧ m = prvK s a k) (fun _ i _ => n - (intOf i).toNat)
  case atStart => exact ⟨0, 0, by omega, rfl, rfl, rfl, rfl⟩
  case round =>
    obtain ⟨k, m, hk, rfl, rfl, rfl, hm⟩ := hrel
    have HM := Lib.hid hm; clear hm
    by_cases hlt : k < n
    · have hltd : decide (k < n) = true := by simpa using hlt
      have hkl : k < (brk s).length := by rw [← HN.out]; exact hlt
      have hke := List.getElem?_eq_getElem hkl
      obtain ⟨b, off, rfl, hcs⟩ := HC.out (by omega)
      have c0 := hcs k _ (ints_at hke)
      have HE := Lib.hid (prvK_step (a := a) hke)
      clear hcs hke
      generalize (brk s)[k] = p at *
      by_cases hpa : (p : Int) < a
      · have hpd : decide ((p : Int) < a) = true := by simpa using hpa
        have HE2 := Lib.hid (HE.out.trans (if_pos hpa))
        clear hpa
        go_wp2
        exact ⟨⟨k + 1, p, by omega, rfl, by go_num, by trivial, HE2.out.symm⟩, by simp [intOf]; omega⟩
      · have hpd : decide ((p : Int) < a) = false := by simpa using hpa
        have HE2 := Lib.hid ((HE.out.trans (if_neg hpa)).trans HM.out.symm)
        clear hpa
        go_wp2
        exact ⟨⟨k + 1, m, by omega, rfl, by go_num, by trivial, HE2.out.symm⟩, by simp [intOf]; omega⟩
    · have hltd : decide (k < n) = false := by simpa using hlt
      have HR := Lib.hid (HM.out.trans (prvK_all (s := s) (a := a) (k := k) (by rw [← HN.out]; omega)))
      go_wp2
      go_ret
      exact ⟨by rw [← HR.out]; rfl, HK.out⟩

theorem info_strb : (Try.prog.info? 9).map (fun i => (i.zero, i.size, i.bytes)) = some (some (.string ByteArray.empty), 1, 16) := by kernel_rfl
theorem slice_str2 (s : ByteArray) {a p : Nat} (h1 : a ≤ p) (h2 : p ≤ s.size) (w : World) : (Instr.slice 9 (.string s) (some (.int .i64 a)) (some (.int .i64 p)) none).run Try.prog w = .ok (.string (s.extract a p)) w := by
  rw [run_slice_string_if _ _ _ _ _ _ _ Try.underlying9, if_pos (by omega), if_pos (by omega)]; rfl
/-- The clumps' texts in memory. -/
def cluV (s : ByteArray) : List Value := (clumps s).map fun q => .string (s.extract q.1 q.2)
theorem brk_rise {s : ByteArray} {k a b : Nat} (h1 : (brk s)[k]? = some a) (h2 : (brk s)[k + 1]? = some b) : a < b ∧ b ≤ s.size := by
  refine ⟨?_, brk_le (List.mem_of_getElem? h2)⟩
  have := List.pairwise_iff_getElem.1 (brk_sorted s)
  obtain ⟨i1, rfl⟩ := List.getElem?_eq_some_iff.1 h1
  obtain ⟨i2, rfl⟩ := List.getElem?_eq_some_iff.1 h2
  exact this _ _ i1 i2 (by omega)
set_option maxHeartbeats 8000000 in
theorem rall_any (s : ByteArray) (w : World) (hz : s.size ≤ 1073741823) :
    Calls Try.prog 19 #[.string s] w (NewSl 9 1 (clumps s).length (cluV s) w) := by
  have hbl := brk_len s
  have hbp := brk_pos s
  have hcl := clumps_len s
  obtain ⟨i0, hi, hz0, hz1, hz2⟩ := info_parts info_strb
  have HI := Lib.hid hi; have HZ0 := Lib.hid hz0; have HZ1 := Lib.hid hz1; have HZ2 := Lib.hid hz2
  clear hi hz0 hz1 hz2
  go_enter Try.func19, Try.ntmps19
  go_wp2_with fail
  refine (rbreaks_any s w hz).mono ?_
  intro r w1 hN
  obtain ⟨ad, cap, rfl, hs, hk, _⟩ := hN.at_
  obtain ⟨_, _, he, _, hc⟩ := hs
  cases he
  have HC := Lib.hid hc; have HK := Lib.hid hk
  clear hN hc hk
  obtain ⟨n, hn⟩ : ∃ n, n = (brk s).length := ⟨_, rfl⟩
  rw [← hn] at hbl hbp hcl HC ⊢
  have HN := Lib.hid hn; have HCL := Lib.hid hcl; clear hn hcl
  go_wp2
  go_loopw [4, 5] (fun v i W => ∃ k : Nat, k + 1 ≤ n ∧ i = .int .i64 k ∧ W.ownsRow w1.heap.size 9 1 v k ((cluV s).take k) ∧ Keep [] w1 W ∧ (v = .slice none 0 0 ↔ k = 0)) (fun _ i _ => n - (intOf i).toNat)
  case atStart => exact ⟨0, by omega, rfl, World.ownsRow_nil _ _ _ _, Keep.refl _ _, by simp⟩
  case round =>
    obtain ⟨k, hk, rfl, ho, hkp, hnn⟩ := hrel
    have HO := Lib.hid ho; have HK1 := Lib.hid hkp; have HNN := Lib.hid hnn; clear ho hkp hnn
    by_cases hlt : k + 1 < n
    · have hltd : decide ((k : Int) + 1 < (n : Int)) = true := by simp; omega
      have hkl : k < (brk s).length := by rw [← HN.out]; omega
      have hkl2 : k + 1 < (brk s).length := by rw [← HN.out]; omega
      have hke := List.getElem?_eq_getElem hkl
      have hke2 := List.getElem?_eq_getElem hkl2
      obtain ⟨b, off, rfl, hcs⟩ := HC.out (by omega)
      have c0 := HK1.out.cellv (hcs k _ (ints_at hke)) (by simp)
      have c1 := HK1.out.cellv (hcs (k + 1) _ (ints_at hke2)) (by simp)
      obtain ⟨hrise, hle⟩ := brk_rise hke hke2
      have hcu : (cluV s).take (k + 1) = (cluV s).take k ++ [.string (s.extract (brk s)[k] (brk s)[k + 1])] := by
        have := prs_get _ _ _ _ hke hke2
        rw [List.take_add_one]
        unfold cluV clumps
        rw [List.getElem?_map, this]; rfl
      have HCU := Lib.hid hcu
      clear hcs hke hke2 hcu
      generalize (brk s)[k] = a at *
      generalize (brk s)[k + 1] = p at *
      have hsl := fun W => slice_str2 s (Nat.le_of_lt hrise) hle W
      have hsz := HK1.out.size
      have hw1 : IntKind.i64.wrap ((k : Int) + 1) = (k : Int) + 1 := by rw [IntKind.wrap_i64]; omega
      have hkn : (k : Int) < (n : Int) := by omega
      have hkn1 : (k : Int) + 1 < (n : Int) := by omega
      have hk0 : (0 : Int) ≤ (k : Int) + 1 := by omega
      have hkt : ((k : Int) + 1).toNat = k + 1 := by omega
      go_wp2_with fail
      refine wp_quiet_tail1 11 (fun _ : Unit => wr.drew) ⟨(), rfl⟩ (by kernel_rfl) (by kernel_rfl) rfl _ (fun _ _ _ h => h) (.inl ⟨rfl, fun _ => rfl⟩) ?_
      simp only [List.take_succ_cons, List.take_zero, List.drop_succ_cons, List.drop_zero]
      repeat (quiet_step (fail))
      refine wpQuiet_nil ?_
      intro _
      clear hsl
      go_wp2_with (with_reducible refine park_append 15 27 _ rfl ?_)
      refine wpList_append_mine _ rfl (.tmp 15) (.tmp 27) 31 rfl w1.heap.size 9 i0 (.string ByteArray.empty) 1 16 Try.underlying31 HI.out HZ0.out HZ1.out HZ2.out rfl (by decide) _ k _ rfl ((show wr.drew.ownsRow _ _ _ _ _ _ from HO.out).alloc _) ⟨wr.heap.size, 0, none⟩ 1 1 [.string (s.extract a p)] rfl rfl (cell_new_row _ _ _) (by simp [Value.oneCell']) (by unfold maxLen; omega) (by omega) (by simp; omega) ?_
      intro v' W3 hp2
      have hfin := Lib.hid (own_next HO.out HK1.out (((Keep.refl _ _).drew).alloc _) hp2 (by omega)); clear hp2
      go_wp2
      exact ⟨⟨k + 1, by omega, by go_num, by rw [HCU.out]; exact hfin.out.1, hfin.out.2.1, hfin.out.2.2⟩, by simp [intOf]; omega⟩
    · have hltd : decide ((k : Int) + 1 < (n : Int)) = false := by simp; omega
      have hkc : k = (clumps s).length := by have := HCL.out; omega
      have HKC := Lib.hid hkc; clear hkc
      have hsz := HK1.out.size
      have hb0 := HK.out.size
      have HB0 := Lib.hid hb0; clear hb0
      go_wp2
      go_ret
      have ho := HO.out
      rw [List.take_of_length_le (by rw [HKC.out]; simp [cluV])] at ho
      rw [← HKC.out]
      exact ⟨_, rfl, owns_mono ho HB0.out, HK.out.trans0 HK1.out, HNN.out⟩
end Go.Proofs.Ythbcancckogloaa
