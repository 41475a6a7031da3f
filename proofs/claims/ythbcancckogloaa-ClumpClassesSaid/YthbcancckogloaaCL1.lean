/-
  ClumpClasses, walked.
-/
import Derived.Test.YthbcancckogloaaClmL
import Derived.Test.YthbcancckogloaaClmB
import Derived.Test.YthbcancckogloaaClmK
import Derived.Test.YthbcancckogloaaQuietT
namespace Go.Proofs.Ythbcancckogloaa
open Go.RowKit
set_option linter.unusedVariables false
set_option linter.unusedSimpArgs false

theorem wrap32_range (x : Int) : -2147483648 ≤ wrap32 x ∧ wrap32 x ≤ 2147483647 := by unfold wrap32; omega
theorem runs_i32 (s : ByteArray) : ∀ x ∈ runs s 0, -2147483648 ≤ x ∧ x ≤ 2147483647 := by
  intro x hx
  have := runs_valid s 0 x hx
  simp only [Utf8.valid, Bool.or_eq_true, Bool.and_eq_true, decide_eq_true_eq] at this
  omega
theorem runs_len2 (s : ByteArray) : (runs s 0).length ≤ s.size := by
  have := cut_len_le s 0 (Nat.zero_le _)
  unfold runs
  rw [List.length_map]; omega
set_option maxRecDepth 100000 in
set_option maxHeartbeats 8000000 in
theorem clumpClasses_walk (r : Int) (s : ByteArray) (w : World) (hr : -2147483648 ≤ r ∧ r ≤ 2147483647) (hs : s.size ≤ maxLen) :
    Calls Try.prog 3 #[.int .i32 r, .string s] w fun e w' => e = .returned (.bool true) ∧ Keep [] w w' := by
  unfold maxLen at hs
  by_cases hz : s.size ≤ 20000
  · have hzd : decide ((20000 : Int) < (s.size : Int)) = false := by simp; omega
    go_enter Try.func3, Try.ntmps3
    go_wp2
    go_loopw [5] (fun d W => ∃ k : Nat, k ≤ 5 ∧ d = .int .i32 ((k : Int) - 2) ∧ Keep [] w W) (fun d _ => (3 - intOf d).toNat)
    case atStart => exact ⟨0, by omega, rfl, Keep.refl _ _⟩
    case round =>
      obtain ⟨k, hk, rfl, hkp⟩ := hrel
      have HK := Lib.hid hkp; clear hkp
      by_cases hlt : k < 5
      · have hltd : decide ((k : Int) - 2 ≤ 2) = true := by simp; omega
        go_wp2_with fail
        obtain ⟨hx0, hx1⟩ := wrap32_range (r + ((k : Int) - 2))
        refine (class_any _ _ hx0 hx1).mono ?_
        rintro e w1 ⟨rfl, hk1⟩
        have K1 := Lib.hid (HK.out.trans0 hk1); clear hk1
        go_wp2_with fail
        refine (rclass_any _ _ hx0 hx1).mono ?_
        rintro e w2 ⟨rfl, hk2⟩
        have K2 := Lib.hid (K1.out.trans0 hk2); clear hk2
        generalize cls (wrap32 (r + ((k : Int) - 2))) = cx at *
        have hcc : (cx != cx) = false := by simp
        go_wp2
        exact ⟨⟨k + 1, by omega, by congr 1; omega, K2.out⟩, by simp [intOf]; omega⟩
      · have hltd : decide ((k : Int) - 2 ≤ 2) = false := by simp; omega
        rename World => wc
        have hrl := runs_len2 s
        have HR := Lib.hid (runs_i32 s)
        clear hlt hk
        go_wp2_with fail
        refine (rrunes_any s _ (by omega)).mono ?_
        intro q w1 hN
        have hlen : (runs s 0).length = (runs s 0).length := rfl
        obtain ⟨ad, cap, rfl, hsl, hk1, _⟩ := hN.at_
        obtain ⟨_, _, he, _, hc⟩ := hsl
        cases he
        have HC := Lib.hid hc; have K1 := Lib.hid (HK.out.trans0 hk1)
        clear hN hc hk1 hlen
        obtain ⟨n, hn⟩ : ∃ n, n = (runs s 0).length := ⟨_, rfl⟩
        rw [← hn] at HC hrl ⊢
        have HN := Lib.hid hn; clear hn
        go_wp2
        go_loopw [7] (fun i W => ∃ k : Nat, k ≤ n ∧ i = .int .i64 k ∧ Keep [] w1 W) (fun i _ => n - (intOf i).toNat)
        case atStart => exact ⟨0, by omega, rfl, Keep.refl _ _⟩
        case round =>
          rename World => w2
          obtain ⟨k, hk, rfl, hkp⟩ := hrel
          by_cases hlt : k < n
          · have hltd2 : decide (k < n) = true := by simpa using hlt
            have hkl : k < (runs s 0).length := by rw [← HN.out]; exact hlt
            have hke := List.getElem?_eq_getElem hkl
            obtain ⟨b, off, rfl, hcs⟩ := HC.out (by omega)
            have c0 := hkp.cellv (hcs k _ (by rw [List.getElem?_map, hke]; rfl)) (by simp)
            obtain ⟨hx0, hx1⟩ := HR.out _ (List.getElem_mem hkl)
            have HK2 := Lib.hid hkp
            clear hcs hke hkp
            generalize (runs s 0)[k] = x at *
            obtain ⟨I, f, hf1, hf2⟩ := kept_class w2
            have q0 : ∀ i, (f i).cell? _ = _ := fun i => (hf1 i).cellv c0 (by simp)
            obtain ⟨iw, hiw⟩ := hf2 w2.drew (Keep.refl _ _).drew
            haveI : Nonempty I := ⟨iw⟩
            have HF1 := Lib.hid hf1; have HF2 := Lib.hid hf2
            have hkn : (k : Int) < (n : Int) := by omega
            clear c0 hf1 hf2
            go_wp2_with fail
            refine wp_quiet_tail 10 f ⟨iw, hiw⟩ (by kernel_rfl) (by kernel_rfl) ?_
            clear hiw iw
            simp only [List.take_succ_cons, List.take_zero, List.drop_succ_cons, List.drop_zero]
            repeat (quiet_step (first | (refine (class_any x _ hx0 hx1).mono ?_; rintro e w'' ⟨rfl, hk⟩; exact ⟨rfl, HF2.out _ ((HF1.out _).trans0 hk)⟩) | (refine (rclass_any x _ hx0 hx1).mono ?_; rintro e w'' ⟨rfl, hk⟩; exact ⟨rfl, HF2.out _ ((HF1.out _).trans0 hk)⟩)))
            refine wpQuiet_nil ?_
            intro i
            have hkq := Lib.hid (HK2.out.trans0 (HF1.out i))
            clear q0 HF1 HF2
            generalize f i = wq at *
            generalize cls x = cx at *
            clear i f
            have hcc : (cx != cx) = false := by simp
            go_wp2
            exact ⟨⟨k + 1, by omega, by go_num, hkq.out⟩, by simp [intOf]; omega⟩
          · have hltd2 : decide (k < n) = false := by simpa using hlt
            have HK2 := Lib.hid (K1.out.trans0 hkp); clear hkp
            go_wp2_with fail
            refine (known_true _).mono ?_
            rintro q w3 ⟨rfl, hk3⟩
            have HK3 := Lib.hid hk3; clear hk3
            go_wp2
            go_ret
            exact ⟨rfl, HK2.out.trans0 HK3.out⟩
  · have hzd : decide ((20000 : Int) < (s.size : Int)) = true := by simp; omega
    go_enter Try.func3, Try.ntmps3
    go_wp2_with fail
    refine (known_true _).mono ?_
    rintro q w3 ⟨rfl, hk3⟩
    have HK3 := Lib.hid hk3; clear hk3
    go_wp2
    go_ret
    exact ⟨rfl, HK3.out⟩
end Go.Proofs.Ythbcancckogloaa
