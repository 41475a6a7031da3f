/-
  Walks of the reference's in, Class.
-/
import Derived.Test.YthbcancckogloaaAppend
import Derived.Test.YthbcancckogloaaSl
import Derived.Test.YthbcancckogloaaClmA
namespace Go.Proofs.Ythbcancckogloaa
open Go.RowKit
set_option linter.unusedVariables false
set_option linter.unusedSimpArgs false

theorem inL_step {r : Int} {l : List Int} {m : Nat} {a b : Int} (ha : l[2 * m]? = some a) (hb : l[2 * m + 1]? = some b) : inL r (l.drop (2 * m)) = ((decide (a ≤ r) && decide (r ≤ b)) || inL r (l.drop (2 * (m + 1)))) := by
  obtain ⟨h1, rfl⟩ := List.getElem?_eq_some_iff.1 ha
  obtain ⟨h2, rfl⟩ := List.getElem?_eq_some_iff.1 hb
  rw [List.drop_eq_getElem_cons h1, List.drop_eq_getElem_cons h2]
  rw [show 2 * m + 1 + 1 = 2 * (m + 1) by omega]
  rfl
theorem inL_short {r : Int} {l : List Int} {m : Nat} (h : l.length ≤ 2 * m + 1) : inL r (l.drop (2 * m)) = false := by
  have : (l.drop (2 * m)).length ≤ 1 := by rw [List.length_drop]; omega
  match hd : l.drop (2 * m), this with
  | [], _ => rfl
  | [x], _ => rfl
  | x :: y :: t, h => simp at h

set_option maxHeartbeats 4000000 in
theorem in_any (r : Int) (v : Value) (l : List Int) (w : World) (h : SlAt w v l.length (l.map (.int .i32))) (hl : l.length ≤ 1073741824) :
    Calls Try.prog 32 #[.int .i32 r, v] w fun e w' => e = .returned (.bool (inL r l)) ∧ w = w' := by
  obtain ⟨ad, cap, rfl, _, hc⟩ := h
  have HC := Lib.hid hc; clear hc
  obtain ⟨n, hn⟩ : ∃ n, n = l.length := ⟨_, rfl⟩
  rw [← hn] at HC hl ⊢
  have HN := Lib.hid hn; clear hn
  go_enter Try.func32, Try.ntmps32
  go_wp2
  go_loopw [5] (fun i W => ∃ m : Nat, 2 * m ≤ n + 1 ∧ i = .int .i64 (2 * m : Nat) ∧ w = W ∧ inL r (l.drop (2 * m)) = inL r l) (fun i _ => n + 2 - (intOf i).toNat)
  case atStart => exact ⟨0, by omega, rfl, rfl, by simp⟩
  case round =>
    obtain ⟨m, hm, rfl, rfl, hin⟩ := hrel
    have HIN := Lib.hid hin; clear hin
    by_cases hlt : 2 * m + 1 < n
    · obtain ⟨b, off, rfl, hcell⟩ := HC.out (by omega)
      have hl1 : 2 * m < l.length := by rw [← HN.out]; omega
      have hl2 : 2 * m + 1 < l.length := by rw [← HN.out]; omega
      have ha := List.getElem?_eq_getElem hl1
      have hb := List.getElem?_eq_getElem hl2
      have c0 := hcell (2 * m) (.int .i32 l[2 * m]) (by rw [List.getElem?_map, ha]; rfl)
      have c1 := hcell (2 * m + 1) (.int .i32 l[2 * m + 1]) (by rw [List.getElem?_map, hb]; rfl)
      have hst := inL_step (r := r) ha hb
      rw [HIN.out] at hst
      have HST := Lib.hid hst
      clear hcell ha hb hst
      generalize l[2 * m] = a at *
      generalize l[2 * m + 1] = c at *
      obtain ⟨k, hk⟩ : ∃ k, k = 2 * m := ⟨_, rfl⟩
      rw [← hk] at c0 c1 hlt hm ⊢
      have HK := Lib.hid hk
      clear hk hl1 hl2
      have hlt' : decide ((k : Int) + 1 < n) = true := by simp; omega
      by_cases h1 : a ≤ r
      · have h1d : decide (a ≤ r) = true := by simpa using h1
        by_cases h2 : r ≤ c
        · have h2d : decide (r ≤ c) = true := by simpa using h2
          go_wp2
          go_ret
          exact ⟨by rw [HST.out, h1d, h2d]; rfl, rfl⟩
        · have h2d : decide (r ≤ c) = false := by simpa using h2
          go_wp2
          exact ⟨⟨m + 1, by have := HK.out; omega, by have := HK.out; go_num, by trivial, by rw [HST.out, h1d, h2d]; rfl⟩, by simp [intOf]; omega⟩
      · have h1d : decide (a ≤ r) = false := by simpa using h1
        go_wp2
        exact ⟨⟨m + 1, by have := HK.out; omega, by have := HK.out; go_num, by trivial, by rw [HST.out, h1d]; rfl⟩, by simp [intOf]; omega⟩
    · have hfin : Hid (inL r l = false) := Lib.hid (by rw [← HIN.out]; exact inL_short (by rw [← HN.out]; omega))
      obtain ⟨k, hk⟩ : ∃ k, k = 2 * m := ⟨_, rfl⟩
      rw [← hk] at hlt hm ⊢
      clear hk
      have hlt' : decide ((k : Int) + 1 < n) = false := by simp; omega
      go_wp2
      go_ret
      exact ⟨by rw [hfin.out]; rfl, rfl⟩
theorem in_lit (r : Int) (l : List Int) (w : World) (hl : l.length ≤ 1073741824) :
    Calls Try.prog 32 #[.int .i32 r, .slice (some ⟨w.heap.size, 0, none⟩) l.length l.length] (w.alloc (.cells (l.map (.int .i32)).toArray 21)) fun e w' => e = .returned (.bool (inL r l)) ∧ Keep [] w w' := by
  refine (in_any r _ l _ ⟨_, _, rfl, ⟨fun h => by rw [List.eq_nil_of_length_eq_zero h]; rfl, fun h => by cases h⟩, fun _ => ⟨_, _, rfl, fun i u hu => ?_⟩⟩ hl).mono fun e w' ⟨he, hw⟩ => ⟨he, by subst hw; exact (Keep.refl _ _).alloc _⟩
  rw [Nat.zero_add, cell_of_block (heap_alloc_new w _)]
  simpa using hu

set_option maxRecDepth 100000 in
set_option maxHeartbeats 8000000 in
theorem rclass_any (r : Int) (w : World) (hr0 : -2147483648 ≤ r) (hr1 : r ≤ 2147483647) :
    Calls Try.prog 12 #[.int .i32 r] w fun e w' => e = .returned (.int .i64 (cls r)) ∧ Keep [] w w' := by
  have HR := Lib.hid (cls_rcls r).symm
  unfold rcls at HR
  have IgCtl : Hid (∀ W : World, Calls Try.prog 32 #[.int .i32 r, .slice (some ⟨W.heap.size, 0, none⟩) 6 6] (W.alloc (.cells #[.int .i32 0, .int .i32 31, .int .i32 127, .int .i32 159, .int .i32 8232, .int .i32 8233] 21)) fun e w' => e = .returned (.bool (inL r gCtl)) ∧ Keep [] W w') := Lib.hid (fun W => in_lit r gCtl W (by decide))
  obtain ⟨bgCtl, hb⟩ : ∃ b, b = inL r gCtl := ⟨_, rfl⟩
  rw [← hb] at HR IgCtl
  clear hb
  have IgMark : Hid (∀ W : World, Calls Try.prog 32 #[.int .i32 r, .slice (some ⟨W.heap.size, 0, none⟩) 30 30] (W.alloc (.cells #[.int .i32 768, .int .i32 879, .int .i32 1155, .int .i32 1161, .int .i32 1425, .int .i32 1469, .int .i32 1611, .int .i32 1631, .int .i32 6832, .int .i32 6911, .int .i32 7616, .int .i32 7679, .int .i32 8204, .int .i32 8204, .int .i32 8400, .int .i32 8447, .int .i32 12330, .int .i32 12335, .int .i32 12441, .int .i32 12442, .int .i32 65024, .int .i32 65039, .int .i32 65056, .int .i32 65071, .int .i32 127995, .int .i32 127999, .int .i32 917536, .int .i32 917631, .int .i32 917760, .int .i32 917999] 21)) fun e w' => e = .returned (.bool (inL r gMark)) ∧ Keep [] W w') := Lib.hid (fun W => in_lit r gMark W (by decide))
  obtain ⟨bgMark, hb⟩ : ∃ b, b = inL r gMark := ⟨_, rfl⟩
  rw [← hb] at HR IgMark
  clear hb
  have IgFlag : Hid (∀ W : World, Calls Try.prog 32 #[.int .i32 r, .slice (some ⟨W.heap.size, 0, none⟩) 2 2] (W.alloc (.cells #[.int .i32 127462, .int .i32 127487] 21)) fun e w' => e = .returned (.bool (inL r gFlag)) ∧ Keep [] W w') := Lib.hid (fun W => in_lit r gFlag W (by decide))
  obtain ⟨bgFlag, hb⟩ : ∃ b, b = inL r gFlag := ⟨_, rfl⟩
  rw [← hb] at HR IgFlag
  clear hb
  have IgL : Hid (∀ W : World, Calls Try.prog 32 #[.int .i32 r, .slice (some ⟨W.heap.size, 0, none⟩) 4 4] (W.alloc (.cells #[.int .i32 4352, .int .i32 4447, .int .i32 43360, .int .i32 43388] 21)) fun e w' => e = .returned (.bool (inL r gL)) ∧ Keep [] W w') := Lib.hid (fun W => in_lit r gL W (by decide))
  obtain ⟨bgL, hb⟩ : ∃ b, b = inL r gL := ⟨_, rfl⟩
  rw [← hb] at HR IgL
  clear hb
  have IgV : Hid (∀ W : World, Calls Try.prog 32 #[.int .i32 r, .slice (some ⟨W.heap.size, 0, none⟩) 4 4] (W.alloc (.cells #[.int .i32 4448, .int .i32 4519, .int .i32 55216, .int .i32 55238] 21)) fun e w' => e = .returned (.bool (inL r gV)) ∧ Keep [] W w') := Lib.hid (fun W => in_lit r gV W (by decide))
  obtain ⟨bgV, hb⟩ : ∃ b, b = inL r gV := ⟨_, rfl⟩
  rw [← hb] at HR IgV
  clear hb
  have IgT : Hid (∀ W : World, Calls Try.prog 32 #[.int .i32 r, .slice (some ⟨W.heap.size, 0, none⟩) 4 4] (W.alloc (.cells #[.int .i32 4520, .int .i32 4607, .int .i32 55243, .int .i32 55291] 21)) fun e w' => e = .returned (.bool (inL r gT)) ∧ Keep [] W w') := Lib.hid (fun W => in_lit r gT W (by decide))
  obtain ⟨bgT, hb⟩ : ∃ b, b = inL r gT := ⟨_, rfl⟩
  rw [← hb] at HR IgT
  clear hb
  have IgPic : Hid (∀ W : World, Calls Try.prog 32 #[.int .i32 r, .slice (some ⟨W.heap.size, 0, none⟩) 32 32] (W.alloc (.cells #[.int .i32 169, .int .i32 169, .int .i32 174, .int .i32 174, .int .i32 8252, .int .i32 8252, .int .i32 8265, .int .i32 8265, .int .i32 8482, .int .i32 8482, .int .i32 8505, .int .i32 8505, .int .i32 8592, .int .i32 8703, .int .i32 8960, .int .i32 9215, .int .i32 9728, .int .i32 10175, .int .i32 11008, .int .i32 11263, .int .i32 12336, .int .i32 12336, .int .i32 12349, .int .i32 12349, .int .i32 12951, .int .i32 12951, .int .i32 12953, .int .i32 12953, .int .i32 126976, .int .i32 127461, .int .i32 127488, .int .i32 129791] 21)) fun e w' => e = .returned (.bool (inL r gPic)) ∧ Keep [] W w') := Lib.hid (fun W => in_lit r gPic W (by decide))
  obtain ⟨bgPic, hb⟩ : ∃ b, b = inL r gPic := ⟨_, rfl⟩
  rw [← hb] at HR IgPic
  clear hb
  go_enter Try.func12, Try.ntmps12
  by_cases h1 : r = 13
  · have h1d : (r == 13) = true := by simpa using h1
    have Hh1 := Lib.hid h1; clear h1
    go_wp2
    go_ret
    exact ⟨by rw [HR.out, if_pos Hh1.out]; rfl, Keep.refl _ _⟩
  · have h1d : (r == 13) = false := by simpa using h1
    have Hh1 := Lib.hid h1; clear h1
    by_cases h2 : r = 10
    · have h2d : (r == 10) = true := by simpa using h2
      have Hh2 := Lib.hid h2; clear h2
      go_wp2
      go_ret
      exact ⟨by rw [HR.out, if_neg (Hh1.out), if_pos Hh2.out]; rfl, Keep.refl _ _⟩
    · have h2d : (r == 10) = false := by simpa using h2
      have Hh2 := Lib.hid h2; clear h2
      go_wp2_with fail
      refine (IgCtl.out _).mono ?_
      rintro e w1 ⟨rfl, hk⟩
      have K1 := Lib.hid hk; clear hk
      cases bgCtl with
      | true =>
        go_wp2
        go_ret
        exact ⟨by rw [HR.out, if_neg (Hh1.out), if_neg (Hh2.out), if_pos trivial]; rfl, K1.out⟩
      | false =>
        by_cases h4 : r = 8205
        · have h4d : (r == 8205) = true := by simpa using h4
          have Hh4 := Lib.hid h4; clear h4
          go_wp2
          go_ret
          exact ⟨by rw [HR.out, if_neg (Hh1.out), if_neg (Hh2.out), if_neg (Bool.false_ne_true), if_pos Hh4.out]; rfl, K1.out⟩
        · have h4d : (r == 8205) = false := by simpa using h4
          have Hh4 := Lib.hid h4; clear h4
          go_wp2_with fail
          refine (IgMark.out _).mono ?_
          rintro e w2 ⟨rfl, hk⟩
          have K2 := Lib.hid hk; clear hk
          cases bgMark with
          | true =>
            go_wp2
            go_ret
            exact ⟨by rw [HR.out, if_neg (Hh1.out), if_neg (Hh2.out), if_neg (Bool.false_ne_true), if_neg (Hh4.out), if_pos trivial]; rfl, (K1.out).trans0 K2.out⟩
          | false =>
            go_wp2_with fail
            refine (IgFlag.out _).mono ?_
            rintro e w3 ⟨rfl, hk⟩
            have K3 := Lib.hid hk; clear hk
            cases bgFlag with
            | true =>
              go_wp2
              go_ret
              exact ⟨by rw [HR.out, if_neg (Hh1.out), if_neg (Hh2.out), if_neg (Bool.false_ne_true), if_neg (Hh4.out), if_neg (Bool.false_ne_true), if_pos trivial]; rfl, ((K1.out).trans0 K2.out).trans0 K3.out⟩
            | false =>
              go_wp2_with fail
              refine (IgL.out _).mono ?_
              rintro e w4 ⟨rfl, hk⟩
              have K4 := Lib.hid hk; clear hk
              cases bgL with
              | true =>
                go_wp2
                go_ret
                exact ⟨by rw [HR.out, if_neg (Hh1.out), if_neg (Hh2.out), if_neg (Bool.false_ne_true), if_neg (Hh4.out), if_neg (Bool.false_ne_true), if_neg (Bool.false_ne_true), if_pos trivial]; rfl, (((K1.out).trans0 K2.out).trans0 K3.out).trans0 K4.out⟩
              | false =>
                go_wp2_with fail
                refine (IgV.out _).mono ?_
                rintro e w5 ⟨rfl, hk⟩
                have K5 := Lib.hid hk; clear hk
                cases bgV with
                | true =>
                  go_wp2
                  go_ret
                  exact ⟨by rw [HR.out, if_neg (Hh1.out), if_neg (Hh2.out), if_neg (Bool.false_ne_true), if_neg (Hh4.out), if_neg (Bool.false_ne_true), if_neg (Bool.false_ne_true), if_neg (Bool.false_ne_true), if_pos trivial]; rfl, ((((K1.out).trans0 K2.out).trans0 K3.out).trans0 K4.out).trans0 K5.out⟩
                | false =>
                  go_wp2_with fail
                  refine (IgT.out _).mono ?_
                  rintro e w6 ⟨rfl, hk⟩
                  have K6 := Lib.hid hk; clear hk
                  cases bgT with
                  | true =>
                    go_wp2
                    go_ret
                    exact ⟨by rw [HR.out, if_neg (Hh1.out), if_neg (Hh2.out), if_neg (Bool.false_ne_true), if_neg (Hh4.out), if_neg (Bool.false_ne_true), if_neg (Bool.false_ne_true), if_neg (Bool.false_ne_true), if_neg (Bool.false_ne_true), if_pos trivial]; rfl, (((((K1.out).trans0 K2.out).trans0 K3.out).trans0 K4.out).trans0 K5.out).trans0 K6.out⟩
                  | false =>
                    by_cases h5 : 44032 ≤ r ∧ r ≤ 55203
                    · have h5a : decide (44032 ≤ r) = true := by simpa using h5.1
                      have h5b : decide (r ≤ 55203) = true := by simpa using h5.2
                      by_cases h6 : (r - 44032) % 28 = 0
                      · have h6d : ((r - 44032) % 28 == 0) = true := by simpa using h6
                        have H5 := Lib.hid h5; have H6 := Lib.hid h6; clear h6
                        go_wp2
                        go_ret
                        exact ⟨by rw [HR.out, if_neg (Hh1.out), if_neg (Hh2.out), if_neg (Bool.false_ne_true), if_neg (Hh4.out), if_neg (Bool.false_ne_true), if_neg (Bool.false_ne_true), if_neg (Bool.false_ne_true), if_neg (Bool.false_ne_true), if_neg (Bool.false_ne_true), if_pos H5.out, if_pos H6.out]; rfl, (((((K1.out).trans0 K2.out).trans0 K3.out).trans0 K4.out).trans0 K5.out).trans0 K6.out⟩
                      · have h6d : ((r - 44032) % 28 == 0) = false := by simpa using h6
                        have H5 := Lib.hid h5; have H6 := Lib.hid h6; clear h6
                        go_wp2
                        go_ret
                        exact ⟨by rw [HR.out, if_neg (Hh1.out), if_neg (Hh2.out), if_neg (Bool.false_ne_true), if_neg (Hh4.out), if_neg (Bool.false_ne_true), if_neg (Bool.false_ne_true), if_neg (Bool.false_ne_true), if_neg (Bool.false_ne_true), if_neg (Bool.false_ne_true), if_pos H5.out, if_neg H6.out]; rfl, (((((K1.out).trans0 K2.out).trans0 K3.out).trans0 K4.out).trans0 K5.out).trans0 K6.out⟩
                    have H5 := Lib.hid h5; clear h5
                    by_cases h7 : 44032 ≤ r
                    · have h7d : decide (44032 ≤ r) = true := by simpa using h7
                      have h8d : decide (r ≤ 55203) = false := by have := H5.out; simp; omega
                      go_wp2_with fail
                      refine (IgPic.out _).mono ?_
                      rintro e w7 ⟨rfl, hk⟩
                      have K7 := Lib.hid hk; clear hk
                      cases bgPic with
                      | true =>
                        go_wp2
                        go_ret
                        exact ⟨by rw [HR.out, if_neg (Hh1.out), if_neg (Hh2.out), if_neg (Bool.false_ne_true), if_neg (Hh4.out), if_neg (Bool.false_ne_true), if_neg (Bool.false_ne_true), if_neg (Bool.false_ne_true), if_neg (Bool.false_ne_true), if_neg (Bool.false_ne_true), if_neg (H5.out), if_pos trivial]; rfl, ((((((K1.out).trans0 K2.out).trans0 K3.out).trans0 K4.out).trans0 K5.out).trans0 K6.out).trans0 K7.out⟩
                      | false =>
                        go_wp2
                        go_ret
                        exact ⟨by rw [HR.out, if_neg (Hh1.out), if_neg (Hh2.out), if_neg (Bool.false_ne_true), if_neg (Hh4.out), if_neg (Bool.false_ne_true), if_neg (Bool.false_ne_true), if_neg (Bool.false_ne_true), if_neg (Bool.false_ne_true), if_neg (Bool.false_ne_true), if_neg (H5.out), if_neg (Bool.false_ne_true)]; rfl, ((((((K1.out).trans0 K2.out).trans0 K3.out).trans0 K4.out).trans0 K5.out).trans0 K6.out).trans0 K7.out⟩
                    · have h7d : decide (44032 ≤ r) = false := by simpa using h7
                      go_wp2_with fail
                      refine (IgPic.out _).mono ?_
                      rintro e w7 ⟨rfl, hk⟩
                      have K7 := Lib.hid hk; clear hk
                      cases bgPic with
                      | true =>
                        go_wp2
                        go_ret
                        exact ⟨by rw [HR.out, if_neg (Hh1.out), if_neg (Hh2.out), if_neg (Bool.false_ne_true), if_neg (Hh4.out), if_neg (Bool.false_ne_true), if_neg (Bool.false_ne_true), if_neg (Bool.false_ne_true), if_neg (Bool.false_ne_true), if_neg (Bool.false_ne_true), if_neg (H5.out), if_pos trivial]; rfl, ((((((K1.out).trans0 K2.out).trans0 K3.out).trans0 K4.out).trans0 K5.out).trans0 K6.out).trans0 K7.out⟩
                      | false =>
                        go_wp2
                        go_ret
                        exact ⟨by rw [HR.out, if_neg (Hh1.out), if_neg (Hh2.out), if_neg (Bool.false_ne_true), if_neg (Hh4.out), if_neg (Bool.false_ne_true), if_neg (Bool.false_ne_true), if_neg (Bool.false_ne_true), if_neg (Bool.false_ne_true), if_neg (Bool.false_ne_true), if_neg (H5.out), if_neg (Bool.false_ne_true)]; rfl, ((((((K1.out).trans0 K2.out).trans0 K3.out).trans0 K4.out).trans0 K5.out).trans0 K6.out).trans0 K7.out⟩
end Go.Proofs.Ythbcancckogloaa
