/-
  Weight, walked.
-/
import Derived.Test.YtddbjclpmkelaaaDifC
import Derived.Test.YtddbjclpmkelaaaGlyF
import Derived.Test.YtddbjclpmkelaaaHeld
import Derived.Deep.RegionHeld
import Derived.Deep.DeepCutAuto
namespace Go.Proofs.Ytddbjclpmkelaaa
open Go.RowKit
set_option linter.unusedVariables false
set_option linter.unusedSimpArgs false

set_option maxRecDepth 100000 in
set_option maxHeartbeats 16000000 in
theorem weight_any (va : Value) (l : List EdV) (w : World) (ha : EdAt w va l) (hl : l.length ≤ 4611686018427387904) (hb : ∀ e ∈ l, -9223372036854775808 ≤ e.2.1 ∧ e.2.1 ≤ 9223372036854775807 ∧ e.2.2.size ≤ 1073741824) :
    Calls Try.prog 19 #[va] w fun e w' => e = .returned (.int .i64 (wsat 0 l)) ∧ Keep [] w w' := by
  obtain ⟨ada, ca, rfl, h1⟩ := ha
  have H1 := Lib.hid h1; clear h1
  obtain ⟨n, hn⟩ : ∃ n, n = l.length := ⟨_, rfl⟩
  rw [← hn] at hl ⊢
  have HNN := Lib.hid hn; clear hn
  have HB := Lib.hid hb; clear hb
  go_enter Try.func19, Try.ntmps19
  go_wp2
  go_loopw [3, 10] (fun s i wr => ∃ (k : Nat) (m : Int), k ≤ n ∧ i = .int .i64 k ∧ s = .int .i64 m ∧ 0 ≤ m ∧ m ≤ 9223372036854775807 ∧ wsat m (l.drop k) = wsat 0 l ∧ Keep [] w wr) (fun _ i _ => n - (intOf i).toNat)
  case atStart => exact ⟨0, 0, Nat.zero_le _, rfl, rfl, by omega, by omega, by simp, Keep.refl _ _⟩
  case round =>
    obtain ⟨k, m, hk, rfl, rfl, hm0, hm1, hws, hkp⟩ := hrel
    have HK := Lib.hid hkp; clear hkp
    by_cases hlt : k < n
    · have hltd : decide (k < n) = true := by simpa using hlt
      have hkl : k < l.length := by rw [← HNN.out]; exact hlt
      obtain ⟨b1, o1, rfl, c1⟩ := H1.out (by rw [← HNN.out]; omega)
      obtain ⟨p1, p2, p3⟩ := c1 k _ (List.getElem?_eq_getElem hkl)
      have d1 := HK.out.cellv p1 (by simp)
      have d2 := HK.out.cellv p2 (by simp)
      have d3 := HK.out.cellv p3 (by simp)
      obtain ⟨hx0, hx1, hx2⟩ := HB.out _ (List.getElem_mem hkl)
      rw [wsat_step hkl] at hws
      have HWS := Lib.hid hws
      have C1 := Lib.hid c1; clear c1 p1 p2 p3 hws
      generalize l[k] = x at *
      obtain ⟨x1, x2, x3⟩ := x
      have hcl := cut_len_le x3 0 (Nat.zero_le _)
      have hki : ((k : Int) < (n : Int)) := by omega
      simp only at HWS hx0 hx1 hx2 d1 d2 d3
      have HC := Lib.hid (fun W => count_any x3 W (by omega))
      generalize (cut x3 0).length = c at *
      go_upto_region 5 with (fail)
      generalize hW : wr.alloc (.cells #[.int .i64 x1, .int .i64 x2, .string x3] 32) = W2
      have k2 : Keep [] wr W2 := by rw [← hW]; exact (Keep.refl _ _).alloc _
      have e1 : W2.cell? ⟨wr.heap.size, 1, none⟩ = some (.int .i64 x2) := by rw [← hW, cell_of_block (heap_alloc_new _ _)]; rfl
      have e2 : W2.cell? ⟨wr.heap.size, 2, none⟩ = some (.string x3) := by rw [← hW, cell_of_block (heap_alloc_new _ _)]; rfl
      have hS : W2.cell? ⟨wr.heap.size, 1, none⟩ = some (.int .i64 x2) ∧ W2.cell? ⟨wr.heap.size, 2, none⟩ = some (.string x3) ∧ Keep [] W2 W2 := ⟨e1, e2, Keep.refl _ _⟩
      have HKW := Lib.hid (HK.out.trans0 k2)
      clear hW k2 d1 d2 d3 e1 e2
      by_cases hx : 0 < x2
      · have HD : Hid (max x2 0 = x2) := Lib.hid (by omega)
        have hd0 : (0 : Int) ≤ x2 := by omega
        go_region_held (fun w' => w'.cell? ⟨wr.heap.size, 1, none⟩ = some (.int .i64 x2) ∧ w'.cell? ⟨wr.heap.size, 2, none⟩ = some (.string x3) ∧ Keep [] W2 w') (first | assumption | exact heldD (by assumption))
          (first
            | (go_at_call 35; refine (HC.out _).mono ?_; rintro q w1 ⟨rfl, hk1⟩; have hS1 := heldK hk1 (by assumption)))
        all_goals
          have HK1 := Lib.hid (HKW.out.trans0 hS1.2.2)
          clear hS1
          rw [HD.out] at HWS
          have i0 : ∀ W : World, (Instr.index 62 (.agg #[.int .i64 x2, .int .i64 c]) (.int .i64 0)).run Try.prog W = .ok (.int .i64 x2) W := fun _ => by kernel_rfl
          have i1 : ∀ W : World, (Instr.index 62 (.agg #[.int .i64 x2, .int .i64 c]) (.int .i64 1)).run Try.prog W = .ok (.int .i64 c) W := fun _ => by kernel_rfl
          go_wp2
          go_loopw [3, 21] (fun s i wq => ∃ t : Int, s = .int .i64 t ∧ 0 ≤ t ∧ t ≤ 9223372036854775807 ∧ Keep [] w wq ∧ ((i = .int .i64 0 ∧ t = m) ∨ (i = .int .i64 1 ∧ t = min 9223372036854775807 (m + x2)) ∨ (i = .int .i64 2 ∧ t = min 9223372036854775807 (m + x2 + c)))) (fun _ i _ => (2 - intOf i).toNat)
          case atStart => exact ⟨m, rfl, hm0, hm1, HK1.out, .inl ⟨rfl, rfl⟩⟩
          case round =>
            obtain ⟨t, rfl, ht0, ht1, hkq, ⟨rfl, ht⟩ | ⟨rfl, ht⟩ | ⟨rfl, ht⟩⟩ := hrel
            · have HT := Lib.hid ht; have HKQ := Lib.hid hkq; clear ht hkq
              go_wp2
              all_goals first
                | (exfalso; omega)
                | exact ⟨⟨_, rfl, by have := HT.out; omega, by have := HT.out; omega, HKQ.out, .inr (.inl ⟨rfl, by have := HT.out; omega⟩)⟩, by simp [intOf]⟩
            · have HT := Lib.hid ht; have HKQ := Lib.hid hkq; clear ht hkq
              go_wp2
              all_goals first
                | (exfalso; omega)
                | exact ⟨⟨_, rfl, by have := HT.out; omega, by have := HT.out; omega, HKQ.out, .inr (.inr ⟨rfl, by have := HT.out; omega⟩)⟩, by simp [intOf]⟩
            · have HT := Lib.hid ht; have HKQ := Lib.hid hkq; clear ht hkq
              go_wp2
              exact ⟨⟨k + 1, t, by omega, by go_num, rfl, ht0, ht1, by rw [HT.out]; exact HWS.out, HKQ.out⟩, by simp [intOf]; omega⟩
      · have HD : Hid (max x2 0 = 0) := Lib.hid (by omega)
        have hd0 : (0 : Int) ≤ 0 := by omega
        go_region_held (fun w' => w'.cell? ⟨wr.heap.size, 1, none⟩ = some (.int .i64 x2) ∧ w'.cell? ⟨wr.heap.size, 2, none⟩ = some (.string x3) ∧ Keep [] W2 w') (first | assumption | exact heldD (by assumption))
          (first
            | (go_at_call 35; refine (HC.out _).mono ?_; rintro q w1 ⟨rfl, hk1⟩; have hS1 := heldK hk1 (by assumption)))
        all_goals
          have HK1 := Lib.hid (HKW.out.trans0 hS1.2.2)
          clear hS1
          rw [HD.out] at HWS
          have i0 : ∀ W : World, (Instr.index 62 (.agg #[.int .i64 0, .int .i64 c]) (.int .i64 0)).run Try.prog W = .ok (.int .i64 0) W := fun _ => by kernel_rfl
          have i1 : ∀ W : World, (Instr.index 62 (.agg #[.int .i64 0, .int .i64 c]) (.int .i64 1)).run Try.prog W = .ok (.int .i64 c) W := fun _ => by kernel_rfl
          go_wp2
          go_loopw [3, 21] (fun s i wq => ∃ t : Int, s = .int .i64 t ∧ 0 ≤ t ∧ t ≤ 9223372036854775807 ∧ Keep [] w wq ∧ ((i = .int .i64 0 ∧ t = m) ∨ (i = .int .i64 1 ∧ t = min 9223372036854775807 (m + 0)) ∨ (i = .int .i64 2 ∧ t = min 9223372036854775807 (m + 0 + c)))) (fun _ i _ => (2 - intOf i).toNat)
          case atStart => exact ⟨m, rfl, hm0, hm1, HK1.out, .inl ⟨rfl, rfl⟩⟩
          case round =>
            obtain ⟨t, rfl, ht0, ht1, hkq, ⟨rfl, ht⟩ | ⟨rfl, ht⟩ | ⟨rfl, ht⟩⟩ := hrel
            · have HT := Lib.hid ht; have HKQ := Lib.hid hkq; clear ht hkq
              go_wp2
              all_goals first
                | (exfalso; omega)
                | exact ⟨⟨_, rfl, by have := HT.out; omega, by have := HT.out; omega, HKQ.out, .inr (.inl ⟨rfl, by have := HT.out; omega⟩)⟩, by simp [intOf]⟩
            · have HT := Lib.hid ht; have HKQ := Lib.hid hkq; clear ht hkq
              go_wp2
              all_goals first
                | (exfalso; omega)
                | exact ⟨⟨_, rfl, by have := HT.out; omega, by have := HT.out; omega, HKQ.out, .inr (.inr ⟨rfl, by have := HT.out; omega⟩)⟩, by simp [intOf]⟩
            · have HT := Lib.hid ht; have HKQ := Lib.hid hkq; clear ht hkq
              go_wp2
              exact ⟨⟨k + 1, t, by omega, by go_num, rfl, ht0, ht1, by rw [HT.out]; exact HWS.out, HKQ.out⟩, by simp [intOf]; omega⟩
    · have hltd : decide (k < n) = false := by simpa using hlt
      obtain rfl : k = n := by omega
      have he : wsat m (l.drop k) = m := by rw [HNN.out, List.drop_length]; rfl
      rw [he] at hws
      have HWS := Lib.hid hws; clear hws he
      go_wp2
      go_ret
      exact ⟨by rw [← HWS.out]; rfl, HK.out⟩
end Go.Proofs.Ytddbjclpmkelaaa
