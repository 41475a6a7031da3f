/-
  Walk of Class.
-/
import Derived.Test.YthbcancckogloaaClmS
import Derived.WalkMore
namespace Go.Proofs.Ythbcancckogloaa
open Go.RowKit
set_option linter.unusedVariables false
set_option linter.unusedSimpArgs false

set_option maxRecDepth 100000 in
set_option maxHeartbeats 8000000 in
theorem class_any (r : Int) (w : World) (hr0 : -2147483648 ≤ r) (hr1 : r ≤ 2147483647) :
    Calls Try.prog 11 #[.int .i32 r] w fun e w' => e = .returned (.int .i64 (cls r)) ∧ Keep [] w w' := by
  have HC : Hid (cls r = clsO r (spansL.find? (inS r))) := Lib.hid rfl
  have HL := Lib.hid spans_low
  have HCELL : Hid (∀ (k : Nat) (s : Span), spansL[k]? = some s → (w.alloc (.cells (spanCells spansL).toArray 50)).cell? ⟨w.heap.size, k * 3, none⟩ = some (.int .i32 s.1) ∧
      (w.alloc (.cells (spanCells spansL).toArray 50)).cell? ⟨w.heap.size, k * 3 + 1, none⟩ = some (.int .i32 s.2.1) ∧ (w.alloc (.cells (spanCells spansL).toArray 50)).cell? ⟨w.heap.size, k * 3 + 2, none⟩ = some (.int .i64 s.2.2)) := by
    refine Lib.hid fun k s hs => ?_
    obtain ⟨h0, h1, h2⟩ := span_at _ _ _ hs
    have hb := heap_alloc_new w (.cells (spanCells spansL).toArray 50)
    rw [cell_of_block hb, cell_of_block hb, cell_of_block hb]
    simpa using ⟨h0, h1, h2⟩
  have HLEN : Hid (spansL.length = 45) := Lib.hid (by decide +kernel)
  have hka : Keep [] w (w.alloc (.cells (spanCells spansL).toArray 50)) := (Keep.refl _ _).alloc _
  have HKA := Lib.hid hka; clear hka
  go_enter Try.func11, Try.ntmps11
  go_wp2
  go_step3
  go_wp2
  go_step3
  go_wp2_with fail
  refine (spans_any w).mono ?_
  rintro e w1 ⟨rfl, hw1⟩
  rw [← hw1] at HCELL HKA
  clear hw1
  generalize w.heap.size = b at *
  go_wp2
  go_loopw [3, 8] (fun c i W => ∃ k : Nat, k ≤ 45 ∧ c = .int .i64 0 ∧ i = .int .i64 k ∧ Keep [] w1 W ∧ ∀ j s, j < k → spansL[j]? = some s → inS r s = false) (fun _ i _ => 45 - (intOf i).toNat)
  case atStart => exact ⟨0, by omega, rfl, rfl, Keep.refl _ _, fun j s h => by omega⟩
  case round =>
    obtain ⟨k, hk, rfl, rfl, hkp, hno⟩ := hrel
    have HK := Lib.hid hkp; have HN := Lib.hid hno; clear hkp hno
    by_cases hlt : k < 45
    · have hltd : decide ((k : Int) < 45) = true := by simp; omega
      obtain ⟨s, hs⟩ : ∃ s, spansL[k]? = some s := ⟨_, List.getElem?_eq_getElem (by rw [HLEN.out]; exact hlt)⟩
      obtain ⟨hc0, hc1, hc2⟩ := HCELL.out k s hs
      have d0 := HK.out.cellv hc0 (by simp)
      have d1 := HK.out.cellv hc1 (by simp)
      have d2 := HK.out.cellv hc2 (by simp)
      obtain ⟨b0, b1, b2, b3, b4, b5⟩ := HL.out s (List.mem_of_getElem? hs)
      have HS := Lib.hid hs
      clear hc0 hc1 hc2 hs
      obtain ⟨f, t, c⟩ := s
      simp only at d0 d1 d2 b0 b1 b2 b3 b4 b5
      have hin : Hid (inS r (f, t, c) = (decide (f ≤ r) && decide (r ≤ t))) := Lib.hid rfl
      have hgo : inS r (f, t, c) = false → Hid (∀ j s, j < k + 1 → spansL[j]? = some s → inS r s = false) := fun h => Lib.hid fun j s hj hs => by
        by_cases hjk : j = k
        · subst hjk; rw [HS.out] at hs; cases hs; exact h
        · exact HN.out j s (by omega) hs
      have hhit : inS r (f, t, c) = true → Hid (cls r = if c = 11 ∧ (r - f) % 28 = 0 then 10 else c) := fun h => Lib.hid <| by
        rw [HC.out, List.find?_eq_some_iff_getElem.2 ⟨h, k, by rw [HLEN.out]; exact hlt, by have := HS.out; rw [List.getElem?_eq_getElem (by rw [HLEN.out]; exact hlt)] at this; exact Option.some.inj this, fun j hj => by
          have := HN.out j _ hj (List.getElem?_eq_getElem (by rw [HLEN.out]; omega))
          simp [this]⟩]
        rfl
      by_cases h1 : r < f
      · have HG := hgo (by rw [hin.out]; simp; omega)
        clear hgo hhit
        have h1d : decide (r < f) = true := by simpa using h1
        go_wp2
        exact ⟨⟨k + 1, by omega, rfl, by go_num, HK.out.alloc _, HG.out⟩, by simp [intOf]; omega⟩
      · have h1d : decide (r < f) = false := by simpa using h1
        by_cases h2 : t < r
        · have HG := hgo (by rw [hin.out]; simp; omega)
          clear hgo hhit
          have h2d : decide (t < r) = true := by simpa using h2
          go_wp2
          exact ⟨⟨k + 1, by omega, rfl, by go_num, HK.out.alloc _, HG.out⟩, by simp [intOf]; omega⟩
        · have h2d : decide (t < r) = false := by simpa using h2
          have HH := hhit (by rw [hin.out]; simp; omega)
          clear hgo hhit
          by_cases h3 : c = 11
          · have h3d : (c == 11) = true := by simpa using h3
            by_cases h4 : (r - f) % 28 = 0
            · have h4d : ((r - f) % 28 == 0) = true := by simpa using h4
              have HR : Hid (cls r = 10) := Lib.hid (by rw [HH.out, if_pos ⟨h3, h4⟩])
              subst h3
              go_wp2
              go_ret
              exact ⟨by rw [HR.out]; rfl, HKA.out.trans0 (HK.out.alloc _)⟩
            · have h4d : ((r - f) % 28 == 0) = false := by simpa using h4
              have HR : Hid (cls r = c) := Lib.hid (by rw [HH.out, if_neg (fun h => h4 h.2)])
              subst h3
              go_wp2
              go_ret
              exact ⟨by rw [HR.out]; rfl, HKA.out.trans0 (HK.out.alloc _)⟩
          · have h3d : (c == 11) = false := by simpa using h3
            have HR : Hid (cls r = c) := Lib.hid (by rw [HH.out, if_neg (fun h => h3 h.1)])
            go_wp2
            go_ret
            exact ⟨by rw [HR.out]; rfl, HKA.out.trans0 (HK.out.alloc _)⟩
    · have hltd : decide ((k : Int) < 45) = false := by simp; omega
      have HR : Hid (cls r = 0) := Lib.hid (by
        rw [HC.out, List.find?_eq_none.2 (fun s hs => by
          obtain ⟨j, hj, rfl⟩ := List.mem_iff_getElem.1 hs
          rw [HN.out j _ (by have := HLEN.out; omega) (List.getElem?_eq_getElem hj)]; simp)]
        rfl)
      go_wp2
      rw [Exit.noGoto_ret]
      go_ret
      exact ⟨by rw [HR.out]; rfl, HKA.out.trans0 HK.out⟩
end Go.Proofs.Ythbcancckogloaa
