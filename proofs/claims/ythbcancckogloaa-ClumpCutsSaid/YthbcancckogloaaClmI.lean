/-
  Walks of the reference's hard, joined, odd, between.
-/
import Derived.Test.YthbcancckogloaaAppend
import Derived.Test.YthbcancckogloaaSl
import Derived.Test.YthbcancckogloaaClmP
import Derived.Test.YthbcancckogloaaGlyA
namespace Go.Proofs.Ythbcancckogloaa
open Go.RowKit
set_option linter.unusedVariables false
set_option linter.unusedSimpArgs false

def hb (c : Int) : Bool := c == 1 || c == 2 || c == 3
theorem hard_any (c : Int) (w : World) : Calls Try.prog 40 #[.int .i64 c] w fun e w' => e = .returned (.bool (hb c)) ∧ w = w' := by
  by_cases h1 : c = 1
  · subst h1
    go_enter Try.func40, Try.ntmps40
    go_wp2
    go_ret
    exact ⟨rfl, rfl⟩
  by_cases h2 : c = 2
  · subst h2
    go_enter Try.func40, Try.ntmps40
    go_wp2
    go_ret
    exact ⟨rfl, rfl⟩
  · have e1 : (c == 1) = false := by simpa using h1
    have e2 : (c == 2) = false := by simpa using h2
    have HR : Hid (hb c = (c == 3)) := Lib.hid (by unfold hb; rw [e1, e2]; rfl)
    go_enter Try.func40, Try.ntmps40
    go_wp2
    go_ret
    exact ⟨by rw [HR.out]; rfl, rfl⟩

theorem take_rev {l : List Int} {m : Nat} {x : Int} (h : l[m]? = some x) : (l.take (m + 1)).reverse = x :: (l.take m).reverse := by
  rw [List.take_add_one, h]; simp
set_option maxHeartbeats 4000000 in
theorem joined_any (v : Value) (l : List Int) (i : Nat) (w : World) (h : SlAt w v l.length (l.map (.int .i64))) (hl : l.length ≤ 1073741824) (hi : i < l.length) :
    Calls Try.prog 41 #[v, .int .i64 i] w fun e w' => e = .returned (.bool (pic (l.take i).reverse)) ∧ w = w' := by
  obtain ⟨b, off, cap, rfl, hc⟩ := h.at_ (by omega)
  have HC := Lib.hid hc; clear hc h
  obtain ⟨n, hn⟩ : ∃ n, n = l.length := ⟨_, rfl⟩
  rw [← hn] at hl hi ⊢
  have HN := Lib.hid hn; clear hn
  go_enter Try.func41, Try.ntmps41
  go_wp2
  go_loopw [5] (fun x W => ∃ m : Nat, m ≤ i ∧ x = .int .i64 ((m : Int) - 1) ∧ w = W ∧ pic (l.take m).reverse = pic (l.take i).reverse) (fun x _ => (intOf x + 1).toNat)
  case atStart => exact ⟨i, Nat.le_refl _, rfl, rfl, rfl⟩
  case round =>
    obtain ⟨m, hm, rfl, rfl, hp⟩ := hrel
    have HP := Lib.hid hp; clear hp
    cases m with
    | zero =>
      have hr : pic (l.take i).reverse = false := by rw [← HP.out]; rfl
      have HR := Lib.hid hr; clear hr HP
      have e : ((0 : Nat) : Int) - 1 = -1 := by omega
      rw [e]
      clear e
      go_wp2
      go_ret
      exact ⟨by rw [HR.out]; rfl, rfl⟩
    | succ m =>
      have hml : m < l.length := by rw [← HN.out]; omega
      have hx := List.getElem?_eq_getElem hml
      have hcell := HC.out m (.int .i64 l[m]) (by rw [List.getElem?_map, hx]; rfl)
      have htr := take_rev hx
      rw [htr] at HP
      generalize l[m] = x at *
      have e : ((m + 1 : Nat) : Int) - 1 = (m : Int) := by omega
      rw [e]
      clear e hx htr
      by_cases h5 : x = 5
      · have h5d : (x == 5) = true := by simpa using h5
        have HP2 : Hid (pic (l.take m).reverse = pic (l.take i).reverse) := Lib.hid (by rw [← HP.out, h5]; rfl)
        subst h5
        clear HP
        go_wp2
        exact ⟨⟨m, by omega, rfl, by trivial, HP2.out⟩, by simp [intOf]⟩
      · have h5d : (x == 5) = false := by simpa using h5
        have HR : Hid (pic (l.take i).reverse = (x == 12)) := Lib.hid (by
          rw [← HP.out]; unfold pic; rw [if_neg h5]
          by_cases h : x = 12
          · subst h; rfl
          · rw [decide_eq_false h]; symm; simpa using h)
        clear HP
        go_wp2
        go_ret
        exact ⟨by rw [HR.out]; rfl, rfl⟩

set_option maxHeartbeats 4000000 in
theorem odd_any (v : Value) (l : List Int) (i : Nat) (w : World) (h : SlAt w v l.length (l.map (.int .i64))) (hl : l.length ≤ 1073741824) (hi : i < l.length) :
    Calls Try.prog 42 #[v, .int .i64 i] w fun e w' => e = .returned (.bool (((flg (l.take (i + 1)).reverse : Nat) : Int) % 2 == 1)) ∧ w = w' := by
  obtain ⟨b, off, cap, rfl, hc⟩ := h.at_ (by omega)
  have HC := Lib.hid hc; clear hc h
  obtain ⟨n, hn⟩ : ∃ n, n = l.length := ⟨_, rfl⟩
  rw [← hn] at hl hi ⊢
  have HN := Lib.hid hn; clear hn
  go_enter Try.func42, Try.ntmps42
  go_wp2
  go_loopw [1, 5] (fun x c W => ∃ m k : Nat, m + k = i + 1 ∧ x = .int .i64 ((m : Int) - 1) ∧ c = .int .i64 k ∧ w = W ∧ flg (l.take (i + 1)).reverse = k + flg (l.take m).reverse) (fun x _ _ => (intOf x + 1).toNat)
  case atStart => exact ⟨i + 1, 0, by omega, by congr 1; omega, rfl, rfl, by omega⟩
  case round =>
    obtain ⟨m, k, hm, rfl, rfl, rfl, hp⟩ := hrel
    have HP := Lib.hid hp; clear hp
    cases m with
    | zero =>
      have hr : flg (l.take (i + 1)).reverse = k := by rw [HP.out]; rfl
      have HR := Lib.hid hr; clear hr HP
      have e : ((0 : Nat) : Int) - 1 = -1 := by omega
      rw [e]
      clear e
      go_wp2
      go_ret
      exact ⟨by rw [HR.out]; rfl, rfl⟩
    | succ m =>
      have hml : m < l.length := by rw [← HN.out]; omega
      have hx := List.getElem?_eq_getElem hml
      have hcell := HC.out m (.int .i64 l[m]) (by rw [List.getElem?_map, hx]; rfl)
      have htr := take_rev hx
      rw [htr] at HP
      generalize l[m] = x at *
      have e : ((m + 1 : Nat) : Int) - 1 = (m : Int) := by omega
      rw [e]
      clear e hx htr
      by_cases h5 : x = 6
      · have h5d : (x == 6) = true := by simpa using h5
        have HP2 : Hid (flg (l.take (i + 1)).reverse = (k + 1) + flg (l.take m).reverse) := Lib.hid (by rw [HP.out, h5]; show k + (flg _ + 1) = _; omega)
        subst h5
        clear HP
        go_wp2
        exact ⟨⟨m, k + 1, by omega, rfl, by go_num, by trivial, HP2.out⟩, by simp [intOf]⟩
      · have h5d : (x == 6) = false := by simpa using h5
        have HR : Hid (flg (l.take (i + 1)).reverse = k) := Lib.hid (by rw [HP.out]; unfold flg; rw [if_neg h5]; rfl)
        clear HP
        go_wp2
        go_ret
        exact ⟨by rw [HR.out]; rfl, rfl⟩

set_option maxRecDepth 100000 in
set_option maxHeartbeats 64000000 in
theorem between_any (v : Value) (l : List Int) (i : Nat) (w : World) (h : SlAt w v l.length (l.map (.int .i64))) (hl : l.length ≤ 1073741824) (hi : i + 1 < l.length) (hr : ∀ x ∈ l, 0 ≤ x ∧ x ≤ 12) :
    Calls Try.prog 33 #[v, .int .i64 i] w fun e w' => e = .returned (.bool (bt (l.take (i + 1)).reverse (l[i + 1]?.getD 0))) ∧ w = w' := by
  have hi0 : i < l.length := by omega
  have hx := List.getElem?_eq_getElem hi0
  have hy := List.getElem?_eq_getElem hi
  have hra := hr _ (List.getElem_mem hi0)
  have hrb := hr _ (List.getElem_mem hi)
  have htr := take_rev hx
  have hcj := Lib.hid (fun W (hk : SlAt W v l.length (l.map (.int .i64))) => joined_any v l i W hk hl hi0)
  have hco := Lib.hid (fun W (hk : SlAt W v l.length (l.map (.int .i64))) => odd_any v l i W hk hl hi0)
  have HSL := Lib.hid h
  obtain ⟨bb, off, cap, rfl, hc⟩ := h.at_ (by omega)
  have c0 := hc i (.int .i64 l[i]) (by rw [List.getElem?_map, hx]; rfl)
  have c1 := hc (i + 1) (.int .i64 l[i + 1]) (by rw [List.getElem?_map, hy]; rfl)
  rw [htr] at hco ⊢
  rw [hy, Option.getD_some]
  clear hc h hr hx hy htr
  generalize l[i] = a at *
  generalize l[i + 1] = b at *
  generalize (l.take i).reverse = cx at *
  obtain ⟨res, hres⟩ : ∃ r, r = bt (a :: cx) b := ⟨_, rfl⟩
  rw [← hres]
  have HIB := Lib.hid hres
  clear hres
  obtain ⟨n, hn⟩ : ∃ n, n = l.length := ⟨_, rfl⟩
  rw [← hn] at hl hi hi0 ⊢
  rw [← hn] at hcj hco HSL
  clear hn
  obtain ⟨ha0, ha1⟩ := hra
  obtain ⟨hb0, hb1⟩ := hrb
  go_enter Try.func33, Try.ntmps33
  have hav : a = 0 ∨ a = 1 ∨ a = 2 ∨ a = 3 ∨ a = 4 ∨ a = 5 ∨ a = 6 ∨ a = 7 ∨ a = 8 ∨ a = 9 ∨ a = 10 ∨ a = 11 ∨ a = 12 := by omega
  clear ha0 ha1
  rcases hav with rfl | rfl | rfl | rfl | rfl | rfl | rfl | rfl | rfl | rfl | rfl | rfl | rfl
  · -- 0
    have hbv : (1 ≤ b ∧ b ≤ 3) ∨ b = 0 ∨ b = 4 ∨ b = 5 ∨ (6 ≤ b ∧ b ≠ 4 ∧ b ≠ 5) := by omega
    rcases hbv with hbb | rfl | rfl | rfl | hbb
    · obtain ⟨g1, g2⟩ := hbb
      have HR : Hid (res = true) := Lib.hid (by rw [HIB.out]; simp [bt, hardC] <;> omega)
      have HBB : Hid (hb b = true) := Lib.hid (by unfold hb; simp <;> omega)
      clear HIB hb0 hb1
      go_wp2_with fail
      refine (hard_any 0 _).mono ?_
      rintro e w1 ⟨rfl, rfl⟩
      rw [show hb 0 = false from rfl]
      go_wp2_with fail
      refine (hard_any b _).mono ?_
      rintro e w1 ⟨rfl, rfl⟩
      rw [HBB.out]
      go_wp2
      go_ret
      exact ⟨by rw [HR.out]; rfl, rfl⟩
    · -- 0
      have HR : Hid (res = true) := Lib.hid (by rw [HIB.out]; simp [bt, hardC] <;> omega)
      clear HIB hb0 hb1
      go_wp2_with fail
      refine (hard_any 0 _).mono ?_
      rintro e w1 ⟨rfl, rfl⟩
      rw [show hb 0 = false from rfl]
      go_wp2_with fail
      refine (hard_any 0 _).mono ?_
      rintro e w1 ⟨rfl, rfl⟩
      rw [show hb 0 = false from rfl]
      go_wp2
      go_ret
      exact ⟨by rw [HR.out]; rfl, rfl⟩
    · -- 4
      have HR : Hid (res = false) := Lib.hid (by rw [HIB.out]; simp [bt, hardC] <;> omega)
      clear HIB hb0 hb1
      go_wp2_with fail
      refine (hard_any 0 _).mono ?_
      rintro e w1 ⟨rfl, rfl⟩
      rw [show hb 0 = false from rfl]
      go_wp2_with fail
      refine (hard_any 4 _).mono ?_
      rintro e w1 ⟨rfl, rfl⟩
      rw [show hb 4 = false from rfl]
      go_wp2
      go_ret
      exact ⟨by rw [HR.out]; rfl, rfl⟩
    · -- 5
      have HR : Hid (res = false) := Lib.hid (by rw [HIB.out]; simp [bt, hardC] <;> omega)
      clear HIB hb0 hb1
      go_wp2_with fail
      refine (hard_any 0 _).mono ?_
      rintro e w1 ⟨rfl, rfl⟩
      rw [show hb 0 = false from rfl]
      go_wp2_with fail
      refine (hard_any 5 _).mono ?_
      rintro e w1 ⟨rfl, rfl⟩
      rw [show hb 5 = false from rfl]
      go_wp2
      go_ret
      exact ⟨by rw [HR.out]; rfl, rfl⟩
    · obtain ⟨g1, q4, q5⟩ := hbb
      have e4 : (b == 4) = false := by simpa using q4
      have e5 : (b == 5) = false := by simpa using q5
      have HR : Hid (res = true) := Lib.hid (by rw [HIB.out]; simp [bt, hardC] <;> omega)
      have HBB : Hid (hb b = false) := Lib.hid (by unfold hb; simp <;> omega)
      clear HIB hb0 hb1
      go_wp2_with fail
      refine (hard_any 0 _).mono ?_
      rintro e w1 ⟨rfl, rfl⟩
      rw [show hb 0 = false from rfl]
      go_wp2_with fail
      refine (hard_any b _).mono ?_
      rintro e w1 ⟨rfl, rfl⟩
      rw [HBB.out]
      go_wp2
      go_ret
      exact ⟨by rw [HR.out]; rfl, rfl⟩
  · -- 1
    by_cases h : b = 2
    · subst h
      have HR : Hid (res = false) := Lib.hid (by rw [HIB.out]; simp [bt, hardC] <;> omega)
      clear HIB hb0 hb1
      go_wp2
      go_ret
      exact ⟨by rw [HR.out]; rfl, rfl⟩
    · have hd : (b == 2) = false := by simpa using h
      have HR : Hid (res = true) := Lib.hid (by rw [HIB.out]; simp [bt, hardC] <;> omega)
      clear HIB hb0 hb1
      go_wp2_with fail
      refine (hard_any 1 _).mono ?_
      rintro e w1 ⟨rfl, rfl⟩
      rw [show hb 1 = true from rfl]
      go_wp2
      go_ret
      exact ⟨by rw [HR.out]; rfl, rfl⟩
  · -- 2
    have HR : Hid (res = true) := Lib.hid (by rw [HIB.out]; simp [bt, hardC] <;> omega)
    clear HIB hb0 hb1
    go_wp2_with fail
    refine (hard_any 2 _).mono ?_
    rintro e w1 ⟨rfl, rfl⟩
    rw [show hb 2 = true from rfl]
    go_wp2
    go_ret
    exact ⟨by rw [HR.out]; rfl, rfl⟩
  · -- 3
    have HR : Hid (res = true) := Lib.hid (by rw [HIB.out]; simp [bt, hardC] <;> omega)
    clear HIB hb0 hb1
    go_wp2_with fail
    refine (hard_any 3 _).mono ?_
    rintro e w1 ⟨rfl, rfl⟩
    rw [show hb 3 = true from rfl]
    go_wp2
    go_ret
    exact ⟨by rw [HR.out]; rfl, rfl⟩
  · -- 4
    have hbv : (1 ≤ b ∧ b ≤ 3) ∨ b = 0 ∨ b = 4 ∨ b = 5 ∨ b = 12 ∨ (6 ≤ b ∧ b ≠ 4 ∧ b ≠ 5 ∧ b ≠ 12) := by omega
    rcases hbv with hbb | rfl | rfl | rfl | rfl | hbb
    · obtain ⟨g1, g2⟩ := hbb
      have HR : Hid (res = true) := Lib.hid (by rw [HIB.out]; simp [bt, hardC] <;> omega)
      have HBB : Hid (hb b = true) := Lib.hid (by unfold hb; simp <;> omega)
      clear HIB hb0 hb1
      go_wp2_with fail
      refine (hard_any 4 _).mono ?_
      rintro e w1 ⟨rfl, rfl⟩
      rw [show hb 4 = false from rfl]
      go_wp2_with fail
      refine (hard_any b _).mono ?_
      rintro e w1 ⟨rfl, rfl⟩
      rw [HBB.out]
      go_wp2
      go_ret
      exact ⟨by rw [HR.out]; rfl, rfl⟩
    · -- 0
      have HR : Hid (res = true) := Lib.hid (by rw [HIB.out]; simp [bt, hardC] <;> omega)
      clear HIB hb0 hb1
      go_wp2_with fail
      refine (hard_any 4 _).mono ?_
      rintro e w1 ⟨rfl, rfl⟩
      rw [show hb 4 = false from rfl]
      go_wp2_with fail
      refine (hard_any 0 _).mono ?_
      rintro e w1 ⟨rfl, rfl⟩
      rw [show hb 0 = false from rfl]
      go_wp2
      go_ret
      exact ⟨by rw [HR.out]; rfl, rfl⟩
    · -- 4
      have HR : Hid (res = false) := Lib.hid (by rw [HIB.out]; simp [bt, hardC] <;> omega)
      clear HIB hb0 hb1
      go_wp2_with fail
      refine (hard_any 4 _).mono ?_
      rintro e w1 ⟨rfl, rfl⟩
      rw [show hb 4 = false from rfl]
      go_wp2_with fail
      refine (hard_any 4 _).mono ?_
      rintro e w1 ⟨rfl, rfl⟩
      rw [show hb 4 = false from rfl]
      go_wp2
      go_ret
      exact ⟨by rw [HR.out]; rfl, rfl⟩
    · -- 5
      have HR : Hid (res = false) := Lib.hid (by rw [HIB.out]; simp [bt, hardC] <;> omega)
      clear HIB hb0 hb1
      go_wp2_with fail
      refine (hard_any 4 _).mono ?_
      rintro e w1 ⟨rfl, rfl⟩
      rw [show hb 4 = false from rfl]
      go_wp2_with fail
      refine (hard_any 5 _).mono ?_
      rintro e w1 ⟨rfl, rfl⟩
      rw [show hb 5 = false from rfl]
      go_wp2
      go_ret
      exact ⟨by rw [HR.out]; rfl, rfl⟩
    · -- 12
      go_wp2_with fail
      refine (hard_any 4 _).mono ?_
      rintro e w1 ⟨rfl, rfl⟩
      rw [show hb 4 = false from rfl]
      go_wp2_with fail
      refine (hard_any 12 _).mono ?_
      rintro e w1 ⟨rfl, rfl⟩
      rw [show hb 12 = false from rfl]
      go_wp2_with fail
      refine (hcj.out _ HSL.out).mono ?_
      rintro e w3 ⟨rfl, rfl⟩
      cases hpv : pic cx with
      | true =>
        have HR : Hid (res = false) := Lib.hid (by rw [HIB.out]; simp [bt, hardC, hpv])
        clear hpv
        go_wp2
        go_ret
        exact ⟨by rw [HR.out]; rfl, rfl⟩
      | false =>
        have HR : Hid (res = true) := Lib.hid (by rw [HIB.out]; simp [bt, hardC, hpv])
        clear hpv
        go_wp2
        go_ret
        exact ⟨by rw [HR.out]; rfl, rfl⟩
    · obtain ⟨g1, q4, q5, q12⟩ := hbb
      have e4 : (b == 4) = false := by simpa using q4
      have e5 : (b == 5) = false := by simpa using q5
      have e12 : (b == 12) = false := by simpa using q12
      have HR : Hid (res = true) := Lib.hid (by rw [HIB.out]; simp [bt, hardC] <;> omega)
      have HBB : Hid (hb b = false) := Lib.hid (by unfold hb; simp <;> omega)
      clear HIB hb0 hb1
      go_wp2_with fail
      refine (hard_any 4 _).mono ?_
      rintro e w1 ⟨rfl, rfl⟩
      rw [show hb 4 = false from rfl]
      go_wp2_with fail
      refine (hard_any b _).mono ?_
      rintro e w1 ⟨rfl, rfl⟩
      rw [HBB.out]
      go_wp2
      go_ret
      exact ⟨by rw [HR.out]; rfl, rfl⟩
  · -- 5
    have hbv : (1 ≤ b ∧ b ≤ 3) ∨ b = 0 ∨ b = 4 ∨ b = 5 ∨ (6 ≤ b ∧ b ≠ 4 ∧ b ≠ 5) := by omega
    rcases hbv with hbb | rfl | rfl | rfl | hbb
    · obtain ⟨g1, g2⟩ := hbb
      have HR : Hid (res = true) := Lib.hid (by rw [HIB.out]; simp [bt, hardC] <;> omega)
      have HBB : Hid (hb b = true) := Lib.hid (by unfold hb; simp <;> omega)
      clear HIB hb0 hb1
      go_wp2_with fail
      refine (hard_any 5 _).mono ?_
      rintro e w1 ⟨rfl, rfl⟩
      rw [show hb 5 = false from rfl]
      go_wp2_with fail
      refine (hard_any b _).mono ?_
      rintro e w1 ⟨rfl, rfl⟩
      rw [HBB.out]
      go_wp2
      go_ret
      exact ⟨by rw [HR.out]; rfl, rfl⟩
    · -- 0
      have HR : Hid (res = true) := Lib.hid (by rw [HIB.out]; simp [bt, hardC] <;> omega)
      clear HIB hb0 hb1
      go_wp2_with fail
      refine (hard_any 5 _).mono ?_
      rintro e w1 ⟨rfl, rfl⟩
      rw [show hb 5 = false from rfl]
      go_wp2_with fail
      refine (hard_any 0 _).mono ?_
      rintro e w1 ⟨rfl, rfl⟩
      rw [show hb 0 = false from rfl]
      go_wp2
      go_ret
      exact ⟨by rw [HR.out]; rfl, rfl⟩
    · -- 4
      have HR : Hid (res = false) := Lib.hid (by rw [HIB.out]; simp [bt, hardC] <;> omega)
      clear HIB hb0 hb1
      go_wp2_with fail
      refine (hard_any 5 _).mono ?_
      rintro e w1 ⟨rfl, rfl⟩
      rw [show hb 5 = false from rfl]
      go_wp2_with fail
      refine (hard_any 4 _).mono ?_
      rintro e w1 ⟨rfl, rfl⟩
      rw [show hb 4 = false from rfl]
      go_wp2
      go_ret
      exact ⟨by rw [HR.out]; rfl, rfl⟩
    · -- 5
      have HR : Hid (res = false) := Lib.hid (by rw [HIB.out]; simp [bt, hardC] <;> omega)
      clear HIB hb0 hb1
      go_wp2_with fail
      refine (hard_any 5 _).mono ?_
      rintro e w1 ⟨rfl, rfl⟩
      rw [show hb 5 = false from rfl]
      go_wp2_with fail
      refine (hard_any 5 _).mono ?_
      rintro e w1 ⟨rfl, rfl⟩
      rw [show hb 5 = false from rfl]
      go_wp2
      go_ret
      exact ⟨by rw [HR.out]; rfl, rfl⟩
    · obtain ⟨g1, q4, q5⟩ := hbb
      have e4 : (b == 4) = false := by simpa using q4
      have e5 : (b == 5) = false := by simpa using q5
      have HR : Hid (res = true) := Lib.hid (by rw [HIB.out]; simp [bt, hardC] <;> omega)
      have HBB : Hid (hb b = false) := Lib.hid (by unfold hb; simp <;> omega)
      clear HIB hb0 hb1
      go_wp2_with fail
      refine (hard_any 5 _).mono ?_
      rintro e w1 ⟨rfl, rfl⟩
      rw [show hb 5 = false from rfl]
      go_wp2_with fail
      refine (hard_any b _).mono ?_
      rintro e w1 ⟨rfl, rfl⟩
      rw [HBB.out]
      go_wp2
      go_ret
      exact ⟨by rw [HR.out]; rfl, rfl⟩
  · -- 6
    have hbv : (1 ≤ b ∧ b ≤ 3) ∨ b = 0 ∨ b = 4 ∨ b = 5 ∨ b = 6 ∨ (6 ≤ b ∧ b ≠ 4 ∧ b ≠ 5 ∧ b ≠ 6) := by omega
    rcases hbv with hbb | rfl | rfl | rfl | rfl | hbb
    · obtain ⟨g1, g2⟩ := hbb
      have HR : Hid (res = true) := Lib.hid (by rw [HIB.out]; simp [bt, hardC] <;> omega)
      have HBB : Hid (hb b = true) := Lib.hid (by unfold hb; simp <;> omega)
      clear HIB hb0 hb1
      go_wp2_with fail
      refine (hard_any 6 _).mono ?_
      rintro e w1 ⟨rfl, rfl⟩
      rw [show hb 6 = false from rfl]
      go_wp2_with fail
      refine (hard_any b _).mono ?_
      rintro e w1 ⟨rfl, rfl⟩
      rw [HBB.out]
      go_wp2
      go_ret
      exact ⟨by rw [HR.out]; rfl, rfl⟩
    · -- 0
      have HR : Hid (res = true) := Lib.hid (by rw [HIB.out]; simp [bt, hardC] <;> omega)
      clear HIB hb0 hb1
      go_wp2_with fail
      refine (hard_any 6 _).mono ?_
      rintro e w1 ⟨rfl, rfl⟩
      rw [show hb 6 = false from rfl]
      go_wp2_with fail
      refine (hard_any 0 _).mono ?_
      rintro e w1 ⟨rfl, rfl⟩
      rw [show hb 0 = false from rfl]
      go_wp2
      go_ret
      exact ⟨by rw [HR.out]; rfl, rfl⟩
    · -- 4
      have HR : Hid (res = false) := Lib.hid (by rw [HIB.out]; simp [bt, hardC] <;> omega)
      clear HIB hb0 hb1
      go_wp2_with fail
      refine (hard_any 6 _).mono ?_
      rintro e w1 ⟨rfl, rfl⟩
      rw [show hb 6 = false from rfl]
      go_wp2_with fail
      refine (hard_any 4 _).mono ?_
      rintro e w1 ⟨rfl, rfl⟩
      rw [show hb 4 = false from rfl]
      go_wp2
      go_ret
      exact ⟨by rw [HR.out]; rfl, rfl⟩
    · -- 5
      have HR : Hid (res = false) := Lib.hid (by rw [HIB.out]; simp [bt, hardC] <;> omega)
      clear HIB hb0 hb1
      go_wp2_with fail
      refine (hard_any 6 _).mono ?_
      rintro e w1 ⟨rfl, rfl⟩
      rw [show hb 6 = false from rfl]
      go_wp2_with fail
      refine (hard_any 5 _).mono ?_
      rintro e w1 ⟨rfl, rfl⟩
      rw [show hb 5 = false from rfl]
      go_wp2
      go_ret
      exact ⟨by rw [HR.out]; rfl, rfl⟩
    · -- 6
      go_wp2_with fail
      refine (hard_any 6 _).mono ?_
      rintro e w1 ⟨rfl, rfl⟩
      rw [show hb 6 = false from rfl]
      go_wp2_with fail
      refine (hard_any 6 _).mono ?_
      rintro e w1 ⟨rfl, rfl⟩
      rw [show hb 6 = false from rfl]
      go_wp2_with fail
      refine (hco.out _ HSL.out).mono ?_
      rintro e w3 ⟨rfl, rfl⟩
      have HR : Hid (res = !(((flg (6 :: cx) : Nat) : Int) % 2 == 1)) := Lib.hid (by
        rw [HIB.out]
        generalize hfn : flg (6 :: cx) = fn
        have : bt (6 :: cx) 6 = if fn % 2 = 1 then false else true := by simp [bt, hardC, hfn]
        rw [this]
        by_cases hq : fn % 2 = 1
        · rw [if_pos hq]; symm; simp; omega
        · rw [if_neg hq]; symm; simp; omega)
      cases hpv : (((flg (6 :: cx) : Nat) : Int) % 2 == 1) with
      | true =>
        rw [hpv] at HR
        clear hpv
        go_wp2
        go_ret
        exact ⟨by rw [HR.out]; rfl, rfl⟩
      | false =>
        rw [hpv] at HR
        clear hpv
        go_wp2
        go_ret
        exact ⟨by rw [HR.out]; rfl, rfl⟩
    · obtain ⟨g1, q4, q5, q6⟩ := hbb
      have e4 : (b == 4) = false := by simpa using q4
      have e5 : (b == 5) = false := by simpa using q5
      have e6 : (b == 6) = false := by simpa using q6
      have HR : Hid (res = true) := Lib.hid (by rw [HIB.out]; simp [bt, hardC] <;> omega)
      have HBB : Hid (hb b = false) := Lib.hid (by unfold hb; simp <;> omega)
      clear HIB hb0 hb1
      go_wp2_with fail
      refine (hard_any 6 _).mono ?_
      rintro e w1 ⟨rfl, rfl⟩
      rw [show hb 6 = false from rfl]
      go_wp2_with fail
      refine (hard_any b _).mono ?_
      rintro e w1 ⟨rfl, rfl⟩
      rw [HBB.out]
      go_wp2
      go_ret
      exact ⟨by rw [HR.out]; rfl, rfl⟩
  · -- 7
    have hbv : (1 ≤ b ∧ b ≤ 3) ∨ b = 0 ∨ b = 4 ∨ b = 5 ∨ b = 7 ∨ b = 8 ∨ b = 10 ∨ b = 11 ∨ (6 ≤ b ∧ b ≠ 4 ∧ b ≠ 5 ∧ b ≠ 7 ∧ b ≠ 8 ∧ b ≠ 10 ∧ b ≠ 11) := by omega
    rcases hbv with hbb | rfl | rfl | rfl | rfl | rfl | rfl | rfl | hbb
    · obtain ⟨g1, g2⟩ := hbb
      have HR : Hid (res = true) := Lib.hid (by rw [HIB.out]; simp [bt, hardC] <;> omega)
      have HBB : Hid (hb b = true) := Lib.hid (by unfold hb; simp <;> omega)
      clear HIB hb0 hb1
      go_wp2_with fail
      refine (hard_any 7 _).mono ?_
      rintro e w1 ⟨rfl, rfl⟩
      rw [show hb 7 = false from rfl]
      go_wp2_with fail
      refine (hard_any b _).mono ?_
      rintro e w1 ⟨rfl, rfl⟩
      rw [HBB.out]
      go_wp2
      go_ret
      exact ⟨by rw [HR.out]; rfl, rfl⟩
    · -- 0
      have HR : Hid (res = true) := Lib.hid (by rw [HIB.out]; simp [bt, hardC] <;> omega)
      clear HIB hb0 hb1
      go_wp2_with fail
      refine (hard_any 7 _).mono ?_
      rintro e w1 ⟨rfl, rfl⟩
      rw [show hb 7 = false from rfl]
      go_wp2_with fail
      refine (hard_any 0 _).mono ?_
      rintro e w1 ⟨rfl, rfl⟩
      rw [show hb 0 = false from rfl]
      go_wp2
      go_ret
      exact ⟨by rw [HR.out]; rfl, rfl⟩
    · -- 4
      have HR : Hid (res = false) := Lib.hid (by rw [HIB.out]; simp [bt, hardC] <;> omega)
      clear HIB hb0 hb1
      go_wp2_with fail
      refine (hard_any 7 _).mono ?_
      rintro e w1 ⟨rfl, rfl⟩
      rw [show hb 7 = false from rfl]
      go_wp2_with fail
      refine (hard_any 4 _).mono ?_
      rintro e w1 ⟨rfl, rfl⟩
      rw [show hb 4 = false from rfl]
      go_wp2
      go_ret
      exact ⟨by rw [HR.out]; rfl, rfl⟩
    · -- 5
      have HR : Hid (res = false) := Lib.hid (by rw [HIB.out]; simp [bt, hardC] <;> omega)
      clear HIB hb0 hb1
      go_wp2_with fail
      refine (hard_any 7 _).mono ?_
      rintro e w1 ⟨rfl, rfl⟩
      rw [show hb 7 = false from rfl]
      go_wp2_with fail
      refine (hard_any 5 _).mono ?_
      rintro e w1 ⟨rfl, rfl⟩
      rw [show hb 5 = false from rfl]
      go_wp2
      go_ret
      exact ⟨by rw [HR.out]; rfl, rfl⟩
    · -- 7
      have HR : Hid (res = false) := Lib.hid (by rw [HIB.out]; simp [bt, hardC] <;> omega)
      clear HIB hb0 hb1
      go_wp2_with fail
      refine (hard_any 7 _).mono ?_
      rintro e w1 ⟨rfl, rfl⟩
      rw [show hb 7 = false from rfl]
      go_wp2_with fail
      refine (hard_any 7 _).mono ?_
      rintro e w1 ⟨rfl, rfl⟩
      rw [show hb 7 = false from rfl]
      go_wp2
      go_ret
      exact ⟨by rw [HR.out]; rfl, rfl⟩
    · -- 8
      have HR : Hid (res = false) := Lib.hid (by rw [HIB.out]; simp [bt, hardC] <;> omega)
      clear HIB hb0 hb1
      go_wp2_with fail
      refine (hard_any 7 _).mono ?_
      rintro e w1 ⟨rfl, rfl⟩
      rw [show hb 7 = false from rfl]
      go_wp2_with fail
      refine (hard_any 8 _).mono ?_
      rintro e w1 ⟨rfl, rfl⟩
      rw [show hb 8 = false from rfl]
      go_wp2
      go_ret
      exact ⟨by rw [HR.out]; rfl, rfl⟩
    · -- 10
      have HR : Hid (res = false) := Lib.hid (by rw [HIB.out]; simp [bt, hardC] <;> omega)
      clear HIB hb0 hb1
      go_wp2_with fail
      refine (hard_any 7 _).mono ?_
      rintro e w1 ⟨rfl, rfl⟩
      rw [show hb 7 = false from rfl]
      go_wp2_with fail
      refine (hard_any 10 _).mono ?_
      rintro e w1 ⟨rfl, rfl⟩
      rw [show hb 10 = false from rfl]
      go_wp2
      go_ret
      exact ⟨by rw [HR.out]; rfl, rfl⟩
    · -- 11
      have HR : Hid (res = false) := Lib.hid (by rw [HIB.out]; simp [bt, hardC] <;> omega)
      clear HIB hb0 hb1
      go_wp2_with fail
      refine (hard_any 7 _).mono ?_
      rintro e w1 ⟨rfl, rfl⟩
      rw [show hb 7 = false from rfl]
      go_wp2_with fail
      refine (hard_any 11 _).mono ?_
      rintro e w1 ⟨rfl, rfl⟩
      rw [show hb 11 = false from rfl]
      go_wp2
      go_ret
      exact ⟨by rw [HR.out]; rfl, rfl⟩
    · obtain ⟨g1, q4, q5, q7, q8, q10, q11⟩ := hbb
      have e4 : (b == 4) = false := by simpa using q4
      have e5 : (b == 5) = false := by simpa using q5
      have e7 : (b == 7) = false := by simpa using q7
      have e8 : (b == 8) = false := by simpa using q8
      have e10 : (b == 10) = false := by simpa using q10
      have e11 : (b == 11) = false := by simpa using q11
      have HR : Hid (res = true) := Lib.hid (by rw [HIB.out]; simp [bt, hardC] <;> omega)
      have HBB : Hid (hb b = false) := Lib.hid (by unfold hb; simp <;> omega)
      clear HIB hb0 hb1
      go_wp2_with fail
      refine (hard_any 7 _).mono ?_
      rintro e w1 ⟨rfl, rfl⟩
      rw [show hb 7 = false from rfl]
      go_wp2_with fail
      refine (hard_any b _).mono ?_
      rintro e w1 ⟨rfl, rfl⟩
      rw [HBB.out]
      go_wp2
      go_ret
      exact ⟨by rw [HR.out]; rfl, rfl⟩
  · -- 8
    have hbv : (1 ≤ b ∧ b ≤ 3) ∨ b = 0 ∨ b = 4 ∨ b = 5 ∨ b = 8 ∨ b = 9 ∨ (6 ≤ b ∧ b ≠ 4 ∧ b ≠ 5 ∧ b ≠ 8 ∧ b ≠ 9) := by omega
    rcases hbv with hbb | rfl | rfl | rfl | rfl | rfl | hbb
    · obtain ⟨g1, g2⟩ := hbb
      have HR : Hid (res = true) := Lib.hid (by rw [HIB.out]; simp [bt, hardC] <;> omega)
      have HBB : Hid (hb b = true) := Lib.hid (by unfold hb; simp <;> omega)
      clear HIB hb0 hb1
      go_wp2_with fail
      refine (hard_any 8 _).mono ?_
      rintro e w1 ⟨rfl, rfl⟩
      rw [show hb 8 = false from rfl]
      go_wp2_with fail
      refine (hard_any b _).mono ?_
      rintro e w1 ⟨rfl, rfl⟩
      rw [HBB.out]
      go_wp2
      go_ret
      exact ⟨by rw [HR.out]; rfl, rfl⟩
    · -- 0
      have HR : Hid (res = true) := Lib.hid (by rw [HIB.out]; simp [bt, hardC] <;> omega)
      clear HIB hb0 hb1
      go_wp2_with fail
      refine (hard_any 8 _).mono ?_
      rintro e w1 ⟨rfl, rfl⟩
      rw [show hb 8 = false from rfl]
      go_wp2_with fail
      refine (hard_any 0 _).mono ?_
      rintro e w1 ⟨rfl, rfl⟩
      rw [show hb 0 = false from rfl]
      go_wp2
      go_ret
      exact ⟨by rw [HR.out]; rfl, rfl⟩
    · -- 4
      have HR : Hid (res = false) := Lib.hid (by rw [HIB.out]; simp [bt, hardC] <;> omega)
      clear HIB hb0 hb1
      go_wp2_with fail
      refine (hard_any 8 _).mono ?_
      rintro e w1 ⟨rfl, rfl⟩
      rw [show hb 8 = false from rfl]
      go_wp2_with fail
      refine (hard_any 4 _).mono ?_
      rintro e w1 ⟨rfl, rfl⟩
      rw [show hb 4 = false from rfl]
      go_wp2
      go_ret
      exact ⟨by rw [HR.out]; rfl, rfl⟩
    · -- 5
      have HR : Hid (res = false) := Lib.hid (by rw [HIB.out]; simp [bt, hardC] <;> omega)
      clear HIB hb0 hb1
      go_wp2_with fail
      refine (hard_any 8 _).mono ?_
      rintro e w1 ⟨rfl, rfl⟩
      rw [show hb 8 = false from rfl]
      go_wp2_with fail
      refine (hard_any 5 _).mono ?_
      rintro e w1 ⟨rfl, rfl⟩
      rw [show hb 5 = false from rfl]
      go_wp2
      go_ret
      exact ⟨by rw [HR.out]; rfl, rfl⟩
    · -- 8
      have HR : Hid (res = false) := Lib.hid (by rw [HIB.out]; simp [bt, hardC] <;> omega)
      clear HIB hb0 hb1
      go_wp2_with fail
      refine (hard_any 8 _).mono ?_
      rintro e w1 ⟨rfl, rfl⟩
      rw [show hb 8 = false from rfl]
      go_wp2_with fail
      refine (hard_any 8 _).mono ?_
      rintro e w1 ⟨rfl, rfl⟩
      rw [show hb 8 = false from rfl]
      go_wp2
      go_ret
      exact ⟨by rw [HR.out]; rfl, rfl⟩
    · -- 9
      have HR : Hid (res = false) := Lib.hid (by rw [HIB.out]; simp [bt, hardC] <;> omega)
      clear HIB hb0 hb1
      go_wp2_with fail
      refine (hard_any 8 _).mono ?_
      rintro e w1 ⟨rfl, rfl⟩
      rw [show hb 8 = false from rfl]
      go_wp2_with fail
      refine (hard_any 9 _).mono ?_
      rintro e w1 ⟨rfl, rfl⟩
      rw [show hb 9 = false from rfl]
      go_wp2
      go_ret
      exact ⟨by rw [HR.out]; rfl, rfl⟩
    · obtain ⟨g1, q4, q5, q8, q9⟩ := hbb
      have e4 : (b == 4) = false := by simpa using q4
      have e5 : (b == 5) = false := by simpa using q5
      have e8 : (b == 8) = false := by simpa using q8
      have e9 : (b == 9) = false := by simpa using q9
      have HR : Hid (res = true) := Lib.hid (by rw [HIB.out]; simp [bt, hardC] <;> omega)
      have HBB : Hid (hb b = false) := Lib.hid (by unfold hb; simp <;> omega)
      clear HIB hb0 hb1
      go_wp2_with fail
      refine (hard_any 8 _).mono ?_
      rintro e w1 ⟨rfl, rfl⟩
      rw [show hb 8 = false from rfl]
      go_wp2_with fail
      refine (hard_any b _).mono ?_
      rintro e w1 ⟨rfl, rfl⟩
      rw [HBB.out]
      go_wp2
      go_ret
      exact ⟨by rw [HR.out]; rfl, rfl⟩
  · -- 9
    have hbv : (1 ≤ b ∧ b ≤ 3) ∨ b = 0 ∨ b = 4 ∨ b = 5 ∨ b = 9 ∨ (6 ≤ b ∧ b ≠ 4 ∧ b ≠ 5 ∧ b ≠ 9) := by omega
    rcases hbv with hbb | rfl | rfl | rfl | rfl | hbb
    · obtain ⟨g1, g2⟩ := hbb
      have HR : Hid (res = true) := Lib.hid (by rw [HIB.out]; simp [bt, hardC] <;> omega)
      have HBB : Hid (hb b = true) := Lib.hid (by unfold hb; simp <;> omega)
      clear HIB hb0 hb1
      go_wp2_with fail
      refine (hard_any 9 _).mono ?_
      rintro e w1 ⟨rfl, rfl⟩
      rw [show hb 9 = false from rfl]
      go_wp2_with fail
      refine (hard_any b _).mono ?_
      rintro e w1 ⟨rfl, rfl⟩
      rw [HBB.out]
      go_wp2
      go_ret
      exact ⟨by rw [HR.out]; rfl, rfl⟩
    · -- 0
      have HR : Hid (res = true) := Lib.hid (by rw [HIB.out]; simp [bt, hardC] <;> omega)
      clear HIB hb0 hb1
      go_wp2_with fail
      refine (hard_any 9 _).mono ?_
      rintro e w1 ⟨rfl, rfl⟩
      rw [show hb 9 = false from rfl]
      go_wp2_with fail
      refine (hard_any 0 _).mono ?_
      rintro e w1 ⟨rfl, rfl⟩
      rw [show hb 0 = false from rfl]
      go_wp2
      go_ret
      exact ⟨by rw [HR.out]; rfl, rfl⟩
    · -- 4
      have HR : Hid (res = false) := Lib.hid (by rw [HIB.out]; simp [bt, hardC] <;> omega)
      clear HIB hb0 hb1
      go_wp2_with fail
      refine (hard_any 9 _).mono ?_
      rintro e w1 ⟨rfl, rfl⟩
      rw [show hb 9 = false from rfl]
      go_wp2_with fail
      refine (hard_any 4 _).mono ?_
      rintro e w1 ⟨rfl, rfl⟩
      rw [show hb 4 = false from rfl]
      go_wp2
      go_ret
      exact ⟨by rw [HR.out]; rfl, rfl⟩
    · -- 5
      have HR : Hid (res = false) := Lib.hid (by rw [HIB.out]; simp [bt, hardC] <;> omega)
      clear HIB hb0 hb1
      go_wp2_with fail
      refine (hard_any 9 _).mono ?_
      rintro e w1 ⟨rfl, rfl⟩
      rw [show hb 9 = false from rfl]
      go_wp2_with fail
      refine (hard_any 5 _).mono ?_
      rintro e w1 ⟨rfl, rfl⟩
      rw [show hb 5 = false from rfl]
      go_wp2
      go_ret
      exact ⟨by rw [HR.out]; rfl, rfl⟩
    · -- 9
      have HR : Hid (res = false) := Lib.hid (by rw [HIB.out]; simp [bt, hardC] <;> omega)
      clear HIB hb0 hb1
      go_wp2_with fail
      refine (hard_any 9 _).mono ?_
      rintro e w1 ⟨rfl, rfl⟩
      rw [show hb 9 = false from rfl]
      go_wp2_with fail
      refine (hard_any 9 _).mono ?_
      rintro e w1 ⟨rfl, rfl⟩
      rw [show hb 9 = false from rfl]
      go_wp2
      go_ret
      exact ⟨by rw [HR.out]; rfl, rfl⟩
    · obtain ⟨g1, q4, q5, q9⟩ := hbb
      have e4 : (b == 4) = false := by simpa using q4
      have e5 : (b == 5) = false := by simpa using q5
      have e9 : (b == 9) = false := by simpa using q9
      have HR : Hid (res = true) := Lib.hid (by rw [HIB.out]; simp [bt, hardC] <;> omega)
      have HBB : Hid (hb b = false) := Lib.hid (by unfold hb; simp <;> omega)
      clear HIB hb0 hb1
      go_wp2_with fail
      refine (hard_any 9 _).mono ?_
      rintro e w1 ⟨rfl, rfl⟩
      rw [show hb 9 = false from rfl]
      go_wp2_with fail
      refine (hard_any b _).mono ?_
      rintro e w1 ⟨rfl, rfl⟩
      rw [HBB.out]
      go_wp2
      go_ret
      exact ⟨by rw [HR.out]; rfl, rfl⟩
  · -- 10
    have hbv : (1 ≤ b ∧ b ≤ 3) ∨ b = 0 ∨ b = 4 ∨ b = 5 ∨ b = 8 ∨ b = 9 ∨ (6 ≤ b ∧ b ≠ 4 ∧ b ≠ 5 ∧ b ≠ 8 ∧ b ≠ 9) := by omega
    rcases hbv with hbb | rfl | rfl | rfl | rfl | rfl | hbb
    · obtain ⟨g1, g2⟩ := hbb
      have HR : Hid (res = true) := Lib.hid (by rw [HIB.out]; simp [bt, hardC] <;> omega)
      have HBB : Hid (hb b = true) := Lib.hid (by unfold hb; simp <;> omega)
      clear HIB hb0 hb1
      go_wp2_with fail
      refine (hard_any 10 _).mono ?_
      rintro e w1 ⟨rfl, rfl⟩
      rw [show hb 10 = false from rfl]
      go_wp2_with fail
      refine (hard_any b _).mono ?_
      rintro e w1 ⟨rfl, rfl⟩
      rw [HBB.out]
      go_wp2
      go_ret
      exact ⟨by rw [HR.out]; rfl, rfl⟩
    · -- 0
      have HR : Hid (res = true) := Lib.hid (by rw [HIB.out]; simp [bt, hardC] <;> omega)
      clear HIB hb0 hb1
      go_wp2_with fail
      refine (hard_any 10 _).mono ?_
      rintro e w1 ⟨rfl, rfl⟩
      rw [show hb 10 = false from rfl]
      go_wp2_with fail
      refine (hard_any 0 _).mono ?_
      rintro e w1 ⟨rfl, rfl⟩
      rw [show hb 0 = false from rfl]
      go_wp2
      go_ret
      exact ⟨by rw [HR.out]; rfl, rfl⟩
    · -- 4
      have HR : Hid (res = false) := Lib.hid (by rw [HIB.out]; simp [bt, hardC] <;> omega)
      clear HIB hb0 hb1
      go_wp2_with fail
      refine (hard_any 10 _).mono ?_
      rintro e w1 ⟨rfl, rfl⟩
      rw [show hb 10 = false from rfl]
      go_wp2_with fail
      refine (hard_any 4 _).mono ?_
      rintro e w1 ⟨rfl, rfl⟩
      rw [show hb 4 = false from rfl]
      go_wp2
      go_ret
      exact ⟨by rw [HR.out]; rfl, rfl⟩
    · -- 5
      have HR : Hid (res = false) := Lib.hid (by rw [HIB.out]; simp [bt, hardC] <;> omega)
      clear HIB hb0 hb1
      go_wp2_with fail
      refine (hard_any 10 _).mono ?_
      rintro e w1 ⟨rfl, rfl⟩
      rw [show hb 10 = false from rfl]
      go_wp2_with fail
      refine (hard_any 5 _).mono ?_
      rintro e w1 ⟨rfl, rfl⟩
      rw [show hb 5 = false from rfl]
      go_wp2
      go_ret
      exact ⟨by rw [HR.out]; rfl, rfl⟩
    · -- 8
      have HR : Hid (res = false) := Lib.hid (by rw [HIB.out]; simp [bt, hardC] <;> omega)
      clear HIB hb0 hb1
      go_wp2_with fail
      refine (hard_any 10 _).mono ?_
      rintro e w1 ⟨rfl, rfl⟩
      rw [show hb 10 = false from rfl]
      go_wp2_with fail
      refine (hard_any 8 _).mono ?_
      rintro e w1 ⟨rfl, rfl⟩
      rw [show hb 8 = false from rfl]
      go_wp2
      go_ret
      exact ⟨by rw [HR.out]; rfl, rfl⟩
    · -- 9
      have HR : Hid (res = false) := Lib.hid (by rw [HIB.out]; simp [bt, hardC] <;> omega)
      clear HIB hb0 hb1
      go_wp2_with fail
      refine (hard_any 10 _).mono ?_
      rintro e w1 ⟨rfl, rfl⟩
      rw [show hb 10 = false from rfl]
      go_wp2_with fail
      refine (hard_any 9 _).mono ?_
      rintro e w1 ⟨rfl, rfl⟩
      rw [show hb 9 = false from rfl]
      go_wp2
      go_ret
      exact ⟨by rw [HR.out]; rfl, rfl⟩
    · obtain ⟨g1, q4, q5, q8, q9⟩ := hbb
      have e4 : (b == 4) = false := by simpa using q4
      have e5 : (b == 5) = false := by simpa using q5
      have e8 : (b == 8) = false := by simpa using q8
      have e9 : (b == 9) = false := by simpa using q9
      have HR : Hid (res = true) := Lib.hid (by rw [HIB.out]; simp [bt, hardC] <;> omega)
      have HBB : Hid (hb b = false) := Lib.hid (by unfold hb; simp <;> omega)
      clear HIB hb0 hb1
      go_wp2_with fail
      refine (hard_any 10 _).mono ?_
      rintro e w1 ⟨rfl, rfl⟩
      rw [show hb 10 = false from rfl]
      go_wp2_with fail
      refine (hard_any b _).mono ?_
      rintro e w1 ⟨rfl, rfl⟩
      rw [HBB.out]
      go_wp2
      go_ret
      exact ⟨by rw [HR.out]; rfl, rfl⟩
  · -- 11
    have hbv : (1 ≤ b ∧ b ≤ 3) ∨ b = 0 ∨ b = 4 ∨ b = 5 ∨ b = 9 ∨ (6 ≤ b ∧ b ≠ 4 ∧ b ≠ 5 ∧ b ≠ 9) := by omega
    rcases hbv with hbb | rfl | rfl | rfl | rfl | hbb
    · obtain ⟨g1, g2⟩ := hbb
      have HR : Hid (res = true) := Lib.hid (by rw [HIB.out]; simp [bt, hardC] <;> omega)
      have HBB : Hid (hb b = true) := Lib.hid (by unfold hb; simp <;> omega)
      clear HIB hb0 hb1
      go_wp2_with fail
      refine (hard_any 11 _).mono ?_
      rintro e w1 ⟨rfl, rfl⟩
      rw [show hb 11 = false from rfl]
      go_wp2_with fail
      refine (hard_any b _).mono ?_
      rintro e w1 ⟨rfl, rfl⟩
      rw [HBB.out]
      go_wp2
      go_ret
      exact ⟨by rw [HR.out]; rfl, rfl⟩
    · -- 0
      have HR : Hid (res = true) := Lib.hid (by rw [HIB.out]; simp [bt, hardC] <;> omega)
      clear HIB hb0 hb1
      go_wp2_with fail
      refine (hard_any 11 _).mono ?_
      rintro e w1 ⟨rfl, rfl⟩
      rw [show hb 11 = false from rfl]
      go_wp2_with fail
      refine (hard_any 0 _).mono ?_
      rintro e w1 ⟨rfl, rfl⟩
      rw [show hb 0 = false from rfl]
      go_wp2
      go_ret
      exact ⟨by rw [HR.out]; rfl, rfl⟩
    · -- 4
      have HR : Hid (res = false) := Lib.hid (by rw [HIB.out]; simp [bt, hardC] <;> omega)
      clear HIB hb0 hb1
      go_wp2_with fail
      refine (hard_any 11 _).mono ?_
      rintro e w1 ⟨rfl, rfl⟩
      rw [show hb 11 = false from rfl]
      go_wp2_with fail
      refine (hard_any 4 _).mono ?_
      rintro e w1 ⟨rfl, rfl⟩
      rw [show hb 4 = false from rfl]
      go_wp2
      go_ret
      exact ⟨by rw [HR.out]; rfl, rfl⟩
    · -- 5
      have HR : Hid (res = false) := Lib.hid (by rw [HIB.out]; simp [bt, hardC] <;> omega)
      clear HIB hb0 hb1
      go_wp2_with fail
      refine (hard_any 11 _).mono ?_
      rintro e w1 ⟨rfl, rfl⟩
      rw [show hb 11 = false from rfl]
      go_wp2_with fail
      refine (hard_any 5 _).mono ?_
      rintro e w1 ⟨rfl, rfl⟩
      rw [show hb 5 = false from rfl]
      go_wp2
      go_ret
      exact ⟨by rw [HR.out]; rfl, rfl⟩
    · -- 9
      have HR : Hid (res = false) := Lib.hid (by rw [HIB.out]; simp [bt, hardC] <;> omega)
      clear HIB hb0 hb1
      go_wp2_with fail
      refine (hard_any 11 _).mono ?_
      rintro e w1 ⟨rfl, rfl⟩
      rw [show hb 11 = false from rfl]
      go_wp2_with fail
      refine (hard_any 9 _).mono ?_
      rintro e w1 ⟨rfl, rfl⟩
      rw [show hb 9 = false from rfl]
      go_wp2
      go_ret
      exact ⟨by rw [HR.out]; rfl, rfl⟩
    · obtain ⟨g1, q4, q5, q9⟩ := hbb
      have e4 : (b == 4) = false := by simpa using q4
      have e5 : (b == 5) = false := by simpa using q5
      have e9 : (b == 9) = false := by simpa using q9
      have HR : Hid (res = true) := Lib.hid (by rw [HIB.out]; simp [bt, hardC] <;> omega)
      have HBB : Hid (hb b = false) := Lib.hid (by unfold hb; simp <;> omega)
      clear HIB hb0 hb1
      go_wp2_with fail
      refine (hard_any 11 _).mono ?_
      rintro e w1 ⟨rfl, rfl⟩
      rw [show hb 11 = false from rfl]
      go_wp2_with fail
      refine (hard_any b _).mono ?_
      rintro e w1 ⟨rfl, rfl⟩
      rw [HBB.out]
      go_wp2
      go_ret
      exact ⟨by rw [HR.out]; rfl, rfl⟩
  · -- 12
    have hbv : (1 ≤ b ∧ b ≤ 3) ∨ b = 0 ∨ b = 4 ∨ b = 5 ∨ (6 ≤ b ∧ b ≠ 4 ∧ b ≠ 5) := by omega
    rcases hbv with hbb | rfl | rfl | rfl | hbb
    · obtain ⟨g1, g2⟩ := hbb
      have HR : Hid (res = true) := Lib.hid (by rw [HIB.out]; simp [bt, hardC] <;> omega)
      have HBB : Hid (hb b = true) := Lib.hid (by unfold hb; simp <;> omega)
      clear HIB hb0 hb1
      go_wp2_with fail
      refine (hard_any 12 _).mono ?_
      rintro e w1 ⟨rfl, rfl⟩
      rw [show hb 12 = false from rfl]
      go_wp2_with fail
      refine (hard_any b _).mono ?_
      rintro e w1 ⟨rfl, rfl⟩
      rw [HBB.out]
      go_wp2
      go_ret
      exact ⟨by rw [HR.out]; rfl, rfl⟩
    · -- 0
      have HR : Hid (res = true) := Lib.hid (by rw [HIB.out]; simp [bt, hardC] <;> omega)
      clear HIB hb0 hb1
      go_wp2_with fail
      refine (hard_any 12 _).mono ?_
      rintro e w1 ⟨rfl, rfl⟩
      rw [show hb 12 = false from rfl]
      go_wp2_with fail
      refine (hard_any 0 _).mono ?_
      rintro e w1 ⟨rfl, rfl⟩
      rw [show hb 0 = false from rfl]
      go_wp2
      go_ret
      exact ⟨by rw [HR.out]; rfl, rfl⟩
    · -- 4
      have HR : Hid (res = false) := Lib.hid (by rw [HIB.out]; simp [bt, hardC] <;> omega)
      clear HIB hb0 hb1
      go_wp2_with fail
      refine (hard_any 12 _).mono ?_
      rintro e w1 ⟨rfl, rfl⟩
      rw [show hb 12 = false from rfl]
      go_wp2_with fail
      refine (hard_any 4 _).mono ?_
      rintro e w1 ⟨rfl, rfl⟩
      rw [show hb 4 = false from rfl]
      go_wp2
      go_ret
      exact ⟨by rw [HR.out]; rfl, rfl⟩
    · -- 5
      have HR : Hid (res = false) := Lib.hid (by rw [HIB.out]; simp [bt, hardC] <;> omega)
      clear HIB hb0 hb1
      go_wp2_with fail
      refine (hard_any 12 _).mono ?_
      rintro e w1 ⟨rfl, rfl⟩
      rw [show hb 12 = false from rfl]
      go_wp2_with fail
      refine (hard_any 5 _).mono ?_
      rintro e w1 ⟨rfl, rfl⟩
      rw [show hb 5 = false from rfl]
      go_wp2
      go_ret
      exact ⟨by rw [HR.out]; rfl, rfl⟩
    · obtain ⟨g1, q4, q5⟩ := hbb
      have e4 : (b == 4) = false := by simpa using q4
      have e5 : (b == 5) = false := by simpa using q5
      have HR : Hid (res = true) := Lib.hid (by rw [HIB.out]; simp [bt, hardC] <;> omega)
      have HBB : Hid (hb b = false) := Lib.hid (by unfold hb; simp <;> omega)
      clear HIB hb0 hb1
      go_wp2_with fail
      refine (hard_any 12 _).mono ?_
      rintro e w1 ⟨rfl, rfl⟩
      rw [show hb 12 = false from rfl]
      go_wp2_with fail
      refine (hard_any b _).mono ?_
      rintro e w1 ⟨rfl, rfl⟩
      rw [HBB.out]
      go_wp2
      go_ret
      exact ⟨by rw [HR.out]; rfl, rfl⟩
end Go.Proofs.Ythbcancckogloaa
