/-
  Walks of the reference's Break, Count, Next, Prev, All.
-/
import Derived.Test.YtodbjehggkdjaaaAppend
import Derived.Test.YtodbjehggkdjaaaSl
import Derived.Test.YtodbjehggkdjaaaMI
import Derived.Test.YtodbjehggkdjaaaMB
import Derived.Test.YtodbjehggkdjaaaMG
import Derived.Test.YtodbjehggkdjaaaML
import Derived.Laws.OwnMore
import Derived.Test.YtodbjehggkdjaaaQuietT
namespace Go.Proofs.Ytodbjehggkdjaaa
open Go.RowKit
set_option linter.unusedVariables false
set_option linter.unusedSimpArgs false

def hb (c : Int) : Bool := c == 1 || c == 2 || c == 3
theorem hard_any (c : Int) (w : World) : Calls Try.prog 60 #[.int .i64 c] w fun e w' => e = .returned (.bool (hb c)) ∧ w = w' := by
  by_cases h1 : c = 1
  · subst h1
    go_enter Try.func60, Try.ntmps60
    go_wp2
    go_ret
    exact ⟨rfl, rfl⟩
  by_cases h2 : c = 2
  · subst h2
    go_enter Try.func60, Try.ntmps60
    go_wp2
    go_ret
    exact ⟨rfl, rfl⟩
  · have e1 : (c == 1) = false := by simpa using h1
    have e2 : (c == 2) = false := by simpa using h2
    have HR : Hid (hb c = (c == 3)) := Lib.hid (by unfold hb; rw [e1, e2]; rfl)
    go_enter Try.func60, Try.ntmps60
    go_wp2
    go_ret
    exact ⟨by rw [HR.out]; rfl, rfl⟩

theorem take_rev {l : List Int} {m : Nat} {x : Int} (h : l[m]? = some x) : (l.take (m + 1)).reverse = x :: (l.take m).reverse := by
  rw [List.take_add_one, h]; simp
set_option maxHeartbeats 4000000 in
theorem joined_any (v : Value) (l : List Int) (i : Nat) (w : World) (h : SlAt w v l.length (l.map (.int .i64))) (hl : l.length ≤ 1073741824) (hi : i < l.length) :
    Calls Try.prog 61 #[v, .int .i64 i] w fun e w' => e = .returned (.bool (pic (l.take i).reverse)) ∧ w = w' := by
  obtain ⟨b, off, cap, rfl, hc⟩ := h.at_ (by omega)
  have HC := Lib.hid hc; clear hc h
  obtain ⟨n, hn⟩ : ∃ n, n = l.length := ⟨_, rfl⟩
  rw [← hn] at hl hi ⊢
  have HN := Lib.hid hn; clear hn
  go_enter Try.func61, Try.ntmps61
  go_wp2
  go_loopw [5] (fun x W => ∃ m : Nat, m ≤ i ∧ x = .int .i64 ((m : Int) - 1) ∧ w = W ∧ pic (l.take m).reverse = pic (l.take i).reverse) (fun x _ => (intOf x + 1).toNat)
  case atStart => exact ⟨i, Nat.le_refl _, rfl, rfl, rfl⟩
  case round =>
    obtain ⟨m, hm, rfl, rfl, hp⟩ := hrel
    have HP := Lib.hid hp; clear hp
    cases m with
    | zero =>
      have hr : pic (l.take i).reverse = false := by rw [← HP.out]; rfl
      have HR := Lib.hid hr; clear hr HP
      have e : ((0 : Nat) : Int) - 1 = -1 := by omega
      rw [e]
      clear e
      go_wp2
      go_ret
      exact ⟨by rw [HR.out]; rfl, rfl⟩
    | succ m =>
      have hml : m < l.length := by rw [← HN.out]; omega
      have hx := List.getElem?_eq_getElem hml
      have hcell := HC.out m (.int .i64 l[m]) (by rw [List.getElem?_map, hx]; rfl)
      have htr := take_rev hx
      rw [htr] at HP
      generalize l[m] = x at *
      have e : ((m + 1 : Nat) : Int) - 1 = (m : Int) := by omega
      rw [e]
      clear e hx htr
      by_cases h5 : x = 5
      · have h5d : (x == 5) = true := by simpa using h5
        have HP2 : Hid (pic (l.take m).reverse = pic (l.take i).reverse) := Lib.hid (by rw [← HP.out, h5]; rfl)
        subst h5
        clear HP
        go_wp2
        exact ⟨⟨m, by omega, rfl, by trivial, HP2.out⟩, by simp [intOf]⟩
      · have h5d : (x == 5) = false := by simpa using h5
        have HR : Hid (pic (l.take i).reverse = (x == 12)) := Lib.hid (by
          rw [← HP.out]; unfold pic; rw [if_neg h5]
          by_cases h : x = 12
          · subst h; rfl
          · rw [decide_eq_false h]; symm; simpa using h)
        clear HP
        go_wp2
        go_ret
        exact ⟨by rw [HR.out]; rfl, rfl⟩

set_option maxHeartbeats 4000000 in
theorem odd_any (v : Value) (l : List Int) (i : Nat) (w : World) (h : SlAt w v l.length (l.map (.int .i64))) (hl : l.length ≤ 1073741824) (hi : i < l.length) :
    Calls Try.prog 62 #[v, .int .i64 i] w fun e w' => e = .returned (.bool (((flg (l.take (i + 1)).reverse : Nat) : Int) % 2 == 1)) ∧ w = w' := by
  obtain ⟨b, off, cap, rfl, hc⟩ := h.at_ (by omega)
  have HC := Lib.hid hc; clear hc h
  obtain ⟨n, hn⟩ : ∃ n, n = l.length := ⟨_, rfl⟩
  rw [← hn] at hl hi ⊢
  have HN := Lib.hid hn; clear hn
  go_enter Try.func62, Try.ntmps62
  go_wp2
  go_loopw [1, 5] (fun x c W => ∃ m k : Nat, m + k = i + 1 ∧ x = .int .i64 ((m : Int) - 1) ∧ c = .int .i64 k ∧ w = W ∧ flg (l.take (i + 1)).reverse = k + flg (l.take m).reverse) (fun x _ _ => (intOf x + 1).toNat)
  case atStart => exact ⟨i + 1, 0, by omega, by congr 1; omega, rfl, rfl, by omega⟩
  case round =>
    obtain ⟨m, k, hm, rfl, rfl, rfl, hp⟩ := hrel
    have HP := Lib.hid hp; clear hp
    cases m with
    | zero =>
      have hr : flg (l.take (i + 1)).reverse = k := by rw [HP.out]; rfl
      have HR := Lib.hid hr; clear hr HP
      have e : ((0 : Nat) : Int) - 1 = -1 := by omega
      rw [e]
      clear e
      go_wp2
      go_ret
      exact ⟨by rw [HR.out]; rfl, rfl⟩
    | succ m =>
      have hml : m < l.length := by rw [← HN.out]; omega
      have hx := List.getElem?_eq_getElem hml
      have hcell := HC.out m (.int .i64 l[m]) (by rw [List.getElem?_map, hx]; rfl)
      have htr := take_rev hx
      rw [htr] at HP
      generalize l[m] = x at *
      have e : ((m + 1 : Nat) : Int) - 1 = (m : Int) := by omega
      rw [e]
      clear e hx htr
      by_cases h5 : x = 6
      · have h5d : (x == 6) = true := by simpa using h5
        have HP2 : Hid (flg (l.take (i + 1)).reverse = (k + 1) + flg (l.take m).reverse) := Lib.hid (by rw [HP.out, h5]; show k + (flg _ + 1) = _; omega)
        subst h5
        clear HP
        go_wp2
        exact ⟨⟨m, k + 1, by omega, rfl, by go_num, by trivial, HP2.out⟩, by simp [intOf]⟩
      · have h5d : (x == 6) = false := by simpa using h5
        have HR : Hid (flg (l.take (i + 1)).reverse = k) := Lib.hid (by rw [HP.out]; unfold flg; rw [if_neg h5]; rfl)
        clear HP
        go_wp2
        go_ret
        exact ⟨by rw [HR.out]; rfl, rfl⟩

set_option maxRecDepth 100000 in
set_option maxHeartbeats 64000000 in
theorem between_any (v : Value) (l : List Int) (i : Nat) (w : World) (h : SlAt w v l.length (l.map (.int .i64))) (hl : l.length ≤ 1073741824) (hi : i + 1 < l.length) (hr : ∀ x ∈ l, 0 ≤ x ∧ x ≤ 12) :
    Calls Try.prog 53 #[v, .int .i64 i] w fun e w' => e = .returned (.bool (bt (l.take (i + 1)).reverse (l[i + 1]?.getD 0))) ∧ w = w' := by
  have hi0 : i < l.length := by omega
  have hx := List.getElem?_eq_getElem hi0
  have hy := List.getElem?_eq_getElem hi
  have hra := hr _ (List.getElem_mem hi0)
  have hrb := hr _ (List.getElem_mem hi)
  have htr := take_rev hx
  have hcj := Lib.hid (fun W (hk : SlAt W v l.length (l.map (.int .i64))) => joined_any v l i W hk hl hi0)
  have hco := Lib.hid (fun W (hk : SlAt W v l.length (l.map (.int .i64))) => odd_any v l i W hk hl hi0)
  have HSL := Lib.hid h
  obtain ⟨bb, off, cap, rfl, hc⟩ := h.at_ (by omega)
  have c0 := hc i (.int .i64 l[i]) (by rw [List.getElem?_map, hx]; rfl)
  have c1 := hc (i + 1) (.int .i64 l[i + 1]) (by rw [List.getElem?_map, hy]; rfl)
  rw [htr] at hco ⊢
  rw [hy, Option.getD_some]
  clear hc h hr hx hy htr
  generalize l[i] = a at *
  generalize l[i + 1] = b at *
  generalize (l.take i).reverse = cx at *
  obtain ⟨res, hres⟩ : ∃ r, r = bt (a :: cx) b := ⟨_, rfl⟩
  rw [← hres]
  have HIB := Lib.hid hres
  clear hres
  obtain ⟨n, hn⟩ : ∃ n, n = l.length := ⟨_, rfl⟩
  rw [← hn] at hl hi hi0 ⊢
  rw [← hn] at hcj hco HSL
  clear hn
  obtain ⟨ha0, ha1⟩ := hra
  obtain ⟨hb0, hb1⟩ := hrb
  go_enter Try.func53, Try.ntmps53
  have hav : a = 0 ∨ a = 1 ∨ a = 2 ∨ a = 3 ∨ a = 4 ∨ a = 5 ∨ a = 6 ∨ a = 7 ∨ a = 8 ∨ a = 9 ∨ a = 10 ∨ a = 11 ∨ a = 12 := by omega
  clear ha0 ha1
  rcases hav with rfl | rfl | rfl | rfl | rfl | rfl | rfl | rfl | rfl | rfl | rfl | rfl | rfl
  · -- 0
    have hbv : (1 ≤ b ∧ b ≤ 3) ∨ b = 0 ∨ b = 4 ∨ b = 5 ∨ (6 ≤ b ∧ b ≠ 4 ∧ b ≠ 5) := by omega
    rcases hbv with hbb | rfl | rfl | rfl | hbb
    · obtain ⟨g1, g2⟩ := hbb
      have HR : Hid (res = true) := Lib.hid (by rw [HIB.out]; simp [bt, hardC] <;> omega)
      have HBB : Hid (hb b = true) := Lib.hid (by unfold hb; simp <;> omega)
      clear HIB hb0 hb1
      go_wp2_with fail
      refine (hard_any 0 _).mono ?_
      rintro e w1 ⟨rfl, rfl⟩
      rw [show hb 0 = false from rfl]
      go_wp2_with fail
      refine (hard_any b _).mono ?_
      rintro e w1 ⟨rfl, rfl⟩
      rw [HBB.out]
      go_wp2
      go_ret
      exact ⟨by rw [HR.out]; rfl, rfl⟩
    · -- 0
      have HR : Hid (res = true) := Lib.hid (by rw [HIB.out]; simp [bt, hardC] <;> omega)
      clear HIB hb0 hb1
      go_wp2_with fail
      refine (hard_any 0 _).mono ?_
      rintro e w1 ⟨rfl, rfl⟩
      rw [show hb 0 = false from rfl]
      go_wp2_with fail
      refine (hard_any 0 _).mono ?_
      rintro e w1 ⟨rfl, rfl⟩
      rw [show hb 0 = false from rfl]
      go_wp2
      go_ret
      exact ⟨by rw [HR.out]; rfl, rfl⟩
    · -- 4
      have HR : Hid (res = false) := Lib.hid (by rw [HIB.out]; simp [bt, hardC] <;> omega)
      clear HIB hb0 hb1
      go_wp2_with fail
      refine (hard_any 0 _).mono ?_
      rintro e w1 ⟨rfl, rfl⟩
      rw [show hb 0 = false from rfl]
      go_wp2_with fail
      refine (hard_any 4 _).mono ?_
      rintro e w1 ⟨rfl, rfl⟩
      rw [show hb 4 = false from rfl]
      go_wp2
      go_ret
      exact ⟨by rw [HR.out]; rfl, rfl⟩
    · -- 5
      have HR : Hid (res = false) := Lib.hid (by rw [HIB.out]; simp [bt, hardC] <;> omega)
      clear HIB hb0 hb1
      go_wp2_with fail
      refine (hard_any 0 _).mono ?_
      rintro e w1 ⟨rfl, rfl⟩
      rw [show hb 0 = false from rfl]
      go_wp2_with fail
      refine (hard_any 5 _).mono ?_
      rintro e w1 ⟨rfl, rfl⟩
      rw [show hb 5 = false from rfl]
      go_wp2
      go_ret
      exact ⟨by rw [HR.out]; rfl, rfl⟩
    · obtain ⟨g1, q4, q5⟩ := hbb
      have e4 : (b == 4) = false := by simpa using q4
      have e5 : (b == 5) = false := by simpa using q5
      have HR : Hid (res = true) := Lib.hid (by rw [HIB.out]; simp [bt, hardC] <;> omega)
      have HBB : Hid (hb b = false) := Lib.hid (by unfold hb; simp <;> omega)
      clear HIB hb0 hb1
      go_wp2_with fail
      refine (hard_any 0 _).mono ?_
      rintro e w1 ⟨rfl, rfl⟩
      rw [show hb 0 = false from rfl]
      go_wp2_with fail
      refine (hard_any b _).mono ?_
      rintro e w1 ⟨rfl, rfl⟩
      rw [HBB.out]
      go_wp2
      go_ret
      exact ⟨by rw [HR.out]; rfl, rfl⟩
  · -- 1
    by_cases h : b = 2
    · subst h
      have HR : Hid (res = false) := Lib.hid (by rw [HIB.out]; simp [bt, hardC] <;> omega)
      clear HIB hb0 hb1
      go_wp2
      go_ret
      exact ⟨by rw [HR.out]; rfl, rfl⟩
    · have hd : (b == 2) = false := by simpa using h
      have HR : Hid (res = true) := Lib.hid (by rw [HIB.out]; simp [bt, hardC] <;> omega)
      clear HIB hb0 hb1
      go_wp2_with fail
      refine (hard_any 1 _).mono ?_
      rintro e w1 ⟨rfl, rfl⟩
      rw [show hb 1 = true from rfl]
      go_wp2
      go_ret
      exact ⟨by rw [HR.out]; rfl, rfl⟩
  · -- 2
    have HR : Hid (res = true) := Lib.hid (by rw [HIB.out]; simp [bt, hardC] <;> omega)
    clear HIB hb0 hb1
    go_wp2_with fail
    refine (hard_any 2 _).mono ?_
    rintro e w1 ⟨rfl, rfl⟩
    rw [show hb 2 = true from rfl]
    go_wp2
    go_ret
    exact ⟨by rw [HR.out]; rfl, rfl⟩
  · -- 3
    have HR : Hid (res = true) := Lib.hid (by rw [HIB.out]; simp [bt, hardC] <;> omega)
    clear HIB hb0 hb1
    go_wp2_with fail
    refine (hard_any 3 _).mono ?_
    rintro e w1 ⟨rfl, rfl⟩
    rw [show hb 3 = true from rfl]
    go_wp2
    go_ret
    exact ⟨by rw [HR.out]; rfl, rfl⟩
  · -- 4
    have hbv : (1 ≤ b ∧ b ≤ 3) ∨ b = 0 ∨ b = 4 ∨ b = 5 ∨ b = 12 ∨ (6 ≤ b ∧ b ≠ 4 ∧ b ≠ 5 ∧ b ≠ 12) := by omega
    rcases hbv with hbb | rfl | rfl | rfl | rfl | hbb
    · obtain ⟨g1, g2⟩ := hbb
      have HR : Hid (res = true) := Lib.hid (by rw [HIB.out]; simp [bt, hardC] <;> omega)
      have HBB : Hid (hb b = true) := Lib.hid (by unfold hb; simp <;> omega)
      clear HIB hb0 hb1
      go_wp2_with fail
      refine (hard_any 4 _).mono ?_
      rintro e w1 ⟨rfl, rfl⟩
      rw [show hb 4 = false from rfl]
      go_wp2_with fail
      refine (hard_any b _).mono ?_
      rintro e w1 ⟨rfl, rfl⟩
      rw [HBB.out]
      go_wp2
      go_ret
      exact ⟨by rw [HR.out]; rfl, rfl⟩
    · -- 0
      have HR : Hid (res = true) := Lib.hid (by rw [HIB.out]; simp [bt, hardC] <;> omega)
      clear HIB hb0 hb1
      go_wp2_with fail
      refine (hard_any 4 _).mono ?_
      rintro e w1 ⟨rfl, rfl⟩
      rw [show hb 4 = false from rfl]
      go_wp2_with fail
      refine (hard_any 0 _).mono ?_
      rintro e w1 ⟨rfl, rfl⟩
      rw [show hb 0 = false from rfl]
      go_wp2
      go_ret
      exact ⟨by rw [HR.out]; rfl, rfl⟩
    · -- 4
      have HR : Hid (res = false) := Lib.hid (by rw [HIB.out]; simp [bt, hardC] <;> omega)
      clear HIB hb0 hb1
      go_wp2_with fail
      refine (hard_any 4 _).mono ?_
      rintro e w1 ⟨rfl, rfl⟩
      rw [show hb 4 = false from rfl]
      go_wp2_with fail
      refine (hard_any 4 _).mono ?_
      rintro e w1 ⟨rfl, rfl⟩
      rw [show hb 4 = false from rfl]
      go_wp2
      go_ret
      exact ⟨by rw [HR.out]; rfl, rfl⟩
    · -- 5
      have HR : Hid (res = false) := Lib.hid (by rw [HIB.out]; simp [bt, hardC] <;> omega)
      clear HIB hb0 hb1
      go_wp2_with fail
      refine (hard_any 4 _).mono ?_
      rintro e w1 ⟨rfl, rfl⟩
      rw [show hb 4 = false from rfl]
      go_wp2_with fail
      refine (hard_any 5 _).mono ?_
      rintro e w1 ⟨rfl, rfl⟩
      rw [show hb 5 = false from rfl]
      go_wp2
      go_ret
      exact ⟨by rw [HR.out]; rfl, rfl⟩
    · -- 12
      go_wp2_with fail
      refine (hard_any 4 _).mono ?_
      rintro e w1 ⟨rfl, rfl⟩
      rw [show hb 4 = false from rfl]
      go_wp2_with fail
      refine (hard_any 12 _).mono ?_
      rintro e w1 ⟨rfl, rfl⟩
      rw [show hb 12 = false from rfl]
      go_wp2_with fail
      refine (hcj.out _ HSL.out).mono ?_
      rintro e w3 ⟨rfl, rfl⟩
      cases hpv : pic cx with
      | true =>
        have HR : Hid (res = false) := Lib.hid (by rw [HIB.out]; simp [bt, hardC, hpv])
        clear hpv
        go_wp2
        go_ret
        exact ⟨by rw [HR.out]; rfl, rfl⟩
      | false =>
        have HR : Hid (res = true) := Lib.hid (by rw [HIB.out]; simp [bt, hardC, hpv])
        clear hpv
        go_wp2
        go_ret
        exact ⟨by rw [HR.out]; rfl, rfl⟩
    · obtain ⟨g1, q4, q5, q12⟩ := hbb
      have e4 : (b == 4) = false := by simpa using q4
      have e5 : (b == 5) = false := by simpa using q5
      have e12 : (b == 12) = false := by simpa using q12
      have HR : Hid (res = true) := Lib.hid (by rw [HIB.out]; simp [bt, hardC] <;> omega)
      have HBB : Hid (hb b = false) := Lib.hid (by unfold hb; simp <;> omega)
      clear HIB hb0 hb1
      go_wp2_with fail
      refine (hard_any 4 _).mono ?_
      rintro e w1 ⟨rfl, rfl⟩
      rw [show hb 4 = false from rfl]
      go_wp2_with fail
      refine (hard_any b _).mono ?_
      rintro e w1 ⟨rfl, rfl⟩
      rw [HBB.out]
      go_wp2
      go_ret
      exact ⟨by rw [HR.out]; rfl, rfl⟩
  · -- 5
    have hbv : (1 ≤ b ∧ b ≤ 3) ∨ b = 0 ∨ b = 4 ∨ b = 5 ∨ (6 ≤ b ∧ b ≠ 4 ∧ b ≠ 5) := by omega
    rcases hbv with hbb | rfl | rfl | rfl | hbb
    · obtain ⟨g1, g2⟩ := hbb
      have HR : Hid (res = true) := Lib.hid (by rw [HIB.out]; simp [bt, hardC] <;> omega)
      have HBB : Hid (hb b = true) := Lib.hid (by unfold hb; simp <;> omega)
      clear HIB hb0 hb1
      go_wp2_with fail
      refine (hard_any 5 _).mono ?_
      rintro e w1 ⟨rfl, rfl⟩
      rw [show hb 5 = false from rfl]
      go_wp2_with fail
      refine (hard_any b _).mono ?_
      rintro e w1 ⟨rfl, rfl⟩
      rw [HBB.out]
      go_wp2
      go_ret
      exact ⟨by rw [HR.out]; rfl, rfl⟩
    · -- 0
      have HR : Hid (res = true) := Lib.hid (by rw [HIB.out]; simp [bt, hardC] <;> omega)
      clear HIB hb0 hb1
      go_wp2_with fail
      refine (hard_any 5 _).mono ?_
      rintro e w1 ⟨rfl, rfl⟩
      rw [show hb 5 = false from rfl]
      go_wp2_with fail
      refine (hard_any 0 _).mono ?_
      rintro e w1 ⟨rfl, rfl⟩
      rw [show hb 0 = false from rfl]
      go_wp2
      go_ret
      exact ⟨by rw [HR.out]; rfl, rfl⟩
    · -- 4
      have HR : Hid (res = false) := Lib.hid (by rw [HIB.out]; simp [bt, hardC] <;> omega)
      clear HIB hb0 hb1
      go_wp2_with fail
      refine (hard_any 5 _).mono ?_
      rintro e w1 ⟨rfl, rfl⟩
      rw [show hb 5 = false from rfl]
      go_wp2_with fail
      refine (hard_any 4 _).mono ?_
      rintro e w1 ⟨rfl, rfl⟩
      rw [show hb 4 = false from rfl]
      go_wp2
      go_ret
      exact ⟨by rw [HR.out]; rfl, rfl⟩
    · -- 5
      have HR : Hid (res = false) := Lib.hid (by rw [HIB.out]; simp [bt, hardC] <;> omega)
      clear HIB hb0 hb1
      go_wp2_with fail
      refine (hard_any 5 _).mono ?_
      rintro e w1 ⟨rfl, rfl⟩
      rw [show hb 5 = false from rfl]
      go_wp2_with fail
      refine (hard_any 5 _).mono ?_
      rintro e w1 ⟨rfl, rfl⟩
      rw [show hb 5 = false from rfl]
      go_wp2
      go_ret
      exact ⟨by rw [HR.out]; rfl, rfl⟩
    · obtain ⟨g1, q4, q5⟩ := hbb
      have e4 : (b == 4) = false := by simpa using q4
      have e5 : (b == 5) = false := by simpa using q5
      have HR : Hid (res = true) := Lib.hid (by rw [HIB.out]; simp [bt, hardC] <;> omega)
      have HBB : Hid (hb b = false) := Lib.hid (by unfold hb; simp <;> omega)
      clear HIB hb0 hb1
      go_wp2_with fail
      refine (hard_any 5 _).mono ?_
      rintro e w1 ⟨rfl, rfl⟩
      rw [show hb 5 = false from rfl]
      go_wp2_with fail
      refine (hard_any b _).mono ?_
      rintro e w1 ⟨rfl, rfl⟩
      rw [HBB.out]
      go_wp2
      go_ret
      exact ⟨by rw [HR.out]; rfl, rfl⟩
  · -- 6
    have hbv : (1 ≤ b ∧ b ≤ 3) ∨ b = 0 ∨ b = 4 ∨ b = 5 ∨ b = 6 ∨ (6 ≤ b ∧ b ≠ 4 ∧ b ≠ 5 ∧ b ≠ 6) := by omega
    rcases hbv with hbb | rfl | rfl | rfl | rfl | hbb
    · obtain ⟨g1, g2⟩ := hbb
      have HR : Hid (res = true) := Lib.hid (by rw [HIB.out]; simp [bt, hardC] <;> omega)
      have HBB : Hid (hb b = true) := Lib.hid (by unfold hb; simp <;> omega)
      clear HIB hb0 hb1
      go_wp2_with fail
      refine (hard_any 6 _).mono ?_
      rintro e w1 ⟨rfl, rfl⟩
      rw [show hb 6 = false from rfl]
      go_wp2_with fail
      refine (hard_any b _).mono ?_
      rintro e w1 ⟨rfl, rfl⟩
      rw [HBB.out]
      go_wp2
      go_ret
      exact ⟨by rw [HR.out]; rfl, rfl⟩
    · -- 0
      have HR : Hid (res = true) := Lib.hid (by rw [HIB.out]; simp [bt, hardC] <;> omega)
      clear HIB hb0 hb1
      go_wp2_with fail
      refine (hard_any 6 _).mono ?_
      rintro e w1 ⟨rfl, rfl⟩
      rw [show hb 6 = false from rfl]
      go_wp2_with fail
      refine (hard_any 0 _).mono ?_
      rintro e w1 ⟨rfl, rfl⟩
      rw [show hb 0 = false from rfl]
      go_wp2
      go_ret
      exact ⟨by rw [HR.out]; rfl, rfl⟩
    · -- 4
      have HR : Hid (res = false) := Lib.hid (by rw [HIB.out]; simp [bt, hardC] <;> omega)
      clear HIB hb0 hb1
      go_wp2_with fail
      refine (hard_any 6 _).mono ?_
      rintro e w1 ⟨rfl, rfl⟩
      rw [show hb 6 = false from rfl]
      go_wp2_with fail
      refine (hard_any 4 _).mono ?_
      rintro e w1 ⟨rfl, rfl⟩
      rw [show hb 4 = false from rfl]
      go_wp2
      go_ret
      exact ⟨by rw [HR.out]; rfl, rfl⟩
    · -- 5
      have HR : Hid (res = false) := Lib.hid (by rw [HIB.out]; simp [bt, hardC] <;> omega)
      clear HIB hb0 hb1
      go_wp2_with fail
      refine (hard_any 6 _).mono ?_
      rintro e w1 ⟨rfl, rfl⟩
      rw [show hb 6 = false from rfl]
      go_wp2_with fail
      refine (hard_any 5 _).mono ?_
      rintro e w1 ⟨rfl, rfl⟩
      rw [show hb 5 = false from rfl]
      go_wp2
      go_ret
      exact ⟨by rw [HR.out]; rfl, rfl⟩
    · -- 6
      go_wp2_with fail
      refine (hard_any 6 _).mono ?_
      rintro e w1 ⟨rfl, rfl⟩
      rw [show hb 6 = false from rfl]
      go_wp2_with fail
      refine (hard_any 6 _).mono ?_
      rintro e w1 ⟨rfl, rfl⟩
      rw [show hb 6 = false from rfl]
      go_wp2_with fail
      refine (hco.out _ HSL.out).mono ?_
      rintro e w3 ⟨rfl, rfl⟩
      have HR : Hid (res = !(((flg (6 :: cx) : Nat) : Int) % 2 == 1)) := Lib.hid (by
        rw [HIB.out]
        generalize hfn : flg (6 :: cx) = fn
        have : bt (6 :: cx) 6 = if fn % 2 = 1 then false else true := by simp [bt, hardC, hfn]
        rw [this]
        by_cases hq : fn % 2 = 1
        · rw [if_pos hq]; symm; simp; omega
        · rw [if_neg hq]; symm; simp; omega)
      cases hpv : (((flg (6 :: cx) : Nat) : Int) % 2 == 1) with
      | true =>
        rw [hpv] at HR
        clear hpv
        go_wp2
        go_ret
        exact ⟨by rw [HR.out]; rfl, rfl⟩
      | false =>
        rw [hpv] at HR
        clear hpv
        go_wp2
        go_ret
        exact ⟨by rw [HR.out]; rfl, rfl⟩
    · obtain ⟨g1, q4, q5, q6⟩ := hbb
      have e4 : (b == 4) = false := by simpa using q4
      have e5 : (b == 5) = false := by simpa using q5
      have e6 : (b == 6) = false := by simpa using q6
      have HR : Hid (res = true) := Lib.hid (by rw [HIB.out]; simp [bt, hardC] <;> omega)
      have HBB : Hid (hb b = false) := Lib.hid (by unfold hb; simp <;> omega)
      clear HIB hb0 hb1
      go_wp2_with fail
      refine (hard_any 6 _).mono ?_
      rintro e w1 ⟨rfl, rfl⟩
      rw [show hb 6 = false from rfl]
      go_wp2_with fail
      refine (hard_any b _).mono ?_
      rintro e w1 ⟨rfl, rfl⟩
      rw [HBB.out]
      go_wp2
      go_ret
      exact ⟨by rw [HR.out]; rfl, rfl⟩
  · -- 7
    have hbv : (1 ≤ b ∧ b ≤ 3) ∨ b = 0 ∨ b = 4 ∨ b = 5 ∨ b = 7 ∨ b = 8 ∨ b = 10 ∨ b = 11 ∨ (6 ≤ b ∧ b ≠ 4 ∧ b ≠ 5 ∧ b ≠ 7 ∧ b ≠ 8 ∧ b ≠ 10 ∧ b ≠ 11) := by omega
    rcases hbv with hbb | rfl | rfl | rfl | rfl | rfl | rfl | rfl | hbb
    · obtain ⟨g1, g2⟩ := hbb
      have HR : Hid (res = true) := Lib.hid (by rw [HIB.out]; simp [bt, hardC] <;> omega)
      have HBB : Hid (hb b = true) := Lib.hid (by unfold hb; simp <;> omega)
      clear HIB hb0 hb1
      go_wp2_with fail
      refine (hard_any 7 _).mono ?_
      rintro e w1 ⟨rfl, rfl⟩
      rw [show hb 7 = false from rfl]
      go_wp2_with fail
      refine (hard_any b _).mono ?_
      rintro e w1 ⟨rfl, rfl⟩
      rw [HBB.out]
      go_wp2
      go_ret
      exact ⟨by rw [HR.out]; rfl, rfl⟩
    · -- 0
      have HR : Hid (res = true) := Lib.hid (by rw [HIB.out]; simp [bt, hardC] <;> omega)
      clear HIB hb0 hb1
      go_wp2_with fail
      refine (hard_any 7 _).mono ?_
      rintro e w1 ⟨rfl, rfl⟩
      rw [show hb 7 = false from rfl]
      go_wp2_with fail
      refine (hard_any 0 _).mono ?_
      rintro e w1 ⟨rfl, rfl⟩
      rw [show hb 0 = false from rfl]
      go_wp2
      go_ret
      exact ⟨by rw [HR.out]; rfl, rfl⟩
    · -- 4
      have HR : Hid (res = false) := Lib.hid (by rw [HIB.out]; simp [bt, hardC] <;> omega)
      clear HIB hb0 hb1
      go_wp2_with fail
      refine (hard_any 7 _).mono ?_
      rintro e w1 ⟨rfl, rfl⟩
      rw [show hb 7 = false from rfl]
      go_wp2_with fail
      refine (hard_any 4 _).mono ?_
      rintro e w1 ⟨rfl, rfl⟩
      rw [show hb 4 = false from rfl]
      go_wp2
      go_ret
      exact ⟨by rw [HR.out]; rfl, rfl⟩
    · -- 5
      have HR : Hid (res = false) := Lib.hid (by rw [HIB.out]; simp [bt, hardC] <;> omega)
      clear HIB hb0 hb1
      go_wp2_with fail
      refine (hard_any 7 _).mono ?_
      rintro e w1 ⟨rfl, rfl⟩
      rw [show hb 7 = false from rfl]
      go_wp2_with fail
      refine (hard_any 5 _).mono ?_
      rintro e w1 ⟨rfl, rfl⟩
      rw [show hb 5 = false from rfl]
      go_wp2
      go_ret
      exact ⟨by rw [HR.out]; rfl, rfl⟩
    · -- 7
      have HR : Hid (res = false) := Lib.hid (by rw [HIB.out]; simp [bt, hardC] <;> omega)
      clear HIB hb0 hb1
      go_wp2_with fail
      refine (hard_any 7 _).mono ?_
      rintro e w1 ⟨rfl, rfl⟩
      rw [show hb 7 = false from rfl]
      go_wp2_with fail
      refine (hard_any 7 _).mono ?_
      rintro e w1 ⟨rfl, rfl⟩
      rw [show hb 7 = false from rfl]
      go_wp2
      go_ret
      exact ⟨by rw [HR.out]; rfl, rfl⟩
    · -- 8
      have HR : Hid (res = false) := Lib.hid (by rw [HIB.out]; simp [bt, hardC] <;> omega)
      clear HIB hb0 hb1
      go_wp2_with fail
      refine (hard_any 7 _).mono ?_
      rintro e w1 ⟨rfl, rfl⟩
      rw [show hb 7 = false from rfl]
      go_wp2_with fail
      refine (hard_any 8 _).mono ?_
      rintro e w1 ⟨rfl, rfl⟩
      rw [show hb 8 = false from rfl]
      go_wp2
      go_ret
      exact ⟨by rw [HR.out]; rfl, rfl⟩
    · -- 10
      have HR : Hid (res = false) := Lib.hid (by rw [HIB.out]; simp [bt, hardC] <;> omega)
      clear HIB hb0 hb1
      go_wp2_with fail
      refine (hard_any 7 _).mono ?_
      rintro e w1 ⟨rfl, rfl⟩
      rw [show hb 7 = false from rfl]
      go_wp2_with fail
      refine (hard_any 10 _).mono ?_
      rintro e w1 ⟨rfl, rfl⟩
      rw [show hb 10 = false from rfl]
      go_wp2
      go_ret
      exact ⟨by rw [HR.out]; rfl, rfl⟩
    · -- 11
      have HR : Hid (res = false) := Lib.hid (by rw [HIB.out]; simp [bt, hardC] <;> omega)
      clear HIB hb0 hb1
      go_wp2_with fail
      refine (hard_any 7 _).mono ?_
      rintro e w1 ⟨rfl, rfl⟩
      rw [show hb 7 = false from rfl]
      go_wp2_with fail
      refine (hard_any 11 _).mono ?_
      rintro e w1 ⟨rfl, rfl⟩
      rw [show hb 11 = false from rfl]
      go_wp2
      go_ret
      exact ⟨by rw [HR.out]; rfl, rfl⟩
    · obtain ⟨g1, q4, q5, q7, q8, q10, q11⟩ := hbb
      have e4 : (b == 4) = false := by simpa using q4
      have e5 : (b == 5) = false := by simpa using q5
      have e7 : (b == 7) = false := by simpa using q7
      have e8 : (b == 8) = false := by simpa using q8
      have e10 : (b == 10) = false := by simpa using q10
      have e11 : (b == 11) = false := by simpa using q11
      have HR : Hid (res = true) := Lib.hid (by rw [HIB.out]; simp [bt, hardC] <;> omega)
      have HBB : Hid (hb b = false) := Lib.hid (by unfold hb; simp <;> omega)
      clear HIB hb0 hb1
      go_wp2_with fail
      refine (hard_any 7 _).mono ?_
      rintro e w1 ⟨rfl, rfl⟩
      rw [show hb 7 = false from rfl]
      go_wp2_with fail
      refine (hard_any b _).mono ?_
      rintro e w1 ⟨rfl, rfl⟩
      rw [HBB.out]
      go_wp2
      go_ret
      exact ⟨by rw [HR.out]; rfl, rfl⟩
  · -- 8
    have hbv : (1 ≤ b ∧ b ≤ 3) ∨ b = 0 ∨ b = 4 ∨ b = 5 ∨ b = 8 ∨ b = 9 ∨ (6 ≤ b ∧ b ≠ 4 ∧ b ≠ 5 ∧ b ≠ 8 ∧ b ≠ 9) := by omega
    rcases hbv with hbb | rfl | rfl | rfl | rfl | rfl | hbb
    · obtain ⟨g1, g2⟩ := hbb
      have HR : Hid (res = true) := Lib.hid (by rw [HIB.out]; simp [bt, hardC] <;> omega)
      have HBB : Hid (hb b = true) := Lib.hid (by unfold hb; simp <;> omega)
      clear HIB hb0 hb1
      go_wp2_with fail
      refine (hard_any 8 _).mono ?_
      rintro e w1 ⟨rfl, rfl⟩
      rw [show hb 8 = false from rfl]
      go_wp2_with fail
      refine (hard_any b _).mono ?_
      rintro e w1 ⟨rfl, rfl⟩
      rw [HBB.out]
      go_wp2
      go_ret
      exact ⟨by rw [HR.out]; rfl, rfl⟩
    · -- 0
      have HR : Hid (res = true) := Lib.hid (by rw [HIB.out]; simp [bt, hardC] <;> omega)
      clear HIB hb0 hb1
      go_wp2_with fail
      refine (hard_any 8 _).mono ?_
      rintro e w1 ⟨rfl, rfl⟩
      rw [show hb 8 = false from rfl]
      go_wp2_with fail
      refine (hard_any 0 _).mono ?_
      rintro e w1 ⟨rfl, rfl⟩
      rw [show hb 0 = false from rfl]
      go_wp2
      go_ret
      exact ⟨by rw [HR.out]; rfl, rfl⟩
    · -- 4
      have HR : Hid (res = false) := Lib.hid (by rw [HIB.out]; simp [bt, hardC] <;> omega)
      clear HIB hb0 hb1
      go_wp2_with fail
      refine (hard_any 8 _).mono ?_
      rintro e w1 ⟨rfl, rfl⟩
      rw [show hb 8 = false from rfl]
      go_wp2_with fail
      refine (hard_any 4 _).mono ?_
      rintro e w1 ⟨rfl, rfl⟩
      rw [show hb 4 = false from rfl]
      go_wp2
      go_ret
      exact ⟨by rw [HR.out]; rfl, rfl⟩
    · -- 5
      have HR : Hid (res = false) := Lib.hid (by rw [HIB.out]; simp [bt, hardC] <;> omega)
      clear HIB hb0 hb1
      go_wp2_with fail
      refine (hard_any 8 _).mono ?_
      rintro e w1 ⟨rfl, rfl⟩
      rw [show hb 8 = false from rfl]
      go_wp2_with fail
      refine (hard_any 5 _).mono ?_
      rintro e w1 ⟨rfl, rfl⟩
      rw [show hb 5 = false from rfl]
      go_wp2
      go_ret
      exact ⟨by rw [HR.out]; rfl, rfl⟩
    · -- 8
      have HR : Hid (res = false) := Lib.hid (by rw [HIB.out]; simp [bt, hardC] <;> omega)
      clear HIB hb0 hb1
      go_wp2_with fail
      refine (hard_any 8 _).mono ?_
      rintro e w1 ⟨rfl, rfl⟩
      rw [show hb 8 = false from rfl]
      go_wp2_with fail
      refine (hard_any 8 _).mono ?_
      rintro e w1 ⟨rfl, rfl⟩
      rw [show hb 8 = false from rfl]
      go_wp2
      go_ret
      exact ⟨by rw [HR.out]; rfl, rfl⟩
    · -- 9
      have HR : Hid (res = false) := Lib.hid (by rw [HIB.out]; simp [bt, hardC] <;> omega)
      clear HIB hb0 hb1
      go_wp2_with fail
      refine (hard_any 8 _).mono ?_
      rintro e w1 ⟨rfl, rfl⟩
      rw [show hb 8 = false from rfl]
      go_wp2_with fail
      refine (hard_any 9 _).mono ?_
      rintro e w1 ⟨rfl, rfl⟩
      rw [show hb 9 = false from rfl]
      go_wp2
      go_ret
      exact ⟨by rw [HR.out]; rfl, rfl⟩
    · obtain ⟨g1, q4, q5, q8, q9⟩ := hbb
      have e4 : (b == 4) = false := by simpa using q4
      have e5 : (b == 5) = false := by simpa using q5
      have e8 : (b == 8) = false := by simpa using q8
      have e9 : (b == 9) = false := by simpa using q9
      have HR : Hid (res = true) := Lib.hid (by rw [HIB.out]; simp [bt, hardC] <;> omega)
      have HBB : Hid (hb b = false) := Lib.hid (by unfold hb; simp <;> omega)
      clear HIB hb0 hb1
      go_wp2_with fail
      refine (hard_any 8 _).mono ?_
      rintro e w1 ⟨rfl, rfl⟩
      rw [show hb 8 = false from rfl]
      go_wp2_with fail
      refine (hard_any b _).mono ?_
      rintro e w1 ⟨rfl, rfl⟩
      rw [HBB.out]
      go_wp2
      go_ret
      exact ⟨by rw [HR.out]; rfl, rfl⟩
  · -- 9
    have hbv : (1 ≤ b ∧ b ≤ 3) ∨ b = 0 ∨ b = 4 ∨ b = 5 ∨ b = 9 ∨ (6 ≤ b ∧ b ≠ 4 ∧ b ≠ 5 ∧ b ≠ 9) := by omega
    rcases hbv with hbb | rfl | rfl | rfl | rfl | hbb
    · obtain ⟨g1, g2⟩ := hbb
      have HR : Hid (res = true) := Lib.hid (by rw [HIB.out]; simp [bt, hardC] <;> omega)
      have HBB : Hid (hb b = true) := Lib.hid (by unfold hb; simp <;> omega)
      clear HIB hb0 hb1
      go_wp2_with fail
      refine (hard_any 9 _).mono ?_
      rintro e w1 ⟨rfl, rfl⟩
      rw [show hb 9 = false from rfl]
      go_wp2_with fail
      refine (hard_any b _).mono ?_
      rintro e w1 ⟨rfl, rfl⟩
      rw [HBB.out]
      go_wp2
      go_ret
      exact ⟨by rw [HR.out]; rfl, rfl⟩
    · -- 0
      have HR : Hid (res = true) := Lib.hid (by rw [HIB.out]; simp [bt, hardC] <;> omega)
      clear HIB hb0 hb1
      go_wp2_with fail
      refine (hard_any 9 _).mono ?_
      rintro e w1 ⟨rfl, rfl⟩
      rw [show hb 9 = false from rfl]
      go_wp2_with fail
      refine (hard_any 0 _).mono ?_
      rintro e w1 ⟨rfl, rfl⟩
      rw [show hb 0 = false from rfl]
      go_wp2
      go_ret
      exact ⟨by rw [HR.out]; rfl, rfl⟩
    · -- 4
      have HR : Hid (res = false) := Lib.hid (by rw [HIB.out]; simp [bt, hardC] <;> omega)
      clear HIB hb0 hb1
      go_wp2_with fail
      refine (hard_any 9 _).mono ?_
      rintro e w1 ⟨rfl, rfl⟩
      rw [show hb 9 = false from rfl]
      go_wp2_with fail
      refine (hard_any 4 _).mono ?_
      rintro e w1 ⟨rfl, rfl⟩
      rw [show hb 4 = false from rfl]
      go_wp2
      go_ret
      exact ⟨by rw [HR.out]; rfl, rfl⟩
    · -- 5
      have HR : Hid (res = false) := Lib.hid (by rw [HIB.out]; simp [bt, hardC] <;> omega)
      clear HIB hb0 hb1
      go_wp2_with fail
      refine (hard_any 9 _).mono ?_
      rintro e w1 ⟨rfl, rfl⟩
      rw [show hb 9 = false from rfl]
      go_wp2_with fail
      refine (hard_any 5 _).mono ?_
      rintro e w1 ⟨rfl, rfl⟩
      rw [show hb 5 = false from rfl]
      go_wp2
      go_ret
      exact ⟨by rw [HR.out]; rfl, rfl⟩
    · -- 9
      have HR : Hid (res = false) := Lib.hid (by rw [HIB.out]; simp [bt, hardC] <;> omega)
      clear HIB hb0 hb1
      go_wp2_with fail
      refine (hard_any 9 _).mono ?_
      rintro e w1 ⟨rfl, rfl⟩
      rw [show hb 9 = false from rfl]
      go_wp2_with fail
      refine (hard_any 9 _).mono ?_
      rintro e w1 ⟨rfl, rfl⟩
      rw [show hb 9 = false from rfl]
      go_wp2
      go_ret
      exact ⟨by rw [HR.out]; rfl, rfl⟩
    · obtain ⟨g1, q4, q5, q9⟩ := hbb
      have e4 : (b == 4) = false := by simpa using q4
      have e5 : (b == 5) = false := by simpa using q5
      have e9 : (b == 9) = false := by simpa using q9
      have HR : Hid (res = true) := Lib.hid (by rw [HIB.out]; simp [bt, hardC] <;> omega)
      have HBB : Hid (hb b = false) := Lib.hid (by unfold hb; simp <;> omega)
      clear HIB hb0 hb1
      go_wp2_with fail
      refine (hard_any 9 _).mono ?_
      rintro e w1 ⟨rfl, rfl⟩
      rw [show hb 9 = false from rfl]
      go_wp2_with fail
      refine (hard_any b _).mono ?_
      rintro e w1 ⟨rfl, rfl⟩
      rw [HBB.out]
      go_wp2
      go_ret
      exact ⟨by rw [HR.out]; rfl, rfl⟩
  · -- 10
    have hbv : (1 ≤ b ∧ b ≤ 3) ∨ b = 0 ∨ b = 4 ∨ b = 5 ∨ b = 8 ∨ b = 9 ∨ (6 ≤ b ∧ b ≠ 4 ∧ b ≠ 5 ∧ b ≠ 8 ∧ b ≠ 9) := by omega
    rcases hbv with hbb | rfl | rfl | rfl | rfl | rfl | hbb
    · obtain ⟨g1, g2⟩ := hbb
      have HR : Hid (res = true) := Lib.hid (by rw [HIB.out]; simp [bt, hardC] <;> omega)
      have HBB : Hid (hb b = true) := Lib.hid (by unfold hb; simp <;> omega)
      clear HIB hb0 hb1
      go_wp2_with fail
      refine (hard_any 10 _).mono ?_
      rintro e w1 ⟨rfl, rfl⟩
      rw [show hb 10 = false from rfl]
      go_wp2_with fail
      refine (hard_any b _).mono ?_
      rintro e w1 ⟨rfl, rfl⟩
      rw [HBB.out]
      go_wp2
      go_ret
      exact ⟨by rw [HR.out]; rfl, rfl⟩
    · -- 0
      have HR : Hid (res = true) := Lib.hid (by rw [HIB.out]; simp [bt, hardC] <;> omega)
      clear HIB hb0 hb1
      go_wp2_with fail
      refine (hard_any 10 _).mono ?_
      rintro e w1 ⟨rfl, rfl⟩
      rw [show hb 10 = false from rfl]
      go_wp2_with fail
      refine (hard_any 0 _).mono ?_
      rintro e w1 ⟨rfl, rfl⟩
      rw [show hb 0 = false from rfl]
      go_wp2
      go_ret
      exact ⟨by rw [HR.out]; rfl, rfl⟩
    · -- 4
      have HR : Hid (res = false) := Lib.hid (by rw [HIB.out]; simp [bt, hardC] <;> omega)
      clear HIB hb0 hb1
      go_wp2_with fail
      refine (hard_any 10 _).mono ?_
      rintro e w1 ⟨rfl, rfl⟩
      rw [show hb 10 = false from rfl]
      go_wp2_with fail
      refine (hard_any 4 _).mono ?_
      rintro e w1 ⟨rfl, rfl⟩
      rw [show hb 4 = false from rfl]
      go_wp2
      go_ret
      exact ⟨by rw [HR.out]; rfl, rfl⟩
    · -- 5
      have HR : Hid (res = false) := Lib.hid (by rw [HIB.out]; simp [bt, hardC] <;> omega)
      clear HIB hb0 hb1
      go_wp2_with fail
      refine (hard_any 10 _).mono ?_
      rintro e w1 ⟨rfl, rfl⟩
      rw [show hb 10 = false from rfl]
      go_wp2_with fail
      refine (hard_any 5 _).mono ?_
      rintro e w1 ⟨rfl, rfl⟩
      rw [show hb 5 = false from rfl]
      go_wp2
      go_ret
      exact ⟨by rw [HR.out]; rfl, rfl⟩
    · -- 8
      have HR : Hid (res = false) := Lib.hid (by rw [HIB.out]; simp [bt, hardC] <;> omega)
      clear HIB hb0 hb1
      go_wp2_with fail
      refine (hard_any 10 _).mono ?_
      rintro e w1 ⟨rfl, rfl⟩
      rw [show hb 10 = false from rfl]
      go_wp2_with fail
      refine (hard_any 8 _).mono ?_
      rintro e w1 ⟨rfl, rfl⟩
      rw [show hb 8 = false from rfl]
      go_wp2
      go_ret
      exact ⟨by rw [HR.out]; rfl, rfl⟩
    · -- 9
      have HR : Hid (res = false) := Lib.hid (by rw [HIB.out]; simp [bt, hardC] <;> omega)
      clear HIB hb0 hb1
      go_wp2_with fail
      refine (hard_any 10 _).mono ?_
      rintro e w1 ⟨rfl, rfl⟩
      rw [show hb 10 = false from rfl]
      go_wp2_with fail
      refine (hard_any 9 _).mono ?_
      rintro e w1 ⟨rfl, rfl⟩
      rw [show hb 9 = false from rfl]
      go_wp2
      go_ret
      exact ⟨by rw [HR.out]; rfl, rfl⟩
    · obtain ⟨g1, q4, q5, q8, q9⟩ := hbb
      have e4 : (b == 4) = false := by simpa using q4
      have e5 : (b == 5) = false := by simpa using q5
      have e8 : (b == 8) = false := by simpa using q8
      have e9 : (b == 9) = false := by simpa using q9
      have HR : Hid (res = true) := Lib.hid (by rw [HIB.out]; simp [bt, hardC] <;> omega)
      have HBB : Hid (hb b = false) := Lib.hid (by unfold hb; simp <;> omega)
      clear HIB hb0 hb1
      go_wp2_with fail
      refine (hard_any 10 _).mono ?_
      rintro e w1 ⟨rfl, rfl⟩
      rw [show hb 10 = false from rfl]
      go_wp2_with fail
      refine (hard_any b _).mono ?_
      rintro e w1 ⟨rfl, rfl⟩
      rw [HBB.out]
      go_wp2
      go_ret
      exact ⟨by rw [HR.out]; rfl, rfl⟩
  · -- 11
    have hbv : (1 ≤ b ∧ b ≤ 3) ∨ b = 0 ∨ b = 4 ∨ b = 5 ∨ b = 9 ∨ (6 ≤ b ∧ b ≠ 4 ∧ b ≠ 5 ∧ b ≠ 9) := by omega
    rcases hbv with hbb | rfl | rfl | rfl | rfl | hbb
    · obtain ⟨g1, g2⟩ := hbb
      have HR : Hid (res = true) := Lib.hid (by rw [HIB.out]; simp [bt, hardC] <;> omega)
      have HBB : Hid (hb b = true) := Lib.hid (by unfold hb; simp <;> omega)
      clear HIB hb0 hb1
      go_wp2_with fail
      refine (hard_any 11 _).mono ?_
      rintro e w1 ⟨rfl, rfl⟩
      rw [show hb 11 = false from rfl]
      go_wp2_with fail
      refine (hard_any b _).mono ?_
      rintro e w1 ⟨rfl, rfl⟩
      rw [HBB.out]
      go_wp2
      go_ret
      exact ⟨by rw [HR.out]; rfl, rfl⟩
    · -- 0
      have HR : Hid (res = true) := Lib.hid (by rw [HIB.out]; simp [bt, hardC] <;> omega)
      clear HIB hb0 hb1
      go_wp2_with fail
      refine (hard_any 11 _).mono ?_
      rintro e w1 ⟨rfl, rfl⟩
      rw [show hb 11 = false from rfl]
      go_wp2_with fail
      refine (hard_any 0 _).mono ?_
      rintro e w1 ⟨rfl, rfl⟩
      rw [show hb 0 = false from rfl]
      go_wp2
      go_ret
      exact ⟨by rw [HR.out]; rfl, rfl⟩
    · -- 4
      have HR : Hid (res = false) := Lib.hid (by rw [HIB.out]; simp [bt, hardC] <;> omega)
      clear HIB hb0 hb1
      go_wp2_with fail
      refine (hard_any 11 _).mono ?_
      rintro e w1 ⟨rfl, rfl⟩
      rw [show hb 11 = false from rfl]
      go_wp2_with fail
      refine (hard_any 4 _).mono ?_
      rintro e w1 ⟨rfl, rfl⟩
      rw [show hb 4 = false from rfl]
      go_wp2
      go_ret
      exact ⟨by rw [HR.out]; rfl, rfl⟩
    · -- 5
      have HR : Hid (res = false) := Lib.hid (by rw [HIB.out]; simp [bt, hardC] <;> omega)
      clear HIB hb0 hb1
      go_wp2_with fail
      refine (hard_any 11 _).mono ?_
      rintro e w1 ⟨rfl, rfl⟩
      rw [show hb 11 = false from rfl]
      go_wp2_with fail
      refine (hard_any 5 _).mono ?_
      rintro e w1 ⟨rfl, rfl⟩
      rw [show hb 5 = false from rfl]
      go_wp2
      go_ret
      exact ⟨by rw [HR.out]; rfl, rfl⟩
    · -- 9
      have HR : Hid (res = false) := Lib.hid (by rw [HIB.out]; simp [bt, hardC] <;> omega)
      clear HIB hb0 hb1
      go_wp2_with fail
      refine (hard_any 11 _).mono ?_
      rintro e w1 ⟨rfl, rfl⟩
      rw [show hb 11 = false from rfl]
      go_wp2_with fail
      refine (hard_any 9 _).mono ?_
      rintro e w1 ⟨rfl, rfl⟩
      rw [show hb 9 = false from rfl]
      go_wp2
      go_ret
      exact ⟨by rw [HR.out]; rfl, rfl⟩
    · obtain ⟨g1, q4, q5, q9⟩ := hbb
      have e4 : (b == 4) = false := by simpa using q4
      have e5 : (b == 5) = false := by simpa using q5
      have e9 : (b == 9) = false := by simpa using q9
      have HR : Hid (res = true) := Lib.hid (by rw [HIB.out]; simp [bt, hardC] <;> omega)
      have HBB : Hid (hb b = false) := Lib.hid (by unfold hb; simp <;> omega)
      clear HIB hb0 hb1
      go_wp2_with fail
      refine (hard_any 11 _).mono ?_
      rintro e w1 ⟨rfl, rfl⟩
      rw [show hb 11 = false from rfl]
      go_wp2_with fail
      refine (hard_any b _).mono ?_
      rintro e w1 ⟨rfl, rfl⟩
      rw [HBB.out]
      go_wp2
      go_ret
      exact ⟨by rw [HR.out]; rfl, rfl⟩
  · -- 12
    have hbv : (1 ≤ b ∧ b ≤ 3) ∨ b = 0 ∨ b = 4 ∨ b = 5 ∨ (6 ≤ b ∧ b ≠ 4 ∧ b ≠ 5) := by omega
    rcases hbv with hbb | rfl | rfl | rfl | hbb
    · obtain ⟨g1, g2⟩ := hbb
      have HR : Hid (res = true) := Lib.hid (by rw [HIB.out]; simp [bt, hardC] <;> omega)
      have HBB : Hid (hb b = true) := Lib.hid (by unfold hb; simp <;> omega)
      clear HIB hb0 hb1
      go_wp2_with fail
      refine (hard_any 12 _).mono ?_
      rintro e w1 ⟨rfl, rfl⟩
      rw [show hb 12 = false from rfl]
      go_wp2_with fail
      refine (hard_any b _).mono ?_
      rintro e w1 ⟨rfl, rfl⟩
      rw [HBB.out]
      go_wp2
      go_ret
      exact ⟨by rw [HR.out]; rfl, rfl⟩
    · -- 0
      have HR : Hid (res = true) := Lib.hid (by rw [HIB.out]; simp [bt, hardC] <;> omega)
      clear HIB hb0 hb1
      go_wp2_with fail
      refine (hard_any 12 _).mono ?_
      rintro e w1 ⟨rfl, rfl⟩
      rw [show hb 12 = false from rfl]
      go_wp2_with fail
      refine (hard_any 0 _).mono ?_
      rintro e w1 ⟨rfl, rfl⟩
      rw [show hb 0 = false from rfl]
      go_wp2
      go_ret
      exact ⟨by rw [HR.out]; rfl, rfl⟩
    · -- 4
      have HR : Hid (res = false) := Lib.hid (by rw [HIB.out]; simp [bt, hardC] <;> omega)
      clear HIB hb0 hb1
      go_wp2_with fail
      refine (hard_any 12 _).mono ?_
      rintro e w1 ⟨rfl, rfl⟩
      rw [show hb 12 = false from rfl]
      go_wp2_with fail
      refine (hard_any 4 _).mono ?_
      rintro e w1 ⟨rfl, rfl⟩
      rw [show hb 4 = false from rfl]
      go_wp2
      go_ret
      exact ⟨by rw [HR.out]; rfl, rfl⟩
    · -- 5
      have HR : Hid (res = false) := Lib.hid (by rw [HIB.out]; simp [bt, hardC] <;> omega)
      clear HIB hb0 hb1
      go_wp2_with fail
      refine (hard_any 12 _).mono ?_
      rintro e w1 ⟨rfl, rfl⟩
      rw [show hb 12 = false from rfl]
      go_wp2_with fail
      refine (hard_any 5 _).mono ?_
      rintro e w1 ⟨rfl, rfl⟩
      rw [show hb 5 = false from rfl]
      go_wp2
      go_ret
      exact ⟨by rw [HR.out]; rfl, rfl⟩
    · obtain ⟨g1, q4, q5⟩ := hbb
      have e4 : (b == 4) = false := by simpa using q4
      have e5 : (b == 5) = false := by simpa using q5
      have HR : Hid (res = true) := Lib.hid (by rw [HIB.out]; simp [bt, hardC] <;> omega)
      have HBB : Hid (hb b = false) := Lib.hid (by unfold hb; simp <;> omega)
      clear HIB hb0 hb1
      go_wp2_with fail
      refine (hard_any 12 _).mono ?_
      rintro e w1 ⟨rfl, rfl⟩
      rw [show hb 12 = false from rfl]
      go_wp2_with fail
      refine (hard_any b _).mono ?_
      rintro e w1 ⟨rfl, rfl⟩
      rw [HBB.out]
      go_wp2
      go_ret
      exact ⟨by rw [HR.out]; rfl, rfl⟩
end Go.Proofs.Ytodbjehggkdjaaa
namespace Go.Proofs.Ytodbjehggkdjaaa
open Go.RowKit
set_option linter.unusedVariables false
set_option linter.unusedSimpArgs false

theorem info_intb : (Try.prog.info? 3).map (fun i => (i.zero, i.size, i.bytes)) = some (some (.int .i64 0), 1, 8) := by kernel_rfl
/-- The classes of a text's pieces. -/
def clsL (s : ByteArray) (l : List Nat) : List Int := l.map (clsAt s)
theorem clsL_rev (s : ByteArray) (l : List Nat) : (clsL s l).reverse = ctx s l := rfl
theorem clsL_range (s : ByteArray) (l : List Nat) : ∀ x ∈ clsL s l, 0 ≤ x ∧ x ≤ 12 := by
  intro x hx
  obtain ⟨i, _, rfl⟩ := List.mem_map.1 hx
  exact cls_range _
theorem cls32b {s : ByteArray} {i : Nat} (hi : i < s.size) : -2147483648 ≤ (((dec s i).1 : Nat) : Int) ∧ (((dec s i).1 : Nat) : Int) ≤ 2147483647 := by
  have := dec_le hi; omega
theorem clsAt_bad {s : ByteArray} {i : Nat} (hi : i < s.size) (h : isB s i = false) : clsAt s i = 0 := by
  have hw : wid s i = 0 := by unfold isB at h; simpa using h
  unfold clsAt
  rw [dec_of_wid hi hw]
  exact cls_bad
def ints (l : List Nat) : List Value := l.map fun p => .int .i64 (p : Nat)
theorem ints_len (l : List Nat) : (ints l).length = l.length := by simp [ints]
/-- What has been found ahead of the piece i + 1. -/
def outB (s : ByteArray) (i : Nat) : List Nat := if s.size = 0 then [0] else ((cut s 0).take (i + 1)).filter (isb s)
theorem outB_zero (s : ByteArray) : outB s 0 = [0] := by
  unfold outB
  split
  · rfl
  · rename_i h
    rw [cut_step (by omega)]
    simp [isb_zero]
theorem outB_step {s : ByteArray} {i p : Nat} (h : (cut s 0)[i + 1]? = some p) : outB s (i + 1) = if isb s p = true then outB s i ++ [p] else outB s i := by
  have hs : s.size ≠ 0 := by
    have := (List.getElem?_eq_some_iff.1 h).1
    have := cut_len_le s 0 (Nat.zero_le _)
    omega
  unfold outB
  rw [if_neg hs, if_neg hs, List.take_add_one (i := i + 1), h]
  by_cases hi : isb s p = true
  · simp [hi]
  · simp [hi]
theorem outB_end {s : ByteArray} {i : Nat} (h : (cut s 0).length ≤ i + 1) : brk s = if s.size = 0 then outB s i else outB s i ++ [s.size] := by
  unfold brk outB
  split
  · rfl
  · rw [List.take_of_length_le h]
theorem isb_bt {s : ByteArray} {i p : Nat} (h : (cut s 0)[i + 1]? = some p) : isb s p = bt ((clsL s (cut s 0)).take (i + 1)).reverse ((clsL s (cut s 0))[i + 1]?.getD 0) := by
  obtain ⟨hk, rfl⟩ := List.getElem?_eq_some_iff.1 h
  rw [isb_at (at_get s (i + 1) hk).1]
  unfold clsL
  rw [← List.map_take, List.getElem?_map, h]
  rfl
theorem outB_len (s : ByteArray) (i : Nat) : (outB s i).length ≤ i + 1 := by
  unfold outB
  split
  · simp
  · refine Nat.le_trans (List.length_filter_le _ _) ?_
    rw [List.length_take]; omega

theorem owns_some {w : World} {base : Nat} {e : TypeId} {sz n : Nat} {v : Value} {xs : List Value} (h : w.ownsRow base e sz v n xs) (hn : n ≠ 0) : v ≠ .slice none 0 0 := by
  rcases h.2 with ⟨_, h0⟩ | ⟨g, cap, cur, rfl, _⟩
  · exact absurd h0 hn
  · intro h; cases h
set_option maxHeartbeats 16000000 in
theorem rbreaks_any (s : ByteArray) (w : World) (hz : s.size ≤ 1073741823) :
    Calls Try.prog 41 #[.string s] w (NewSl 3 1 (brk s).length (ints (brk s)) w) := by
  have hcl := cut_len_le s 0 (Nat.zero_le _)
  obtain ⟨i0, hi, hz0, hz1, hz2⟩ := info_parts info_intb
  have HI := Lib.hid hi; have HZ0 := Lib.hid hz0; have HZ1 := Lib.hid hz1; have HZ2 := Lib.hid hz2
  clear hi hz0 hz1 hz2
  go_enter Try.func41, Try.ntmps41
  go_wp2_with fail
  refine (pieces_any s w (by omega)).mono ?_
  rintro r w1 ⟨v, rfl, ho, hk, _⟩
  have hpc := PcAt.of_owns ho
  obtain ⟨ad, cap, rfl, hc⟩ := PcAt.of_owns ho
  have HP := Lib.hid hc
  have HK := Lib.hid hk; clear hk ho hc hpc
  obtain ⟨n, hn⟩ : ∃ n, n = (cut s 0).length := ⟨_, rfl⟩
  rw [← hn] at hcl HP ⊢
  have HNN := Lib.hid hn; clear hn
  go_wp2
  go_loopw [4, 5] (fun v i wr => ∃ k : Nat, k ≤ n ∧ i = .int .i64 k ∧ wr.ownsRow w1.heap.size 3 1 v k ((clsL s ((cut s 0).take k)).map (.int .i64)) ∧ Keep [] w1 wr) (fun _ i _ => n - (intOf i).toNat)
  case atStart => exact ⟨0, by omega, rfl, World.ownsRow_nil _ _ _ _, Keep.refl _ _⟩
  case round =>
    obtain ⟨k, hkn, rfl, hown, hk⟩ := hrel
    have HO := Lib.hid hown; have HK1 := Lib.hid hk; clear hown hk
    by_cases hlt : k < n
    · have hltd : decide (k < n) = true := by simpa using hlt
      obtain ⟨b, off, rfl, hcs⟩ := HP.out (by omega)
      have hkl : k < (cut s 0).length := by rw [← HNN.out]; exact hlt
      have hke := List.getElem?_eq_getElem hkl
      have hps := (at_get s k hkl).2
      obtain ⟨c0, c1, c2, c3⟩ := hcs k _ hke
      have d1 := HK1.out.cellv c1 (by simp)
      have d3 := HK1.out.cellv c3 (by simp)
      have htk : (clsL s ((cut s 0).take (k + 1))).map (Value.int .i64) = (clsL s ((cut s 0).take k)).map (.int .i64) ++ [.int .i64 (clsAt s (cut s 0)[k])] := by
        rw [List.take_add_one, hke]; unfold clsL; rw [List.map_append, List.map_append]; rfl
      have HTK := Lib.hid htk
      obtain ⟨r0, r1⟩ := cls32b hps
      have HC := Lib.hid (show cls (dec s (cut s 0)[k]).1 = clsAt s (cut s 0)[k] from rfl)
      have HBAD := Lib.hid (fun h => clsAt_bad hps h)
      have HB3 := Lib.hid c3
      clear c0 c1 c2 c3 hcs hke htk
      generalize (dec s (cut s 0)[k]).1 = r1 at *
      generalize isB s (cut s 0)[k] = bb at *
      generalize clsAt s (cut s 0)[k] = cc at *
      generalize (cut s 0)[k] = p at *
      go_wp2_with fail
      refine (rclass_any _ _ r0 r1).mono ?_
      rintro r w2 ⟨rfl, hk2⟩
      rw [HC.out]
      have HO2 := Lib.hid (hk2.owns HO.out (by simp)); have HK2 := Lib.hid (HK1.out.trans0 hk2)
      have d3 := hk2.cellv d3 (by simp)
      have hsz := HK2.out.size
      clear hk2 HC
      cases bb with
      | true =>
        go_wp2_with (with_reducible refine park_append 29 31 _ rfl ?_)
        refine wpList_append_mine _ rfl (.tmp 29) (.tmp 31) 37 rfl w1.heap.size 3 i0 (.int .i64 0) 1 8 Try.underlying37 HI.out HZ0.out HZ1.out HZ2.out rfl (by decide) _ k _ rfl (HO2.out.alloc _) ⟨w2.heap.size, 0, none⟩ 1 1 [.int .i64 cc] rfl rfl (cell_new_row _ _ _) (by simp [Value.oneCell']) (by unfold maxLen; omega) (by omega) (by simp; omega) ?_
        intro v' W3 hp2
        have hfin := Lib.hid (own_next HO2.out HK2.out ((Keep.refl _ _).alloc _) hp2 (by omega)); clear hp2
        go_wp2
        exact ⟨⟨k + 1, by omega, by go_num, by rw [HTK.out]; exact hfin.out.1, hfin.out.2.1⟩, by simp [intOf]; omega⟩
      | false =>
        have h0 := HBAD.out rfl
        rw [h0] at HTK
        clear h0
        go_wp2_with (with_reducible refine park_append 29 31 _ rfl ?_)
        refine wpList_append_mine _ rfl (.tmp 29) (.tmp 31) 37 rfl w1.heap.size 3 i0 (.int .i64 0) 1 8 Try.underlying37 HI.out HZ0.out HZ1.out HZ2.out rfl (by decide) _ k _ rfl (HO2.out.alloc _) ⟨w2.heap.size, 0, none⟩ 1 1 [.int .i64 0] rfl rfl (cell_new_row _ _ _) (by simp [Value.oneCell']) (by unfold maxLen; omega) (by omega) (by simp; omega) ?_
        intro v' W3 hp2
        have hfin := Lib.hid (own_next HO2.out HK2.out ((Keep.refl _ _).alloc _) hp2 (by omega)); clear hp2
        go_wp2
        exact ⟨⟨k + 1, by omega, by go_num, by rw [HTK.out]; exact hfin.out.1, hfin.out.2.1⟩, by simp [intOf]; omega⟩
    · have hltd : decide (k < n) = false := by simpa using hlt
      obtain rfl : k = n := by omega
      rename World => w2
      have hsl := SlAt.of_owns HO.out
      rw [List.take_of_length_le (by rw [HNN.out]; exact Nat.le_refl _)] at hsl
      have hcln : (clsL s (cut s 0)).length = k := by rw [HNN.out]; simp [clsL]
      have HSL := Lib.hid hsl; have HCN := Lib.hid hcln
      obtain ⟨lad, lcap, rfl⟩ := hsl.empty
      clear hsl hcln hlt hltd
      have hsz := HK1.out.size
      have hout0 := World.ownsRow_lit (base := w2.heap.size) (e := 3) (size := 1) w2 #[.int .i64 0] 1 (Nat.le_refl _) (by decide) rfl
      have HOUT0 := Lib.hid hout0; clear hout0
      go_wp2
      go_loopw [7, 8] (fun v i wr => ∃ j : Nat, j ≤ k ∧ i = .int .i64 j ∧ wr.ownsRow w2.heap.size 3 1 v (outB s j).length (ints (outB s j)) ∧ Keep [] w2 wr) (fun _ i _ => k - (intOf i).toNat)
      case atStart => exact ⟨0, by omega, rfl, by rw [outB_zero]; exact HOUT0.out, (Keep.refl _ _).alloc _⟩
      case round =>
        clear HOUT0
        obtain ⟨j, hj, rfl, hown, hk⟩ := hrel
        have HOO := Lib.hid hown; have HK3 := Lib.hid hk; clear hown hk
        by_cases hlt : j + 1 < k
        · have hltd : decide ((j : Int) + 1 < (k : Int)) = true := by simp; omega
          have hjl : j + 1 < (cut s 0).length := by rw [← HNN.out]; exact hlt
          have hke := List.getElem?_eq_getElem hjl
          obtain ⟨b, off, rfl, hcs⟩ := HP.out (by omega)
          obtain ⟨c0, _, _, _⟩ := hcs _ _ hke
          have hib := isb_bt hke
          have hst := outB_step hke
          have hbt := between_any _ (clsL s (cut s 0)) j wr (by rw [HCN.out]; exact HSL.out.keep0 HK3.out) (by rw [HCN.out]; omega) (by rw [HCN.out]; exact hlt) (clsL_range _ _)
          rw [← hib] at hbt
          have hol := outB_len s j
          generalize (cut s 0)[j + 1] = p at *
          have d0 := HK3.out.cellv (HK1.out.cellv c0 (by simp)) (by simp)
          have HBT := Lib.hid hbt
          clear hcs c0 hke hib hbt
          have hsz := HK3.out.size
          cases hbb : isb s p with
          | true =>
            rw [hbb] at HBT hst
            rw [if_pos rfl] at hst
            have HST := Lib.hid hst
            clear hst hbb
            obtain ⟨m, hm⟩ : ∃ m, m = (outB s j).length := ⟨_, rfl⟩
            rw [← hm] at HOO hol
            have HM := Lib.hid hm; clear hm
            go_wp2_with fail
            refine HBT.out.mono ?_
            rintro r w4 ⟨rfl, rfl⟩
            go_wp2_with (with_reducible refine park_append 44 51 _ rfl ?_)
            refine wpList_append_mine _ rfl (.tmp 44) (.tmp 51) 37 rfl w2.heap.size 3 i0 (.int .i64 0) 1 8 Try.underlying37 HI.out HZ0.out HZ1.out HZ2.out rfl (by decide) _ m _ rfl (HOO.out.alloc _) ⟨wr.heap.size, 0, none⟩ 1 1 [.int .i64 p] rfl rfl (cell_new_row _ _ _) (by simp [Value.oneCell']) (by unfold maxLen; omega) (by omega) (by simp; omega) ?_
            intro v' W3 hp2
            have hfin := Lib.hid (own_next HOO.out HK3.out ((Keep.refl _ _).alloc _) hp2 (by omega)); clear hp2
            go_wp2
            exact ⟨⟨j + 1, by omega, by go_num, by rw [HST.out, List.length_append, ← HM.out]; simpa [ints] using hfin.out.1, hfin.out.2.1⟩, by simp [intOf]; omega⟩
          | false =>
            rw [hbb] at HBT hst
            rw [if_neg (by decide)] at hst
            have HST := Lib.hid hst
            clear hst hbb
            go_wp2_with fail
            refine HBT.out.mono ?_
            rintro r w4 ⟨rfl, rfl⟩
            go_wp2
            exact ⟨⟨j + 1, by omega, by go_num, by rw [HST.out]; exact HOO.out, HK3.out⟩, by simp [intOf]; omega⟩
        · have hltd : decide ((j : Int) + 1 < (k : Int)) = false := by simp; omega
          have hend := outB_end (s := s) (i := j) (by rw [← HNN.out]; omega)
          have hol := outB_len s j
          have hsz := HK3.out.size
          have hkw : Keep [] w wr := (HK.out.trans0 HK1.out).trans0 HK3.out
          have HKW := Lib.hid hkw
          obtain ⟨m, hm⟩ : ∃ m, m = (outB s j).length := ⟨_, rfl⟩
          rw [← hm] at HOO hol
          have hb0 : w.heap.size ≤ w2.heap.size := ((HK.out.trans0 HK1.out)).size
          have HB0 := Lib.hid hb0
          by_cases hs0 : s.size = 0
          · have hd : decide (0 < s.size) = false := decide_eq_false (by omega)
            rw [if_pos hs0] at hend
            have hm1 : m ≠ 0 := by
              have : outB s j = [0] := by unfold outB; rw [if_pos hs0]
              rw [this] at hm; simp at hm; omega
            have HEND := Lib.hid hend; have HM := Lib.hid hm; have HM1 := Lib.hid hm1
            clear hend hm hs0 hkw hm1 hb0
            go_wp2
            go_ret
            refine ⟨_, rfl, ?_, HKW.out, ?_⟩
            · rw [HEND.out, ← HM.out]; exact owns_mono HOO.out HB0.out
            · rw [HEND.out, ← HM.out]
              exact ⟨fun h => absurd h (owns_some HOO.out HM1.out), fun h => absurd h HM1.out⟩
          · have hd : decide (0 < s.size) = true := decide_eq_true (by omega)
            rw [if_neg hs0] at hend
            have HEND := Lib.hid hend; have HM := Lib.hid hm
            clear hend hm hs0 hkw hb0
            go_wp2_with (with_reducible refine park_append 56 59 _ rfl ?_)
            refine wpList_append_mine _ rfl (.tmp 56) (.tmp 59) 37 rfl w2.heap.size 3 i0 (.int .i64 0) 1 8 Try.underlying37 HI.out HZ0.out HZ1.out HZ2.out rfl (by decide) _ m _ rfl (HOO.out.alloc _) ⟨wr.heap.size, 0, none⟩ 1 1 [.int .i64 s.size] rfl rfl (cell_new_row _ _ _) (by simp [Value.oneCell']) (by unfold maxLen; omega) (by omega) (by simp; omega) ?_
            intro v' W3 hp2
            have hfin := Lib.hid (own_next HOO.out HK3.out ((Keep.refl _ _).alloc _) hp2 (by omega)); clear hp2
            go_wp2
            go_ret
            refine ⟨_, rfl, ?_, (HK.out.trans0 HK1.out).trans0 hfin.out.2.1, ?_⟩
            · rw [HEND.out, List.length_append, ← HM.out]
              have := hfin.out.1
              simpa [ints] using owns_mono this HB0.out
            · rw [HEND.out, List.length_append, ← HM.out]
              exact ⟨fun h => absurd h (owns_some hfin.out.1 (by omega)), fun h => by simp at h⟩
end Go.Proofs.Ytodbjehggkdjaaa
namespace Go.Proofs.Ytodbjehggkdjaaa
open Go.RowKit
set_option linter.unusedVariables false
set_option linter.unusedSimpArgs false

theorem NewSl.at_ {e : TypeId} {sz n : Nat} {cs : List Value} {w : World} {r : Ending} {w' : World} (h : NewSl e sz n cs w r w') : ∃ ad cap, r = .returned (.slice ad n cap) ∧ SlAt w' (.slice ad n cap) n cs ∧ Keep [] w w' ∧ w'.ownsRow w.heap.size e sz (.slice ad n cap) n cs := by
  obtain ⟨v, rfl, ho, hk, _⟩ := h
  have hs := SlAt.of_owns ho
  obtain ⟨ad, cap, rfl⟩ := hs.empty
  exact ⟨ad, cap, rfl, hs, hk, ho⟩
theorem ints_at {l : List Nat} {k p : Nat} (h : l[k]? = some p) : (ints l)[k]? = some (.int .i64 p) := by unfold ints; rw [List.getElem?_map, h]; rfl
theorem brk_len (s : ByteArray) : (brk s).length ≤ s.size + 1 := by
  unfold brk
  split
  · simp
  · have h1 := List.length_filter_le (isb s) (cut s 0)
    have h2 := cut_len_le s 0 (Nat.zero_le _)
    rw [List.length_append, List.length_singleton]; omega
/-- Is a number a break? -/
def brkI (s : ByteArray) (a : Int) : Bool := (brk s).any fun p => decide ((p : Int) = a)

theorem brk_pos (s : ByteArray) : 1 ≤ (brk s).length := List.length_pos_of_mem (brk_zero s)
theorem clumps_len (s : ByteArray) : (clumps s).length = (brk s).length - 1 := prs_len _
/-- The last of the first k breaks below a number. -/
def prvK (s : ByteArray) (a : Int) (k : Nat) : Nat := (((brk s).take k).reverse.find? (fun p : Nat => decide ((p : Int) < a))).getD 0
theorem prvK_step {s : ByteArray} {a : Int} {k p : Nat} (h : (brk s)[k]? = some p) : prvK s a (k + 1) = if (p : Int) < a then p else prvK s a k := by
  unfold prvK
  rw [List.take_add_one, h, List.reverse_append]
  show ((p :: ((brk s).take k).reverse).find? _).getD 0 = _
  by_cases hp : (p : Int) < a
  · rw [List.find?_cons_of_pos (by simpa using hp), if_pos hp]; rfl
  · rw [List.find?_cons_of_neg (by simpa using hp), if_neg hp]
theorem prvK_all {s : ByteArray} {a : Int} {k : Nat} (h : (brk s).length ≤ k) : prvK s a k = prvB s a := by
  unfold prvK prvB
  rw [List.take_of_length_le h]
theorem info_strb : (Try.prog.info? 9).map (fun i => (i.zero, i.size, i.bytes)) = some (some (.string ByteArray.empty), 1, 16) := by kernel_rfl
theorem slice_str2 (s : ByteArray) {a p : Nat} (h1 : a ≤ p) (h2 : p ≤ s.size) (w : World) : (Instr.slice 9 (.string s) (some (.int .i64 a)) (some (.int .i64 p)) none).run Try.prog w = .ok (.string (s.extract a p)) w := by
  rw [run_slice_string_if _ _ _ _ _ _ _ Try.underlying9, if_pos (by omega), if_pos (by omega)]; rfl
/-- The clumps' texts in memory. -/
def cluV (s : ByteArray) : List Value := (clumps s).map fun q => .string (s.extract q.1 q.2)
theorem brk_rise {s : ByteArray} {k a b : Nat} (h1 : (brk s)[k]? = some a) (h2 : (brk s)[k + 1]? = some b) : a < b ∧ b ≤ s.size := by
  refine ⟨?_, brk_le (List.mem_of_getElem? h2)⟩
  have := List.pairwise_iff_getElem.1 (brk_sorted s)
  obtain ⟨i1, rfl⟩ := List.getElem?_eq_some_iff.1 h1
  obtain ⟨i2, rfl⟩ := List.getElem?_eq_some_iff.1 h2
  exact this _ _ i1 i2 (by omega)
end Go.Proofs.Ytodbjehggkdjaaa
