/-
  Plain laws: steps on a Roll's state, and what holds of its count.
-/
import Derived.Test.YtfhgeanacecpjaaDoorLawB
namespace Go.Proofs.YtfhgeanacecpjaaDoor
set_option linter.unusedVariables false

theorem popC_congr {x y : Nat} (h : ∀ i, i ≤ 16 → x.testBit i = y.testBit i) : popC x = popC y := by
  rw [popC_eq, popC_eq]
  simp only [h 0 (by omega), h 1 (by omega), h 2 (by omega), h 3 (by omega), h 4 (by omega), h 5 (by omega), h 6 (by omega), h 7 (by omega), h 8 (by omega), h 9 (by omega), h 10 (by omega), h 11 (by omega), h 12 (by omega), h 13 (by omega), h 14 (by omega), h 15 (by omega), h 16 (by omega)]

theorem countP_add (p q : Nat → Bool) (n : Nat) (hp : p n = true) (hq : q n = false) : ∀ (l : List Nat), l.Nodup → n ∈ l → (∀ i ∈ l, i ≠ n → p i = q i) → l.countP p = l.countP q + 1
  | [], _, h, _ => by cases h
  | a :: r, hn, h, he => by
    rw [List.nodup_cons] at hn
    by_cases e : a = n
    · subst e
      have : r.countP p = r.countP q := List.countP_congr (fun i hi => by rw [he i (List.mem_cons_of_mem _ hi) (fun e => hn.1 (e ▸ hi))])
      simp [hp, hq, this]
    · have hm : n ∈ r := by
        rcases List.mem_cons.1 h with h' | h'
        · exact absurd h'.symm e
        · exact h'
      have := countP_add p q n hp hq r hn.2 hm (fun i hi => he i (List.mem_cons_of_mem _ hi))
      simp only [List.countP_cons, this, he a (by simp) e]
      omega
theorem popC_countP (x : Nat) : popC x = (List.range 17).countP fun i => x.testBit i := by
  unfold popC bitList
  rw [List.length_map, ← List.countP_eq_length_filter]
theorem popC_add {x y : Nat} (n : Nat) (hn : n ≤ 16) (h : ∀ i, i ≤ 16 → i ≠ n → x.testBit i = y.testBit i) (hx : x.testBit n = true) (hy : y.testBit n = false) : popC x = popC y + 1 := by
  rw [popC_countP, popC_countP]
  exact countP_add _ _ n hx hy _ List.nodup_range (by simp; omega) (fun i hi hne => h i (by simp at hi; omega) hne)

/-- The state of a Roll. -/
abbrev St := Nat × Nat × Int
def stepS (s : St) (x : Bool × Int) : St := (stepJ x.1 s.1 x.2, stepL x.1 s.2.1 x.2, stepE x.1 s.1 s.2.1 s.2.2 x.2)
def runS (s : St) (xs : List (Bool × Int)) : St := xs.foldl stepS s
theorem runS_snoc (s : St) (xs : List (Bool × Int)) (x : Bool × Int) : runS s (xs ++ [x]) = stepS (runS s xs) x := by simp [runS]

/-- What a loaded count must be. -/
structure Inv (s : St) : Prop where
  jl : s.1 < 131072
  ll : s.2.1 < 131072
  j0 : s.1.testBit 0 = false
  l0 : s.2.1.testBit 0 = false
  ge : (popC (butNot s.1 s.2.1) : Int) ≤ s.2.2
  ev : (s.2.2 - popC (butNot s.1 s.2.1)) % 2 = 0
  le : (s.2.2 - popC (butNot s.1 s.2.1)) / 2 ≤ popC (s.1 &&& s.2.1)

theorem Inv.bounds {s : St} (h : Inv s) : 0 ≤ s.2.2 ∧ s.2.2 ≤ 100 := by
  have h1 := h.ge; have h2 := h.le; have h3 := popC_le (s.1 &&& s.2.1); have h4 := popC_le (butNot s.1 s.2.1)
  omega

theorem Inv.new : Inv (0, 0, 0) := ⟨by decide, by decide, by decide, by decide, by decide, by decide, by decide⟩

theorem bn_with (j l : Nat) (n : Int) (i : Nat) (hj : j < 131072) (hl : l < 131072) : (butNot (withBit j n) l).testBit i = ((j.testBit i || (siteB n && decide (n.toNat = i))) && !l.testBit i) := by
  rw [testBit_butNot _ _ _ (by omega) (by have := withBit_lt j n hj; omega), testBit_withBit]
theorem bn_with' (j l : Nat) (n : Int) (i : Nat) (hj : j < 131072) (hl : l < 131072) : (butNot j (withBit l n)).testBit i = (j.testBit i && !(l.testBit i || (siteB n && decide (n.toNat = i)))) := by
  rw [testBit_butNot _ _ _ (by have := withBit_lt l n hl; omega) (by omega), testBit_withBit]
theorem bn_at (j l : Nat) (i : Nat) (hj : j < 131072) (hl : l < 131072) : (butNot j l).testBit i = (j.testBit i && !l.testBit i) := testBit_butNot _ _ _ (by omega) (by omega)

theorem joinR_eq (j l : Nat) (n : Int) (hj : j < 131072) (hl : l < 131072) : joinR j l n = (siteB n && (!j.testBit n.toNat && !l.testBit n.toNat)) := by
  unfold joinR
  rw [hasB_eq _ _ _ (withBit_lt _ _ hj) hl, hasB_eq _ _ _ hj hl, testBit_withBit]
  cases siteB n <;> cases j.testBit n.toNat <;> cases l.testBit n.toNat <;> simp
theorem leaveR_eq (j l : Nat) (n : Int) (hj : j < 131072) (hl : l < 131072) : leaveR j l n = (siteB n && (j.testBit n.toNat && !l.testBit n.toNat)) := by
  unfold leaveR
  rw [hasB_eq _ _ _ hj (withBit_lt _ _ hl), hasB_eq _ _ _ hj hl, testBit_withBit]
  cases siteB n <;> cases j.testBit n.toNat <;> cases l.testBit n.toNat <;> simp

theorem Inv.join {j l : Nat} {e n : Int} (h : Inv (j, l, e)) : Inv (withBit j n, l, if joinR j l n = true then e + 1 else e) := by
  obtain ⟨hj, hl, hj0, hl0, h1, h2, h3⟩ := h
  simp only at *
  cases hs : siteB n
  · have hw : withBit j n = j := by simp [withBit, hs]
    rw [joinR_eq _ _ _ hj hl, hs, hw]
    exact ⟨hj, hl, hj0, hl0, h1, h2, h3⟩
  · have hn := site_yes hs
    have hn16 : n.toNat ≤ 16 := by omega
    suffices hh : (popC (butNot (withBit j n) l) : Int) ≤ (if joinR j l n = true then e + 1 else e) ∧ ((if joinR j l n = true then e + 1 else e) - popC (butNot (withBit j n) l)) % 2 = 0 ∧ ((if joinR j l n = true then e + 1 else e) - popC (butNot (withBit j n) l)) / 2 ≤ popC (withBit j n &&& l) from
      ⟨withBit_lt _ _ hj, hl, withBit0 _ _ hj0, hl0, hh.1, hh.2.1, hh.2.2⟩
    rw [joinR_eq _ _ _ hj hl, hs]
    cases hjb : j.testBit n.toNat
    · cases hlb : l.testBit n.toNat
      · -- it becomes a member
        have p1 : popC (butNot (withBit j n) l) = popC (butNot j l) + 1 := by
          refine popC_add n.toNat hn16 (fun i hi hne => ?_) ?_ ?_
          · rw [bn_with _ _ _ _ hj hl, bn_at _ _ _ hj hl]; simp [Ne.symm hne]
          · rw [bn_with _ _ _ _ hj hl]; simp [hs, hlb]
          · rw [bn_at _ _ _ hj hl]; simp [hjb]
        have p2 : popC (withBit j n &&& l) = popC (j &&& l) := by
          refine popC_congr fun i hi => ?_
          rw [Nat.testBit_and, Nat.testBit_and, testBit_withBit]
          by_cases e : n.toNat = i
          · subst e; simp [hlb]
          · simp [e]
        rw [p1, p2]
        simp
        omega
      · have p1 : popC (butNot (withBit j n) l) = popC (butNot j l) := by
          refine popC_congr fun i hi => ?_
          rw [bn_with _ _ _ _ hj hl, bn_at _ _ _ hj hl]
          by_cases e : n.toNat = i
          · subst e; simp [hlb]
          · simp [e]
        have p2 : popC (withBit j n &&& l) = popC (j &&& l) + 1 := by
          refine popC_add n.toNat hn16 (fun i hi hne => ?_) ?_ ?_
          · rw [Nat.testBit_and, Nat.testBit_and, testBit_withBit]; simp [Ne.symm hne]
          · rw [Nat.testBit_and, testBit_withBit]; simp [hs, hlb]
          · rw [Nat.testBit_and]; simp [hjb]
        rw [p1, p2]
        simp
        omega
    · have hw : ∀ i, (withBit j n).testBit i = j.testBit i := fun i => by
        rw [testBit_withBit]
        by_cases e : n.toNat = i
        · subst e; simp [hjb]
        · simp [e]
      have hw' : withBit j n = j := Nat.eq_of_testBit_eq hw
      rw [hw']
      simp
      omega

theorem Inv.leave {j l : Nat} {e n : Int} (h : Inv (j, l, e)) : Inv (j, withBit l n, if leaveR j l n = true then e + 1 else e) := by
  obtain ⟨hj, hl, hj0, hl0, h1, h2, h3⟩ := h
  simp only at *
  cases hs : siteB n
  · have hw : withBit l n = l := by simp [withBit, hs]
    rw [leaveR_eq _ _ _ hj hl, hs, hw]
    exact ⟨hj, hl, hj0, hl0, h1, h2, h3⟩
  · have hn := site_yes hs
    have hn16 : n.toNat ≤ 16 := by omega
    suffices hh : (popC (butNot j (withBit l n)) : Int) ≤ (if leaveR j l n = true then e + 1 else e) ∧ ((if leaveR j l n = true then e + 1 else e) - popC (butNot j (withBit l n))) % 2 = 0 ∧ ((if leaveR j l n = true then e + 1 else e) - popC (butNot j (withBit l n))) / 2 ≤ popC (j &&& withBit l n) from
      ⟨hj, withBit_lt _ _ hl, hj0, withBit0 _ _ hl0, hh.1, hh.2.1, hh.2.2⟩
    rw [leaveR_eq _ _ _ hj hl, hs]
    cases hlb : l.testBit n.toNat
    · cases hjb : j.testBit n.toNat
      · have p1 : popC (butNot j (withBit l n)) = popC (butNot j l) := by
          refine popC_congr fun i hi => ?_
          rw [bn_with' _ _ _ _ hj hl, bn_at _ _ _ hj hl]
          by_cases e : n.toNat = i
          · subst e; simp [hjb]
          · simp [e]
        have p2 : popC (j &&& withBit l n) = popC (j &&& l) := by
          refine popC_congr fun i hi => ?_
          rw [Nat.testBit_and, Nat.testBit_and, testBit_withBit]
          by_cases e : n.toNat = i
          · subst e; simp [hjb]
          · simp [e]
        rw [p1, p2]
        simp
        omega
      · have p1 : popC (butNot j l) = popC (butNot j (withBit l n)) + 1 := by
          refine popC_add n.toNat hn16 (fun i hi hne => ?_) ?_ ?_
          · rw [bn_with' _ _ _ _ hj hl, bn_at _ _ _ hj hl]; simp [Ne.symm hne]
          · rw [bn_at _ _ _ hj hl]; simp [hjb, hlb]
          · rw [bn_with' _ _ _ _ hj hl]; simp [hs]
        have p2 : popC (j &&& withBit l n) = popC (j &&& l) + 1 := by
          refine popC_add n.toNat hn16 (fun i hi hne => ?_) ?_ ?_
          · rw [Nat.testBit_and, Nat.testBit_and, testBit_withBit]; simp [Ne.symm hne]
          · rw [Nat.testBit_and, testBit_withBit]; simp [hs, hjb]
          · rw [Nat.testBit_and]; simp [hlb]
        rw [p2]
        simp
        omega
    · have hw : ∀ i, (withBit l n).testBit i = l.testBit i := fun i => by
        rw [testBit_withBit]
        by_cases e : n.toNat = i
        · subst e; simp [hlb]
        · simp [e]
      have hw' : withBit l n = l := Nat.eq_of_testBit_eq hw
      rw [hw']
      simp
      omega

theorem Inv.step {s : St} (h : Inv s) (x : Bool × Int) : Inv (stepS s x) := by
  obtain ⟨j, l, e⟩ := s
  obtain ⟨lv, n⟩ := x
  cases lv
  · exact h.join
  · exact h.leave
theorem Inv.run {s : St} (h : Inv s) : ∀ (xs : List (Bool × Int)), Inv (runS s xs)
  | [] => h
  | x :: xs => (h.step x).run xs

theorem rising_range (x : Nat) : ∀ (m k : Nat) (last : Int), last < k → 1 ≤ k → k + m = 17 → risingFrom last (((List.range' k m).filter fun i => x.testBit i).map Int.ofNat) = true
  | 0, _, _, _, _, _ => rfl
  | m + 1, k, last, h, hk1, hk => by
    rw [List.range'_succ, List.filter_cons]
    cases hb : x.testBit k
    · exact rising_range x m (k + 1) last (by omega) (by omega) (by omega)
    · simp only [if_true, List.map_cons, risingFrom]
      have := rising_range x m (k + 1) (Int.ofNat k) (by simp; omega) (by omega) (by omega)
      rw [this, site_mk (by simp; omega) (by simp; omega)]
      simpa using h
theorem rising_bitList (x : Nat) (h0 : x.testBit 0 = false) : risingFrom 0 (bitList x) = true := by
  unfold bitList
  rw [List.range_eq_range', List.range'_succ, List.filter_cons, h0]
  exact rising_range x 16 1 0 (by decide) (by decide) (by decide)
theorem bitsOf_testBit : ∀ (l : List Int) (w i : Nat), (bitsOf w l).testBit i = (w.testBit i || l.any fun n => decide (n.toNat = i))
  | [], w, i => by simp [bitsOf]
  | n :: r, w, i => by
    simp only [bitsOf, List.any_cons]
    rw [bitsOf_testBit r, Nat.testBit_or, Nat.testBit_two_pow, Bool.or_assoc]
theorem bitsOf_bitList (x : Nat) (hx : x < 131072) : bitsOf 0 (bitList x) = x := by
  refine Nat.eq_of_testBit_eq fun i => ?_
  rw [bitsOf_testBit, Nat.zero_testBit, Bool.false_or, Bool.eq_iff_iff]
  simp only [List.any_eq_true, decide_eq_true_iff]
  constructor
  · rintro ⟨n, hn, rfl⟩
    exact ((bitList_mem x n).1 hn).2.2
  · intro hb
    have hi : i < 17 := by
      rcases Nat.lt_or_ge i 17 with h | h
      · exact h
      · rw [Nat.testBit_lt_two_pow (Nat.lt_of_lt_of_le hx (by rw [show (131072 : Nat) = 2 ^ 17 by decide]; exact Nat.pow_le_pow_right (by omega) h))] at hb; cases hb
    exact ⟨(i : Int), (bitList_mem x i).2 ⟨by omega, by omega, by simpa using hb⟩, by simp⟩
theorem Inv.loads {s : St} (h : Inv s) : loadErr (bitList s.1) (bitList s.2.1) s.2.2 = 0 := by
  unfold loadErr
  rw [rising_bitList _ h.j0, rising_bitList _ h.l0, bitsOf_bitList _ h.jl, bitsOf_bitList _ h.ll, if_pos ⟨rfl, rfl, h.bounds.1⟩, if_pos ⟨h.ge, h.ev, h.le⟩]
theorem Inv.of_load {js ls : List Int} {ep : Int} (h : loadErr js ls ep = 0) : Inv (bitsOf 0 js, bitsOf 0 ls, ep) := by
  unfold loadErr at h
  by_cases c1 : risingFrom 0 js = true ∧ risingFrom 0 ls = true ∧ 0 ≤ ep
  · rw [if_pos c1] at h
    split at h
    · rename_i c2
      exact ⟨bitsOf_lt js 0 0 (by decide) c1.1, bitsOf_lt ls 0 0 (by decide) c1.2.1, bitsOf_bit0 js 0 0 (by simp) c1.1, bitsOf_bit0 ls 0 0 (by simp) c1.2.1, c2.1, c2.2.1, c2.2.2⟩
    · cases h
  · rw [if_neg c1] at h; cases h
end Go.Proofs.YtfhgeanacecpjaaDoor
