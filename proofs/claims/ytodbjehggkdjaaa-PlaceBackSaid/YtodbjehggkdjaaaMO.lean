/-
  A Map in memory; its spots and lines.
-/
import Derived.Test.YtodbjehggkdjaaaMN
import Derived.Test.YtodbjehggkdjaaaMM
import Derived.Test.YtodbjehggkdjaaaAppendG
namespace Go.Proofs.Ytodbjehggkdjaaa
set_option linter.unusedVariables false
set_option linter.unusedSimpArgs false

/-! ### pieces by their numbers -/
def np (s : ByteArray) : Nat := (cut s 0).length
/-- Where piece k begins; the end, beyond. -/
def pos (s : ByteArray) (k : Nat) : Nat := (cut s 0)[k]?.getD s.size
def rn (s : ByteArray) (k : Nat) : Nat := (dec s (pos s k)).1
theorem At.fn {s : ByteArray} {l : List Nat} {i j : Nat} (h : At s l i) (h' : At s l j) : i = j := by
  induction h generalizing j with
  | zero => have := h'.len4; simp at this; omega
  | @step l i h h0 ih =>
    obtain ⟨_, _, e⟩ := h'.snoc rfl
    exact e.symm
theorem pos_get {s : ByteArray} {k : Nat} (hk : k < np s) : (cut s 0)[k]? = some (pos s k) := by
  unfold pos; rw [List.getElem?_eq_getElem hk]; rfl
theorem pos_end {s : ByteArray} {k : Nat} (hk : np s ≤ k) : pos s k = s.size := by
  unfold pos; rw [List.getElem?_eq_none hk]; rfl
theorem at_pos {s : ByteArray} {k : Nat} (hk : k ≤ np s) : At s ((cut s 0).take k) (pos s k) := by
  by_cases h : k < np s
  · have := at_get s k h
    have e : (cut s 0)[k] = pos s k := by
      have := pos_get h
      rw [List.getElem?_eq_getElem h] at this
      simpa using this
    rw [← e]; exact this.1
  · have e : k = np s := by omega
    subst e
    rw [pos_end (Nat.le_refl _)]
    unfold np
    rw [List.take_length]
    exact at_all s
theorem pos_lt {s : ByteArray} {k : Nat} (hk : k < np s) : pos s k < s.size := by
  have := (at_get s k hk).2
  have e := pos_get hk
  rw [List.getElem?_eq_getElem hk] at e
  simp at e
  rwa [e] at this
theorem pos_le (s : ByteArray) (k : Nat) : pos s k ≤ s.size := by
  by_cases h : k < np s
  · have := pos_lt h; omega
  · rw [pos_end (by omega)]; exact Nat.le_refl _
theorem pos_step {s : ByteArray} {k : Nat} (hk : k < np s) : pos s (k + 1) = pos s k + (dec s (pos s k)).2 := by
  have h1 := (at_pos (s := s) (k := k) (by omega)).step (pos_lt hk)
  have h2 := at_pos (s := s) (k := k + 1) (by omega)
  rw [List.take_add_one, pos_get hk] at h2
  exact h2.fn h1
theorem pos_zero (s : ByteArray) : pos s 0 = 0 := by
  have := (at_pos (s := s) (k := 0) (by omega)).len4
  simpa using this
theorem pos_succ {s : ByteArray} {k : Nat} (hk : k < np s) : pos s k < pos s (k + 1) := by
  have := dec_n (pos_lt hk)
  rw [pos_step hk]; omega
theorem pos_mono {s : ByteArray} {i j : Nat} (h : i < j) (hj : j ≤ np s) : pos s i < pos s j := by
  induction j with
  | zero => omega
  | succ j ih =>
    have h1 := pos_succ (s := s) (k := j) (by omega)
    by_cases e : i = j
    · subst e; exact h1
    · have := ih (by omega) (by omega); omega
theorem pos_inj {s : ByteArray} {i j : Nat} (hi : i ≤ np s) (hj : j ≤ np s) (h : pos s i = pos s j) : i = j := by
  rcases Nat.lt_trichotomy i j with h1 | h1 | h1
  · have := pos_mono h1 hj; omega
  · exact h1
  · have := pos_mono h1 hi; omega
theorem pos_np (s : ByteArray) : pos s (np s) = s.size := pos_end (Nat.le_refl _)
theorem np_le (s : ByteArray) : np s ≤ s.size := by have := cut_len_le s 0 (Nat.zero_le _); unfold np; omega
theorem le_pos {s : ByteArray} {k : Nat} (hk : k ≤ np s) : k ≤ pos s k := by
  have := (at_pos hk).len
  rw [List.length_take] at this
  unfold np at hk
  omega
/-- A byte's piece. -/
theorem rn_byte {s : ByteArray} {k : Nat} (hk : k < np s) {c : Nat} (hc : c < 128) : rn s k = c ↔ byt s (pos s k) = c := by
  have hp := pos_lt hk
  unfold rn
  constructor
  · intro h
    rcases rune_or s (pos s k) hp with ⟨_, hr⟩ | ⟨hd, _⟩
    · rw [h] at hr
      have := byt_lt s (pos s k)
      omega
    · rw [hd] at h; simp at h; omega
  · intro h
    rw [dec_byte hp (by omega)]; exact h
theorem dec_w1 {s : ByteArray} {k : Nat} (hk : k < np s) (hc : rn s k < 128) : pos s (k + 1) = pos s k + 1 := by
  have hp := pos_lt hk
  have h : byt s (pos s k) = rn s k := ((rn_byte hk hc).1 rfl)
  rw [pos_step hk, dec_byte hp (by omega)]
/-- The last byte of a piece, if it is below 128: the piece. -/
theorem last_byte {s : ByteArray} {k : Nat} (hk : k < np s) (hb : byt s (pos s (k + 1) - 1) < 128) : pos s (k + 1) = pos s k + 1 := by
  have hp := pos_lt hk
  rw [pos_step hk] at hb ⊢
  rcases rune_or s (pos s k) hp with hr | ⟨hd, _⟩
  · have h4 := hr.n4
    refine Classical.byContradiction fun hn => ?_
    have := hr.goes (k := (dec s (pos s k)).2 - 1) (by omega) (by omega)
    rw [show pos s k + ((dec s (pos s k)).2 - 1) = pos s k + (dec s (pos s k)).2 - 1 by omega] at this
    omega
  · rw [hd]

/-! ### what a spot says -/
def endP (s : ByteArray) (k : Nat) : Bool := decide (rn s k = 10) || (decide (rn s k = 13) && (decide (k + 1 = np s) || decide (rn s (k + 1) ≠ 10)))
def un (s : ByteArray) : Nat → Nat
  | 0 => 0
  | k + 1 => un s k + (if 65536 ≤ rn s k then 2 else 1)
def cl (s : ByteArray) (k : Nat) : Nat := ((brk s).filter fun b => decide (0 < b) && decide (b ≤ pos s k)).length
def ln (s : ByteArray) : Nat → Nat
  | 0 => 1
  | k + 1 => if endP s k = true then ln s k + 1 else ln s k
def sl (s : ByteArray) : Nat → Nat
  | 0 => 0
  | k + 1 => if endP s k = true then k + 1 else sl s k
def co (s : ByteArray) (k : Nat) : Nat := k - sl s k + 1
theorem sl_le (s : ByteArray) : ∀ k, sl s k ≤ k
  | 0 => Nat.le_refl _
  | k + 1 => by have := sl_le s k; unfold sl; split <;> omega
theorem co_step (s : ByteArray) (k : Nat) : co s (k + 1) = if endP s k = true then 1 else co s k + 1 := by
  have := sl_le s k
  unfold co
  rw [show sl s (k + 1) = if endP s k = true then k + 1 else sl s k from rfl]
  split <;> omega
theorem ln_pos (s : ByteArray) : ∀ k, 1 ≤ ln s k
  | 0 => Nat.le_refl _
  | k + 1 => by have := ln_pos s k; unfold ln; split <;> omega
theorem ln_le (s : ByteArray) : ∀ k, ln s k ≤ k + 1
  | 0 => Nat.le_refl _
  | k + 1 => by have := ln_le s k; unfold ln; split <;> omega
theorem ln_mono (s : ByteArray) {i j : Nat} (h : i ≤ j) : ln s i ≤ ln s j := by
  induction j with
  | zero => have : i = 0 := by omega
            subst this; exact Nat.le_refl _
  | succ j ih =>
    by_cases e : i = j + 1
    · subst e; exact Nat.le_refl _
    · have := ih (by omega)
      show _ ≤ (if endP s j = true then ln s j + 1 else ln s j)
      split <;> omega
theorem un_succ (s : ByteArray) (k : Nat) : un s k < un s (k + 1) ∧ un s (k + 1) ≤ un s k + 2 := by
  show un s k < un s k + _ ∧ un s k + _ ≤ _
  split <;> omega
theorem un_mono (s : ByteArray) {i j : Nat} (h : i < j) : un s i < un s j := by
  induction j with
  | zero => omega
  | succ j ih =>
    have := un_succ s j
    by_cases e : i = j
    · subst e; omega
    · have := ih (by omega); omega
theorem un_inj (s : ByteArray) {i j : Nat} (h : un s i = un s j) : i = j := by
  rcases Nat.lt_trichotomy i j with h1 | h1 | h1
  · have := un_mono s h1; omega
  · exact h1
  · have := un_mono s h1; omega
theorem le_un (s : ByteArray) : ∀ k, k ≤ un s k
  | 0 => Nat.le_refl _
  | k + 1 => by have := le_un s k; have := un_succ s k; omega
theorem un_le (s : ByteArray) : ∀ k, k ≤ np s → un s k ≤ pos s k
  | 0, _ => Nat.zero_le _
  | k + 1, hk => by
    have ih := un_le s k (by omega)
    have hp := pos_lt (s := s) (k := k) (by omega)
    have h1 := dec_n hp
    rw [pos_step (by omega)]
    show un s k + _ ≤ _
    split
    · rename_i h
      unfold rn at h
      have : 2 ≤ (dec s (pos s k)).2 := by
        rcases rune_or s (pos s k) hp with ⟨_, hr⟩ | ⟨hd, _⟩
        · have := byt_lt s (pos s k); omega
        · rw [hd] at h; simp at h
      omega
    · omega
/-- No break stands within a piece. -/
theorem brk_at {s : ByteArray} {b k : Nat} (hb : b ∈ brk s) (hk : k < np s) (h1 : pos s k < b) (h2 : b ≤ pos s (k + 1)) : b = pos s (k + 1) := by
  have hbs := brk_le hb
  by_cases e : b = s.size
  · have := pos_le s (k + 1); omega
  · have hl : ∃ l, At s l b := by
      rcases mem_brk.1 hb with h | h | ⟨_, l, hl, _⟩
      · exact ⟨[], by rw [h]; exact .zero⟩
      · omega
      · exact ⟨l, hl⟩
    obtain ⟨l, hl⟩ := hl
    have hm := mem_cut.2 ⟨⟨l, hl⟩, by omega⟩
    obtain ⟨j, hj, e⟩ := List.mem_iff_getElem.1 hm
    have hj' : (cut s 0)[j]? = some (pos s j) := pos_get hj
    rw [List.getElem?_eq_getElem hj] at hj'
    simp at hj'
    rw [hj'] at e
    subst e
    refine Classical.byContradiction fun hn => ?_
    rcases Nat.lt_trichotomy j (k + 1) with h | h | h
    · by_cases e : j = k
      · subst e; omega
      · have := pos_mono (s := s) (i := j) (j := k) (by omega) (by omega); omega
    · subst h; exact hn rfl
    · have := pos_mono (s := s) (i := k + 1) (j := j) h (Nat.le_of_lt hj); omega
theorem filter_two {l : List Nat} (hs : l.Pairwise (· < ·)) {f g : Nat → Bool} {x : Nat} (hx : x ∈ l) (hf : f x = false) (hg : g x = true) (ho : ∀ y ∈ l, y ≠ x → g y = f y) : (l.filter g).length = (l.filter f).length + 1 := by
  induction l with
  | nil => simp at hx
  | cons a l ih =>
    obtain ⟨h1, h2⟩ := List.pairwise_cons.1 hs
    rcases List.mem_cons.1 hx with rfl | hx
    · rw [List.filter_cons, List.filter_cons, if_pos hg, if_neg (by rw [hf]; decide)]
      rw [filter_congr_mem (f := g) (g := f) (fun y hy => ho y (by simp [hy]) (by have := h1 y hy; omega))]
      rfl
    · have hne : a ≠ x := by have := h1 x hx; omega
      have := ih h2 hx (fun y hy => ho y (by simp [hy]))
      rw [List.filter_cons, List.filter_cons, ho a (by simp) hne]
      split
      · simp [this]
      · exact this
theorem cl_zero (s : ByteArray) : cl s 0 = 0 := by
  unfold cl
  rw [pos_zero, List.filter_eq_nil_iff.2]
  · rfl
  · intro b hb; simp; omega
theorem cl_step {s : ByteArray} {k : Nat} (hk : k < np s) : cl s (k + 1) = if pos s (k + 1) ∈ brk s then cl s k + 1 else cl s k := by
  have hp := pos_succ hk
  unfold cl
  split
  · rename_i hm
    refine filter_two (brk_sorted s) hm (by simp; omega) (by simp; omega) fun y hy hne => ?_
    rw [Bool.eq_iff_iff]
    simp only [Bool.and_eq_true, decide_eq_true_eq]
    constructor
    · rintro ⟨h1, h2⟩
      refine ⟨h1, Classical.byContradiction fun h3 => hne (brk_at hy hk (by omega) h2)⟩
    · rintro ⟨h1, h2⟩
      exact ⟨h1, by omega⟩
  · rename_i hm
    congr 1
    refine filter_congr_mem fun y hy => ?_
    rw [Bool.eq_iff_iff]
    simp only [Bool.and_eq_true, decide_eq_true_eq]
    constructor
    · rintro ⟨h1, h2⟩
      refine ⟨h1, Classical.byContradiction fun h3 => ?_⟩
      have := brk_at hy hk (by omega) h2
      rw [this] at hy; exact hm hy
    · rintro ⟨h1, h2⟩
      exact ⟨h1, by omega⟩
theorem cl_mono {s : ByteArray} {i j : Nat} (h : i ≤ j) (hj : j ≤ np s) : cl s i ≤ cl s j := by
  induction j with
  | zero => have : i = 0 := by omega
            subst this; exact Nat.le_refl _
  | succ j ih =>
    by_cases e : i = j + 1
    · subst e; exact Nat.le_refl _
    · have := ih (by omega) (by omega)
      rw [cl_step (by omega)]
      split <;> omega
theorem cl_le {s : ByteArray} : ∀ k, k ≤ np s → cl s k ≤ k
  | 0, _ => by rw [cl_zero]; exact Nat.le_refl _
  | k + 1, hk => by
    have := cl_le (s := s) k (by omega)
    rw [cl_step (by omega)]
    split <;> omega
/-- The number of the clump that ends at a place; 0: none does. -/
def clE (s : ByteArray) (b : Nat) : Nat := if 0 < b ∧ b ∈ brk s then ((brk s).filter fun c => decide (0 < c) && decide (c ≤ b)).length else 0
theorem cl_max {s : ByteArray} {k : Nat} (hk : k < np s) : cl s (k + 1) = max (cl s k) (clE s (pos s (k + 1))) := by
  have hp := pos_succ hk
  have hs := cl_step hk
  unfold clE
  by_cases hm : pos s (k + 1) ∈ brk s
  · rw [if_pos ⟨by omega, hm⟩]
    rw [if_pos hm] at hs
    show _ = max _ (cl s (k + 1))
    omega
  · rw [if_neg (fun h => hm h.2)]
    rw [if_neg hm] at hs
    omega

/-! ### lines -/
/-- Where lines begin, up to place k. -/
def sts (s : ByteArray) : Nat → List Nat
  | 0 => [0]
  | k + 1 => if endP s k = true then sts s k ++ [k + 1] else sts s k
theorem sts_len (s : ByteArray) : ∀ k, (sts s k).length = ln s k
  | 0 => rfl
  | k + 1 => by
    have := sts_len s k
    unfold sts ln
    split
    · simp [this]
    · exact this
theorem sts_le (s : ByteArray) : ∀ k, ∀ a ∈ sts s k, a ≤ k
  | 0, a, h => by simp [sts] at h; omega
  | k + 1, a, h => by
    unfold sts at h
    split at h
    · rcases List.mem_append.1 h with h | h
      · have := sts_le s k a h; omega
      · simp at h; omega
    · have := sts_le s k a h; omega
theorem sts_more (s : ByteArray) (k : Nat) : ∀ m, ∃ R, sts s (k + m) = sts s k ++ R ∧ ∀ a ∈ R, k < a
  | 0 => ⟨[], by simp, by simp⟩
  | m + 1 => by
    obtain ⟨R, h1, h2⟩ := sts_more s k m
    rw [← Nat.add_assoc]
    show ∃ R, (if endP s (k + m) = true then sts s (k + m) ++ [k + m + 1] else sts s (k + m)) = _ ∧ _
    split
    · refine ⟨R ++ [k + m + 1], by rw [h1, List.append_assoc], fun a ha => ?_⟩
      rcases List.mem_append.1 ha with ha | ha
      · exact h2 a ha
      · simp at ha; omega
    · exact ⟨R, h1, h2⟩
/-- Where all lines begin. -/
def lns (s : ByteArray) : List Nat := sts s (np s)
theorem lns_len (s : ByteArray) : (lns s).length = ln s (np s) := sts_len _ _
theorem st_le {s : ByteArray} {j a k : Nat} (hk : k ≤ np s) (h : (lns s)[j]? = some a) : a ≤ k ↔ j < ln s k := by
  obtain ⟨R, h1, h2⟩ := sts_more s k (np s - k)
  rw [show k + (np s - k) = np s by omega] at h1
  unfold lns at h
  rw [h1] at h
  rw [← sts_len s k]
  by_cases hj : j < (sts s k).length
  · rw [List.getElem?_append_left hj] at h
    have := sts_le s k a (List.mem_of_getElem? h)
    exact ⟨fun _ => hj, fun _ => this⟩
  · rw [List.getElem?_append_right (by omega)] at h
    have := h2 a (List.mem_of_getElem? h)
    exact ⟨fun _ => by omega, fun h => absurd h hj⟩
theorem st_np {s : ByteArray} {j a : Nat} (h : (lns s)[j]? = some a) : a ≤ np s := sts_le s _ a (List.mem_of_getElem? h)
/-- Where the line behind begins; one beyond the end, if there is none. -/
def nx (s : ByteArray) (j : Nat) : Nat := (lns s)[j + 1]?.getD (np s + 1)
theorem nx_le (s : ByteArray) (j : Nat) : nx s j ≤ np s + 1 := by
  unfold nx
  cases h : (lns s)[j + 1]? with
  | none => exact Nat.le_refl _
  | some b => have := st_np h; show b ≤ _; omega
theorem line_is {s : ByteArray} {j a k : Nat} (hk : k ≤ np s) (h : (lns s)[j]? = some a) : (j + 1 < ln s k ↔ nx s j ≤ k) ∧ (ln s k = j + 1 ↔ a ≤ k ∧ k < nx s j) ∧ a < nx s j := by
  have h1 := st_le hk h
  have hj : j < (lns s).length := (List.getElem?_eq_some_iff.1 h).1
  have ha := st_np h
  rw [lns_len] at hj
  unfold nx
  cases hn : (lns s)[j + 1]? with
  | none =>
    have hl := List.getElem?_eq_none_iff.1 hn
    rw [lns_len] at hl
    have := ln_mono s hk
    show (_ ↔ np s + 1 ≤ k) ∧ (_ ↔ _ ∧ k < np s + 1) ∧ a < np s + 1
    omega
  | some b =>
    have h2 := st_le hk hn
    have h3 := st_le (k := a) ha h
    have h4 := st_le (k := a) ha hn
    have h5 := st_le (k := b) (st_np hn) h
    have h6 := st_le (k := b) (st_np hn) hn
    show (_ ↔ b ≤ k) ∧ (_ ↔ _ ∧ k < b) ∧ a < b
    refine ⟨by omega, by omega, ?_⟩
    refine Classical.byContradiction fun hge => ?_
    have h7 := st_le (k := b) (st_np hn) h
    have hs : ∀ k, (sts s k).Pairwise (· < ·) := by
      intro k
      induction k with
      | zero => simp [sts]
      | succ k ih =>
        unfold sts
        split
        · refine List.pairwise_append.2 ⟨ih, by simp, fun x hx y hy => ?_⟩
          have := sts_le s k x hx
          simp at hy; omega
        · exact ih
    have hp := List.pairwise_iff_getElem.1 (hs (np s))
    obtain ⟨e1, e2⟩ := List.getElem?_eq_some_iff.1 h
    obtain ⟨e3, e4⟩ := List.getElem?_eq_some_iff.1 hn
    have := hp j (j + 1) e1 e3 (by omega)
    unfold lns at e2 e4
    omega
theorem sl_is {s : ByteArray} : ∀ k, k ≤ np s → (lns s)[ln s k - 1]? = some (sl s k) := by
  intro k hk
  obtain ⟨R, h1, _⟩ := sts_more s k (np s - k)
  rw [show k + (np s - k) = np s by omega] at h1
  unfold lns
  have key : ∀ k, (sts s k)[ln s k - 1]? = some (sl s k) := by
    intro k
    induction k with
    | zero => rfl
    | succ k ih =>
      have hl := sts_len s k
      have hp := ln_pos s k
      unfold sts ln sl
      split
      · rw [List.getElem?_append_right (by omega), hl]
        simp
      · exact ih
  have hl := sts_len s k
  have hp := ln_pos s k
  rw [h1, List.getElem?_append_left (by omega)]
  exact key k
theorem co_is {s : ByteArray} {j a k : Nat} (hk : k ≤ np s) (h : (lns s)[j]? = some a) (h1 : a ≤ k) (h2 : k < nx s j) : co s k = k - a + 1 := by
  have h3 := ((line_is hk h).2.1).2 ⟨h1, h2⟩
  have h4 := sl_is k hk
  rw [h3, Nat.add_sub_cancel, h] at h4
  simp at h4
  unfold co
  rw [← h4]
/-- Behind the last piece of a line stands the next one. -/
theorem end_of_nx {s : ByteArray} {j a : Nat} (h : (lns s)[j]? = some a) (hn : nx s j ≤ np s) : endP s (nx s j - 1) = true := by
  obtain ⟨h1, h2, h3⟩ := line_is hn h
  obtain ⟨g1, g2, _⟩ := line_is (k := nx s j - 1) (by omega) h
  obtain ⟨m, hm⟩ : ∃ m, nx s j = m + 1 := ⟨nx s j - 1, by omega⟩
  rw [hm] at h1 h2 g1 g2 ⊢
  rw [Nat.add_sub_cancel] at g1 g2 ⊢
  refine Classical.byContradiction fun hc => ?_
  have : ln s (m + 1) = ln s m := by
    show (if endP s m = true then _ else _) = _
    rw [if_neg hc]
  omega
theorem no_end {s : ByteArray} {j a k : Nat} (h : (lns s)[j]? = some a) (h1 : a ≤ k) (h2 : k + 1 < nx s j) : endP s k = false := by
  have hn := nx_le s j
  refine Bool.eq_false_iff.2 fun hc => ?_
  have e1 := ((line_is (k := k) (by omega) h).2.1).2 ⟨h1, by omega⟩
  have e2 := ((line_is (k := k + 1) (by omega) h).2.1).2 ⟨by omega, h2⟩
  have : ln s (k + 1) = ln s k + 1 := by
    show (if endP s k = true then _ else _) = _
    rw [if_pos hc]
  omega
end Go.Proofs.Ytodbjehggkdjaaa
namespace Go.Proofs.Ytodbjehggkdjaaa
set_option linter.unusedVariables false
set_option linter.unusedSimpArgs false

/-! ### a line's pieces -/
theorem part_cut {s : ByteArray} {a b : Nat} (hab : a ≤ b) (hb : b ≤ np s) :
    np (s.extract (pos s a) (pos s b)) = b - a ∧ ∀ i, i < b - a → rn (s.extract (pos s a) (pos s b)) i = rn s (a + i) := by
  have hpa := pos_le s a
  have hpb := pos_le s b
  have hle : pos s a ≤ pos s b := by
    by_cases e : a = b
    · subst e; exact Nat.le_refl _
    · have := pos_mono (s := s) (i := a) (j := b) (by omega) hb; omega
  have h1 := cut_suf s (pos s a) hpa _ 0 (Nat.le_refl _)
  rw [Nat.add_zero] at h1
  have hat := at_pos (s := s) (k := a) (by omega)
  have h2 := hat.cut
  have h3 : cut s (pos s a) = (cut s 0).drop a := by
    have e : (cut s 0).drop a = ((cut s 0).take a ++ cut s (pos s a)).drop a := by rw [← h2]
    rw [e, List.drop_left' (by rw [List.length_take]; unfold np at hb; omega)]
  obtain ⟨y, hy⟩ : ∃ y, y = s.extract (pos s a) s.size := ⟨_, rfl⟩
  have hyz : y.size = s.size - pos s a := by rw [hy]; exact size_tail s _ hpa
  rw [← hy] at h1
  have hnp : np y = np s - a := by
    have := congrArg List.length (h1.trans h3)
    rw [List.length_map, List.length_drop] at this
    exact this
  have hpos : ∀ i, i ≤ np s - a → pos s a + pos y i = pos s (a + i) := by
    intro i hi
    by_cases hlt : i < np s - a
    · have e1 : (cut y 0)[i]? = some (pos y i) := pos_get (by omega)
      have e2 : (cut s 0)[a + i]? = some (pos s (a + i)) := pos_get (by omega)
      have e3 : ((cut y 0).map (pos s a + ·))[i]? = ((cut s 0).drop a)[i]? := by rw [h1, h3]
      rw [List.getElem?_map, e1, List.getElem?_drop, e2] at e3
      simpa using e3
    · have e : i = np s - a := by omega
      subst e
      rw [pos_end (s := y) (by omega), show a + (np s - a) = np s by omega, pos_np, hyz]
      omega
  have hrn : ∀ i, i < np s - a → rn y i = rn s (a + i) := by
    intro i hi
    unfold rn
    rw [hy, dec_suf s _ _ hpa, ← hy, hpos i (by omega)]
  have hq : pos y (b - a) = pos s b - pos s a := by have := hpos (b - a) (by omega); rw [show a + (b - a) = b by omega] at this; omega
  have hx : s.extract (pos s a) (pos s b) = y.extract 0 (pos s b - pos s a) := by
    rw [hy, ext_mid s _ _ (by omega)]
    congr 1; omega
  rw [hx, ← hq]
  have hay := at_pos (s := y) (k := b - a) (by omega)
  have hc := cut_pre hay
  have hn : np (y.extract 0 (pos y (b - a))) = b - a := by
    have h5 : (cut y 0).length = np s - a := hnp
    unfold np; rw [hc, List.length_take]; omega
  refine ⟨hn, fun i hi => ?_⟩
  rw [← hrn i (by omega)]
  have e1 : pos (y.extract 0 (pos y (b - a))) i = pos y i := by
    have g1 := pos_get (s := y.extract 0 (pos y (b - a))) (k := i) (by omega)
    have g2 := pos_get (s := y) (k := i) (by omega)
    rw [hc, List.getElem?_take, if_pos hi, g2] at g1
    simpa using g1.symm
  unfold rn
  rw [e1]
  have hs := pos_step (s := y) (k := i) (by omega)
  have hm : pos y (i + 1) ≤ pos y (b - a) := by
    by_cases e : i + 1 = b - a
    · rw [e]; exact Nat.le_refl _
    · have := pos_mono (s := y) (i := i + 1) (j := b - a) (by omega) (by omega); omega
  rw [dec_pre (s := y) (i := pos y i) (p := pos y (b - a)) (by omega) (pos_le y _) (pos_lt (by omega))]

/-! ### columns -/
/-- How far the columns of a line go (0: only the first one): up to its end. -/
def cw (s : ByteArray) (j a : Nat) : Nat :=
  if nx s j = np s + 1 then np s - a
  else if a < nx s j - 1 ∧ rn s (nx s j - 1) = 10 ∧ rn s (nx s j - 2) = 13 then nx s j - 2 - a else nx s j - 1 - a
theorem cw_lt {s : ByteArray} {j a : Nat} (h : (lns s)[j]? = some a) : a + cw s j a < nx s j := by
  have h3 := (line_is (k := a) (st_np h) h).2.2
  have := st_np h
  unfold cw
  repeat' split
  all_goals omega
/-- The same, as the reference counts: pieces of the line's text, without its end. -/
def cwR (n : Nat) (r : Nat → Nat) : Nat :=
  if 0 < n ∧ (r (n - 1) = 10 ∨ r (n - 1) = 13) then (if 0 < n - 1 ∧ r (n - 1) = 10 ∧ r (n - 2) = 13 then n - 2 else n - 1) else n
theorem cw_eq {s : ByteArray} {j a : Nat} (h : (lns s)[j]? = some a) : cwR (min (nx s j) (np s) - a) (fun i => rn s (a + i)) = cw s j a := by
  have h3 := (line_is (k := a) (st_np h) h).2.2
  have hnp := st_np h
  have hn := nx_le s j
  unfold cwR cw
  by_cases hl : nx s j = np s + 1
  · rw [if_pos hl]
    have e : min (nx s j) (np s) - a = np s - a := by omega
    rw [e]
    by_cases h0 : 0 < np s - a
    · have he := no_end h (k := np s - 1) (by omega) (by omega)
      rw [if_neg]
      rintro ⟨_, hr⟩
      simp only [show a + (np s - a - 1) = np s - 1 by omega] at hr
      unfold endP at he
      rw [show np s - 1 + 1 = np s by omega] at he
      rcases hr with hr | hr <;> simp [hr] at he
    · rw [if_neg (fun h => h0 h.1)]
  · rw [if_neg hl]
    have he := end_of_nx h (by omega)
    have e : min (nx s j) (np s) - a = nx s j - a := by omega
    rw [e]
    have hr : rn s (nx s j - 1) = 10 ∨ rn s (nx s j - 1) = 13 := by
      unfold endP at he
      simp only [Bool.or_eq_true, Bool.and_eq_true, decide_eq_true_eq] at he
      rcases he with he | ⟨he, _⟩
      · exact .inl he
      · exact .inr he
    simp only [show a + (nx s j - a - 1) = nx s j - 1 by omega]
    rw [if_pos ⟨by omega, hr⟩]
    by_cases h2 : a < nx s j - 1
    · simp only [show a + (nx s j - a - 2) = nx s j - 2 by omega]
      by_cases hc : rn s (nx s j - 1) = 10 ∧ rn s (nx s j - 2) = 13
      · rw [if_pos ⟨by omega, hc⟩, if_pos ⟨h2, hc⟩]; omega
      · rw [if_neg (fun h => hc h.2), if_neg (fun h => hc h.2)]; omega
    · rw [if_neg (fun h => h2 (by omega)), if_neg (fun h => h2 h.1)]; omega

/-! ### the first of a rising row -/
/-- The first k up to n of which f says at least x. -/
def fst (f : Nat → Nat) (x : Int) : Nat → Nat
  | 0 => 0
  | n + 1 => if x ≤ (f (fst f x n) : Int) then fst f x n else n + 1
theorem fst_le (f : Nat → Nat) (x : Int) : ∀ n, fst f x n ≤ n
  | 0 => Nat.le_refl _
  | n + 1 => by have := fst_le f x n; unfold fst; split <;> omega
theorem fst_is {f : Nat → Nat} {x : Int} : ∀ {n : Nat}, (∀ i j, i ≤ j → j ≤ n → f i ≤ f j) → x ≤ f n → x ≤ f (fst f x n) ∧ ∀ i, i < fst f x n → (f i : Int) < x
  | 0, _, h => ⟨h, fun i hi => absurd hi (Nat.not_lt_zero _)⟩
  | n + 1, hm, h => by
    by_cases hn : x ≤ f n
    · obtain ⟨h1, h2⟩ := fst_is (n := n) (fun i j hij hj => hm i j hij (by omega)) hn
      unfold fst
      rw [if_pos h1]; exact ⟨h1, h2⟩
    · have hlt : ∀ i, i ≤ n → (f i : Int) < x := fun i hi => by have := hm i n hi (by omega); omega
      unfold fst
      rw [if_neg (by have := hlt _ (fst_le f x n); omega)]
      exact ⟨h, fun i hi => hlt i (by omega)⟩
/-- What is first by both counts is one. -/
theorem fst_uniq {f : Nat → Nat} {x : Int} {n k : Nat} (hm : ∀ i j, i ≤ j → j ≤ n → f i ≤ f j) (hk : k ≤ n) (h1 : x ≤ f k) (h2 : ∀ i, i < k → (f i : Int) < x) : fst f x n = k := by
  have hn : x ≤ f n := by have := hm k n hk (Nat.le_refl _); omega
  obtain ⟨g1, g2⟩ := fst_is hm hn
  have hl := fst_le f x n
  rcases Nat.lt_trichotomy (fst f x n) k with h | h | h
  · have := h2 _ h; omega
  · exact h
  · have := g2 _ h; omega

/-- A unit's number of a place. -/
def cnt (s : ByteArray) (u : Int) (k : Nat) : Nat := if u = 1 then pos s k else if u = 2 then k else if u = 3 then un s k else cl s k
theorem cnt_mono (s : ByteArray) (u : Int) : ∀ i j, i ≤ j → j ≤ np s → cnt s u i ≤ cnt s u j := by
  intro i j h hj
  by_cases e : i = j
  · subst e; exact Nat.le_refl _
  have h1 := pos_mono (s := s) (i := i) (j := j) (by omega) hj
  have h2 := un_mono s (i := i) (j := j) (by omega)
  have h3 := cl_mono h hj
  unfold cnt
  repeat' split
  all_goals omega
theorem cnt_le (s : ByteArray) (u : Int) {k : Nat} (hk : k ≤ np s) : cnt s u k ≤ s.size := by
  have h1 := pos_le s k
  have h2 := np_le s
  have h3 := un_le s k hk
  have h4 := cl_le k hk
  unfold cnt
  repeat' split
  all_goals omega
/-- A unit whose numbers have no gaps. -/
theorem cnt_full {s : ByteArray} {u x : Int} (hu : u ≠ 1) (hu3 : u ≠ 3) (h0 : 0 ≤ x) (hx : x ≤ cnt s u (np s)) : (cnt s u (fst (cnt s u) x (np s)) : Int) = x := by
  obtain ⟨h1, h2⟩ := fst_is (cnt_mono s u) hx
  have hl := fst_le (cnt s u) x (np s)
  cases hk : fst (cnt s u) x (np s) with
  | zero =>
    rw [hk] at h1
    have : cnt s u 0 = 0 := by
      unfold cnt
      rw [if_neg hu, if_neg hu3]
      split
      · rfl
      · exact cl_zero s
    omega
  | succ k =>
    rw [hk] at h1 h2 hl
    have h3 := h2 k (by omega)
    have h4 : cnt s u (k + 1) ≤ cnt s u k + 1 := by
      unfold cnt
      rw [if_neg hu, if_neg hu3, if_neg hu, if_neg hu3]
      split
      · omega
      · rw [cl_step (by omega)]
        split <;> omega
    omega

/-! ### values -/
def spV (s : ByteArray) (k : Nat) : Array Value := #[.int .i64 (pos s k : Nat), .int .i64 (k : Nat), .int .i64 (un s k : Nat), .int .i64 (cl s k : Nat), .int .i64 (ln s k : Nat), .int .i64 (co s k : Nat)]
def noSp : Array Value := #[.int .i64 0, .int .i64 0, .int .i64 0, .int .i64 0, .int .i64 0, .int .i64 0]
/-- What At answers: the place (none: the zero spot), and the error. -/
def atR (s : ByteArray) (u x : Int) : Option Nat × Int :=
  if u < 1 ∨ 4 < u then (none, 1) else if x < 0 ∨ (cnt s u (np s) : Int) < x then (none, 3)
  else if (cnt s u (fst (cnt s u) x (np s)) : Int) = x then (some (fst (cnt s u) x (np s)), 0) else (none, 4)
def spO (s : ByteArray) : Option Nat → Array Value
  | none => noSp
  | some k => spV s k
/-- What Cell answers. -/
def cellR (s : ByteArray) (l c : Int) : Option Nat × Int :=
  if l < 1 ∨ (ln s (np s) : Int) < l then (none, 3)
  else if c < 1 ∨ (cw s (l.toNat - 1) (sl0 s (l.toNat - 1)) : Int) + 1 < c then (none, 3) else (some (sl0 s (l.toNat - 1) + c.toNat - 1), 0)
where sl0 (s : ByteArray) (j : Nat) : Nat := (lns s)[j]?.getD 0
/-- What Line answers. -/
def lineR (s : ByteArray) (l : Int) : ByteArray × Int :=
  if l < 1 ∨ (ln s (np s) : Int) < l then (⟨#[]⟩, 3) else (s.extract (pos s (cellR.sl0 s (l.toNat - 1))) (pos s (nx s (l.toNat - 1))), 0)
def lenR (s : ByteArray) (u : Int) : Int × Int := if u < 1 ∨ 4 < u then (0, 1) else ((cnt s u (np s) : Nat), 0)
theorem lns_at {s : ByteArray} {j : Nat} (h : j < ln s (np s)) : (lns s)[j]? = some (cellR.sl0 s j) := by
  unfold cellR.sl0
  rw [List.getElem?_eq_getElem (by rw [lns_len]; exact h)]; rfl
end Go.Proofs.Ytodbjehggkdjaaa
namespace Go.Proofs.Ytodbjehggkdjaaa
open Go.RowKit
set_option linter.unusedVariables false
set_option linter.unusedSimpArgs false

/-- The cells of a text's first spots. -/
def spCells (s : ByteArray) : Nat → List Value
  | 0 => []
  | m + 1 => spCells s m ++ (spV s m).toList
theorem spCells_len (s : ByteArray) : ∀ m, (spCells s m).length = m * 6
  | 0 => rfl
  | m + 1 => by unfold spCells; rw [List.length_append, spCells_len s m]; simp [spV]; omega
theorem spCells_at (s : ByteArray) : ∀ (m k j : Nat), k < m → j < 6 → (spCells s m)[k * 6 + j]? = (spV s k)[j]?
  | 0, k, j, hk, _ => absurd hk (Nat.not_lt_zero _)
  | m + 1, k, j, hk, hj => by
    have hl := spCells_len s m
    unfold spCells
    by_cases e : k = m
    · subst e
      rw [List.getElem?_append_right (by omega), hl, show k * 6 + j - k * 6 = j by omega]
      simp
    · rw [List.getElem?_append_left (by omega)]
      exact spCells_at s m k j (by omega) hj
/-- The spots of a text, in memory. -/
def SpAt (W : World) (v : Value) (s : ByteArray) (m : Nat) : Prop := SlAt W v m (spCells s m)
theorem SpAt.cells {W : World} {v : Value} {s : ByteArray} {m : Nat} (h : SpAt W v s m) (hm : m ≠ 0) : ∃ b off cap, v = .slice (some ⟨b, off, none⟩) m cap ∧
    ∀ k, k < m → W.cell? ⟨b, off + k * 6, none⟩ = some (.int .i64 (pos s k : Nat)) ∧ W.cell? ⟨b, off + k * 6 + 1, none⟩ = some (.int .i64 (k : Nat)) ∧ W.cell? ⟨b, off + k * 6 + 2, none⟩ = some (.int .i64 (un s k : Nat)) ∧
      W.cell? ⟨b, off + k * 6 + 3, none⟩ = some (.int .i64 (cl s k : Nat)) ∧ W.cell? ⟨b, off + k * 6 + 4, none⟩ = some (.int .i64 (ln s k : Nat)) ∧ W.cell? ⟨b, off + k * 6 + 5, none⟩ = some (.int .i64 (co s k : Nat)) := by
  obtain ⟨b, off, cap, rfl, hc⟩ := SlAt.at_ h hm
  refine ⟨b, off, cap, rfl, fun k hk => ?_⟩
  have f := fun j u (hj : j < 6) (hu : (spV s k)[j]? = some u) => hc (k * 6 + j) u ((spCells_at s m k j hk hj).trans hu)
  exact ⟨f 0 _ (by decide) rfl, f 1 _ (by decide) rfl, f 2 _ (by decide) rfl, f 3 _ (by decide) rfl, f 4 _ (by decide) rfl, f 5 _ (by decide) rfl⟩

/-- A Map of a text. -/
def MapAt (W : World) (mb : Nat) (s : ByteArray) : Prop :=
  ∃ vs vl, W.heap[mb]? = some (.cells #[.string s, vs, vl] 39 (0, 0)) ∧
    ((s.size = 0 ∧ vs = .slice none 0 0 ∧ vl = .slice none 0 0) ∨
     (SpAt W vs s (np s + 1) ∧ SlAt W vl (ln s (np s)) (ints (lns s))))
theorem MapAt.keep {W W' : World} {mb : Nat} {s : ByteArray} (h : MapAt W mb s) (k : Keep [] W W') : MapAt W' mb s := by
  obtain ⟨vs, vl, h1, h2⟩ := h
  refine ⟨vs, vl, k.at_ h1 (by simp), ?_⟩
  rcases h2 with h2 | ⟨h2, h3⟩
  · exact .inl h2
  · exact .inr ⟨h2.keep0 k, h3.keep0 k⟩
theorem empty_np {s : ByteArray} (h : s.size = 0) : np s = 0 := by have := np_le s; omega
theorem sl_some {W : World} {v : Value} {n : Nat} {cs : List Value} (h : SlAt W v n cs) (hn : n ≠ 0) : ∃ b off cap, v = .slice (some ⟨b, off, none⟩) n cap := by
  obtain ⟨b, off, cap, rfl, _⟩ := h.at_ hn
  exact ⟨b, off, cap, rfl⟩

set_option maxHeartbeats 4000000 in
theorem mall_any (mb : Nat) (s : ByteArray) (w : World) (h : MapAt w mb s) :
    Calls Try.prog 26 #[.pointer (some ⟨mb, 0, none⟩)] w fun e w' => ∃ b off cap, e = .returned (.slice (some ⟨b, off, none⟩) (np s + 1) cap) ∧ SpAt w' (.slice (some ⟨b, off, none⟩) (np s + 1) cap) s (np s + 1) ∧ Keep [] w w' := by
  obtain ⟨vs, vl, h1, h2⟩ := h
  have c1 : w.cell? ⟨mb, 1, none⟩ = some vs := by rw [cell_of_block h1]; rfl
  clear h1
  rcases h2 with ⟨h0, rfl, rfl⟩ | ⟨h2, h3⟩
  · have hn := empty_np h0
    have HN := Lib.hid hn
    have hsp : spCells s 1 = [.int .i64 0, .int .i64 0, .int .i64 0, .int .i64 0, .int .i64 1, .int .i64 1] := by
      show [] ++ (spV s 0).toList = _
      unfold spV
      rw [pos_zero, cl_zero]
      rfl
    have HSP := Lib.hid hsp
    have hne : ∀ w, (binOp .eql 36 (.slice none 0 0) (.slice none 0 0)).run Try.prog w = .ok (.bool true) w := fun w => Lib.run_eql_slice_nil (P := Try.prog) w _ _ _ _ _ _ _ Try.underlying36
    clear hn hsp h0
    go_enter Try.func26, Try.ntmps26
    go_wp2
    go_ret
    rw [HN.out]
    refine ⟨_, _, _, rfl, ⟨_, _, rfl, ⟨fun h => (by omega), fun h => by cases h⟩, fun _ => ⟨_, _, rfl, fun i u hu => ?_⟩⟩, (Keep.refl _ _).alloc _⟩
    rw [Nat.zero_add, HSP.out] at hu
    rw [Nat.zero_add, cell_of_block (World.alloc_heap_new w _)]
    simpa using hu
  · obtain ⟨b, off, cap, rfl⟩ := sl_some h2 (by omega)
    have H2 := Lib.hid h2
    have hne : ∀ w, (binOp .eql 36 (.slice (some ⟨b, off, none⟩) (np s + 1) cap) (.slice none 0 0)).run Try.prog w = .ok (.bool false) w := fun w => Lib.run_eql_slice_nil (P := Try.prog) w _ _ _ _ _ _ _ Try.underlying36
    clear h2 h3
    go_enter Try.func26, Try.ntmps26
    go_wp2
    go_ret
    exact ⟨_, _, _, rfl, H2.out, Keep.refl _ _⟩

set_option maxHeartbeats 4000000 in
theorem starts_any (mb : Nat) (s : ByteArray) (w : World) (h : MapAt w mb s) :
    Calls Try.prog 33 #[.pointer (some ⟨mb, 0, none⟩)] w fun e w' => ∃ b off cap, e = .returned (.slice (some ⟨b, off, none⟩) (ln s (np s)) cap) ∧ SlAt w' (.slice (some ⟨b, off, none⟩) (ln s (np s)) cap) (ln s (np s)) (ints (lns s)) ∧ Keep [] w w' := by
  obtain ⟨vs, vl, h1, h2⟩ := h
  have c1 : w.cell? ⟨mb, 2, none⟩ = some vl := by rw [cell_of_block h1]; rfl
  clear h1
  rcases h2 with ⟨h0, rfl, rfl⟩ | ⟨h2, h3⟩
  · have hn := empty_np h0
    have hl : ln s (np s) = 1 := by rw [hn]; rfl
    have hs : ints (lns s) = [.int .i64 0] := by unfold lns; rw [hn]; rfl
    have HL := Lib.hid hl; have HS := Lib.hid hs
    have hne : ∀ w, (binOp .eql 37 (.slice none 0 0) (.slice none 0 0)).run Try.prog w = .ok (.bool true) w := fun w => Lib.run_eql_slice_nil (P := Try.prog) w _ _ _ _ _ _ _ Try.underlying37
    clear hn hl hs h0
    go_enter Try.func33, Try.ntmps33
    go_wp2
    go_ret
    rw [HL.out, HS.out]
    refine ⟨_, _, _, rfl, ⟨_, _, rfl, ⟨fun h => (by omega), fun h => by cases h⟩, fun _ => ⟨_, _, rfl, fun i u hu => ?_⟩⟩, (Keep.refl _ _).alloc _⟩
    rw [Nat.zero_add, cell_of_block (World.alloc_heap_new w _)]
    simpa using hu
  · have hp := ln_pos s (np s)
    obtain ⟨b, off, cap, rfl⟩ := sl_some h3 (by omega)
    have H3 := Lib.hid h3
    have hne : ∀ w, (binOp .eql 37 (.slice (some ⟨b, off, none⟩) (ln s (np s)) cap) (.slice none 0 0)).run Try.prog w = .ok (.bool false) w := fun w => Lib.run_eql_slice_nil (P := Try.prog) w _ _ _ _ _ _ _ Try.underlying37
    clear h2 h3
    go_enter Try.func33, Try.ntmps33
    go_wp2
    go_ret
    exact ⟨_, _, _, rfl, H3.out, Keep.refl _ _⟩
end Go.Proofs.Ytodbjehggkdjaaa
