/-
  Breaks of a text: plain.
-/
import Derived.Test.YthbcancckogloaaClmP
namespace Go.Proofs.Ythbcancckogloaa
set_option linter.unusedVariables false
set_option linter.unusedSimpArgs false

/-! ### parts of texts -/
theorem RuneAt.move {s t : ByteArray} {i j r n : Nat} (h : RuneAt s i r n) (hj : j + n ≤ t.size) (hb : ∀ k, k < n → byt t (j + k) = byt s (i + k)) : RuneAt t j r n := by
  obtain ⟨hs, h⟩ := h
  refine ⟨hj, ?_⟩
  have e0 := hb 0
  have e1 := hb 1
  have e2 := hb 2
  have e3 := hb 3
  simp only [Nat.add_zero] at e0
  rcases h with ⟨rfl, h1, h2⟩ | ⟨rfl, h1, h2, h3, h4⟩ | ⟨rfl, h1, h2, h3, h4, h5, h6, h7⟩ | ⟨rfl, h1, h2, h3, h4, h5, h6, h7, h8⟩
  · rw [e0 (by omega)]; exact .inl ⟨rfl, h1, h2⟩
  · rw [e0 (by omega), e1 (by omega)]; exact .inr (.inl ⟨rfl, h1, h2, h3, h4⟩)
  · rw [e0 (by omega), e1 (by omega), e2 (by omega)]; exact .inr (.inr (.inl ⟨rfl, h1, h2, h3, h4, h5, h6, h7⟩))
  · rw [e0 (by omega), e1 (by omega), e2 (by omega), e3 (by omega)]; exact .inr (.inr (.inr ⟨rfl, h1, h2, h3, h4, h5, h6, h7, h8⟩))
/-- Where two texts agree on the bytes of a piece, and where no rune of the one leaps over what they share. -/
theorem dec_same {s t : ByteArray} {i j m : Nat} (hi : i < s.size) (hj : j < t.size) (hm : (dec s i).2 ≤ m) (hs : i + m ≤ s.size) (ht : j + m ≤ t.size) (hb : ∀ k, k < m → byt t (j + k) = byt s (i + k))
    (hno : j + wid t j ≤ j + m) : dec t j = dec s i := by
  rcases rune_or s i hi with hr | ⟨hd, hw⟩
  · have h2 := hr.move (t := t) (j := j) (by omega) (fun k hk => hb k (by omega))
    rw [h2.dec]
  · rw [hd]
    rcases rune_or t j hj with hr | ⟨hd', _⟩
    · have h4 := hr.n4
      have hw2 := hr.wid
      rw [hw2] at hno
      have h2 := hr.move (t := s) (j := i) (by omega) (fun k hk => (hb k (by omega)).symm)
      have := h2.wid
      omega
    · exact hd'
theorem dec_pre {s : ByteArray} {i p : Nat} (hi : i + (dec s i).2 ≤ p) (hp : p ≤ s.size) (h0 : i < s.size) : dec (s.extract 0 p) i = dec s i := by
  have hn := dec_n h0
  have hz := size_ext s 0 p hp
  refine dec_same (m := p - i) h0 (by omega) (by omega) (by omega) (by omega) (fun k hk => ?_) ?_
  · rw [byt_extract s 0 p _ (by omega) hp, Nat.zero_add]
  · have := wid_n (s := s.extract 0 p) (i := i) (by omega)
    omega
theorem at_pre {s : ByteArray} {l : List Nat} {i p : Nat} (h : At s l i) (hi : i ≤ p) (hp : p ≤ s.size) : At (s.extract 0 p) l i := by
  induction h with
  | zero => exact .zero
  | @step l i h h0 ih =>
    have hn := dec_n h0
    have hd := dec_pre hi hp h0
    have h2 := (ih (by omega)).step (by rw [size_ext _ _ _ hp]; omega)
    rwa [hd] at h2
theorem cut_pre {s : ByteArray} {l : List Nat} {p : Nat} (h : At s l p) : cut (s.extract 0 p) 0 = l := by
  have hp := h.le
  have h2 := at_pre h (Nat.le_refl _) hp
  exact (h2.done (by rw [size_ext _ _ _ hp]; omega)).1.symm
theorem At.uniq {s : ByteArray} {l l' : List Nat} {p : Nat} (h : At s l p) (h' : At s l' p) : l = l' := (cut_pre h).symm.trans (cut_pre h')
theorem At.dec_lt {s : ByteArray} {l : List Nat} {p : Nat} (h : At s l p) : ∀ j ∈ l, j < s.size ∧ j + (dec s j).2 ≤ p := by
  induction h with
  | zero => simp
  | @step l i h h0 ih =>
    have hn := dec_n h0
    intro j hj
    rcases List.mem_append.1 hj with hj | hj
    · have := ih j hj; omega
    · simp at hj; subst hj; exact ⟨h0, Nat.le_refl _⟩
theorem dec_suf (s : ByteArray) (p j : Nat) (hp : p ≤ s.size) : dec (s.extract p s.size) j = dec s (p + j) := by
  unfold dec
  rw [size_tail s p hp, byt_tail, byt_tail, byt_tail, byt_tail]
  rw [show s.size - p - j = s.size - (p + j) by omega]
  rfl
theorem cut_suf (s : ByteArray) (p : Nat) (hp : p ≤ s.size) : ∀ n j, s.size - p - j ≤ n → (cut (s.extract p s.size) j).map (p + ·) = cut s (p + j) := by
  intro n
  induction n with
  | zero => intro j hj; rw [cut_end (by rw [size_tail s p hp]; omega), cut_end (by omega)]; rfl
  | succ n ih =>
    intro j hj
    by_cases hlt : p + j < s.size
    · have hn := dec_n hlt
      rw [cut_step (by rw [size_tail s p hp]; omega), cut_step hlt, List.map_cons, dec_suf s p j hp, ih _ (by omega), Nat.add_assoc]
    · rw [cut_end (by rw [size_tail s p hp]; omega), cut_end hlt]; rfl
/-- The piece in which a byte lies. -/
theorem at_floor (s : ByteArray) (p : Nat) (hp : p ≤ s.size) : ∃ l i, At s l i ∧ i ≤ p ∧ (i = p ∨ (i < s.size ∧ p < i + (dec s i).2)) := by
  induction p with
  | zero => exact ⟨[], 0, .zero, Nat.le_refl _, .inl rfl⟩
  | succ p ih =>
    obtain ⟨l, i, h, hi, hc⟩ := ih (by omega)
    rcases hc with rfl | ⟨h0, hlt⟩
    · have h0 : i < s.size := by omega
      have hn := dec_n h0
      by_cases h1 : (dec s i).2 = 1
      · exact ⟨_, _, h.step h0, by omega, .inl (by omega)⟩
      · exact ⟨l, i, h, by omega, .inr ⟨h0, by omega⟩⟩
    · by_cases h1 : i + (dec s i).2 = p + 1
      · exact ⟨_, _, h.step h0, by omega, .inl h1⟩
      · exact ⟨l, i, h, by omega, .inr ⟨h0, by omega⟩⟩
/-- Where a piece begins: no rune leaps over it. -/
theorem at_iff (s : ByteArray) (p : Nat) (hp : p ≤ s.size) : (∃ l, At s l p) ↔ ∀ j, p ≤ j + 3 → j < p → j + wid s j ≤ p := by
  constructor
  · rintro ⟨l, h⟩ j _ hj
    exact h.over j hj
  · intro h
    obtain ⟨l, i, ha, hi, hc⟩ := at_floor s p hp
    by_cases hip : i = p
    · subst hip; exact ⟨l, ha⟩
    · obtain ⟨h0, hlt⟩ := hc.resolve_left hip
      have hn := dec_n h0
      have hw : wid s i = (dec s i).2 := by
        rcases rune_or s i h0 with hr | ⟨hd, _⟩
        · exact hr.wid
        · rw [hd] at hlt; simp at hlt; omega
      have := h i (by omega) (by omega)
      omega
theorem mem_cut {s : ByteArray} {p : Nat} : p ∈ cut s 0 ↔ (∃ l, At s l p) ∧ p < s.size := by
  constructor
  · intro h
    obtain ⟨k, hk, rfl⟩ := List.mem_iff_getElem.1 h
    obtain ⟨h1, h2⟩ := at_get s k hk
    exact ⟨⟨_, h1⟩, h2⟩
  · rintro ⟨⟨l, h⟩, hp⟩
    exact List.mem_of_getElem? (h.get hp)

/-! ### breaks -/
/-- The classes of a text's pieces, the last one first. -/
def ctxA (t : ByteArray) : List Int := ctx t (cut t 0)
/-- Is there a break ahead of the piece at a place? -/
def isb (s : ByteArray) (p : Nat) : Bool := bt (ctxA (s.extract 0 p)) (clsAt s p)
/-- All breaks of a text, rising. -/
def brk (s : ByteArray) : List Nat := if s.size = 0 then [0] else (cut s 0).filter (isb s) ++ [s.size]
theorem ctx_pre {s : ByteArray} {l : List Nat} {p : Nat} (h : At s l p) : ctxA (s.extract 0 p) = ctx s l := by
  unfold ctxA
  rw [cut_pre h]
  unfold ctx
  refine congrArg List.reverse (List.map_congr_left fun j hj => ?_)
  have := h.dec_lt j hj
  unfold clsAt
  rw [dec_pre this.2 h.le this.1]
theorem isb_at {s : ByteArray} {l : List Nat} {p : Nat} (h : At s l p) : isb s p = bt (ctx s l) (clsAt s p) := by unfold isb; rw [ctx_pre h]
theorem isb_zero (s : ByteArray) : isb s 0 = true := by rw [isb_at .zero]; simp [ctx, bt]
theorem cut_sorted (s : ByteArray) : ∀ n i, s.size - i ≤ n → (cut s i).Pairwise (· < ·) ∧ ∀ p ∈ cut s i, i ≤ p ∧ p < s.size := by
  intro n
  induction n with
  | zero => intro i hi; rw [cut_end (by omega)]; simp
  | succ n ih =>
    intro i hi
    by_cases hlt : i < s.size
    · have hn := dec_n hlt
      obtain ⟨h1, h2⟩ := ih (i + (dec s i).2) (by omega)
      rw [cut_step hlt]
      refine ⟨List.pairwise_cons.2 ⟨fun p hp => by have := h2 p hp; omega, h1⟩, fun p hp => ?_⟩
      rcases List.mem_cons.1 hp with rfl | hp
      · exact ⟨Nat.le_refl _, hlt⟩
      · have := h2 p hp; omega
    · rw [cut_end hlt]; simp
theorem brk_sorted (s : ByteArray) : (brk s).Pairwise (· < ·) := by
  unfold brk
  split
  · simp
  · obtain ⟨h1, h2⟩ := cut_sorted s s.size 0 (by omega)
    refine List.pairwise_append.2 ⟨h1.filter _, by simp, fun a ha b hb => ?_⟩
    simp at hb; subst hb
    exact (h2 a (List.mem_filter.1 ha).1).2
theorem mem_brk {s : ByteArray} {p : Nat} : p ∈ brk s ↔ p = 0 ∨ p = s.size ∨ (p < s.size ∧ ∃ l, At s l p ∧ bt (ctx s l) (clsAt s p) = true) := by
  unfold brk
  split
  · rename_i h
    simp only [List.mem_singleton]
    constructor
    · intro h; exact .inl h
    · rintro (h | h | ⟨h, _⟩) <;> omega
  · rename_i h
    rw [List.mem_append, List.mem_filter, mem_cut, List.mem_singleton]
    constructor
    · rintro (⟨⟨⟨l, h1⟩, h2⟩, h3⟩ | h1)
      · exact .inr (.inr ⟨h2, l, h1, by rw [← isb_at h1]; exact h3⟩)
      · exact .inr (.inl h1)
    · rintro (rfl | h1 | ⟨h2, l, h1, h3⟩)
      · exact .inl ⟨⟨⟨[], .zero⟩, by omega⟩, isb_zero s⟩
      · exact .inr h1
      · exact .inl ⟨⟨⟨l, h1⟩, h2⟩, by rw [isb_at h1]; exact h3⟩
theorem brk_le {s : ByteArray} {p : Nat} (h : p ∈ brk s) : p ≤ s.size := by
  rcases mem_brk.1 h with h | h | ⟨h, _⟩ <;> omega
theorem brk_zero (s : ByteArray) : 0 ∈ brk s := mem_brk.2 (.inl rfl)
theorem brk_size (s : ByteArray) : s.size ∈ brk s := mem_brk.2 (.inr (.inl rfl))

/-! ### Next, Prev -/
def nxtB (s : ByteArray) (at_ : Int) : Nat := ((brk s).find? (fun p : Nat => decide (at_ < (p : Int)))).getD s.size
def prvB (s : ByteArray) (at_ : Int) : Nat := ((brk s).reverse.find? (fun p : Nat => decide ((p : Int) < at_))).getD 0
theorem find_sorted {l : List Nat} {f : Nat → Bool} (h : l.Pairwise (· < ·)) {p : Nat} (hp : p ∈ l) (hf : f p = true) (hm : ∀ q ∈ l, f q = true → p ≤ q) : l.find? f = some p := by
  induction l with
  | nil => simp at hp
  | cons a l ih =>
    obtain ⟨h1, h2⟩ := List.pairwise_cons.1 h
    by_cases ha : f a = true
    · rw [List.find?_cons_of_pos ha]
      have := hm a (by simp) ha
      rcases List.mem_cons.1 hp with rfl | hp
      · rfl
      · have := h1 p hp; omega
    · rw [List.find?_cons_of_neg ha]
      rcases List.mem_cons.1 hp with rfl | hp
      · exact absurd hf ha
      · exact ih h2 hp (fun q hq => hm q (by simp [hq]))
theorem find_sorted_rev {l : List Nat} {f : Nat → Bool} (h : l.Pairwise (· > ·)) {p : Nat} (hp : p ∈ l) (hf : f p = true) (hm : ∀ q ∈ l, f q = true → q ≤ p) : l.find? f = some p := by
  induction l with
  | nil => simp at hp
  | cons a l ih =>
    obtain ⟨h1, h2⟩ := List.pairwise_cons.1 h
    by_cases ha : f a = true
    · rw [List.find?_cons_of_pos ha]
      have := hm a (by simp) ha
      rcases List.mem_cons.1 hp with rfl | hp
      · rfl
      · have := h1 p hp; omega
    · rw [List.find?_cons_of_neg ha]
      rcases List.mem_cons.1 hp with rfl | hp
      · exact absurd hf ha
      · exact ih h2 hp (fun q hq => hm q (by simp [hq]))
theorem nxt_is {s : ByteArray} {a : Int} {p : Nat} (hp : p ∈ brk s) (ha : a < p) (hm : ∀ q ∈ brk s, a < (q : Int) → p ≤ q) : nxtB s a = p := by
  unfold nxtB
  rw [find_sorted (brk_sorted s) hp (by simpa using ha) (fun q hq h => hm q hq (by simpa using h))]; rfl
theorem nxt_end {s : ByteArray} {a : Int} (h : (s.size : Int) ≤ a) : nxtB s a = s.size := by
  unfold nxtB
  rw [List.find?_eq_none.2 (fun q hq => by have := brk_le hq; simp; omega)]; rfl
theorem prv_is {s : ByteArray} {a : Int} {p : Nat} (hp : p ∈ brk s) (ha : (p : Int) < a) (hm : ∀ q ∈ brk s, (q : Int) < a → q ≤ p) : prvB s a = p := by
  unfold prvB
  rw [find_sorted_rev (List.pairwise_reverse.2 (brk_sorted s)) (by simpa using hp) (by simpa using ha) (fun q hq h => hm q (by simpa using hq) (by simpa using h))]; rfl
theorem prv_start {s : ByteArray} {a : Int} (h : a ≤ 0) : prvB s a = 0 := by
  unfold prvB
  rw [List.find?_eq_none.2 (fun q hq => by simp; omega)]; rfl

/-! ### the clumps -/
/-- Neighbours. -/
def prs : List Nat → List (Nat × Nat)
  | a :: b :: l => (a, b) :: prs (b :: l)
  | _ => []
theorem prs_len : ∀ l : List Nat, (prs l).length = l.length - 1
  | [] => rfl
  | [a] => rfl
  | a :: b :: l => by simp [prs, prs_len (b :: l)]
theorem prs_get : ∀ (l : List Nat) (k a b : Nat), l[k]? = some a → l[k + 1]? = some b → (prs l)[k]? = some (a, b)
  | [], k, a, b, h, _ => by simp at h
  | [x], k, a, b, _, h => by simp at h
  | x :: y :: l, 0, a, b, h, h' => by simp at h h'; subst h; subst h'; rfl
  | x :: y :: l, k + 1, a, b, h, h' => by
    have := prs_get (y :: l) k a b (by simpa using h) (by simpa using h')
    simpa [prs] using this
/-- The clumps of a text: from where to where. -/
def clumps (s : ByteArray) : List (Nat × Nat) := prs (brk s)
end Go.Proofs.Ythbcancckogloaa
