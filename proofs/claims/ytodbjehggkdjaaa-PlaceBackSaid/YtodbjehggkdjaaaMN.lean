/-
  Clumps beside a line's end; what a clump holds: plain.
-/
import Derived.Test.YtodbjehggkdjaaaMI
namespace Go.Proofs.Ytodbjehggkdjaaa
set_option linter.unusedVariables false
set_option linter.unusedSimpArgs false

/-! ### what stands ahead of a break does not matter behind it -/
theorem bt_cons (a : Int) (l : List Int) (b : Int) : bt (a :: l) b =
    if a = 1 ∧ b = 2 then false else if hardC a ∨ hardC b then true
    else if a = 7 ∧ (b = 7 ∨ b = 8 ∨ b = 10 ∨ b = 11) then false
    else if (a = 10 ∨ a = 8) ∧ (b = 8 ∨ b = 9) then false
    else if (a = 11 ∨ a = 9) ∧ b = 9 then false
    else if b = 5 ∨ b = 4 then false
    else if a = 4 ∧ b = 12 ∧ pic l = true then false
    else if a = 6 ∧ b = 6 ∧ flg (a :: l) % 2 = 1 then false
    else true := rfl
theorem pic_cut {L : List Int} {c0 : Int} (h : bt L c0 = true) (hc : c0 = 4 ∨ c0 = 5) : pic L = false := by
  cases L with
  | nil => rfl
  | cons y l =>
    rw [bt_cons] at h
    have hh : ¬ hardC c0 := by unfold hardC; omega
    rw [if_neg (show ¬ (y = 1 ∧ c0 = 2) by omega)] at h
    by_cases hy : hardC y
    · unfold hardC at hy
      show (if y = 5 then pic l else decide (y = 12)) = false
      rw [if_neg (by omega)]; simp; omega
    · rw [if_neg (by rintro (h | h); exact hy h; exact hh h)] at h
      split at h
      · cases h
      split at h
      · cases h
      split at h
      · cases h
      split at h
      · cases h
      · omega
theorem flg_cut {L : List Int} (h : bt L 6 = true) : flg L % 2 = 0 := by
  cases L with
  | nil => rfl
  | cons y l =>
    rw [bt_cons] at h
    by_cases hy : y = 6
    · subst hy
      simp [hardC] at h
      exact h
    · show (if y = 6 then flg l + 1 else 0) % 2 = 0
      rw [if_neg hy]
theorem pic_app (L : List Int) : ∀ M : List Int, (∀ x ∈ M, x = 5) → pic (M ++ L) = pic L
  | [], _ => rfl
  | x :: M, h => by
    have hx := h x (by simp)
    subst hx
    show (if (5 : Int) = 5 then pic (M ++ L) else decide ((5 : Int) = 12)) = _
    rw [if_pos rfl]
    exact pic_app L M (fun y hy => h y (by simp [hy]))
theorem pic_two {L L' : List Int} : ∀ M : List Int, (∃ x ∈ M, x ≠ 5) → pic (M ++ L) = pic (M ++ L')
  | [], h => by obtain ⟨x, hx, _⟩ := h; simp at hx
  | x :: M, h => by
    show (if x = 5 then pic (M ++ L) else decide (x = 12)) = (if x = 5 then pic (M ++ L') else decide (x = 12))
    by_cases hx : x = 5
    · rw [if_pos hx, if_pos hx]
      refine pic_two M ?_
      obtain ⟨y, hy, hne⟩ := h
      rcases List.mem_cons.1 hy with rfl | hy
      · exact absurd hx hne
      · exact ⟨y, hy, hne⟩
    · rw [if_neg hx, if_neg hx]
theorem flg_app (L : List Int) : ∀ M : List Int, (∀ x ∈ M, x = 6) → flg (M ++ L) = M.length + flg L
  | [], _ => by simp
  | x :: M, h => by
    have hx := h x (by simp)
    subst hx
    show (if (6 : Int) = 6 then flg (M ++ L) + 1 else 0) = _
    rw [if_pos rfl, flg_app L M (fun y hy => h y (by simp [hy]))]
    simp; omega
theorem flg_two {L L' : List Int} : ∀ M : List Int, (∃ x ∈ M, x ≠ 6) → flg (M ++ L) = flg (M ++ L')
  | [], h => by obtain ⟨x, hx, _⟩ := h; simp at hx
  | x :: M, h => by
    show (if x = 6 then flg (M ++ L) + 1 else 0) = (if x = 6 then flg (M ++ L') + 1 else 0)
    by_cases hx : x = 6
    · rw [if_pos hx, if_pos hx, flg_two (L := L) (L' := L') M]
      obtain ⟨y, hy, hne⟩ := h
      rcases List.mem_cons.1 hy with rfl | hy
      · exact absurd hx hne
      · exact ⟨y, hy, hne⟩
    · rw [if_neg hx, if_neg hx]
theorem bt_congr {a b : Int} {l l' : List Int} (hp : a = 4 → b = 12 → pic l = pic l') (hf : a = 6 → b = 6 → flg (a :: l) % 2 = flg (a :: l') % 2) : bt (a :: l) b = bt (a :: l') b := by
  rw [bt_cons, bt_cons]
  by_cases h1 : a = 4 ∧ b = 12
  · rw [hp h1.1 h1.2]
    have h6 : ¬ (a = 6 ∧ b = 6) := by omega
    have e1 : ¬ (a = 6 ∧ b = 6 ∧ flg (a :: l) % 2 = 1) := fun h => h6 ⟨h.1, h.2.1⟩
    have e2 : ¬ (a = 6 ∧ b = 6 ∧ flg (a :: l') % 2 = 1) := fun h => h6 ⟨h.1, h.2.1⟩
    simp only [e1, e2]
  · have e1 : ¬ (a = 4 ∧ b = 12 ∧ pic l = true) := fun h => h1 ⟨h.1, h.2.1⟩
    have e2 : ¬ (a = 4 ∧ b = 12 ∧ pic l' = true) := fun h => h1 ⟨h.1, h.2.1⟩
    simp only [e1, e2]
    by_cases h6 : a = 6 ∧ b = 6
    · rw [hf h6.1 h6.2]
    · have e1 : ¬ (a = 6 ∧ b = 6 ∧ flg (a :: l) % 2 = 1) := fun h => h6 ⟨h.1, h.2.1⟩
      have e2 : ¬ (a = 6 ∧ b = 6 ∧ flg (a :: l') % 2 = 1) := fun h => h6 ⟨h.1, h.2.1⟩
      simp only [e1, e2]
theorem all_or {p : Int → Prop} [DecidablePred p] : ∀ M : List Int, (∀ x ∈ M, p x) ∨ ∃ x ∈ M, ¬ p x
  | [] => .inl (by simp)
  | x :: M => by
    by_cases hx : p x
    · rcases all_or (p := p) M with h | ⟨y, hy, h⟩
      · exact .inl (fun y hy => by rcases List.mem_cons.1 hy with rfl | hy; exact hx; exact h y hy)
      · exact .inr ⟨y, by simp [hy], h⟩
    · exact .inr ⟨x, by simp, hx⟩
/-- Behind a break it does not matter what is ahead of it. -/
theorem bt_cut (M L : List Int) (c0 b : Int) (h : bt L c0 = true) : bt (M ++ c0 :: L) b = bt (M ++ [c0]) b := by
  have snoc : ∀ (X : List Int) (Y : List Int), X ++ c0 :: Y = (X ++ [c0]) ++ Y := fun X Y => by simp
  have hpic : ∀ X : List Int, pic (X ++ c0 :: L) = pic (X ++ [c0]) := by
    intro X
    rw [snoc X L]
    rcases all_or (p := fun x => x = 5) (X ++ [c0]) with h5 | h5
    · have hc : c0 = 5 := h5 c0 (by simp)
      have e1 := pic_app L (X ++ [c0]) h5
      have e2 := pic_app [] (X ++ [c0]) h5
      rw [List.append_nil] at e2
      rw [e1, e2, pic_cut h (.inr hc)]; rfl
    · have e := pic_two (L := L) (L' := []) (X ++ [c0]) h5
      rw [List.append_nil] at e
      exact e
  have hflg : ∀ X : List Int, flg (X ++ c0 :: L) % 2 = flg (X ++ [c0]) % 2 := by
    intro X
    rw [snoc X L]
    rcases all_or (p := fun x => x = 6) (X ++ [c0]) with h6 | h6
    · have hc : c0 = 6 := h6 c0 (by simp)
      have e1 := flg_app L (X ++ [c0]) h6
      have e2 := flg_app [] (X ++ [c0]) h6
      rw [List.append_nil] at e2
      have := flg_cut (by rw [hc] at h; exact h)
      have h0 : flg [] = 0 := rfl
      omega
    · have e := flg_two (L := L) (L' := []) (X ++ [c0]) h6
      rw [List.append_nil] at e
      rw [e]
  cases M with
  | nil =>
    show bt (c0 :: L) b = bt (c0 :: []) b
    exact bt_congr (fun h4 _ => by rw [pic_cut h (.inl h4)]; rfl) (fun _ _ => hflg [])
  | cons a X =>
    show bt (a :: (X ++ c0 :: L)) b = bt (a :: (X ++ [c0])) b
    exact bt_congr (fun _ _ => hpic X) (fun _ _ => hflg (a :: X))

/-! ### breaks of a text that is cut at one -/
theorem ext_ext (s : ByteArray) (a b : Nat) (h : a ≤ b) (hb : b ≤ s.size) : (s.extract 0 b).extract 0 a = s.extract 0 a := by
  have hz := size_ext s 0 b hb
  apply ext_byt
  · rw [size_ext _ _ _ (by omega), size_ext _ _ _ (by omega)]
  · intro i hi
    rw [size_ext _ _ _ (by omega)] at hi
    rw [byt_extract _ _ _ _ (by omega) (by omega), byt_extract _ _ _ _ (by omega) (by omega), byt_extract _ _ _ _ (by omega) (by omega), Nat.zero_add]
theorem ext_mid (s : ByteArray) (p q : Nat) (h : p + q ≤ s.size) : (s.extract p s.size).extract 0 q = s.extract p (p + q) := by
  have hz := size_ext s p s.size (Nat.le_refl _)
  apply ext_byt
  · rw [size_ext _ _ _ (by omega), size_ext _ _ _ (by omega)]; omega
  · intro i hi
    rw [size_ext _ _ _ (by omega)] at hi
    rw [byt_extract _ _ _ _ (by omega) (by omega), byt_extract _ _ _ _ (by omega) (by omega), byt_extract _ _ _ _ (by omega) (by omega), Nat.zero_add]
theorem clsAt_pre {s : ByteArray} {i p : Nat} (hi : i + (dec s i).2 ≤ p) (hp : p ≤ s.size) (h0 : i < s.size) : clsAt (s.extract 0 p) i = clsAt s i := by unfold clsAt; rw [dec_pre hi hp h0]
theorem clsAt_suf (s : ByteArray) (p j : Nat) (hp : p ≤ s.size) : clsAt (s.extract p s.size) j = clsAt s (p + j) := by unfold clsAt; rw [dec_suf s p j hp]
theorem isb_pre {s : ByteArray} {l : List Nat} {i p : Nat} (h : At s l i) (hi : i + (dec s i).2 ≤ p) (hp : p ≤ s.size) (h0 : i < s.size) : isb (s.extract 0 p) i = isb s i := by
  have h1 := at_pre h (p := p) (by omega) hp
  rw [isb_at h, isb_at h1, clsAt_pre hi hp h0]
  have e : ctx (s.extract 0 p) l = ctx s l := by
    unfold ctx
    refine congrArg List.reverse (List.map_congr_left fun j hj => ?_)
    have := h.dec_lt j hj
    exact clsAt_pre (by omega) hp this.1
  rw [e]
theorem at_suf {s : ByteArray} {l : List Nat} {p : Nat} (hl : At s l p) : ∀ {m : List Nat} {q : Nat}, At (s.extract p s.size) m q → At s (l ++ m.map (p + ·)) (p + q) := by
  intro m q h
  have hp := hl.le
  induction h with
  | zero => simpa using hl
  | @step m q h h0 ih =>
    rw [size_tail s p hp] at h0
    have h2 := ih.step (by omega)
    rw [dec_suf s p q hp, ← Nat.add_assoc]
    rw [List.map_append, ← List.append_assoc]
    exact h2
theorem isb_suf {s : ByteArray} {l m : List Nat} {p q : Nat} (hl : At s l p) (hb : isb s p = true) (h : At (s.extract p s.size) m q) (h0 : p + q < s.size) : isb (s.extract p s.size) q = isb s (p + q) := by
  have hp := hl.le
  have h2 := at_suf hl h
  rw [isb_at h, isb_at h2, clsAt_suf s p q hp]
  cases m with
  | nil =>
    have : q = 0 := by have := h.len4; simpa using this
    subst this
    rw [show ctx (s.extract p s.size) [] = [] from rfl, show bt [] (clsAt s (p + 0)) = true from rfl]
    rw [isb_at hl] at hb
    simpa using hb.symm
  | cons x m =>
    have hx : x = 0 := by
      have hz : 0 < (s.extract p s.size).size := by
        rw [size_tail s p hp]; omega
      have hc := h.cut
      rw [cut_step hz] at hc
      simp at hc
      exact hc.1.symm
    subst hx
    have e1 : ctx (s.extract p s.size) (0 :: m) = (m.map (fun j => clsAt s (p + j))).reverse ++ [clsAt s p] := by
      unfold ctx
      rw [List.map_cons, List.reverse_cons, clsAt_suf s p 0 hp, show m.map (clsAt (s.extract p s.size)) = m.map (fun j => clsAt s (p + j)) from List.map_congr_left fun j _ => clsAt_suf s p j hp]
      rfl
    have e2 : ctx s (l ++ (0 :: m).map (p + ·)) = (m.map (fun j => clsAt s (p + j))).reverse ++ clsAt s p :: ctx s l := by
      unfold ctx
      rw [List.map_append, List.reverse_append, List.map_cons, List.map_cons, List.reverse_cons, List.map_map, List.append_assoc]
      rfl
    rw [e1, e2]
    rw [isb_at hl] at hb
    exact (bt_cut _ _ _ _ hb).symm
theorem filter_congr_mem {α : Type} {f g : α → Bool} : ∀ {l : List α}, (∀ x ∈ l, f x = g x) → l.filter f = l.filter g
  | [], _ => rfl
  | x :: l, h => by
    rw [List.filter_cons, List.filter_cons, h x (by simp), filter_congr_mem (fun y hy => h y (by simp [hy]))]
/-- The breaks of a text, of what is ahead of one of them, and of what is behind. -/
theorem brk_split {s : ByteArray} {p : Nat} (h : p ∈ brk s) : ∃ A B, brk s = A ++ p :: B ∧ brk (s.extract 0 p) = A ++ [p] ∧ (brk (s.extract p s.size)).map (p + ·) = p :: B := by
  have hp := brk_le h
  by_cases h0 : p = 0
  · subst h0
    obtain ⟨B, hB⟩ : ∃ B, brk s = 0 :: B := by
      have := brk_zero s
      cases hb : brk s with
      | nil => rw [hb] at this; simp at this
      | cons x B =>
        rw [hb] at this
        rcases List.mem_cons.1 this with h | h
        · exact ⟨B, by rw [h]⟩
        · have hs := brk_sorted s
          rw [hb] at hs
          have := (List.pairwise_cons.1 hs).1 0 h
          omega
    refine ⟨[], B, hB, ?_, ?_⟩
    · unfold brk
      rw [if_pos (by rw [size_ext _ _ _ (by omega)])]; rfl
    · rw [ext_all, hB]; simp
  have hsz : s.size ≠ 0 := by omega
  by_cases hps : p = s.size
  · subst hps
    refine ⟨(cut s 0).filter (isb s), [], ?_, ?_, ?_⟩
    · unfold brk; rw [if_neg hsz]
    · rw [ext_all]; unfold brk; rw [if_neg hsz]
    · have e : (s.extract s.size s.size).size = 0 := by rw [size_ext _ _ _ (Nat.le_refl _)]; omega
      unfold brk
      rw [if_pos e]; simp
  · rcases mem_brk.1 h with h | h | ⟨hlt, l, hl, hbt⟩
    · omega
    · omega
    have hb : isb s p = true := by rw [isb_at hl]; exact hbt
    have hcut := hl.cut
    have hsuf := cut_suf s p hp _ 0 (Nat.le_refl _)
    rw [Nat.add_zero] at hsuf
    have hz1 := size_ext s 0 p hp
    have hz2 := size_tail s p hp
    have e1 : (cut (s.extract 0 p) 0).filter (isb (s.extract 0 p)) = l.filter (isb s) := by
      rw [cut_pre hl]
      refine filter_congr_mem fun x hx => ?_
      have hd := hl.dec_lt x hx
      obtain ⟨k, hk, rfl⟩ := List.mem_iff_getElem.1 hx
      have hg := (at_get s k (by rw [hcut]; simp; omega)).1
      have hge : (cut s 0)[k]'(by rw [hcut]; simp; omega) = l[k] := by
        have : (cut s 0)[k]? = some l[k] := by rw [hcut, List.getElem?_append_left hk, List.getElem?_eq_getElem hk]
        exact (List.getElem?_eq_some_iff.1 this).2
      rw [hge] at hg
      exact isb_pre hg hd.2 hp hd.1
    have e2 : (cut s p).filter (isb s) = ((cut (s.extract p s.size) 0).filter (isb (s.extract p s.size))).map (p + ·) := by
      rw [← hsuf, List.filter_map]
      refine congrArg (List.map (p + ·)) (filter_congr_mem fun x hx => ?_)
      obtain ⟨⟨m, hm⟩, hx2⟩ := mem_cut.1 hx
      rw [hz2] at hx2
      exact (isb_suf hl hb hm (by omega)).symm
    have e3 : (cut s p).filter (isb s) = p :: (cut s (p + (dec s p).2)).filter (isb s) := by
      rw [cut_step hlt, List.filter_cons, if_pos hb]
    refine ⟨l.filter (isb s), (cut s (p + (dec s p).2)).filter (isb s) ++ [s.size], ?_, ?_, ?_⟩
    · unfold brk
      rw [if_neg hsz, hcut, List.filter_append, e3]; simp
    · unfold brk
      rw [if_neg (by omega), e1, hz1]; simp
    · unfold brk
      rw [if_neg (by omega), List.map_append, ← e2, e3, hz2]
      simp; omega
theorem prs_app : ∀ (A : List Nat) (p : Nat) (B : List Nat), prs (A ++ p :: B) = prs (A ++ [p]) ++ prs (p :: B)
  | [], p, B => by simp [prs]
  | [a], p, B => by simp [prs]
  | a :: b :: A, p, B => by
    have := prs_app (b :: A) p B
    simp only [List.cons_append] at this ⊢
    simp only [prs, this, List.cons_append]
theorem prs_map (p : Nat) : ∀ l : List Nat, prs (l.map (p + ·)) = (prs l).map fun q => (p + q.1, p + q.2)
  | [] => rfl
  | [a] => rfl
  | a :: b :: l => by
    have := prs_map p (b :: l)
    simp only [List.map_cons, prs] at this ⊢
    rw [this]
theorem prs_mem : ∀ (l : List Nat) (q : Nat × Nat), q ∈ prs l → q.1 ∈ l ∧ q.2 ∈ l
  | [], q, h => by simp [prs] at h
  | [a], q, h => by simp [prs] at h
  | a :: b :: l, q, h => by
    simp only [prs, List.mem_cons] at h
    rcases h with rfl | h
    · exact ⟨by simp, by simp⟩
    · have := prs_mem (b :: l) q h
      exact ⟨by simp [this.1] , by simp [this.2]⟩
/-- The texts of a text's clumps. -/
def cluT (s : ByteArray) : List ByteArray := (clumps s).map fun q => s.extract q.1 q.2
theorem prs_le : ∀ (l : List Nat), l.Pairwise (· < ·) → ∀ q ∈ prs l, q.1 < q.2
  | [], _, q, h => by simp [prs] at h
  | [a], _, q, h => by simp [prs] at h
  | a :: b :: l, hs, q, h => by
    obtain ⟨h1, h2⟩ := List.pairwise_cons.1 hs
    simp only [prs, List.mem_cons] at h
    rcases h with rfl | h
    · exact h1 b (by simp)
    · exact prs_le (b :: l) h2 q h
theorem ext_pre (s : ByteArray) (a b p : Nat) (hb : b ≤ p) (hp : p ≤ s.size) : (s.extract 0 p).extract a b = s.extract a b := by
  have hz := size_ext s 0 p hp
  apply ext_byt
  · rw [size_ext _ _ _ (by omega), size_ext _ _ _ (by omega)]
  · intro i hi
    rw [size_ext _ _ _ (by omega)] at hi
    rw [byt_extract _ _ _ _ (by omega) (by omega), byt_extract _ _ _ _ (by omega) (by omega), byt_extract _ _ _ _ (by omega) (by omega), Nat.zero_add]
theorem ext_suf (s : ByteArray) (p a b : Nat) (hb : p + b ≤ s.size) : (s.extract p s.size).extract a b = s.extract (p + a) (p + b) := by
  have hz := size_ext s p s.size (Nat.le_refl _)
  apply ext_byt
  · rw [size_ext _ _ _ (by omega), size_ext _ _ _ (by omega)]; omega
  · intro i hi
    rw [size_ext _ _ _ (by omega)] at hi
    rw [byt_extract _ _ _ _ (by omega) (by omega), byt_extract _ _ _ _ (by omega) (by omega), byt_extract _ _ _ _ (by omega) (by omega), Nat.add_assoc]
/-- A text that is cut at a break has the clumps of its two parts. -/
theorem cluT_split {s : ByteArray} {p : Nat} (h : p ∈ brk s) : cluT s = cluT (s.extract 0 p) ++ cluT (s.extract p s.size) := by
  have hp := brk_le h
  obtain ⟨A, B, h1, h2, h3⟩ := brk_split h
  unfold cluT clumps
  rw [h1, h2, prs_app, ← h3, prs_map, List.map_append, List.map_map]
  have e1 : (prs (A ++ [p])).map (fun q => s.extract q.1 q.2) = (prs (A ++ [p])).map (fun q => (s.extract 0 p).extract q.1 q.2) := by
    refine List.map_congr_left fun q hq => ?_
    have hm := prs_mem _ q hq
    rw [← h2] at hm
    have := brk_le hm.2
    rw [size_ext _ _ _ hp] at this
    exact (ext_pre s q.1 q.2 p (by omega) hp).symm
  have e2 : (prs (brk (s.extract p s.size))).map ((fun q : Nat × Nat => s.extract q.1 q.2) ∘ fun q => (p + q.1, p + q.2)) = (prs (brk (s.extract p s.size))).map (fun q => (s.extract p s.size).extract q.1 q.2) := by
    refine List.map_congr_left fun q hq => ?_
    have hm := prs_mem _ q hq
    have := brk_le hm.2
    rw [size_tail _ _ hp] at this
    exact (ext_suf s p q.1 q.2 (by omega)).symm
  rw [e1, e2]
end Go.Proofs.Ytodbjehggkdjaaa
namespace Go.Proofs.Ytodbjehggkdjaaa
set_option linter.unusedVariables false
set_option linter.unusedSimpArgs false

def nlB : ByteArray := ⟨#[10]⟩
def crB : ByteArray := ⟨#[13]⟩
def crlfB : ByteArray := ⟨#[13, 10]⟩
theorem app_left (a b : ByteArray) : (a ++ b).extract 0 a.size = a := by
  have hz := size_ext (a ++ b) 0 a.size (by rw [ByteArray.size_append]; omega)
  apply ext_byt
  · omega
  · intro i hi
    rw [byt_extract _ _ _ _ (by omega) (by rw [ByteArray.size_append]; omega), Nat.zero_add, byt_append_left _ _ _ (by omega)]
theorem app_right (a b : ByteArray) : (a ++ b).extract a.size (a ++ b).size = b := by
  have hz := size_tail (a ++ b) a.size (by rw [ByteArray.size_append]; omega)
  rw [ByteArray.size_append] at hz
  apply ext_byt
  · rw [ByteArray.size_append]; omega
  · intro i hi
    rw [byt_tail, byt_append_right]
/-- A byte that goes on no rune begins a piece. -/
theorem at_of_byte {s : ByteArray} {p : Nat} (hp : p < s.size) (hb : byt s p < 128) : ∃ l, At s l p := by
  refine (at_iff s p (by omega)).2 fun j _ hj => ?_
  refine Classical.byContradiction fun hc => ?_
  have hr := rune_of_wid (s := s) (i := j) (by omega) (by omega)
  have := hr.goes (k := p - j) (by omega) (by omega)
  rw [show j + (p - j) = p by omega] at this
  omega
theorem dec_byte {s : ByteArray} {p : Nat} (hp : p < s.size) (hb : byt s p < 128) : dec s p = (byt s p, 1) :=
  RuneAt.dec (r := byt s p) (n := 1) ⟨by omega, .inl ⟨rfl, hb, rfl⟩⟩
theorem At.snoc {s : ByteArray} {m l : List Nat} {i p : Nat} (h : At s m p) (hm : m = l ++ [i]) : At s l i ∧ i < s.size ∧ p = i + (dec s i).2 := by
  cases h with
  | zero => exact absurd (congrArg List.length hm) (by simp)
  | @step l' i' h1 h2 =>
    obtain ⟨e1, e2⟩ := List.append_inj' hm rfl
    simp at e2
    subst e1; subst e2
    exact ⟨h1, h2, rfl⟩
theorem cls_13 {r : Nat} (h : cls r = 1) : r = 13 := by
  rw [← cls_rcls] at h
  unfold rcls at h
  split at h
  · omega
  · exfalso
    repeat' split at h
    all_goals omega
theorem cls_10 {r : Nat} (h : cls r = 2) : r = 10 := by
  rw [← cls_rcls] at h
  unfold rcls at h
  split at h
  · omega
  split at h
  · omega
  · exfalso
    repeat' split at h
    all_goals omega
theorem dec_13 {s : ByteArray} {i : Nat} (hi : i < s.size) (h : (dec s i).1 = 13) : (dec s i).2 = 1 ∧ byt s i = 13 := by
  rcases rune_or s i hi with ⟨_, hr⟩ | ⟨hd, _⟩
  · rw [h] at hr
    have := byt_lt s i
    omega
  · rw [hd] at h; simp at h
theorem bt_hard {a b : Int} {l : List Int} (ha : hardC a ∨ hardC b) (hn : ¬ (a = 1 ∧ b = 2)) : bt (a :: l) b = true := by
  rw [bt_cons, if_neg hn, if_pos ha]
theorem brk_of {s : ByteArray} {l : List Nat} {p : Nat} (h : At s l p) (hb : l = [] ∨ bt (ctx s l) (clsAt s p) = true) : p ∈ brk s := by
  have hp := h.le
  refine mem_brk.2 ?_
  rcases hb with rfl | hb
  · exact .inl (by have := h.len4; simpa using this)
  · by_cases e : p = s.size
    · exact .inr (.inl e)
    · exact .inr (.inr ⟨by omega, l, h, hb⟩)
theorem clsAt_byte {s : ByteArray} {p : Nat} (hp : p < s.size) (hb : byt s p < 128) : clsAt s p = cls (byt s p : Nat) := by unfold clsAt; rw [dec_byte hp hb]
theorem cls_nl : cls (10 : Nat) = 2 := by decide +kernel
theorem cls_cr : cls (13 : Nat) = 1 := by decide +kernel
/-- A byte that is a control's or a line's end: there is a break, unless it is LF behind CR. -/
theorem brk_hard {s : ByteArray} {p : Nat} (hp : p < s.size) (hb : byt s p = 13 ∨ (byt s p = 10 ∧ ¬ (0 < p ∧ byt s (p - 1) = 13))) : p ∈ brk s := by
  obtain ⟨l, hl⟩ := at_of_byte hp (by omega)
  refine brk_of hl ?_
  rcases List.eq_nil_or_concat l with rfl | ⟨l', i, rfl⟩
  · exact .inl rfl
  · right
    rw [List.concat_eq_append] at hl ⊢
    obtain ⟨h1, h2, h3⟩ := hl.snoc rfl
    rw [ctx_snoc, clsAt_byte hp (by omega)]
    rcases hb with hb | ⟨hb, hn⟩
    · rw [hb, cls_cr]
      exact bt_hard (.inr (.inl rfl)) (by omega)
    · rw [hb, cls_nl]
      refine bt_hard (.inr (.inr (.inl rfl))) fun hc => hn ?_
      have := cls_13 hc.1
      have := dec_13 h2 this
      exact ⟨by omega, by rw [h3, this.1, Nat.add_sub_cancel]; exact this.2⟩
theorem brk_behind {s : ByteArray} {p : Nat} (hp : p < s.size) (hb : byt s p = 10) : p + 1 ∈ brk s := by
  obtain ⟨l, hl⟩ := at_of_byte hp (by omega)
  have h2 := hl.step hp
  rw [dec_byte hp (by omega)] at h2
  refine brk_of h2 (.inr ?_)
  rw [ctx_snoc, clsAt_byte hp (by omega), hb, cls_nl]
  exact bt_hard (.inl (.inr (.inl rfl))) (by omega)
theorem brk_one {x : ByteArray} (hx : x.size ≠ 0) (h : ∀ q ∈ cut x 0, q ≠ 0 → isb x q = false) : cluT x = [x] := by
  have h0 : (cut x 0).filter (isb x) = [0] := by
    have hn := dec_n (s := x) (i := 0) (by omega)
    rw [cut_step (by omega)] at h ⊢
    rw [List.filter_cons, if_pos (isb_zero x)]
    congr 1
    refine List.filter_eq_nil_iff.2 fun q hq => ?_
    have := (cut_sorted x x.size (0 + (dec x 0).2) (by omega)).2 q hq
    rw [h q (by simp only [List.mem_cons]; exact .inr hq) (by omega)]
    simp
  have hb : brk x = [0, x.size] := by
    unfold brk; rw [if_neg hx, h0]; rfl
  unfold cluT clumps
  rw [hb]
  show [x.extract 0 x.size] = [x]
  rw [ext_all]
theorem cluT_nl : cluT nlB = [nlB] := by
  have hc : cut nlB 0 = [0] := by
    rw [cut_step (by decide), show (dec nlB 0).2 = 1 by decide, cut_end (by decide)]
  refine brk_one (by decide) fun q hq h0 => ?_
  rw [hc] at hq; simp at hq; exact absurd hq h0
theorem cluT_cr : cluT crB = [crB] := by
  have hc : cut crB 0 = [0] := by
    rw [cut_step (by decide), show (dec crB 0).2 = 1 by decide, cut_end (by decide)]
  refine brk_one (by decide) fun q hq h0 => ?_
  rw [hc] at hq; simp at hq; exact absurd hq h0
theorem cluT_crlf : cluT crlfB = [crlfB] := by
  have hc : cut crlfB 0 = [0, 1] := by
    rw [cut_step (by decide), show (dec crlfB 0).2 = 1 by decide, cut_step (by decide), show (dec crlfB (0 + 1)).2 = 1 by decide, cut_end (by decide)]
  refine brk_one (by decide) fun q hq h0 => ?_
  rw [hc] at hq
  have : q = 1 := by simp at hq; omega
  subst this
  have hl : At crlfB ([] ++ [0]) (0 + (dec crlfB 0).2) := At.zero.step (by decide)
  rw [show 0 + (dec crlfB 0).2 = 1 by decide] at hl
  rw [isb_at hl, ctx_snoc]
  decide +kernel

/-- Does a text end with CR? -/
def endsCR (s : ByteArray) : Bool := decide (0 < s.size ∧ byt s (s.size - 1) = 13)
def headN (s : ByteArray) : Nat := if endsCR s = true then (cluT s).length - 1 else (cluT s).length
theorem headN_le (s : ByteArray) : headN s ≤ (cluT s).length := by unfold headN; split <;> omega
/-- With a line's end between two texts nothing of them meets. -/
theorem cluT_line (s t : ByteArray) : ∃ x, cluT (s ++ nlB ++ t) = (cluT s).take (headN s) ++ [x] ++ cluT t ∧ (endsCR s = true → 1 ≤ (cluT s).length) := by
  have hnz : nlB.size = 1 := rfl
  have hz : (s ++ nlB).size = s.size + 1 := by rw [ByteArray.size_append]; rfl
  have hb10 : byt (s ++ nlB) s.size = 10 := by
    have := byt_append_right s nlB 0
    simp only [Nat.add_zero] at this
    rw [this]; rfl
  have h1 : (s ++ nlB).size ∈ brk (s ++ nlB ++ t) := by
    rw [hz]
    refine brk_behind (by rw [ByteArray.size_append]; omega) ?_
    rw [byt_append_left _ _ _ (by omega)]; exact hb10
  have e1 := cluT_split h1
  rw [app_left, app_right] at e1
  by_cases he : endsCR s = true
  · obtain ⟨h0, h13⟩ := of_decide_eq_true he
    have hq1 : s.size - 1 ∈ brk s := brk_hard (by omega) (.inl h13)
    have hq2 : s.size - 1 ∈ brk (s ++ nlB) := brk_hard (by omega) (.inl (by rw [byt_append_left _ _ _ (by omega)]; exact h13))
    have e2 := cluT_split hq1
    have e3 := cluT_split hq2
    have x1 : (s ++ nlB).extract 0 (s.size - 1) = s.extract 0 (s.size - 1) := by
      rw [← ext_pre (s ++ nlB) 0 (s.size - 1) s.size (by omega) (by omega), app_left]
    have x2 : s.extract (s.size - 1) s.size = crB := by
      apply ext_byt
      · rw [size_tail _ _ (by omega)]; show _ = 1; omega
      · intro i hi
        rw [size_tail _ _ (by omega)] at hi
        obtain rfl : i = 0 := by omega
        rw [byt_tail, Nat.add_zero, h13]; rfl
    have x3 : (s ++ nlB).extract (s.size - 1) (s ++ nlB).size = crlfB := by
      apply ext_byt
      · rw [size_tail _ _ (by omega)]; show _ = 2; omega
      · intro i hi
        rw [size_tail _ _ (by omega)] at hi
        have hi2 : i = 0 ∨ i = 1 := by omega
        rw [byt_tail]
        rcases hi2 with rfl | rfl
        · rw [Nat.add_zero, byt_append_left _ _ _ (by omega), h13]; rfl
        · rw [show s.size - 1 + 1 = s.size by omega, hb10]; rfl
    rw [x2, cluT_cr] at e2
    rw [x1, x3, cluT_crlf] at e3
    refine ⟨crlfB, ?_, fun _ => by rw [e2]; simp⟩
    unfold headN
    rw [if_pos he, e1, e3, e2]
    simp
  · have hq : s.size ∈ brk (s ++ nlB) := by
      refine brk_hard (by omega) (.inr ⟨hb10, fun hc => he (decide_eq_true ⟨hc.1, ?_⟩)⟩)
      rw [byt_append_left _ _ _ (by omega)] at hc
      exact hc.2
    have e2 := cluT_split hq
    rw [app_left, app_right, cluT_nl] at e2
    refine ⟨nlB, ?_, fun h => absurd h he⟩
    unfold headN
    rw [if_neg he, e1, e2, List.take_length]

/-! ### what a clump holds -/
theorem gap_brk {s : ByteArray} {k a p : Nat} (h1 : (brk s)[k]? = some a) (h2 : (brk s)[k + 1]? = some p) : a < p ∧ ∀ q ∈ brk s, q ≤ a ∨ p ≤ q := by
  obtain ⟨hk, rfl⟩ := List.getElem?_eq_some_iff.1 h1
  obtain ⟨hk2, rfl⟩ := List.getElem?_eq_some_iff.1 h2
  have hs := List.pairwise_iff_getElem.1 (brk_sorted s)
  refine ⟨hs _ _ hk hk2 (by omega), fun q hq => ?_⟩
  obtain ⟨j, hj, rfl⟩ := List.mem_iff_getElem.1 hq
  rcases Nat.lt_or_ge j k with h | h
  · left; have := hs _ _ hj hk h; omega
  · by_cases e : j = k
    · subst e; exact .inl (Nat.le_refl _)
    · right
      by_cases e2 : j = k + 1
      · subst e2; exact Nat.le_refl _
      · have := hs _ _ hk2 hj (by omega); omega
theorem brk_pre_mem {s : ByteArray} {p q : Nat} (h : p ∈ brk s) (hq : q ∈ brk (s.extract 0 p)) : q ∈ brk s := by
  obtain ⟨A, B, h1, h2, _⟩ := brk_split h
  rw [h2] at hq; rw [h1]
  simp at hq ⊢
  rcases hq with hq | hq
  · exact .inl hq
  · exact .inr (.inl hq)
theorem brk_suf_mem {s : ByteArray} {p q : Nat} (h : p ∈ brk s) : q ∈ brk (s.extract p s.size) ↔ p + q ∈ brk s := by
  obtain ⟨A, B, h1, h2, h3⟩ := brk_split h
  have hs := brk_sorted s
  rw [h1] at hs
  have hlt := (List.pairwise_append.1 hs).2.2
  constructor
  · intro hq
    have : p + q ∈ (brk (s.extract p s.size)).map (p + ·) := List.mem_map.2 ⟨q, hq, rfl⟩
    rw [h3] at this
    rw [h1]
    exact List.mem_append_right _ this
  · intro hq
    rw [h1] at hq
    have hm : p + q ∈ p :: B := by
      rcases List.mem_append.1 hq with hq | hq
      · have := hlt _ hq p (by simp); omega
      · exact hq
    rw [← h3] at hm
    obtain ⟨q', hq', e⟩ := List.mem_map.1 hm
    have : q' = q := by have e : p + q' = p + q := e; omega
    rw [← this]; exact hq'
/-- Within a clump there is no break. -/
theorem clump_whole {s : ByteArray} {k a p : Nat} (h1 : (brk s)[k]? = some a) (h2 : (brk s)[k + 1]? = some p) : ∀ q ∈ cut (s.extract a p) 0, q ≠ 0 → isb (s.extract a p) q = false := by
  obtain ⟨hap, hgap⟩ := gap_brk h1 h2
  have ha := List.mem_of_getElem? h1
  have hp := List.mem_of_getElem? h2
  have hps := brk_le hp
  have hz := size_ext s a p hps
  have hq' : p - a ∈ brk (s.extract a s.size) := (brk_suf_mem ha).2 (by rw [show a + (p - a) = p by omega]; exact hp)
  have he := ext_mid s a (p - a) (by omega)
  rw [show a + (p - a) = p by omega] at he
  intro q hq h0
  obtain ⟨⟨l, hl⟩, hqs⟩ := mem_cut.1 hq
  refine Bool.eq_false_iff.2 fun hb => ?_
  have hm : q ∈ brk (s.extract a p) := mem_brk.2 (.inr (.inr ⟨hqs, l, hl, by rw [← isb_at hl]; exact hb⟩))
  rw [← he] at hm
  have hm2 := (brk_suf_mem ha).1 (brk_pre_mem hq' hm)
  have := hgap _ hm2
  omega
/-- The classes of a text's pieces. -/
def clL (x : ByteArray) : List Int := (cut x 0).map (clsAt x)
def clN (x : ByteArray) (k : Nat) : Int := (clL x)[k]?.getD 0
theorem clL_len (x : ByteArray) : (clL x).length = (cut x 0).length := by simp [clL]
theorem clN_at {x : ByteArray} {k q : Nat} (h : (cut x 0)[k]? = some q) : clN x k = clsAt x q := by unfold clN clL; rw [List.getElem?_map, h]; rfl
theorem whole_bt {x : ByteArray} (h : ∀ q ∈ cut x 0, q ≠ 0 → isb x q = false) {k : Nat} (hk : k < (clL x).length) (h0 : 0 < k) : bt ((clL x).take k).reverse (clN x k) = false := by
  rw [clL_len] at hk
  obtain ⟨h1, h2⟩ := at_get x k hk
  have hg := List.getElem?_eq_getElem hk
  rw [clN_at hg]
  have := h _ (List.getElem_mem hk) (by
    have := h1.zero_iff
    rw [List.length_take] at this
    omega)
  rw [isb_at h1] at this
  unfold ctx at this
  unfold clL
  rw [← List.map_take]
  exact this
theorem take_rev_c {x : ByteArray} {k : Nat} (hk : k < (clL x).length) : ((clL x).take (k + 1)).reverse = clN x k :: ((clL x).take k).reverse := by
  rw [List.take_add_one, List.getElem?_eq_getElem hk]
  unfold clN
  rw [List.getElem?_eq_getElem hk]
  simp
def flN (x : ByteArray) : Nat → Nat
  | 0 => 0
  | k + 1 => if clN x k = 6 then flN x k + 1 else flN x k
def bfN (x : ByteArray) : Nat → Int
  | 0 => 0
  | k + 1 => clN x k
def piN (x : ByteArray) : Nat → Nat
  | 0 => 0
  | k + 1 => if clN x k = 12 ∧ bfN x k ≠ 4 then piN x k + 1 else piN x k
def haN (x : ByteArray) : Nat → Nat
  | 0 => 0
  | k + 1 => if 1 ≤ clN x k ∧ clN x k ≤ 3 then haN x k + 1 else haN x k
theorem flN_le (x : ByteArray) : ∀ k, flN x k ≤ k
  | 0 => Nat.le_refl _
  | k + 1 => by have := flN_le x k; unfold flN; split <;> omega
theorem piN_le (x : ByteArray) : ∀ k, piN x k ≤ k
  | 0 => Nat.le_refl _
  | k + 1 => by have := piN_le x k; unfold piN; split <;> omega
theorem haN_le (x : ByteArray) : ∀ k, haN x k ≤ k
  | 0 => Nat.le_refl _
  | k + 1 => by have := haN_le x k; unfold haN; split <;> omega
section
variable {x : ByteArray} (h : ∀ q ∈ cut x 0, q ≠ 0 → isb x q = false)
include h
theorem bt_step {k : Nat} (hk : k + 1 < (clL x).length) : bt (clN x k :: ((clL x).take k).reverse) (clN x (k + 1)) = false := by
  have := whole_bt h hk (by omega)
  rwa [take_rev_c (by omega)] at this
theorem no_hard {k : Nat} (hk : k + 1 < (clL x).length) (hh : hardC (clN x k) ∨ hardC (clN x (k + 1))) : clN x k = 1 ∧ clN x (k + 1) = 2 := by
  have := bt_step h hk
  refine Classical.byContradiction fun hn => ?_
  rw [bt_hard hh hn] at this
  cases this
theorem pic_4 {k : Nat} (hk : k + 1 < (clL x).length) (h12 : clN x (k + 1) = 12) : clN x k = 4 := by
  have hb := bt_step h hk
  rw [h12, bt_cons] at hb
  refine Classical.byContradiction fun hn => ?_
  by_cases hh : hardC (clN x k)
  · have := no_hard h hk (.inl hh); omega
  rw [if_neg (by omega), if_neg (by rintro (h | h); exact hh h; unfold hardC at h; omega), if_neg (by omega), if_neg (by omega), if_neg (by omega), if_neg (by omega), if_neg (fun h => hn h.1), if_neg (by omega)] at hb
  cases hb
theorem flag_6 {k : Nat} (hk : k + 1 < (clL x).length) (h6 : clN x (k + 1) = 6) : clN x k = 6 ∧ flg (clN x k :: ((clL x).take k).reverse) % 2 = 1 := by
  have hb := bt_step h hk
  rw [h6, bt_cons] at hb
  refine Classical.byContradiction fun hn => ?_
  by_cases hh : hardC (clN x k)
  · have := no_hard h hk (.inl hh); omega
  rw [if_neg (by omega), if_neg (by rintro (h | h); exact hh h; unfold hardC at h; omega), if_neg (by omega), if_neg (by omega), if_neg (by omega), if_neg (by omega), if_neg (by omega), if_neg (fun h => hn ⟨h.1, h.2.2⟩)] at hb
  cases hb
theorem pics_1 : ∀ k, k ≤ (clL x).length → piN x k ≤ 1
  | 0, _ => by unfold piN; omega
  | 1, _ => by unfold piN piN; split <;> omega
  | k + 2, hk => by
    have ih := pics_1 (k + 1) (by omega)
    unfold piN
    rw [if_neg]
    · exact ih
    · rintro ⟨h1, h2⟩
      exact h2 (pic_4 h (by omega) h1)
theorem no_6 (hk : 2 < (clL x).length) : clN x 2 ≠ 6 := by
  intro h6
  obtain ⟨h1, h2⟩ := flag_6 h (k := 1) hk h6
  obtain ⟨h0, _⟩ := flag_6 h (k := 0) (by omega) h1
  rw [h1] at h2
  have e := take_rev_c (x := x) (k := 0) (by omega)
  rw [Nat.zero_add] at e
  rw [e, h0] at h2
  simp [flg] at h2
theorem all_6 : ∀ k, k < (clL x).length → 2 ≤ k → clN x k ≠ 6 := by
  intro k
  induction k with
  | zero => intro _ h; omega
  | succ k ih =>
    intro hk h2 h6
    by_cases e : k + 1 = 2
    · rw [e] at hk h6; exact no_6 h hk h6
    · exact ih (by omega) (by omega) (flag_6 h hk h6).1
theorem flags_2 : ∀ k, k ≤ (clL x).length → flN x k ≤ 2
  | 0, _ => by unfold flN; omega
  | k + 1, hk => by
    by_cases h2 : 2 ≤ k
    · have ih := flags_2 k (by omega)
      unfold flN
      rw [if_neg (all_6 h k (by omega) h2)]
      exact ih
    · have := flN_le x (k + 1); omega
set_option maxHeartbeats 1000000 in
/-- A hard rune stands alone, or the clump is CR LF. -/
theorem hards : haN x (clL x).length = 0 ∨ (clL x).length ≤ 1 ∨ x = crlfB := by
  by_cases hl : (clL x).length ≤ 1
  · exact .inr (.inl hl)
  have no : ∀ k, k + 1 < (clL x).length → (hardC (clN x k) ∨ hardC (clN x (k + 1))) → k = 0 ∧ (clL x).length = 2 := by
    intro k hk hh
    obtain ⟨e1, e2⟩ := no_hard h hk hh
    refine ⟨Classical.byContradiction fun hn => ?_, Classical.byContradiction fun hn => ?_⟩
    · obtain ⟨k', rfl⟩ : ∃ k', k = k' + 1 := ⟨k - 1, by omega⟩
      have := no_hard h (k := k') (by omega) (.inr (by rw [e1]; exact .inl rfl))
      omega
    · by_cases h3 : k + 2 < (clL x).length
      · have := no_hard h (k := k + 1) h3 (.inl (by rw [e2]; exact .inr (.inl rfl)))
        omega
      · obtain ⟨k', rfl⟩ : ∃ k', k = k' + 1 := ⟨k - 1, by omega⟩
        have := no_hard h (k := k') (by omega) (.inr (by rw [e1]; exact .inl rfl))
        omega
  by_cases hx : ∃ k, k < (clL x).length ∧ hardC (clN x k)
  · right; right
    obtain ⟨k, hk, hh⟩ := hx
    obtain ⟨j, hj, hhj⟩ : ∃ j, j + 1 < (clL x).length ∧ (hardC (clN x j) ∨ hardC (clN x (j + 1))) := by
      by_cases e : k + 1 < (clL x).length
      · exact ⟨k, e, .inl hh⟩
      · exact ⟨k - 1, by omega, .inr (by rw [show k - 1 + 1 = k by omega]; exact hh)⟩
    obtain ⟨rfl, h2⟩ := no j hj hhj
    obtain ⟨e1, e2⟩ := no_hard h hj hhj
    rw [clL_len] at h2
    have g0 := List.getElem?_eq_getElem (show 0 < (cut x 0).length by omega)
    have g1 := List.getElem?_eq_getElem (show 1 < (cut x 0).length by omega)
    obtain ⟨a0, b0⟩ := at_get x 0 (by omega)
    obtain ⟨a1, b1⟩ := at_get x 1 (by omega)
    rw [clN_at g0] at e1
    rw [Nat.zero_add, clN_at g1] at e2
    generalize (cut x 0)[0] = i0 at *
    generalize (cut x 0)[1] = i1 at *
    have z0 : i0 = 0 := by have := a0.len4; simpa using this
    subst z0
    have d0 := dec_13 b0 (cls_13 e1)
    have ht : (cut x 0).take 1 = [] ++ [0] := by
      rw [List.take_add_one, g0]; rfl
    obtain ⟨_, _, e3⟩ := a1.snoc ht
    rw [d0.1] at e3
    have hi1 : i1 = 1 := by omega
    subst hi1
    have h10 : (dec x 1).1 = 10 := cls_10 e2
    have d1 : (dec x 1).2 = 1 ∧ byt x 1 = 10 := by
      rcases rune_or x 1 b1 with ⟨_, hr⟩ | ⟨hd, _⟩
      · rw [h10] at hr
        have := byt_lt x 1
        omega
      · rw [hd] at h10; simp at h10
    have hall := at_all x
    have ht2 : cut x 0 = [0] ++ [1] := by
      have : (cut x 0).take 2 = cut x 0 := List.take_of_length_le (by omega)
      rw [← this, List.take_add_one, ht, g1]; rfl
    obtain ⟨_, _, e4⟩ := hall.snoc ht2
    rw [d1.1] at e4
    apply ext_byt
    · rw [e4]; rfl
    · intro i hi
      rw [e4] at hi
      have : i = 0 ∨ i = 1 := by omega
      rcases this with rfl | rfl
      · rw [d0.2]; rfl
      · rw [d1.2]; rfl
  · left
    have key : ∀ k, k ≤ (clL x).length → haN x k = 0 := by
      intro k
      induction k with
      | zero => intro _; rfl
      | succ k ih =>
        intro hk
        unfold haN
        rw [if_neg, ih (by omega)]
        intro hc
        exact hx ⟨k, by omega, by unfold hardC; omega⟩
    exact key _ (Nat.le_refl _)
end
end Go.Proofs.Ytodbjehggkdjaaa
