/-
  Clumps of texts that are cut, and put together: plain.
-/
import Derived.Test.YthbcancckogloaaClmQ
namespace Go.Proofs.Ythbcancckogloaa
set_option linter.unusedVariables false
set_option linter.unusedSimpArgs false

/-! ### what stands ahead of a break does not matter behind it -/
theorem bt_cons (a : Int) (l : List Int) (b : Int) : bt (a :: l) b =
    if a = 1 ∧ b = 2 then false else if hardC a ∨ hardC b then true
    else if a = 7 ∧ (b = 7 ∨ b = 8 ∨ b = 10 ∨ b = 11) then false
    else if (a = 10 ∨ a = 8) ∧ (b = 8 ∨ b = 9) then false
    else if (a = 11 ∨ a = 9) ∧ b = 9 then false
    else if b = 5 ∨ b = 4 then false
    else if a = 4 ∧ b = 12 ∧ pic l = true then false
    else if a = 6 ∧ b = 6 ∧ flg (a :: l) % 2 = 1 then false
    else true := rfl
theorem pic_cut {L : List Int} {c0 : Int} (h : bt L c0 = true) (hc : c0 = 4 ∨ c0 = 5) : pic L = false := by
  cases L with
  | nil => rfl
  | cons y l =>
    rw [bt_cons] at h
    have hh : ¬ hardC c0 := by unfold hardC; omega
    rw [if_neg (show ¬ (y = 1 ∧ c0 = 2) by omega)] at h
    by_cases hy : hardC y
    · unfold hardC at hy
      show (if y = 5 then pic l else decide (y = 12)) = false
      rw [if_neg (by omega)]; simp; omega
    · rw [if_neg (by rintro (h | h); exact hy h; exact hh h)] at h
      split at h
      · cases h
      split at h
      · cases h
      split at h
      · cases h
      split at h
      · cases h
      · omega
theorem flg_cut {L : List Int} (h : bt L 6 = true) : flg L % 2 = 0 := by
  cases L with
  | nil => rfl
  | cons y l =>
    rw [bt_cons] at h
    by_cases hy : y = 6
    · subst hy
      simp [hardC] at h
      exact h
    · show (if y = 6 then flg l + 1 else 0) % 2 = 0
      rw [if_neg hy]
theorem pic_app (L : List Int) : ∀ M : List Int, (∀ x ∈ M, x = 5) → pic (M ++ L) = pic L
  | [], _ => rfl
  | x :: M, h => by
    have hx := h x (by simp)
    subst hx
    show (if (5 : Int) = 5 then pic (M ++ L) else decide ((5 : Int) = 12)) = _
    rw [if_pos rfl]
    exact pic_app L M (fun y hy => h y (by simp [hy]))
theorem pic_two {L L' : List Int} : ∀ M : List Int, (∃ x ∈ M, x ≠ 5) → pic (M ++ L) = pic (M ++ L')
  | [], h => by obtain ⟨x, hx, _⟩ := h; simp at hx
  | x :: M, h => by
    show (if x = 5 then pic (M ++ L) else decide (x = 12)) = (if x = 5 then pic (M ++ L') else decide (x = 12))
    by_cases hx : x = 5
    · rw [if_pos hx, if_pos hx]
      refine pic_two M ?_
      obtain ⟨y, hy, hne⟩ := h
      rcases List.mem_cons.1 hy with rfl | hy
      · exact absurd hx hne
      · exact ⟨y, hy, hne⟩
    · rw [if_neg hx, if_neg hx]
theorem flg_app (L : List Int) : ∀ M : List Int, (∀ x ∈ M, x = 6) → flg (M ++ L) = M.length + flg L
  | [], _ => by simp
  | x :: M, h => by
    have hx := h x (by simp)
    subst hx
    show (if (6 : Int) = 6 then flg (M ++ L) + 1 else 0) = _
    rw [if_pos rfl, flg_app L M (fun y hy => h y (by simp [hy]))]
    simp; omega
theorem flg_two {L L' : List Int} : ∀ M : List Int, (∃ x ∈ M, x ≠ 6) → flg (M ++ L) = flg (M ++ L')
  | [], h => by obtain ⟨x, hx, _⟩ := h; simp at hx
  | x :: M, h => by
    show (if x = 6 then flg (M ++ L) + 1 else 0) = (if x = 6 then flg (M ++ L') + 1 else 0)
    by_cases hx : x = 6
    · rw [if_pos hx, if_pos hx, flg_two (L := L) (L' := L') M]
      obtain ⟨y, hy, hne⟩ := h
      rcases List.mem_cons.1 hy with rfl | hy
      · exact absurd hx hne
      · exact ⟨y, hy, hne⟩
    · rw [if_neg hx, if_neg hx]
theorem bt_congr {a b : Int} {l l' : List Int} (hp : a = 4 → b = 12 → pic l = pic l') (hf : a = 6 → b = 6 → flg (a :: l) % 2 = flg (a :: l') % 2) : bt (a :: l) b = bt (a :: l') b := by
  rw [bt_cons, bt_cons]
  by_cases h1 : a = 4 ∧ b = 12
  · rw [hp h1.1 h1.2]
    have h6 : ¬ (a = 6 ∧ b = 6) := by omega
    have e1 : ¬ (a = 6 ∧ b = 6 ∧ flg (a :: l) % 2 = 1) := fun h => h6 ⟨h.1, h.2.1⟩
    have e2 : ¬ (a = 6 ∧ b = 6 ∧ flg (a :: l') % 2 = 1) := fun h => h6 ⟨h.1, h.2.1⟩
    simp only [e1, e2]
  · have e1 : ¬ (a = 4 ∧ b = 12 ∧ pic l = true) := fun h => h1 ⟨h.1, h.2.1⟩
    have e2 : ¬ (a = 4 ∧ b = 12 ∧ pic l' = true) := fun h => h1 ⟨h.1, h.2.1⟩
    simp only [e1, e2]
    by_cases h6 : a = 6 ∧ b = 6
    · rw [hf h6.1 h6.2]
    · have e1 : ¬ (a = 6 ∧ b = 6 ∧ flg (a :: l) % 2 = 1) := fun h => h6 ⟨h.1, h.2.1⟩
      have e2 : ¬ (a = 6 ∧ b = 6 ∧ flg (a :: l') % 2 = 1) := fun h => h6 ⟨h.1, h.2.1⟩
      simp only [e1, e2]
theorem all_or {p : Int → Prop} [DecidablePred p] : ∀ M : List Int, (∀ x ∈ M, p x) ∨ ∃ x ∈ M, ¬ p x
  | [] => .inl (by simp)
  | x :: M => by
    by_cases hx : p x
    · rcases all_or (p := p) M with h | ⟨y, hy, h⟩
      · exact .inl (fun y hy => by rcases List.mem_cons.1 hy with rfl | hy; exact hx; exact h y hy)
      · exact .inr ⟨y, by simp [hy], h⟩
    · exact .inr ⟨x, by simp, hx⟩
/-- Behind a break it does not matter what is ahead of it. -/
theorem bt_cut (M L : List Int) (c0 b : Int) (h : bt L c0 = true) : bt (M ++ c0 :: L) b = bt (M ++ [c0]) b := by
  have snoc : ∀ (X : List Int) (Y : List Int), X ++ c0 :: Y = (X ++ [c0]) ++ Y := fun X Y => by simp
  have hpic : ∀ X : List Int, pic (X ++ c0 :: L) = pic (X ++ [c0]) := by
    intro X
    rw [snoc X L]
    rcases all_or (p := fun x => x = 5) (X ++ [c0]) with h5 | h5
    · have hc : c0 = 5 := h5 c0 (by simp)
      have e1 := pic_app L (X ++ [c0]) h5
      have e2 := pic_app [] (X ++ [c0]) h5
      rw [List.append_nil] at e2
      rw [e1, e2, pic_cut h (.inr hc)]; rfl
    · have e := pic_two (L := L) (L' := []) (X ++ [c0]) h5
      rw [List.append_nil] at e
      exact e
  have hflg : ∀ X : List Int, flg (X ++ c0 :: L) % 2 = flg (X ++ [c0]) % 2 := by
    intro X
    rw [snoc X L]
    rcases all_or (p := fun x => x = 6) (X ++ [c0]) with h6 | h6
    · have hc : c0 = 6 := h6 c0 (by simp)
      have e1 := flg_app L (X ++ [c0]) h6
      have e2 := flg_app [] (X ++ [c0]) h6
      rw [List.append_nil] at e2
      have := flg_cut (by rw [hc] at h; exact h)
      have h0 : flg [] = 0 := rfl
      omega
    · have e := flg_two (L := L) (L' := []) (X ++ [c0]) h6
      rw [List.append_nil] at e
      rw [e]
  cases M with
  | nil =>
    show bt (c0 :: L) b = bt (c0 :: []) b
    exact bt_congr (fun h4 _ => by rw [pic_cut h (.inl h4)]; rfl) (fun _ _ => hflg [])
  | cons a X =>
    show bt (a :: (X ++ c0 :: L)) b = bt (a :: (X ++ [c0])) b
    exact bt_congr (fun _ _ => hpic X) (fun _ _ => hflg (a :: X))

/-! ### breaks of a text that is cut at one -/
theorem ext_ext (s : ByteArray) (a b : Nat) (h : a ≤ b) (hb : b ≤ s.size) : (s.extract 0 b).extract 0 a = s.extract 0 a := by
  have hz := size_ext s 0 b hb
  apply ext_byt
  · rw [size_ext _ _ _ (by omega), size_ext _ _ _ (by omega)]
  · intro i hi
    rw [size_ext _ _ _ (by omega)] at hi
    rw [byt_extract _ _ _ _ (by omega) (by omega), byt_extract _ _ _ _ (by omega) (by omega), byt_extract _ _ _ _ (by omega) (by omega), Nat.zero_add]
theorem ext_mid (s : ByteArray) (p q : Nat) (h : p + q ≤ s.size) : (s.extract p s.size).extract 0 q = s.extract p (p + q) := by
  have hz := size_ext s p s.size (Nat.le_refl _)
  apply ext_byt
  · rw [size_ext _ _ _ (by omega), size_ext _ _ _ (by omega)]; omega
  · intro i hi
    rw [size_ext _ _ _ (by omega)] at hi
    rw [byt_extract _ _ _ _ (by omega) (by omega), byt_extract _ _ _ _ (by omega) (by omega), byt_extract _ _ _ _ (by omega) (by omega), Nat.zero_add]
theorem clsAt_pre {s : ByteArray} {i p : Nat} (hi : i + (dec s i).2 ≤ p) (hp : p ≤ s.size) (h0 : i < s.size) : clsAt (s.extract 0 p) i = clsAt s i := by unfold clsAt; rw [dec_pre hi hp h0]
theorem clsAt_suf (s : ByteArray) (p j : Nat) (hp : p ≤ s.size) : clsAt (s.extract p s.size) j = clsAt s (p + j) := by unfold clsAt; rw [dec_suf s p j hp]
theorem isb_pre {s : ByteArray} {l : List Nat} {i p : Nat} (h : At s l i) (hi : i + (dec s i).2 ≤ p) (hp : p ≤ s.size) (h0 : i < s.size) : isb (s.extract 0 p) i = isb s i := by
  have h1 := at_pre h (p := p) (by omega) hp
  rw [isb_at h, isb_at h1, clsAt_pre hi hp h0]
  have e : ctx (s.extract 0 p) l = ctx s l := by
    unfold ctx
    refine congrArg List.reverse (List.map_congr_left fun j hj => ?_)
    have := h.dec_lt j hj
    exact clsAt_pre (by omega) hp this.1
  rw [e]
theorem at_suf {s : ByteArray} {l : List Nat} {p : Nat} (hl : At s l p) : ∀ {m : List Nat} {q : Nat}, At (s.extract p s.size) m q → At s (l ++ m.map (p + ·)) (p + q) := by
  intro m q h
  have hp := hl.le
  induction h with
  | zero => simpa using hl
  | @step m q h h0 ih =>
    rw [size_tail s p hp] at h0
    have h2 := ih.step (by omega)
    rw [dec_suf s p q hp, ← Nat.add_assoc]
    rw [List.map_append, ← List.append_assoc]
    exact h2
theorem isb_suf {s : ByteArray} {l m : List Nat} {p q : Nat} (hl : At s l p) (hb : isb s p = true) (h : At (s.extract p s.size) m q) (h0 : p + q < s.size) : isb (s.extract p s.size) q = isb s (p + q) := by
  have hp := hl.le
  have h2 := at_suf hl h
  rw [isb_at h, isb_at h2, clsAt_suf s p q hp]
  cases m with
  | nil =>
    have : q = 0 := by have := h.len4; simpa using this
    subst this
    rw [show ctx (s.extract p s.size) [] = [] from rfl, show bt [] (clsAt s (p + 0)) = true from rfl]
    rw [isb_at hl] at hb
    simpa using hb.symm
  | cons x m =>
    have hx : x = 0 := by
      have hz : 0 < (s.extract p s.size).size := by
        rw [size_tail s p hp]; omega
      have hc := h.cut
      rw [cut_step hz] at hc
      simp at hc
      exact hc.1.symm
    subst hx
    have e1 : ctx (s.extract p s.size) (0 :: m) = (m.map (fun j => clsAt s (p + j))).reverse ++ [clsAt s p] := by
      unfold ctx
      rw [List.map_cons, List.reverse_cons, clsAt_suf s p 0 hp, show m.map (clsAt (s.extract p s.size)) = m.map (fun j => clsAt s (p + j)) from List.map_congr_left fun j _ => clsAt_suf s p j hp]
      rfl
    have e2 : ctx s (l ++ (0 :: m).map (p + ·)) = (m.map (fun j => clsAt s (p + j))).reverse ++ clsAt s p :: ctx s l := by
      unfold ctx
      rw [List.map_append, List.reverse_append, List.map_cons, List.map_cons, List.reverse_cons, List.map_map, List.append_assoc]
      rfl
    rw [e1, e2]
    rw [isb_at hl] at hb
    exact (bt_cut _ _ _ _ hb).symm
theorem filter_congr_mem {α : Type} {f g : α → Bool} : ∀ {l : List α}, (∀ x ∈ l, f x = g x) → l.filter f = l.filter g
  | [], _ => rfl
  | x :: l, h => by
    rw [List.filter_cons, List.filter_cons, h x (by simp), filter_congr_mem (fun y hy => h y (by simp [hy]))]
/-- The breaks of a text, of what is ahead of one of them, and of what is behind. -/
theorem brk_split {s : ByteArray} {p : Nat} (h : p ∈ brk s) : ∃ A B, brk s = A ++ p :: B ∧ brk (s.extract 0 p) = A ++ [p] ∧ (brk (s.extract p s.size)).map (p + ·) = p :: B := by
  have hp := brk_le h
  by_cases h0 : p = 0
  · subst h0
    obtain ⟨B, hB⟩ : ∃ B, brk s = 0 :: B := by
      have := brk_zero s
      cases hb : brk s with
      | nil => rw [hb] at this; simp at this
      | cons x B =>
        rw [hb] at this
        rcases List.mem_cons.1 this with h | h
        · exact ⟨B, by rw [h]⟩
        · have hs := brk_sorted s
          rw [hb] at hs
          have := (List.pairwise_cons.1 hs).1 0 h
          omega
    refine ⟨[], B, hB, ?_, ?_⟩
    · unfold brk
      rw [if_pos (by rw [size_ext _ _ _ (by omega)])]; rfl
    · rw [ext_all, hB]; simp
  have hsz : s.size ≠ 0 := by omega
  by_cases hps : p = s.size
  · subst hps
    refine ⟨(cut s 0).filter (isb s), [], ?_, ?_, ?_⟩
    · unfold brk; rw [if_neg hsz]
    · rw [ext_all]; unfold brk; rw [if_neg hsz]
    · have e : (s.extract s.size s.size).size = 0 := by rw [size_ext _ _ _ (Nat.le_refl _)]; omega
      unfold brk
      rw [if_pos e]; simp
  · rcases mem_brk.1 h with h | h | ⟨hlt, l, hl, hbt⟩
    · omega
    · omega
    have hb : isb s p = true := by rw [isb_at hl]; exact hbt
    have hcut := hl.cut
    have hsuf := cut_suf s p hp _ 0 (Nat.le_refl _)
    rw [Nat.add_zero] at hsuf
    have hz1 := size_ext s 0 p hp
    have hz2 := size_tail s p hp
    have e1 : (cut (s.extract 0 p) 0).filter (isb (s.extract 0 p)) = l.filter (isb s) := by
      rw [cut_pre hl]
      refine filter_congr_mem fun x hx => ?_
      have hd := hl.dec_lt x hx
      obtain ⟨k, hk, rfl⟩ := List.mem_iff_getElem.1 hx
      have hg := (at_get s k (by rw [hcut]; simp; omega)).1
      have hge : (cut s 0)[k]'(by rw [hcut]; simp; omega) = l[k] := by
        have : (cut s 0)[k]? = some l[k] := by rw [hcut, List.getElem?_append_left hk, List.getElem?_eq_getElem hk]
        exact (List.getElem?_eq_some_iff.1 this).2
      rw [hge] at hg
      exact isb_pre hg hd.2 hp hd.1
    have e2 : (cut s p).filter (isb s) = ((cut (s.extract p s.size) 0).filter (isb (s.extract p s.size))).map (p + ·) := by
      rw [← hsuf, List.filter_map]
      refine congrArg (List.map (p + ·)) (filter_congr_mem fun x hx => ?_)
      obtain ⟨⟨m, hm⟩, hx2⟩ := mem_cut.1 hx
      rw [hz2] at hx2
      exact (isb_suf hl hb hm (by omega)).symm
    have e3 : (cut s p).filter (isb s) = p :: (cut s (p + (dec s p).2)).filter (isb s) := by
      rw [cut_step hlt, List.filter_cons, if_pos hb]
    refine ⟨l.filter (isb s), (cut s (p + (dec s p).2)).filter (isb s) ++ [s.size], ?_, ?_, ?_⟩
    · unfold brk
      rw [if_neg hsz, hcut, List.filter_append, e3]; simp
    · unfold brk
      rw [if_neg (by omega), e1, hz1]; simp
    · unfold brk
      rw [if_neg (by omega), List.map_append, ← e2, e3, hz2]
      simp; omega
theorem prs_app : ∀ (A : List Nat) (p : Nat) (B : List Nat), prs (A ++ p :: B) = prs (A ++ [p]) ++ prs (p :: B)
  | [], p, B => by simp [prs]
  | [a], p, B => by simp [prs]
  | a :: b :: A, p, B => by
    have := prs_app (b :: A) p B
    simp only [List.cons_append] at this ⊢
    simp only [prs, this, List.cons_append]
theorem prs_map (p : Nat) : ∀ l : List Nat, prs (l.map (p + ·)) = (prs l).map fun q => (p + q.1, p + q.2)
  | [] => rfl
  | [a] => rfl
  | a :: b :: l => by
    have := prs_map p (b :: l)
    simp only [List.map_cons, prs] at this ⊢
    rw [this]
theorem prs_mem : ∀ (l : List Nat) (q : Nat × Nat), q ∈ prs l → q.1 ∈ l ∧ q.2 ∈ l
  | [], q, h => by simp [prs] at h
  | [a], q, h => by simp [prs] at h
  | a :: b :: l, q, h => by
    simp only [prs, List.mem_cons] at h
    rcases h with rfl | h
    · exact ⟨by simp, by simp⟩
    · have := prs_mem (b :: l) q h
      exact ⟨by simp [this.1] , by simp [this.2]⟩
/-- The texts of a text's clumps. -/
def cluT (s : ByteArray) : List ByteArray := (clumps s).map fun q => s.extract q.1 q.2
theorem prs_le : ∀ (l : List Nat), l.Pairwise (· < ·) → ∀ q ∈ prs l, q.1 < q.2
  | [], _, q, h => by simp [prs] at h
  | [a], _, q, h => by simp [prs] at h
  | a :: b :: l, hs, q, h => by
    obtain ⟨h1, h2⟩ := List.pairwise_cons.1 hs
    simp only [prs, List.mem_cons] at h
    rcases h with rfl | h
    · exact h1 b (by simp)
    · exact prs_le (b :: l) h2 q h
theorem ext_pre (s : ByteArray) (a b p : Nat) (hb : b ≤ p) (hp : p ≤ s.size) : (s.extract 0 p).extract a b = s.extract a b := by
  have hz := size_ext s 0 p hp
  apply ext_byt
  · rw [size_ext _ _ _ (by omega), size_ext _ _ _ (by omega)]
  · intro i hi
    rw [size_ext _ _ _ (by omega)] at hi
    rw [byt_extract _ _ _ _ (by omega) (by omega), byt_extract _ _ _ _ (by omega) (by omega), byt_extract _ _ _ _ (by omega) (by omega), Nat.zero_add]
theorem ext_suf (s : ByteArray) (p a b : Nat) (hb : p + b ≤ s.size) : (s.extract p s.size).extract a b = s.extract (p + a) (p + b) := by
  have hz := size_ext s p s.size (Nat.le_refl _)
  apply ext_byt
  · rw [size_ext _ _ _ (by omega), size_ext _ _ _ (by omega)]; omega
  · intro i hi
    rw [size_ext _ _ _ (by omega)] at hi
    rw [byt_extract _ _ _ _ (by omega) (by omega), byt_extract _ _ _ _ (by omega) (by omega), byt_extract _ _ _ _ (by omega) (by omega), Nat.add_assoc]
/-- A text that is cut at a break has the clumps of its two parts. -/
theorem cluT_split {s : ByteArray} {p : Nat} (h : p ∈ brk s) : cluT s = cluT (s.extract 0 p) ++ cluT (s.extract p s.size) := by
  have hp := brk_le h
  obtain ⟨A, B, h1, h2, h3⟩ := brk_split h
  unfold cluT clumps
  rw [h1, h2, prs_app, ← h3, prs_map, List.map_append, List.map_map]
  have e1 : (prs (A ++ [p])).map (fun q => s.extract q.1 q.2) = (prs (A ++ [p])).map (fun q => (s.extract 0 p).extract q.1 q.2) := by
    refine List.map_congr_left fun q hq => ?_
    have hm := prs_mem _ q hq
    rw [← h2] at hm
    have := brk_le hm.2
    rw [size_ext _ _ _ hp] at this
    exact (ext_pre s q.1 q.2 p (by omega) hp).symm
  have e2 : (prs (brk (s.extract p s.size))).map ((fun q : Nat × Nat => s.extract q.1 q.2) ∘ fun q => (p + q.1, p + q.2)) = (prs (brk (s.extract p s.size))).map (fun q => (s.extract p s.size).extract q.1 q.2) := by
    refine List.map_congr_left fun q hq => ?_
    have hm := prs_mem _ q hq
    have := brk_le hm.2
    rw [size_tail _ _ hp] at this
    exact (ext_suf s p q.1 q.2 (by omega)).symm
  rw [e1, e2]
end Go.Proofs.Ythbcancckogloaa
