/-
  There and back, joined: a quoted text says what was quoted; it is good; no beginning of it is one.
-/
import Derived.Test.YtbmapellhcdipaaDoorQuoS
namespace Go.Proofs.YtbmapellhcdipaaDoor
open Go.RowKit
set_option linter.unusedVariables false
set_option linter.unusedSimpArgs false

theorem qd_escn {s x : ByteArray} {i n : Nat} (b : ByteArray) (h : i < s.size) (h2 : byt s i = 92) (h3 : esc (s.extract (i + 1) s.size) = (x, n)) (h4 : n ≠ 0) : qd s i b = qd s (i + 1 + n) (b ++ x) := by
  rw [qd_esc b h h2 (by rw [h3]; exact h4), h3]
theorem braces_sz (r : Nat) : (braces r).size = (hexs r).size + 4 := by
  simp only [braces, ByteArray.size_append, one_size]
  omega
theorem ar7 (p m : Nat) : p + 1 + (m + 3) = p + (m + 4) := by omega
/-- One piece. -/
theorem qd_piece {s T : ByteArray} {i p : Nat} (b : ByteArray) (hi : i < s.size) (h : LiesAt T p (qp s i)) : qd T p b = qd T (p + (qp s i).size) (b ++ s.extract i (i + (dec s i).2)) := by
  have hbl := byt_lt s i
  have hrle := dec_le hi
  have two_case : qp s i = two (byt s i) → (dec s i).2 = 1 → qd T p b = qd T (p + (qp s i).size) (b ++ s.extract i (i + (dec s i).2)) := fun hq hn => by
    rw [hq] at h ⊢
    obtain ⟨a0, a1, a2⟩ := esc_two h hbl
    rw [qd_escn b a0 a1 a2 (by decide), two_size, hn, low_one hi]
  unfold qp at h ⊢
  by_cases h0 : wid s i = 0
  · refine two_case (by unfold qp; rw [if_pos h0]) (by rw [dec_of_wid hi h0])
  · have hen := (rune_of_wid hi h0).enc
    have hn := wid_snd h0
    by_cases h1 : lett (dec s i).1 ≠ 0
    · rw [if_neg h0, if_pos h1] at h ⊢
      have hu : unl (lett (dec s i).1) = (dec s i).1 ∧ (dec s i).1 ≠ 0 ∧ (dec s i).1 < 128 := by
        rcases lett_1 h1 with e | e | e | e | e <;> rw [e] <;> decide
      obtain ⟨a0, a1, a2⟩ := esc_lett h (lett_lt _) (by rw [hu.1]; exact hu.2.1)
      rw [qd_escn b a0 a1 a2 (by decide), hu.1, hn, ← hen]
      have he : Utf8.encode ((dec s i).1 : Nat) = one (dec s i).1 := enc_1 hu.2.2
      rw [he, ByteArray.size_append, one_size, one_size]
    · by_cases h2 : (dec s i).1 < 32 ∨ (dec s i).1 = 127
      · refine two_case (by unfold qp; rw [if_neg h0, if_neg h1, if_pos h2]) ?_
        have hb := small_rune hi h0 (by omega)
        rw [(dec_low hi (by omega)).1]
      · by_cases h3 : hr (dec s i).1 = true
        · rw [if_neg h0, if_neg h1, if_neg h2, if_pos h3] at h ⊢
          obtain ⟨a0, a1, a2⟩ := esc_braces h hrle (dec_scalar hi)
          rw [qd_escn b a0 a1 a2 (Nat.succ_ne_zero _), hn, ← hen, braces_sz, ar7]
        · rw [if_neg h0, if_neg h1, if_neg h2, if_neg h3] at h ⊢
          have hra := rune_of_enc (s := T) (i := p) (c := (dec s i).1) (dec_scalar hi) h.1 h.2
          have hps : p < T.size := by have := hra.n4; omega
          have hd := hra.dec
          have hw := hra.wid
          have hes := (enc_size ((dec s i).1 : Nat)).1
          have hl5 := lett_0 (by simpa using h1 : lett (dec s i).1 = 0)
          have hb : byt T p ≠ 34 ∧ byt T p ≠ 92 := by
            have := hra.2
            omega
          rw [qd_on b hps hb.1 hb.2 (by rw [hw, hd]; omega), hd, hn, ← hen]
/-- The rest of a quoted text. -/
theorem qd_rest {s : ByteArray} : ∀ (m i : Nat) (A b : ByteArray), s.size - i ≤ m → i ≤ s.size → qd (A ++ (qcat s (cut s i) ++ one 34)) A.size b = (true, b ++ s.extract i s.size, (A ++ (qcat s (cut s i) ++ one 34)).size) := by
  intro m
  have hend : ∀ (i : Nat) (A b : ByteArray), ¬ i < s.size → i ≤ s.size → qd (A ++ (qcat s (cut s i) ++ one 34)) A.size b = (true, b ++ s.extract i s.size, (A ++ (qcat s (cut s i) ++ one 34)).size) := fun i A b h hi => by
    obtain rfl : i = s.size := by omega
    rw [cut_end h]
    simp only [qcat, ByteArray.empty_append]
    have h1 : LiesAt (A ++ one 34) A.size (one 34) := by
      have := LiesAt.mid A (one 34) ByteArray.empty
      rwa [ByteArray.append_empty] at this
    obtain ⟨h2, h3⟩ := h1.one (by decide)
    rw [qd_q b h2 h3, show s.extract s.size s.size = ByteArray.empty from ext_byt (by rw [ByteArray.size_extract]; simp) (fun k hk => by rw [ByteArray.size_extract] at hk; omega), ByteArray.append_empty, ByteArray.size_append, one_size]
  induction m with
  | zero => intro i A b hm hi; exact hend i A b (by omega) hi
  | succ m ih =>
    intro i A b hm hi
    by_cases hlt : i < s.size
    · have hn := dec_n hlt
      have hT : A ++ (qcat s (cut s i) ++ one 34) = (A ++ qp s i) ++ (qcat s (cut s (i + (dec s i).2)) ++ one 34) := by
        rw [cut_step hlt]
        simp only [qcat, ByteArray.append_assoc]
      have hl : LiesAt (A ++ (qcat s (cut s i) ++ one 34)) A.size (qp s i) := by
        rw [cut_step hlt]
        simp only [qcat, ByteArray.append_assoc]
        exact LiesAt.mid A (qp s i) _
      rw [qd_piece b hlt hl, hT, ← ByteArray.size_append, ih (i + (dec s i).2) (A ++ qp s i) _ (by omega) hn.2.2]
      congr 2
      rw [ByteArray.append_assoc]
      congr 1
      apply ext_byt
      · rw [ByteArray.size_append, ByteArray.size_extract, ByteArray.size_extract, ByteArray.size_extract]; omega
      · intro k hk
        rw [ByteArray.size_append, size_ext s i (i + (dec s i).2) hn.2.2, size_tail s (i + (dec s i).2) hn.2.2] at hk
        rw [byt_tail]
        by_cases h : k < (dec s i).2
        · rw [byt_append_left _ _ _ (by rw [size_ext s i (i + (dec s i).2) hn.2.2]; omega), byt_extract s i (i + (dec s i).2) k (by omega) hn.2.2]
        · have e : k = (s.extract i (i + (dec s i).2)).size + (k - (dec s i).2) := by rw [size_ext s i (i + (dec s i).2) hn.2.2]; omega
          rw [e, byt_append_right, byt_tail, size_ext s i (i + (dec s i).2) hn.2.2]
          congr 1
          omega
    · exact hend i A b hlt hi
theorem qtd_quo (s : ByteArray) : qtd (quo s) 0 = (true, s, (quo s).size) := by
  have hq : quo s = one 34 ++ (qcat s (cut s 0) ++ one 34) := by unfold quo; rw [ByteArray.append_assoc]
  have h0 : 0 < (quo s).size ∧ byt (quo s) 0 = 34 := by
    rw [hq]
    refine ⟨by rw [ByteArray.size_append, one_size]; omega, ?_⟩
    rw [byt_append_left _ _ _ (by rw [one_size]; omega), byt_one (by decide)]
  unfold qtd
  rw [if_pos h0, hq]
  have := qd_rest (s := s) s.size 0 (one 34) ByteArray.empty (by omega) (Nat.zero_le _)
  rw [one_size] at this
  rw [this, ByteArray.empty_append, ext_all]
theorem unq_quo (s : ByteArray) : unq (quo s) = (s, 0, 0) := unq_yes (qtd_quo s) (Nat.le_refl _)
theorem quo_inj {s t : ByteArray} (h : quo s = quo t) : s = t := by
  have h1 := unq_quo s
  rw [h, unq_quo t] at h1
  exact (congrArg Prod.fst h1).symm

/-! ### a longer text -/
theorem hrun_ext {t u : ByteArray} : ∀ (j k n : Nat), (hrun t j k n).1 < t.size → hrun (t ++ u) j k n = hrun t j k n
  | 0, k, n, h => rfl
  | j + 1, k, n, h => by
    by_cases hh : k < t.size ∧ hx (byt t k) < 16
    · rw [hrun_on hh.1 hh.2] at h ⊢
      rw [hrun_on (by rw [ByteArray.size_append]; omega) (by rw [byt_append_left _ _ _ hh.1]; exact hh.2), byt_append_left _ _ _ hh.1]
      exact hrun_ext j _ _ h
    · rw [hrun_end hh] at h ⊢
      have hk : k < t.size := h
      rw [hrun_end (fun h2 => hh ⟨hk, by rw [byt_append_left _ _ _ hk] at h2; exact h2.2⟩)]
theorem esc_ext {t u : ByteArray} (h : (esc t).2 ≠ 0) : esc (t ++ u) = esc t := by
  have hz : (t ++ u).size = t.size + u.size := ByteArray.size_append ..
  have h0 : ¬ t.size = 0 := fun e => h (by unfold esc; rw [if_pos e])
  have b0 := byt_append_left t u 0 (by omega)
  by_cases h1 : unl (byt t 0) ≠ 0
  · unfold esc
    rw [if_neg h0, if_neg (by omega), b0, if_pos h1, if_pos h1]
  by_cases h2 : byt t 0 = 120 ∧ 2 < t.size
  · unfold esc
    rw [if_neg h0, if_neg (by omega), b0, if_neg h1, if_neg h1, if_pos h2, if_pos ⟨h2.1, by omega⟩, byt_append_left t u 1 (by omega), byt_append_left t u 2 (by omega)]
  by_cases h3 : byt t 0 = 117 ∧ 1 < t.size ∧ byt t 1 = 123
  · have b1 := byt_append_left t u 1 (by omega)
    have hb : (brc t).2 ≠ 0 := fun e => h (by unfold esc; rw [if_neg h0, if_neg h1, if_neg h2, if_pos h3]; exact e)
    have he1 : esc t = brc t := by unfold esc; rw [if_neg h0, if_neg h1, if_neg h2, if_pos h3]
    have he2 : esc (t ++ u) = brc (t ++ u) := by
      unfold esc
      rw [if_neg (by omega), b0, if_neg h1, if_neg (fun e => absurd (e.1.symm.trans h3.1) (by decide)), b1, if_pos ⟨h3.1, by omega, h3.2.2⟩]
    rw [he1, he2]
    have hlt : (hrun t 6 2 0).1 < t.size := by
      by_cases e : (hrun t 6 2 0).1 < t.size
      · exact e
      · exact absurd (show (brc t).2 = 0 by unfold brc; rw [if_pos (.inr (.inl (Nat.le_of_not_lt e)))]) hb
    have hsp := (hrun_spec t 6 2 0 h3.2.1).1
    unfold brc
    rw [hrun_ext 6 2 0 hlt]
    generalize hrun t 6 2 0 = p at *
    rw [byt_append_left t u p.1 hlt, byt_append_left t u 2 (by omega)]
    have e1 : ¬ t.size ≤ p.1 := by omega
    have e2 : ¬ (t ++ u).size ≤ p.1 := by omega
    simp only [e1, e2, false_or]
  · exact absurd (show (esc t).2 = 0 by unfold esc; rw [if_neg h0, if_neg h1, if_neg h2, if_neg h3]) h
theorem ext_app (t u : ByteArray) (k : Nat) (hk : k ≤ t.size) : (t ++ u).extract k (t ++ u).size = t.extract k t.size ++ u := by
  have hz : (t ++ u).size = t.size + u.size := ByteArray.size_append ..
  apply ext_byt
  · have h2 : (t.extract k t.size ++ u).size = (t.size - k) + u.size := by rw [ByteArray.size_append, size_tail t k hk]
    rw [size_tail _ k (by omega), h2, hz]; omega
  · intro i hi
    rw [size_tail _ k (by omega)] at hi
    rw [byt_tail]
    by_cases h : k + i < t.size
    · rw [byt_append_left _ _ _ h, byt_append_left _ _ _ (by rw [size_tail t k hk]; omega), byt_tail]
    · have e1 : k + i = t.size + (k + i - t.size) := by omega
      have e2 : i = (t.extract k t.size).size + (k + i - t.size) := by rw [size_tail t k hk]; omega
      rw [e1, byt_append_right]
      conv => rhs; rw [e2]
      rw [byt_append_right]
theorem rune_ext {t u : ByteArray} {i r n : Nat} (h : RuneAt t i r n) : RuneAt (t ++ u) i r n := by
  have h4 := h.n4
  have hz : (t ++ u).size = t.size + u.size := ByteArray.size_append ..
  obtain ⟨h1, h2⟩ := h
  refine ⟨by omega, ?_⟩
  have hb : ∀ k, k < n → byt (t ++ u) (i + k) = byt t (i + k) := fun k hk => byt_append_left _ _ _ (by omega)
  have b0 := hb 0 (by omega)
  rw [Nat.add_zero] at b0
  rcases h2 with ⟨rfl, h⟩ | ⟨rfl, h⟩ | ⟨rfl, h⟩ | ⟨rfl, h⟩
  · left; rw [b0]; exact ⟨rfl, h⟩
  · right; left; rw [b0, hb 1 (by omega)]; exact ⟨rfl, h⟩
  · right; right; left; rw [b0, hb 1 (by omega), hb 2 (by omega)]; exact ⟨rfl, h⟩
  · right; right; right; rw [b0, hb 1 (by omega), hb 2 (by omega), hb 3 (by omega)]; exact ⟨rfl, h⟩
/-- What is a quoted text at a text's beginning is one in a longer text. -/
theorem qd_ext {t u : ByteArray} : ∀ (m i : Nat) (b x : ByteArray) (e : Nat), t.size - i ≤ m → qd t i b = (true, x, e) → qd (t ++ u) i b = (true, x, e) := by
  intro m
  have hno : ∀ (i : Nat) (b x : ByteArray) (e : Nat), ¬ i < t.size → qd t i b = (true, x, e) → qd (t ++ u) i b = (true, x, e) := fun i b x e h hq => by
    rw [qd_end b h] at hq; injection hq with hq; cases hq
  have hz : (t ++ u).size = t.size + u.size := ByteArray.size_append ..
  induction m with
  | zero => intro i b x e hm hq; exact hno i b x e (by omega) hq
  | succ m ih =>
    intro i b x e hm hq
    by_cases hi : i < t.size
    · have b0 := byt_append_left t u i hi
      by_cases h1 : byt t i = 34
      · rw [qd_q b hi h1] at hq
        rw [qd_q b (by omega) (by rw [b0]; exact h1)]
        exact hq
      by_cases h2 : byt t i = 92
      · by_cases h3 : (esc (t.extract (i + 1) t.size)).2 = 0
        · rw [qd_bad b hi h2 h3] at hq; injection hq with hq; cases hq
        · rw [qd_esc b hi h2 h3] at hq
          have h4 : esc ((t ++ u).extract (i + 1) (t ++ u).size) = esc (t.extract (i + 1) t.size) := by rw [ext_app t u (i + 1) hi]; exact esc_ext h3
          rw [qd_esc b (by omega) (by rw [b0]; exact h2) (by rw [h4]; exact h3), h4]
          exact ih _ _ _ _ (by omega) hq
      · by_cases h3 : wid t i = 0 ∨ (dec t i).1 < 32 ∨ (dec t i).1 = 127
        · rw [qd_off b hi h1 h2 h3] at hq; injection hq with hq; cases hq
        · rw [qd_on b hi h1 h2 h3] at hq
          have hn := dec_n hi
          have hw : wid t i ≠ 0 := fun e => h3 (.inl e)
          have hr := rune_ext (u := u) (rune_of_wid hi hw)
          have hd : dec (t ++ u) i = dec t i := by rw [hr.dec, ← wid_snd hw]
          rw [qd_on b (by omega) (by rw [b0]; exact h1) (by rw [b0]; exact h2) (by rw [hr.wid, hd]; exact h3), hd]
          exact ih _ _ _ _ (by omega) hq
    · exact hno i b x e hi hq
theorem qtd_ext {t u x : ByteArray} {a e : Nat} (h : qtd t a = (true, x, e)) : qtd (t ++ u) a = (true, x, e) := by
  unfold qtd at h ⊢
  split at h
  · rename_i h0
    rw [if_pos ⟨by rw [ByteArray.size_append]; omega, by rw [byt_append_left _ _ _ h0.1]; exact h0.2⟩]
    exact qd_ext t.size _ _ _ _ (by omega) h
  · injection h with h; cases h
/-- No beginning of a quoted text is one. -/
theorem unq_pre (s : ByteArray) (n : Nat) (hn : n < (quo s).size) : ∃ e, unq ((quo s).extract 0 n) = (ByteArray.empty, e, 18) ∧ e ≤ n := by
  have hz : ((quo s).extract 0 n).size = n := by rw [ByteArray.size_extract]; omega
  obtain ⟨⟨ok, x, e⟩, hq⟩ : ∃ r, qtd ((quo s).extract 0 n) 0 = r := ⟨_, rfl⟩
  have hpos : e ≤ n := by
    unfold qtd at hq
    split at hq
    · rename_i h0
      have := (qd_pos ((quo s).extract 0 n) (0 + 1) ByteArray.empty (by omega)).2.1
      rw [hq, hz] at this
      exact this
    · injection hq with _ hq; injection hq with _ hq; omega
  cases ok with
  | false => exact ⟨e, unq_no hq, hpos⟩
  | true =>
    by_cases he : n ≤ e
    · exfalso
      have h1 := qtd_ext (u := (quo s).extract n (quo s).size) hq
      have h2 : (quo s).extract 0 n ++ (quo s).extract n (quo s).size = quo s := by
        apply ext_byt
        · rw [ByteArray.size_append, hz, size_tail _ n (by omega)]; omega
        · intro k hk
          by_cases h : k < n
          · rw [byt_append_left _ _ _ (by omega), byt_extract _ 0 n k (by omega) (by omega), Nat.zero_add]
          · have e1 : k = ((quo s).extract 0 n).size + (k - n) := by rw [hz]; omega
            rw [e1, byt_append_right, byt_tail, hz]
      rw [h2, qtd_quo] at h1
      injection h1 with _ h1
      injection h1 with _ h1
      omega
    · exact ⟨e, unq_long hq (by rw [hz]; exact he), hpos⟩
end Go.Proofs.YtbmapellhcdipaaDoor
