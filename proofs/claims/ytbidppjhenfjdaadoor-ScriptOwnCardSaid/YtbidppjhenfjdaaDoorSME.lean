/-
  What the cards over Scan share: five listed variables, a world for the witness.
-/
import Derived.Test.YtbidppjhenfjdaaDoorQuoR
import Derived.Test.YtbidppjhenfjdaaDoorQuoG
import Derived.Test.YtbidppjhenfjdaaDoorQuoK
import Derived.Test.YtbidppjhenfjdaaDoorQuoO
import Derived.Test.YtbidppjhenfjdaaDoorSMS
import Derived.Test.YtbidppjhenfjdaaDoorScnB
import Derived.Test.YtbidppjhenfjdaaDoorGlyY
import Derived.Test.YtbidppjhenfjdaaDoorSMA
import Derived.Test.YtbidppjhenfjdaaDoorSMB
import Derived.Test.YtbidppjhenfjdaaDoorSl
import Derived.Deep.Slices
import Derived.ChangeSame
import Derived.OpenShut
import Derived.ChangeSlices
import Derived.Deep.DeepHandedRow
import Derived.Test.YtbidppjhenfjdaaDoorCards
import Derived.Test.YtbidppjhenfjdaaDoorTie
import Derived.WalkKit
import Derived.ProofKit
import Derived.Lib.LaidTab
import Derived.Lib.TrailingZeros
import Derived.Lib.ItoaNum
import Derived.SizedLaws
import Derived.Carry
import Derived.Stop.LaidErr
namespace Go.Proofs.YtbidppjhenfjdaaDoor
open Go.RowKit
set_option linter.unusedVariables false
set_option linter.unusedSimpArgs false

/-- The text x lies in t from k on. -/
def LiesAt (t : ByteArray) (k : Nat) (x : ByteArray) : Prop := k + x.size ≤ t.size ∧ ∀ i, i < x.size → byt t (k + i) = byt x i
theorem LiesAt.mid (a x r : ByteArray) : LiesAt (a ++ (x ++ r)) a.size x := by
  refine ⟨by rw [ByteArray.size_append, ByteArray.size_append]; omega, fun i hi => ?_⟩
  rw [byt_append_right, byt_append_left _ _ _ hi]
theorem LiesAt.left {t x y : ByteArray} {k : Nat} (h : LiesAt t k (x ++ y)) : LiesAt t k x := by
  obtain ⟨h1, h2⟩ := h
  rw [ByteArray.size_append] at h1 h2
  exact ⟨by omega, fun i hi => (h2 i (by omega)).trans (byt_append_left _ _ _ hi)⟩
theorem LiesAt.right {t x y : ByteArray} {k : Nat} (h : LiesAt t k (x ++ y)) : LiesAt t (k + x.size) y := by
  obtain ⟨h1, h2⟩ := h
  rw [ByteArray.size_append] at h1 h2
  refine ⟨by omega, fun i hi => ?_⟩
  have := h2 (x.size + i) (by omega)
  rw [byt_append_right] at this
  rw [← this]
  congr 1
  omega
theorem byt_one {c : Nat} (h : c < 256) : byt (one c) 0 = c := by
  show byt ⟨[UInt8.ofNat c].toArray⟩ 0 = c
  rw [mk_byt]
  exact u8_of c h
theorem LiesAt.one {t : ByteArray} {k c : Nat} (h : LiesAt t k (one c)) (hc : c < 256) : k < t.size ∧ byt t k = c := by
  obtain ⟨h1, h2⟩ := h
  rw [one_size] at h1 h2
  have := h2 0 (by omega)
  rw [byt_one hc] at this
  exact ⟨by omega, this⟩
theorem LiesAt.tail {t x : ByteArray} {k m : Nat} (h : LiesAt t (m + k) x) (hm : m ≤ t.size) : LiesAt (t.extract m t.size) k x := by
  obtain ⟨h1, h2⟩ := h
  refine ⟨by rw [size_tail t m hm]; omega, fun i hi => ?_⟩
  rw [byt_tail, ← Nat.add_assoc]
  exact h2 i hi
theorem low_one {s : ByteArray} {i : Nat} (hi : i < s.size) : s.extract i (i + 1) = one (byt s i) := by
  apply ext_byt
  · rw [ByteArray.size_extract, one_size]; omega
  · intro k hk
    rw [ByteArray.size_extract] at hk
    obtain rfl : k = 0 := by omega
    rw [byt_extract s i (i + 1) 0 (by omega) (by omega), byt_one (byt_lt s i)]
    rfl
/-- Digits are read. -/
theorem hrun_hexs {t : ByteArray} : ∀ (r : Nat) (j k n : Nat), LiesAt t k (hexs r) → (hexs r).size ≤ j → hrun t j k n = hrun t (j - (hexs r).size) (k + (hexs r).size) (n * 16 ^ (hexs r).size + r) := by
  intro r
  induction r using Nat.strongRecOn with
  | ind r ih =>
    intro j k n h hj
    by_cases hr : r < 16
    · rw [hexs_small hr] at h hj ⊢
      have hd := hexd_lt hr
      obtain ⟨h1, h2⟩ := h.one (by omega)
      rw [one_size] at hj ⊢
      obtain ⟨j, rfl⟩ : ∃ j', j = j' + 1 := ⟨j - 1, by omega⟩
      rw [hrun_on h1 (by rw [h2, hx_hexd hr]; exact hr), h2, hx_hexd hr, Nat.add_sub_cancel, Nat.pow_one, Nat.mul_comm]
    · rw [hexs_big hr] at h hj ⊢
      have hm : r % 16 < 16 := Nat.mod_lt _ (by decide)
      have hd := hexd_lt hm
      rw [ByteArray.size_append, one_size] at hj
      have h1 := ih (r / 16) (by omega) j k n h.left (by omega)
      obtain ⟨h2, h3⟩ := h.right.one (by omega)
      rw [h1]
      obtain ⟨e, he⟩ : ∃ e, e = (hexs (r / 16)).size := ⟨_, rfl⟩
      rw [ByteArray.size_append, one_size]
      rw [← he] at hj h2 h3 ⊢
      obtain ⟨j2, hj2⟩ : ∃ j2, j - e = j2 + 1 := ⟨j - e - 1, by omega⟩
      rw [hj2, hrun_on h2 (by rw [h3, hx_hexd hm]; exact hm), h3, hx_hexd hm]
      congr 1
      · omega
      · rw [Nat.pow_succ, Nat.mul_add, ← Nat.mul_assoc n, Nat.mul_comm 16 (n * 16 ^ e)]
        have := Nat.div_add_mod r 16
        omega
theorem hexs_first : ∀ (r : Nat), 16 ≤ r → byt (hexs r) 0 ≠ 48 := by
  intro r
  induction r using Nat.strongRecOn with
  | ind r ih =>
    intro hr
    rw [hexs_big (by omega)]
    have hs : 0 < (hexs (r / 16)).size := by
      by_cases h : r / 16 < 16
      · rw [hexs_small h, one_size]; omega
      · rw [hexs_big h, ByteArray.size_append, one_size]; omega
    rw [byt_append_left _ _ _ hs]
    by_cases h : r / 16 < 16
    · have hd := hexd_lt h
      rw [hexs_small h, byt_one (by omega)]
      unfold hexd
      split <;> omega
    · exact ih _ (by omega) (by omega)
/-- \x and two digits say their byte. -/
theorem esc_two {T : ByteArray} {p c : Nat} (h : LiesAt T p (two c)) (hc : c < 256) : p < T.size ∧ byt T p = 92 ∧ esc (T.extract (p + 1) T.size) = (one c, 3) := by
  have hq : c / 16 < 16 := by omega
  have hm : c % 16 < 16 := by omega
  have d1 := hexd_lt hq
  have d2 := hexd_lt hm
  unfold two at h
  obtain ⟨a0, a1⟩ := h.left.left.left.one (by decide)
  have b := h.left.left.right.one (by decide)
  have c1 := h.left.right.one (by omega)
  have c2 := h.right.one (by omega)
  simp only [ByteArray.size_append, one_size] at b c1 c2
  refine ⟨a0, a1, ?_⟩
  have hz := size_tail T (p + 1) (by omega)
  have hb := byt_tail T (p + 1)
  generalize T.extract (p + 1) T.size = t at *
  have t0 : byt t 0 = 120 := by rw [hb]; exact b.2
  have t1 : byt t 1 = hexd (c / 16) := by rw [hb]; exact c1.2
  have t2 : byt t 2 = hexd (c % 16) := by rw [hb]; exact c2.2
  have h3 : 2 < t.size := by omega
  unfold esc
  rw [if_neg (by omega), if_neg (by rw [t0]; decide), if_pos ⟨t0, h3⟩, t1, t2, hx_hexd hq, hx_hexd hm, if_pos ⟨hq, hm⟩]
  congr 2
  omega
theorem esc_lett {T : ByteArray} {p l : Nat} (h : LiesAt T p (one 92 ++ one l)) (hl : l < 256) (hu : unl l ≠ 0) : p < T.size ∧ byt T p = 92 ∧ esc (T.extract (p + 1) T.size) = (one (unl l), 1) := by
  obtain ⟨a0, a1⟩ := h.left.one (by decide)
  have b := h.right.one hl
  rw [one_size] at b
  refine ⟨a0, a1, ?_⟩
  have hz := size_tail T (p + 1) (by omega)
  have hb := byt_tail T (p + 1)
  generalize T.extract (p + 1) T.size = t at *
  have t0 : byt t 0 = l := by rw [hb]; exact b.2
  unfold esc
  rw [if_neg (by omega), t0, if_pos hu]
theorem esc_braces {T : ByteArray} {p r : Nat} (h : LiesAt T p (braces r)) (hr : r ≤ 1114111) (hv : Utf8.valid (r : Nat) = true) : p < T.size ∧ byt T p = 92 ∧ esc (T.extract (p + 1) T.size) = (Utf8.encode (r : Nat), (hexs r).size + 3) := by
  have hsz := hexs_size 6 r (by omega) (by decide)
  unfold braces at h
  obtain ⟨a0, a1⟩ := h.left.left.left.left.one (by decide)
  have b1 := h.left.left.left.right.one (by decide)
  have b2 := h.left.left.right.one (by decide)
  have hx1 := h.left.right
  have b3 := h.right.one (by decide)
  simp only [ByteArray.size_append, one_size] at b1 b2 hx1 b3
  refine ⟨a0, a1, ?_⟩
  have hz := size_tail T (p + 1) (by omega)
  have hb := byt_tail T (p + 1)
  have hx2 : LiesAt (T.extract (p + 1) T.size) 2 (hexs r) := LiesAt.tail (by rw [show p + 1 + 2 = p + (1 + 1 + 1) by omega]; exact hx1) (by omega)
  generalize T.extract (p + 1) T.size = t at *
  obtain ⟨m, hm⟩ : ∃ m, m = (hexs r).size := ⟨_, rfl⟩
  have t0 : byt t 0 = 117 := by rw [hb]; exact b1.2
  have t1 : byt t 1 = 123 := by rw [hb]; exact b2.2
  have t3 : byt t (2 + m) = 125 := by rw [hb, show p + 1 + (2 + m) = p + (1 + 1 + 1 + m) by omega, hm]; exact b3.2
  have hrun : hrun t 6 2 0 = (2 + m, r) := by
    rw [hrun_hexs r 6 2 0 hx2 hsz.2, ← hm, Nat.zero_mul, Nat.zero_add]
    exact hrun_end (fun h => by rw [t3] at h; exact absurd h.2 (by decide))
  have hfirst : ¬ (byt t 2 = 48 ∧ 3 < 2 + m) := by
    rintro ⟨h1, h2⟩
    have h3 : 16 ≤ r := by
      by_cases h : r < 16
      · rw [hexs_small h, one_size] at hm; omega
      · omega
    have := hx2.2 0 (by omega)
    rw [Nat.add_zero, h1] at this
    exact hexs_first r h3 this.symm
  unfold esc
  rw [if_neg (by omega), if_neg (by rw [t0]; decide), if_neg (by rw [t0]; omega), if_pos ⟨t0, by omega, t1⟩]
  unfold brc
  rw [hrun]
  dsimp only
  rw [if_neg (by
    rintro (h | h | h | h | h)
    · omega
    · omega
    · exact h t3
    · exact hfirst h
    · rw [hv] at h; cases h)]
  rw [← hm, show 2 + m + 1 = m + 3 by omega]
end Go.Proofs.YtbidppjhenfjdaaDoor
namespace Go.Proofs.YtbidppjhenfjdaaDoor
open Go.RowKit
set_option linter.unusedVariables false
set_option linter.unusedSimpArgs false

theorem qd_escn {s x : ByteArray} {i n : Nat} (b : ByteArray) (h : i < s.size) (h2 : byt s i = 92) (h3 : esc (s.extract (i + 1) s.size) = (x, n)) (h4 : n ≠ 0) : qd s i b = qd s (i + 1 + n) (b ++ x) := by
  rw [qd_esc b h h2 (by rw [h3]; exact h4), h3]
theorem braces_sz (r : Nat) : (braces r).size = (hexs r).size + 4 := by
  simp only [braces, ByteArray.size_append, one_size]
  omega
theorem ar7 (p m : Nat) : p + 1 + (m + 3) = p + (m + 4) := by omega
/-- One piece. -/
theorem qd_piece {s T : ByteArray} {i p : Nat} (b : ByteArray) (hi : i < s.size) (h : LiesAt T p (qp s i)) : qd T p b = qd T (p + (qp s i).size) (b ++ s.extract i (i + (dec s i).2)) := by
  have hbl := byt_lt s i
  have hrle := dec_le hi
  have two_case : qp s i = two (byt s i) → (dec s i).2 = 1 → qd T p b = qd T (p + (qp s i).size) (b ++ s.extract i (i + (dec s i).2)) := fun hq hn => by
    rw [hq] at h ⊢
    obtain ⟨a0, a1, a2⟩ := esc_two h hbl
    rw [qd_escn b a0 a1 a2 (by decide), two_size, hn, low_one hi]
  unfold qp at h ⊢
  by_cases h0 : wid s i = 0
  · refine two_case (by unfold qp; rw [if_pos h0]) (by rw [dec_of_wid hi h0])
  · have hen := (rune_of_wid hi h0).enc
    have hn := wid_snd h0
    by_cases h1 : lett (dec s i).1 ≠ 0
    · rw [if_neg h0, if_pos h1] at h ⊢
      have hu : unl (lett (dec s i).1) = (dec s i).1 ∧ (dec s i).1 ≠ 0 ∧ (dec s i).1 < 128 := by
        rcases lett_1 h1 with e | e | e | e | e <;> rw [e] <;> decide
      obtain ⟨a0, a1, a2⟩ := esc_lett h (lett_lt _) (by rw [hu.1]; exact hu.2.1)
      rw [qd_escn b a0 a1 a2 (by decide), hu.1, hn, ← hen]
      have he : Utf8.encode ((dec s i).1 : Nat) = one (dec s i).1 := enc_1 hu.2.2
      rw [he, ByteArray.size_append, one_size, one_size]
    · by_cases h2 : (dec s i).1 < 32 ∨ (dec s i).1 = 127
      · refine two_case (by unfold qp; rw [if_neg h0, if_neg h1, if_pos h2]) ?_
        have hb := small_rune hi h0 (by omega)
        rw [(dec_low hi (by omega)).1]
      · by_cases h3 : hr (dec s i).1 = true
        · rw [if_neg h0, if_neg h1, if_neg h2, if_pos h3] at h ⊢
          obtain ⟨a0, a1, a2⟩ := esc_braces h hrle (dec_scalar hi)
          rw [qd_escn b a0 a1 a2 (Nat.succ_ne_zero _), hn, ← hen, braces_sz, ar7]
        · rw [if_neg h0, if_neg h1, if_neg h2, if_neg h3] at h ⊢
          have hra := rune_of_enc (s := T) (i := p) (c := (dec s i).1) (dec_scalar hi) h.1 h.2
          have hps : p < T.size := by have := hra.n4; omega
          have hd := hra.dec
          have hw := hra.wid
          have hes := (enc_size ((dec s i).1 : Nat)).1
          have hl5 := lett_0 (by simpa using h1 : lett (dec s i).1 = 0)
          have hb : byt T p ≠ 34 ∧ byt T p ≠ 92 := by
            have := hra.2
            omega
          rw [qd_on b hps hb.1 hb.2 (by rw [hw, hd]; omega), hd, hn, ← hen]
/-- The rest of a quoted text. -/
theorem qd_rest {s : ByteArray} : ∀ (m i : Nat) (A b : ByteArray), s.size - i ≤ m → i ≤ s.size → qd (A ++ (qcat s (cut s i) ++ one 34)) A.size b = (true, b ++ s.extract i s.size, (A ++ (qcat s (cut s i) ++ one 34)).size) := by
  intro m
  have hend : ∀ (i : Nat) (A b : ByteArray), ¬ i < s.size → i ≤ s.size → qd (A ++ (qcat s (cut s i) ++ one 34)) A.size b = (true, b ++ s.extract i s.size, (A ++ (qcat s (cut s i) ++ one 34)).size) := fun i A b h hi => by
    obtain rfl : i = s.size := by omega
    rw [cut_end h]
    simp only [qcat, ByteArray.empty_append]
    have h1 : LiesAt (A ++ one 34) A.size (one 34) := by
      have := LiesAt.mid A (one 34) ByteArray.empty
      rwa [ByteArray.append_empty] at this
    obtain ⟨h2, h3⟩ := h1.one (by decide)
    rw [qd_q b h2 h3, show s.extract s.size s.size = ByteArray.empty from ext_byt (by rw [ByteArray.size_extract]; simp) (fun k hk => by rw [ByteArray.size_extract] at hk; omega), ByteArray.append_empty, ByteArray.size_append, one_size]
  induction m with
  | zero => intro i A b hm hi; exact hend i A b (by omega) hi
  | succ m ih =>
    intro i A b hm hi
    by_cases hlt : i < s.size
    · have hn := dec_n hlt
      have hT : A ++ (qcat s (cut s i) ++ one 34) = (A ++ qp s i) ++ (qcat s (cut s (i + (dec s i).2)) ++ one 34) := by
        rw [cut_step hlt]
        simp only [qcat, ByteArray.append_assoc]
      have hl : LiesAt (A ++ (qcat s (cut s i) ++ one 34)) A.size (qp s i) := by
        rw [cut_step hlt]
        simp only [qcat, ByteArray.append_assoc]
        exact LiesAt.mid A (qp s i) _
      rw [qd_piece b hlt hl, hT, ← ByteArray.size_append, ih (i + (dec s i).2) (A ++ qp s i) _ (by omega) hn.2.2]
      congr 2
      rw [ByteArray.append_assoc]
      congr 1
      apply ext_byt
      · rw [ByteArray.size_append, ByteArray.size_extract, ByteArray.size_extract, ByteArray.size_extract]; omega
      · intro k hk
        rw [ByteArray.size_append, size_ext s i (i + (dec s i).2) hn.2.2, size_tail s (i + (dec s i).2) hn.2.2] at hk
        rw [byt_tail]
        by_cases h : k < (dec s i).2
        · rw [byt_append_left _ _ _ (by rw [size_ext s i (i + (dec s i).2) hn.2.2]; omega), byt_extract s i (i + (dec s i).2) k (by omega) hn.2.2]
        · have e : k = (s.extract i (i + (dec s i).2)).size + (k - (dec s i).2) := by rw [size_ext s i (i + (dec s i).2) hn.2.2]; omega
          rw [e, byt_append_right, byt_tail, size_ext s i (i + (dec s i).2) hn.2.2]
          congr 1
          omega
    · exact hend i A b hlt hi
theorem qtd_quo (s : ByteArray) : qtd (quo s) 0 = (true, s, (quo s).size) := by
  have hq : quo s = one 34 ++ (qcat s (cut s 0) ++ one 34) := by unfold quo; rw [ByteArray.append_assoc]
  have h0 : 0 < (quo s).size ∧ byt (quo s) 0 = 34 := by
    rw [hq]
    refine ⟨by rw [ByteArray.size_append, one_size]; omega, ?_⟩
    rw [byt_append_left _ _ _ (by rw [one_size]; omega), byt_one (by decide)]
  unfold qtd
  rw [if_pos h0, hq]
  have := qd_rest (s := s) s.size 0 (one 34) ByteArray.empty (by omega) (Nat.zero_le _)
  rw [one_size] at this
  rw [this, ByteArray.empty_append, ext_all]
theorem unq_quo (s : ByteArray) : unq (quo s) = (s, 0, 0) := unq_yes (qtd_quo s) (Nat.le_refl _)
theorem quo_inj {s t : ByteArray} (h : quo s = quo t) : s = t := by
  have h1 := unq_quo s
  rw [h, unq_quo t] at h1
  exact (congrArg Prod.fst h1).symm

/-! ### a longer text -/
theorem hrun_ext {t u : ByteArray} : ∀ (j k n : Nat), (hrun t j k n).1 < t.size → hrun (t ++ u) j k n = hrun t j k n
  | 0, k, n, h => rfl
  | j + 1, k, n, h => by
    by_cases hh : k < t.size ∧ hx (byt t k) < 16
    · rw [hrun_on hh.1 hh.2] at h ⊢
      rw [hrun_on (by rw [ByteArray.size_append]; omega) (by rw [byt_append_left _ _ _ hh.1]; exact hh.2), byt_append_left _ _ _ hh.1]
      exact hrun_ext j _ _ h
    · rw [hrun_end hh] at h ⊢
      have hk : k < t.size := h
      rw [hrun_end (fun h2 => hh ⟨hk, by rw [byt_append_left _ _ _ hk] at h2; exact h2.2⟩)]
theorem esc_ext {t u : ByteArray} (h : (esc t).2 ≠ 0) : esc (t ++ u) = esc t := by
  have hz : (t ++ u).size = t.size + u.size := ByteArray.size_append ..
  have h0 : ¬ t.size = 0 := fun e => h (by unfold esc; rw [if_pos e])
  have b0 := byt_append_left t u 0 (by omega)
  by_cases h1 : unl (byt t 0) ≠ 0
  · unfold esc
    rw [if_neg h0, if_neg (by omega), b0, if_pos h1, if_pos h1]
  by_cases h2 : byt t 0 = 120 ∧ 2 < t.size
  · unfold esc
    rw [if_neg h0, if_neg (by omega), b0, if_neg h1, if_neg h1, if_pos h2, if_pos ⟨h2.1, by omega⟩, byt_append_left t u 1 (by omega), byt_append_left t u 2 (by omega)]
  by_cases h3 : byt t 0 = 117 ∧ 1 < t.size ∧ byt t 1 = 123
  · have b1 := byt_append_left t u 1 (by omega)
    have hb : (brc t).2 ≠ 0 := fun e => h (by unfold esc; rw [if_neg h0, if_neg h1, if_neg h2, if_pos h3]; exact e)
    have he1 : esc t = brc t := by unfold esc; rw [if_neg h0, if_neg h1, if_neg h2, if_pos h3]
    have he2 : esc (t ++ u) = brc (t ++ u) := by
      unfold esc
      rw [if_neg (by omega), b0, if_neg h1, if_neg (fun e => absurd (e.1.symm.trans h3.1) (by decide)), b1, if_pos ⟨h3.1, by omega, h3.2.2⟩]
    rw [he1, he2]
    have hlt : (hrun t 6 2 0).1 < t.size := by
      by_cases e : (hrun t 6 2 0).1 < t.size
      · exact e
      · exact absurd (show (brc t).2 = 0 by unfold brc; rw [if_pos (.inr (.inl (Nat.le_of_not_lt e)))]) hb
    have hsp := (hrun_spec t 6 2 0 h3.2.1).1
    unfold brc
    rw [hrun_ext 6 2 0 hlt]
    generalize hrun t 6 2 0 = p at *
    rw [byt_append_left t u p.1 hlt, byt_append_left t u 2 (by omega)]
    have e1 : ¬ t.size ≤ p.1 := by omega
    have e2 : ¬ (t ++ u).size ≤ p.1 := by omega
    simp only [e1, e2, false_or]
  · exact absurd (show (esc t).2 = 0 by unfold esc; rw [if_neg h0, if_neg h1, if_neg h2, if_neg h3]) h
theorem ext_app (t u : ByteArray) (k : Nat) (hk : k ≤ t.size) : (t ++ u).extract k (t ++ u).size = t.extract k t.size ++ u := by
  have hz : (t ++ u).size = t.size + u.size := ByteArray.size_append ..
  apply ext_byt
  · have h2 : (t.extract k t.size ++ u).size = (t.size - k) + u.size := by rw [ByteArray.size_append, size_tail t k hk]
    rw [size_tail _ k (by omega), h2, hz]; omega
  · intro i hi
    rw [size_tail _ k (by omega)] at hi
    rw [byt_tail]
    by_cases h : k + i < t.size
    · rw [byt_append_left _ _ _ h, byt_append_left _ _ _ (by rw [size_tail t k hk]; omega), byt_tail]
    · have e1 : k + i = t.size + (k + i - t.size) := by omega
      have e2 : i = (t.extract k t.size).size + (k + i - t.size) := by rw [size_tail t k hk]; omega
      rw [e1, byt_append_right]
      conv => rhs; rw [e2]
      rw [byt_append_right]
theorem rune_ext {t u : ByteArray} {i r n : Nat} (h : RuneAt t i r n) : RuneAt (t ++ u) i r n := by
  have h4 := h.n4
  have hz : (t ++ u).size = t.size + u.size := ByteArray.size_append ..
  obtain ⟨h1, h2⟩ := h
  refine ⟨by omega, ?_⟩
  have hb : ∀ k, k < n → byt (t ++ u) (i + k) = byt t (i + k) := fun k hk => byt_append_left _ _ _ (by omega)
  have b0 := hb 0 (by omega)
  rw [Nat.add_zero] at b0
  rcases h2 with ⟨rfl, h⟩ | ⟨rfl, h⟩ | ⟨rfl, h⟩ | ⟨rfl, h⟩
  · left; rw [b0]; exact ⟨rfl, h⟩
  · right; left; rw [b0, hb 1 (by omega)]; exact ⟨rfl, h⟩
  · right; right; left; rw [b0, hb 1 (by omega), hb 2 (by omega)]; exact ⟨rfl, h⟩
  · right; right; right; rw [b0, hb 1 (by omega), hb 2 (by omega), hb 3 (by omega)]; exact ⟨rfl, h⟩
/-- What is a quoted text at a text's beginning is one in a longer text. -/
theorem qd_ext {t u : ByteArray} : ∀ (m i : Nat) (b x : ByteArray) (e : Nat), t.size - i ≤ m → qd t i b = (true, x, e) → qd (t ++ u) i b = (true, x, e) := by
  intro m
  have hno : ∀ (i : Nat) (b x : ByteArray) (e : Nat), ¬ i < t.size → qd t i b = (true, x, e) → qd (t ++ u) i b = (true, x, e) := fun i b x e h hq => by
    rw [qd_end b h] at hq; injection hq with hq; cases hq
  have hz : (t ++ u).size = t.size + u.size := ByteArray.size_append ..
  induction m with
  | zero => intro i b x e hm hq; exact hno i b x e (by omega) hq
  | succ m ih =>
    intro i b x e hm hq
    by_cases hi : i < t.size
    · have b0 := byt_append_left t u i hi
      by_cases h1 : byt t i = 34
      · rw [qd_q b hi h1] at hq
        rw [qd_q b (by omega) (by rw [b0]; exact h1)]
        exact hq
      by_cases h2 : byt t i = 92
      · by_cases h3 : (esc (t.extract (i + 1) t.size)).2 = 0
        · rw [qd_bad b hi h2 h3] at hq; injection hq with hq; cases hq
        · rw [qd_esc b hi h2 h3] at hq
          have h4 : esc ((t ++ u).extract (i + 1) (t ++ u).size) = esc (t.extract (i + 1) t.size) := by rw [ext_app t u (i + 1) hi]; exact esc_ext h3
          rw [qd_esc b (by omega) (by rw [b0]; exact h2) (by rw [h4]; exact h3), h4]
          exact ih _ _ _ _ (by omega) hq
      · by_cases h3 : wid t i = 0 ∨ (dec t i).1 < 32 ∨ (dec t i).1 = 127
        · rw [qd_off b hi h1 h2 h3] at hq; injection hq with hq; cases hq
        · rw [qd_on b hi h1 h2 h3] at hq
          have hn := dec_n hi
          have hw : wid t i ≠ 0 := fun e => h3 (.inl e)
          have hr := rune_ext (u := u) (rune_of_wid hi hw)
          have hd : dec (t ++ u) i = dec t i := by rw [hr.dec, ← wid_snd hw]
          rw [qd_on b (by omega) (by rw [b0]; exact h1) (by rw [b0]; exact h2) (by rw [hr.wid, hd]; exact h3), hd]
          exact ih _ _ _ _ (by omega) hq
    · exact hno i b x e hi hq
theorem qtd_ext {t u x : ByteArray} {a e : Nat} (h : qtd t a = (true, x, e)) : qtd (t ++ u) a = (true, x, e) := by
  unfold qtd at h ⊢
  split at h
  · rename_i h0
    rw [if_pos ⟨by rw [ByteArray.size_append]; omega, by rw [byt_append_left _ _ _ h0.1]; exact h0.2⟩]
    exact qd_ext t.size _ _ _ _ (by omega) h
  · injection h with h; cases h
/-- No beginning of a quoted text is one. -/
theorem unq_pre (s : ByteArray) (n : Nat) (hn : n < (quo s).size) : ∃ e, unq ((quo s).extract 0 n) = (ByteArray.empty, e, 18) ∧ e ≤ n := by
  have hz : ((quo s).extract 0 n).size = n := by rw [ByteArray.size_extract]; omega
  obtain ⟨⟨ok, x, e⟩, hq⟩ : ∃ r, qtd ((quo s).extract 0 n) 0 = r := ⟨_, rfl⟩
  have hpos : e ≤ n := by
    unfold qtd at hq
    split at hq
    · rename_i h0
      have := (qd_pos ((quo s).extract 0 n) (0 + 1) ByteArray.empty (by omega)).2.1
      rw [hq, hz] at this
      exact this
    · injection hq with _ hq; injection hq with _ hq; omega
  cases ok with
  | false => exact ⟨e, unq_no hq, hpos⟩
  | true =>
    by_cases he : n ≤ e
    · exfalso
      have h1 := qtd_ext (u := (quo s).extract n (quo s).size) hq
      have h2 : (quo s).extract 0 n ++ (quo s).extract n (quo s).size = quo s := by
        apply ext_byt
        · rw [ByteArray.size_append, hz, size_tail _ n (by omega)]; omega
        · intro k hk
          by_cases h : k < n
          · rw [byt_append_left _ _ _ (by omega), byt_extract _ 0 n k (by omega) (by omega), Nat.zero_add]
          · have e1 : k = ((quo s).extract 0 n).size + (k - n) := by rw [hz]; omega
            rw [e1, byt_append_right, byt_tail, hz]
      rw [h2, qtd_quo] at h1
      injection h1 with _ h1
      injection h1 with _ h1
      omega
    · exact ⟨e, unq_long hq (by rw [hz]; exact he), hpos⟩
end Go.Proofs.YtbidppjhenfjdaaDoor
namespace Go.Proofs.YtbidppjhenfjdaaDoor
open Go.RowKit Go.Lib
set_option linter.unusedVariables false
set_option linter.unusedSimpArgs false

theorem rune_shift {T w : ByteArray} {p i r n : Nat} (hl : LiesAt T p w) (h : RuneAt w i r n) : RuneAt T (p + i) r n := by
  have h4 := h.n4
  obtain ⟨h1, h2⟩ := h
  have hz := hl.1
  refine ⟨by omega, ?_⟩
  have hb : ∀ k, k < n → byt T (p + i + k) = byt w (i + k) := fun k hk => by rw [Nat.add_assoc]; exact hl.2 _ (by omega)
  have b0 := hb 0 (by omega)
  rw [Nat.add_zero, Nat.add_zero] at b0
  rcases h2 with ⟨rfl, h⟩ | ⟨rfl, h⟩ | ⟨rfl, h⟩ | ⟨rfl, h⟩
  · left; rw [b0]; exact ⟨rfl, h⟩
  · right; left; rw [b0, hb 1 (by omega)]; exact ⟨rfl, h⟩
  · right; right; left; rw [b0, hb 1 (by omega), hb 2 (by omega)]; exact ⟨rfl, h⟩
  · right; right; right; rw [b0, hb 1 (by omega), hb 2 (by omega), hb 3 (by omega)]; exact ⟨rfl, h⟩
/-- A word that may stand plain, or a number. -/
def fineW (w : ByteArray) : Prop := (∀ i, i < w.size → 33 ≤ byt w i ∧ byt w i ≠ 127 ∧ byt w i ≠ 34 ∧ byt w i ≠ 35) ∧ Good w 0
theorem rune_low {w : ByteArray} {i r n : Nat} (h : RuneAt w i r n) : (n = 1 ∧ r = byt w i) ∨ 128 ≤ r := by
  obtain ⟨_, h | h | h | h⟩ := h
  · exact .inl ⟨h.1, h.2.2⟩
  · right; omega
  · right; omega
  · right; omega
theorem pw_fine {T w : ByteArray} {p : Nat} (hl : LiesAt T p w) (he : endB T (p + w.size) = true) (hf : fineW w) : pw T p = (p + w.size, 0) := by
  have key : ∀ (m i : Nat), w.size - i ≤ m → i ≤ w.size → (∀ j ∈ cut w i, wid w j ≠ 0) → pw T (p + i) = (p + w.size, 0) := by
    intro m
    induction m with
    | zero =>
      intro i hm hi _
      rw [show i = w.size by omega]
      exact pw_end he
    | succ m ih =>
      intro i hm hi hg
      by_cases hlt : i < w.size
      · rw [cut_step hlt] at hg
        have hw := hg i (by simp)
        have hr := rune_of_wid hlt hw
        have hT := rune_shift hl hr
        have hb : byt T (p + i) = byt w i := hl.2 i hlt
        have hx := hf.1 i hlt
        have hn : endB T (p + i) = false := endB_no (by have := hT.n4; rw [hb]; omega)
        have hlow := rune_low hr
        rw [pw_on hn (by rw [hT.dec]; simp only; omega) (by rw [hT.dec, hT.wid]; simp only; omega), hT.dec]
        have h4 := hr.n4
        have hs := wid_snd hw
        have := ih (i + wid w i) (by omega) (by omega) (fun j hj => hg j (by rw [List.mem_cons]; right; rw [hs]; exact hj))
        rw [← Nat.add_assoc] at this
        exact this
      · rw [show i = w.size by omega]
        exact pw_end he
  exact key w.size 0 (by omega) (Nat.zero_le _) hf.2
theorem lies_ext {T w : ByteArray} {p : Nat} (hl : LiesAt T p w) : T.extract p (p + w.size) = w := by
  have hs : (T.extract p (p + w.size)).size = w.size := by rw [size_ext _ _ _ hl.1]; omega
  refine ext_byt hs fun i hi => ?_
  rw [hs] at hi
  rw [byt_extract _ _ _ _ (by omega) hl.1, hl.2 i hi]
theorem fine_at {T w : ByteArray} {p : Nat} (hl : LiesAt T p w) (hf : fineW w) (h0 : w.size ≠ 0) : WordAt T p ∧ byt T p ≠ 34 := by
  have hb : byt T p = byt w 0 := by have := hl.2 0 (by omega); rwa [Nat.add_zero] at this
  have hx := hf.1 0 (by omega)
  have := hl.1
  unfold WordAt
  omega
theorem scn_wplain {T w : ByteArray} {p l : Nat} {sm : Bool} (hl : LiesAt T p w) (he : endB T (p + w.size) = true) (hf : fineW w) (h0 : w.size ≠ 0) (hn : numB w = false) : scn T p l sm = ⟨1, w, 0, p, l, 0⟩ :: scn T (p + w.size) l true := by
  obtain ⟨h1, h2⟩ := fine_at hl hf h0
  have := scn_plain (sm := sm) (l := l) h1 h2 (plF_word (pw_fine hl he hf) (by rw [lies_ext hl]; exact hn))
  rwa [lies_ext hl] at this
theorem scn_wnum {T w : ByteArray} {p l : Nat} {sm : Bool} {v : Int} (hl : LiesAt T p w) (he : endB T (p + w.size) = true) (hf : fineW w) (h0 : w.size ≠ 0) (hn : numB w = true) (ht : numT w.data.toList = some v) : scn T p l sm = ⟨3, ByteArray.empty, v, p, l, 0⟩ :: scn T (p + w.size) l true := by
  obtain ⟨h1, h2⟩ := fine_at hl hf h0
  exact scn_plain (sm := sm) (l := l) h1 h2 (plF_num (pw_fine hl he hf) (by rw [lies_ext hl]; exact hn) (by rw [lies_ext hl]; exact ht))
theorem qtd_lies (s x t : ByteArray) : qtd (s ++ quo x ++ t) s.size = (true, x, s.size + (quo x).size) := by
  refine qtd_ext ?_
  have hq : s ++ quo x = (s ++ one 34) ++ (qcat x (cut x 0) ++ one 34) := by unfold quo; rw [ByteArray.append_assoc, ByteArray.append_assoc]
  have hz : (s ++ one 34).size = s.size + 1 := by rw [ByteArray.size_append, one_size]
  have h0 : s.size < (s ++ quo x).size ∧ byt (s ++ quo x) s.size = 34 := by
    rw [hq]
    refine ⟨by rw [ByteArray.size_append, hz]; omega, ?_⟩
    rw [byt_append_left _ _ _ (by omega)]
    have := byt_append_right s (one 34) 0
    rw [Nat.add_zero] at this
    rw [this, byt_one (by decide)]
  have hsz : (s ++ quo x).size = s.size + (quo x).size := ByteArray.size_append ..
  unfold qtd
  rw [if_pos h0]
  have := qd_rest (s := x) x.size 0 (s ++ one 34) ByteArray.empty (by omega) (Nat.zero_le _)
  rw [hz, ← hq] at this
  rw [this, ByteArray.empty_append, hsz, ext_all]
theorem scn_wquo {s x t : ByteArray} {l : Nat} {sm : Bool} (he : endB (s ++ quo x ++ t) (s.size + (quo x).size) = true) : scn (s ++ quo x ++ t) s.size l sm = ⟨2, x, 0, s.size, l, 0⟩ :: scn (s ++ quo x ++ t) (s.size + (quo x).size) l true := by
  have hq := qtd_lies s x t
  have hm := qtd_more hq
  have h0 : s.size < (s ++ quo x ++ t).size ∧ byt (s ++ quo x ++ t) s.size = 34 := by
    refine ⟨by omega, ?_⟩
    have : byt (s ++ (quo x ++ t)) s.size = byt (quo x ++ t) 0 := by have := byt_append_right s (quo x ++ t) 0; rwa [Nat.add_zero] at this
    rw [ByteArray.append_assoc, this]
    unfold quo
    rw [ByteArray.append_assoc, ByteArray.append_assoc, byt_append_left _ _ _ (by rw [one_size]; omega), byt_one (by decide)]
  have hw : WordAt (s ++ quo x ++ t) s.size := by unfold WordAt; omega
  exact scn_quote hw h0.2 hq he
theorem gap_scn {T g : ByteArray} {p l : Nat} {sm : Bool} (hl : LiesAt T p g) (hg : ∀ i, i < g.size → byt g i = 32 ∨ byt g i = 9) : scn T p l sm = scn T (p + g.size) l sm := by
  have key : ∀ (m i : Nat), g.size - i ≤ m → i ≤ g.size → scn T (p + i) l sm = scn T (p + g.size) l sm := by
    intro m
    induction m with
    | zero => intro i hm hi; rw [show i = g.size by omega]
    | succ m ih =>
      intro i hm hi
      by_cases hlt : i < g.size
      · have hb : byt T (p + i) = byt g i := hl.2 i hlt
        have := hl.1
        rw [scn_blank (by omega) (by rw [hb]; exact hg i hlt), Nat.add_assoc]
        exact ih (i + 1) (by omega) (by omega)
      · rw [show i = g.size by omega]
  exact key g.size 0 (by omega) (Nat.zero_le _)
/-- The ends of a line: the text, how many lines, where the line ends. -/
def endT : Nat → ByteArray × Nat × Nat
  | 0 => (⟨#[10]⟩, 1, 0)
  | 1 => (⟨#[13, 10]⟩, 1, 0)
  | 2 => (⟨#[13]⟩, 1, 0)
  | 3 => (⟨#[32, 35, 32, 97, 32, 34, 255, 10]⟩, 1, 7)
  | 4 => (⟨#[35, 10]⟩, 1, 1)
  | 5 => (⟨#[10, 32, 10]⟩, 2, 0)
  | _ => (⟨#[9, 13, 13, 10]⟩, 2, 1)
theorem end_scn {T : ByteArray} {p l k : Nat} (hl : LiesAt T p (endT k).1) (hc : p + (endT k).1.size < T.size → byt T (p + (endT k).1.size) ≠ 10) :
    scn T p l true = ⟨4, ByteArray.empty, 0, p + (endT k).2.2, l, 0⟩ :: scn T (p + (endT k).1.size) (l + (endT k).2.1) false := by
  have hz := hl.1
  have hb := hl.2
  match k with
  | 0 =>
    have b0 : byt T p = 10 := hb 0 (by decide)
    have hz : p + 1 ≤ T.size := hz
    rw [scn_line (by omega) (.inl b0), show lineB T p = p + 1 by unfold lineB; rw [if_neg (by omega)]]
    rfl
  | 1 =>
    have b0 : byt T p = 13 := hb 0 (by decide)
    have b1 : byt T (p + 1) = 10 := hb 1 (by decide)
    have hz : p + 2 ≤ T.size := hz
    rw [scn_line (by omega) (.inr b0), show lineB T p = p + 2 by unfold lineB; rw [if_pos (by omega)]]
    rfl
  | 2 =>
    have b0 : byt T p = 13 := hb 0 (by decide)
    have hz : p + 1 ≤ T.size := hz
    have hc : p + 1 < T.size → byt T (p + 1) ≠ 10 := hc
    rw [scn_line (by omega) (.inr b0), show lineB T p = p + 1 by unfold lineB; rw [if_neg (by omega)]]
    rfl
  | 3 =>
    have b0 : byt T p = 32 := hb 0 (by decide)
    have b1 : byt T (p + 1) = 35 := hb 1 (by decide)
    have b2 : byt T (p + 2) = 32 := hb 2 (by decide)
    have b3 : byt T (p + 3) = 97 := hb 3 (by decide)
    have b4 : byt T (p + 4) = 32 := hb 4 (by decide)
    have b5 : byt T (p + 5) = 34 := hb 5 (by decide)
    have b6 : byt T (p + 6) = 255 := hb 6 (by decide)
    have b7 : byt T (p + 7) = 10 := hb 7 (by decide)
    have hz : p + 8 ≤ T.size := hz
    have hr : rem T (p + 1) = p + 7 := by
      rw [rem_on ⟨by omega, by omega, by omega⟩, rem_on (i := p + 1 + 1) ⟨by omega, by rw [show p + 1 + 1 = p + 2 by omega]; omega, by rw [show p + 1 + 1 = p + 2 by omega]; omega⟩, show p + 1 + 1 + 1 = p + 3 by omega,
        rem_on ⟨by omega, by omega, by omega⟩, show p + 3 + 1 = p + 4 by omega, rem_on ⟨by omega, by omega, by omega⟩, show p + 4 + 1 = p + 5 by omega, rem_on ⟨by omega, by omega, by omega⟩, show p + 5 + 1 = p + 6 by omega,
        rem_on ⟨by omega, by omega, by omega⟩, show p + 6 + 1 = p + 7 by omega, rem_end (by omega)]
    rw [scn_blank (by omega) (.inl b0), scn_rem (by omega) b1, hr, scn_line (by omega) (.inl b7), show lineB T (p + 7) = p + 8 by unfold lineB; rw [if_neg (by omega)]]
    rfl
  | 4 =>
    have b0 : byt T p = 35 := hb 0 (by decide)
    have b1 : byt T (p + 1) = 10 := hb 1 (by decide)
    have hz : p + 2 ≤ T.size := hz
    have hr : rem T p = p + 1 := by rw [rem_on ⟨by omega, by omega, by omega⟩, rem_end (by omega)]
    rw [scn_rem (by omega) b0, hr, scn_line (by omega) (.inl b1), show lineB T (p + 1) = p + 2 by unfold lineB; rw [if_neg (by omega)]]
    rfl
  | 5 =>
    have b0 : byt T p = 10 := hb 0 (by decide)
    have b1 : byt T (p + 1) = 32 := hb 1 (by decide)
    have b2 : byt T (p + 2) = 10 := hb 2 (by decide)
    have hz : p + 3 ≤ T.size := hz
    rw [scn_line (by omega) (.inl b0), show lineB T p = p + 1 by unfold lineB; rw [if_neg (by omega)], scn_blank (by omega) (.inl b1), show p + 1 + 1 = p + 2 by omega, scn_line (by omega) (.inl b2), show lineB T (p + 2) = p + 3 by unfold lineB; rw [if_neg (by omega)]]
    rfl
  | k + 6 =>
    have b0 : byt T p = 9 := hb 0 (show (0 : Nat) < 4 by decide)
    have b1 : byt T (p + 1) = 13 := hb 1 (show (1 : Nat) < 4 by decide)
    have b2 : byt T (p + 2) = 13 := hb 2 (show (2 : Nat) < 4 by decide)
    have b3 : byt T (p + 3) = 10 := hb 3 (show (3 : Nat) < 4 by decide)
    have hz : p + 4 ≤ T.size := hz
    rw [scn_blank (by omega) (.inr b0), scn_line (by omega) (.inr b1), show lineB T (p + 1) = p + 2 by unfold lineB; rw [if_neg (by rw [show p + 1 + 1 = p + 2 by omega]; omega)], scn_line (by omega) (.inr b2), show lineB T (p + 2) = p + 4 by unfold lineB; rw [if_pos (by rw [show p + 2 + 1 = p + 3 by omega]; omega)]]
    rfl
/-- What may stand behind: a word's end; anything but a line feed. -/
def condT (sm : Bool) (t : ByteArray) : Prop := t.size ≠ 0 → if sm = true then byt t 0 = 32 ∨ byt t 0 = 9 ∨ byt t 0 = 35 ∨ byt t 0 = 10 ∨ byt t 0 = 13 else byt t 0 ≠ 10
/-- A text that is scanned into L so far, whatever stands behind. -/
def Laid (s : ByteArray) (line : Nat) (sm : Bool) (L : List Fn) : Prop := ∀ t, condT sm t → scn (s ++ t) 0 1 false = L ++ scn (s ++ t) s.size line sm
theorem Laid.start : Laid ByteArray.empty 1 false [] := fun t _ => by rw [List.nil_append]; rfl
theorem Laid.stop {s : ByteArray} {line : Nat} {sm : Bool} {L : List Fn} (h : Laid s line sm L) : scn s 0 1 false = L ++ endF sm s.size line := by
  have := h ByteArray.empty (fun h => absurd rfl h)
  rw [ByteArray.append_empty] at this
  rw [this, scn_over (Nat.lt_irrefl _)]
theorem cond_end {s t : ByteArray} (h : condT true t) : endB (s ++ t) s.size = true := by
  by_cases h0 : t.size = 0
  · exact endB_yes (.inl (by rw [ByteArray.size_append]; omega))
  · have := h h0
    rw [if_pos rfl] at this
    have hb : byt (s ++ t) s.size = byt t 0 := by have := byt_append_right s t 0; rwa [Nat.add_zero] at this
    refine endB_yes (.inr ?_)
    rw [hb]
    exact this
theorem lies_mid (s w t : ByteArray) : LiesAt (s ++ w ++ t) s.size w := by rw [ByteArray.append_assoc]; exact LiesAt.mid s w t
/-- Behind a gap. -/
theorem Laid.gap {s g : ByteArray} {line : Nat} {sm : Bool} {L : List Fn} (h : Laid s line sm L) (hg : ∀ i, i < g.size → byt g i = 32 ∨ byt g i = 9) (h0 : sm = true → g.size ≠ 0) :
    ∀ t, (g.size = 0 → condT sm t) → scn (s ++ g ++ t) 0 1 false = L ++ scn (s ++ g ++ t) (s ++ g).size line sm := by
  intro t ht
  have hc : condT sm (g ++ t) := by
    intro hz
    by_cases hg0 : g.size = 0
    · have hge : g = ByteArray.empty := ext_byt hg0 (fun i hi => by omega)
      subst hge
      rw [ByteArray.empty_append] at hz ⊢
      exact ht hg0 hz
    · have hb : byt (g ++ t) 0 = byt g 0 := byt_append_left _ _ _ (by omega)
      have := hg 0 (by omega)
      rw [hb]
      split <;> omega
  have := h (g ++ t) hc
  rw [← ByteArray.append_assoc] at this
  rw [this, gap_scn (lies_mid s g t) hg, ByteArray.size_append]
/-- Behind a word. -/
theorem Laid.word {s g w : ByteArray} {line : Nat} {sm : Bool} {L : List Fn} {f : Fn} (h : Laid s line sm L) (hg : ∀ i, i < g.size → byt g i = 32 ∨ byt g i = 9) (h0 : sm = true → g.size ≠ 0) (hw0 : w.size ≠ 0) (hw1 : byt w 0 ≠ 10)
    (hW : ∀ t, condT true t → scn (s ++ g ++ w ++ t) (s ++ g).size line sm = f :: scn (s ++ g ++ w ++ t) (s ++ g ++ w).size line true) : Laid (s ++ g ++ w) line true (L ++ [f]) := by
  intro t ht
  have h1 := h.gap hg h0 (w ++ t) (fun hg0 hz => by
    have hb : byt (w ++ t) 0 = byt w 0 := byt_append_left _ _ _ (by omega)
    have hsm : sm = false := by cases sm with
      | false => rfl
      | true => exact absurd hg0 (h0 rfl)
    rw [hsm, if_neg (by simp), hb]
    exact hw1)
  rw [← ByteArray.append_assoc] at h1
  rw [h1, hW t ht, List.append_assoc]
  rfl
/-- Behind a line's end. -/
theorem Laid.line {s : ByteArray} {line k : Nat} {L : List Fn} (h : Laid s line true L) : Laid (s ++ (endT k).1) (line + (endT k).2.1) false (L ++ [⟨4, ByteArray.empty, 0, s.size + (endT k).2.2, line, 0⟩]) := by
  intro t ht
  have he : condT true ((endT k).1 ++ t) := by
    intro _
    have h0 : (endT k).1.size ≠ 0 := by
      match k with
      | 0 => decide
      | 1 => decide
      | 2 => decide
      | 3 => decide
      | 4 => decide
      | 5 => decide
      | k + 6 => exact (by decide : (endT 6).1.size ≠ 0)
    rw [if_pos rfl, byt_append_left _ _ _ (by omega)]
    match k with
    | 0 => decide
    | 1 => decide
    | 2 => decide
    | 3 => decide
    | 4 => decide
    | 5 => decide
    | k + 6 => exact (by decide : byt (endT 6).1 0 = 32 ∨ byt (endT 6).1 0 = 9 ∨ byt (endT 6).1 0 = 35 ∨ byt (endT 6).1 0 = 10 ∨ byt (endT 6).1 0 = 13)
  have h1 := h _ he
  rw [← ByteArray.append_assoc] at h1
  rw [h1, end_scn (lies_mid s _ t) (fun hlt => by
    have hb : byt (s ++ (endT k).1 ++ t) (s.size + (endT k).1.size) = byt t 0 := by
      have := byt_append_right (s ++ (endT k).1) t 0
      rwa [Nat.add_zero, ByteArray.size_append] at this
    rw [hb]
    have hz : t.size ≠ 0 := by rw [ByteArray.size_append, ByteArray.size_append] at hlt; omega
    have := ht hz
    rwa [if_neg (by simp)] at this), List.append_assoc, ByteArray.size_append]
  rfl
end Go.Proofs.YtbidppjhenfjdaaDoor
namespace Go.Proofs.YtbidppjhenfjdaaDoor
open Go.RowKit Go.Lib
set_option linter.unusedVariables false
set_option linter.unusedSimpArgs false

theorem dec_digs : ∀ (u : Nat) (c : UInt8), c ∈ decDigits u → 48 ≤ c.toNat ∧ c.toNat ≤ 57 := by
  intro u
  induction u using Nat.strongRecOn with
  | ind u ih =>
    intro c hc
    rw [decDigits] at hc
    split at hc
    · rename_i h
      simp only [List.mem_singleton] at hc
      subst hc
      rw [u8_48 u h]
      omega
    · rename_i h
      rcases List.mem_append.1 hc with hc | hc
      · exact ih (u / 10) (by omega) c hc
      · simp only [List.mem_singleton] at hc
        subst hc
        rw [u8_48 (u % 10) (by omega)]
        omega
/-- A number's text. -/
def itoaB (v : Int) : ByteArray := ⟨(itoa v).toArray⟩
theorem itoaB_list (v : Int) : (itoaB v).data.toList = itoa v := by simp [itoaB]
theorem numT_itoa {v : Int} (hv : -9223372036854775808 ≤ v ∧ v < 9223372036854775808) : numT (itoa v) = some v := by
  by_cases hn : v < 0
  · have hi : itoa v = 45 :: decDigits v.natAbs := by unfold itoa; rw [if_pos hn]
    rw [hi]
    have hna : 1 ≤ v.natAbs := by omega
    cases hd : decDigits v.natAbs with
    | nil => exact absurd hd (dec_ne _)
    | cons c r =>
      have hl := dec_len_lt (u := v.natAbs) (by omega)
      have hf := dfold_dec v.natAbs
      have hh := dec_head _ hna c r hd
      rw [hd] at hl hf
      show (if (45 : UInt8).toNat = 45 then numO true (c :: r) else numO false (45 :: c :: r)) = some v
      rw [if_pos (by decide), numO_of hl (fun h => hh h.1) hf (.inl ⟨rfl, by omega⟩), if_pos rfl]
      congr 1
      omega
  · have hi : itoa v = decDigits v.toNat := by unfold itoa; rw [if_neg hn]
    rw [hi]
    cases hd : decDigits v.toNat with
    | nil => exact absurd hd (dec_ne _)
    | cons c r =>
      have hl := dec_len_lt (u := v.toNat) (by omega)
      have hf := dfold_dec v.toNat
      have hh : ¬ (c.toNat = 48 ∧ (r ≠ [] ∨ false = true)) := by
        rintro ⟨a1, a2⟩
        by_cases hz : v.toNat < 10
        · rw [decDigits, dif_pos hz] at hd
          injection hd with _ hd
          simp [← hd] at a2
        · exact dec_head _ (by omega) c r hd a1
      have hdig := dec_digs v.toNat c (by rw [hd]; simp)
      rw [hd] at hl hf
      show (if c.toNat = 45 then numO true r else numO false (c :: r)) = some v
      rw [if_neg (by omega), numO_of hl hh hf (.inr ⟨rfl, by omega⟩), if_neg (by simp)]
      congr 1
      omega
theorem itoa_shape (v : Int) : ∃ c r, (∀ x ∈ c :: r, 48 ≤ x.toNat ∧ x.toNat ≤ 57) ∧ ((v < 0 ∧ itoa v = 45 :: c :: r ∧ decDigits v.natAbs = c :: r) ∨ (0 ≤ v ∧ itoa v = c :: r ∧ decDigits v.toNat = c :: r)) := by
  by_cases hn : v < 0
  · cases hd : decDigits v.natAbs with
    | nil => exact absurd hd (dec_ne _)
    | cons c r => exact ⟨c, r, fun x hx => dec_digs v.natAbs x (by rw [hd]; exact hx), .inl ⟨hn, by unfold itoa; rw [if_pos hn, hd], rfl⟩⟩
  · cases hd : decDigits v.toNat with
    | nil => exact absurd hd (dec_ne _)
    | cons c r => exact ⟨c, r, fun x hx => dec_digs v.toNat x (by rw [hd]; exact hx), .inr ⟨by omega, by unfold itoa; rw [if_neg hn, hd], rfl⟩⟩
theorem good_ascii {w : ByteArray} (h : ∀ i, i < w.size → byt w i < 128) : Good w 0 := by
  intro j hj
  have hlt : ∀ (m i : Nat), w.size - i ≤ m → ∀ j ∈ cut w i, j < w.size := by
    intro m
    induction m with
    | zero => intro i hm j hj; rw [cut_end (by omega)] at hj; cases hj
    | succ m ih =>
      intro i hm j hj
      by_cases hi : i < w.size
      · rw [cut_step hi] at hj
        rcases List.mem_cons.1 hj with rfl | hj
        · exact hi
        · have := dec_n hi
          exact ih _ (by omega) j hj
      · rw [cut_end hi] at hj; cases hj
  have hjl := hlt w.size 0 (by omega) j hj
  have hr : RuneAt w j (byt w j) 1 := ⟨by omega, .inl ⟨rfl, h j hjl, rfl⟩⟩
  rw [hr.wid]
  omega
theorem itoa_byt (v : Int) (i : Nat) : byt (itoaB v) i = ((itoa v)[i]?.getD 0).toNat := by unfold itoaB; exact mk_byt _ _
theorem itoa_size (v : Int) : (itoaB v).size = (itoa v).length := by simp [itoaB, ByteArray.size]
theorem itoa_fine {v : Int} (hv : -9223372036854775808 ≤ v ∧ v < 9223372036854775808) : fineW (itoaB v) ∧ (itoaB v).size ≠ 0 ∧ (itoaB v).size ≤ 20 ∧ numB (itoaB v) = true ∧ numT (itoaB v).data.toList = some v ∧ byt (itoaB v) 0 ≠ 10 := by
  obtain ⟨c, r, hd, hs⟩ := itoa_shape v
  have hall : ∀ i, i < (itoaB v).size → byt (itoaB v) i = 45 ∨ (48 ≤ byt (itoaB v) i ∧ byt (itoaB v) i ≤ 57) := by
    intro i hi
    rw [itoa_byt]
    rw [itoa_size] at hi
    rcases hs with ⟨_, hs, _⟩ | ⟨_, hs, _⟩
    · rw [hs] at hi ⊢
      rcases i with _ | i
      · exact .inl rfl
      · right
        rw [List.getElem?_cons_succ, List.getElem?_eq_getElem (by simpa using hi)]
        exact hd _ (List.getElem_mem _)
    · rw [hs] at hi ⊢
      right
      rw [List.getElem?_eq_getElem hi]
      exact hd _ (List.getElem_mem _)
  have hlen : (itoa v).length ≤ 20 := by
    rcases hs with ⟨hn, hs, hq⟩ | ⟨hn, hs, hq⟩
    · have := dec_len_lt (u := v.natAbs) (by omega)
      rw [hs, List.length_cons, ← hq]
      omega
    · have := dec_len_lt (u := v.toNat) (by omega)
      rw [hs, ← hq]
      omega
  have hc := hd c (by simp)
  have h0 : (itoaB v).size ≠ 0 := by
    rw [itoa_size]
    rcases hs with ⟨_, hs, _⟩ | ⟨_, hs, _⟩ <;> rw [hs] <;> simp
  refine ⟨⟨fun i hi => by have := hall i hi; omega, good_ascii fun i hi => by have := hall i hi; omega⟩, h0, by rw [itoa_size]; exact hlen, ?_, by rw [itoaB_list]; exact numT_itoa hv, by have := hall 0 (by omega); omega⟩
  unfold numB
  rcases hs with ⟨_, hs, _⟩ | ⟨_, hs, _⟩
  · have b0 : byt (itoaB v) 0 = 45 := by rw [itoa_byt, hs]; rfl
    have b1 : byt (itoaB v) 1 = c.toNat := by rw [itoa_byt, hs]; rfl
    rw [if_pos b0, b1]
    exact decide_eq_true hc
  · have b0 : byt (itoaB v) 0 = c.toNat := by rw [itoa_byt, hs]; rfl
    rw [if_neg (by rw [b0]; omega), b0]
    exact decide_eq_true hc
theorem good_badAt {x : ByteArray} (h : badAt x < 0) : Good x 0 := by
  intro j hj hw
  unfold badAt at h
  cases hf : (cut x 0).find? (fun j => wid x j == 0) with
  | some j => rw [hf] at h; simp only at h; omega
  | none =>
    have := List.find?_eq_none.1 hf j hj
    simp [hw] at this
/-- What the law calls plain. -/
def plP (x : ByteArray) : Prop := fineW x ∧ x.size ≠ 0 ∧ numB x = false
theorem rem_endT (k : Nat) (hk : k < 7) : rem (endT k).1 0 = (endT k).2.2 := by
  match k, hk with
  | 0, _ => exact rem_end (by decide)
  | 1, _ => exact rem_end (by decide)
  | 2, _ => exact rem_end (by decide)
  | 3, _ =>
    rw [rem_on (by decide), rem_on (by decide), rem_on (by decide), rem_on (by decide), rem_on (by decide), rem_on (by decide), rem_on (by decide), rem_end (by decide)]
    rfl
  | 4, _ =>
    rw [rem_on (by decide), rem_end (by decide)]
    rfl
  | 5, _ => exact rem_end (by decide)
  | 6, _ =>
    rw [rem_on (by decide), rem_end (by decide)]
    rfl
end Go.Proofs.YtbidppjhenfjdaaDoor
namespace Go.Proofs.YtbidppjhenfjdaaDoor
open Go.RowKit
set_option linter.unusedVariables false

/-- A step with what its kind has. -/
def cpF (s : Stp) (x : Stp) (f : Fld) : Stp :=
  match f with
  | .site => { x with site := s.site }
  | .peer => { x with peer := s.peer }
  | .at => { x with at_ := s.at_ }
  | .num => { x with n := s.n }
  | .text => { x with text := s.text }
  | .data => { x with data := s.data }
def bareS (s : Stp) : Stp := if s.kind = 6 then { Stp.zero 6 with draws := s.draws } else (tabF s.kind.toNat).foldl (cpF s) (Stp.zero s.kind)
end Go.Proofs.YtbidppjhenfjdaaDoor
namespace Go.Proofs.YtbidppjhenfjdaaDoor
open Go.RowKit
set_option linter.unusedVariables false
set_option linter.unusedSimpArgs false

/-- A word that is written. -/
inductive WI where
  | pl (x : ByteArray)
  | nu (v : Int)
  | qu (x : ByteArray)
def WI.tx : WI → ByteArray
  | .pl x => x
  | .nu v => itB v
  | .qu x => quo x
def WI.ok : WI → Prop
  | .pl x => plP x
  | .nu v => I64 v
  | .qu _ => True
def WI.fn (a l : Nat) : WI → Fn
  | .pl x => ⟨1, x, 0, a, l, 0⟩
  | .nu v => ⟨3, ByteArray.empty, v, a, l, 0⟩
  | .qu x => ⟨2, x, 0, a, l, 0⟩
def gapOk (sm : Bool) (g : ByteArray) : Prop := (∀ i, i < g.size → byt g i = 32 ∨ byt g i = 9) ∧ (sm = true → g.size ≠ 0)
theorem lay_end {s w t : ByteArray} (ht : condT true t) : endB (s ++ w ++ t) (s.size + w.size) = true := by
  have := cond_end (s := s ++ w) ht
  rwa [ByteArray.size_append] at this
theorem quo_sz (s : ByteArray) : 2 ≤ (quo s).size ∧ byt (quo s) 0 = 34 := by
  refine ⟨by unfold quo; rw [ByteArray.size_append, ByteArray.size_append, one_size]; omega, ?_⟩
  unfold quo
  rw [ByteArray.append_assoc, byt_append_left _ _ _ (by rw [one_size]; omega), byt_one (by decide)]
theorem Laid.wi {s g : ByteArray} {line : Nat} {sm : Bool} {L : List Fn} {w : WI} (hw : w.ok) (h : Laid s line sm L) (hg : gapOk sm g) : ∃ a, Laid (s ++ g ++ w.tx) line true (L ++ [w.fn a line]) := by
  cases w with
  | pl x =>
    obtain ⟨q1, q2, q3⟩ := hw
    refine ⟨(s ++ g).size, h.word hg.1 hg.2 q2 (by have := q1.1 0 (by omega); show byt x 0 ≠ 10; omega) (fun t ht => ?_)⟩
    show scn (s ++ g ++ x ++ t) _ _ _ = _
    rw [scn_wplain (lies_mid (s ++ g) x t) (lay_end ht) q1 q2 q3, ← ByteArray.size_append]
    rfl
  | nu v =>
    obtain ⟨q1, q2, _, q3, q4, q5⟩ := itoa_fine (show -9223372036854775808 ≤ v ∧ v < 9223372036854775808 from hw)
    refine ⟨(s ++ g).size, h.word hg.1 hg.2 q2 q5 (fun t ht => ?_)⟩
    show scn (s ++ g ++ itoaB v ++ t) _ _ _ = _
    rw [scn_wnum (lies_mid (s ++ g) (itoaB v) t) (lay_end ht) q1 q2 q3 q4, ← ByteArray.size_append]
    rfl
  | qu x =>
    obtain ⟨q1, q2⟩ := quo_sz x
    refine ⟨(s ++ g).size, h.word hg.1 hg.2 (by show (quo x).size ≠ 0; omega) (by show byt (quo x) 0 ≠ 10; omega) (fun t ht => ?_)⟩
    show scn (s ++ g ++ quo x ++ t) _ _ _ = _
    rw [scn_wquo (s := s ++ g) (lay_end ht), ← ByteArray.size_append]
    rfl
/-- Words, each behind its gap. -/
def gws : List (ByteArray × WI) → ByteArray
  | [] => ByteArray.empty
  | p :: r => p.1 ++ p.2.tx ++ gws r
def gapsOk : Bool → List (ByteArray × WI) → Prop
  | _, [] => True
  | sm, p :: r => gapOk sm p.1 ∧ p.2.ok ∧ gapsOk true r
/-- What is found says these words. -/
def Says : List WI → List Fn → Prop
  | [], [] => True
  | w :: ws, f :: fs => (∃ a l, f = w.fn a l) ∧ Says ws fs
  | _, _ => False
theorem Laid.words {line : Nat} : ∀ (ws : List (ByteArray × WI)) {s : ByteArray} {sm : Bool} {L : List Fn}, Laid s line sm L → gapsOk sm ws → ∃ F, Says (ws.map (·.2)) F ∧ Laid (s ++ gws ws) line (sm || !ws.isEmpty) (L ++ F) := by
  intro ws
  induction ws with
  | nil => intro s sm L h _; exact ⟨[], trivial, by simpa [gws] using h⟩
  | cons p r ih =>
    intro s sm L h hg
    obtain ⟨g1, g2, g3⟩ := hg
    obtain ⟨a, h1⟩ := h.wi g2 g1
    obtain ⟨F, hF, h2⟩ := ih h1 g3
    refine ⟨p.2.fn a line :: F, ⟨⟨a, line, rfl⟩, hF⟩, ?_⟩
    have e : s ++ gws (p :: r) = s ++ p.1 ++ p.2.tx ++ gws r := by
      show s ++ (p.1 ++ p.2.tx ++ gws r) = _
      simp only [ByteArray.append_assoc]
    rw [e]
    have e2 : L ++ p.2.fn a line :: F = L ++ [p.2.fn a line] ++ F := by simp
    rw [e2]
    simpa using h2
/-- A step's words. -/
def fWI (s : Stp) (f : Fld) : WI :=
  match f with
  | .site => .nu s.site
  | .peer => .nu s.peer
  | .at => .nu s.at_
  | .num => .nu s.n
  | .text => .qu s.text
  | .data => .qu s.data
def sayI (k : Nat) (s : Stp) : List WI := .pl (tabW k) :: ((tabF k).map (fWI s) ++ (if k = 6 then s.draws.map .nu else []))
theorem sayI_tx (k : Nat) (s : Stp) : (sayI k s).map WI.tx = sayW k s := by
  unfold sayI sayW
  have h1 : (tabF k).map (WI.tx ∘ fWI s) = (tabF k).map (fW s) := by
    apply List.map_congr_left
    intro f _
    cases f <;> rfl
  by_cases hk : k = 6
  · rw [if_pos hk, if_pos hk]
    simp only [List.map_cons, List.map_append, List.map_map, h1]
    rfl
  · rw [if_neg hk, if_neg hk]
    simp only [List.map_cons, List.map_append, List.map_map, h1]
    rfl
def wdI (w : WI) : Nat × ByteArray × Int :=
  match w with
  | .pl x => (1, x, 0)
  | .nu v => (3, ByteArray.empty, v)
  | .qu x => (2, x, 0)
theorem says_wd {w : WI} {f : Fn} (h : ∃ a l, f = w.fn a l) : f.e = 0 ∧ f.k ≠ 4 ∧ (wdF f).1 = (wdI w).1 ∧ (wdF f).2.1 = (wdI w).2.1 ∧ (wdF f).2.2.1 = (wdI w).2.2 := by
  obtain ⟨a, l, rfl⟩ := h
  cases w <;> exact ⟨rfl, by simp [WI.fn], rfl, rfl, rfl⟩
theorem fill_says : ∀ (fs : List Fld) (s x : Stp) (F : List Fn), Says (fs.map (fWI s)) F → fillL fs (F.map wdF) x = some (fs.foldl (cpF s) x) := by
  intro fs
  induction fs with
  | nil =>
    intro s x F h
    cases F with
    | nil => rfl
    | cons _ _ => exact absurd h (by simp [Says])
  | cons f fs ih =>
    intro s x F h
    cases F with
    | nil => exact absurd h (by simp [Says])
    | cons g F =>
      obtain ⟨h1, h2⟩ := h
      obtain ⟨_, _, e1, e2, e3⟩ := says_wd h1
      rw [List.map_cons]
      unfold fillL
      rw [e1, e2, e3]
      have hb : (setF f (wdI (fWI s f)).1 (wdI (fWI s f)).2.1 (wdI (fWI s f)).2.2 x) = (cpF s x f, true) := by cases f <;> rfl
      rw [hb, if_pos rfl]
      exact ih s _ F h2
theorem draw_says : ∀ (d : List Int) (F : List Fn), Says (d.map .nu) F → drawL (F.map wdF) = some d := by
  intro d
  induction d with
  | nil =>
    intro F h
    cases F with
    | nil => rfl
    | cons _ _ => exact absurd h (by simp [Says])
  | cons x d ih =>
    intro F h
    cases F with
    | nil => exact absurd h (by simp [Says])
    | cons g F =>
      obtain ⟨h1, h2⟩ := h
      obtain ⟨_, _, e1, e2, e3⟩ := says_wd h1
      rw [List.map_cons]
      unfold drawL
      rw [e1, e3, ih F h2]
      rfl
theorem says_len : ∀ {ws : List WI} {F : List Fn}, Says ws F → F.length = ws.length
  | [], [], _ => rfl
  | [], _ :: _, h => by cases h
  | _ :: _, [], h => by cases h
  | w :: ws, f :: fs, h => by rw [List.length_cons, List.length_cons, says_len h.2]
theorem kind_of (k : Nat) (h1 : 1 ≤ k) (h2 : k ≤ 14) (w : Nat × ByteArray × Int × Nat × Nat) (hw : w.1 = 1) (ht : w.2.1 = tabW k) : kindF w 14 0 = some k := by
  obtain ⟨a, b, c⟩ := w
  simp only at hw ht
  subst hw
  subst ht
  match k, h1, h2 with
  | 1, _, _ => rfl
  | 2, _, _ => rfl
  | 3, _, _ => rfl
  | 4, _, _ => rfl
  | 5, _, _ => rfl
  | 6, _, _ => rfl
  | 7, _, _ => rfl
  | 8, _, _ => rfl
  | 9, _, _ => rfl
  | 10, _, _ => rfl
  | 11, _, _ => rfl
  | 12, _, _ => rfl
  | 13, _, _ => rfl
  | 14, _, _ => rfl
theorem rd_says {k : Nat} (h1 : 1 ≤ k) (h2 : k ≤ 14) {s : Stp} (hs : s.kind = (k : Int)) {F : List Fn} (h : Says (sayI k s) F) : rd (F.map wdF) = some (bareS s) := by
  unfold sayI at h
  cases F with
  | nil => cases h
  | cons f F =>
    obtain ⟨hf, hF⟩ := h
    obtain ⟨_, _, e1, e2, e3⟩ := says_wd hf
    rw [List.map_cons]
    have hkd := kind_of k h1 h2 (wdF f) e1 e2
    unfold rd bareS
    simp only [hkd]
    by_cases hk : k = 6
    · subst hk
      have hs6 : s.kind = 6 := hs
      rw [if_pos rfl, if_pos hs6]
      have e : tabF 6 = [] := rfl
      rw [e, if_pos rfl] at hF
      rw [draw_says s.draws F (by simpa using hF)]
      rfl
    · have hs6 : ¬ s.kind = 6 := by omega
      rw [if_neg hk, if_neg hs6]
      rw [if_neg hk, List.append_nil] at hF
      have hl := says_len hF
      rw [List.length_map] at hl
      rw [if_pos (by rw [List.length_map]; exact hl), fill_says _ s _ F hF, hs]
      rfl
/-- What is found so far says these steps. -/
def Reads (L : List Fn) (out : List Stp) : Prop := ∀ rest, prs (L ++ rest) [] [] = prs rest [] out
theorem Reads.start : Reads [] [] := fun rest => rfl
theorem prs_words : ∀ {ws : List WI} {F : List Fn}, Says ws F → ∀ (l rest : List Fn) (out : List Stp), prs (F ++ rest) l out = prs rest (l ++ F) out
  | [], [], _, l, rest, out => by simp
  | [], _ :: _, h, _, _, _ => by cases h
  | _ :: _, [], h, _, _, _ => by cases h
  | w :: ws, f :: fs, h, l, rest, out => by
    obtain ⟨a, b, _⟩ := says_wd h.1
    rw [List.cons_append, prs_word a b, prs_words h.2]
    simp
theorem Reads.step {L F : List Fn} {out : List Stp} {ws : List WI} {st : Stp} {f : Fn} (h : Reads L out) (hF : Says ws F) (hr : rd (F.map wdF) = some st) (he : f.e = 0) (hk : f.k = 4) : Reads (L ++ F ++ [f]) (out ++ [st]) := by
  intro rest
  rw [List.append_assoc, List.append_assoc, h, prs_words hF, List.nil_append, List.singleton_append, prs_step he hk hr]
theorem tabW_plain (k : Nat) (h1 : 1 ≤ k) (h2 : k ≤ 14) : plP (tabW k) := by
  have key : ∀ w : ByteArray, w.size ≠ 0 → (∀ i, i < w.size → 97 ≤ byt w i ∧ byt w i ≤ 122) → plP w := by
    intro w hz h
    refine ⟨⟨fun i hi => by have := h i hi; omega, good_ascii fun i hi => by have := h i hi; omega⟩, hz, ?_⟩
    have h0 := h 0 (by omega)
    unfold numB
    rw [if_neg (by omega)]
    exact decide_eq_false (by omega)
  have e : ∀ k, k < 15 → 1 ≤ k → (tabW k).size ≠ 0 ∧ ∀ i, i < (tabW k).size → 97 ≤ byt (tabW k) i ∧ byt (tabW k) i ≤ 122 := by decide
  exact key _ (e k (by omega) h1).1 (e k (by omega) h1).2
theorem sayI_ok {k : Nat} (h1 : 1 ≤ k) (h2 : k ≤ 14) {s : Stp} (h : StpOk s) : ∀ w ∈ sayI k s, w.ok := by
  intro w hw
  unfold sayI at hw
  obtain ⟨_, b1, b2, _, b4, b5, b6⟩ := h
  rcases List.mem_cons.1 hw with rfl | hw
  · exact tabW_plain k h1 h2
  · rcases List.mem_append.1 hw with hw | hw
    · obtain ⟨f, _, rfl⟩ := List.mem_map.1 hw
      cases f <;> first | exact trivial | assumption
    · split at hw
      · obtain ⟨x, hx, rfl⟩ := List.mem_map.1 hw
        exact b6 x hx
      · cases hw
/-- The line's words as they are printed: one blank between. -/
def blanked : List WI → List (ByteArray × WI)
  | [] => []
  | w :: r => (⟨#[]⟩, w) :: r.map fun x => (⟨#[32]⟩, x)
theorem gws_blank (r : List WI) : (gws (r.map fun x => (⟨#[32]⟩, x))).data.toList = (r.map fun x => 32 :: x.tx.data.toList).flatten := by
  induction r with
  | nil => rfl
  | cons x r ih =>
    rw [List.map_cons, List.map_cons, List.flatten_cons, ← ih]
    show ((⟨#[32]⟩ : ByteArray) ++ x.tx ++ gws _).data.toList = _
    simp [ByteArray.append_assoc, ByteArray.data_append]
theorem inter_flat (a : List UInt8) (l : List (List UInt8)) : List.intercalate [32] (a :: l) = a ++ (l.map (32 :: ·)).flatten := by
  induction l generalizing a with
  | nil => simp [List.intercalate]
  | cons b l ih => rw [List.intercalate_cons_cons, ih b]; simp
theorem joinB_gws (ws : List WI) : joinB (ws.map WI.tx) = gws (blanked ws) := by
  apply ByteArray.ext
  apply Array.toList_inj.1
  unfold joinB
  simp only [Lib.join]
  cases ws with
  | nil => rfl
  | cons w r =>
    rw [List.map_cons, List.map_cons, inter_flat]
    show _ = ((⟨#[]⟩ : ByteArray) ++ w.tx ++ gws (r.map fun x => (⟨#[32]⟩, x))).data.toList
    rw [ByteArray.data_append, Array.toList_append, gws_blank, ByteArray.data_append]
    simp [List.map_map, Function.comp_def]
theorem blanked_ok : ∀ (ws : List WI), (∀ w ∈ ws, w.ok) → gapsOk false (blanked ws) := by
  intro ws h
  cases ws with
  | nil => exact trivial
  | cons w r =>
    refine ⟨⟨fun i hi => absurd hi (Nat.not_lt_zero i), by simp⟩, h w (by simp), ?_⟩
    have hr : ∀ x ∈ r, x.ok := fun x hx => h x (by simp [hx])
    clear h
    induction r with
    | nil => exact trivial
    | cons x r ih =>
      refine ⟨⟨fun i hi => ?_, fun _ => (by decide : (⟨#[32]⟩ : ByteArray).size ≠ 0)⟩, hr x (by simp), ih (fun y hy => hr y (by simp [hy]))⟩
      have : i < 1 := hi
      obtain rfl : i = 0 := by omega
      exact .inl rfl
theorem blanked_snd (ws : List WI) : (blanked ws).map (·.2) = ws := by
  cases ws with
  | nil => rfl
  | cons w r => simp [blanked, Function.comp_def]
theorem blanked_ne (w : WI) (r : List WI) : (blanked (w :: r)).isEmpty = false := rfl
/-- A text that is scanned into L so far, whatever stands behind: even a line feed. -/
def LaidN (s : ByteArray) (line : Nat) (L : List Fn) : Prop := ∀ t, scn (s ++ t) 0 1 false = L ++ scn (s ++ t) s.size line false
theorem LaidN.start : LaidN ByteArray.empty 1 [] := fun t => by rw [List.nil_append]; rfl
theorem LaidN.laid {s : ByteArray} {line : Nat} {L : List Fn} (h : LaidN s line L) : Laid s line false L := fun t _ => h t
/-- Behind a line feed. -/
theorem Laid.feed {s : ByteArray} {line : Nat} {L : List Fn} (h : Laid s line true L) : LaidN (s ++ ⟨#[10]⟩) (line + 1) (L ++ [⟨4, ByteArray.empty, 0, s.size, line, 0⟩]) := by
  intro t
  have h1 := h (⟨#[10]⟩ ++ t) (fun _ => by
    rw [if_pos rfl, byt_append_left _ _ _ (by show 0 < 1; omega)]
    exact .inr (.inr (.inr (.inl rfl))))
  rw [← ByteArray.append_assoc] at h1
  have hb : byt (s ++ ⟨#[10]⟩ ++ t) s.size = 10 := (lies_mid s ⟨#[10]⟩ t).2 0 (by show 0 < 1; omega)
  have hz : s.size < (s ++ ⟨#[10]⟩ ++ t).size := by
    rw [ByteArray.size_append, ByteArray.size_append]
    show s.size < s.size + 1 + t.size
    omega
  rw [h1, scn_line hz (.inl hb), show lineB (s ++ ⟨#[10]⟩ ++ t) s.size = (s ++ ⟨#[10]⟩).size by unfold lineB; rw [if_neg (by omega), ByteArray.size_append]; rfl, List.append_assoc]
  rfl
/-- A script's text, and what it is read as. -/
def LaidS (s : ByteArray) (line : Nat) (out : List Stp) : Prop := ∃ L, LaidN s line L ∧ Reads L out
theorem LaidS.start : LaidS ByteArray.empty 1 [] := ⟨[], LaidN.start, Reads.start⟩
theorem sayO_some {s : Stp} {a : ByteArray} (h : sayO s = some a) : ∃ k : Nat, 1 ≤ k ∧ k ≤ 14 ∧ s.kind = (k : Int) ∧ a = gws (blanked (sayI k s)) := by
  unfold sayO at h
  split at h
  · rename_i hk
    injection h with h
    refine ⟨s.kind.toNat, by omega, by omega, by omega, ?_⟩
    rw [← h, ← sayI_tx, joinB_gws]
  · cases h
theorem LaidS.line {s a : ByteArray} {line : Nat} {out : List Stp} {st : Stp} (h : LaidS s line out) (hok : StpOk st) (ha : sayO st = some a) : LaidS (s ++ a ++ ⟨#[10]⟩) (line + 1) (out ++ [bareS st]) := by
  obtain ⟨L, hl, hr⟩ := h
  obtain ⟨k, h1, h2, hk, rfl⟩ := sayO_some ha
  obtain ⟨F, hF, hl2⟩ := hl.laid.words (blanked (sayI k st)) (blanked_ok _ (sayI_ok h1 h2 hok))
  rw [blanked_snd] at hF
  have e : (false || !(blanked (sayI k st)).isEmpty) = true := rfl
  rw [e] at hl2
  exact ⟨_, hl2.feed, hr.step hF (rd_says h1 h2 hk hF) rfl rfl⟩
theorem LaidS.print : ∀ (L : List Stp) {s t : ByteArray} {line : Nat} {out : List Stp}, LaidS s line out → (∀ x ∈ L, StpOk x) → prn L = some t → LaidS (s ++ t) (line + L.length) (out ++ L.map bareS) := by
  intro L
  induction L with
  | nil =>
    intro s t line out h _ hp
    injection hp with hp
    subst hp
    rw [ByteArray.append_empty]
    simpa using h
  | cons x L ih =>
    intro s t line out h hok hp
    unfold prn at hp
    cases ha : sayO x with
    | none => rw [ha] at hp; cases hp
    | some a =>
      rw [ha] at hp
      cases hr : prn L with
      | none => rw [hr] at hp; cases hp
      | some r =>
        rw [hr] at hp
        injection hp with hp
        subst hp
        have h1 := ih (h.line (hok x (by simp)) ha) (fun y hy => hok y (by simp [hy])) hr
        have e1 : s ++ (a ++ ⟨#[10]⟩ ++ r) = s ++ a ++ ⟨#[10]⟩ ++ r := by simp only [ByteArray.append_assoc]
        have e2 : line + (x :: L).length = line + 1 + L.length := by rw [List.length_cons]; omega
        have e3 : out ++ (x :: L).map bareS = out ++ [bareS x] ++ L.map bareS := by simp
        rw [e1, e2, e3]
        exact h1
theorem LaidS.parse {s : ByteArray} {line : Nat} {out : List Stp} (h : LaidS s line out) : prsT s = (out, 0, 0) := by
  obtain ⟨L, hl, hr⟩ := h
  unfold prsT
  rw [hl.laid.stop]
  have e : endF false s.size line = [] := rfl
  rw [e, hr]
  rfl
/-- What is printed is read again. -/
theorem prs_prn {L : List Stp} {t : ByteArray} (hok : ∀ x ∈ L, StpOk x) (h : prn L = some t) : prsT t = (L.map bareS, 0, 0) := by
  have := (LaidS.print L LaidS.start hok h).parse
  rw [ByteArray.empty_append, List.nil_append] at this
  exact this
end Go.Proofs.YtbidppjhenfjdaaDoor
namespace Go.Proofs.YtbidppjhenfjdaaDoor
open Go.RowKit
set_option linter.unusedVariables false
set_option linter.unusedSimpArgs false

theorem cpF_kind (s : Stp) : ∀ (fs : List Fld) (x : Stp), (fs.foldl (cpF s) x).kind = x.kind := by
  intro fs
  induction fs with
  | nil => intro x; rfl
  | cons f fs ih => intro x; rw [List.foldl_cons, ih]; cases f <;> rfl
theorem bare_kind (s : Stp) : (bareS s).kind = s.kind := by
  unfold bareS
  split
  · rename_i h; rw [h]; rfl
  · rw [cpF_kind]; rfl
theorem bare_sayW (k : Nat) (h1 : 1 ≤ k) (h2 : k ≤ 14) (s : Stp) (hs : s.kind = (k : Int)) : sayW k (bareS s) = sayW k s := by
  obtain ⟨kind, site, peer, unit, at_, n, text, draws, data⟩ := s
  simp only at hs
  subst hs
  match k, h1, h2 with
  | 1, _, _ => rfl
  | 2, _, _ => rfl
  | 3, _, _ => rfl
  | 4, _, _ => rfl
  | 5, _, _ => rfl
  | 6, _, _ => rfl
  | 7, _, _ => rfl
  | 8, _, _ => rfl
  | 9, _, _ => rfl
  | 10, _, _ => rfl
  | 11, _, _ => rfl
  | 12, _, _ => rfl
  | 13, _, _ => rfl
  | 14, _, _ => rfl
theorem bare_sayO (s : Stp) : sayO (bareS s) = sayO s := by
  unfold sayO
  rw [bare_kind]
  by_cases h : 1 ≤ s.kind ∧ s.kind ≤ 14
  · rw [if_pos h, if_pos h, bare_sayW _ (by omega) (by omega) s (by omega)]
  · rw [if_neg h, if_neg h]
theorem prn_bare : ∀ (L : List Stp), prn (L.map bareS) = prn L := by
  intro L
  induction L with
  | nil => rfl
  | cons s L ih => rw [List.map_cons]; unfold prn; rw [bare_sayO, ih]
theorem cpF_ok {s : Stp} (hs : StpOk s) : ∀ (fs : List Fld) {x : Stp}, StpOk x → StpOk (fs.foldl (cpF s) x) := by
  intro fs
  induction fs with
  | nil => intro x hx; exact hx
  | cons f fs ih =>
    intro x hx
    rw [List.foldl_cons]
    apply ih
    obtain ⟨a0, a1, a2, a3, a4, a5, a6⟩ := hs
    obtain ⟨b0, b1, b2, b3, b4, b5, b6⟩ := hx
    cases f <;> exact ⟨by assumption, by assumption, by assumption, by assumption, by assumption, by assumption, by assumption⟩
theorem i64_0 : I64 0 := by unfold I64; omega
theorem i64_6 : I64 6 := by unfold I64; omega
theorem zero_ok {k : Int} (h : I64 k) : StpOk (Stp.zero k) := ⟨h, i64_0, i64_0, i64_0, i64_0, i64_0, fun x hx => (by cases hx)⟩
theorem bare_ok {s : Stp} (h : StpOk s) : StpOk (bareS s) := by
  unfold bareS
  split
  · exact ⟨i64_6, i64_0, i64_0, i64_0, i64_0, i64_0, h.2.2.2.2.2.2⟩
  · exact cpF_ok h _ (zero_ok h.1)
theorem cpF_small {s : Stp} (hs : StpSmall s) : ∀ (fs : List Fld) {x : Stp}, StpSmall x → StpSmall (fs.foldl (cpF s) x) := by
  intro fs
  induction fs with
  | nil => intro x hx; exact hx
  | cons f fs ih =>
    intro x hx
    rw [List.foldl_cons]
    apply ih
    obtain ⟨a0, a1, a2⟩ := hs
    obtain ⟨b0, b1, b2⟩ := hx
    cases f <;> exact ⟨by assumption, by assumption, by assumption⟩
theorem bare_small {s : Stp} (h : StpSmall s) : StpSmall (bareS s) := by
  unfold bareS
  split
  · exact ⟨Nat.zero_le _, Nat.zero_le _, h.2.2⟩
  · exact cpF_small h _ ⟨Nat.zero_le _, Nat.zero_le _, Nat.zero_le _⟩

/-! ### what words say -/
theorem kindF_le {w : Nat × ByteArray × Int × Nat × Nat} : ∀ (m i k : Nat), kindF w m i = some k → i + 1 ≤ k ∧ k ≤ i + m := by
  intro m
  induction m with
  | zero => intro i k h; cases h
  | succ m ih =>
    intro i k h
    unfold kindF at h
    split at h
    · injection h with h; omega
    · have := ih _ _ h; omega
theorem fillL_other {f : Fld} {s : Stp} : ∀ (fs : List Fld) (ws : List (Nat × ByteArray × Int × Nat × Nat)) (x : Stp), (∀ g ∈ fs, f ≠ g) → fillL fs ws x = some s → ∀ y, cpF s y f = cpF x y f := by
  intro fs
  induction fs with
  | nil => intro ws x _ h y; injection h with h; subst h; rfl
  | cons g fs ih =>
    intro ws x hf h y
    cases ws with
    | nil => cases h
    | cons w ws =>
      unfold fillL at h
      split at h
      · rw [ih ws _ (fun g hg => hf g (by simp [hg])) h y]
        have hne := hf g (by simp)
        cases f <;> cases g <;> first | rfl | exact absurd rfl hne
      · cases h
theorem fillL_back {s : Stp} : ∀ (fs : List Fld) (ws : List (Nat × ByteArray × Int × Nat × Nat)) (x : Stp), fs.Pairwise (· ≠ ·) → fillL fs ws x = some s → fs.foldl (cpF s) x = s := by
  intro fs
  induction fs with
  | nil => intro ws x _ h; injection h
  | cons f fs ih =>
    intro ws x hp h
    cases ws with
    | nil => cases h
    | cons w ws =>
      unfold fillL at h
      split at h
      · have h1 := ih ws _ (List.pairwise_cons.1 hp).2 h
        have h2 := fillL_other (f := f) fs ws _ (List.pairwise_cons.1 hp).1 h x
        rw [List.foldl_cons, h2]
        have e : cpF (setF f w.1 w.2.1 w.2.2.1 x).1 x f = (setF f w.1 w.2.1 w.2.2.1 x).1 := by cases f <;> rfl
        rw [e]
        exact h1
      · cases h
theorem tabF_pair (k : Nat) : (tabF k).Pairwise (· ≠ ·) := by
  unfold tabF
  split <;> simp
/-- The numbers and texts of words. -/
def WdOk (w : Nat × ByteArray × Int × Nat × Nat) : Prop := I64 w.2.2.1
def wsz : List (Nat × ByteArray × Int × Nat × Nat) → Nat
  | [] => 0
  | w :: ws => w.2.1.size + wsz ws
theorem fillL_ok {s : Stp} : ∀ (fs : List Fld) (ws : List (Nat × ByteArray × Int × Nat × Nat)) (x : Stp), (∀ w ∈ ws, WdOk w) → StpOk x → fillL fs ws x = some s → StpOk s ∧ s.text.size + s.data.size ≤ x.text.size + x.data.size + wsz ws ∧ s.draws = x.draws ∧ s.kind = x.kind := by
  intro fs
  induction fs with
  | nil => intro ws x _ hx h; injection h with h; subst h; exact ⟨hx, by omega, rfl, rfl⟩
  | cons f fs ih =>
    intro ws x hw hx h
    cases ws with
    | nil => cases h
    | cons w ws =>
      unfold fillL at h
      split at h
      · have hw1 : I64 w.2.2.1 := hw w (by simp)
        have h1 : StpOk (setF f w.1 w.2.1 w.2.2.1 x).1 := by
          obtain ⟨b0, b1, b2, b3, b4, b5, b6⟩ := hx
          cases f <;> exact ⟨by assumption, by assumption, by assumption, by assumption, by assumption, by assumption, by assumption⟩
        obtain ⟨q1, q2, q3, q4⟩ := ih ws _ (fun y hy => hw y (by simp [hy])) h1 h
        have h2 : (setF f w.1 w.2.1 w.2.2.1 x).1.text.size + (setF f w.1 w.2.1 w.2.2.1 x).1.data.size ≤ x.text.size + x.data.size + w.2.1.size := by
          cases f <;> simp only [setF] <;> omega
        have h3 : (setF f w.1 w.2.1 w.2.2.1 x).1.draws = x.draws ∧ (setF f w.1 w.2.1 w.2.2.1 x).1.kind = x.kind := by cases f <;> exact ⟨rfl, rfl⟩
        refine ⟨q1, ?_, by rw [q3, h3.1], by rw [q4, h3.2]⟩
        unfold wsz
        omega
      · cases h
theorem drawL_ok : ∀ (ws : List (Nat × ByteArray × Int × Nat × Nat)) (d : List Int), (∀ w ∈ ws, WdOk w) → drawL ws = some d → (∀ x ∈ d, I64 x) ∧ d.length = ws.length := by
  intro ws
  induction ws with
  | nil => intro d _ h; simp [drawL] at h; subst h; exact ⟨fun x hx => (by cases hx), rfl⟩
  | cons w ws ih =>
    intro d hw h
    unfold drawL at h
    split at h
    · cases hd : drawL ws with
      | none => rw [hd] at h; simp at h
      | some e =>
        rw [hd] at h
        simp at h
        subst h
        obtain ⟨h1, h2⟩ := ih e (fun y hy => hw y (by simp [hy])) hd
        refine ⟨fun x hx => ?_, by simp [h2]⟩
        rcases List.mem_cons.1 hx with rfl | hx
        · exact hw w (by simp)
        · exact h1 x hx
    · cases h
/-- A step that was read from words. -/
def ReadS (s : Stp) : Prop := bareS s = s ∧ (1 ≤ s.kind ∧ s.kind ≤ 14) ∧ StpOk s
theorem rd_ok {ws : List (Nat × ByteArray × Int × Nat × Nat)} {s : Stp} (hw : ∀ w ∈ ws, WdOk w) (h : rd ws = some s) : ReadS s ∧ s.text.size + s.data.size ≤ wsz ws ∧ s.draws.length ≤ ws.length := by
  cases ws with
  | nil => cases h
  | cons w ws =>
    unfold rd at h
    cases hk : kindF w 14 0 with
    | none => simp only [hk] at h; cases h
    | some k =>
      simp only [hk] at h
      have hle := kindF_le 14 0 k hk
      split at h
      · rename_i h6
        cases hd : drawL ws with
        | none => rw [hd] at h; simp at h
        | some d =>
          rw [hd] at h
          injection h with h
          obtain ⟨h1, h2⟩ := drawL_ok ws d (fun y hy => hw y (by simp [hy])) hd
          subst h
          refine ⟨⟨rfl, ⟨by show (1 : Int) ≤ 6; omega, by show (6 : Int) ≤ 14; omega⟩, i64_6, i64_0, i64_0, i64_0, i64_0, i64_0, h1⟩, Nat.zero_le _, ?_⟩
          rw [List.length_cons]
          show d.length ≤ _
          omega
      · rename_i h6
        split at h
        · obtain ⟨q1, q2, q3, q4⟩ := fillL_ok (tabF k) ws _ (fun y hy => hw y (by simp [hy])) (zero_ok (by unfold I64; omega)) h
          have hb := fillL_back (tabF k) ws _ (tabF_pair k) h
          have hkk : s.kind = (k : Int) := q4
          refine ⟨⟨?_, ⟨by omega, by omega⟩, q1⟩, ?_, ?_⟩
          · unfold bareS
            rw [hkk, if_neg (by omega)]
            exact hb
          · have e : (Stp.zero (k : Int)).text.size + (Stp.zero (k : Int)).data.size = 0 := rfl
            unfold wsz
            omega
          · rw [q3]; exact Nat.zero_le _
        · cases h

/-! ### how much it is -/
/-- A bound of a step's line. -/
def stW (s : Stp) : Nat := 100 + 10 * (s.text.size + s.data.size) + 22 * s.draws.length
def stWs : List Stp → Nat
  | [] => 0
  | s :: L => stW s + stWs L
theorem stWs_app (a b : List Stp) : stWs (a ++ b) = stWs a + stWs b := by
  induction a with
  | nil => simp [stWs]
  | cons x a ih => simp [stWs, ih]; omega
theorem tabF_sz {s : Stp} (h : StpOk s) (k : Nat) : sizes ((tabF k).map (fW s)) ≤ 66 + 10 * (s.text.size + s.data.size) + 8 := by
  obtain ⟨h0, h1, h2, h3, h4, h5, h6⟩ := h
  have e1 := itB_size h1
  have e2 := itB_size h2
  have e4 := itB_size h4
  have e5 := itB_size h5
  have e6 := quo_size s.text
  have e7 := quo_size s.data
  unfold tabF
  split <;> simp only [List.map_cons, List.map_nil, sizes, fW] <;> omega
theorem sayO_le {s : Stp} {a : ByteArray} (h : StpOk s) (e : sayO s = some a) : a.size + 1 ≤ stW s := by
  unfold sayO at e
  split at e
  · rename_i hk
    injection e with e
    subst e
    have h1 := join_le (sayW s.kind.toNat s)
    have h2 := tabF_sz h s.kind.toNat
    have h3 : (tabW s.kind.toNat).size ≤ 7 := by
      have : ∀ k, k < 15 → (tabW k).size ≤ 7 := by decide
      exact this _ (by omega)
    have h4 : sizes (sayW s.kind.toNat s) ≤ 8 + (66 + 10 * (s.text.size + s.data.size) + 8) + s.draws.length * 22 := by
      unfold sayW
      rw [List.cons_append]
      unfold sizes
      rw [sizes_app]
      have h5 : sizes (if s.kind.toNat = 6 then s.draws.map itB else []) ≤ s.draws.length * 22 := by
        split
        · have := sizes_le (s.draws.map itB) (m := 21) (fun x hx => by
            obtain ⟨y, hy, rfl⟩ := List.mem_map.1 hx
            exact itB_size (h.2.2.2.2.2.2 y hy))
          rw [List.length_map] at this
          exact this
        · exact Nat.zero_le _
      omega
    show (Lib.join ((sayW s.kind.toNat s).map (·.data.toList)) [32]).toArray.size + 1 ≤ _
    simp only [List.size_toArray]
    unfold stW
    omega
  · cases e
theorem prn_le : ∀ (L : List Stp) {t : ByteArray}, (∀ x ∈ L, StpOk x) → prn L = some t → t.size ≤ stWs L := by
  intro L
  induction L with
  | nil => intro t _ h; injection h with h; subst h; exact Nat.zero_le _
  | cons s L ih =>
    intro t hok h
    unfold prn at h
    cases ha : sayO s with
    | none => rw [ha] at h; cases h
    | some a =>
      rw [ha] at h
      cases hr : prn L with
      | none => rw [hr] at h; cases h
      | some r =>
        rw [hr] at h
        injection h with h
        subst h
        have h1 := ih (fun y hy => hok y (by simp [hy])) hr
        have h2 := sayO_le (hok s (by simp)) ha
        unfold stWs
        rw [ByteArray.size_append, ByteArray.size_append]
        show a.size + 1 + r.size ≤ _
        omega
theorem prn_some : ∀ (L : List Stp), (∀ x ∈ L, 1 ≤ x.kind ∧ x.kind ≤ 14) → ∃ t, prn L = some t := by
  intro L
  induction L with
  | nil => intro _; exact ⟨_, rfl⟩
  | cons s L ih =>
    intro h
    obtain ⟨t, ht⟩ := ih (fun x hx => h x (by simp [hx]))
    unfold prn sayO
    rw [if_pos (h s (by simp)), ht]
    exact ⟨_, rfl⟩
theorem prn_kinds : ∀ (L : List Stp) {t : ByteArray}, prn L = some t → ∀ x ∈ L, 1 ≤ x.kind ∧ x.kind ≤ 14 := by
  intro L
  induction L with
  | nil => intro t _ x hx; cases hx
  | cons s L ih =>
    intro t h x hx
    unfold prn at h
    cases ha : sayO s with
    | none => rw [ha] at h; cases h
    | some a =>
      rw [ha] at h
      cases hr : prn L with
      | none => rw [hr] at h; cases h
      | some r =>
        rcases List.mem_cons.1 hx with rfl | hx
        · unfold sayO at ha
          split at ha
          · assumption
          · cases ha
        · exact ih hr x hx

/-! ### what is scanned -/
def fsz : List Fn → Nat
  | [] => 0
  | f :: L => f.t.size + fsz L
theorem fsz_app (a b : List Fn) : fsz (a ++ b) = fsz a + fsz b := by
  induction a with
  | nil => simp [fsz]
  | cons x a ih => simp [fsz, ih]; omega
theorem fsz_wd (l : List Fn) : wsz (l.map wdF) = fsz l := by
  induction l with
  | nil => rfl
  | cons f l ih => rw [List.map_cons]; unfold wsz fsz; rw [ih]; rfl
theorem qd_sz (s : ByteArray) : ∀ (m i : Nat) (b : ByteArray), s.size - i ≤ m → (qd s i b).2.1.size + 2 * i ≤ b.size + 2 * (qd s i b).2.2 ∨ (qd s i b).2.1.size = 0 := by
  intro m
  induction m with
  | zero => intro i b hm; right; rw [qd_end b (by omega)]; rfl
  | succ m ih =>
    intro i b hm
    by_cases h : i < s.size
    · by_cases h1 : byt s i = 34
      · rw [qd_q b h h1]; left; simp only; omega
      · by_cases h2 : byt s i = 92
        · by_cases h3 : (esc (s.extract (i + 1) s.size)).2 = 0
          · rw [qd_bad b h h2 h3]; right; rfl
          · rw [qd_esc b h h2 h3]
            have he := esc_spec (s.extract (i + 1) s.size)
            have := ih (i + 1 + (esc (s.extract (i + 1) s.size)).2) (b ++ (esc (s.extract (i + 1) s.size)).1) (by omega)
            rw [ByteArray.size_append] at this
            omega
        · by_cases h3 : wid s i = 0 ∨ (dec s i).1 < 32 ∨ (dec s i).1 = 127
          · rw [qd_off b h h1 h2 h3]; right; rfl
          · rw [qd_on b h h1 h2 h3]
            have hn := dec_n h
            have hw : wid s i ≠ 0 := fun e => h3 (.inl e)
            have hen := (rune_of_wid h hw).enc
            have hen2 : (Utf8.encode ((dec s i).1 : Nat)).size = (dec s i).2 := by
              rw [hen, wid_snd hw]
              have h4 := (rune_of_wid h hw).1
              have h5 := (rune_of_wid h hw).n4
              rw [ByteArray.size_extract]
              omega
            have := ih (i + (dec s i).2) (b ++ Utf8.encode ((dec s i).1 : Nat)) (by omega)
            rw [ByteArray.size_append, hen2] at this
            omega
    · right; rw [qd_end b h]; rfl
theorem qtd_sz {s x : ByteArray} {a e : Nat} (h : qtd s a = (true, x, e)) : x.size ≤ 2 * (e - a) := by
  have hm := qtd_more h
  unfold qtd at h
  split at h
  · have := qd_sz s s.size (a + 1) ByteArray.empty (by omega)
    rw [h] at this
    simp only [ByteArray.size_empty] at this
    omega
  · injection h with h; cases h
theorem numO_range {neg : Bool} {d : List UInt8} {v : Int} (h : numO neg d = some v) : I64 v := by
  obtain ⟨c, r, n, _, _, _, _, h⟩ := numO_some h
  unfold I64
  omega
theorem numT_range {l : List UInt8} {v : Int} (h : numT l = some v) : I64 v := by
  unfold numT at h
  cases l with
  | nil => cases h
  | cons c r =>
    simp only at h
    split at h <;> exact numO_range h
theorem plF_okn {s : ByteArray} {a l : Nat} : I64 (plF s a l).1.n ∧ (plF s a l).1.l = l := by
  unfold plF
  split
  · exact ⟨i64_0, rfl⟩
  · split
    · exact ⟨i64_0, rfl⟩
    · split
      · exact ⟨i64_0, rfl⟩
      · rename_i v hv; exact ⟨numT_range hv, rfl⟩
theorem plF_tsz {s f : _} {a l e : Nat} (h : plF s a l = (f, some e)) (hz : e ≤ s.size) : f.t.size ≤ e - a := by
  unfold plF at h
  split at h
  · injection h with _ h; cases h
  · split at h
    · injection h with h1 h2
      injection h2 with h2
      subst h1
      show (s.extract a (pw s a).1).size ≤ _
      rw [ByteArray.size_extract]
      omega
    · split at h
      · injection h with _ h; cases h
      · injection h with h1 h2
        subst h1
        exact Nat.zero_le _
/-- What is found: numbers of a machine, lines from the first on; errors have no text. -/
def FnOk (l : Nat) (f : Fn) : Prop := I64 f.n ∧ l ≤ f.l
theorem FnOk.mono {l l' : Nat} {f : Fn} (h : FnOk l f) (hl : l' ≤ l) : FnOk l' f := ⟨h.1, Nat.le_trans hl h.2⟩
theorem scn_facts (s : ByteArray) : ∀ (m a l : Nat) (sm : Bool), s.size - a ≤ m → a ≤ s.size → fsz (scn s a l sm) ≤ 2 * (s.size - a) ∧ ∀ f ∈ scn s a l sm, FnOk l f := by
  intro m
  have hend : ∀ (a l : Nat) (sm : Bool), fsz (endF sm a l) = 0 ∧ ∀ f ∈ endF sm a l, FnOk l f := by
    intro a l sm
    unfold endF
    split
    · exact ⟨rfl, fun f hf => by simp at hf; subst hf; exact ⟨i64_0, Nat.le_refl _⟩⟩
    · exact ⟨rfl, fun f hf => (by cases hf)⟩
  induction m with
  | zero =>
    intro a l sm hm ha
    rw [scn_over (by omega)]
    exact ⟨by rw [(hend a l sm).1]; omega, (hend a l sm).2⟩
  | succ m ih =>
    intro a l sm hm ha
    by_cases hlt : a < s.size
    · have hcs : (byt s a = 10 ∨ byt s a = 13) ∨ (byt s a = 32 ∨ byt s a = 9) ∨ byt s a = 35 ∨ (WordAt s a ∧ byt s a ≠ 34) ∨ (WordAt s a ∧ byt s a = 34) := by unfold WordAt; omega
      rcases hcs with hc | hc | hc | ⟨hw, hc⟩ | ⟨hw, hc⟩
      · rw [scn_line hlt hc, fsz_app, (hend a l sm).1]
        have hlb := lineB_more hlt
        have h1 := ih (lineB s a) (l + 1) false (by omega) hlb.2
        refine ⟨by omega, fun f hf => ?_⟩
        rcases List.mem_append.1 hf with hf | hf
        · exact (hend a l sm).2 f hf
        · exact (h1.2 f hf).mono (by omega)
      · rw [scn_blank hlt hc]
        have h1 := ih (a + 1) l sm (by omega) (by omega)
        exact ⟨by omega, h1.2⟩
      · rw [scn_rem hlt hc]
        have h3 := rem_on (s := s) (i := a) ⟨hlt, by omega, by omega⟩
        have h4 := rem_spec s s.size (a + 1) (by omega) (by omega)
        have h1 := ih (rem s a) l sm (by omega) (by omega)
        exact ⟨by omega, h1.2⟩
      · obtain ⟨⟨f, o⟩, hp⟩ : ∃ r, plF s a l = r := ⟨_, rfl⟩
        have hn := plF_okn (s := s) (a := a) (l := l)
        rw [hp] at hn
        cases o with
        | none =>
          rw [scn_bad hw hc hp]
          have ht : f.t.size = 0 := by
            unfold plF at hp
            split at hp
            · injection hp with hp; subst hp; rfl
            · split at hp
              · injection hp with _ hp; cases hp
              · split at hp
                · injection hp with hp; subst hp; rfl
                · injection hp with _ hp; cases hp
          refine ⟨by simp [fsz, ht], fun g hg => ?_⟩
          simp at hg
          subst hg
          exact ⟨hn.1, Nat.le_of_eq hn.2.symm⟩
        | some e =>
          have hm := plF_more (s := s) (a := a) (l := l) (e := e) hw.ends (by rw [hp])
          have ht := plF_tsz hp hm.2
          rw [scn_plain hw hc hp]
          have h1 := ih e l true (by omega) hm.2
          refine ⟨by unfold fsz; omega, fun g hg => ?_⟩
          rcases List.mem_cons.1 hg with rfl | hg
          · exact ⟨hn.1, Nat.le_of_eq hn.2.symm⟩
          · exact h1.2 g hg
      · obtain ⟨⟨ok, x, e⟩, hq⟩ : ∃ r, qtd s a = r := ⟨_, rfl⟩
        have hbad : ∀ e', fsz [(⟨0, ByteArray.empty, 0, e', l, 18⟩ : Fn)] ≤ 2 * (s.size - a) ∧ ∀ f ∈ [(⟨0, ByteArray.empty, 0, e', l, 18⟩ : Fn)], FnOk l f := fun e' => ⟨by simp [fsz], fun g hg => by simp at hg; subst hg; exact ⟨i64_0, Nat.le_refl _⟩⟩
        cases ok with
        | false => rw [scn_unq hw hc hq (.inl rfl)]; exact hbad e
        | true =>
          cases he : endB s e with
          | false => rw [scn_unq hw hc hq (.inr he)]; exact hbad e
          | true =>
            have hm := qtd_more hq
            have hz := qtd_sz hq
            rw [scn_quote hw hc hq he]
            have h1 := ih e l true (by omega) hm.2
            refine ⟨by unfold fsz; simp only; omega, fun g hg => ?_⟩
            rcases List.mem_cons.1 hg with rfl | hg
            · exact ⟨i64_0, Nat.le_refl _⟩
            · exact h1.2 g hg
    · rw [scn_over hlt]
      exact ⟨by rw [(hend a l sm).1]; omega, (hend a l sm).2⟩
theorem prs_facts : ∀ (fs l : List Fn) (out : List Stp), (∀ f ∈ fs, FnOk 1 f) → (∀ f ∈ l, FnOk 1 f) → (∀ s ∈ out, ReadS s) →
    (∀ s ∈ (prs fs l out).1, ReadS s) ∧ stWs (prs fs l out).1 ≤ stWs out + 10 * (fsz l + fsz fs) + 122 * (l.length + fs.length) ∧ ((prs fs l out).2.2 ≠ 0 → (prs fs l out).1 = [] ∧ 1 ≤ (prs fs l out).2.1) ∧ ((prs fs l out).2.2 = 0 → (prs fs l out).2.1 = 0) := by
  intro fs
  induction fs with
  | nil =>
    intro l out _ _ ho
    refine ⟨ho, ?_, fun h => absurd rfl h, fun _ => rfl⟩
    show stWs out ≤ _
    omega
  | cons f fs ih =>
    intro l out hf hl ho
    by_cases he : f.e = 0
    · by_cases hk : f.k = 4
      · cases hr : rd (l.map wdF) with
        | none =>
          rw [prs_bad he hk hr]
          exact ⟨fun s hs => (by cases hs), Nat.zero_le _, fun _ => ⟨rfl, (hf f (by simp)).2⟩, fun h => (by cases h)⟩
        | some st =>
          rw [prs_step he hk hr]
          obtain ⟨h1, h2, h3⟩ := rd_ok (fun w hw => by
            obtain ⟨g, hg, rfl⟩ := List.mem_map.1 hw
            exact (hl g hg).1) hr
          rw [fsz_wd, ] at h2
          rw [List.length_map] at h3
          obtain ⟨q1, q2, q3, q4⟩ := ih [] (out ++ [st]) (fun g hg => hf g (by simp [hg])) (fun g hg => by cases hg) (fun s hs => by
            rcases List.mem_append.1 hs with hs | hs
            · exact ho s hs
            · simp at hs; subst hs; exact h1)
          refine ⟨q1, ?_, q3, q4⟩
          have e1 : stWs (out ++ [st]) = stWs out + stW st := by rw [stWs_app]; simp [stWs]
          have e2 : fsz ([] : List Fn) = 0 := rfl
          have e3 : fsz (f :: fs) = f.t.size + fsz fs := rfl
          rw [e1, e2] at q2
          rw [e3, List.length_cons]
          rw [List.length_nil] at q2
          unfold stW at q2
          omega
      · rw [prs_word he hk]
        obtain ⟨q1, q2, q3⟩ := ih (l ++ [f]) out (fun g hg => hf g (by simp [hg])) (fun g hg => by
          rcases List.mem_append.1 hg with hg | hg
          · exact hl g hg
          · simp at hg; subst hg; exact hf g (by simp)) ho
        refine ⟨q1, ?_, q3⟩
        have e3 : fsz (f :: fs) = f.t.size + fsz fs := rfl
        have e4 : fsz (l ++ [f]) = fsz l + f.t.size := by rw [fsz_app]; simp [fsz]
        rw [e4, List.length_append] at q2
        simp only [List.length_singleton] at q2
        rw [e3, List.length_cons]
        omega
    · rw [prs_err he]
      exact ⟨fun s hs => (by cases hs), Nat.zero_le _, fun _ => ⟨rfl, (hf f (by simp)).2⟩, fun h => absurd h he⟩
theorem prs_each : ∀ (fs l : List Fn) (out : List Stp), (∀ f ∈ fs, FnOk 1 f) → (∀ f ∈ l, FnOk 1 f) → (prs fs l out).1.length ≤ out.length + fs.length ∧ ∀ s ∈ (prs fs l out).1, s ∈ out ∨ (s.text.size + s.data.size ≤ fsz l + fsz fs ∧ s.draws.length ≤ l.length + fs.length) := by
  intro fs
  induction fs with
  | nil => intro l out _ _; exact ⟨by simp [prs], fun s hs => .inl hs⟩
  | cons f fs ih =>
    intro l out hf hl
    have e3 : fsz (f :: fs) = f.t.size + fsz fs := rfl
    by_cases he : f.e = 0
    · by_cases hk : f.k = 4
      · cases hr : rd (l.map wdF) with
        | none => rw [prs_bad he hk hr]; exact ⟨by simp, fun s hs => (by cases hs)⟩
        | some st =>
          rw [prs_step he hk hr]
          obtain ⟨h1, h2, h3⟩ := rd_ok (fun w hw => by
            obtain ⟨g, hg, rfl⟩ := List.mem_map.1 hw
            exact (hl g hg).1) hr
          rw [fsz_wd] at h2
          rw [List.length_map] at h3
          obtain ⟨q1, q2⟩ := ih [] (out ++ [st]) (fun g hg => hf g (by simp [hg])) (fun g hg => by cases hg)
          refine ⟨by simp at q1 ⊢; omega, fun s hs => ?_⟩
          rcases q2 s hs with h | h
          · rcases List.mem_append.1 h with h | h
            · exact .inl h
            · simp at h; subst h; exact .inr ⟨by omega, by simp; omega⟩
          · have e2 : fsz ([] : List Fn) = 0 := rfl
            rw [e2, List.length_nil] at h
            exact .inr ⟨by omega, by simp; omega⟩
      · rw [prs_word he hk]
        obtain ⟨q1, q2⟩ := ih (l ++ [f]) out (fun g hg => hf g (by simp [hg])) (fun g hg => by
          rcases List.mem_append.1 hg with hg | hg
          · exact hl g hg
          · simp at hg; subst hg; exact hf g (by simp))
        have e4 : fsz (l ++ [f]) = fsz l + f.t.size := by rw [fsz_app]; simp [fsz]
        refine ⟨by simp; omega, fun s hs => ?_⟩
        rcases q2 s hs with h | h
        · exact .inl h
        · rw [e4, List.length_append] at h
          simp only [List.length_singleton] at h
          exact .inr ⟨by omega, by simp; omega⟩
    · rw [prs_err he]; exact ⟨by simp, fun s hs => (by cases hs)⟩
theorem prsT_small {s : ByteArray} (hz : s.size ≤ 30000) : (∀ x ∈ (prsT s).1, StpSmall x) ∧ (prsT s).1.length ≤ 30001 := by
  have h1 := scn_len1 s s.size 0 1 false (by omega) (by omega)
  obtain ⟨h2, h3⟩ := scn_facts s s.size 0 1 false (by omega) (by omega)
  obtain ⟨q1, q2⟩ := prs_each (scn s 0 1 false) [] [] h3 (fun f hf => by cases hf)
  refine ⟨fun x hx => ?_, by unfold prsT; simp at q1; omega⟩
  have e2 : fsz ([] : List Fn) = 0 := rfl
  rcases q2 x hx with h | h
  · cases h
  · rw [e2, List.length_nil] at h
    exact ⟨by omega, by omega, by omega⟩
theorem bare_map {L : List Stp} (h : ∀ x ∈ L, ReadS x) : L.map bareS = L := by
  induction L with
  | nil => rfl
  | cons x L ih => rw [List.map_cons, (h x (by simp)).1, ih (fun y hy => h y (by simp [hy]))]
/-- All that is known of a text that is read. -/
theorem prsT_facts (s : ByteArray) : (∀ x ∈ (prsT s).1, ReadS x) ∧ stWs (prsT s).1 ≤ 142 * (s.size + 1) ∧ ((prsT s).2.2 ≠ 0 → (prsT s).1 = [] ∧ 1 ≤ (prsT s).2.1) ∧ ((prsT s).2.2 = 0 → (prsT s).2.1 = 0) := by
  have h1 := scn_len1 s s.size 0 1 false (by omega) (by omega)
  obtain ⟨h2, h3⟩ := scn_facts s s.size 0 1 false (by omega) (by omega)
  obtain ⟨q1, q2, q3⟩ := prs_facts (scn s 0 1 false) [] [] h3 (fun f hf => by cases hf) (fun s hs => by cases hs)
  refine ⟨q1, ?_, q3⟩
  have e1 : stWs ([] : List Stp) = 0 := rfl
  have e2 : fsz ([] : List Fn) = 0 := rfl
  rw [e1, e2, List.length_nil] at q2
  unfold prsT
  omega
theorem stW_le {L : List Stp} {s : Stp} (h : s ∈ L) : stW s ≤ stWs L := by
  induction L with
  | nil => cases h
  | cons x L ih =>
    unfold stWs
    rcases List.mem_cons.1 h with rfl | h
    · omega
    · have := ih h; omega
theorem stWs_len (L : List Stp) : 100 * L.length ≤ stWs L := by
  induction L with
  | nil => exact Nat.zero_le _
  | cons x L ih => unfold stWs stW; rw [List.length_cons]; omega
end Go.Proofs.YtbidppjhenfjdaaDoor
namespace Go.Proofs.YtbidppjhenfjdaaDoor
open Go.RowKit
set_option linter.unusedVariables false
set_option linter.unusedSimpArgs false

inductive Plan where
  | done
  | take (i : Nat) (p : Plan)
  | force (i : Nat) (p : Plan)
  | fork (i j : Nat) (p q : Plan)
section
variable {P : Program} {ops : Array Oper} {md : Region.Mode} {C : World → Prop} {Q : Exit → Act → World → Prop}
def Plan.len : Plan → Nat
  | .done => 0
  | .take _ p => p.len + 1
  | .force _ p => p.len + 1
  | .fork _ _ p _ => p.len + 1
def planB (md : Region.Mode) (ops : Array Oper) : Plan → Array Bool → Bool
  | .done, listed => decide (Region.ready md ops listed = [])
  | .take i p, listed => Region.free md ops listed i && (Region.ready md ops listed).contains i && planB md ops p (listed.setIfInBounds i true)
  | .force i p, listed => decide (Region.ready md ops listed = [i]) && planB md ops p (listed.setIfInBounds i true)
  | .fork i j p q, listed => decide (Region.ready md ops listed = [i, j]) && decide (p.len = q.len) && planB md ops p (listed.setIfInBounds i true) && planB md ops q (listed.setIfInBounds j true)
def wpPlan (P : Program) (ops : Array Oper) (C : World → Prop) (Q : Exit → Act → World → Prop) : Plan → Act → World → Prop
  | .done, a, w => Q .normal a w
  | .take i p, a, w => ∃ o v, ops[i]? = some o ∧ YieldsC P ops C o v a ∧ wpPlan P ops C Q p (a.put o.dst v) w
  | .force i p, a, w => Go.wpOp P ops Q i (fun a' w' => C w' ∧ wpPlan P ops C Q p a' w') a w
  | .fork i j p q, a, w => Go.wpOp P ops Q i (fun a' w' => C w' ∧ wpPlan P ops C Q p a' w') a w ∧ Go.wpOp P ops Q j (fun a' w' => C w' ∧ wpPlan P ops C Q q a' w') a w
theorem wpAnyC_of_plan (hs : Region.noSelect ops = true) (hQ : ∀ c a w, ¬ Q (.panic c) a w) : ∀ (p : Plan) (listed : Array Bool) (a : Act) (w : World), planB md ops p listed = true → C w → wpPlan P ops C Q p a w → wpAnyC P md ops C Q p.len listed a w
  | .done, listed, a, w, hB, hC, h => ⟨by simpa [planB] using hB, h⟩
  | .take i p, listed, a, w, hB, hC, h => by
    simp only [planB, Bool.and_eq_true] at hB
    obtain ⟨o, v, hi, hy, hr⟩ := h
    exact wpAnyC_take hi hs hQ _ listed a w (Region.free_spec hi hB.1.1) (by simpa using hB.1.2) hy hC (wpAnyC_of_plan hs hQ p _ _ w hB.2 hC hr)
  | .force i p, listed, a, w, hB, hC, h => by
    simp only [planB, Bool.and_eq_true, decide_eq_true_eq] at hB
    refine ⟨fun h1 => (by rw [hB.1] at h1; cases h1), fun j hj => ?_⟩
    rw [hB.1] at hj
    obtain rfl : j = i := by simpa using hj
    exact wpOp_mono (fun a' w' hh => ⟨hh.1, wpAnyC_of_plan hs hQ p _ a' w' hB.2 hh.1 hh.2⟩) h
  | .fork i j p q, listed, a, w, hB, hC, h => by
    simp only [planB, Bool.and_eq_true, decide_eq_true_eq] at hB
    obtain ⟨⟨⟨hr, hl⟩, hp⟩, hq⟩ := hB
    refine ⟨fun h1 => (by rw [hr] at h1; cases h1), fun k hk => ?_⟩
    rw [hr] at hk
    rcases List.mem_cons.1 hk with rfl | hk
    · exact wpOp_mono (fun a' w' hh => ⟨hh.1, wpAnyC_of_plan hs hQ p _ a' w' hp hh.1 hh.2⟩) h.1
    · obtain rfl : k = j := by simpa using hk
      refine wpOp_mono (fun a' w' hh => ⟨hh.1, ?_⟩) h.2
      have := wpAnyC_of_plan hs hQ q _ a' w' hq hh.1 hh.2
      rwa [← hl] at this
/-- A REGION THAT DRAWS, by a plan. -/
theorem wp_plan {id : Nat} {a : Act} {w : World} {l : List Oper} (C : World → Prop) (p : Plan) (hm : P.follows .mixedOrders = true) (hB : (Region.noSelect l.toArray && decide (p.len = l.length) && planB .any l.toArray p (Array.replicate l.toArray.size false)) = true)
    (hC : C w.drew) (h : ∀ Q0 : Exit → Act → World → Prop, (∀ a' w', Q .normal a' w' → Q0 .normal a' w') → wpPlan P l.toArray C Q0 p a w.drew) : (Code.region id l.toArray true).wp P Q a w := by
  simp only [Bool.and_eq_true, decide_eq_true_eq] at hB
  obtain ⟨⟨hs, hl⟩, hB⟩ := hB
  refine Code.wp_mono (Q := fun e a' w' => e = .normal ∧ Q .normal a' w') ?_ ?_
  · rintro e a' w' ⟨rfl, h⟩
    exact h
  · refine wp_region_any hm ?_
    have := wpAnyC_of_plan (P := P) (ops := l.toArray) (md := .any) (C := C) (Q := fun e a' w' => e = .normal ∧ Q .normal a' w') hs (fun c a w hh => by cases hh.1) p _ a w.drew hB hC (h _ (fun a' w' hh => ⟨rfl, hh⟩))
    rw [hl] at this
    exact wpAny_of_C _ _ _ _ this
theorem plan_take {a : Act} {w : World} {i : Nat} {p : Plan} {o : Oper} (hi : ops[i]? = some o) (hg : Region.wanted o (yielded ops a.tmps) = true) (v : Value) (hv : ∀ w, C w → ∀ (K : Act → World → Prop) (Q : Exit → Act → World → Prop), K (a.put o.dst v) w → o.wp P a w K Q) (hr : wpPlan P ops C Q p (a.put o.dst v) w) : wpPlan P ops C Q (.take i p) a w :=
  ⟨o, v, hi, ⟨hg, fun w hC => hv w hC _ _ ⟨rfl, rfl⟩⟩, hr⟩
theorem plan_force {a : Act} {w : World} {i : Nat} {p : Plan} {o : Oper} (hi : ops[i]? = some o) (hg : Region.wanted o (yielded ops a.tmps) = true) (h : ∀ K : Act → World → Prop, (∀ a' w', C w' → wpPlan P ops C Q p a' w' → K a' w') → o.wp P a w K Q) : wpPlan P ops C Q (.force i p) a w := by
  show Go.wpOp P ops Q i _ a w
  unfold Go.wpOp
  simp only [hi]
  rw [if_pos hg]
  exact .inl (h _ fun a' w' h1 h2 => ⟨h1, h2⟩)
theorem plan_fork {a : Act} {w : World} {i j : Nat} {p q : Plan} (h1 : wpPlan P ops C Q (.force i p) a w) (h2 : wpPlan P ops C Q (.force j q) a w) : wpPlan P ops C Q (.fork i j p q) a w := ⟨h1, h2⟩
theorem plan_takeL {l : List Oper} {a : Act} {w : World} {i : Nat} {p : Plan} {o : Oper} (hi : l[i]? = some o) (hg : Region.wanted o (yielded l.toArray a.tmps) = true) (v : Value) (hv : ∀ w, C w → ∀ (K : Act → World → Prop) (Q : Exit → Act → World → Prop), K (a.put o.dst v) w → o.wp P a w K Q) (hr : wpPlan P l.toArray C Q p (a.put o.dst v) w) : wpPlan P l.toArray C Q (.take i p) a w :=
  plan_take (by simpa using hi) hg v hv hr
theorem plan_forceL {l : List Oper} {a : Act} {w : World} {i : Nat} {p : Plan} {o : Oper} (hi : l[i]? = some o) (hg : Region.wanted o (yielded l.toArray a.tmps) = true) (h : ∀ K : Act → World → Prop, (∀ a' w', C w' → wpPlan P l.toArray C Q p a' w' → K a' w') → o.wp P a w K Q) : wpPlan P l.toArray C Q (.force i p) a w :=
  plan_force (by simpa using hi) hg h
end
end Go.Proofs.YtbidppjhenfjdaaDoor
namespace Go.Proofs.YtbidppjhenfjdaaDoor
open Go.RowKit
set_option linter.unusedVariables false
set_option linter.unusedSimpArgs false

/-- No list is longer than memory. -/
def StpFit (s : Stp) : Prop := s.text.size ≤ 140737488355327 ∧ s.data.size ≤ 140737488355327 ∧ s.draws.length ≤ 140737488355327
def StpFew (s : Stp) : Prop := s.text.size ≤ 30000 ∧ s.data.size ≤ 30000 ∧ s.draws.length ≤ 400
/-- How many bytes there are in all. -/
def tot : List Stp → Nat
  | [] => 0
  | s :: L => s.text.size + s.data.size + tot L
theorem tot_snoc (a : List Stp) (s : Stp) : tot (a ++ [s]) = tot a + s.text.size + s.data.size := by
  induction a with
  | nil => simp [tot]
  | cons x a ih => simp [tot, ih]; omega
theorem tot_take {L : List Stp} {k : Nat} (hk : k < L.length) : tot (L.take (k + 1)) = tot (L.take k) + L[k].text.size + L[k].data.size := by
  rw [List.take_succ_eq_append_getElem hk, tot_snoc]
def Few (L : List Stp) : Prop := L.length ≤ 200 ∧ (∀ s ∈ L, StpFew s) ∧ tot L ≤ 30000

set_option maxHeartbeats 8000000 in
set_option maxRecDepth 100000 in
theorem much_any (v : Value) (L : List Stp) (W : World) (h : Steps W v L) (hft : ∀ s ∈ L, StpFit s) :
    Calls Tryd.prog 7 #[v] W fun e W' => Keep [] W W' ∧ ∃ b, e = .returned (.bool b) ∧ (b = false → Few L) := by
  have HST := Lib.hid h
  have HFT := Lib.hid hft
  obtain ⟨ad, cap, hv⟩ := h.slice
  subst hv
  clear h hft
  obtain ⟨n, hnl⟩ : ∃ n, n = L.length := ⟨_, rfl⟩
  rw [← hnl] at HST ⊢
  have HN := Lib.hid hnl
  clear hnl
  by_cases hbig : n ≤ 200
  · have f1 := dec_lt_f (show ¬ (200 : Int) < (n : Int) by omega)
    have f2 := dec_ltn_f (show ¬ 200 < n by omega)
    go_enter Tryd.func7, Tryd.ntmps7
    go_upto_region 5 with (fail)
    clear f1 f2
    go_loopw [3, 4] (fun mv iv wr => ∃ k m : Nat, mv = .int .i64 m ∧ iv = .int .i64 k ∧ k ≤ n ∧ m ≤ 30000 ∧ (∀ j (hj : j < L.length), j < k → StpFew L[j]) ∧ tot (L.take k) = m ∧ Keep [] W wr) (fun _ iv _ => n - (intOf iv).toNat)
    case atStart => exact ⟨0, 0, rfl, rfl, Nat.zero_le _, Nat.zero_le _, fun j _ hj => absurd hj (Nat.not_lt_zero _), rfl, Keep.refl _ _⟩
    case round =>
      rename World => wr
      obtain ⟨k, m, rfl, rfl, hk, hm, hfew, htot, hkr⟩ := hrel
      have HTOT := Lib.hid htot
      clear htot
      have HFEW := Lib.hid hfew
      have HKR := Lib.hid hkr
      clear hfew hkr
      by_cases hlt : k < n
      · have HLT := Lib.hid hlt
        have g1 := dec_lt_t (show (k : Int) < (n : Int) by omega)
        have g2 := dec_ltn_t hlt
        have hkL : k < L.length := by rw [← HN.out]; exact hlt
        obtain ⟨gb, off, cp, e, hel⟩ := Steps.elem (by have := HST.out.keep0 HKR.out; exact this) (by omega)
        injection e with e1 e2 e3
        subst e1
        clear e2 e3
        obtain ⟨ad1, cap1, ad2, cap2, hrd, hcl⟩ := hel k hkL
        have hft := HFT.out _ (List.getElem_mem hkL)
        have HNX := Lib.hid (fun (hs : StpFew L[k]) => show ∀ j (hj : j < L.length), j < k + 1 → StpFew L[j] from fun j hj hjk => by
          by_cases e : j = k
          · subst e; exact hs
          · exact HFEW.out j hj (by omega))
        have HNT := Lib.hid (show tot (L.take (k + 1)) = m + L[k].text.size + L[k].data.size by rw [tot_take hkL, HTOT.out])
        generalize L[k] = s at hrd hcl hft HNX HNT
        have c6 : wr.cell? ⟨gb, off + k * 9 + 6, none⟩ = some (.string s.text) := hcl 6 _ rfl
        have c7 : wr.cell? ⟨gb, off + k * 9 + 7, none⟩ = some (.slice ad1 s.draws.length cap1) := hcl 7 _ rfl
        have c8 : wr.cell? ⟨gb, off + k * 9 + 8, none⟩ = some (.slice ad2 s.data.size cap2) := hcl 8 _ rfl
        obtain ⟨hf1, hf2, hf3⟩ := hft
        unfold StpFew at HNX
        clear hel hcl hrd hkL
        obtain ⟨nd, hnd⟩ : ∃ nd, nd = s.draws.length := ⟨_, rfl⟩
        obtain ⟨nb, hnb⟩ : ∃ nb, nb = s.data.size := ⟨_, rfl⟩
        obtain ⟨tx, htx⟩ : ∃ tx, tx = s.text := ⟨_, rfl⟩
        rw [← hnd] at c7 hf3 HNX
        rw [← hnb] at c8 hf2 HNX HNT
        rw [← htx] at c6 hf1 HNX HNT
        clear hnd hnb htx
        have hw1 : IntKind.i64.wrap ((m : Int) + (tx.size : Int)) = (m : Int) + (tx.size : Int) := by rw [IntKind.wrap_i64]; omega
        have hw2 : IntKind.i64.wrap ((m : Int) + (tx.size : Int) + (nb : Int)) = (m : Int) + (tx.size : Int) + (nb : Int) := by rw [IntKind.wrap_i64]; omega
        go_upto_region 7 with (fail)
        refine wp_plan (fun w' => w' = wr.drew) (.take 0 (.take 1 (.take 2 (.take 3 (.take 4 (.take 5 (.take 6 (.take 7 (.take 8 (.take 9 (.take 10 (.take 11 (.take 12 (.take 13 (.take 14 (.force 15 .done)))))))))))))))) (by kernel_rfl) (by kernel_rfl) rfl ?_
        intro Q0 hQ0
        refine plan_takeL rfl rfl (.int .i64 (m : Nat)) ?_ ?_
        · rintro w' rfl K Q hK
          go_simp
          exact hK
        try simp only [Act.put, List.setIfInBounds_toArray, List.set_cons_succ, List.set_cons_zero]
        refine plan_takeL rfl rfl (.slice (some ⟨gb, off, none⟩) n cap) ?_ ?_
        · rintro w' rfl K Q hK
          go_simp
          exact hK
        try simp only [Act.put, List.setIfInBounds_toArray, List.set_cons_succ, List.set_cons_zero]
        refine plan_takeL rfl rfl (.int .i64 (k : Nat)) ?_ ?_
        · rintro w' rfl K Q hK
          go_simp
          exact hK
        try simp only [Act.put, List.setIfInBounds_toArray, List.set_cons_succ, List.set_cons_zero]
        refine plan_takeL rfl rfl (.pointer (some ⟨gb, off + k * 9, none⟩)) ?_ ?_
        · rintro w' rfl K Q hK
          go_simp
          exact hK
        try simp only [Act.put, List.setIfInBounds_toArray, List.set_cons_succ, List.set_cons_zero]
        refine plan_takeL rfl rfl (.pointer (some ⟨gb, off + k * 9 + 6, none⟩)) ?_ ?_
        · rintro w' rfl K Q hK
          go_simp
          exact hK
        try simp only [Act.put, List.setIfInBounds_toArray, List.set_cons_succ, List.set_cons_zero]
        refine plan_takeL rfl rfl (.string tx) ?_ ?_
        · rintro w' rfl K Q hK
          go_simp
          exact hK
        try simp only [Act.put, List.setIfInBounds_toArray, List.set_cons_succ, List.set_cons_zero]
        refine plan_takeL rfl rfl (.int .i64 (tx.size : Nat)) ?_ ?_
        · rintro w' rfl K Q hK
          go_simp
          exact hK
        try simp only [Act.put, List.setIfInBounds_toArray, List.set_cons_succ, List.set_cons_zero]
        refine plan_takeL rfl rfl (.int .i64 ((m : Int) + (tx.size : Int))) ?_ ?_
        · rintro w' rfl K Q hK
          go_simp
          exact hK
        try simp only [Act.put, List.setIfInBounds_toArray, List.set_cons_succ, List.set_cons_zero]
        refine plan_takeL rfl rfl (.slice (some ⟨gb, off, none⟩) n cap) ?_ ?_
        · rintro w' rfl K Q hK
          go_simp
          exact hK
        try simp only [Act.put, List.setIfInBounds_toArray, List.set_cons_succ, List.set_cons_zero]
        refine plan_takeL rfl rfl (.int .i64 (k : Nat)) ?_ ?_
        · rintro w' rfl K Q hK
          go_simp
          exact hK
        try simp only [Act.put, List.setIfInBounds_toArray, List.set_cons_succ, List.set_cons_zero]
        refine plan_takeL rfl rfl (.pointer (some ⟨gb, off + k * 9, none⟩)) ?_ ?_
        · rintro w' rfl K Q hK
          go_simp
          exact hK
        try simp only [Act.put, List.setIfInBounds_toArray, List.set_cons_succ, List.set_cons_zero]
        refine plan_takeL rfl rfl (.pointer (some ⟨gb, off + k * 9 + 8, none⟩)) ?_ ?_
        · rintro w' rfl K Q hK
          go_simp
          exact hK
        try simp only [Act.put, List.setIfInBounds_toArray, List.set_cons_succ, List.set_cons_zero]
        refine plan_takeL rfl rfl (.slice ad2 nb cap2) ?_ ?_
        · rintro w' rfl K Q hK
          go_simp
          exact hK
        try simp only [Act.put, List.setIfInBounds_toArray, List.set_cons_succ, List.set_cons_zero]
        refine plan_takeL rfl rfl (.int .i64 (nb : Nat)) ?_ ?_
        · rintro w' rfl K Q hK
          go_simp
          exact hK
        try simp only [Act.put, List.setIfInBounds_toArray, List.set_cons_succ, List.set_cons_zero]
        refine plan_takeL rfl rfl (.int .i64 ((m : Int) + (tx.size : Int) + (nb : Int))) ?_ ?_
        · rintro w' rfl K Q hK
          go_simp
          exact hK
        try simp only [Act.put, List.setIfInBounds_toArray, List.set_cons_succ, List.set_cons_zero]
        refine plan_forceL rfl rfl fun K hK => ?_
        go_simp
        refine hK _ _ rfl ?_
        refine hQ0 _ _ ?_
        clear c6 c8 hK hw1 hw2 hlt
        by_cases h1 : nd ≤ 400
        · have g3 := dec_lt_f (show ¬ (400 : Int) < (nd : Int) by omega)
          have g4 := dec_ltn_f (show ¬ 400 < nd by omega)
          by_cases h2 : m + tx.size + nb ≤ 30000
          · have g5 := dec_lt_f (show ¬ (30000 : Int) < (m : Int) + (tx.size : Int) + (nb : Int) by omega)
            have HST9 := Lib.hid (HNX.out ⟨by omega, by omega, h1⟩)
            have HM9 := Lib.hid h2
            clear h1 h2 hf1 hf2 hf3 hm
            go_wp2
            go_roundw
            case rel => exact ⟨k + 1, m + tx.size + nb, by go_num, by go_num, by have := HLT.out; omega, HM9.out, HST9.out, HNT.out, HKR.out.drew⟩
            case measure => have := HLT.out; simp [intOf]; omega
          · have g5 := dec_lt_t (show (30000 : Int) < (m : Int) + (tx.size : Int) + (nb : Int) by omega)
            clear h1 h2 hm
            go_wp2
            go_ret
            exact ⟨HKR.out.drew, true, rfl, fun h => by cases h⟩
        · have g3 := dec_lt_t (show (400 : Int) < (nd : Int) by omega)
          have g4 := dec_ltn_t (show 400 < nd by omega)
          clear h1 hm
          go_wp2
          go_ret
          exact ⟨HKR.out.drew, true, rfl, fun h => by cases h⟩
      · obtain rfl : k = n := by omega
        have g1 := dec_lt_f (show ¬ (k : Int) < (k : Int) by omega)
        have g2 := dec_ltn_f hlt
        have HF := Lib.hid (show Few L from ⟨by have := HN.out; omega, fun s hs => by
          obtain ⟨j, hj, rfl⟩ := List.getElem_of_mem hs
          exact HFEW.out j hj (by have := HN.out; omega), by
          have h1 := HTOT.out
          rw [HN.out, List.take_length] at h1
          omega⟩)
        clear hlt
        go_wp2
        go_ret
        exact ⟨HKR.out, false, rfl, fun _ => HF.out⟩
  · have f1 := dec_lt_t (show (200 : Int) < (n : Int) by omega)
    have f2 := dec_ltn_t (show 200 < n by omega)
    go_enter Tryd.func7, Tryd.ntmps7
    go_wp2
    go_ret
    exact ⟨Keep.refl _ _, true, rfl, fun h => by cases h⟩
end Go.Proofs.YtbidppjhenfjdaaDoor
namespace Go.Proofs.YtbidppjhenfjdaaDoor
open Go.RowKit
set_option linter.unusedVariables false
set_option linter.unusedSimpArgs false

theorem few_stWs {L : List Stp} (h : ∀ s ∈ L, StpFew s) : stWs L ≤ 8900 * L.length + 10 * tot L := by
  induction L with
  | nil => exact Nat.zero_le _
  | cons s L ih =>
    have h1 := ih (fun x hx => h x (by simp [hx]))
    have h2 := (h s (by simp)).2.2
    unfold stWs tot stW
    rw [List.length_cons]
    omega
theorem Few.stWs {L : List Stp} (h : Few L) : stWs L ≤ 2080000 := by
  have h1 := few_stWs h.2.1
  have h2 := h.1
  have h3 := h.2.2
  omega
theorem Few.ok {L : List Stp} (h : Few L) (hs : ∀ s ∈ L, StpOk s ∧ StpFit s) : StpsOk L := fun s hm => ⟨(hs s hm).1, by
  obtain ⟨a, b, c⟩ := h.2.1 s hm
  exact ⟨by omega, by omega, by omega⟩⟩
theorem Few.prn {L : List Stp} {t : ByteArray} (h : Few L) (hs : ∀ s ∈ L, StpOk s ∧ StpFit s) (ht : prn L = some t) : t.size ≤ 2080000 := Nat.le_trans (prn_le L (fun x hx => (hs x hx).1) ht) h.stWs
theorem bare_fine {L : List Stp} (h : StpsOk L) : StpsOk (L.map bareS) := by
  intro s hs
  obtain ⟨x, hx, rfl⟩ := List.mem_map.1 hs
  exact ⟨bare_ok (h x hx).1, bare_small (h x hx).2⟩
theorem cpF_dl (s : Stp) : ∀ (fs : List Fld) (x : Stp), (fs.foldl (cpF s) x).draws = x.draws ∧ (fs.foldl (cpF s) x).data.size ≤ max x.data.size s.data.size := by
  intro fs
  induction fs with
  | nil => intro x; exact ⟨rfl, Nat.le_max_left _ _⟩
  | cons f fs ih =>
    intro x
    rw [List.foldl_cons]
    obtain ⟨h1, h2⟩ := ih (cpF s x f)
    have h3 : (cpF s x f).draws = x.draws ∧ (cpF s x f).data.size ≤ max x.data.size s.data.size := by
      cases f <;> refine ⟨rfl, ?_⟩ <;> simp only [cpF] <;> omega
    exact ⟨h1.trans h3.1, by omega⟩
theorem bare_dl (s : Stp) : (bareS s).draws.length ≤ s.draws.length := by
  unfold bareS
  split
  · exact Nat.le_refl _
  · rw [(cpF_dl s _ _).1]; exact Nat.zero_le _
theorem bare_bl (s : Stp) : (bareS s).data.size ≤ s.data.size := by
  unfold bareS
  split
  · exact Nat.zero_le _
  · have := (cpF_dl s (tabF s.kind.toNat) (Stp.zero s.kind)).2
    have e : (Stp.zero s.kind).data.size = 0 := rfl
    omega
theorem bare_draws {L : List Stp} (h : StpsOk L) : ∀ s ∈ L.map bareS, s.draws.length ≤ 1000000 := fun s hs => by
  have := (bare_fine h s hs).2.2.2
  omega
end Go.Proofs.YtbidppjhenfjdaaDoor
namespace Go.Proofs.YtbidppjhenfjdaaDoor
open Go.ChangeShapes Go.WideShapes Go.RowKit
set_option linter.unusedVariables false

/-- The slice value v has the elements xs, each of k cells, which are 'encs x'. -/
def ElemsAt {α : Type} (w : World) (v : Value) (k : Nat) (encs : α → List Value) (xs : List α) : Prop :=
  ∃ ad cap, v = .slice ad xs.length cap ∧ (xs.length ≠ 0 → ∃ b off, ad = some ⟨b, off, none⟩ ∧ ∀ (i : Nat) (x : α), xs[i]? = some x → ∀ j u, (encs x)[j]? = some u → w.cell? ⟨b, off + (i * k + j), none⟩ = some u) ∧ (ad = none → cap = 0) ∧ xs.length ≤ cap

theorem ElemsAt.keep0 {α : Type} {w w' : World} {v : Value} {k : Nat} {encs : α → List Value} {xs : List α} (h : ElemsAt w v k encs xs) (hk : Keep [] w w') : ElemsAt w' v k encs xs := by
  obtain ⟨ad, cap, rfl, h1, h2⟩ := h
  refine ⟨ad, cap, rfl, fun hn => ?_, h2⟩
  obtain ⟨b, off, rfl, hc⟩ := h1 hn
  exact ⟨b, off, rfl, fun i x hx j u hu => hk.cellv (hc i x hx j u hu) (by simp)⟩

theorem ElemsAt.sl {α : Type} {w : World} {v : Value} {f : α → Value} {xs : List α} (h : ElemsAt w v 1 (fun x => [f x]) xs) : SlAt w v xs.length (xs.map f) := by
  obtain ⟨ad, cap, rfl, h1, h2⟩ := h
  refine ⟨ad, cap, rfl, ⟨fun h0 => by simp [List.eq_nil_of_length_eq_zero h0], h2.1⟩, fun hn => ?_⟩
  obtain ⟨b, off, rfl, hc⟩ := h1 hn
  refine ⟨b, off, rfl, fun i u hu => ?_⟩
  rw [List.getElem?_map] at hu
  cases hx : xs[i]? with
  | none => rw [hx] at hu; cases hu
  | some x =>
    rw [hx] at hu
    have := hc i x hx 0 (f x) rfl
    simp at this hu
    rw [← hu]; exact this

theorem addr_plain {a : Addr} (h : a.spot = none) (n : Nat) : a.add n = ⟨a.block, a.off + n, none⟩ := by
  obtain ⟨b, off, spot⟩ := a
  simp at h; subst h
  exact add_plain b off n

section
variable {H : Type} {enc : TypeId × Value → H} {P : Program} {w : World}

/-- AN ARGUMENT THAT IS A SLICE, opened: each element's cells are what the elements' reading says. -/
theorem open_elems {α : Type} {t e : TypeId} {v : Value} {d : DataW H} {ps : List MemPlace} {r : Reach} {b0 : Nat} (k : Nat) (hk : 0 < k) (encs : α → List Value) (ht : P.underlying t = some (.slice e)) (hc : P.cellsOf e = k)
    (hel : ∀ n cs y, DataW.trod enc P w 0 (fun _ => true) true n e cs = some y → ∃ x, cs = encs x)
    (hv : Value.okWide P w r b0 t v) (h : DataW.Trod enc P w 0 (fun _ => true) true t v d ps) : ∃ xs : List α, ElemsAt w v k encs xs := by
  obtain ⟨a0, len, cap, rfl⟩ := okWide_slice ht hv
  obtain ⟨fuel, hf⟩ := h
  rcases Go.Deep.open_slice ht hf with ⟨hcs, _⟩ | ⟨a, len', cap', m, n, D, Pl, hcs, _, hl, _, hm, _, hi⟩
  · simp [Value.cells] at hcs
    obtain ⟨rfl, rfl, rfl⟩ := hcs
    exact ⟨[], none, 0, rfl, fun h => absurd rfl h, (fun _ => rfl), Nat.le_refl _⟩
  · simp [Value.cells] at hcs
    obtain ⟨rfl, rfl, rfl⟩ := hcs
    rw [hc] at hi
    have hm' : m = cap := by simpa using hm
    subst hm'
    have hex : ∀ i : Fin len, ∃ x : α, ∀ j u, (encs x)[j]? = some u → w.cell? (a.add (i.val * k + j)) = some u := fun i => by
      obtain ⟨cs', hcell, htrod⟩ := hi i.val (by omega)
      obtain ⟨x, rfl⟩ := hel n cs' _ htrod
      obtain ⟨_, hlen, hat⟩ := World.cells?_some hcell
      refine ⟨x, fun j u hu => ?_⟩
      have hj : j < k := by rw [← hlen]; exact (List.getElem?_eq_some_iff.1 hu).1
      rw [← Go.Deep.add_add, hat j hj, hu]
    have hspot : len ≠ 0 → a.spot = none := fun h0 => by
      obtain ⟨cs', hcell, htrod⟩ := hi 0 (by omega)
      obtain ⟨_, hlen, hat⟩ := World.cells?_some hcell
      have h1 := hat 0 hk
      have h2 : cs'[0]? = some (cs'[0]'(by omega)) := List.getElem?_eq_getElem (by omega)
      rw [h2] at h1
      have := World.cell?_spot h1
      simpa [Addr.add] using this
    refine ⟨(List.finRange len).map fun i => Classical.choose (hex i), some a, m, by simp, fun h0 => ?_, (fun h => by cases h), by simpa using hl⟩
    have hl0 : len ≠ 0 := by simpa using h0
    have hs := hspot hl0
    refine ⟨a.block, a.off, by obtain ⟨b, off, spot⟩ := a; simp at hs; subst hs; rfl, fun i x hx j u hu => ?_⟩
    rw [List.getElem?_map] at hx
    have hil : i < len := by
      rcases Nat.lt_or_ge i len with h | h
      · exact h
      · rw [List.getElem?_eq_none (by simpa using h)] at hx; cases hx
    rw [List.getElem?_eq_getElem (by simpa using hil)] at hx
    simp at hx
    subst hx
    have := Classical.choose_spec (hex ⟨i, hil⟩) j u hu
    rw [addr_plain hs] at this
    exact this
end
end Go.Proofs.YtbidppjhenfjdaaDoor
namespace Go.Proofs.YtbidppjhenfjdaaDoor
open Go.ChangeShapes Go.WideShapes Go.RowKit
set_option linter.unusedVariables false
set_option linter.unusedSimpArgs false

theorem cellsStepA : Tryd.prog.cellsOf 31 = 9 := by kernel_rfl
theorem cellsIntA : Tryd.prog.cellsOf 3 = 1 := by kernel_rfl
theorem cellsStrA : Tryd.prog.cellsOf 9 = 1 := by kernel_rfl
theorem cellsIntsA : Tryd.prog.cellsOf 28 = 1 := by kernel_rfl
theorem cellsBytA : Tryd.prog.cellsOf 29 = 1 := by kernel_rfl
theorem cellsU8A : Tryd.prog.cellsOf 5 = 1 := by kernel_rfl
theorem bytesIntA : Tryd.prog.bytesOf 3 = 8 := by kernel_rfl
theorem bytesU8A : Tryd.prog.bytesOf 5 = 1 := by kernel_rfl
theorem i64_wf {n : Int} (h : (Lit.int .i64 n).wf = true) : I64 n := by
  simp only [Lit.wf, Bool.and_eq_true, decide_eq_true_eq] at h
  have h1 : -9223372036854775808 ≤ n := h.1
  have h2 : n ≤ 9223372036854775807 := h.2
  unfold I64
  omega
theorem u8_wf {n : Int} (h : (Lit.int .u8 n).wf = true) : 0 ≤ n ∧ n < 256 := by
  simp only [Lit.wf, Bool.and_eq_true, decide_eq_true_eq] at h
  have h1 : 0 ≤ n := h.1
  have h2 : n ≤ 255 := h.2
  omega
/-- Bytes out of numbers. -/
def byL (zs : List Int) : ByteArray := ⟨(zs.map fun z => UInt8.ofNat z.toNat).toArray⟩
theorem byL_size (zs : List Int) : (byL zs).size = zs.length := by simp [byL, ByteArray.size]
theorem byL_bytV {zs : List Int} (h : ∀ z ∈ zs, 0 ≤ z ∧ z < 256) : bytV (byL zs) = zs.map fun z => Value.int .u8 z := by
  apply List.ext_getElem
  · rw [bytV_len, byL_size, List.length_map]
  · intro j h1 h2
    rw [bytV_len, byL_size] at h1
    have h3 := bytV_at (d := byL zs) (j := j) (by rw [byL_size]; exact h1)
    rw [List.getElem?_eq_getElem (by rw [bytV_len, byL_size]; exact h1)] at h3
    injection h3 with h3
    rw [h3, List.getElem_map]
    have hz := h zs[j] (List.getElem_mem h1)
    have hb : byt (byL zs) j = zs[j].toNat := by
      unfold byL
      rw [mk_byt]
      rw [List.getElem?_map, List.getElem?_eq_getElem h1]
      simp
      omega
    rw [hb]
    congr 1
    omega
theorem addr_one {w : World} {a : Addr} {v : Value} (h : w.cell? (a.add 0) = some v) : a.spot = none := by
  have := World.cell?_spot h
  simpa [Addr.add] using this
theorem addr_is {a : Addr} (h : a.spot = none) : a = ⟨a.block, a.off, none⟩ := by
  obtain ⟨b, off, spot⟩ := a
  simp at h
  subst h
  rfl
section
variable {H : Type} {enc : TypeId × Value → H} {w : World}
/-- A list of numbers that an argument holds. -/
theorem ints_reads {k : IntKind} {t e : TypeId} {n : Nat} {cs : List Value} {y : DataW H × List MemPlace} (ht : Tryd.prog.underlying t = some (.slice e)) (he : Tryd.prog.underlying e = some (.int k)) (hc : Tryd.prog.cellsOf e = 1) (hb : 1 ≤ Tryd.prog.bytesOf e)
    (h : DataW.trod enc Tryd.prog w 0 (fun _ => true) true n t cs = some y) (hw : (y.1.weights Tryd.prog t).all (· ≤ reachBytes) = true) :
    ∃ (v : Value) (zs : List Int), cs = [v] ∧ SlAt w v zs.length (zs.map fun z => Value.int k z) ∧ (∀ z ∈ zs, (Lit.int k z).wf = true) ∧ zs.length ≤ 140737488351232 := by
  rcases open_ints ht he hc h with ⟨rfl, rfl⟩ | ⟨a, len, cap, zs, rfl, _, hl, hm, hlen, rfl, hat, hwf⟩
  · exact ⟨_, [], rfl, ⟨none, 0, rfl, ⟨fun _ => rfl, fun _ => rfl⟩, fun h => absurd rfl h⟩, fun z hz => (by cases hz), Nat.zero_le _⟩
  · simp at hlen
    have htl : (zs.take len).length = len := by rw [List.length_take]; omega
    refine ⟨_, zs.take len, rfl, ?_, fun z hz => hwf z (List.mem_of_mem_take hz), ?_⟩
    · rw [htl]
      refine ⟨some a, cap, rfl, ⟨fun h0 => by rw [h0]; simp, fun h => (by cases h)⟩, fun h0 => ?_⟩
      have hsp := addr_one (hat 0 (by omega))
      refine ⟨a.block, a.off, congrArg some (addr_is hsp), fun i u hu => ?_⟩
      have hi : i < len := by
        have := (List.getElem?_eq_some_iff.1 hu).1
        rw [List.length_map, htl] at this
        exact this
      have h1 := hat i (by omega)
      rw [addr_plain hsp] at h1
      rw [h1, ← hu, List.getElem?_map, List.getElem?_take_of_lt hi, List.getElem?_eq_getElem (by omega)]
      simp [List.getD, List.getElem?_eq_getElem (show i < zs.length by omega)]
    · rw [htl]
      simp only [DataW.weights, ht, List.all_cons, Bool.and_eq_true, decide_eq_true_eq] at hw
      have h1 := hw.1
      have h2 : (lits (H := H) k (zs.take len)).length = len := by simp [lits]; omega
      rw [h2] at h1
      have h3 : len * 1 ≤ (len + (lits (H := H) k (zs.drop len)).length) * Tryd.prog.bytesOf e := Nat.mul_le_mul (by omega) hb
      unfold reachBytes at h1
      omega
set_option maxRecDepth 100000 in
theorem step_reads {n : Nat} {cs : List Value} {y : DataW H × List MemPlace} (h : DataW.trod enc Tryd.prog w 0 (fun _ => true) true n 31 cs = some y) (hw : (y.1.weights Tryd.prog 31).all (· ≤ reachBytes) = true) :
    ∃ (s : Stp) (dv bv : Value), cs = (stV s dv bv).toList ∧ StRd w s dv bv ∧ StpOk s ∧ StpFit s := by
  obtain ⟨xs, m, _, rfl, hl, hlen, hf⟩ := DataW.trod_struct Tryd.underlying31 h
  rw [cellsStepA] at hl
  match xs, hlen, cs, hl with
  | [y0, y1, y2, y3, y4, y5, y6, y7, y8], _, [c0, c1, c2, c3, c4, c5, c6, c7, c8], _ =>
    have g0 := hf 0 _ rfl
    have g1 := hf 1 _ rfl
    have g2 := hf 2 _ rfl
    have g3 := hf 3 _ rfl
    have g4 := hf 4 _ rfl
    have g5 := hf 5 _ rfl
    have g6 := hf 6 _ rfl
    have g7 := hf 7 _ rfl
    have g8 := hf 8 _ rfl
    simp [cellsIntA, cellsStrA, cellsIntsA, cellsBytA] at g0 g1 g2 g3 g4 g5 g6 g7 g8
    simp only [DataW.weights, Tryd.underlying31, List.map_cons, List.map_nil, DataW.weightsEach, List.all_append, Bool.and_eq_true] at hw
    obtain ⟨w0, w1, w2, w3, w4, w5, w6, w7, w8, _⟩ := hw
    obtain ⟨n0, e0, _, k0⟩ := DataW.trod_int Tryd.underlying3 g0
    obtain ⟨n1, e1, _, k1⟩ := DataW.trod_int Tryd.underlying3 g1
    obtain ⟨n2, e2, _, k2⟩ := DataW.trod_int Tryd.underlying3 g2
    obtain ⟨n3, e3, _, k3⟩ := DataW.trod_int Tryd.underlying3 g3
    obtain ⟨n4, e4, _, k4⟩ := DataW.trod_int Tryd.underlying3 g4
    obtain ⟨n5, e5, _, k5⟩ := DataW.trod_int Tryd.underlying3 g5
    obtain ⟨s6, e6, rfl, k6⟩ := DataW.trod_string Tryd.underlying9 g6
    obtain ⟨v7, z7, e7, s7, k7, r7⟩ := ints_reads Tryd.underlying28 Tryd.underlying3 cellsIntA (by rw [bytesIntA]; decide) g7 w7
    obtain ⟨v8, z8, e8, s8, k8, r8⟩ := ints_reads Tryd.underlying29 Tryd.underlying5 cellsU8A (by rw [bytesU8A]; decide) g8 w8
    simp at e0 e1 e2 e3 e4 e5 e6 e7 e8
    subst e0; subst e1; subst e2; subst e3; subst e4; subst e5; subst e6; subst e7; subst e8
    have hb8 : ∀ z ∈ z8, 0 ≤ z ∧ z < 256 := fun z hz => u8_wf (k8 z hz)
    refine ⟨⟨n0, n1, n2, n3, n4, n5, s6, z7, byL z8⟩, c7, c8, rfl, ⟨s7, ?_⟩, ⟨i64_wf k0, i64_wf k1, i64_wf k2, i64_wf k3, i64_wf k4, i64_wf k5, fun z hz => i64_wf (k7 z hz)⟩, ?_, ?_, ?_⟩
    · show SlAt w c8 (byL z8).size (bytV (byL z8))
      rw [byL_size, byL_bytV hb8]
      exact s8
    · simp only [DataW.weights, List.all_cons, Bool.and_eq_true, decide_eq_true_eq] at w6
      have := w6.1
      unfold reachBytes at this
      have e : s6.data.toList.length = s6.size := by rw [Array.length_toList]; rfl
      show s6.size ≤ _
      omega
    · show (byL z8).size ≤ _
      rw [byL_size]
      omega
    · show z7.length ≤ _
      omega
set_option maxRecDepth 100000 in
/-- AN ARGUMENT THAT IS A SCRIPT, opened. -/
theorem open_steps {v : Value} {d : DataW H} {ps : List MemPlace} {r : Reach} {b0 : Nat} (hv : Value.okWide Tryd.prog w r b0 22 v) (h : DataW.Trod enc Tryd.prog w 0 (fun _ => true) true 22 v d ps) (hw : (d.weights Tryd.prog 22).all (· ≤ reachBytes) = true) :
    ∃ L : List Stp, Steps w v L ∧ ∀ s ∈ L, StpOk s ∧ StpFit s := by
  obtain ⟨a0, len, cap, rfl⟩ := okWide_slice Tryd.underlying22 hv
  obtain ⟨fuel, hf⟩ := h
  rcases Go.Deep.open_slice Tryd.underlying22 hf with ⟨hcs, _⟩ | ⟨a, len', cap', m, n, D, Pl, hcs, _, hl, _, hm, hx, hi⟩
  · simp [Value.cells] at hcs
    obtain ⟨rfl, rfl, rfl⟩ := hcs
    exact ⟨[], ⟨none, 0, rfl, fun h => absurd rfl h, (fun _ => rfl), Nat.le_refl _⟩, fun s hs => (by cases hs)⟩
  · simp [Value.cells] at hcs
    obtain ⟨rfl, rfl, rfl⟩ := hcs
    rw [cellsStepA] at hi
    have hm' : m = cap := by simpa using hm
    subst hm'
    injection hx with hx _
    subst hx
    have hwd : ∀ i, i < len → ((D i).weights Tryd.prog 31).all (· ≤ reachBytes) = true := by
      intro i hi
      simp only [DataW.weights, Tryd.underlying22, List.all_cons, List.all_append, Bool.and_eq_true] at hw
      have h1 := hw.2.1
      clear hw
      have key : ∀ (l : List (DataW H)), (DataW.weightsAll Tryd.prog 31 l).all (· ≤ reachBytes) = true → ∀ d ∈ l, (d.weights Tryd.prog 31).all (· ≤ reachBytes) = true := by
        intro l
        induction l with
        | nil => intro _ d hd; cases hd
        | cons x l ih =>
          intro h d hd
          simp only [DataW.weightsAll, List.all_append, Bool.and_eq_true] at h
          rcases List.mem_cons.1 hd with rfl | hd
          · exact h.1
          · exact ih h.2 d hd
      exact key _ h1 _ (List.mem_map.2 ⟨i, List.mem_range.2 hi, rfl⟩)
    have hex : ∀ i : Fin len, ∃ x : Stp × Value × Value, StRd w x.1 x.2.1 x.2.2 ∧ (StpOk x.1 ∧ StpFit x.1) ∧ ∀ j u, (stV x.1 x.2.1 x.2.2)[j]? = some u → w.cell? (a.add (i.val * 9 + j)) = some u := fun i => by
      obtain ⟨cs', hcell, htrod⟩ := hi i.val (by omega)
      obtain ⟨s, dv, bv, rfl, h1, h2, h3⟩ := step_reads htrod (hwd i.val i.isLt)
      obtain ⟨_, hlen, hat⟩ := World.cells?_some hcell
      refine ⟨(s, dv, bv), h1, ⟨h2, h3⟩, fun j u hu => ?_⟩
      have hj : j < 9 := (Array.getElem?_eq_some_iff.1 hu).1
      rw [← Go.Deep.add_add, hat j hj, Array.getElem?_toList, hu]
    have hspot : len ≠ 0 → a.spot = none := fun h0 => by
      obtain ⟨x, _, _, hc⟩ := hex ⟨0, by omega⟩
      have := hc 0 _ rfl
      exact addr_one this
    refine ⟨(List.finRange len).map fun i => (Classical.choose (hex i)).1, ⟨some a, m, by simp, fun h0 => ?_, (fun h => by cases h), by simpa using hl⟩, fun s hs => ?_⟩
    · have hl0 : len ≠ 0 := by simpa using h0
      have hs := hspot hl0
      refine ⟨a.block, a.off, congrArg some (addr_is hs), fun i x hx => ?_⟩
      rw [List.getElem?_map] at hx
      have hil : i < len := by
        rcases Nat.lt_or_ge i len with h | h
        · exact h
        · rw [List.getElem?_eq_none (by simpa using h)] at hx; cases hx
      rw [List.getElem?_eq_getElem (by simpa using hil)] at hx
      simp at hx
      subst hx
      obtain ⟨h1, _, h3⟩ := Classical.choose_spec (hex ⟨i, hil⟩)
      refine ⟨_, _, h1, fun j u hu => ?_⟩
      have := h3 j u hu
      rw [addr_plain hs] at this
      exact this
    · obtain ⟨i, _, rfl⟩ := List.mem_map.1 hs
      exact (Classical.choose_spec (hex i)).2.1
set_option maxRecDepth 100000 in
/-- AN ARGUMENT THAT IS A LIST OF NUMBERS, opened. -/
theorem open_nums {v : Value} {d : DataW H} {ps : List MemPlace} {r : Reach} {b0 : Nat} (hv : Value.okWide Tryd.prog w r b0 28 v) (h : DataW.Trod enc Tryd.prog w 0 (fun _ => true) true 28 v d ps) (hw : (d.weights Tryd.prog 28).all (· ≤ reachBytes) = true) :
    ∃ zs : List Int, SlAt w v zs.length (intsV zs) := by
  obtain ⟨a0, len, cap, rfl⟩ := okWide_slice Tryd.underlying28 hv
  obtain ⟨fuel, hf⟩ := h
  obtain ⟨v', zs, e, h1, _⟩ := ints_reads (y := (d, ps)) Tryd.underlying28 Tryd.underlying3 cellsIntA (by rw [bytesIntA]; decide) hf hw
  have e' : Value.slice a0 len cap = v' := by simpa [Value.cells] using e
  subst e'
  exact ⟨zs, h1⟩
end
end Go.Proofs.YtbidppjhenfjdaaDoor
namespace Go.Proofs.YtbidppjhenfjdaaDoor
open Go.ChangeShapes Go.WideShapes Go.ChangeAt Go.RowKit
set_option linter.unusedVariables false

theorem own : ownKnob Tryd.prog.godebug = none := by kernel_rfl
theorem gTab : Tryd.prog.globalNamed "math/bits.deBruijn64tab" = some 5 := by kernel_rfl
theorem gTabType : (Tryd.prog.globals[5]?).map (·.type) = some 168 := by kernel_rfl
theorem gPType : (Tryd.prog.globals[2]?).map (·.type) = some 158 := by kernel_rfl
theorem gSType : (Tryd.prog.globals[0]?).map (·.type) = some 65 := by kernel_rfl
theorem gRType : (Tryd.prog.globals[1]?).map (·.type) = some 65 := by kernel_rfl
theorem cellsTab : Tryd.prog.cellsOf 168 = 64 := by kernel_rfl
theorem cellsU8 : Tryd.prog.cellsOf 5 = 1 := by kernel_rfl
theorem cellsP : Tryd.prog.cellsOf 158 = 20 := by kernel_rfl
theorem cellsU64 : Tryd.prog.cellsOf 142 = 1 := by kernel_rfl
theorem cellsES : Tryd.prog.cellsOf 165 = 1 := by kernel_rfl
theorem cellsStr : Tryd.prog.cellsOf 9 = 1 := by kernel_rfl
theorem laidOut : laidOutB Tryd.prog = true := by kernel_rfl
theorem esStar : "*" ++ "errors.errorString" = "*errors.errorString" := by decide
theorem esRow (u : TypeId) (h : Tryd.prog.typeName? 3 u = some "*errors.errorString") : u = 163 :=
  typeName_ptr_named (nm := "errors.errorString") (by rw [esStar]; kernel_rfl) (by kernel_rfl) (by decide) u (by rw [esStar]; exact h)

/-- What each row lists. -/
def laid1 : List (String × DataW Unit) := [("math/bits.deBruijn32tab", Rows.laid_math_bits_deBruijn32tab), ("math/bits.deBruijn64tab", Rows.laid_math_bits_deBruijn64tab), ("internal/strconv.uint64pow10", Rows.laid_internal_strconv_uint64pow10), ("strconv.ErrRange", Rows.laid_strconv_ErrRange), ("strconv.ErrSyntax", Rows.laid_strconv_ErrSyntax)]

theorem tab_head {P : Program} {W : World} {name : String} {k : IntKind} {zs : List Int} {rest : List (String × DataW Unit)} {g : Nat} {t e : TypeId} {n : Nat}
    (hg : P.globalNamed name = some g) (hty : (P.globals[g]?).map (·.type) = some t) (ht : P.underlying t = some (.array n e)) (he : P.underlying e = some (.int k)) (hce : P.cellsOf e = 1) (hct : P.cellsOf t = n)
    (h : laidMet P ((name, Lib.tabData k zs) :: rest) W) : Lib.TabIs P W name k zs := by
  obtain ⟨ps, ⟨g', t', cs, fuel, p, q, hg', ht', hvar, hd, _, _⟩, _⟩ := h
  obtain rfl := Option.some.inj (hg.symm.trans hg')
  obtain rfl := Option.some.inj (hty.symm.trans ht')
  unfold Lib.TabIs
  rw [hvar, ← Lib.cells_of_tab ht he hce hct hd]

/-- WHAT THE ROW's LIST GIVES. -/
theorem table {W : World} (h : laidMetH Tryd.prog laid1 W) : TQ W := by
  have h0 : laidMet Tryd.prog (("math/bits.deBruijn32tab", Rows.laid_math_bits_deBruijn32tab) :: ("math/bits.deBruijn64tab", Rows.laid_math_bits_deBruijn64tab) :: ("internal/strconv.uint64pow10", Rows.laid_internal_strconv_uint64pow10) :: ("strconv.ErrRange", Rows.laid_strconv_ErrRange) :: ("strconv.ErrSyntax", Rows.laid_strconv_ErrSyntax) :: []) W := h
  have h1 := h0.tail
  have h2 := h1.tail
  have h3 := h2.tail
  have h4 := h3.tail
  have t1 : Lib.TabIs Tryd.prog W "math/bits.deBruijn64tab" .u8 (Lib.deBruijn64tab.map Int.ofNat) := tab_head gTab gTabType Tryd.underlying168 Tryd.underlying5 cellsU8 cellsTab h1
  have t2 : Lib.TabIs Tryd.prog W "internal/strconv.uint64pow10" .u64 Lib.pow10Tab := tab_head gP gPType Tryd.underlying158 Tryd.underlying142 cellsU64 cellsP h2
  refine ⟨by have := t1.cell gTab 15 (by decide); exact this, t2, ?_, ?_⟩
  · obtain ⟨a, s, hv, _⟩ := laid_sentinel h4 gS gSType Tryd.underlying65 esRow Tryd.underlying163 Tryd.underlying165 rfl rfl Tryd.underlying9 cellsES cellsStr
    exact ⟨_, _, hv⟩
  · obtain ⟨a, s, hv, _⟩ := laid_sentinel h3 gR gRType Tryd.underlying65 esRow Tryd.underlying163 Tryd.underlying165 rfl rfl Tryd.underlying9 cellsES cellsStr
    exact ⟨_, _, hv⟩

def rangeS : ByteArray := { data := #[118, 97, 108, 117, 101, 32, 111, 117, 116, 32, 111, 102, 32, 114, 97, 110, 103, 101] }
def syntaxS : ByteArray := { data := #[105, 110, 118, 97, 108, 105, 100, 32, 115, 121, 110, 116, 97, 120] }
/-- So many blocks has the settled world. -/
noncomputable def low : Nat := (World.holding Tryd.prog default ⟨#[], #[], []⟩).heap.size
/-- A WORLD FOR THE WITNESS: the settled one, the tables' blocks holding what their initialisers lay; two blocks more, of the errors. -/
noncomputable def laidWorld (os : Os) : World :=
  let w0 := World.holding Tryd.prog os ⟨#[.cells #[.string rangeS] 165, .cells #[.string syntaxS] 165], #[], []⟩
  { w0 with heap := ((((w0.heap.modify 4 (fun
      | .cells _ t frozen => .cells (Lib.deBruijn32tab.map fun (z : Nat) => Value.int .u8 z).toArray t frozen
      | o => o)).modify 5 (fun
      | .cells _ t frozen => .cells (Lib.deBruijn64tab.map fun (z : Nat) => Value.int .u8 z).toArray t frozen
      | o => o)).modify 2 (fun
      | .cells _ t frozen => .cells (Lib.pow10Tab.map fun (z : Int) => Value.int .u64 z).toArray t frozen
      | o => o)).modify 1 (fun
      | .cells _ t frozen => .cells #[.iface 163 (.pointer (some ⟨low, 0, none⟩))] t frozen
      | o => o)).modify 0 (fun
      | .cells _ t frozen => .cells #[.iface 163 (.pointer (some ⟨low + 1, 0, none⟩))] t frozen
      | o => o) }
end Go.Proofs.YtbidppjhenfjdaaDoor
