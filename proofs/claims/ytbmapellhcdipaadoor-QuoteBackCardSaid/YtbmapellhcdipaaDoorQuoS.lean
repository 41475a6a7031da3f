/-
  There and back: a quoted text says what was quoted; no beginning of it is one.
-/
import Derived.Test.YtbmapellhcdipaaDoorQuoR
import Derived.Test.YtbmapellhcdipaaDoorQuoG
import Derived.Test.YtbmapellhcdipaaDoorQuoK
import Derived.Test.YtbmapellhcdipaaDoorQuoO
namespace Go.Proofs.YtbmapellhcdipaaDoor
open Go.RowKit
set_option linter.unusedVariables false
set_option linter.unusedSimpArgs false

/-- The text x lies in t from k on. -/
def LiesAt (t : ByteArray) (k : Nat) (x : ByteArray) : Prop := k + x.size ≤ t.size ∧ ∀ i, i < x.size → byt t (k + i) = byt x i
theorem LiesAt.mid (a x r : ByteArray) : LiesAt (a ++ (x ++ r)) a.size x := by
  refine ⟨by rw [ByteArray.size_append, ByteArray.size_append]; omega, fun i hi => ?_⟩
  rw [byt_append_right, byt_append_left _ _ _ hi]
theorem LiesAt.left {t x y : ByteArray} {k : Nat} (h : LiesAt t k (x ++ y)) : LiesAt t k x := by
  obtain ⟨h1, h2⟩ := h
  rw [ByteArray.size_append] at h1 h2
  exact ⟨by omega, fun i hi => (h2 i (by omega)).trans (byt_append_left _ _ _ hi)⟩
theorem LiesAt.right {t x y : ByteArray} {k : Nat} (h : LiesAt t k (x ++ y)) : LiesAt t (k + x.size) y := by
  obtain ⟨h1, h2⟩ := h
  rw [ByteArray.size_append] at h1 h2
  refine ⟨by omega, fun i hi => ?_⟩
  have := h2 (x.size + i) (by omega)
  rw [byt_append_right] at this
  rw [← this]
  congr 1
  omega
theorem byt_one {c : Nat} (h : c < 256) : byt (one c) 0 = c := by
  show byt ⟨[UInt8.ofNat c].toArray⟩ 0 = c
  rw [mk_byt]
  exact u8_of c h
theorem LiesAt.one {t : ByteArray} {k c : Nat} (h : LiesAt t k (one c)) (hc : c < 256) : k < t.size ∧ byt t k = c := by
  obtain ⟨h1, h2⟩ := h
  rw [one_size] at h1 h2
  have := h2 0 (by omega)
  rw [byt_one hc] at this
  exact ⟨by omega, this⟩
theorem LiesAt.tail {t x : ByteArray} {k m : Nat} (h : LiesAt t (m + k) x) (hm : m ≤ t.size) : LiesAt (t.extract m t.size) k x := by
  obtain ⟨h1, h2⟩ := h
  refine ⟨by rw [size_tail t m hm]; omega, fun i hi => ?_⟩
  rw [byt_tail, ← Nat.add_assoc]
  exact h2 i hi
theorem low_one {s : ByteArray} {i : Nat} (hi : i < s.size) : s.extract i (i + 1) = one (byt s i) := by
  apply ext_byt
  · rw [ByteArray.size_extract, one_size]; omega
  · intro k hk
    rw [ByteArray.size_extract] at hk
    obtain rfl : k = 0 := by omega
    rw [byt_extract s i (i + 1) 0 (by omega) (by omega), byt_one (byt_lt s i)]
    rfl
/-- Digits are read. -/
theorem hrun_hexs {t : ByteArray} : ∀ (r : Nat) (j k n : Nat), LiesAt t k (hexs r) → (hexs r).size ≤ j → hrun t j k n = hrun t (j - (hexs r).size) (k + (hexs r).size) (n * 16 ^ (hexs r).size + r) := by
  intro r
  induction r using Nat.strongRecOn with
  | ind r ih =>
    intro j k n h hj
    by_cases hr : r < 16
    · rw [hexs_small hr] at h hj ⊢
      have hd := hexd_lt hr
      obtain ⟨h1, h2⟩ := h.one (by omega)
      rw [one_size] at hj ⊢
      obtain ⟨j, rfl⟩ : ∃ j', j = j' + 1 := ⟨j - 1, by omega⟩
      rw [hrun_on h1 (by rw [h2, hx_hexd hr]; exact hr), h2, hx_hexd hr, Nat.add_sub_cancel, Nat.pow_one, Nat.mul_comm]
    · rw [hexs_big hr] at h hj ⊢
      have hm : r % 16 < 16 := Nat.mod_lt _ (by decide)
      have hd := hexd_lt hm
      rw [ByteArray.size_append, one_size] at hj
      have h1 := ih (r / 16) (by omega) j k n h.left (by omega)
      obtain ⟨h2, h3⟩ := h.right.one (by omega)
      rw [h1]
      obtain ⟨e, he⟩ : ∃ e, e = (hexs (r / 16)).size := ⟨_, rfl⟩
      rw [ByteArray.size_append, one_size]
      rw [← he] at hj h2 h3 ⊢
      obtain ⟨j2, hj2⟩ : ∃ j2, j - e = j2 + 1 := ⟨j - e - 1, by omega⟩
      rw [hj2, hrun_on h2 (by rw [h3, hx_hexd hm]; exact hm), h3, hx_hexd hm]
      congr 1
      · omega
      · rw [Nat.pow_succ, Nat.mul_add, ← Nat.mul_assoc n, Nat.mul_comm 16 (n * 16 ^ e)]
        have := Nat.div_add_mod r 16
        omega
theorem hexs_first : ∀ (r : Nat), 16 ≤ r → byt (hexs r) 0 ≠ 48 := by
  intro r
  induction r using Nat.strongRecOn with
  | ind r ih =>
    intro hr
    rw [hexs_big (by omega)]
    have hs : 0 < (hexs (r / 16)).size := by
      by_cases h : r / 16 < 16
      · rw [hexs_small h, one_size]; omega
      · rw [hexs_big h, ByteArray.size_append, one_size]; omega
    rw [byt_append_left _ _ _ hs]
    by_cases h : r / 16 < 16
    · have hd := hexd_lt h
      rw [hexs_small h, byt_one (by omega)]
      unfold hexd
      split <;> omega
    · exact ih _ (by omega) (by omega)
/-- \x and two digits say their byte. -/
theorem esc_two {T : ByteArray} {p c : Nat} (h : LiesAt T p (two c)) (hc : c < 256) : p < T.size ∧ byt T p = 92 ∧ esc (T.extract (p + 1) T.size) = (one c, 3) := by
  have hq : c / 16 < 16 := by omega
  have hm : c % 16 < 16 := by omega
  have d1 := hexd_lt hq
  have d2 := hexd_lt hm
  unfold two at h
  obtain ⟨a0, a1⟩ := h.left.left.left.one (by decide)
  have b := h.left.left.right.one (by decide)
  have c1 := h.left.right.one (by omega)
  have c2 := h.right.one (by omega)
  simp only [ByteArray.size_append, one_size] at b c1 c2
  refine ⟨a0, a1, ?_⟩
  have hz := size_tail T (p + 1) (by omega)
  have hb := byt_tail T (p + 1)
  generalize T.extract (p + 1) T.size = t at *
  have t0 : byt t 0 = 120 := by rw [hb]; exact b.2
  have t1 : byt t 1 = hexd (c / 16) := by rw [hb]; exact c1.2
  have t2 : byt t 2 = hexd (c % 16) := by rw [hb]; exact c2.2
  have h3 : 2 < t.size := by omega
  unfold esc
  rw [if_neg (by omega), if_neg (by rw [t0]; decide), if_pos ⟨t0, h3⟩, t1, t2, hx_hexd hq, hx_hexd hm, if_pos ⟨hq, hm⟩]
  congr 2
  omega
theorem esc_lett {T : ByteArray} {p l : Nat} (h : LiesAt T p (one 92 ++ one l)) (hl : l < 256) (hu : unl l ≠ 0) : p < T.size ∧ byt T p = 92 ∧ esc (T.extract (p + 1) T.size) = (one (unl l), 1) := by
  obtain ⟨a0, a1⟩ := h.left.one (by decide)
  have b := h.right.one hl
  rw [one_size] at b
  refine ⟨a0, a1, ?_⟩
  have hz := size_tail T (p + 1) (by omega)
  have hb := byt_tail T (p + 1)
  generalize T.extract (p + 1) T.size = t at *
  have t0 : byt t 0 = l := by rw [hb]; exact b.2
  unfold esc
  rw [if_neg (by omega), t0, if_pos hu]
theorem esc_braces {T : ByteArray} {p r : Nat} (h : LiesAt T p (braces r)) (hr : r ≤ 1114111) (hv : Utf8.valid (r : Nat) = true) : p < T.size ∧ byt T p = 92 ∧ esc (T.extract (p + 1) T.size) = (Utf8.encode (r : Nat), (hexs r).size + 3) := by
  have hsz := hexs_size 6 r (by omega) (by decide)
  unfold braces at h
  obtain ⟨a0, a1⟩ := h.left.left.left.left.one (by decide)
  have b1 := h.left.left.left.right.one (by decide)
  have b2 := h.left.left.right.one (by decide)
  have hx1 := h.left.right
  have b3 := h.right.one (by decide)
  simp only [ByteArray.size_append, one_size] at b1 b2 hx1 b3
  refine ⟨a0, a1, ?_⟩
  have hz := size_tail T (p + 1) (by omega)
  have hb := byt_tail T (p + 1)
  have hx2 : LiesAt (T.extract (p + 1) T.size) 2 (hexs r) := LiesAt.tail (by rw [show p + 1 + 2 = p + (1 + 1 + 1) by omega]; exact hx1) (by omega)
  generalize T.extract (p + 1) T.size = t at *
  obtain ⟨m, hm⟩ : ∃ m, m = (hexs r).size := ⟨_, rfl⟩
  have t0 : byt t 0 = 117 := by rw [hb]; exact b1.2
  have t1 : byt t 1 = 123 := by rw [hb]; exact b2.2
  have t3 : byt t (2 + m) = 125 := by rw [hb, show p + 1 + (2 + m) = p + (1 + 1 + 1 + m) by omega, hm]; exact b3.2
  have hrun : hrun t 6 2 0 = (2 + m, r) := by
    rw [hrun_hexs r 6 2 0 hx2 hsz.2, ← hm, Nat.zero_mul, Nat.zero_add]
    exact hrun_end (fun h => by rw [t3] at h; exact absurd h.2 (by decide))
  have hfirst : ¬ (byt t 2 = 48 ∧ 3 < 2 + m) := by
    rintro ⟨h1, h2⟩
    have h3 : 16 ≤ r := by
      by_cases h : r < 16
      · rw [hexs_small h, one_size] at hm; omega
      · omega
    have := hx2.2 0 (by omega)
    rw [Nat.add_zero, h1] at this
    exact hexs_first r h3 this.symm
  unfold esc
  rw [if_neg (by omega), if_neg (by rw [t0]; decide), if_neg (by rw [t0]; omega), if_pos ⟨t0, by omega, t1⟩]
  unfold brc
  rw [hrun]
  dsimp only
  rw [if_neg (by
    rintro (h | h | h | h | h)
    · omega
    · omega
    · exact h t3
    · exact hfirst h
    · rw [hv] at h; cases h)]
  rw [← hm, show 2 + m + 1 = m + 3 by omega]
end Go.Proofs.YtbmapellhcdipaaDoor
