/-
  The pieces of a text; runes as a text: plain.
-/
import Derived.Lib.DecodeN
import Derived.Laws.RangeAny
import Derived.Laws.Cover4
import Derived.Laws.IdiomStrings
namespace Go.Proofs.Ytodbjehggkdjaaa
set_option linter.unusedVariables false
set_option linter.unusedSimpArgs false

/-- A text's byte (0 beyond its end). -/
def byt (s : ByteArray) (i : Nat) : Nat := if h : i < s.size then (s[i]'h).toNat else 0
theorem byt_at {s : ByteArray} {i : Nat} (h : i < s.size) : (s[i]'h).toNat = byt s i := by simp [byt, h]
theorem byt_lt (s : ByteArray) (i : Nat) : byt s i < 256 := by unfold byt; split; exact UInt8.toNat_lt _; decide
theorem byt_get (s : ByteArray) (i : Nat) : (s.get! i).toNat = byt s i := by
  unfold byt
  by_cases h : i < s.size
  · rw [dif_pos h]
    show (s.data[i]!).toNat = (s.data[i]'h).toNat
    rw [getElem!_pos s.data i h]
  · rw [dif_neg h]
    show (s.data[i]!).toNat = 0
    rw [getElem!_neg s.data i h]; rfl
theorem byt_end {s : ByteArray} {i : Nat} (h : s.size ≤ i) : byt s i = 0 := by simp [byt, Nat.not_lt.2 h]
theorem size_tail (s : ByteArray) (i : Nat) (h : i ≤ s.size) : (s.extract i s.size).size = s.size - i := by rw [ByteArray.size_extract]; omega
theorem size_ext (s : ByteArray) (i j : Nat) (hj : j ≤ s.size) : (s.extract i j).size = j - i := by rw [ByteArray.size_extract]; omega
theorem byt_extract (s : ByteArray) (i j k : Nat) (h : i + k < j) (hj : j ≤ s.size) : byt (s.extract i j) k = byt s (i + k) := by
  have hz : (s.extract i j).size = j - i := by rw [ByteArray.size_extract]; omega
  unfold byt
  rw [dif_pos (by omega), dif_pos (by omega)]
  congr 1
  exact ByteArray.getElem_extract (by omega)
theorem byt_tail (s : ByteArray) (i k : Nat) : byt (s.extract i s.size) k = byt s (i + k) := by
  by_cases h : i + k < s.size
  · exact byt_extract s i s.size k h (Nat.le_refl _)
  · rw [byt_end (by rw [ByteArray.size_extract]; omega), byt_end (by omega)]
theorem byt_append_left (a b : ByteArray) (i : Nat) (h : i < a.size) : byt (a ++ b) i = byt a i := by
  unfold byt
  rw [dif_pos (by rw [ByteArray.size_append]; omega), dif_pos h]
  congr 1
  exact ByteArray.getElem_append_left h
theorem byt_append_right (a b : ByteArray) (i : Nat) : byt (a ++ b) (a.size + i) = byt b i := by
  by_cases h : i < b.size
  · unfold byt
    rw [dif_pos (by rw [ByteArray.size_append]; omega), dif_pos h]
    congr 1
    rw [ByteArray.getElem_append_right (by omega)]
    congr 1
    omega
  · rw [byt_end (by rw [ByteArray.size_append]; omega), byt_end (by omega)]
/-- Two texts of the same bytes. -/
theorem ext_byt {a b : ByteArray} (hs : a.size = b.size) (h : ∀ i, i < a.size → byt a i = byt b i) : a = b := by
  apply ByteArray.ext
  apply Array.ext
  · exact hs
  · intro i h1 h2
    have := h i h1
    unfold byt at this
    rw [dif_pos (show i < a.size from h1), dif_pos (show i < b.size from h2)] at this
    exact UInt8.toNat_inj.1 this

/-- A text's rune at a place, as the language reads it. -/
def dec (s : ByteArray) (i : Nat) : Nat × Nat := Lib.decodeN (s.size - i) (byt s i) (byt s (i + 1)) (byt s (i + 2)) (byt s (i + 3))
theorem dec_eq (s : ByteArray) (i : Nat) : Utf8.decode s i = dec s i := by rw [Lib.decode_at, byt_get, byt_get, byt_get, byt_get]; rfl
/-- How many bytes the rune has that begins there; 0: none begins there. -/
def wid (s : ByteArray) (i : Nat) : Nat := if dec s i = (65533, 1) then 0 else (dec s i).2
theorem dec_tail (s : ByteArray) (i : Nat) (h : i ≤ s.size) : dec (s.extract i s.size) 0 = dec s i := by
  unfold dec
  rw [size_tail s i h, byt_tail, byt_tail, byt_tail, byt_tail]
  rfl
theorem wid_tail (s : ByteArray) (i : Nat) (h : i ≤ s.size) : wid (s.extract i s.size) 0 = wid s i := by unfold wid; rw [dec_tail s i h]

/-- A rune of n bytes and number r lies at a place. -/
def RuneAt (s : ByteArray) (i r n : Nat) : Prop :=
  i + n ≤ s.size ∧
  ((n = 1 ∧ byt s i < 128 ∧ r = byt s i) ∨
   (n = 2 ∧ 194 ≤ byt s i ∧ byt s i < 224 ∧ byt s (i + 1) / 64 = 2 ∧ r = (byt s i - 192) * 64 + byt s (i + 1) % 64) ∨
   (n = 3 ∧ 224 ≤ byt s i ∧ byt s i < 240 ∧ byt s (i + 1) / 64 = 2 ∧ byt s (i + 2) / 64 = 2 ∧ r = (byt s i - 224) * 4096 + byt s (i + 1) % 64 * 64 + byt s (i + 2) % 64 ∧ 2048 ≤ r ∧ (r < 55296 ∨ 57344 ≤ r)) ∨
   (n = 4 ∧ 240 ≤ byt s i ∧ byt s i < 245 ∧ byt s (i + 1) / 64 = 2 ∧ byt s (i + 2) / 64 = 2 ∧ byt s (i + 3) / 64 = 2 ∧ r = (byt s i - 240) * 262144 + byt s (i + 1) % 64 * 4096 + byt s (i + 2) % 64 * 64 + byt s (i + 3) % 64 ∧ 65536 ≤ r ∧ r ≤ 1114111))

theorem RuneAt.dec {s : ByteArray} {i r n : Nat} (h : RuneAt s i r n) : dec s i = (r, n) := by
  obtain ⟨hs, h⟩ := h
  have b0 := byt_lt s i
  have b1 := byt_lt s (i + 1)
  have b2 := byt_lt s (i + 2)
  have b3 := byt_lt s (i + 3)
  unfold Proofs.Ytodbjehggkdjaaa.dec Lib.decodeN
  rcases h with ⟨rfl, h1, h2⟩ | ⟨rfl, h1, h2, h3, h4⟩ | ⟨rfl, h1, h2, h3, h4, h5, h6, h7⟩ | ⟨rfl, h1, h2, h3, h4, h5, h6, h7, h8⟩
  · rw [if_pos h1, h2]
  · rw [if_neg (by omega), if_pos (by omega), if_pos (by omega)]
    congr 1; omega
  · rw [if_neg (by omega), if_neg (by omega), if_pos (by omega), if_pos (by omega)]
    congr 1; omega
  · rw [if_neg (by omega), if_neg (by omega), if_neg (by omega), if_pos (by omega), if_pos (by omega)]
    congr 1; omega
theorem RuneAt.n4 {s : ByteArray} {i r n : Nat} (h : RuneAt s i r n) : 1 ≤ n ∧ n ≤ 4 ∧ i + n ≤ s.size := by
  obtain ⟨hs, h⟩ := h
  omega
theorem RuneAt.wid {s : ByteArray} {i r n : Nat} (h : RuneAt s i r n) : wid s i = n := by
  have h4 := h.n4
  have hd := h.dec
  unfold Proofs.Ytodbjehggkdjaaa.wid
  rw [hd, if_neg]
  obtain ⟨hs, h⟩ := h
  have b0 := byt_lt s i
  intro he
  injection he with e1 e2
  omega
/-- Either a rune lies there, or none. -/
theorem rune_or (s : ByteArray) (i : Nat) (hi : i < s.size) : RuneAt s i (dec s i).1 (dec s i).2 ∨ (dec s i = (65533, 1) ∧ wid s i = 0) := by
  have b0 := byt_lt s i
  have b1 := byt_lt s (i + 1)
  have b2 := byt_lt s (i + 2)
  have b3 := byt_lt s (i + 3)
  have hb : dec s i = (65533, 1) → wid s i = 0 := fun h => by unfold wid; rw [if_pos h]
  have key : dec s i = (65533, 1) ∨ RuneAt s i (dec s i).1 (dec s i).2 := by
    unfold RuneAt
    generalize hd : dec s i = d
    unfold dec Lib.decodeN at hd
    split at hd
    · subst hd; right; simp; omega
    split at hd
    · split at hd
      · subst hd; right; simp; omega
      · exact .inl hd.symm
    split at hd
    · split at hd
      · subst hd; right; simp; omega
      · exact .inl hd.symm
    split at hd
    · split at hd
      · subst hd; right; simp; omega
      · exact .inl hd.symm
    · exact .inl hd.symm
  rcases key with h | h
  · exact .inr ⟨h, hb h⟩
  · exact .inl h
theorem rune_of_wid {s : ByteArray} {i : Nat} (hi : i < s.size) (h : wid s i ≠ 0) : RuneAt s i (dec s i).1 (wid s i) := by
  rcases rune_or s i hi with hr | ⟨_, h0⟩
  · have := hr.wid; rw [this]; exact hr
  · exact absurd h0 h
theorem dec_of_wid {s : ByteArray} {i : Nat} (hi : i < s.size) (h : wid s i = 0) : dec s i = (65533, 1) := by
  rcases rune_or s i hi with hr | ⟨h1, _⟩
  · have := hr.wid; have := hr.n4; omega
  · exact h1
theorem wid_snd {s : ByteArray} {i : Nat} (h : wid s i ≠ 0) : (dec s i).2 = wid s i := by
  unfold wid at h ⊢
  split
  · rename_i h'; rw [if_pos h'] at h; exact absurd rfl h
  · rfl
theorem dec_n {s : ByteArray} {i : Nat} (hi : i < s.size) : 1 ≤ (dec s i).2 ∧ (dec s i).2 ≤ 4 ∧ i + (dec s i).2 ≤ s.size := by
  rcases rune_or s i hi with hr | ⟨h1, _⟩
  · exact hr.n4
  · rw [h1]; exact ⟨by decide, by decide, by show i + 1 ≤ _; omega⟩
theorem wid_n {s : ByteArray} {i : Nat} (hi : i < s.size) : wid s i ≤ 4 ∧ i + wid s i ≤ s.size := by
  by_cases h : wid s i = 0
  · omega
  · have := (rune_of_wid hi h).n4; omega
/-- A rune's bytes behind the first go on it. -/
theorem RuneAt.goes {s : ByteArray} {i r n k : Nat} (h : RuneAt s i r n) (h1 : 1 ≤ k) (h2 : k < n) : byt s (i + k) / 64 = 2 := by
  obtain ⟨hs, h⟩ := h
  have : k = 1 ∨ k = 2 ∨ k = 3 := by omega
  rcases this with rfl | rfl | rfl <;> omega
theorem wid_goes {s : ByteArray} {i : Nat} (hi : i < s.size) (h : byt s i / 64 = 2) : wid s i = 0 := by
  by_cases hw : wid s i = 0
  · exact hw
  · obtain ⟨hs, h'⟩ := rune_of_wid hi hw
    omega
theorem dec_scalar {s : ByteArray} {i : Nat} (hi : i < s.size) : Utf8.valid (dec s i).1 = true := by
  have b0 := byt_lt s i
  rcases rune_or s i hi with ⟨hs, h⟩ | ⟨h1, _⟩
  · generalize (dec s i).1 = r at *
    generalize (dec s i).2 = n at *
    simp only [Utf8.valid, Bool.or_eq_true, Bool.and_eq_true, decide_eq_true_eq]
    omega
  · rw [h1]; decide
theorem dec_le {s : ByteArray} {i : Nat} (hi : i < s.size) : (dec s i).1 ≤ 1114111 := by
  have := dec_scalar hi
  simp only [Utf8.valid, Bool.or_eq_true, Bool.and_eq_true, decide_eq_true_eq] at this
  omega

/-! ### a rune's own text -/
theorem mk_byt (l : List UInt8) (i : Nat) : byt ⟨l.toArray⟩ i = (l[i]?.getD 0).toNat := by
  unfold byt
  by_cases h : i < l.length
  · rw [dif_pos (by simpa [ByteArray.size] using h)]
    rw [List.getElem?_eq_getElem h]
    rfl
  · rw [dif_neg (by simpa [ByteArray.size] using h)]
    rw [List.getElem?_eq_none (by omega)]
    rfl
theorem enc_1 {c : Nat} (h : c < 128) : Utf8.encode c = ⟨[UInt8.ofNat c].toArray⟩ := by
  have hv : Utf8.valid (c : Int) = true := by simp [Utf8.valid]; omega
  unfold Utf8.encode
  simp [hv, h]
theorem enc_2 {c : Nat} (h0 : 128 ≤ c) (h : c < 2048) : Utf8.encode c = ⟨[UInt8.ofNat (192 + c / 64), UInt8.ofNat (128 + c % 64)].toArray⟩ := by
  have hv : Utf8.valid (c : Int) = true := by simp [Utf8.valid]; omega
  have h1 : ¬ c < 128 := by omega
  unfold Utf8.encode
  simp [hv, h, h1]
theorem enc_3 {c : Nat} (h0 : 2048 ≤ c) (h : c < 65536) (h2 : c < 55296 ∨ 57344 ≤ c) : Utf8.encode c = ⟨[UInt8.ofNat (224 + c / 4096), UInt8.ofNat (128 + c / 64 % 64), UInt8.ofNat (128 + c % 64)].toArray⟩ := by
  have hv : Utf8.valid (c : Int) = true := by simp [Utf8.valid]; omega
  have h1 : ¬ c < 128 := by omega
  have h3 : ¬ c < 2048 := by omega
  unfold Utf8.encode
  simp [hv, h, h1, h3]
theorem enc_4 {c : Nat} (h0 : 65536 ≤ c) (h : c ≤ 1114111) : Utf8.encode c = ⟨[UInt8.ofNat (240 + c / 262144), UInt8.ofNat (128 + c / 4096 % 64), UInt8.ofNat (128 + c / 64 % 64), UInt8.ofNat (128 + c % 64)].toArray⟩ := by
  have hv : Utf8.valid (c : Int) = true := by simp [Utf8.valid]; omega
  have h1 : ¬ c < 128 := by omega
  have h3 : ¬ c < 2048 := by omega
  have h4 : ¬ c < 65536 := by omega
  unfold Utf8.encode
  simp [hv, h1, h3, h4]
theorem enc_bad {n : Int} (h : Utf8.valid n = false) : Utf8.encode n = Utf8.encode ((65533 : Nat) : Int) := by
  have hv : Utf8.valid ((65533 : Nat) : Int) = true := by decide
  unfold Utf8.encode
  simp [h, Utf8.runeError]

theorem u8_of (n : Nat) (h : n < 256) : (UInt8.ofNat n).toNat = n := by simp; omega

/-- Where a rune's own text lies, it is read. -/
theorem rune_of_enc {s : ByteArray} {i c : Nat} (hv : Utf8.valid (c : Int) = true) (hs : i + (Utf8.encode c).size ≤ s.size) (h : ∀ k, k < (Utf8.encode c).size → byt s (i + k) = byt (Utf8.encode c) k) :
    RuneAt s i c (Utf8.encode c).size := by
  refine ⟨hs, ?_⟩
  simp only [Utf8.valid, Bool.or_eq_true, Bool.and_eq_true, decide_eq_true_eq] at hv
  by_cases h1 : c < 128
  · rw [enc_1 h1] at h ⊢
    have e0 := (h 0 (by simp [ByteArray.size])).trans (mk_byt _ 0)
    simp only [List.getElem?_cons_zero, List.getElem?_cons_succ, Option.getD_some, Nat.add_zero] at e0; rw [u8_of _ (by omega)] at e0
    exact .inl ⟨rfl, by omega, by omega⟩
  by_cases h2 : c < 2048
  · rw [enc_2 (by omega) h2] at h ⊢
    have e0 := (h 0 (by simp [ByteArray.size])).trans (mk_byt _ 0)
    have e1 := (h 1 (by simp [ByteArray.size])).trans (mk_byt _ 1)
    simp only [List.getElem?_cons_zero, List.getElem?_cons_succ, Option.getD_some, Nat.add_zero] at e0; rw [u8_of _ (by omega)] at e0
    simp only [List.getElem?_cons_zero, List.getElem?_cons_succ, Option.getD_some, Nat.add_zero] at e1; rw [u8_of _ (by omega)] at e1
    exact .inr (.inl ⟨rfl, by omega, by omega, by omega, by omega⟩)
  by_cases h3 : c < 65536
  · rw [enc_3 (by omega) h3 (by omega)] at h ⊢
    have e0 := (h 0 (by simp [ByteArray.size])).trans (mk_byt _ 0)
    have e1 := (h 1 (by simp [ByteArray.size])).trans (mk_byt _ 1)
    have e2 := (h 2 (by simp [ByteArray.size])).trans (mk_byt _ 2)
    simp only [List.getElem?_cons_zero, List.getElem?_cons_succ, Option.getD_some, Nat.add_zero] at e0; rw [u8_of _ (by omega)] at e0
    simp only [List.getElem?_cons_zero, List.getElem?_cons_succ, Option.getD_some, Nat.add_zero] at e1; rw [u8_of _ (by omega)] at e1
    simp only [List.getElem?_cons_zero, List.getElem?_cons_succ, Option.getD_some, Nat.add_zero] at e2; rw [u8_of _ (by omega)] at e2
    exact .inr (.inr (.inl ⟨rfl, by omega, by omega, by omega, by omega, by omega, by omega, by omega⟩))
  · rw [enc_4 (by omega) (by omega)] at h ⊢
    have e0 := (h 0 (by simp [ByteArray.size])).trans (mk_byt _ 0)
    have e1 := (h 1 (by simp [ByteArray.size])).trans (mk_byt _ 1)
    have e2 := (h 2 (by simp [ByteArray.size])).trans (mk_byt _ 2)
    have e3 := (h 3 (by simp [ByteArray.size])).trans (mk_byt _ 3)
    simp only [List.getElem?_cons_zero, List.getElem?_cons_succ, Option.getD_some, Nat.add_zero] at e0; rw [u8_of _ (by omega)] at e0
    simp only [List.getElem?_cons_zero, List.getElem?_cons_succ, Option.getD_some, Nat.add_zero] at e1; rw [u8_of _ (by omega)] at e1
    simp only [List.getElem?_cons_zero, List.getElem?_cons_succ, Option.getD_some, Nat.add_zero] at e2; rw [u8_of _ (by omega)] at e2
    simp only [List.getElem?_cons_zero, List.getElem?_cons_succ, Option.getD_some, Nat.add_zero] at e3; rw [u8_of _ (by omega)] at e3
    exact .inr (.inr (.inr ⟨rfl, by omega, by omega, by omega, by omega, by omega, by omega, by omega, by omega⟩))
/-- A rune that lies in a text: its own text lies there. -/
theorem RuneAt.enc {s : ByteArray} {i r n : Nat} (h : RuneAt s i r n) : Utf8.encode r = s.extract i (i + n) := by
  have h4 := h.n4
  obtain ⟨hs, h⟩ := h
  have b0 := byt_lt s i
  have b1 := byt_lt s (i + 1)
  have b2 := byt_lt s (i + 2)
  have b3 := byt_lt s (i + 3)
  have key : ∀ l : List UInt8, l.length = n → (∀ k, k < n → (l[k]?.getD 0).toNat = byt s (i + k)) → (⟨l.toArray⟩ : ByteArray) = s.extract i (i + n) := fun l hl hk => by
    apply ext_byt
    · rw [size_ext _ _ _ hs]; simp [ByteArray.size]; omega
    · intro k hk'
      have hkn : k < n := by simp [ByteArray.size] at hk'; omega
      rw [mk_byt, hk k hkn, byt_extract s i (i + n) k (by omega) hs]
  rcases h with ⟨rfl, h1, h2⟩ | ⟨rfl, h1, h2, h3, h4⟩ | ⟨rfl, h1, h2, h3, h4, h5, h6, h7⟩ | ⟨rfl, h1, h2, h3, h4, h5, h6, h7, h8⟩
  · rw [enc_1 (by omega)]
    refine key _ rfl fun k hk => ?_
    obtain rfl : k = 0 := by omega
    show (UInt8.ofNat r).toNat = _
    rw [u8_of _ (by omega)]; exact h2
  · rw [enc_2 (by omega) (by omega)]
    refine key _ rfl fun k hk => ?_
    have hk : k = 0 ∨ k = 1 := by omega
    rcases hk with rfl | rfl
    · show (UInt8.ofNat _).toNat = _
      rw [u8_of _ (by omega)]; simp only [Nat.add_zero]; omega
    · show (UInt8.ofNat _).toNat = _
      rw [u8_of _ (by omega)]; omega
  · rw [enc_3 (by omega) (by omega) (by omega)]
    refine key _ rfl fun k hk => ?_
    have hk : k = 0 ∨ k = 1 ∨ k = 2 := by omega
    rcases hk with rfl | rfl | rfl
    · show (UInt8.ofNat _).toNat = _
      rw [u8_of _ (by omega)]; simp only [Nat.add_zero]; omega
    · show (UInt8.ofNat _).toNat = _
      rw [u8_of _ (by omega)]; omega
    · show (UInt8.ofNat _).toNat = _
      rw [u8_of _ (by omega)]; omega
  · rw [enc_4 (by omega) (by omega)]
    refine key _ rfl fun k hk => ?_
    have hk : k = 0 ∨ k = 1 ∨ k = 2 ∨ k = 3 := by omega
    rcases hk with rfl | rfl | rfl | rfl
    · show (UInt8.ofNat _).toNat = _
      rw [u8_of _ (by omega)]; simp only [Nat.add_zero]; omega
    · show (UInt8.ofNat _).toNat = _
      rw [u8_of _ (by omega)]; omega
    · show (UInt8.ofNat _).toNat = _
      rw [u8_of _ (by omega)]; omega
    · show (UInt8.ofNat _).toNat = _
      rw [u8_of _ (by omega)]; omega
end Go.Proofs.Ytodbjehggkdjaaa
namespace Go.Proofs.Ytodbjehggkdjaaa
set_option linter.unusedVariables false
set_option linter.unusedSimpArgs false

/-- The places where a text's pieces begin, from i on. -/
def cut (s : ByteArray) (i : Nat) : List Nat := if h : i < s.size then i :: cut s (i + (dec s i).2) else []
termination_by s.size - i
decreasing_by have := dec_n h; omega
theorem cut_step {s : ByteArray} {i : Nat} (h : i < s.size) : cut s i = i :: cut s (i + (dec s i).2) := by rw [cut, dif_pos h]
theorem cut_end {s : ByteArray} {i : Nat} (h : ¬ i < s.size) : cut s i = [] := by rw [cut, dif_neg h]

/-- Up to i a text's pieces begin at l. -/
inductive At (s : ByteArray) : List Nat → Nat → Prop
  | zero : At s [] 0
  | step {l : List Nat} {i : Nat} : At s l i → i < s.size → At s (l ++ [i]) (i + (dec s i).2)

namespace At
variable {s : ByteArray} {l : List Nat} {i : Nat}
theorem le (h : At s l i) : i ≤ s.size := by
  induction h with
  | zero => exact Nat.zero_le _
  | step _ hi _ => exact (dec_n hi).2.2
theorem cut (h : At s l i) : cut s 0 = l ++ Proofs.Ytodbjehggkdjaaa.cut s i := by
  induction h with
  | zero => rfl
  | step _ hi ih => rw [ih, cut_step hi]; simp
theorem len (h : At s l i) : l.length ≤ i := by
  induction h with
  | zero => exact Nat.le_refl _
  | step _ hi ih => have := dec_n hi; simp; omega
theorem len4 (h : At s l i) : i ≤ 4 * l.length := by
  induction h with
  | zero => exact Nat.le_refl _
  | step _ hi ih => have := dec_n hi; simp; omega
theorem done (h : At s l i) (hi : ¬ i < s.size) : l = Proofs.Ytodbjehggkdjaaa.cut s 0 ∧ i = s.size := by
  have := h.cut
  rw [cut_end hi, List.append_nil] at this
  exact ⟨this.symm, by have := h.le; omega⟩
theorem lt (h : At s l i) : ∀ j ∈ l, j < i := by
  induction h with
  | zero => simp
  | step _ hi ih =>
    intro j hj
    have := dec_n hi
    rcases List.mem_append.1 hj with hj | hj
    · have := ih j hj; omega
    · simp at hj; omega
theorem cnt (h : At s l i) (hi : i < s.size) : l.length < (Proofs.Ytodbjehggkdjaaa.cut s 0).length := by rw [h.cut, cut_step hi]; simp
theorem get (h : At s l i) (hi : i < s.size) : (Proofs.Ytodbjehggkdjaaa.cut s 0)[l.length]? = some i := by rw [h.cut, cut_step hi]; simp
theorem cnt_le (h : At s l i) : l.length ≤ (Proofs.Ytodbjehggkdjaaa.cut s 0).length := by rw [h.cut]; simp
theorem take (h : At s l i) : l = (Proofs.Ytodbjehggkdjaaa.cut s 0).take l.length := by rw [h.cut]; simp
theorem zero_iff (h : At s l i) : l.length = 0 ↔ i = 0 := by
  have := h.len; have := h.len4; omega
/-- No rune leaps over a place where a piece ends. -/
theorem over (h : At s l i) : ∀ j, j < i → j + wid s j ≤ i := by
  induction h with
  | zero => intro j hj; omega
  | @step l j h hj ih =>
    intro k hk
    have hn := dec_n hj
    by_cases h1 : k < j
    · have := ih k h1; omega
    by_cases h2 : k = j
    · subst h2
      by_cases hw : wid s k = 0
      · omega
      · rw [wid_snd hw]; omega
    · have hw : wid s k = 0 := by
        rcases rune_or s j hj with hr | ⟨hb, _⟩
        · have := hr.goes (k := k - j) (by omega) (by omega)
          rw [show j + (k - j) = k by omega] at this
          exact wid_goes (by omega) this
        · rw [hb] at hk; simp at hk; omega
      omega
end At
theorem cut_len_le (s : ByteArray) (i : Nat) (h : i ≤ s.size) : (cut s i).length ≤ s.size - i := by
  by_cases hi : i < s.size
  · rw [cut_step hi]
    have := dec_n hi
    have ih := cut_len_le s (i + (dec s i).2) (by omega)
    simp; omega
  · rw [cut_end hi]; simp
termination_by s.size - i
decreasing_by have := dec_n hi; omega
/-- From a place on, all the pieces. -/
theorem at_rest (s : ByteArray) (l : List Nat) (i : Nat) (h : At s l i) : ∀ k, k ≤ (cut s i).length → ∃ j, At s (l ++ (cut s i).take k) j ∧ (cut s i).drop k = cut s j := by
  intro k
  induction k with
  | zero => intro _; exact ⟨i, by simpa using h, by simp⟩
  | succ k ih =>
    intro hk
    obtain ⟨j, hj, hd⟩ := ih (by omega)
    by_cases hjs : j < s.size
    · refine ⟨j + (dec s j).2, ?_, ?_⟩
      · have := hj.step hjs
        have hk' : (cut s i)[k]? = some j := by
          have := congrArg (·[0]?) hd
          rw [cut_step hjs] at this
          simpa using this
        rw [List.take_add_one, hk']
        simpa using this
      · rw [← List.drop_drop, hd, cut_step hjs]; rfl
    · rw [cut_end hjs] at hd
      have := List.length_drop (i := k) (l := cut s i)
      rw [hd] at this; simp at this; omega
theorem at_take (s : ByteArray) (k : Nat) (hk : k ≤ (cut s 0).length) : ∃ i, At s ((cut s 0).take k) i ∧ (cut s 0).drop k = cut s i := by
  obtain ⟨j, h1, h2⟩ := at_rest s [] 0 .zero k hk
  exact ⟨j, by simpa using h1, h2⟩
theorem at_all (s : ByteArray) : At s (cut s 0) s.size := by
  obtain ⟨i, h1, h2⟩ := at_take s (cut s 0).length (Nat.le_refl _)
  rw [List.take_length] at h1
  by_cases hi : i < s.size
  · rw [cut_step hi] at h2; simp at h2
  · have := h1.le
    have e : i = s.size := by omega
    rwa [e] at h1
/-- Where the k-th piece begins. -/
theorem at_get (s : ByteArray) (k : Nat) (hk : k < (cut s 0).length) : At s ((cut s 0).take k) ((cut s 0)[k]) ∧ (cut s 0)[k] < s.size := by
  obtain ⟨i, h1, h2⟩ := at_take s k (by omega)
  have hi : i < s.size := by
    refine Classical.byContradiction fun h => ?_
    rw [cut_end h] at h2
    have := List.length_drop (i := k) (l := cut s 0)
    rw [h2] at this; simp at this; omega
  have hl : ((cut s 0).take k).length = k := by simp; omega
  have := h1.get hi
  rw [hl, List.getElem?_eq_getElem hk] at this
  simp at this
  rw [this]; exact ⟨h1, hi⟩

/-! ### from the end -/
/-- How many bytes the rune has that ends ahead of a place; 0: none ends there. -/
def lstN (s : ByteArray) (e : Nat) : Nat :=
  if 1 ≤ e ∧ wid s (e - 1) = 1 then 1 else if 2 ≤ e ∧ wid s (e - 2) = 2 then 2 else if 3 ≤ e ∧ wid s (e - 3) = 3 then 3 else if 4 ≤ e ∧ wid s (e - 4) = 4 then 4 else 0
/-- The rune that ends ahead of a place, and its bytes. -/
def lst (s : ByteArray) (e : Nat) : Nat × Nat := if lstN s e = 0 then (65533, 1) else ((dec s (e - lstN s e)).1, lstN s e)

theorem lstN_le (s : ByteArray) (e : Nat) : lstN s e ≤ 4 ∧ (lstN s e ≠ 0 → lstN s e ≤ e ∧ wid s (e - lstN s e) = lstN s e) := by
  unfold lstN
  repeat' split
  all_goals omega
theorem lstN_is {s : ByteArray} {e n : Nat} (he : e ≤ s.size) (h1 : 1 ≤ n) (hn : n ≤ e) (hw : wid s (e - n) = n) : lstN s e = n := by
  have h4 := wid_n (s := s) (i := e - n) (by omega)
  have no : ∀ m, 1 ≤ m → m < n → wid s (e - m) = 0 := fun m hm hmn => by
    have hr := rune_of_wid (s := s) (i := e - n) (by omega) (by omega)
    have := hr.goes (k := n - m) (by omega) (by omega)
    rw [show e - n + (n - m) = e - m by omega] at this
    exact wid_goes (by omega) this
  have no1 := no 1
  have no2 := no 2
  have no3 := no 3
  have : n = 1 ∨ n = 2 ∨ n = 3 ∨ n = 4 := by omega
  unfold lstN
  rcases this with rfl | rfl | rfl | rfl
  · rw [if_pos (by omega)]
  · rw [if_neg (by omega), if_pos (by omega)]
  · rw [if_neg (by omega), if_neg (by omega), if_pos (by omega)]
  · rw [if_neg (by omega), if_neg (by omega), if_neg (by omega), if_pos (by omega)]
theorem lstN_none {s : ByteArray} {e : Nat} (h : ∀ n, 1 ≤ n → n ≤ 4 → n ≤ e → wid s (e - n) ≠ n) : lstN s e = 0 := by
  have h1 := h 1
  have h2 := h 2
  have h3 := h 3
  have h4 := h 4
  unfold lstN
  rw [if_neg (by omega), if_neg (by omega), if_neg (by omega), if_neg (by omega)]
/-- At the end of a piece: the piece. -/
theorem At.last {s : ByteArray} {l : List Nat} {i : Nat} (h : At s l i) (hi : i < s.size) : lstN s (i + (dec s i).2) = wid s i ∧ lst s (i + (dec s i).2) = dec s i := by
  have hn := dec_n hi
  by_cases hw : wid s i = 0
  · have hd := dec_of_wid hi hw
    have h0 : lstN s (i + (dec s i).2) = 0 := by
      refine lstN_none fun n h1 h4 hne hwn => ?_
      rw [hd] at hwn hne
      simp at hwn hne
      by_cases e : n = 1
      · subst e; simp at hwn; omega
      · have := h.over (i + 1 - n) (by omega); omega
    exact ⟨by rw [h0, hw], by unfold lst; rw [if_pos h0, hd]⟩
  · have hd := wid_snd hw
    have h0 : lstN s (i + (dec s i).2) = wid s i := by
      rw [hd]
      exact lstN_is (by omega) (by omega) (by omega) (by rw [Nat.add_sub_cancel])
    refine ⟨h0, ?_⟩
    unfold lst
    rw [h0, if_neg hw, hd, Nat.add_sub_cancel, ← hd]

/-! ### runes as a text -/
/-- A number as a rune. -/
def fixr (n : Int) : Int := if Utf8.valid n = true then n else 65533
theorem fixr_valid (n : Int) : Utf8.valid (fixr n) = true := by
  unfold fixr; split
  · assumption
  · decide
theorem fixr_nat (n : Int) : ((fixr n).toNat : Int) = fixr n := by
  have := fixr_valid n
  simp only [Utf8.valid, Bool.or_eq_true, Bool.and_eq_true, decide_eq_true_eq] at this
  omega
theorem fixr_of {n : Int} (h : Utf8.valid n = true) : fixr n = n := by unfold fixr; rw [if_pos h]
theorem enc_fix (n : Int) : Utf8.encode n = Utf8.encode (fixr n) := by
  unfold fixr; split
  · rfl
  · rename_i h
    exact enc_bad (by simpa using h)
def txt : List Int → ByteArray
  | [] => ByteArray.empty
  | n :: l => Utf8.encode n ++ txt l
theorem txt_append (a b : List Int) : txt (a ++ b) = txt a ++ txt b := by
  induction a with
  | nil => simp [txt]
  | cons n a ih => simp [txt, ih, ByteArray.append_assoc]
theorem txt_snoc (a : List Int) (n : Int) : txt (a ++ [n]) = txt a ++ Utf8.encode n := by rw [txt_append]; simp [txt]
theorem txt_fold (l : List Int) : ∀ r : ByteArray, l.foldl (fun r n => r ++ Utf8.encode n) r = r ++ txt l := by
  induction l with
  | nil => intro r; simp [txt]
  | cons n l ih => intro r; simp [txt, ih, ByteArray.append_assoc]
theorem runesBytes_txt (l : List Int) : runesBytes l = txt l := by unfold runesBytes; rw [txt_fold]; simp
theorem txt_fix (l : List Int) : txt l = txt (l.map fixr) := by
  induction l with
  | nil => rfl
  | cons n l ih => simp only [txt, List.map_cons, ← ih]; rw [← enc_fix]
theorem txt_size (l : List Int) : (txt l).size ≤ 4 * l.length := by rw [← runesBytes_txt]; exact runesBytes_size_le l
theorem enc_size (n : Int) : 1 ≤ (Utf8.encode n).size ∧ (Utf8.encode n).size ≤ 4 := by
  refine ⟨?_, encode_size_le n⟩
  unfold Utf8.encode
  simp only
  repeat' split
  all_goals simp [ByteArray.size]
/-- A rune's text in the midst of another. -/
theorem rune_mid (p q : ByteArray) (n : Int) : RuneAt (p ++ (Utf8.encode n ++ q)) p.size (fixr n).toNat (Utf8.encode n).size := by
  have hv := fixr_valid n
  have hn := fixr_nat n
  rw [enc_fix n]
  generalize (fixr n).toNat = c at *
  rw [← hn] at hv ⊢
  refine rune_of_enc hv (by rw [ByteArray.size_append, ByteArray.size_append]; omega) fun k hk => ?_
  rw [byt_append_right, byt_append_left _ _ _ hk]
theorem size_txt_cons (n : Int) (l : List Int) : (txt (n :: l)).size = (Utf8.encode n).size + (txt l).size := by simp [txt, ByteArray.size_append]

/-- The runes of a text from a place on. -/
def runs (s : ByteArray) (i : Nat) : List Int := (cut s i).map fun j => ((dec s j).1 : Int)
theorem runs_step {s : ByteArray} {i : Nat} (h : i < s.size) : runs s i = ((dec s i).1 : Int) :: runs s (i + (dec s i).2) := by unfold runs; rw [cut_step h]; rfl
theorem runs_end {s : ByteArray} {i : Nat} (h : ¬ i < s.size) : runs s i = [] := by unfold runs; rw [cut_end h]; rfl
/-- Is a text UTF-8 from a place on? -/
def Good (s : ByteArray) (i : Nat) : Prop := ∀ j ∈ cut s i, wid s j ≠ 0

theorem runs_txt (l : List Int) : ∀ p : ByteArray, runs (p ++ txt l) p.size = l.map fixr ∧ Good (p ++ txt l) p.size := by
  induction l with
  | nil =>
    intro p
    have : ¬ p.size < (p ++ txt []).size := by simp [txt]
    exact ⟨by rw [runs_end this]; rfl, by unfold Good; rw [cut_end this]; simp⟩
  | cons n l ih =>
    intro p
    have hr := rune_mid p (txt l) n
    have hd := hr.dec
    have hw := hr.wid
    have hz := enc_size n
    have hlt : p.size < (p ++ txt (n :: l)).size := by rw [ByteArray.size_append, size_txt_cons]; omega
    obtain ⟨h1, h2⟩ := ih (p ++ Utf8.encode n)
    have e : p ++ Utf8.encode n ++ txt l = p ++ txt (n :: l) := by simp [txt, ByteArray.append_assoc]
    rw [e, ByteArray.size_append] at h1 h2
    change dec (p ++ txt (n :: l)) p.size = _ at hd
    change wid (p ++ txt (n :: l)) p.size = _ at hw
    constructor
    · rw [runs_step hlt, hd, h1, List.map_cons]
      show ((fixr n).toNat : Int) :: _ = _
      rw [fixr_nat]
    · unfold Good at h2 ⊢
      rw [cut_step hlt, hd]
      intro j hj
      rcases List.mem_cons.1 hj with rfl | hj
      · rw [hw]; omega
      · exact h2 j hj
theorem runs_text (l : List Int) : runs (txt l) 0 = l.map fixr ∧ Good (txt l) 0 := by
  have := runs_txt l ByteArray.empty
  simpa using this
theorem cut_txt_len (l : List Int) : (cut (txt l) 0).length = l.length := by
  have := congrArg List.length (runs_text l).1
  simpa [runs] using this
/-- A good text is its runes' text. -/
theorem good_txt (s : ByteArray) (i : Nat) (hi : i ≤ s.size) (h : Good s i) : txt (runs s i) = s.extract i s.size := by
  by_cases hlt : i < s.size
  · have hw : wid s i ≠ 0 := h i (by rw [cut_step hlt]; simp)
    have hr := rune_of_wid hlt hw
    have hd := wid_snd hw
    have hn := hr.n4
    have ih := good_txt s (i + wid s i) hn.2.2 (by
      intro j hj
      exact h j (by rw [cut_step hlt, hd]; simp [hj]))
    rw [runs_step hlt, hd, txt, ih, hr.enc]
    apply ext_byt
    · rw [ByteArray.size_append, size_ext _ _ _ hn.2.2, size_ext _ _ _ (Nat.le_refl _), size_ext _ _ _ (Nat.le_refl _)]; omega
    · intro k hk
      rw [ByteArray.size_append, size_ext _ _ _ hn.2.2, size_ext _ _ _ (Nat.le_refl _)] at hk
      by_cases hk1 : k < wid s i
      · rw [byt_append_left _ _ _ (by rw [size_ext _ _ _ hn.2.2]; omega), byt_extract _ _ _ _ (by omega) hn.2.2, byt_tail]
      · have e : k = (s.extract i (i + wid s i)).size + (k - wid s i) := by rw [size_ext _ _ _ hn.2.2]; omega
        rw [e, byt_append_right, byt_tail, byt_tail, size_ext _ _ _ hn.2.2]
        congr 1; omega
  · have e : i = s.size := by omega
    subst e
    rw [runs_end hlt]
    apply ext_byt
    · rw [size_ext _ _ _ (Nat.le_refl _)]; simp [txt]
    · intro k hk; simp [txt] at hk
termination_by s.size - i
decreasing_by omega
theorem ext_all (s : ByteArray) : s.extract 0 s.size = s := by
  apply ext_byt
  · rw [size_ext _ _ _ (Nat.le_refl _)]; omega
  · intro k hk; rw [byt_tail]; simp
/-- A text mended. -/
def mend (s : ByteArray) : ByteArray := txt (runs s 0)
theorem mend_good {s : ByteArray} (h : Good s 0) : mend s = s := by unfold mend; rw [good_txt s 0 (Nat.zero_le _) h, ext_all]
theorem runs_valid (s : ByteArray) (i : Nat) : ∀ r ∈ runs s i, Utf8.valid r = true := by
  intro r hr
  unfold runs at hr
  obtain ⟨j, hj, rfl⟩ := List.mem_map.1 hr
  have : j < s.size := by
    have key : ∀ i, j ∈ cut s i → j < s.size := fun i => by
      induction i using Nat.strongRecOn generalizing s with
      | _ i _ => 
        intro h
        have hl : ∀ n i, s.size - i ≤ n → j ∈ cut s i → j < s.size := fun n => by
          induction n with
          | zero => intro i hi h; rw [cut_end (by omega)] at h; simp at h
          | succ n ih =>
            intro i hi h
            by_cases hlt : i < s.size
            · rw [cut_step hlt] at h
              have := dec_n hlt
              rcases List.mem_cons.1 h with rfl | h
              · exact hlt
              · exact ih _ (by omega) h
            · rw [cut_end hlt] at h; simp at h
        exact hl _ i (Nat.le_refl _) h
    exact key i hj
  exact dec_scalar this
theorem map_fix_valid {l : List Int} (h : ∀ r ∈ l, Utf8.valid r = true) : l.map fixr = l := by
  induction l with
  | nil => rfl
  | cons n l ih => rw [List.map_cons, fixr_of (h n (by simp)), ih (fun r hr => h r (by simp [hr]))]
/-- What the language makes of '[]rune(s)'. -/
theorem conv_runes (s : ByteArray) : ∀ (n i : Nat) (acc : Array Value), s.size - i ≤ n → Conv.runesFrom s n i acc = acc ++ ((runs s i).map (Value.int .i32)).toArray := by
  intro n
  induction n with
  | zero => intro i acc h; rw [runs_end (by omega)]; simp [Conv.runesFrom]
  | succ n ih =>
    intro i acc h
    by_cases hi : i < s.size
    · have hn := dec_n hi
      rw [runs_step hi]
      unfold Conv.runesFrom
      rw [if_pos hi, dec_eq]
      simp only
      rw [ih _ _ (by omega)]
      simp
    · rw [runs_end hi]
      unfold Conv.runesFrom
      rw [if_neg hi]; simp
end Go.Proofs.Ytodbjehggkdjaaa
