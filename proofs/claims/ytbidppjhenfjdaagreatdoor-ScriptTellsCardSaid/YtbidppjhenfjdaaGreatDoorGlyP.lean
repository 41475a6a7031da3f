/-
  Texts and their runes: plain arithmetic, no program.
-/
import Derived.Lib.DecodeN
import Derived.Laws.RangeAny
namespace Go.Proofs.YtbidppjhenfjdaaGreatDoor
set_option linter.unusedVariables false
set_option linter.unusedSimpArgs false

/-- A text's byte (0 beyond its end). -/
def byt (s : ByteArray) (i : Nat) : Nat := if h : i < s.size then (s[i]'h).toNat else 0
theorem byt_at {s : ByteArray} {i : Nat} (h : i < s.size) : (s[i]'h).toNat = byt s i := by simp [byt, h]
theorem byt_lt (s : ByteArray) (i : Nat) : byt s i < 256 := by unfold byt; split; exact UInt8.toNat_lt _; decide
theorem byt_get (s : ByteArray) (i : Nat) : (s.get! i).toNat = byt s i := by
  unfold byt
  by_cases h : i < s.size
  · rw [dif_pos h]
    show (s.data[i]!).toNat = (s.data[i]'h).toNat
    rw [getElem!_pos s.data i h]
  · rw [dif_neg h]
    show (s.data[i]!).toNat = 0
    rw [getElem!_neg s.data i h]; rfl
theorem byt_end {s : ByteArray} {i : Nat} (h : s.size ≤ i) : byt s i = 0 := by simp [byt, Nat.not_lt.2 h]
theorem size_tail (s : ByteArray) (i : Nat) (h : i ≤ s.size) : (s.extract i s.size).size = s.size - i := by rw [ByteArray.size_extract]; omega
theorem size_ext (s : ByteArray) (i j : Nat) (hj : j ≤ s.size) : (s.extract i j).size = j - i := by rw [ByteArray.size_extract]; omega
theorem byt_extract (s : ByteArray) (i j k : Nat) (h : i + k < j) (hj : j ≤ s.size) : byt (s.extract i j) k = byt s (i + k) := by
  have hz : (s.extract i j).size = j - i := by rw [ByteArray.size_extract]; omega
  unfold byt
  rw [dif_pos (by omega), dif_pos (by omega)]
  congr 1
  exact ByteArray.getElem_extract (by omega)
theorem byt_tail (s : ByteArray) (i k : Nat) : byt (s.extract i s.size) k = byt s (i + k) := by
  by_cases h : i + k < s.size
  · exact byt_extract s i s.size k h (Nat.le_refl _)
  · rw [byt_end (by rw [ByteArray.size_extract]; omega), byt_end (by omega)]
theorem byt_append_left (a b : ByteArray) (i : Nat) (h : i < a.size) : byt (a ++ b) i = byt a i := by
  unfold byt
  rw [dif_pos (by rw [ByteArray.size_append]; omega), dif_pos h]
  congr 1
  exact ByteArray.getElem_append_left h
theorem byt_append_right (a b : ByteArray) (i : Nat) : byt (a ++ b) (a.size + i) = byt b i := by
  by_cases h : i < b.size
  · unfold byt
    rw [dif_pos (by rw [ByteArray.size_append]; omega), dif_pos h]
    congr 1
    rw [ByteArray.getElem_append_right (by omega)]
    congr 1
    omega
  · rw [byt_end (by rw [ByteArray.size_append]; omega), byt_end (by omega)]
/-- Two texts of the same bytes. -/
theorem ext_byt {a b : ByteArray} (hs : a.size = b.size) (h : ∀ i, i < a.size → byt a i = byt b i) : a = b := by
  apply ByteArray.ext
  apply Array.ext
  · exact hs
  · intro i h1 h2
    have := h i h1
    unfold byt at this
    rw [dif_pos (show i < a.size from h1), dif_pos (show i < b.size from h2)] at this
    exact UInt8.toNat_inj.1 this

/-- A text's rune at a place, as the language reads it. -/
def dec (s : ByteArray) (i : Nat) : Nat × Nat := Lib.decodeN (s.size - i) (byt s i) (byt s (i + 1)) (byt s (i + 2)) (byt s (i + 3))
theorem dec_eq (s : ByteArray) (i : Nat) : Utf8.decode s i = dec s i := by rw [Lib.decode_at, byt_get, byt_get, byt_get, byt_get]; rfl
/-- How many bytes the rune has that begins there; 0: none begins there. -/
def wid (s : ByteArray) (i : Nat) : Nat := if dec s i = (65533, 1) then 0 else (dec s i).2
theorem dec_tail (s : ByteArray) (i : Nat) (h : i ≤ s.size) : dec (s.extract i s.size) 0 = dec s i := by
  unfold dec
  rw [size_tail s i h, byt_tail, byt_tail, byt_tail, byt_tail]
  rfl
theorem wid_tail (s : ByteArray) (i : Nat) (h : i ≤ s.size) : wid (s.extract i s.size) 0 = wid s i := by unfold wid; rw [dec_tail s i h]

/-- A rune of n bytes and number r lies at a place. -/
def RuneAt (s : ByteArray) (i r n : Nat) : Prop :=
  i + n ≤ s.size ∧
  ((n = 1 ∧ byt s i < 128 ∧ r = byt s i) ∨
   (n = 2 ∧ 194 ≤ byt s i ∧ byt s i < 224 ∧ byt s (i + 1) / 64 = 2 ∧ r = (byt s i - 192) * 64 + byt s (i + 1) % 64) ∨
   (n = 3 ∧ 224 ≤ byt s i ∧ byt s i < 240 ∧ byt s (i + 1) / 64 = 2 ∧ byt s (i + 2) / 64 = 2 ∧ r = (byt s i - 224) * 4096 + byt s (i + 1) % 64 * 64 + byt s (i + 2) % 64 ∧ 2048 ≤ r ∧ (r < 55296 ∨ 57344 ≤ r)) ∨
   (n = 4 ∧ 240 ≤ byt s i ∧ byt s i < 245 ∧ byt s (i + 1) / 64 = 2 ∧ byt s (i + 2) / 64 = 2 ∧ byt s (i + 3) / 64 = 2 ∧ r = (byt s i - 240) * 262144 + byt s (i + 1) % 64 * 4096 + byt s (i + 2) % 64 * 64 + byt s (i + 3) % 64 ∧ 65536 ≤ r ∧ r ≤ 1114111))

theorem RuneAt.dec {s : ByteArray} {i r n : Nat} (h : RuneAt s i r n) : dec s i = (r, n) := by
  obtain ⟨hs, h⟩ := h
  have b0 := byt_lt s i
  have b1 := byt_lt s (i + 1)
  have b2 := byt_lt s (i + 2)
  have b3 := byt_lt s (i + 3)
  unfold Proofs.YtbidppjhenfjdaaGreatDoor.dec Lib.decodeN
  rcases h with ⟨rfl, h1, h2⟩ | ⟨rfl, h1, h2, h3, h4⟩ | ⟨rfl, h1, h2, h3, h4, h5, h6, h7⟩ | ⟨rfl, h1, h2, h3, h4, h5, h6, h7, h8⟩
  · rw [if_pos h1, h2]
  · rw [if_neg (by omega), if_pos (by omega), if_pos (by omega)]
    congr 1; omega
  · rw [if_neg (by omega), if_neg (by omega), if_pos (by omega), if_pos (by omega)]
    congr 1; omega
  · rw [if_neg (by omega), if_neg (by omega), if_neg (by omega), if_pos (by omega), if_pos (by omega)]
    congr 1; omega
theorem RuneAt.n4 {s : ByteArray} {i r n : Nat} (h : RuneAt s i r n) : 1 ≤ n ∧ n ≤ 4 ∧ i + n ≤ s.size := by
  obtain ⟨hs, h⟩ := h
  omega
theorem RuneAt.wid {s : ByteArray} {i r n : Nat} (h : RuneAt s i r n) : wid s i = n := by
  have h4 := h.n4
  have hd := h.dec
  unfold Proofs.YtbidppjhenfjdaaGreatDoor.wid
  rw [hd, if_neg]
  obtain ⟨hs, h⟩ := h
  have b0 := byt_lt s i
  intro he
  injection he with e1 e2
  omega
/-- Either a rune lies there, or none. -/
theorem rune_or (s : ByteArray) (i : Nat) (hi : i < s.size) : RuneAt s i (dec s i).1 (dec s i).2 ∨ (dec s i = (65533, 1) ∧ wid s i = 0) := by
  have b0 := byt_lt s i
  have b1 := byt_lt s (i + 1)
  have b2 := byt_lt s (i + 2)
  have b3 := byt_lt s (i + 3)
  have hb : dec s i = (65533, 1) → wid s i = 0 := fun h => by unfold wid; rw [if_pos h]
  have key : dec s i = (65533, 1) ∨ RuneAt s i (dec s i).1 (dec s i).2 := by
    unfold RuneAt
    generalize hd : dec s i = d
    unfold dec Lib.decodeN at hd
    split at hd
    · subst hd; right; simp; omega
    split at hd
    · split at hd
      · subst hd; right; simp; omega
      · exact .inl hd.symm
    split at hd
    · split at hd
      · subst hd; right; simp; omega
      · exact .inl hd.symm
    split at hd
    · split at hd
      · subst hd; right; simp; omega
      · exact .inl hd.symm
    · exact .inl hd.symm
  rcases key with h | h
  · exact .inr ⟨h, hb h⟩
  · exact .inl h
theorem rune_of_wid {s : ByteArray} {i : Nat} (hi : i < s.size) (h : wid s i ≠ 0) : RuneAt s i (dec s i).1 (wid s i) := by
  rcases rune_or s i hi with hr | ⟨_, h0⟩
  · have := hr.wid; rw [this]; exact hr
  · exact absurd h0 h
theorem dec_of_wid {s : ByteArray} {i : Nat} (hi : i < s.size) (h : wid s i = 0) : dec s i = (65533, 1) := by
  rcases rune_or s i hi with hr | ⟨h1, _⟩
  · have := hr.wid; have := hr.n4; omega
  · exact h1
theorem wid_snd {s : ByteArray} {i : Nat} (h : wid s i ≠ 0) : (dec s i).2 = wid s i := by
  unfold wid at h ⊢
  split
  · rename_i h'; rw [if_pos h'] at h; exact absurd rfl h
  · rfl
theorem dec_n {s : ByteArray} {i : Nat} (hi : i < s.size) : 1 ≤ (dec s i).2 ∧ (dec s i).2 ≤ 4 ∧ i + (dec s i).2 ≤ s.size := by
  rcases rune_or s i hi with hr | ⟨h1, _⟩
  · exact hr.n4
  · rw [h1]; exact ⟨by decide, by decide, by show i + 1 ≤ _; omega⟩
theorem wid_n {s : ByteArray} {i : Nat} (hi : i < s.size) : wid s i ≤ 4 ∧ i + wid s i ≤ s.size := by
  by_cases h : wid s i = 0
  · omega
  · have := (rune_of_wid hi h).n4; omega
/-- A rune's bytes behind the first go on it. -/
theorem RuneAt.goes {s : ByteArray} {i r n k : Nat} (h : RuneAt s i r n) (h1 : 1 ≤ k) (h2 : k < n) : byt s (i + k) / 64 = 2 := by
  obtain ⟨hs, h⟩ := h
  have : k = 1 ∨ k = 2 ∨ k = 3 := by omega
  rcases this with rfl | rfl | rfl <;> omega
theorem wid_goes {s : ByteArray} {i : Nat} (hi : i < s.size) (h : byt s i / 64 = 2) : wid s i = 0 := by
  by_cases hw : wid s i = 0
  · exact hw
  · obtain ⟨hs, h'⟩ := rune_of_wid hi hw
    omega
theorem dec_scalar {s : ByteArray} {i : Nat} (hi : i < s.size) : Utf8.valid (dec s i).1 = true := by
  have b0 := byt_lt s i
  rcases rune_or s i hi with ⟨hs, h⟩ | ⟨h1, _⟩
  · generalize (dec s i).1 = r at *
    generalize (dec s i).2 = n at *
    simp only [Utf8.valid, Bool.or_eq_true, Bool.and_eq_true, decide_eq_true_eq]
    omega
  · rw [h1]; decide
theorem dec_le {s : ByteArray} {i : Nat} (hi : i < s.size) : (dec s i).1 ≤ 1114111 := by
  have := dec_scalar hi
  simp only [Utf8.valid, Bool.or_eq_true, Bool.and_eq_true, decide_eq_true_eq] at this
  omega

/-! ### a rune's own text -/
theorem mk_byt (l : List UInt8) (i : Nat) : byt ⟨l.toArray⟩ i = (l[i]?.getD 0).toNat := by
  unfold byt
  by_cases h : i < l.length
  · rw [dif_pos (by simpa [ByteArray.size] using h)]
    rw [List.getElem?_eq_getElem h]
    rfl
  · rw [dif_neg (by simpa [ByteArray.size] using h)]
    rw [List.getElem?_eq_none (by omega)]
    rfl
theorem enc_1 {c : Nat} (h : c < 128) : Utf8.encode c = ⟨[UInt8.ofNat c].toArray⟩ := by
  have hv : Utf8.valid (c : Int) = true := by simp [Utf8.valid]; omega
  unfold Utf8.encode
  simp [hv, h]
theorem enc_2 {c : Nat} (h0 : 128 ≤ c) (h : c < 2048) : Utf8.encode c = ⟨[UInt8.ofNat (192 + c / 64), UInt8.ofNat (128 + c % 64)].toArray⟩ := by
  have hv : Utf8.valid (c : Int) = true := by simp [Utf8.valid]; omega
  have h1 : ¬ c < 128 := by omega
  unfold Utf8.encode
  simp [hv, h, h1]
theorem enc_3 {c : Nat} (h0 : 2048 ≤ c) (h : c < 65536) (h2 : c < 55296 ∨ 57344 ≤ c) : Utf8.encode c = ⟨[UInt8.ofNat (224 + c / 4096), UInt8.ofNat (128 + c / 64 % 64), UInt8.ofNat (128 + c % 64)].toArray⟩ := by
  have hv : Utf8.valid (c : Int) = true := by simp [Utf8.valid]; omega
  have h1 : ¬ c < 128 := by omega
  have h3 : ¬ c < 2048 := by omega
  unfold Utf8.encode
  simp [hv, h, h1, h3]
theorem enc_4 {c : Nat} (h0 : 65536 ≤ c) (h : c ≤ 1114111) : Utf8.encode c = ⟨[UInt8.ofNat (240 + c / 262144), UInt8.ofNat (128 + c / 4096 % 64), UInt8.ofNat (128 + c / 64 % 64), UInt8.ofNat (128 + c % 64)].toArray⟩ := by
  have hv : Utf8.valid (c : Int) = true := by simp [Utf8.valid]; omega
  have h1 : ¬ c < 128 := by omega
  have h3 : ¬ c < 2048 := by omega
  have h4 : ¬ c < 65536 := by omega
  unfold Utf8.encode
  simp [hv, h1, h3, h4]
theorem enc_bad {n : Int} (h : Utf8.valid n = false) : Utf8.encode n = Utf8.encode ((65533 : Nat) : Int) := by
  have hv : Utf8.valid ((65533 : Nat) : Int) = true := by decide
  unfold Utf8.encode
  simp [h, Utf8.runeError]

theorem u8_of (n : Nat) (h : n < 256) : (UInt8.ofNat n).toNat = n := by simp; omega

/-- Where a rune's own text lies, it is read. -/
theorem rune_of_enc {s : ByteArray} {i c : Nat} (hv : Utf8.valid (c : Int) = true) (hs : i + (Utf8.encode c).size ≤ s.size) (h : ∀ k, k < (Utf8.encode c).size → byt s (i + k) = byt (Utf8.encode c) k) :
    RuneAt s i c (Utf8.encode c).size := by
  refine ⟨hs, ?_⟩
  simp only [Utf8.valid, Bool.or_eq_true, Bool.and_eq_true, decide_eq_true_eq] at hv
  by_cases h1 : c < 128
  · rw [enc_1 h1] at h ⊢
    have e0 := (h 0 (by simp [ByteArray.size])).trans (mk_byt _ 0)
    simp only [List.getElem?_cons_zero, List.getElem?_cons_succ, Option.getD_some, Nat.add_zero] at e0; rw [u8_of _ (by omega)] at e0
    exact .inl ⟨rfl, by omega, by omega⟩
  by_cases h2 : c < 2048
  · rw [enc_2 (by omega) h2] at h ⊢
    have e0 := (h 0 (by simp [ByteArray.size])).trans (mk_byt _ 0)
    have e1 := (h 1 (by simp [ByteArray.size])).trans (mk_byt _ 1)
    simp only [List.getElem?_cons_zero, List.getElem?_cons_succ, Option.getD_some, Nat.add_zero] at e0; rw [u8_of _ (by omega)] at e0
    simp only [List.getElem?_cons_zero, List.getElem?_cons_succ, Option.getD_some, Nat.add_zero] at e1; rw [u8_of _ (by omega)] at e1
    exact .inr (.inl ⟨rfl, by omega, by omega, by omega, by omega⟩)
  by_cases h3 : c < 65536
  · rw [enc_3 (by omega) h3 (by omega)] at h ⊢
    have e0 := (h 0 (by simp [ByteArray.size])).trans (mk_byt _ 0)
    have e1 := (h 1 (by simp [ByteArray.size])).trans (mk_byt _ 1)
    have e2 := (h 2 (by simp [ByteArray.size])).trans (mk_byt _ 2)
    simp only [List.getElem?_cons_zero, List.getElem?_cons_succ, Option.getD_some, Nat.add_zero] at e0; rw [u8_of _ (by omega)] at e0
    simp only [List.getElem?_cons_zero, List.getElem?_cons_succ, Option.getD_some, Nat.add_zero] at e1; rw [u8_of _ (by omega)] at e1
    simp only [List.getElem?_cons_zero, List.getElem?_cons_succ, Option.getD_some, Nat.add_zero] at e2; rw [u8_of _ (by omega)] at e2
    exact .inr (.inr (.inl ⟨rfl, by omega, by omega, by omega, by omega, by omega, by omega, by omega⟩))
  · rw [enc_4 (by omega) (by omega)] at h ⊢
    have e0 := (h 0 (by simp [ByteArray.size])).trans (mk_byt _ 0)
    have e1 := (h 1 (by simp [ByteArray.size])).trans (mk_byt _ 1)
    have e2 := (h 2 (by simp [ByteArray.size])).trans (mk_byt _ 2)
    have e3 := (h 3 (by simp [ByteArray.size])).trans (mk_byt _ 3)
    simp only [List.getElem?_cons_zero, List.getElem?_cons_succ, Option.getD_some, Nat.add_zero] at e0; rw [u8_of _ (by omega)] at e0
    simp only [List.getElem?_cons_zero, List.getElem?_cons_succ, Option.getD_some, Nat.add_zero] at e1; rw [u8_of _ (by omega)] at e1
    simp only [List.getElem?_cons_zero, List.getElem?_cons_succ, Option.getD_some, Nat.add_zero] at e2; rw [u8_of _ (by omega)] at e2
    simp only [List.getElem?_cons_zero, List.getElem?_cons_succ, Option.getD_some, Nat.add_zero] at e3; rw [u8_of _ (by omega)] at e3
    exact .inr (.inr (.inr ⟨rfl, by omega, by omega, by omega, by omega, by omega, by omega, by omega, by omega⟩))
/-- A rune that lies in a text: its own text lies there. -/
theorem RuneAt.enc {s : ByteArray} {i r n : Nat} (h : RuneAt s i r n) : Utf8.encode r = s.extract i (i + n) := by
  have h4 := h.n4
  obtain ⟨hs, h⟩ := h
  have b0 := byt_lt s i
  have b1 := byt_lt s (i + 1)
  have b2 := byt_lt s (i + 2)
  have b3 := byt_lt s (i + 3)
  have key : ∀ l : List UInt8, l.length = n → (∀ k, k < n → (l[k]?.getD 0).toNat = byt s (i + k)) → (⟨l.toArray⟩ : ByteArray) = s.extract i (i + n) := fun l hl hk => by
    apply ext_byt
    · rw [size_ext _ _ _ hs]; simp [ByteArray.size]; omega
    · intro k hk'
      have hkn : k < n := by simp [ByteArray.size] at hk'; omega
      rw [mk_byt, hk k hkn, byt_extract s i (i + n) k (by omega) hs]
  rcases h with ⟨rfl, h1, h2⟩ | ⟨rfl, h1, h2, h3, h4⟩ | ⟨rfl, h1, h2, h3, h4, h5, h6, h7⟩ | ⟨rfl, h1, h2, h3, h4, h5, h6, h7, h8⟩
  · rw [enc_1 (by omega)]
    refine key _ rfl fun k hk => ?_
    obtain rfl : k = 0 := by omega
    show (UInt8.ofNat r).toNat = _
    rw [u8_of _ (by omega)]; exact h2
  · rw [enc_2 (by omega) (by omega)]
    refine key _ rfl fun k hk => ?_
    have hk : k = 0 ∨ k = 1 := by omega
    rcases hk with rfl | rfl
    · show (UInt8.ofNat _).toNat = _
      rw [u8_of _ (by omega)]; simp only [Nat.add_zero]; omega
    · show (UInt8.ofNat _).toNat = _
      rw [u8_of _ (by omega)]; omega
  · rw [enc_3 (by omega) (by omega) (by omega)]
    refine key _ rfl fun k hk => ?_
    have hk : k = 0 ∨ k = 1 ∨ k = 2 := by omega
    rcases hk with rfl | rfl | rfl
    · show (UInt8.ofNat _).toNat = _
      rw [u8_of _ (by omega)]; simp only [Nat.add_zero]; omega
    · show (UInt8.ofNat _).toNat = _
      rw [u8_of _ (by omega)]; omega
    · show (UInt8.ofNat _).toNat = _
      rw [u8_of _ (by omega)]; omega
  · rw [enc_4 (by omega) (by omega)]
    refine key _ rfl fun k hk => ?_
    have hk : k = 0 ∨ k = 1 ∨ k = 2 ∨ k = 3 := by omega
    rcases hk with rfl | rfl | rfl | rfl
    · show (UInt8.ofNat _).toNat = _
      rw [u8_of _ (by omega)]; simp only [Nat.add_zero]; omega
    · show (UInt8.ofNat _).toNat = _
      rw [u8_of _ (by omega)]; omega
    · show (UInt8.ofNat _).toNat = _
      rw [u8_of _ (by omega)]; omega
    · show (UInt8.ofNat _).toNat = _
      rw [u8_of _ (by omega)]; omega
end Go.Proofs.YtbidppjhenfjdaaGreatDoor
