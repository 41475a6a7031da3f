/-
  QuoteWords: whatever the items, a text that is laid of words, blanks, remarks and line's ends is scanned into just these; no condition but the five listed variables of the library.
-/
import Derived.Test.YtbmapellhcdipaaDoorSl
import Derived.Deep.Slices
import Derived.ChangeSame
import Derived.OpenShut
import Derived.Test.YtbmapellhcdipaaDoorQuoR
import Derived.Test.YtbmapellhcdipaaDoorQuoG
import Derived.Test.YtbmapellhcdipaaDoorQuoK
import Derived.Test.YtbmapellhcdipaaDoorQuoO
import Derived.Test.YtbmapellhcdipaaDoorScnP
import Derived.Test.YtbmapellhcdipaaDoorGlyX
import Derived.Deep.CutRange
import Derived.Test.YtbmapellhcdipaaDoorScnE
import Derived.Test.YtbmapellhcdipaaDoorRow
import Derived.Test.YtbmapellhcdipaaDoorScnB
import Derived.Test.YtbmapellhcdipaaDoorGlyY
import Derived.Test.YtbmapellhcdipaaDoorQuoM
import Derived.Test.YtbmapellhcdipaaDoorRegFix
import Derived.Test.YtbmapellhcdipaaDoorGlyZ
import Derived.Deep.RegionLaw
import Derived.Test.YtbmapellhcdipaaDoorQuoT
import Derived.Laws.EntriesVeiled
import Derived.Test.YtbmapellhcdipaaDoorCards
import Derived.Test.YtbmapellhcdipaaDoorTie
import Derived.Test.YtbmapellhcdipaaDoorScnF
import Derived.WalkKit
import Derived.ProofKit
import Derived.Deep.DeepHandedRow
import Derived.Lib.LaidTab
import Derived.Lib.TrailingZeros
import Derived.Lib.ItoaNum
import Derived.SizedLaws
import Derived.Carry
import Derived.Stop.LaidErr
namespace Go.Proofs.YtbmapellhcdipaaDoor
open Go.ChangeShapes Go.WideShapes Go.RowKit
set_option linter.unusedVariables false

/-- The slice value v has the elements xs, each of k cells, which are 'encs x'. -/
def ElemsAt {α : Type} (w : World) (v : Value) (k : Nat) (encs : α → List Value) (xs : List α) : Prop :=
  ∃ ad cap, v = .slice ad xs.length cap ∧ (xs.length ≠ 0 → ∃ b off, ad = some ⟨b, off, none⟩ ∧ ∀ (i : Nat) (x : α), xs[i]? = some x → ∀ j u, (encs x)[j]? = some u → w.cell? ⟨b, off + (i * k + j), none⟩ = some u) ∧ (ad = none → cap = 0) ∧ xs.length ≤ cap

theorem ElemsAt.keep0 {α : Type} {w w' : World} {v : Value} {k : Nat} {encs : α → List Value} {xs : List α} (h : ElemsAt w v k encs xs) (hk : Keep [] w w') : ElemsAt w' v k encs xs := by
  obtain ⟨ad, cap, rfl, h1, h2⟩ := h
  refine ⟨ad, cap, rfl, fun hn => ?_, h2⟩
  obtain ⟨b, off, rfl, hc⟩ := h1 hn
  exact ⟨b, off, rfl, fun i x hx j u hu => hk.cellv (hc i x hx j u hu) (by simp)⟩

theorem ElemsAt.sl {α : Type} {w : World} {v : Value} {f : α → Value} {xs : List α} (h : ElemsAt w v 1 (fun x => [f x]) xs) : SlAt w v xs.length (xs.map f) := by
  obtain ⟨ad, cap, rfl, h1, h2⟩ := h
  refine ⟨ad, cap, rfl, ⟨fun h0 => by simp [List.eq_nil_of_length_eq_zero h0], h2.1⟩, fun hn => ?_⟩
  obtain ⟨b, off, rfl, hc⟩ := h1 hn
  refine ⟨b, off, rfl, fun i u hu => ?_⟩
  rw [List.getElem?_map] at hu
  cases hx : xs[i]? with
  | none => rw [hx] at hu; cases hu
  | some x =>
    rw [hx] at hu
    have := hc i x hx 0 (f x) rfl
    simp at this hu
    rw [← hu]; exact this

theorem addr_plain {a : Addr} (h : a.spot = none) (n : Nat) : a.add n = ⟨a.block, a.off + n, none⟩ := by
  obtain ⟨b, off, spot⟩ := a
  simp at h; subst h
  exact add_plain b off n

section
variable {H : Type} {enc : TypeId × Value → H} {P : Program} {w : World}

/-- AN ARGUMENT THAT IS A SLICE, opened: each element's cells are what the elements' reading says. -/
theorem open_elems {α : Type} {t e : TypeId} {v : Value} {d : DataW H} {ps : List MemPlace} {r : Reach} {b0 : Nat} (k : Nat) (hk : 0 < k) (encs : α → List Value) (ht : P.underlying t = some (.slice e)) (hc : P.cellsOf e = k)
    (hel : ∀ n cs y, DataW.trod enc P w 0 (fun _ => true) true n e cs = some y → ∃ x, cs = encs x)
    (hv : Value.okWide P w r b0 t v) (h : DataW.Trod enc P w 0 (fun _ => true) true t v d ps) : ∃ xs : List α, ElemsAt w v k encs xs := by
  obtain ⟨a0, len, cap, rfl⟩ := okWide_slice ht hv
  obtain ⟨fuel, hf⟩ := h
  rcases Go.Deep.open_slice ht hf with ⟨hcs, _⟩ | ⟨a, len', cap', m, n, D, Pl, hcs, _, hl, _, hm, _, hi⟩
  · simp [Value.cells] at hcs
    obtain ⟨rfl, rfl, rfl⟩ := hcs
    exact ⟨[], none, 0, rfl, fun h => absurd rfl h, (fun _ => rfl), Nat.le_refl _⟩
  · simp [Value.cells] at hcs
    obtain ⟨rfl, rfl, rfl⟩ := hcs
    rw [hc] at hi
    have hm' : m = cap := by simpa using hm
    subst hm'
    have hex : ∀ i : Fin len, ∃ x : α, ∀ j u, (encs x)[j]? = some u → w.cell? (a.add (i.val * k + j)) = some u := fun i => by
      obtain ⟨cs', hcell, htrod⟩ := hi i.val (by omega)
      obtain ⟨x, rfl⟩ := hel n cs' _ htrod
      obtain ⟨_, hlen, hat⟩ := World.cells?_some hcell
      refine ⟨x, fun j u hu => ?_⟩
      have hj : j < k := by rw [← hlen]; exact (List.getElem?_eq_some_iff.1 hu).1
      rw [← Go.Deep.add_add, hat j hj, hu]
    have hspot : len ≠ 0 → a.spot = none := fun h0 => by
      obtain ⟨cs', hcell, htrod⟩ := hi 0 (by omega)
      obtain ⟨_, hlen, hat⟩ := World.cells?_some hcell
      have h1 := hat 0 hk
      have h2 : cs'[0]? = some (cs'[0]'(by omega)) := List.getElem?_eq_getElem (by omega)
      rw [h2] at h1
      have := World.cell?_spot h1
      simpa [Addr.add] using this
    refine ⟨(List.finRange len).map fun i => Classical.choose (hex i), some a, m, by simp, fun h0 => ?_, (fun h => by cases h), by simpa using hl⟩
    have hl0 : len ≠ 0 := by simpa using h0
    have hs := hspot hl0
    refine ⟨a.block, a.off, by obtain ⟨b, off, spot⟩ := a; simp at hs; subst hs; rfl, fun i x hx j u hu => ?_⟩
    rw [List.getElem?_map] at hx
    have hil : i < len := by
      rcases Nat.lt_or_ge i len with h | h
      · exact h
      · rw [List.getElem?_eq_none (by simpa using h)] at hx; cases hx
    rw [List.getElem?_eq_getElem (by simpa using hil)] at hx
    simp at hx
    subst hx
    have := Classical.choose_spec (hex ⟨i, hil⟩) j u hu
    rw [addr_plain hs] at this
    exact this
end
end Go.Proofs.YtbmapellhcdipaaDoor
namespace Go.Proofs.YtbmapellhcdipaaDoor
open Go.RowKit
set_option linter.unusedVariables false
set_option linter.unusedSimpArgs false

/-- The text x lies in t from k on. -/
def LiesAt (t : ByteArray) (k : Nat) (x : ByteArray) : Prop := k + x.size ≤ t.size ∧ ∀ i, i < x.size → byt t (k + i) = byt x i
theorem LiesAt.mid (a x r : ByteArray) : LiesAt (a ++ (x ++ r)) a.size x := by
  refine ⟨by rw [ByteArray.size_append, ByteArray.size_append]; omega, fun i hi => ?_⟩
  rw [byt_append_right, byt_append_left _ _ _ hi]
theorem LiesAt.left {t x y : ByteArray} {k : Nat} (h : LiesAt t k (x ++ y)) : LiesAt t k x := by
  obtain ⟨h1, h2⟩ := h
  rw [ByteArray.size_append] at h1 h2
  exact ⟨by omega, fun i hi => (h2 i (by omega)).trans (byt_append_left _ _ _ hi)⟩
theorem LiesAt.right {t x y : ByteArray} {k : Nat} (h : LiesAt t k (x ++ y)) : LiesAt t (k + x.size) y := by
  obtain ⟨h1, h2⟩ := h
  rw [ByteArray.size_append] at h1 h2
  refine ⟨by omega, fun i hi => ?_⟩
  have := h2 (x.size + i) (by omega)
  rw [byt_append_right] at this
  rw [← this]
  congr 1
  omega
theorem byt_one {c : Nat} (h : c < 256) : byt (one c) 0 = c := by
  show byt ⟨[UInt8.ofNat c].toArray⟩ 0 = c
  rw [mk_byt]
  exact u8_of c h
theorem LiesAt.one {t : ByteArray} {k c : Nat} (h : LiesAt t k (one c)) (hc : c < 256) : k < t.size ∧ byt t k = c := by
  obtain ⟨h1, h2⟩ := h
  rw [one_size] at h1 h2
  have := h2 0 (by omega)
  rw [byt_one hc] at this
  exact ⟨by omega, this⟩
theorem LiesAt.tail {t x : ByteArray} {k m : Nat} (h : LiesAt t (m + k) x) (hm : m ≤ t.size) : LiesAt (t.extract m t.size) k x := by
  obtain ⟨h1, h2⟩ := h
  refine ⟨by rw [size_tail t m hm]; omega, fun i hi => ?_⟩
  rw [byt_tail, ← Nat.add_assoc]
  exact h2 i hi
theorem low_one {s : ByteArray} {i : Nat} (hi : i < s.size) : s.extract i (i + 1) = one (byt s i) := by
  apply ext_byt
  · rw [ByteArray.size_extract, one_size]; omega
  · intro k hk
    rw [ByteArray.size_extract] at hk
    obtain rfl : k = 0 := by omega
    rw [byt_extract s i (i + 1) 0 (by omega) (by omega), byt_one (byt_lt s i)]
    rfl
/-- Digits are read. -/
theorem hrun_hexs {t : ByteArray} : ∀ (r : Nat) (j k n : Nat), LiesAt t k (hexs r) → (hexs r).size ≤ j → hrun t j k n = hrun t (j - (hexs r).size) (k + (hexs r).size) (n * 16 ^ (hexs r).size + r) := by
  intro r
  induction r using Nat.strongRecOn with
  | ind r ih =>
    intro j k n h hj
    by_cases hr : r < 16
    · rw [hexs_small hr] at h hj ⊢
      have hd := hexd_lt hr
      obtain ⟨h1, h2⟩ := h.one (by omega)
      rw [one_size] at hj ⊢
      obtain ⟨j, rfl⟩ : ∃ j', j = j' + 1 := ⟨j - 1, by omega⟩
      rw [hrun_on h1 (by rw [h2, hx_hexd hr]; exact hr), h2, hx_hexd hr, Nat.add_sub_cancel, Nat.pow_one, Nat.mul_comm]
    · rw [hexs_big hr] at h hj ⊢
      have hm : r % 16 < 16 := Nat.mod_lt _ (by decide)
      have hd := hexd_lt hm
      rw [ByteArray.size_append, one_size] at hj
      have h1 := ih (r / 16) (by omega) j k n h.left (by omega)
      obtain ⟨h2, h3⟩ := h.right.one (by omega)
      rw [h1]
      obtain ⟨e, he⟩ : ∃ e, e = (hexs (r / 16)).size := ⟨_, rfl⟩
      rw [ByteArray.size_append, one_size]
      rw [← he] at hj h2 h3 ⊢
      obtain ⟨j2, hj2⟩ : ∃ j2, j - e = j2 + 1 := ⟨j - e - 1, by omega⟩
      rw [hj2, hrun_on h2 (by rw [h3, hx_hexd hm]; exact hm), h3, hx_hexd hm]
      congr 1
      · omega
      · rw [Nat.pow_succ, Nat.mul_add, ← Nat.mul_assoc n, Nat.mul_comm 16 (n * 16 ^ e)]
        have := Nat.div_add_mod r 16
        omega
theorem hexs_first : ∀ (r : Nat), 16 ≤ r → byt (hexs r) 0 ≠ 48 := by
  intro r
  induction r using Nat.strongRecOn with
  | ind r ih =>
    intro hr
    rw [hexs_big (by omega)]
    have hs : 0 < (hexs (r / 16)).size := by
      by_cases h : r / 16 < 16
      · rw [hexs_small h, one_size]; omega
      · rw [hexs_big h, ByteArray.size_append, one_size]; omega
    rw [byt_append_left _ _ _ hs]
    by_cases h : r / 16 < 16
    · have hd := hexd_lt h
      rw [hexs_small h, byt_one (by omega)]
      unfold hexd
      split <;> omega
    · exact ih _ (by omega) (by omega)
/-- \x and two digits say their byte. -/
theorem esc_two {T : ByteArray} {p c : Nat} (h : LiesAt T p (two c)) (hc : c < 256) : p < T.size ∧ byt T p = 92 ∧ esc (T.extract (p + 1) T.size) = (one c, 3) := by
  have hq : c / 16 < 16 := by omega
  have hm : c % 16 < 16 := by omega
  have d1 := hexd_lt hq
  have d2 := hexd_lt hm
  unfold two at h
  obtain ⟨a0, a1⟩ := h.left.left.left.one (by decide)
  have b := h.left.left.right.one (by decide)
  have c1 := h.left.right.one (by omega)
  have c2 := h.right.one (by omega)
  simp only [ByteArray.size_append, one_size] at b c1 c2
  refine ⟨a0, a1, ?_⟩
  have hz := size_tail T (p + 1) (by omega)
  have hb := byt_tail T (p + 1)
  generalize T.extract (p + 1) T.size = t at *
  have t0 : byt t 0 = 120 := by rw [hb]; exact b.2
  have t1 : byt t 1 = hexd (c / 16) := by rw [hb]; exact c1.2
  have t2 : byt t 2 = hexd (c % 16) := by rw [hb]; exact c2.2
  have h3 : 2 < t.size := by omega
  unfold esc
  rw [if_neg (by omega), if_neg (by rw [t0]; decide), if_pos ⟨t0, h3⟩, t1, t2, hx_hexd hq, hx_hexd hm, if_pos ⟨hq, hm⟩]
  congr 2
  omega
theorem esc_lett {T : ByteArray} {p l : Nat} (h : LiesAt T p (one 92 ++ one l)) (hl : l < 256) (hu : unl l ≠ 0) : p < T.size ∧ byt T p = 92 ∧ esc (T.extract (p + 1) T.size) = (one (unl l), 1) := by
  obtain ⟨a0, a1⟩ := h.left.one (by decide)
  have b := h.right.one hl
  rw [one_size] at b
  refine ⟨a0, a1, ?_⟩
  have hz := size_tail T (p + 1) (by omega)
  have hb := byt_tail T (p + 1)
  generalize T.extract (p + 1) T.size = t at *
  have t0 : byt t 0 = l := by rw [hb]; exact b.2
  unfold esc
  rw [if_neg (by omega), t0, if_pos hu]
theorem esc_braces {T : ByteArray} {p r : Nat} (h : LiesAt T p (braces r)) (hr : r ≤ 1114111) (hv : Utf8.valid (r : Nat) = true) : p < T.size ∧ byt T p = 92 ∧ esc (T.extract (p + 1) T.size) = (Utf8.encode (r : Nat), (hexs r).size + 3) := by
  have hsz := hexs_size 6 r (by omega) (by decide)
  unfold braces at h
  obtain ⟨a0, a1⟩ := h.left.left.left.left.one (by decide)
  have b1 := h.left.left.left.right.one (by decide)
  have b2 := h.left.left.right.one (by decide)
  have hx1 := h.left.right
  have b3 := h.right.one (by decide)
  simp only [ByteArray.size_append, one_size] at b1 b2 hx1 b3
  refine ⟨a0, a1, ?_⟩
  have hz := size_tail T (p + 1) (by omega)
  have hb := byt_tail T (p + 1)
  have hx2 : LiesAt (T.extract (p + 1) T.size) 2 (hexs r) := LiesAt.tail (by rw [show p + 1 + 2 = p + (1 + 1 + 1) by omega]; exact hx1) (by omega)
  generalize T.extract (p + 1) T.size = t at *
  obtain ⟨m, hm⟩ : ∃ m, m = (hexs r).size := ⟨_, rfl⟩
  have t0 : byt t 0 = 117 := by rw [hb]; exact b1.2
  have t1 : byt t 1 = 123 := by rw [hb]; exact b2.2
  have t3 : byt t (2 + m) = 125 := by rw [hb, show p + 1 + (2 + m) = p + (1 + 1 + 1 + m) by omega, hm]; exact b3.2
  have hrun : hrun t 6 2 0 = (2 + m, r) := by
    rw [hrun_hexs r 6 2 0 hx2 hsz.2, ← hm, Nat.zero_mul, Nat.zero_add]
    exact hrun_end (fun h => by rw [t3] at h; exact absurd h.2 (by decide))
  have hfirst : ¬ (byt t 2 = 48 ∧ 3 < 2 + m) := by
    rintro ⟨h1, h2⟩
    have h3 : 16 ≤ r := by
      by_cases h : r < 16
      · rw [hexs_small h, one_size] at hm; omega
      · omega
    have := hx2.2 0 (by omega)
    rw [Nat.add_zero, h1] at this
    exact hexs_first r h3 this.symm
  unfold esc
  rw [if_neg (by omega), if_neg (by rw [t0]; decide), if_neg (by rw [t0]; omega), if_pos ⟨t0, by omega, t1⟩]
  unfold brc
  rw [hrun]
  dsimp only
  rw [if_neg (by
    rintro (h | h | h | h | h)
    · omega
    · omega
    · exact h t3
    · exact hfirst h
    · rw [hv] at h; cases h)]
  rw [← hm, show 2 + m + 1 = m + 3 by omega]
end Go.Proofs.YtbmapellhcdipaaDoor
namespace Go.Proofs.YtbmapellhcdipaaDoor
open Go.RowKit
set_option linter.unusedVariables false
set_option linter.unusedSimpArgs false

theorem qd_escn {s x : ByteArray} {i n : Nat} (b : ByteArray) (h : i < s.size) (h2 : byt s i = 92) (h3 : esc (s.extract (i + 1) s.size) = (x, n)) (h4 : n ≠ 0) : qd s i b = qd s (i + 1 + n) (b ++ x) := by
  rw [qd_esc b h h2 (by rw [h3]; exact h4), h3]
theorem braces_sz (r : Nat) : (braces r).size = (hexs r).size + 4 := by
  simp only [braces, ByteArray.size_append, one_size]
  omega
theorem ar7 (p m : Nat) : p + 1 + (m + 3) = p + (m + 4) := by omega
/-- One piece. -/
theorem qd_piece {s T : ByteArray} {i p : Nat} (b : ByteArray) (hi : i < s.size) (h : LiesAt T p (qp s i)) : qd T p b = qd T (p + (qp s i).size) (b ++ s.extract i (i + (dec s i).2)) := by
  have hbl := byt_lt s i
  have hrle := dec_le hi
  have two_case : qp s i = two (byt s i) → (dec s i).2 = 1 → qd T p b = qd T (p + (qp s i).size) (b ++ s.extract i (i + (dec s i).2)) := fun hq hn => by
    rw [hq] at h ⊢
    obtain ⟨a0, a1, a2⟩ := esc_two h hbl
    rw [qd_escn b a0 a1 a2 (by decide), two_size, hn, low_one hi]
  unfold qp at h ⊢
  by_cases h0 : wid s i = 0
  · refine two_case (by unfold qp; rw [if_pos h0]) (by rw [dec_of_wid hi h0])
  · have hen := (rune_of_wid hi h0).enc
    have hn := wid_snd h0
    by_cases h1 : lett (dec s i).1 ≠ 0
    · rw [if_neg h0, if_pos h1] at h ⊢
      have hu : unl (lett (dec s i).1) = (dec s i).1 ∧ (dec s i).1 ≠ 0 ∧ (dec s i).1 < 128 := by
        rcases lett_1 h1 with e | e | e | e | e <;> rw [e] <;> decide
      obtain ⟨a0, a1, a2⟩ := esc_lett h (lett_lt _) (by rw [hu.1]; exact hu.2.1)
      rw [qd_escn b a0 a1 a2 (by decide), hu.1, hn, ← hen]
      have he : Utf8.encode ((dec s i).1 : Nat) = one (dec s i).1 := enc_1 hu.2.2
      rw [he, ByteArray.size_append, one_size, one_size]
    · by_cases h2 : (dec s i).1 < 32 ∨ (dec s i).1 = 127
      · refine two_case (by unfold qp; rw [if_neg h0, if_neg h1, if_pos h2]) ?_
        have hb := small_rune hi h0 (by omega)
        rw [(dec_low hi (by omega)).1]
      · by_cases h3 : hr (dec s i).1 = true
        · rw [if_neg h0, if_neg h1, if_neg h2, if_pos h3] at h ⊢
          obtain ⟨a0, a1, a2⟩ := esc_braces h hrle (dec_scalar hi)
          rw [qd_escn b a0 a1 a2 (Nat.succ_ne_zero _), hn, ← hen, braces_sz, ar7]
        · rw [if_neg h0, if_neg h1, if_neg h2, if_neg h3] at h ⊢
          have hra := rune_of_enc (s := T) (i := p) (c := (dec s i).1) (dec_scalar hi) h.1 h.2
          have hps : p < T.size := by have := hra.n4; omega
          have hd := hra.dec
          have hw := hra.wid
          have hes := (enc_size ((dec s i).1 : Nat)).1
          have hl5 := lett_0 (by simpa using h1 : lett (dec s i).1 = 0)
          have hb : byt T p ≠ 34 ∧ byt T p ≠ 92 := by
            have := hra.2
            omega
          rw [qd_on b hps hb.1 hb.2 (by rw [hw, hd]; omega), hd, hn, ← hen]
/-- The rest of a quoted text. -/
theorem qd_rest {s : ByteArray} : ∀ (m i : Nat) (A b : ByteArray), s.size - i ≤ m → i ≤ s.size → qd (A ++ (qcat s (cut s i) ++ one 34)) A.size b = (true, b ++ s.extract i s.size, (A ++ (qcat s (cut s i) ++ one 34)).size) := by
  intro m
  have hend : ∀ (i : Nat) (A b : ByteArray), ¬ i < s.size → i ≤ s.size → qd (A ++ (qcat s (cut s i) ++ one 34)) A.size b = (true, b ++ s.extract i s.size, (A ++ (qcat s (cut s i) ++ one 34)).size) := fun i A b h hi => by
    obtain rfl : i = s.size := by omega
    rw [cut_end h]
    simp only [qcat, ByteArray.empty_append]
    have h1 : LiesAt (A ++ one 34) A.size (one 34) := by
      have := LiesAt.mid A (one 34) ByteArray.empty
      rwa [ByteArray.append_empty] at this
    obtain ⟨h2, h3⟩ := h1.one (by decide)
    rw [qd_q b h2 h3, show s.extract s.size s.size = ByteArray.empty from ext_byt (by rw [ByteArray.size_extract]; simp) (fun k hk => by rw [ByteArray.size_extract] at hk; omega), ByteArray.append_empty, ByteArray.size_append, one_size]
  induction m with
  | zero => intro i A b hm hi; exact hend i A b (by omega) hi
  | succ m ih =>
    intro i A b hm hi
    by_cases hlt : i < s.size
    · have hn := dec_n hlt
      have hT : A ++ (qcat s (cut s i) ++ one 34) = (A ++ qp s i) ++ (qcat s (cut s (i + (dec s i).2)) ++ one 34) := by
        rw [cut_step hlt]
        simp only [qcat, ByteArray.append_assoc]
      have hl : LiesAt (A ++ (qcat s (cut s i) ++ one 34)) A.size (qp s i) := by
        rw [cut_step hlt]
        simp only [qcat, ByteArray.append_assoc]
        exact LiesAt.mid A (qp s i) _
      rw [qd_piece b hlt hl, hT, ← ByteArray.size_append, ih (i + (dec s i).2) (A ++ qp s i) _ (by omega) hn.2.2]
      congr 2
      rw [ByteArray.append_assoc]
      congr 1
      apply ext_byt
      · rw [ByteArray.size_append, ByteArray.size_extract, ByteArray.size_extract, ByteArray.size_extract]; omega
      · intro k hk
        rw [ByteArray.size_append, size_ext s i (i + (dec s i).2) hn.2.2, size_tail s (i + (dec s i).2) hn.2.2] at hk
        rw [byt_tail]
        by_cases h : k < (dec s i).2
        · rw [byt_append_left _ _ _ (by rw [size_ext s i (i + (dec s i).2) hn.2.2]; omega), byt_extract s i (i + (dec s i).2) k (by omega) hn.2.2]
        · have e : k = (s.extract i (i + (dec s i).2)).size + (k - (dec s i).2) := by rw [size_ext s i (i + (dec s i).2) hn.2.2]; omega
          rw [e, byt_append_right, byt_tail, size_ext s i (i + (dec s i).2) hn.2.2]
          congr 1
          omega
    · exact hend i A b hlt hi
theorem qtd_quo (s : ByteArray) : qtd (quo s) 0 = (true, s, (quo s).size) := by
  have hq : quo s = one 34 ++ (qcat s (cut s 0) ++ one 34) := by unfold quo; rw [ByteArray.append_assoc]
  have h0 : 0 < (quo s).size ∧ byt (quo s) 0 = 34 := by
    rw [hq]
    refine ⟨by rw [ByteArray.size_append, one_size]; omega, ?_⟩
    rw [byt_append_left _ _ _ (by rw [one_size]; omega), byt_one (by decide)]
  unfold qtd
  rw [if_pos h0, hq]
  have := qd_rest (s := s) s.size 0 (one 34) ByteArray.empty (by omega) (Nat.zero_le _)
  rw [one_size] at this
  rw [this, ByteArray.empty_append, ext_all]
theorem unq_quo (s : ByteArray) : unq (quo s) = (s, 0, 0) := unq_yes (qtd_quo s) (Nat.le_refl _)
theorem quo_inj {s t : ByteArray} (h : quo s = quo t) : s = t := by
  have h1 := unq_quo s
  rw [h, unq_quo t] at h1
  exact (congrArg Prod.fst h1).symm

/-! ### a longer text -/
theorem hrun_ext {t u : ByteArray} : ∀ (j k n : Nat), (hrun t j k n).1 < t.size → hrun (t ++ u) j k n = hrun t j k n
  | 0, k, n, h => rfl
  | j + 1, k, n, h => by
    by_cases hh : k < t.size ∧ hx (byt t k) < 16
    · rw [hrun_on hh.1 hh.2] at h ⊢
      rw [hrun_on (by rw [ByteArray.size_append]; omega) (by rw [byt_append_left _ _ _ hh.1]; exact hh.2), byt_append_left _ _ _ hh.1]
      exact hrun_ext j _ _ h
    · rw [hrun_end hh] at h ⊢
      have hk : k < t.size := h
      rw [hrun_end (fun h2 => hh ⟨hk, by rw [byt_append_left _ _ _ hk] at h2; exact h2.2⟩)]
theorem esc_ext {t u : ByteArray} (h : (esc t).2 ≠ 0) : esc (t ++ u) = esc t := by
  have hz : (t ++ u).size = t.size + u.size := ByteArray.size_append ..
  have h0 : ¬ t.size = 0 := fun e => h (by unfold esc; rw [if_pos e])
  have b0 := byt_append_left t u 0 (by omega)
  by_cases h1 : unl (byt t 0) ≠ 0
  · unfold esc
    rw [if_neg h0, if_neg (by omega), b0, if_pos h1, if_pos h1]
  by_cases h2 : byt t 0 = 120 ∧ 2 < t.size
  · unfold esc
    rw [if_neg h0, if_neg (by omega), b0, if_neg h1, if_neg h1, if_pos h2, if_pos ⟨h2.1, by omega⟩, byt_append_left t u 1 (by omega), byt_append_left t u 2 (by omega)]
  by_cases h3 : byt t 0 = 117 ∧ 1 < t.size ∧ byt t 1 = 123
  · have b1 := byt_append_left t u 1 (by omega)
    have hb : (brc t).2 ≠ 0 := fun e => h (by unfold esc; rw [if_neg h0, if_neg h1, if_neg h2, if_pos h3]; exact e)
    have he1 : esc t = brc t := by unfold esc; rw [if_neg h0, if_neg h1, if_neg h2, if_pos h3]
    have he2 : esc (t ++ u) = brc (t ++ u) := by
      unfold esc
      rw [if_neg (by omega), b0, if_neg h1, if_neg (fun e => absurd (e.1.symm.trans h3.1) (by decide)), b1, if_pos ⟨h3.1, by omega, h3.2.2⟩]
    rw [he1, he2]
    have hlt : (hrun t 6 2 0).1 < t.size := by
      by_cases e : (hrun t 6 2 0).1 < t.size
      · exact e
      · exact absurd (show (brc t).2 = 0 by unfold brc; rw [if_pos (.inr (.inl (Nat.le_of_not_lt e)))]) hb
    have hsp := (hrun_spec t 6 2 0 h3.2.1).1
    unfold brc
    rw [hrun_ext 6 2 0 hlt]
    generalize hrun t 6 2 0 = p at *
    rw [byt_append_left t u p.1 hlt, byt_append_left t u 2 (by omega)]
    have e1 : ¬ t.size ≤ p.1 := by omega
    have e2 : ¬ (t ++ u).size ≤ p.1 := by omega
    simp only [e1, e2, false_or]
  · exact absurd (show (esc t).2 = 0 by unfold esc; rw [if_neg h0, if_neg h1, if_neg h2, if_neg h3]) h
theorem ext_app (t u : ByteArray) (k : Nat) (hk : k ≤ t.size) : (t ++ u).extract k (t ++ u).size = t.extract k t.size ++ u := by
  have hz : (t ++ u).size = t.size + u.size := ByteArray.size_append ..
  apply ext_byt
  · have h2 : (t.extract k t.size ++ u).size = (t.size - k) + u.size := by rw [ByteArray.size_append, size_tail t k hk]
    rw [size_tail _ k (by omega), h2, hz]; omega
  · intro i hi
    rw [size_tail _ k (by omega)] at hi
    rw [byt_tail]
    by_cases h : k + i < t.size
    · rw [byt_append_left _ _ _ h, byt_append_left _ _ _ (by rw [size_tail t k hk]; omega), byt_tail]
    · have e1 : k + i = t.size + (k + i - t.size) := by omega
      have e2 : i = (t.extract k t.size).size + (k + i - t.size) := by rw [size_tail t k hk]; omega
      rw [e1, byt_append_right]
      conv => rhs; rw [e2]
      rw [byt_append_right]
theorem rune_ext {t u : ByteArray} {i r n : Nat} (h : RuneAt t i r n) : RuneAt (t ++ u) i r n := by
  have h4 := h.n4
  have hz : (t ++ u).size = t.size + u.size := ByteArray.size_append ..
  obtain ⟨h1, h2⟩ := h
  refine ⟨by omega, ?_⟩
  have hb : ∀ k, k < n → byt (t ++ u) (i + k) = byt t (i + k) := fun k hk => byt_append_left _ _ _ (by omega)
  have b0 := hb 0 (by omega)
  rw [Nat.add_zero] at b0
  rcases h2 with ⟨rfl, h⟩ | ⟨rfl, h⟩ | ⟨rfl, h⟩ | ⟨rfl, h⟩
  · left; rw [b0]; exact ⟨rfl, h⟩
  · right; left; rw [b0, hb 1 (by omega)]; exact ⟨rfl, h⟩
  · right; right; left; rw [b0, hb 1 (by omega), hb 2 (by omega)]; exact ⟨rfl, h⟩
  · right; right; right; rw [b0, hb 1 (by omega), hb 2 (by omega), hb 3 (by omega)]; exact ⟨rfl, h⟩
/-- What is a quoted text at a text's beginning is one in a longer text. -/
theorem qd_ext {t u : ByteArray} : ∀ (m i : Nat) (b x : ByteArray) (e : Nat), t.size - i ≤ m → qd t i b = (true, x, e) → qd (t ++ u) i b = (true, x, e) := by
  intro m
  have hno : ∀ (i : Nat) (b x : ByteArray) (e : Nat), ¬ i < t.size → qd t i b = (true, x, e) → qd (t ++ u) i b = (true, x, e) := fun i b x e h hq => by
    rw [qd_end b h] at hq; injection hq with hq; cases hq
  have hz : (t ++ u).size = t.size + u.size := ByteArray.size_append ..
  induction m with
  | zero => intro i b x e hm hq; exact hno i b x e (by omega) hq
  | succ m ih =>
    intro i b x e hm hq
    by_cases hi : i < t.size
    · have b0 := byt_append_left t u i hi
      by_cases h1 : byt t i = 34
      · rw [qd_q b hi h1] at hq
        rw [qd_q b (by omega) (by rw [b0]; exact h1)]
        exact hq
      by_cases h2 : byt t i = 92
      · by_cases h3 : (esc (t.extract (i + 1) t.size)).2 = 0
        · rw [qd_bad b hi h2 h3] at hq; injection hq with hq; cases hq
        · rw [qd_esc b hi h2 h3] at hq
          have h4 : esc ((t ++ u).extract (i + 1) (t ++ u).size) = esc (t.extract (i + 1) t.size) := by rw [ext_app t u (i + 1) hi]; exact esc_ext h3
          rw [qd_esc b (by omega) (by rw [b0]; exact h2) (by rw [h4]; exact h3), h4]
          exact ih _ _ _ _ (by omega) hq
      · by_cases h3 : wid t i = 0 ∨ (dec t i).1 < 32 ∨ (dec t i).1 = 127
        · rw [qd_off b hi h1 h2 h3] at hq; injection hq with hq; cases hq
        · rw [qd_on b hi h1 h2 h3] at hq
          have hn := dec_n hi
          have hw : wid t i ≠ 0 := fun e => h3 (.inl e)
          have hr := rune_ext (u := u) (rune_of_wid hi hw)
          have hd : dec (t ++ u) i = dec t i := by rw [hr.dec, ← wid_snd hw]
          rw [qd_on b (by omega) (by rw [b0]; exact h1) (by rw [b0]; exact h2) (by rw [hr.wid, hd]; exact h3), hd]
          exact ih _ _ _ _ (by omega) hq
    · exact hno i b x e hi hq
theorem qtd_ext {t u x : ByteArray} {a e : Nat} (h : qtd t a = (true, x, e)) : qtd (t ++ u) a = (true, x, e) := by
  unfold qtd at h ⊢
  split at h
  · rename_i h0
    rw [if_pos ⟨by rw [ByteArray.size_append]; omega, by rw [byt_append_left _ _ _ h0.1]; exact h0.2⟩]
    exact qd_ext t.size _ _ _ _ (by omega) h
  · injection h with h; cases h
/-- No beginning of a quoted text is one. -/
theorem unq_pre (s : ByteArray) (n : Nat) (hn : n < (quo s).size) : ∃ e, unq ((quo s).extract 0 n) = (ByteArray.empty, e, 18) ∧ e ≤ n := by
  have hz : ((quo s).extract 0 n).size = n := by rw [ByteArray.size_extract]; omega
  obtain ⟨⟨ok, x, e⟩, hq⟩ : ∃ r, qtd ((quo s).extract 0 n) 0 = r := ⟨_, rfl⟩
  have hpos : e ≤ n := by
    unfold qtd at hq
    split at hq
    · rename_i h0
      have := (qd_pos ((quo s).extract 0 n) (0 + 1) ByteArray.empty (by omega)).2.1
      rw [hq, hz] at this
      exact this
    · injection hq with _ hq; injection hq with _ hq; omega
  cases ok with
  | false => exact ⟨e, unq_no hq, hpos⟩
  | true =>
    by_cases he : n ≤ e
    · exfalso
      have h1 := qtd_ext (u := (quo s).extract n (quo s).size) hq
      have h2 : (quo s).extract 0 n ++ (quo s).extract n (quo s).size = quo s := by
        apply ext_byt
        · rw [ByteArray.size_append, hz, size_tail _ n (by omega)]; omega
        · intro k hk
          by_cases h : k < n
          · rw [byt_append_left _ _ _ (by omega), byt_extract _ 0 n k (by omega) (by omega), Nat.zero_add]
          · have e1 : k = ((quo s).extract 0 n).size + (k - n) := by rw [hz]; omega
            rw [e1, byt_append_right, byt_tail, hz]
      rw [h2, qtd_quo] at h1
      injection h1 with _ h1
      injection h1 with _ h1
      omega
    · exact ⟨e, unq_long hq (by rw [hz]; exact he), hpos⟩
end Go.Proofs.YtbmapellhcdipaaDoor
namespace Go.Proofs.YtbmapellhcdipaaDoor
open Go.RowKit
set_option linter.unusedVariables false
set_option linter.unusedSimpArgs false

def fnCs : List Fn → List Value
  | [] => []
  | f :: L => f.vals.toList ++ fnCs L
theorem fnCs_snoc (L : List Fn) (f : Fn) : fnCs (L ++ [f]) = fnCs L ++ f.vals.toList := by
  induction L with
  | nil => simp [fnCs]
  | cons g L ih => simp [fnCs, ih]
theorem info_found : (Tryd.prog.info? 41).map (fun i => (i.zero, i.size, i.bytes)) = some (some (.agg #[.int .i64 0, .string ⟨#[]⟩, .int .i64 0, .int .i64 0, .int .i64 0, .int .i64 0]), 6, 56) := by kernel_rfl
/-- The list so far. -/
def OutAt (w : World) (v : Value) (L : List Fn) (W : World) : Prop := W.ownsRow w.heap.size 41 6 v L.length (fnCs L) ∧ Keep [] w W ∧ (v = .slice none 0 0 ↔ L.length = 0)
theorem OutAt.keep {w W W' : World} {v : Value} {L : List Fn} (h : OutAt w v L W) (k : Keep [] W W') : OutAt w v L W' := ⟨k.owns h.1 (by simp), h.2.1.trans0 k, h.2.2⟩
theorem OutAt.snoc {w W : World} {v : Value} {L : List Fn} {f : Fn} {cs : List Value} (hc : f.vals.toList = cs) (h : W.ownsRow w.heap.size 41 6 v (L.length + 1) (fnCs L ++ cs) ∧ Keep [] w W ∧ (v = .slice none 0 0 ↔ L.length + 1 = 0)) : OutAt w v (L ++ [f]) W := by
  unfold OutAt
  rw [fnCs_snoc, hc, List.length_append, List.length_singleton]
  exact h
theorem ar8 {c n : Nat} {d : Int} (h : d = (c : Nat)) (e : c = n) : (d != (n : Int)) = false := by simp; omega
theorem own_not_type {w : World} {base sz : Nat} {e t : TypeId} {v : Value} {n : Nat} {xs : List Value} {i : Nat} {c : Array Value} {f : Nat × Nat} (h : w.ownsRow base e sz v n xs) (hi : w.heap[i]? = some (.cells c t f)) (ht : t ≠ e) : i ∉ v.ownBlock.toList := by
  intro hm
  simp at hm
  rcases h.2 with ⟨rfl, _⟩ | ⟨g, cap, cur, rfl, _, hg, _⟩
  · simp [Value.ownBlock] at hm
  · simp [Value.ownBlock] at hm
    subst hm
    rw [hg] at hi
    injection hi with hi
    injection hi with _ hi _
    exact ht hi.symm
/-- Between the rounds. -/
def ScI (s : ByteArray) (w : World) (v : Value) (a l : Nat) (sm : Bool) (L : List Fn) (W : World) : Prop := OutAt w v L W ∧ a ≤ s.size ∧ l ≤ a + 1 ∧ scn s 0 1 false = L ++ scn s a l sm ∧ L.length ≤ a

set_option maxHeartbeats 64000000 in
set_option maxRecDepth 100000 in
theorem rscan_any (s : ByteArray) (w : World) (hz : s.size ≤ 1000000) :
    Calls Tryd.prog 15 #[.string s] w (NewSl 41 6 (scn s 0 1 false).length (fnCs (scn s 0 1 false)) w) := by
  obtain ⟨i0, hi, hz0, hz1, hz2⟩ := info_parts info_found
  have HI := Lib.hid hi; have HZ0 := Lib.hid hz0; have HZ1 := Lib.hid hz1; have HZ2 := Lib.hid hz2
  clear hi hz0 hz1 hz2
  have HRET : Hid (∀ (v : Value) (W : World) (L : List Fn), scn s 0 1 false = L → OutAt w v L W → NewSl 41 6 (scn s 0 1 false).length (fnCs (scn s 0 1 false)) w (.returned v) W) := Lib.hid (fun v W L hL ho => by rw [hL]; exact ⟨v, rfl, ho.1, ho.2.1, ho.2.2⟩)
  go_enter Tryd.func15, Tryd.ntmps15
  go_wp2
  go_loopw [3, 4, 5, 6] (fun v lv sv av wr => ∃ (a l : Nat) (sm : Bool) (L : List Fn), lv = .int .i64 l ∧ sv = .bool sm ∧ av = .int .i64 a ∧ ScI s w v a l sm L wr) (fun _ _ _ av _ => s.size - (intOf av).toNat)
  case atStart => exact ⟨0, 1, false, [], rfl, rfl, rfl, ⟨World.ownsRow_nil _ _ _ _, Keep.refl _ _, by simp⟩, Nat.zero_le _, Nat.le_refl _, rfl, Nat.le_refl _⟩
  case round =>
    obtain ⟨a, l, sm, L, rfl, rfl, rfl, ho, ha, hla, hsc, hln⟩ := hrel
    have HO := Lib.hid ho.1; have HK := Lib.hid ho.2.1; have HN := Lib.hid ho.2.2; have HSC := Lib.hid hsc
    have HOA := Lib.hid ho
    have HLN := Lib.hid (show L.length ≤ 1000000 by omega)
    have HLA := Lib.hid (show L.length ≤ a ∧ l ≤ a + 1 ∧ a ≤ s.size from ⟨hln, hla, ha⟩)
    have hlz : l ≤ 1000001 := by omega
    clear ho hsc hln hla
    by_cases hlt : a < s.size
    · have f1 := dec_le_f (show ¬ (s.size : Int) ≤ (a : Int) by omega)
      have f2 := dec_len_f (show ¬ s.size ≤ a by omega)
      have hix := byte_z (s := s) (i := a) (z := (a : Nat)) hlt rfl
      have hbl := byt_lt s a
      have hcs : (byt s a = 10 ∨ byt s a = 13) ∨ (byt s a = 32 ∨ byt s a = 9) ∨ byt s a = 35 ∨ (WordAt s a ∧ byt s a ≠ 34) ∨ (WordAt s a ∧ byt s a = 34) := by unfold WordAt; omega
      rcases hcs with hc | hc | hc | ⟨hw, hc⟩ | ⟨hw, hc⟩
      · -- a line's end
        have HS2 := Lib.hid (HSC.out.trans (by rw [scn_line hlt hc]))
        have hlb := lineB_more hlt
        have hi2 : byt s a = 13 → a + 1 < s.size → ∀ W, _ := fun _ h W => byte_z (s := s) (i := a + 1) (z := (a : Int) + 1) h (by omega) W
        have hcase : (byt s a = 10 ∧ lineB s a = a + 1) ∨ (byt s a = 13 ∧ a + 1 < s.size ∧ byt s (a + 1) = 10 ∧ lineB s a = a + 2) ∨ (byt s a = 13 ∧ a + 1 < s.size ∧ byt s (a + 1) ≠ 10 ∧ lineB s a = a + 1) ∨ (byt s a = 13 ∧ ¬ a + 1 < s.size ∧ lineB s a = a + 1) := by
          unfold lineB
          split <;> omega
        have hbb := byt_lt s (a + 1)
        clear hc
        rcases hcase with ⟨hc, hb⟩ | ⟨hc, hn1, hn2, hb⟩ | ⟨hc, hn1, hn2, hb⟩ | ⟨hc, hn1, hb⟩
        · rw [hc] at hix
          rw [hb] at HS2 hlb
          clear hc hb hi2 hbb hbl hlt
          cases sm with
          | false =>
            have HS3 := Lib.hid (show scn s 0 1 false = L ++ scn s (a + 1) (l + 1) false from HS2.out)
            go_wp2
            go_roundw
            case rel => exact ⟨_, l + 1, false, L, by go_num, rfl, by go_num, HOA.out, hlb.2, by have := HLA.out; omega, HS3.out, by have := HLA.out; omega⟩
            case measure => simp [intOf]; omega
          | true =>
            have HS3 := Lib.hid (show scn s 0 1 false = (L ++ [⟨4, ByteArray.empty, 0, a, l, 0⟩]) ++ scn s (a + 1) (l + 1) false by rw [HS2.out, List.append_assoc]; rfl)
            go_wp2_with (at_builtin; refine wpList_append_mine _ rfl (.tmp 27) (.tmp 32) 33 rfl w.heap.size 41 i0 (.agg #[.int .i64 0, .string ⟨#[]⟩, .int .i64 0, .int .i64 0, .int .i64 0, .int .i64 0]) 6 56 Tryd.underlying33 HI.out HZ0.out HZ1.out HZ2.out rfl (by decide) _ _ _ rfl (HO.out.alloc _) ⟨wr.heap.size, 0, none⟩ 1 1 [.int .i64 4, .string ⟨#[]⟩, .int .i64 0, .int .i64 (a : Nat), .int .i64 (l : Nat), .int .i64 0] rfl rfl (cell_new_row _ _ _) (by simp [Value.oneCell']) (by have := HLN.out; unfold maxLen; omega) (by have := HLN.out; omega) (by have := HK.out.size; simp; omega) ?_; intro v' W2 hp2; have hfin := Lib.hid (own_next HO.out HK.out ((Keep.refl _ _).alloc _) hp2 (by omega)); clear hp2)
            go_roundw
            case rel => exact ⟨_, l + 1, false, L ++ [⟨4, ByteArray.empty, 0, a, l, 0⟩], by go_num, rfl, by go_num, OutAt.snoc (f := ⟨4, ByteArray.empty, 0, a, l, 0⟩) rfl hfin.out, hlb.2, by have := HLA.out; omega, HS3.out, by have := HLA.out; rw [List.length_append, List.length_singleton]; omega⟩
            case measure => simp [intOf]; omega
        · have hi3 := hi2 hc hn1
          have g1 := dec_lt_t (show (a : Int) + 1 < (s.size : Int) by omega)
          have g2 := dec_ltn_t hn1
          rw [hn2] at hi3
          rw [hc] at hix
          rw [hb] at HS2 hlb
          clear hc hb hi2 hbb hbl hlt hn1 hn2
          cases sm with
          | false =>
            have HS3 := Lib.hid (show scn s 0 1 false = L ++ scn s (a + 2) (l + 1) false from HS2.out)
            go_wp2
            go_roundw
            case rel => exact ⟨_, l + 1, false, L, by go_num, rfl, by go_num, HOA.out, hlb.2, by have := HLA.out; omega, HS3.out, by have := HLA.out; omega⟩
            case measure => simp [intOf]; omega
          | true =>
            have HS3 := Lib.hid (show scn s 0 1 false = (L ++ [⟨4, ByteArray.empty, 0, a, l, 0⟩]) ++ scn s (a + 2) (l + 1) false by rw [HS2.out, List.append_assoc]; rfl)
            go_wp2_with (at_builtin; refine wpList_append_mine _ rfl (.tmp 27) (.tmp 32) 33 rfl w.heap.size 41 i0 (.agg #[.int .i64 0, .string ⟨#[]⟩, .int .i64 0, .int .i64 0, .int .i64 0, .int .i64 0]) 6 56 Tryd.underlying33 HI.out HZ0.out HZ1.out HZ2.out rfl (by decide) _ _ _ rfl (HO.out.alloc _) ⟨wr.heap.size, 0, none⟩ 1 1 [.int .i64 4, .string ⟨#[]⟩, .int .i64 0, .int .i64 (a : Nat), .int .i64 (l : Nat), .int .i64 0] rfl rfl (cell_new_row _ _ _) (by simp [Value.oneCell']) (by have := HLN.out; unfold maxLen; omega) (by have := HLN.out; omega) (by have := HK.out.size; simp; omega) ?_; intro v' W2 hp2; have hfin := Lib.hid (own_next HO.out HK.out ((Keep.refl _ _).alloc _) hp2 (by omega)); clear hp2)
            go_roundw
            case rel => exact ⟨_, l + 1, false, L ++ [⟨4, ByteArray.empty, 0, a, l, 0⟩], by go_num, rfl, by go_num, OutAt.snoc (f := ⟨4, ByteArray.empty, 0, a, l, 0⟩) rfl hfin.out, hlb.2, by have := HLA.out; omega, HS3.out, by have := HLA.out; rw [List.length_append, List.length_singleton]; omega⟩
            case measure => simp [intOf]; omega
        · have hi3 := hi2 hc hn1
          have g1 := dec_lt_t (show (a : Int) + 1 < (s.size : Int) by omega)
          have g2 := dec_ltn_t hn1
          obtain ⟨d, hd⟩ : ∃ d : Int, d = ((byt s (a + 1) : Nat) : Int) := ⟨_, rfl⟩
          rw [← hd] at hi3
          have g3 : (d == 10) = false := ((ar4 hd).2 hn2).1
          rw [hc] at hix
          rw [hb] at HS2 hlb
          clear hc hb hi2 hbb hbl hlt hn1 hn2 hd
          cases sm with
          | false =>
            have HS3 := Lib.hid (show scn s 0 1 false = L ++ scn s (a + 1) (l + 1) false from HS2.out)
            go_wp2
            go_roundw
            case rel => exact ⟨_, l + 1, false, L, by go_num, rfl, by go_num, HOA.out, hlb.2, by have := HLA.out; omega, HS3.out, by have := HLA.out; omega⟩
            case measure => simp [intOf]; omega
          | true =>
            have HS3 := Lib.hid (show scn s 0 1 false = (L ++ [⟨4, ByteArray.empty, 0, a, l, 0⟩]) ++ scn s (a + 1) (l + 1) false by rw [HS2.out, List.append_assoc]; rfl)
            go_wp2_with (at_builtin; refine wpList_append_mine _ rfl (.tmp 27) (.tmp 32) 33 rfl w.heap.size 41 i0 (.agg #[.int .i64 0, .string ⟨#[]⟩, .int .i64 0, .int .i64 0, .int .i64 0, .int .i64 0]) 6 56 Tryd.underlying33 HI.out HZ0.out HZ1.out HZ2.out rfl (by decide) _ _ _ rfl (HO.out.alloc _) ⟨wr.heap.size, 0, none⟩ 1 1 [.int .i64 4, .string ⟨#[]⟩, .int .i64 0, .int .i64 (a : Nat), .int .i64 (l : Nat), .int .i64 0] rfl rfl (cell_new_row _ _ _) (by simp [Value.oneCell']) (by have := HLN.out; unfold maxLen; omega) (by have := HLN.out; omega) (by have := HK.out.size; simp; omega) ?_; intro v' W2 hp2; have hfin := Lib.hid (own_next HO.out HK.out ((Keep.refl _ _).alloc _) hp2 (by omega)); clear hp2)
            go_roundw
            case rel => exact ⟨_, l + 1, false, L ++ [⟨4, ByteArray.empty, 0, a, l, 0⟩], by go_num, rfl, by go_num, OutAt.snoc (f := ⟨4, ByteArray.empty, 0, a, l, 0⟩) rfl hfin.out, hlb.2, by have := HLA.out; omega, HS3.out, by have := HLA.out; rw [List.length_append, List.length_singleton]; omega⟩
            case measure => simp [intOf]; omega
        · have g1 := dec_lt_f (show ¬ (a : Int) + 1 < (s.size : Int) by omega)
          have g2 := dec_ltn_f hn1
          rw [hc] at hix
          rw [hb] at HS2 hlb
          clear hc hb hi2 hbb hbl hlt hn1
          cases sm with
          | false =>
            have HS3 := Lib.hid (show scn s 0 1 false = L ++ scn s (a + 1) (l + 1) false from HS2.out)
            go_wp2
            go_roundw
            case rel => exact ⟨_, l + 1, false, L, by go_num, rfl, by go_num, HOA.out, hlb.2, by have := HLA.out; omega, HS3.out, by have := HLA.out; omega⟩
            case measure => simp [intOf]; omega
          | true =>
            have HS3 := Lib.hid (show scn s 0 1 false = (L ++ [⟨4, ByteArray.empty, 0, a, l, 0⟩]) ++ scn s (a + 1) (l + 1) false by rw [HS2.out, List.append_assoc]; rfl)
            go_wp2_with (at_builtin; refine wpList_append_mine _ rfl (.tmp 27) (.tmp 32) 33 rfl w.heap.size 41 i0 (.agg #[.int .i64 0, .string ⟨#[]⟩, .int .i64 0, .int .i64 0, .int .i64 0, .int .i64 0]) 6 56 Tryd.underlying33 HI.out HZ0.out HZ1.out HZ2.out rfl (by decide) _ _ _ rfl (HO.out.alloc _) ⟨wr.heap.size, 0, none⟩ 1 1 [.int .i64 4, .string ⟨#[]⟩, .int .i64 0, .int .i64 (a : Nat), .int .i64 (l : Nat), .int .i64 0] rfl rfl (cell_new_row _ _ _) (by simp [Value.oneCell']) (by have := HLN.out; unfold maxLen; omega) (by have := HLN.out; omega) (by have := HK.out.size; simp; omega) ?_; intro v' W2 hp2; have hfin := Lib.hid (own_next HO.out HK.out ((Keep.refl _ _).alloc _) hp2 (by omega)); clear hp2)
            go_roundw
            case rel => exact ⟨_, l + 1, false, L ++ [⟨4, ByteArray.empty, 0, a, l, 0⟩], by go_num, rfl, by go_num, OutAt.snoc (f := ⟨4, ByteArray.empty, 0, a, l, 0⟩) rfl hfin.out, hlb.2, by have := HLA.out; omega, HS3.out, by have := HLA.out; rw [List.length_append, List.length_singleton]; omega⟩
            case measure => simp [intOf]; omega
      · -- a blank
        have HS2 := Lib.hid (HSC.out.trans (by rw [scn_blank hlt hc]))
        rcases hc with hc | hc
        all_goals
          rw [hc] at hix
          clear hc hbl
          go_wp2
          go_roundw
          case rel => exact ⟨a + 1, l, sm, L, rfl, rfl, by go_num, HOA.out, by omega, by have := HLA.out; omega, HS2.out, by have := HLA.out; omega⟩
          case measure => simp [intOf]; omega
      · -- a remark
        have HS2 := Lib.hid (show scn s 0 1 false = L ++ scn s (rem s a) l sm by rw [HSC.out, scn_rem hlt hc])
        have hra : a < rem s a ∧ rem s a ≤ s.size := by
          have h1 := rem_on (s := s) (i := a) ⟨hlt, by omega, by omega⟩
          have h2 := rem_spec s s.size (a + 1) (by omega) (by omega)
          omega
        have HRA := Lib.hid hra
        rw [hc] at hix
        clear hc hbl hra f1 f2
        go_wp2
        clear hix
        go_loopw [6] (fun av wx => ∃ i : Nat, av = .int .i64 i ∧ i ≤ s.size ∧ rem s a = rem s i ∧ wr = wx) (fun av _ => s.size - (intOf av).toNat)
        case atStart => exact ⟨a, rfl, by omega, rfl, rfl⟩
        case round =>
          obtain ⟨i, rfl, hi, hr, rfl⟩ := hrel
          have HRR := Lib.hid hr; clear hr
          by_cases his : i < s.size
          · have g1 := dec_lt_t (show (i : Int) < (s.size : Int) by omega)
            have g2 := dec_ltn_t his
            have hix := byte_z (s := s) (i := i) (z := (i : Nat)) his rfl
            obtain ⟨c, hcc⟩ : ∃ c : Int, c = ((byt s i : Nat) : Int) := ⟨_, rfl⟩
            rw [← hcc] at hix
            by_cases e1 : byt s i = 10
            · have HE := Lib.hid (HRR.out.trans (rem_end (fun h => h.2.1 e1)))
              have g3 : (c != 10) = false := ar8 hcc e1
              clear e1 hcc
              go_wp2
              go_roundw
              case rel => exact ⟨i, l, sm, L, rfl, rfl, rfl, HOA.out, hi, by have := HLA.out; have := HRA.out; have := HE.out; omega, by rw [HS2.out, HE.out], by have := HLA.out; have := HRA.out; have := HE.out; omega⟩
              case measure => have := HRA.out; have := HE.out; simp [intOf]; omega
            · have g3 : (c != 10) = true := ((ar4 hcc).2 e1).2
              by_cases e2 : byt s i = 13
              · have HE := Lib.hid (HRR.out.trans (rem_end (fun h => h.2.2 e2)))
                have g4 : (c != 13) = false := ar8 hcc e2
                clear e1 e2 hcc
                go_wp2
                go_roundw
                case rel => exact ⟨i, l, sm, L, rfl, rfl, rfl, HOA.out, hi, by have := HLA.out; have := HRA.out; have := HE.out; omega, by rw [HS2.out, HE.out], by have := HLA.out; have := HRA.out; have := HE.out; omega⟩
                case measure => have := HRA.out; have := HE.out; simp [intOf]; omega
              · have g4 : (c != 13) = true := ((ar4 hcc).2 e2).2
                have HE := Lib.hid (HRR.out.trans (rem_on ⟨his, e1, e2⟩))
                clear e1 e2 hcc
                go_wp2
                go_roundw
                case rel => exact ⟨i + 1, by go_num, by omega, HE.out, by trivial⟩
                case measure => simp [intOf]; omega
          · have g1 := dec_lt_f (show ¬ (i : Int) < (s.size : Int) by omega)
            have g2 := dec_ltn_f his
            have HE := Lib.hid (HRR.out.trans (rem_end (fun h => his h.1)))
            clear his
            go_wp2
            go_roundw
            case rel => exact ⟨i, l, sm, L, rfl, rfl, rfl, HOA.out, hi, by have := HLA.out; have := HRA.out; have := HE.out; omega, by rw [HS2.out, HE.out], by have := HLA.out; have := HRA.out; have := HE.out; omega⟩
            case measure => have := HRA.out; have := HE.out; simp [intOf]; omega
      · -- a word that is not quoted
        obtain ⟨⟨⟨fk, ft, fn, fa, fl, fe⟩, o⟩, hpl⟩ : ∃ r, plF s a l = r := ⟨_, rfl⟩
        have hwe := hw.ends
        have hp0 := rplain_any s a l wr hz hwe
        rw [hpl] at hp0
        have HP := Lib.hid (show Calls Tryd.prog 42 #[.string s, .int .i64 (a : Nat), .int .i64 (l : Nat)] wr fun e w' => e = .returned (.tuple #[.agg #[.int .i64 (fk : Nat), .string ft, .int .i64 fn, .int .i64 (fa : Nat), .int .i64 (fl : Nat), .int .i64 (fe : Nat)], .int .i64 (endV o)]) ∧ Keep [] wr w' from hp0)
        clear hp0
        obtain ⟨c, hcc⟩ : ∃ c : Int, c = ((byt s a : Nat) : Int) := ⟨_, rfl⟩
        rw [← hcc] at hix
        obtain ⟨_, w1, w2, w3, w4, w5⟩ := hw
        have g1 : (c == 10) = false := ((ar4 hcc).2 w1).1
        have g2 : (c == 13) = false := ((ar4 hcc).2 w2).1
        have g3 : (c == 32) = false := ((ar4 hcc).2 w3).1
        have g4 : (c == 9) = false := ((ar4 hcc).2 w4).1
        have g5 : (c == 35) = false := ((ar4 hcc).2 w5).1
        have g6 : (c != 34) = true := ((ar4 hcc).2 hc).2
        have hwd : WordAt s a := ⟨hlt, w1, w2, w3, w4, w5⟩
        cases o with
        | none =>
          have HS2 := Lib.hid (show scn s 0 1 false = L ++ [⟨fk, ft, fn, fa, fl, fe⟩] by rw [HSC.out, scn_bad hwd hc hpl])
          clear w1 w2 w3 w4 w5 hc hcc hwd hpl hwe hlt hbl
          go_wp2_with fail
          refine HP.out.mono ?_
          rintro e W1 ⟨rfl, hk1⟩
          have HOA1 := Lib.hid (HOA.out.keep hk1)
          clear hk1 HP
          simp only [endV]
          go_upto_region 23 with (fail)
          obtain ⟨W3, hW3⟩ : ∃ W, W = W1.alloc (.cells #[.int .i64 (fk : Nat), .string ft, .int .i64 fn, .int .i64 (fa : Nat), .int .i64 (fl : Nat), .int .i64 (fe : Nat)] 41) := ⟨_, rfl⟩
          have hb3 : W3.heap[W1.heap.size]? = some (.cells #[.int .i64 (fk : Nat), .string ft, .int .i64 fn, .int .i64 (fa : Nat), .int .i64 (fl : Nat), .int .i64 (fe : Nat)] 41 (0, 0)) := by rw [hW3]; exact World.alloc_heap_new W1 _
          have ho3 : OutAt w u3 L W3 := by rw [hW3]; exact HOA1.out.keep ((Keep.refl _ _).alloc _)
          rw [← hW3]
          clear hW3
          generalize W1.heap.size = g at *
          have hl3 := load_row (P := Tryd.prog) (t := 41) Tryd.underlying41 rfl found_info hb3 rfl
          have HO3 := Lib.hid ho3.1; have HK3 := Lib.hid ho3.2.1
          clear ho3 hb3
          go_wp2_with (with_reducible refine park_load 7 _ rfl ?_)
          refine wpList_load_eq rfl _ (.tmp 7) rfl hl3 ?_
          clear hl3
          go_wp2_with (at_builtin; refine wpList_append_mine _ rfl (.tmp 108) (.tmp 110) 33 rfl w.heap.size 41 i0 (.agg #[.int .i64 0, .string ⟨#[]⟩, .int .i64 0, .int .i64 0, .int .i64 0, .int .i64 0]) 6 56 Tryd.underlying33 HI.out HZ0.out HZ1.out HZ2.out rfl (by decide) _ _ _ rfl (HO3.out.alloc _) ⟨W3.heap.size, 0, none⟩ 1 1 [.int .i64 (fk : Nat), .string ft, .int .i64 fn, .int .i64 (fa : Nat), .int .i64 (fl : Nat), .int .i64 (fe : Nat)] rfl rfl (cell_new_row _ _ _) (by simp [Value.oneCell']) (by have := HLN.out; unfold maxLen; omega) (by have := HLN.out; omega) (by have := HK3.out.size; simp; omega) ?_; intro v' W2 hp2; have hfin := Lib.hid (own_next HO3.out HK3.out ((Keep.refl _ _).alloc _) hp2 (by omega)); clear hp2)
          go_ret
          exact HRET.out _ _ _ HS2.out (OutAt.snoc (f := ⟨fk, ft, fn, fa, fl, fe⟩) rfl hfin.out)
        | some e =>
          have hm := plF_more hwe (by rw [hpl])
          have HM := Lib.hid hm
          have HS2 := Lib.hid (show scn s 0 1 false = (L ++ [⟨fk, ft, fn, fa, fl, fe⟩]) ++ scn s e l true by rw [HSC.out, scn_plain hwd hc hpl, List.append_assoc]; rfl)
          have g7 := dec_lt_f (show ¬ (e : Int) < 0 by omega)
          clear w1 w2 w3 w4 w5 hc hcc hwd hpl hwe hlt hbl hm
          go_wp2_with fail
          refine HP.out.mono ?_
          rintro e' W1 ⟨rfl, hk1⟩
          have HOA1 := Lib.hid (HOA.out.keep hk1)
          clear hk1 HP
          simp only [endV]
          go_upto_region 23 with (fail)
          obtain ⟨W3, hW3⟩ : ∃ W, W = W1.alloc (.cells #[.int .i64 (fk : Nat), .string ft, .int .i64 fn, .int .i64 (fa : Nat), .int .i64 (fl : Nat), .int .i64 (fe : Nat)] 41) := ⟨_, rfl⟩
          have hb3 : W3.heap[W1.heap.size]? = some (.cells #[.int .i64 (fk : Nat), .string ft, .int .i64 fn, .int .i64 (fa : Nat), .int .i64 (fl : Nat), .int .i64 (fe : Nat)] 41 (0, 0)) := by rw [hW3]; exact World.alloc_heap_new W1 _
          have ho3 : OutAt w u3 L W3 := by rw [hW3]; exact HOA1.out.keep ((Keep.refl _ _).alloc _)
          rw [← hW3]
          clear hW3
          generalize W1.heap.size = g at *
          have hl3 := load_row (P := Tryd.prog) (t := 41) Tryd.underlying41 rfl found_info hb3 rfl
          have HO3 := Lib.hid ho3.1; have HK3 := Lib.hid ho3.2.1
          clear ho3 hb3
          go_wp2_with (with_reducible refine park_load 7 _ rfl ?_)
          refine wpList_load_eq rfl _ (.tmp 7) rfl hl3 ?_
          clear hl3
          go_wp2_with (at_builtin; refine wpList_append_mine _ rfl (.tmp 108) (.tmp 110) 33 rfl w.heap.size 41 i0 (.agg #[.int .i64 0, .string ⟨#[]⟩, .int .i64 0, .int .i64 0, .int .i64 0, .int .i64 0]) 6 56 Tryd.underlying33 HI.out HZ0.out HZ1.out HZ2.out rfl (by decide) _ _ _ rfl (HO3.out.alloc _) ⟨W3.heap.size, 0, none⟩ 1 1 [.int .i64 (fk : Nat), .string ft, .int .i64 fn, .int .i64 (fa : Nat), .int .i64 (fl : Nat), .int .i64 (fe : Nat)] rfl rfl (cell_new_row _ _ _) (by simp [Value.oneCell']) (by have := HLN.out; unfold maxLen; omega) (by have := HLN.out; omega) (by have := HK3.out.size; simp; omega) ?_; intro v' W2 hp2; have hfin := Lib.hid (own_next HO3.out HK3.out ((Keep.refl _ _).alloc _) hp2 (by omega)); clear hp2)
          go_roundw
          case rel => exact ⟨e, l, true, L ++ [⟨fk, ft, fn, fa, fl, fe⟩], rfl, rfl, rfl, OutAt.snoc (f := ⟨fk, ft, fn, fa, fl, fe⟩) rfl hfin.out, HM.out.2, by have := HLA.out; have := HM.out; omega, HS2.out, by have := HLA.out; have := HM.out; rw [List.length_append, List.length_singleton]; omega⟩
          case measure => have := HM.out; simp [intOf]; omega
      · -- a word in quotes
        obtain ⟨⟨ok, x, e⟩, hqt⟩ : ∃ r, qtd s a = r := ⟨_, rfl⟩
        have HP0 := rquoted_any s a wr hz (by omega)
        rw [hc] at hix
        have hwd := hw
        have g6 : decide (a < s.size) = true := dec_ltn_t hlt
        clear hw
        cases ok with
        | false =>
          obtain rfl := qtd_no (by omega) hqt
          have HS2 := Lib.hid (show scn s 0 1 false = L ++ [⟨0, ByteArray.empty, 0, e, l, 18⟩] by rw [HSC.out, scn_unq hwd hc hqt (.inl rfl)])
          rw [partA_no hqt] at HP0
          have HP := Lib.hid HP0
          clear HP0 hc hwd hqt hlt hbl g6
          go_wp2_with fail
          refine HP.out.mono ?_
          rintro e' W1 ⟨rfl, hk1⟩
          have HOA1 := Lib.hid (HOA.out.keep hk1)
          clear hk1 HP
          go_upto_region 28 with (fail)
          obtain ⟨W3, hW3⟩ : ∃ W, W = W1.alloc (.cells #[.string ByteArray.empty, .int .i64 (-1), .int .i64 (e : Nat)] 81) := ⟨_, rfl⟩
          have hb3 : W3.heap[W1.heap.size]? = some (.cells #[.string ByteArray.empty, .int .i64 (-1), .int .i64 (e : Nat)] 81 (0, 0)) := by rw [hW3]; exact World.alloc_heap_new W1 _
          have ho3 : OutAt w u3 L W3 := by rw [hW3]; exact HOA1.out.keep ((Keep.refl _ _).alloc _)
          rw [← hW3]
          clear hW3
          generalize W1.heap.size = g at *
          have k0 := cell_of_block hb3 0
          have k1 := cell_of_block hb3 1
          have k2 := cell_of_block hb3 2
          simp at k0 k1 k2
          have HO3 := Lib.hid ho3.1; have HK3 := Lib.hid ho3.2.1
          clear ho3 hb3
          go_wp2_with (at_builtin; refine wpList_append_mine _ rfl (.tmp 122) (.tmp 128) 33 rfl w.heap.size 41 i0 (.agg #[.int .i64 0, .string ⟨#[]⟩, .int .i64 0, .int .i64 0, .int .i64 0, .int .i64 0]) 6 56 Tryd.underlying33 HI.out HZ0.out HZ1.out HZ2.out rfl (by decide) _ _ _ rfl (HO3.out.alloc _) ⟨W3.heap.size, 0, none⟩ 1 1 [.int .i64 0, .string ⟨#[]⟩, .int .i64 0, .int .i64 (e : Nat), .int .i64 (l : Nat), .int .i64 18] rfl rfl (cell_new_row _ _ _) (by simp [Value.oneCell']) (by have := HLN.out; unfold maxLen; omega) (by have := HLN.out; omega) (by have := HK3.out.size; simp; omega) ?_; intro v' W2 hp2; have hfin := Lib.hid (own_next HO3.out HK3.out ((Keep.refl _ _).alloc _) hp2 (by omega)); clear hp2)
          go_ret
          exact HRET.out _ _ _ HS2.out (OutAt.snoc (f := ⟨0, ByteArray.empty, 0, e, l, 18⟩) rfl hfin.out)
        | true =>
          rw [partA_yes hqt] at HP0
          have HP := Lib.hid HP0
          have HM := Lib.hid (qtd_more hqt)
          have HE := Lib.hid (fun W => rends_any s e W hz)
          have g7 := dec_lt_f (show ¬ (e : Int) < 0 by omega)
          cases he : endB s e with
          | false =>
            have HS2 := Lib.hid (show scn s 0 1 false = L ++ [⟨0, ByteArray.empty, 0, e, l, 18⟩] by rw [HSC.out, scn_unq hwd hc hqt (.inr he)])
            rw [he] at HE
            clear HP0 hc hwd hqt hlt hbl g6 he
            go_wp2_with fail
            refine HP.out.mono ?_
            rintro e' W1 ⟨rfl, hk1⟩
            have HOA1 := Lib.hid (HOA.out.keep hk1)
            clear hk1 HP
            go_upto_region 28 with (fail)
            obtain ⟨W3, hW3⟩ : ∃ W, W = W1.alloc (.cells #[.string x, .int .i64 (e : Nat), .int .i64 0] 81) := ⟨_, rfl⟩
            have hb3 : W3.heap[W1.heap.size]? = some (.cells #[.string x, .int .i64 (e : Nat), .int .i64 0] 81 (0, 0)) := by rw [hW3]; exact World.alloc_heap_new W1 _
            have ho3 : OutAt w u3 L W3 := by rw [hW3]; exact HOA1.out.keep ((Keep.refl _ _).alloc _)
            rw [← hW3]
            clear hW3
            generalize W1.heap.size = g at *
            have k0 := cell_of_block hb3 0
            have k1 := cell_of_block hb3 1
            have k2 := cell_of_block hb3 2
            simp at k0 k1 k2
            have HO3 := Lib.hid ho3.1; have HK3 := Lib.hid ho3.2.1
            clear ho3 hb3
            go_wp2_with fail
            refine (HE.out _).mono ?_
            rintro e' W4 ⟨rfl, rfl⟩
            go_wp2_with (at_builtin; refine wpList_append_mine _ rfl (.tmp 136) (.tmp 142) 33 rfl w.heap.size 41 i0 (.agg #[.int .i64 0, .string ⟨#[]⟩, .int .i64 0, .int .i64 0, .int .i64 0, .int .i64 0]) 6 56 Tryd.underlying33 HI.out HZ0.out HZ1.out HZ2.out rfl (by decide) _ _ _ rfl (HO3.out.alloc _) ⟨W3.heap.size, 0, none⟩ 1 1 [.int .i64 0, .string ⟨#[]⟩, .int .i64 0, .int .i64 (e : Nat), .int .i64 (l : Nat), .int .i64 18] rfl rfl (cell_new_row _ _ _) (by simp [Value.oneCell']) (by have := HLN.out; unfold maxLen; omega) (by have := HLN.out; omega) (by have := HK3.out.size; simp; omega) ?_; intro v' W2 hp2; have hfin := Lib.hid (own_next HO3.out HK3.out ((Keep.refl _ _).alloc _) hp2 (by omega)); clear hp2)
            go_ret
            exact HRET.out _ _ _ HS2.out (OutAt.snoc (f := ⟨0, ByteArray.empty, 0, e, l, 18⟩) rfl hfin.out)
          | true =>
            have HS2 := Lib.hid (show scn s 0 1 false = (L ++ [⟨2, x, 0, a, l, 0⟩]) ++ scn s e l true by rw [HSC.out, scn_quote hwd hc hqt he, List.append_assoc]; rfl)
            rw [he] at HE
            clear HP0 hc hwd hqt hlt hbl g6 he
            go_wp2_with fail
            refine HP.out.mono ?_
            rintro e' W1 ⟨rfl, hk1⟩
            have HOA1 := Lib.hid (HOA.out.keep hk1)
            clear hk1 HP
            go_upto_region 28 with (fail)
            obtain ⟨W3, hW3⟩ : ∃ W, W = W1.alloc (.cells #[.string x, .int .i64 (e : Nat), .int .i64 0] 81) := ⟨_, rfl⟩
            have hb3 : W3.heap[W1.heap.size]? = some (.cells #[.string x, .int .i64 (e : Nat), .int .i64 0] 81 (0, 0)) := by rw [hW3]; exact World.alloc_heap_new W1 _
            have ho3 : OutAt w u3 L W3 := by rw [hW3]; exact HOA1.out.keep ((Keep.refl _ _).alloc _)
            rw [← hW3]
            clear hW3
            generalize W1.heap.size = g at *
            have k0 := cell_of_block hb3 0
            have k1 := cell_of_block hb3 1
            have k2 := cell_of_block hb3 2
            simp at k0 k1 k2
            have HO3 := Lib.hid ho3.1; have HK3 := Lib.hid ho3.2.1
            have HB3 := Lib.hid hb3
            have HNG := Lib.hid (own_not_type HO3.out hb3 (by decide))
            clear ho3 hb3
            go_wp2_with fail
            refine (HE.out _).mono ?_
            rintro e' W4 ⟨rfl, rfl⟩
            go_wp2_with (at_builtin; refine wpList_append_mine _ rfl (.tmp 145) (.tmp 152) 33 rfl w.heap.size 41 i0 (.agg #[.int .i64 0, .string ⟨#[]⟩, .int .i64 0, .int .i64 0, .int .i64 0, .int .i64 0]) 6 56 Tryd.underlying33 HI.out HZ0.out HZ1.out HZ2.out rfl (by decide) _ _ _ rfl (HO3.out.alloc _) ⟨W3.heap.size, 0, none⟩ 1 1 [.int .i64 2, .string x, .int .i64 0, .int .i64 (a : Nat), .int .i64 (l : Nat), .int .i64 0] rfl rfl (cell_new_row _ _ _) (by simp [Value.oneCell']) (by have := HLN.out; unfold maxLen; omega) (by have := HLN.out; omega) (by have := HK3.out.size; simp; omega) ?_; intro v' W2 hp2; have hfin := Lib.hid (own_next HO3.out HK3.out ((Keep.refl _ _).alloc _) hp2 (by omega)); have hb4 := hp2.2.1.at_ (((Keep.refl [] W3).alloc _).at_ HB3.out (by simp)) HNG.out; have k4 := cell_of_block hb4 1; simp at k4; clear hp2 hb4)
            go_roundw
            case rel => exact ⟨e, l, true, L ++ [⟨2, x, 0, a, l, 0⟩], rfl, rfl, rfl, OutAt.snoc (f := ⟨2, x, 0, a, l, 0⟩) rfl hfin.out, HM.out.2, by have := HLA.out; have := HM.out; omega, HS2.out, by have := HLA.out; have := HM.out; rw [List.length_append, List.length_singleton]; omega⟩
            case measure => have := HM.out; simp [intOf]; omega
    · have f1 := dec_le_t (show (s.size : Int) ≤ (a : Int) by omega)
      have f2 := dec_len_t (show s.size ≤ a by omega)
      have hS := HSC.out.trans (by rw [scn_over hlt])
      cases sm with
      | false =>
        have HS2 := Lib.hid (show scn s 0 1 false = L by rw [hS]; simp [endF])
        clear hS hlt
        go_wp2
        go_ret
        exact HRET.out _ _ _ HS2.out HOA.out
      | true =>
        have HS2 := Lib.hid (show scn s 0 1 false = L ++ [⟨4, ByteArray.empty, 0, a, l, 0⟩] by rw [hS]; simp [endF])
        clear hS hlt
        go_wp2_with (at_builtin; refine wpList_append_mine _ rfl (.tmp 27) (.tmp 32) 33 rfl w.heap.size 41 i0 (.agg #[.int .i64 0, .string ⟨#[]⟩, .int .i64 0, .int .i64 0, .int .i64 0, .int .i64 0]) 6 56 Tryd.underlying33 HI.out HZ0.out HZ1.out HZ2.out rfl (by decide) _ _ _ rfl (HO.out.alloc _) ⟨wr.heap.size, 0, none⟩ 1 1 [.int .i64 4, .string ⟨#[]⟩, .int .i64 0, .int .i64 (a : Nat), .int .i64 (l : Nat), .int .i64 0] rfl rfl (cell_new_row _ _ _) (by simp [Value.oneCell']) (by have := HLN.out; unfold maxLen; omega) (by have := HLN.out; omega) (by have := HK.out.size; simp; omega) ?_; intro v' W2 hp2; have hfin := Lib.hid (own_next HO.out HK.out ((Keep.refl _ _).alloc _) hp2 (by omega)); clear hp2)
        go_ret
        exact HRET.out _ _ _ HS2.out (OutAt.snoc (f := ⟨4, ByteArray.empty, 0, a, l, 0⟩) rfl hfin.out)
end Go.Proofs.YtbmapellhcdipaaDoor
namespace Go.Proofs.YtbmapellhcdipaaDoor
open Go.RowKit
set_option linter.unusedVariables false
set_option linter.unusedSimpArgs false
attribute [local go_sem] Oper.semAt_some

theorem scn_len (s : ByteArray) : ∀ (m a l : Nat) (sm : Bool), s.size - a ≤ m → a ≤ s.size → (scn s a l sm).length ≤ s.size - a + 1 := by
  intro m
  induction m with
  | zero =>
    intro a l sm hm ha
    rw [scn_over (by omega)]
    unfold endF
    split <;> simp
  | succ m ih =>
    intro a l sm hm ha
    by_cases hlt : a < s.size
    · have hcs : (byt s a = 10 ∨ byt s a = 13) ∨ (byt s a = 32 ∨ byt s a = 9) ∨ byt s a = 35 ∨ (WordAt s a ∧ byt s a ≠ 34) ∨ (WordAt s a ∧ byt s a = 34) := by unfold WordAt; omega
      rcases hcs with hc | hc | hc | ⟨hw, hc⟩ | ⟨hw, hc⟩
      · rw [scn_line hlt hc, List.length_append]
        have hlb := lineB_more hlt
        have h1 := ih (lineB s a) (l + 1) false (by omega) hlb.2
        have h2 : (endF sm a l).length ≤ 1 := by unfold endF; split <;> simp
        omega
      · rw [scn_blank hlt hc]
        have h1 := ih (a + 1) l sm (by omega) (by omega)
        omega
      · rw [scn_rem hlt hc]
        have h3 := rem_on (s := s) (i := a) ⟨hlt, by omega, by omega⟩
        have h4 := rem_spec s s.size (a + 1) (by omega) (by omega)
        have h1 := ih (rem s a) l sm (by omega) (by omega)
        omega
      · obtain ⟨⟨f, o⟩, hp⟩ : ∃ r, plF s a l = r := ⟨_, rfl⟩
        cases o with
        | none => rw [scn_bad hw hc hp]; simp
        | some e =>
          have hm := plF_more (s := s) (a := a) (l := l) (e := e) hw.ends (by rw [hp])
          rw [scn_plain hw hc hp, List.length_cons]
          have h1 := ih e l true (by omega) hm.2
          omega
      · obtain ⟨⟨ok, x, e⟩, hq⟩ : ∃ r, qtd s a = r := ⟨_, rfl⟩
        cases ok with
        | false => rw [scn_unq hw hc hq (.inl rfl)]; simp
        | true =>
          cases he : endB s e with
          | false => rw [scn_unq hw hc hq (.inr he)]; simp
          | true =>
            have hm := qtd_more hq
            rw [scn_quote hw hc hq he, List.length_cons]
            have h1 := ih e l true (by omega) hm.2
            omega
    · rw [scn_over hlt]
      unfold endF
      split <;> simp
theorem fnCs_at : ∀ (L : List Fn) (k j : Nat) (hk : k < L.length), j < 6 → (fnCs L)[k * 6 + j]? = L[k].vals[j]? := by
  intro L
  induction L with
  | nil => intro k j hk; cases hk
  | cons f L ih =>
    intro k j hk hj
    have hl : f.vals.toList.length = 6 := rfl
    unfold fnCs
    cases k with
    | zero =>
      rw [List.getElem?_append_left (by omega)]
      simp
    | succ k =>
      rw [List.getElem?_append_right (by omega), show (k + 1) * 6 + j - f.vals.toList.length = k * 6 + j by omega, ih k j (by simpa using hk) hj]
      rfl
/-- What the closures read. -/
def SC (bs bw bi tb : Nat) (v : Value) (stop : Int) (s : ByteArray) (W : World) : Prop :=
  W.heap[bs]? = some (.cells #[.int .i64 stop] 3 (0, 0)) ∧ W.heap[bw]? = some (.cells #[v] 33 (0, 0)) ∧
  W.heap[bi]? = some (.cells #[.func (.func 44) #[] #[.pointer (some ⟨tb, 0, none⟩)]] 36 (0, 0)) ∧ BoxNeed tb s W ∧ TQ W ∧
  SlAt W v (scn s 0 1 false).length (fnCs (scn s 0 1 false)) ∧ (∀ g, v.ownBlock = some g → g < W.heap.size)
def scL (bs bw bi tb : Nat) (v : Value) : List Nat := bs :: bw :: bi :: tb :: (tqB ++ v.ownBlock.toList)
section
variable {bs bw bi tb : Nat} {v : Value} {stop : Int} {s : ByteArray} {W W' : World} {L : List Nat}
theorem SC.keep (h : SC bs bw bi tb v stop s W) (k : Keep L W W') (hL : ∀ x ∈ scL bs bw bi tb v, x ∉ L) : SC bs bw bi tb v stop s W' := by
  obtain ⟨h0, h1, h2, h3, h4, h5, h6⟩ := h
  exact ⟨k.at_ h0 (hL _ (by simp [scL])), k.at_ h1 (hL _ (by simp [scL])), k.at_ h2 (hL _ (by simp [scL])), k.at_ h3 (hL _ (by simp [scL])), h4.keep k (fun x hx => hL _ (by simp [scL, hx])),
    h5.keep k (fun g hg => hL _ (by simp [scL, hg])), fun g hg => Nat.lt_of_lt_of_le (h6 g hg) k.size⟩
theorem SC.lt (h : SC bs bw bi tb v stop s W) : ∀ x ∈ scL bs bw bi tb v, x < W.heap.size := by
  obtain ⟨h0, h1, h2, h3, h4, h5, h6⟩ := h
  intro x hx
  simp only [scL, List.mem_cons, List.mem_append] at hx
  rcases hx with rfl | rfl | rfl | rfl | hx | hx
  · exact lt_of_block h0
  · exact lt_of_block h1
  · exact lt_of_block h2
  · exact lt_of_block h3
  · exact h4.lt _ hx
  · exact h6 _ (by simpa using hx)
end
/-- Two variables of a closure. -/
def Two (bo bn : Nat) (k : Nat) (W : World) : Prop := W.heap[bo]? = some (.cells #[.bool true] 4 (0, 0)) ∧ W.heap[bn]? = some (.cells #[.int .i64 (k : Nat)] 3 (0, 0)) ∧ bo ≠ bn
theorem Two.keep {bo bn k : Nat} {W W' : World} {L : List Nat} (h : Two bo bn k W) (kp : Keep L W W') (h1 : bo ∉ L) (h2 : bn ∉ L) : Two bo bn k W' := ⟨kp.at_ h.1 h1, kp.at_ h.2.1 h2, h.2.2⟩
theorem Two.setOk {bo bn k : Nat} {W : World} (h : Two bo bn k W) : Two bo bn k (W.setCell ⟨bo, 0, none⟩ (.bool true)) := by
  refine ⟨by have := block_setCell h.1 0 (.bool true); exact this, ((Keep.refl [bo] W).setCell (.inl (by simp)) _).at_ h.2.1 (by simp; exact fun e => h.2.2 e.symm), h.2.2⟩
theorem Two.setN {bo bn k : Nat} {W : World} (h : Two bo bn k W) (m : Nat) : Two bo bn m (W.setCell ⟨bn, 0, none⟩ (.int .i64 (m : Nat))) := by
  refine ⟨((Keep.refl [bn] W).setCell (.inl (by simp)) _).at_ h.1 (by simp; exact h.2.2), by have := block_setCell h.2.1 0 (.int .i64 (m : Nat)); exact this, h.2.2⟩
theorem word_info : (Tryd.prog.info? 39).map (·.size) = some 5 := by kernel_rfl

set_option maxHeartbeats 64000000 in
set_option maxRecDepth 100000 in
theorem scans11_any (bs bw bi tb bo bn : Nat) (v : Value) (stop : Int) (s : ByteArray) (k : Nat) (W : World) (hz : s.size ≤ 1000000) (hk : k < (scn s 0 1 false).length) (hS : SC bs bw bi tb v stop s W) (hT : Two bo bn k W) (hdis : ∀ x ∈ scL bs bw bi tb v, x ∉ [bo, bn]) :
    Calls Tryd.prog 18 (fnArgs ((scn s 0 1 false)[k]) ++ #[.pointer (some ⟨bo, 0, none⟩), .pointer (some ⟨bn, 0, none⟩), .pointer (some ⟨bw, 0, none⟩), .pointer (some ⟨bs, 0, none⟩)]) W fun e W' =>
      ∃ b : Bool, e = .returned (.bool b) ∧ ((b = true ∧ ((k + 1 : Nat) : Int) ≠ stop) ∨ (b = false ∧ ((k + 1 : Nat) : Int) = stop)) ∧ Keep [bo, bn] W W' ∧ Two bo bn (k + 1) W' := by
  obtain ⟨f, hf⟩ : ∃ f, f = (scn s 0 1 false)[k] := ⟨_, rfl⟩
  have hcs := fun j (hj : j < 6) => fnCs_at (scn s 0 1 false) k j hk hj
  rw [← hf] at hcs ⊢
  have hlen := scn_len s s.size 0 1 false (by omega) (by omega)
  obtain ⟨gb, off, cap, hv, hcell⟩ := hS.2.2.2.2.2.1.at_ (by omega)
  obtain ⟨n, hn⟩ : ∃ n, n = (scn s 0 1 false).length := ⟨_, rfl⟩
  rw [← hn] at hv hlen hk
  have HN := Lib.hid hn
  clear hf hn
  have hce : ∀ j (hj : j < 6) u, f.vals[j]? = some u → W.cell? ⟨gb, off + k * 6 + j, none⟩ = some u := fun j hj u hu => by
    rw [Nat.add_assoc]; exact hcell _ _ ((hcs j hj).trans hu)
  obtain ⟨fk, ft, fn, fa, fl, fe⟩ := f
  have g0 := hce 0 (by decide) _ rfl
  have g1 := hce 1 (by decide) _ rfl
  have g2 := hce 2 (by decide) _ rfl
  have g3 := hce 3 (by decide) _ rfl
  have g4 := hce 4 (by decide) _ rfl
  have g5 := hce 5 (by decide) _ rfl
  have hD : (W.alloc (.cells #[.int .i64 (fk : Nat), .string ft, .int .i64 fn, .int .i64 (fa : Nat), .int .i64 (fl : Nat)] 39)).heap[W.heap.size]? = some (.cells #[.int .i64 (fk : Nat), .string ft, .int .i64 fn, .int .i64 (fa : Nat), .int .i64 (fl : Nat)] 39 (0, 0)) := World.alloc_heap_new W _
  have hKD : Keep [] W (W.alloc (.cells #[.int .i64 (fk : Nat), .string ft, .int .i64 fn, .int .i64 (fa : Nat), .int .i64 (fl : Nat)] 39)) := (Keep.refl _ _).alloc _
  have hgb : gb < W.heap.size := World.block_lt_of_cell? _ _ g0
  have hlt := hS.lt
  subst hv
  simp only [fnArgs, List.push_toArray, List.append_toArray, List.cons_append, List.nil_append]
  have HSC := Lib.hid (hS.keep hKD (fun _ _ => by simp))
  have HTW := Lib.hid (hT.keep hKD (by simp) (by simp))
  have HLT := Lib.hid hlt
  have HDL := Lib.hid hdis
  have HKW := Lib.hid hKD
  have HSO := Lib.hid hS
  have HTO := Lib.hid hT
  obtain ⟨D, hDD⟩ : ∃ D, D = W.heap.size := ⟨_, rfl⟩
  obtain ⟨w0, hw0⟩ : ∃ w0, w0 = W.alloc (.cells #[.int .i64 (fk : Nat), .string ft, .int .i64 fn, .int .i64 (fa : Nat), .int .i64 (fl : Nat)] 39) := ⟨_, rfl⟩
  rw [← hw0] at HSC HTW HKW hD hKD
  rw [← hDD] at hD
  have HDB := Lib.hid hD
  have c0 := hKD.cellv g0 (by simp)
  have c1 := hKD.cellv g1 (by simp)
  have c2 := hKD.cellv g2 (by simp)
  have c3 := hKD.cellv g3 (by simp)
  have c4 := hKD.cellv g4 (by simp)
  have c5 := hKD.cellv g5 (by simp)
  have d0 := cell_of_block hD 0
  have d1 := cell_of_block hD 1
  have d2 := cell_of_block hD 2
  have d3 := cell_of_block hD 3
  have d4 := cell_of_block hD 4
  have p0 := cell_of_block HTW.out.1 0
  have y0 := free_of_block HTW.out.1 0
  have p1 := cell_of_block HTW.out.2.1 0
  have p2 := cell_of_block HSC.out.2.1 0
  simp at d0 d1 d2 d3 d4 p0 p1 p2
  have f1 := dec_lt_t (show (k : Int) < (n : Int) by omega)
  have f2 := dec_ltn_t (show k < n by omega)
  have hkz : k ≤ 1000001 := by omega
  have hnz : n ≤ 1000001 := by omega
  have HKN := Lib.hid (show k < n from hk)
  clear g0 g1 g2 g3 g4 g5 hD hKD hS hT hlt hcs hce hcell hdis hgb hlen
  go_enter Tryd.func18, Tryd.ntmps18
  go_upto_region 1 with (fail)
  rw [← hw0, ← hDD]
  clear hw0 hDD
  refine (wpIn_wide (n := 0)).1 ?_
  refine wpIn_fix (.inl rfl) 25 [] (fun _ => w0.drew) (fun w' => w'.cell? ⟨bo, 0, none⟩ = some (.bool true) ∧ w'.cell? ⟨bn, 0, none⟩ = some (.int .i64 (k : Nat)) ∧ w'.cell? ⟨bw, 0, none⟩ = some (.slice (some ⟨gb, off, none⟩) n cap) ∧
      w'.cell? ⟨D, 0, none⟩ = some (.int .i64 (fk : Nat)) ∧ w'.cell? ⟨D, 1, none⟩ = some (.string ft) ∧ w'.cell? ⟨D, 2, none⟩ = some (.int .i64 fn) ∧ w'.cell? ⟨D, 3, none⟩ = some (.int .i64 (fa : Nat)) ∧ w'.cell? ⟨D, 4, none⟩ = some (.int .i64 (fl : Nat)) ∧
      w'.cell? ⟨gb, off + k * 6, none⟩ = some (.int .i64 (fk : Nat)) ∧ w'.cell? ⟨gb, off + k * 6 + 1, none⟩ = some (.string ft) ∧ w'.cell? ⟨gb, off + k * 6 + 2, none⟩ = some (.int .i64 fn) ∧ w'.cell? ⟨gb, off + k * 6 + 3, none⟩ = some (.int .i64 (fa : Nat)) ∧ w'.cell? ⟨gb, off + k * 6 + 4, none⟩ = some (.int .i64 (fl : Nat)) ∧ w'.cell? ⟨gb, off + k * 6 + 5, none⟩ = some (.int .i64 (fe : Nat)))
    [.bool true, .bool true, .int .i64 (k : Nat), .slice (some ⟨gb, off, none⟩) n cap, .int .i64 (n : Nat), .bool true, .bool true, .bool true,
     .agg #[.int .i64 (fk : Nat), .string ft, .int .i64 fn, .int .i64 (fa : Nat), .int .i64 (fl : Nat)], .slice (some ⟨gb, off, none⟩) n cap, .int .i64 (k : Nat), .pointer (some ⟨gb, off + k * 6, none⟩), .pointer (some ⟨gb, off + k * 6, none⟩),
     .agg #[.int .i64 (fk : Nat), .string ft, .int .i64 fn, .int .i64 (fa : Nat), .int .i64 (fl : Nat)], .bool true, .bool true, .bool true, .int .i64 (fe : Nat), .slice (some ⟨gb, off, none⟩) n cap, .int .i64 (k : Nat), .pointer (some ⟨gb, off + k * 6, none⟩),
     .pointer (some ⟨gb, off + k * 6 + 5, none⟩), .int .i64 (fe : Nat), .bool true, .bool true]
    (by kernel_rfl) (by kernel_rfl) rfl rfl rfl (fun _ _ => ⟨p0, p1, p2, d0, d1, d2, d3, d4, c0, c1, c2, c3, c4, c5⟩) ?rest1
  case rest1 =>
    intro A hA
    simp only [putVals, List.take, Act.put, List.setIfInBounds_toArray, List.set_cons_succ, List.set_cons_zero] at hA
    subst hA
    refine ⟨?_, fixWrites_nil, ?_⟩
    · iterate 25
        refine fixReads_on rfl ?_ ?_
        · intro w1 hw1 K Q hK
          obtain ⟨x0, x1, x2, x3, x4, x5, x6, x7, x8, x9, x10, x11, x12, x13⟩ := hw1
          go_simp
          exact hK
      exact fixReads_nil
    · simp only [List.drop]
      gi_upto_region 2 with (fail)
      have HT1 := Lib.hid (show Two bo bn k (w0.setCell ⟨bo, 0, none⟩ (.bool true)).drew from HTW.out.setOk)
      have HK1 := Lib.hid (show Keep [bo, bn] W (w0.setCell ⟨bo, 0, none⟩ (.bool true)).drew from (((HKW.out.mono (by simp)).setCell (p := ⟨bo, 0, none⟩) (.inl (by simp)) (.bool true)).drew))
      obtain ⟨w1, hw1⟩ : ∃ w1, w1 = (w0.setCell ⟨bo, 0, none⟩ (.bool true)).drew := ⟨_, rfl⟩
      rw [← hw1] at HT1 HK1 ⊢
      clear hw1 c0 c1 c2 c3 c4 c5 d0 d1 d2 d3 d4 p0 p1 p2 y0 HKW HTW HSC
      have p0 := cell_of_block HT1.out.1 0
      have y0 := free_of_block HT1.out.1 0
      have p1 := cell_of_block HT1.out.2.1 0
      have y1 := free_of_block HT1.out.2.1 0
      simp at p0 p1
      go_upto_region 3 with (fail)
      have HT2 := Lib.hid (HT1.out.setN (k + 1))
      have HK2 := Lib.hid (HK1.out.setCell (p := ⟨bn, 0, none⟩) (.inl (by simp)) (.int .i64 ((k + 1 : Nat) : Nat)))
      obtain ⟨w2, hw2⟩ : ∃ w2, w2 = w1.setCell ⟨bn, 0, none⟩ (.int .i64 ((k + 1 : Nat) : Nat)) := ⟨_, rfl⟩
      rw [← hw2] at HT2 HK2
      have hw3 : w2 = w1.setCell ⟨bn, 0, none⟩ (.int .i64 ((k : Int) + 1)) := hw2
      rw [← hw3]
      clear hw2 hw3 p0 p1 y0 y1 HT1 HK1
      have HS2 := Lib.hid (HSO.out.keep HK2.out HDL.out)
      have p0 := cell_of_block HT2.out.1 0
      have p1 := cell_of_block HT2.out.2.1 0
      have p2 := cell_of_block HS2.out.1 0
      simp at p0 p1 p2
      by_cases hst : ((k + 1 : Nat) : Int) = stop
      · subst hst
        have g7 : (((k : Int) + 1) != ((k : Int) + 1)) = false := by simp
        go_wp2
        go_ret
        first | exact ⟨by simp, HK2.out, HT2.out⟩ | exact ⟨_, rfl, .inr ⟨rfl, rfl⟩, HK2.out, HT2.out⟩
      · have g7 : (((k : Int) + 1) != stop) = true := by simp; omega
        have g8 : (((k : Int) + 1) == stop) = false := by simp; omega
        have HST := Lib.hid hst
        clear hst
        go_wp2
        go_ret
        exact ⟨_, rfl, .inl ⟨rfl, HST.out⟩, HK2.out, HT2.out⟩

/-- Between the words of a run. -/
def WInv (bo bn : Nat) (W0 : World) (k : Nat) (fp : List Nat) (W : World) : Prop := fp = [bo, bn] ∧ Keep [bo, bn] W0 W ∧ Two bo bn k W
def WStop (bo bn : Nat) (stop : Int) (W0 : World) (k : Nat) (fp : List Nat) (W : World) : Prop := fp = [bo, bn] ∧ Keep [bo, bn] W0 W ∧ Two bo bn (k + 1) W ∧ ((k + 1 : Nat) : Int) = stop
theorem steady_of {L : List Nat} {W0 : World} {I : World → Prop} (hlt : ∀ x ∈ L, x < W0.heap.size) (hI : ∀ W W' S, I W → Keep S W W' → (∀ x ∈ L, x ∉ S) → I W') : Steady [] W0 (fun fp W => fp = L ∧ Keep L W0 W ∧ I W) := by
  rintro fp W1 W2 S ⟨rfl, hk, hi⟩ hkp hS
  have hge : ∀ x ∈ S, W0.heap.size ≤ x := fun x hx => by
    rcases (hS x hx).2 with h | h
    · cases h
    · exact h
  exact ⟨rfl, hk.trans hkp (fun x hx => .inr (hge x hx)), hI _ _ _ hi hkp (fun x hx hm => by have := hlt x hx; have := hge x hm; omega)⟩
theorem WInv.steady {bo bn : Nat} {W0 : World} (h : bo < W0.heap.size ∧ bn < W0.heap.size) (k : Nat) : Steady [] W0 (WInv bo bn W0 k) :=
  steady_of (I := fun W => Two bo bn k W) (fun x hx => by simp at hx; omega) (fun W W' S hi hk hn => hi.keep hk (hn _ (by simp)) (hn _ (by simp)))
theorem WStop.steady {bo bn : Nat} {stop : Int} {W0 : World} (h : bo < W0.heap.size ∧ bn < W0.heap.size) (k : Nat) : Steady [] W0 (WStop bo bn stop W0 k) :=
  steady_of (I := fun W => Two bo bn (k + 1) W ∧ ((k + 1 : Nat) : Int) = stop) (fun x hx => by simp at hx; omega) (fun W W' S hi hk hn => ⟨hi.1.keep hk (hn _ (by simp)) (hn _ (by simp)), hi.2⟩)
theorem enters_s11 (args : Array Value) (w : World) : (callFunc 18 args).run Tryd.prog w = .ok (.enter 18 args) w := enters_of Tryd.func18 (by kernel_rfl) rfl args w
theorem s11_round {bs bw bi tb bo bn : Nat} {v : Value} {stop : Int} {s : ByteArray} {W0 : World} (hz : s.size ≤ 1000000) (hS : SC bs bw bi tb v stop s W0) (hdis : ∀ x ∈ scL bs bw bi tb v, x ∉ [bo, bn])
    (k : Nat) (hk : k < ((scn s 0 1 false).map fnArgs).length) (fp : List Nat) (W1 : World) (h : WInv bo bn W0 k fp W1) :
    CallV Tryd.prog (.func (.func 18) #[] #[.pointer (some ⟨bo, 0, none⟩), .pointer (some ⟨bn, 0, none⟩), .pointer (some ⟨bw, 0, none⟩), .pointer (some ⟨bs, 0, none⟩)]) ((scn s 0 1 false).map fnArgs)[k] W1
      (RoundPost (WInv bo bn W0) (WStop bo bn stop W0) k fp W1) := by
  rw [List.length_map] at hk
  obtain ⟨rfl, hkp, hT⟩ := h
  rw [List.getElem_map]
  refine .inr ⟨_, _, rfl, enters_s11, (scans11_any bs bw bi tb bo bn v stop s k W1 hz hk (hS.keep hkp hdis) hT hdis).mono ?_⟩
  rintro e W2 ⟨b, rfl, ⟨rfl, hst⟩ | ⟨rfl, hst⟩, hk2, hT2⟩
  · exact .inl ⟨rfl, [bo, bn], ⟨rfl, hkp.trans hk2 (fun x hx => .inl hx), hT2⟩, hk2, FromNew.refl _ _⟩
  · exact .inr ⟨rfl, [bo, bn], ⟨rfl, hkp.trans hk2 (fun x hx => .inl hx), hT2, hst⟩, hk2, FromNew.refl _ _⟩

set_option maxHeartbeats 64000000 in
set_option maxRecDepth 100000 in
theorem scans1_any (bs bw bi tb bo bn : Nat) (v : Value) (stop : Int) (s : ByteArray) (k : Nat) (W : World) (hz : s.size ≤ 1000000) (hk : k < (scn s 0 1 false).length) (hS : SC bs bw bi tb v stop s W) (hT : Two bo bn k W) (hdis : ∀ x ∈ scL bs bw bi tb v, x ∉ [bo, bn]) :
    Calls Tryd.prog 17 (fnArgs ((scn s 0 1 false)[k]) ++ #[.pointer (some ⟨bo, 0, none⟩), .pointer (some ⟨bn, 0, none⟩), .pointer (some ⟨bw, 0, none⟩), .pointer (some ⟨bi, 0, none⟩), .pointer (some ⟨bs, 0, none⟩)]) W fun e W' =>
      e = .returned (.bool true) ∧ Keep [bo, bn] W W' ∧ Two bo bn (k + 1) W' := by
  obtain ⟨f, hf⟩ : ∃ f, f = (scn s 0 1 false)[k] := ⟨_, rfl⟩
  have hcs := fun j (hj : j < 6) => fnCs_at (scn s 0 1 false) k j hk hj
  rw [← hf] at hcs ⊢
  have hlen := scn_len s s.size 0 1 false (by omega) (by omega)
  obtain ⟨gb, off, cap, hv, hcell⟩ := hS.2.2.2.2.2.1.at_ (by omega)
  obtain ⟨n, hn⟩ : ∃ n, n = (scn s 0 1 false).length := ⟨_, rfl⟩
  rw [← hn] at hv hlen hk
  have HN := Lib.hid hn
  clear hf hn
  have hce : ∀ j (hj : j < 6) u, f.vals[j]? = some u → W.cell? ⟨gb, off + k * 6 + j, none⟩ = some u := fun j hj u hu => by
    rw [Nat.add_assoc]; exact hcell _ _ ((hcs j hj).trans hu)
  obtain ⟨fk, ft, fn, fa, fl, fe⟩ := f
  have g0 := hce 0 (by decide) _ rfl
  have g1 := hce 1 (by decide) _ rfl
  have g2 := hce 2 (by decide) _ rfl
  have g3 := hce 3 (by decide) _ rfl
  have g4 := hce 4 (by decide) _ rfl
  have g5 := hce 5 (by decide) _ rfl
  have hD : (W.alloc (.cells #[.int .i64 (fk : Nat), .string ft, .int .i64 fn, .int .i64 (fa : Nat), .int .i64 (fl : Nat)] 39)).heap[W.heap.size]? = some (.cells #[.int .i64 (fk : Nat), .string ft, .int .i64 fn, .int .i64 (fa : Nat), .int .i64 (fl : Nat)] 39 (0, 0)) := World.alloc_heap_new W _
  have hKD : Keep [] W (W.alloc (.cells #[.int .i64 (fk : Nat), .string ft, .int .i64 fn, .int .i64 (fa : Nat), .int .i64 (fl : Nat)] 39)) := (Keep.refl _ _).alloc _
  have hgb : gb < W.heap.size := World.block_lt_of_cell? _ _ g0
  have hlt := hS.lt
  subst hv
  simp only [fnArgs, List.push_toArray, List.append_toArray, List.cons_append, List.nil_append]
  have HSC := Lib.hid (hS.keep hKD (fun _ _ => by simp))
  have HTW := Lib.hid (hT.keep hKD (by simp) (by simp))
  have HLT := Lib.hid hlt
  have HDL := Lib.hid hdis
  have HKW := Lib.hid hKD
  have HSO := Lib.hid hS
  have HTO := Lib.hid hT
  obtain ⟨D, hDD⟩ : ∃ D, D = W.heap.size := ⟨_, rfl⟩
  obtain ⟨w0, hw0⟩ : ∃ w0, w0 = W.alloc (.cells #[.int .i64 (fk : Nat), .string ft, .int .i64 fn, .int .i64 (fa : Nat), .int .i64 (fl : Nat)] 39) := ⟨_, rfl⟩
  rw [← hw0] at HSC HTW HKW hD hKD
  rw [← hDD] at hD
  have HDB := Lib.hid hD
  have c0 := hKD.cellv g0 (by simp)
  have c1 := hKD.cellv g1 (by simp)
  have c2 := hKD.cellv g2 (by simp)
  have c3 := hKD.cellv g3 (by simp)
  have c4 := hKD.cellv g4 (by simp)
  have c5 := hKD.cellv g5 (by simp)
  have d0 := cell_of_block hD 0
  have d1 := cell_of_block hD 1
  have d2 := cell_of_block hD 2
  have d3 := cell_of_block hD 3
  have d4 := cell_of_block hD 4
  have p0 := cell_of_block HTW.out.1 0
  have y0 := free_of_block HTW.out.1 0
  have p1 := cell_of_block HTW.out.2.1 0
  have p2 := cell_of_block HSC.out.2.1 0
  simp at d0 d1 d2 d3 d4 p0 p1 p2
  have f1 := dec_lt_t (show (k : Int) < (n : Int) by omega)
  have f2 := dec_ltn_t (show k < n by omega)
  have hkz : k ≤ 1000001 := by omega
  have hnz : n ≤ 1000001 := by omega
  have HKN := Lib.hid (show k < n from hk)
  clear g0 g1 g2 g3 g4 g5 hD hKD hS hT hlt hcs hce hcell hdis hgb hlen
  go_enter Tryd.func17, Tryd.ntmps17
  go_upto_region 1 with (fail)
  rw [← hw0, ← hDD]
  clear hw0 hDD
  refine (wpIn_wide (n := 0)).1 ?_
  refine wpIn_fix (.inl rfl) 25 [] (fun _ => w0.drew) (fun w' => w'.cell? ⟨bo, 0, none⟩ = some (.bool true) ∧ w'.cell? ⟨bn, 0, none⟩ = some (.int .i64 (k : Nat)) ∧ w'.cell? ⟨bw, 0, none⟩ = some (.slice (some ⟨gb, off, none⟩) n cap) ∧
      w'.cell? ⟨D, 0, none⟩ = some (.int .i64 (fk : Nat)) ∧ w'.cell? ⟨D, 1, none⟩ = some (.string ft) ∧ w'.cell? ⟨D, 2, none⟩ = some (.int .i64 fn) ∧ w'.cell? ⟨D, 3, none⟩ = some (.int .i64 (fa : Nat)) ∧ w'.cell? ⟨D, 4, none⟩ = some (.int .i64 (fl : Nat)) ∧
      w'.cell? ⟨gb, off + k * 6, none⟩ = some (.int .i64 (fk : Nat)) ∧ w'.cell? ⟨gb, off + k * 6 + 1, none⟩ = some (.string ft) ∧ w'.cell? ⟨gb, off + k * 6 + 2, none⟩ = some (.int .i64 fn) ∧ w'.cell? ⟨gb, off + k * 6 + 3, none⟩ = some (.int .i64 (fa : Nat)) ∧ w'.cell? ⟨gb, off + k * 6 + 4, none⟩ = some (.int .i64 (fl : Nat)) ∧ w'.cell? ⟨gb, off + k * 6 + 5, none⟩ = some (.int .i64 (fe : Nat)))
    [.bool true, .bool true, .int .i64 (k : Nat), .slice (some ⟨gb, off, none⟩) n cap, .int .i64 (n : Nat), .bool true, .bool true, .bool true,
     .agg #[.int .i64 (fk : Nat), .string ft, .int .i64 fn, .int .i64 (fa : Nat), .int .i64 (fl : Nat)], .slice (some ⟨gb, off, none⟩) n cap, .int .i64 (k : Nat), .pointer (some ⟨gb, off + k * 6, none⟩), .pointer (some ⟨gb, off + k * 6, none⟩),
     .agg #[.int .i64 (fk : Nat), .string ft, .int .i64 fn, .int .i64 (fa : Nat), .int .i64 (fl : Nat)], .bool true, .bool true, .bool true, .int .i64 (fe : Nat), .slice (some ⟨gb, off, none⟩) n cap, .int .i64 (k : Nat), .pointer (some ⟨gb, off + k * 6, none⟩),
     .pointer (some ⟨gb, off + k * 6 + 5, none⟩), .int .i64 (fe : Nat), .bool true, .bool true]
    (by kernel_rfl) (by kernel_rfl) rfl rfl rfl (fun _ _ => ⟨p0, p1, p2, d0, d1, d2, d3, d4, c0, c1, c2, c3, c4, c5⟩) ?rest1
  case rest1 =>
    intro A hA
    simp only [putVals, List.take, Act.put, List.setIfInBounds_toArray, List.set_cons_succ, List.set_cons_zero] at hA
    subst hA
    refine ⟨?_, fixWrites_nil, ?_⟩
    · iterate 25
        refine fixReads_on rfl ?_ ?_
        · intro w1 hw1 K Q hK
          obtain ⟨x0, x1, x2, x3, x4, x5, x6, x7, x8, x9, x10, x11, x12, x13⟩ := hw1
          go_simp
          exact hK
      exact fixReads_nil
    · simp only [List.drop]
      gi_upto_region 2 with (fail)
      have HT1 := Lib.hid (show Two bo bn k (w0.setCell ⟨bo, 0, none⟩ (.bool true)).drew from HTW.out.setOk)
      have HK1 := Lib.hid (show Keep [bo, bn] W (w0.setCell ⟨bo, 0, none⟩ (.bool true)).drew from (((HKW.out.mono (by simp)).setCell (p := ⟨bo, 0, none⟩) (.inl (by simp)) (.bool true)).drew))
      obtain ⟨w1, hw1⟩ : ∃ w1, w1 = (w0.setCell ⟨bo, 0, none⟩ (.bool true)).drew := ⟨_, rfl⟩
      rw [← hw1] at HT1 HK1 ⊢
      clear hw1 c0 c1 c2 c3 c4 c5 d0 d1 d2 d3 d4 p0 p1 p2 y0 HKW HTW HSC
      have p0 := cell_of_block HT1.out.1 0
      have y0 := free_of_block HT1.out.1 0
      have p1 := cell_of_block HT1.out.2.1 0
      have y1 := free_of_block HT1.out.2.1 0
      simp at p0 p1
      go_upto_region 3 with (fail)
      have HT2 := Lib.hid (HT1.out.setN (k + 1))
      have HK2 := Lib.hid (HK1.out.setCell (p := ⟨bn, 0, none⟩) (.inl (by simp)) (.int .i64 ((k + 1 : Nat) : Nat)))
      obtain ⟨w2, hw2⟩ : ∃ w2, w2 = w1.setCell ⟨bn, 0, none⟩ (.int .i64 ((k + 1 : Nat) : Nat)) := ⟨_, rfl⟩
      rw [← hw2] at HT2 HK2
      have hw3 : w2 = w1.setCell ⟨bn, 0, none⟩ (.int .i64 ((k : Int) + 1)) := hw2
      rw [← hw3]
      clear hw2 hw3 p0 p1 y0 y1 HT1 HK1
      have HS2 := Lib.hid (HSO.out.keep HK2.out HDL.out)
      have p0 := cell_of_block HT2.out.1 0
      have p1 := cell_of_block HT2.out.2.1 0
      simp at p0 p1
      by_cases hst : k + 1 = 2
      · obtain rfl : k = 1 := by omega
        clear hst f1 f2
        go_upto_region 5 with (fail)
        clear p0 p1
        obtain ⟨bk, hbk⟩ : ∃ bk, bk = w2.heap.size := ⟨_, rfl⟩
        obtain ⟨w3, hw3⟩ : ∃ w3, w3 = w2.alloc (.cells #[.int .i64 0] 3) := ⟨_, rfl⟩
        have hk3 : Keep [] w2 w3 := by rw [hw3]; exact (Keep.refl _ _).alloc _
        have hbk3 : w3.heap[bk]? = some (.cells #[.int .i64 0] 3 (0, 0)) := by rw [hw3, hbk]; exact World.alloc_heap_new w2 _
        rw [← hw3, ← hbk]
        have HS3 := Lib.hid (HS2.out.keep hk3 (fun _ _ => by simp))
        have HT3 := Lib.hid (HT2.out.keep hk3 (by simp) (by simp))
        have HK3 := Lib.hid (HK2.out.trans0 hk3)
        have hbol : bo < w2.heap.size := lt_of_block HT2.out.1
        have hbnl : bn < w2.heap.size := lt_of_block HT2.out.2.1
        have hwl : W.heap.size ≤ w2.heap.size := HK2.out.size
        have HTK := Lib.hid (show Two bo bk 0 w3 from ⟨HT3.out.1, hbk3, by omega⟩)
        have HBK := Lib.hid (show bo < bk ∧ bn < bk ∧ W.heap.size ≤ bk ∧ bk < w3.heap.size from ⟨by omega, by omega, by omega, lt_of_block hbk3⟩)
        have HDK := Lib.hid (show ∀ x ∈ scL bs bw bi tb (.slice (some ⟨gb, off, none⟩) n cap), x ∉ [bo, bk] from fun x hx => by
          have h1 := HDL.out x hx
          have h2 := HS2.out.lt x hx
          simp at h1 ⊢
          omega)
        have pi := cell_of_block HS3.out.2.2.1 0
        simp at pi
        clear hw3 hk3 hbk3 hbk hbol hbnl hwl HT2 HK2 HS2
        have hcall := scan1_iters tb s hz (.func (.func 18) #[] #[.pointer (some ⟨bo, 0, none⟩), .pointer (some ⟨bk, 0, none⟩), .pointer (some ⟨bw, 0, none⟩), .pointer (some ⟨bs, 0, none⟩)]) (WInv bo bk w3) (WStop bo bk stop w3) [bo, bk] w3 ⟨HS3.out.2.2.2.1, HS3.out.2.2.2.2.1⟩ (fun b hb => by cases hb)
          (fun b hb => by
            have hm : b ∈ scL bs bw bi tb (.slice (some ⟨gb, off, none⟩) n cap) := by
              simp only [scL, List.mem_cons, List.mem_append]
              rcases List.mem_cons.1 hb with h | h
              · exact .inr (.inr (.inr (.inl h)))
              · exact .inr (.inr (.inr (.inr (.inl h))))
            exact ⟨HS3.out.lt b hm, HDK.out b hm⟩)
          (WInv.steady (by have := HBK.out; omega)) (WStop.steady (by have := HBK.out; omega)) (fun k hk fp W1 hj => s11_round hz HS3.out HDK.out k hk fp W1 hj) (fun b hb => by have := HBK.out; simp at hb; omega)
          ⟨rfl, Keep.refl _ _, HTK.out⟩
        have HCALL := Lib.hid hcall
        clear hcall
        go_wp2_with fail
        refine HCALL.out.mono ?_
        clear HCALL pi
        rintro e w4 ⟨rfl, hpost⟩
        have hpost2 : ∃ j : Nat, Keep [bo, bk] w3 w4 ∧ Two bo bk j w4 ∧ j ≤ 1000001 ∧ (j = n ∨ (j : Int) = stop) := by
          rcases hpost with ⟨fp', _, h1, h2⟩ | ⟨j, fp', hj, _, h1, h2, h3⟩
          · rw [List.length_map, ← HN.out] at h2
            exact ⟨n, h1, h2, hnz, .inl rfl⟩
          · rw [List.length_map, ← HN.out] at hj
            exact ⟨j + 1, h1, h2, by omega, .inr h3⟩
        obtain ⟨j, hk4, hT4, hjz, hj⟩ := hpost2
        have HT4 := Lib.hid hT4
        have HS4 := Lib.hid (HS3.out.keep hk4 HDK.out)
        have HN4 := Lib.hid (hk4.at_ HT3.out.2.1 (by have h1 := HT3.out.2.2; have h2 := HBK.out; simp; omega))
        have HK4 := Lib.hid (HK3.out.trans hk4 (fun x hx => by
          have h2 := HBK.out
          simp at hx
          rcases hx with rfl | rfl
          · exact .inl (by simp)
          · exact .inr (by omega)))
        have HT5 := Lib.hid (show Two bo bn 2 w4 from ⟨HT4.out.1, HN4.out, HT3.out.2.2⟩)
        have p0 := cell_of_block HT4.out.1 0
        have y0 := free_of_block HT4.out.1 0
        have pk := cell_of_block HT4.out.2.1 0
        have pw := cell_of_block HS4.out.2.1 0
        have ps := cell_of_block HS4.out.1 0
        simp at p0 pk pw ps
        clear hT4 hk4 hpost HT3 HS3 HK3 HN4 HT4
        have hfin : ∀ W', W' = w4.setCell ⟨bo, 0, none⟩ (.bool true) → Keep [bo, bn] W W' ∧ Two bo bn 2 W' := fun W' e => e ▸ ⟨HK4.out.setCell (.inl (by simp)) _, HT5.out.setOk⟩
        have HFIN := Lib.hid hfin
        clear hfin
        rcases hj with rfl | hj
        · go_wp2
          go_ret
          exact ⟨rfl, HFIN.out _ rfl⟩
        · subst hj
          by_cases hjn : j = n
          · subst hjn
            go_wp2
            go_ret
            exact ⟨rfl, HFIN.out _ rfl⟩
          · have g8 : ((j : Int) == (n : Int)) = false := by simp; omega
            have g9 : (j == n) = false := by simp; omega
            clear hjn
            go_wp2
            go_ret
            exact ⟨rfl, HFIN.out _ rfl⟩
      · have g7 : (((k : Int) + 1) == 2) = false := by simp; omega
        clear hst
        go_wp2
        go_ret
        exact ⟨rfl, HK2.out, HT2.out⟩

theorem enters_s1 (args : Array Value) (w : World) : (callFunc 17 args).run Tryd.prog w = .ok (.enter 17 args) w := enters_of Tryd.func17 (by kernel_rfl) rfl args w
theorem s1_round {bs bw bi tb bo bn : Nat} {v : Value} {stop : Int} {s : ByteArray} {W0 : World} (hz : s.size ≤ 1000000) (hS : SC bs bw bi tb v stop s W0) (hdis : ∀ x ∈ scL bs bw bi tb v, x ∉ [bo, bn])
    (k : Nat) (hk : k < ((scn s 0 1 false).map fnArgs).length) (fp : List Nat) (W1 : World) (h : WInv bo bn W0 k fp W1) :
    CallV Tryd.prog (.func (.func 17) #[] #[.pointer (some ⟨bo, 0, none⟩), .pointer (some ⟨bn, 0, none⟩), .pointer (some ⟨bw, 0, none⟩), .pointer (some ⟨bi, 0, none⟩), .pointer (some ⟨bs, 0, none⟩)]) ((scn s 0 1 false).map fnArgs)[k] W1
      (RoundPost (WInv bo bn W0) (fun _ _ _ => False) k fp W1) := by
  rw [List.length_map] at hk
  obtain ⟨rfl, hkp, hT⟩ := h
  rw [List.getElem_map]
  refine .inr ⟨_, _, rfl, enters_s1, (scans1_any bs bw bi tb bo bn v stop s k W1 hz hk (hS.keep hkp hdis) hT hdis).mono ?_⟩
  rintro e W2 ⟨rfl, hk2, hT2⟩
  exact .inl ⟨rfl, [bo, bn], ⟨rfl, hkp.trans hk2 (fun x hx => .inl hx), hT2⟩, hk2, FromNew.refl _ _⟩
/-- One variable, counted on. -/
def NInv (bn : Nat) (W0 : World) (k : Nat) (fp : List Nat) (W : World) : Prop := fp = [bn] ∧ Keep [bn] W0 W ∧ W.heap[bn]? = some (.cells #[.int .i64 (k : Nat)] 3 (0, 0))
def NStop (bn : Nat) (stop : Int) (W0 : World) (k : Nat) (fp : List Nat) (W : World) : Prop := fp = [bn] ∧ Keep [bn] W0 W ∧ W.heap[bn]? = some (.cells #[.int .i64 ((k + 1 : Nat) : Nat)] 3 (0, 0)) ∧ ((k + 1 : Nat) : Int) = stop
theorem NInv.steady {bn : Nat} {W0 : World} (h : bn < W0.heap.size) (k : Nat) : Steady [] W0 (NInv bn W0 k) :=
  steady_of (I := fun W => W.heap[bn]? = some (.cells #[.int .i64 (k : Nat)] 3 (0, 0))) (fun x hx => by simp at hx; omega) (fun W W' S hi hk hn => hk.at_ hi (hn _ (by simp)))
theorem NStop.steady {bn : Nat} {stop : Int} {W0 : World} (h : bn < W0.heap.size) (k : Nat) : Steady [] W0 (NStop bn stop W0 k) :=
  steady_of (I := fun W => W.heap[bn]? = some (.cells #[.int .i64 ((k + 1 : Nat) : Nat)] 3 (0, 0)) ∧ ((k + 1 : Nat) : Int) = stop) (fun x hx => by simp at hx; omega) (fun W W' S hi hk hn => ⟨hk.at_ hi.1 (hn _ (by simp)), hi.2⟩)
theorem enters_s2 (args : Array Value) (w : World) : (callFunc 19 args).run Tryd.prog w = .ok (.enter 19 args) w := enters_of Tryd.func19 (by kernel_rfl) rfl args w

set_option maxHeartbeats 4000000 in
theorem scans2_any (bs bn : Nat) (stop : Int) (f : Fn) (k : Nat) (W : World) (hkz : k ≤ 1000001) (hS : W.heap[bs]? = some (.cells #[.int .i64 stop] 3 (0, 0))) (hN : W.heap[bn]? = some (.cells #[.int .i64 (k : Nat)] 3 (0, 0))) (hne : bs ≠ bn) :
    Calls Tryd.prog 19 (fnArgs f ++ #[.pointer (some ⟨bn, 0, none⟩), .pointer (some ⟨bs, 0, none⟩)]) W fun e W' =>
      ∃ b : Bool, e = .returned (.bool b) ∧ ((b = true ∧ ((k + 1 : Nat) : Int) ≠ stop) ∨ (b = false ∧ ((k + 1 : Nat) : Int) = stop)) ∧ Keep [bn] W W' ∧ W'.heap[bn]? = some (.cells #[.int .i64 ((k + 1 : Nat) : Nat)] 3 (0, 0)) := by
  obtain ⟨fk, ft, fn, fa, fl, fe⟩ := f
  simp only [fnArgs, List.push_toArray, List.append_toArray, List.cons_append, List.nil_append]
  have hK := (Keep.refl [] W).alloc (.cells #[.int .i64 (fk : Nat), .string ft, .int .i64 fn, .int .i64 (fa : Nat), .int .i64 (fl : Nat)] 39)
  obtain ⟨w0, hw0⟩ : ∃ w0, w0 = W.alloc (.cells #[.int .i64 (fk : Nat), .string ft, .int .i64 fn, .int .i64 (fa : Nat), .int .i64 (fl : Nat)] 39) := ⟨_, rfl⟩
  rw [← hw0] at hK
  have HS := Lib.hid (hK.at_ hS (by simp))
  have HN := Lib.hid (hK.at_ hN (by simp))
  have HK := Lib.hid hK
  clear hS hN hK
  have p0 := cell_of_block HN.out 0
  have y0 := free_of_block HN.out 0
  simp at p0
  go_enter Tryd.func19, Tryd.ntmps19
  go_upto_region 1 with (fail)
  rw [← hw0]
  clear hw0
  go_upto_region 2 with (fail)
  have HN2 := Lib.hid (show (w0.setCell ⟨bn, 0, none⟩ (.int .i64 ((k + 1 : Nat) : Nat))).heap[bn]? = some (.cells #[.int .i64 ((k + 1 : Nat) : Nat)] 3 (0, 0)) by have := block_setCell HN.out 0 (.int .i64 ((k + 1 : Nat) : Nat)); exact this)
  have HS2 := Lib.hid (((Keep.refl [bn] w0).setCell (p := ⟨bn, 0, none⟩) (.inl (by simp)) (.int .i64 ((k + 1 : Nat) : Nat))).at_ HS.out (by simp; exact hne))
  have HK2 := Lib.hid ((HK.out.mono (L' := [bn]) (by simp)).setCell (p := ⟨bn, 0, none⟩) (.inl (by simp)) (.int .i64 ((k + 1 : Nat) : Nat)))
  obtain ⟨w2, hw2⟩ : ∃ w2, w2 = w0.setCell ⟨bn, 0, none⟩ (.int .i64 ((k + 1 : Nat) : Nat)) := ⟨_, rfl⟩
  rw [← hw2] at HN2 HS2 HK2
  have hw3 : w2 = w0.setCell ⟨bn, 0, none⟩ (.int .i64 ((k : Int) + 1)) := hw2
  rw [← hw3]
  clear hw2 hw3 p0 y0
  have p0 := cell_of_block HN2.out 0
  have p1 := cell_of_block HS2.out 0
  simp at p0 p1
  by_cases hst : ((k + 1 : Nat) : Int) = stop
  · subst hst
    go_wp2
    go_ret
    first | exact ⟨by simp, HK2.out, HN2.out⟩ | exact ⟨_, rfl, .inr ⟨rfl, rfl⟩, HK2.out, HN2.out⟩
  · have g7 : (((k : Int) + 1) != stop) = true := by simp; omega
    have g8 : (((k : Int) + 1) == stop) = false := by simp; omega
    have HST := Lib.hid hst
    clear hst
    go_wp2
    go_ret
    exact ⟨_, rfl, .inl ⟨rfl, HST.out⟩, HK2.out, HN2.out⟩
theorem s2_round {bs bn : Nat} {stop : Int} {s : ByteArray} {W0 : World} (hz : s.size ≤ 1000000) (hS : W0.heap[bs]? = some (.cells #[.int .i64 stop] 3 (0, 0))) (hne : bs ≠ bn)
    (k : Nat) (hk : k < ((scn s 0 1 false).map fnArgs).length) (fp : List Nat) (W1 : World) (h : NInv bn W0 k fp W1) :
    CallV Tryd.prog (.func (.func 19) #[] #[.pointer (some ⟨bn, 0, none⟩), .pointer (some ⟨bs, 0, none⟩)]) ((scn s 0 1 false).map fnArgs)[k] W1
      (RoundPost (NInv bn W0) (NStop bn stop W0) k fp W1) := by
  rw [List.length_map] at hk
  have hl := scn_len s s.size 0 1 false (by omega) (by omega)
  obtain ⟨rfl, hkp, hT⟩ := h
  rw [List.getElem_map]
  refine .inr ⟨_, _, rfl, enters_s2, (scans2_any bs bn stop _ k W1 (by omega) (hkp.at_ hS (by simp; exact hne)) hT hne).mono ?_⟩
  rintro e W2 ⟨b, rfl, ⟨rfl, hst⟩ | ⟨rfl, hst⟩, hk2, hT2⟩
  · exact .inl ⟨rfl, [bn], ⟨rfl, hkp.trans hk2 (fun x hx => .inl hx), hT2⟩, hk2, FromNew.refl _ _⟩
  · exact .inr ⟨rfl, [bn], ⟨rfl, hkp.trans hk2 (fun x hx => .inl hx), hT2, hst⟩, hk2, FromNew.refl _ _⟩
end Go.Proofs.YtbmapellhcdipaaDoor
namespace Go.Proofs.YtbmapellhcdipaaDoor
open Go.RowKit Go.Lib
set_option linter.unusedVariables false
set_option linter.unusedSimpArgs false

theorem rune_shift {T w : ByteArray} {p i r n : Nat} (hl : LiesAt T p w) (h : RuneAt w i r n) : RuneAt T (p + i) r n := by
  have h4 := h.n4
  obtain ⟨h1, h2⟩ := h
  have hz := hl.1
  refine ⟨by omega, ?_⟩
  have hb : ∀ k, k < n → byt T (p + i + k) = byt w (i + k) := fun k hk => by rw [Nat.add_assoc]; exact hl.2 _ (by omega)
  have b0 := hb 0 (by omega)
  rw [Nat.add_zero, Nat.add_zero] at b0
  rcases h2 with ⟨rfl, h⟩ | ⟨rfl, h⟩ | ⟨rfl, h⟩ | ⟨rfl, h⟩
  · left; rw [b0]; exact ⟨rfl, h⟩
  · right; left; rw [b0, hb 1 (by omega)]; exact ⟨rfl, h⟩
  · right; right; left; rw [b0, hb 1 (by omega), hb 2 (by omega)]; exact ⟨rfl, h⟩
  · right; right; right; rw [b0, hb 1 (by omega), hb 2 (by omega), hb 3 (by omega)]; exact ⟨rfl, h⟩
/-- A word that may stand plain, or a number. -/
def fineW (w : ByteArray) : Prop := (∀ i, i < w.size → 33 ≤ byt w i ∧ byt w i ≠ 127 ∧ byt w i ≠ 34 ∧ byt w i ≠ 35) ∧ Good w 0
theorem rune_low {w : ByteArray} {i r n : Nat} (h : RuneAt w i r n) : (n = 1 ∧ r = byt w i) ∨ 128 ≤ r := by
  obtain ⟨_, h | h | h | h⟩ := h
  · exact .inl ⟨h.1, h.2.2⟩
  · right; omega
  · right; omega
  · right; omega
theorem pw_fine {T w : ByteArray} {p : Nat} (hl : LiesAt T p w) (he : endB T (p + w.size) = true) (hf : fineW w) : pw T p = (p + w.size, 0) := by
  have key : ∀ (m i : Nat), w.size - i ≤ m → i ≤ w.size → (∀ j ∈ cut w i, wid w j ≠ 0) → pw T (p + i) = (p + w.size, 0) := by
    intro m
    induction m with
    | zero =>
      intro i hm hi _
      rw [show i = w.size by omega]
      exact pw_end he
    | succ m ih =>
      intro i hm hi hg
      by_cases hlt : i < w.size
      · rw [cut_step hlt] at hg
        have hw := hg i (by simp)
        have hr := rune_of_wid hlt hw
        have hT := rune_shift hl hr
        have hb : byt T (p + i) = byt w i := hl.2 i hlt
        have hx := hf.1 i hlt
        have hn : endB T (p + i) = false := endB_no (by have := hT.n4; rw [hb]; omega)
        have hlow := rune_low hr
        rw [pw_on hn (by rw [hT.dec]; simp only; omega) (by rw [hT.dec, hT.wid]; simp only; omega), hT.dec]
        have h4 := hr.n4
        have hs := wid_snd hw
        have := ih (i + wid w i) (by omega) (by omega) (fun j hj => hg j (by rw [List.mem_cons]; right; rw [hs]; exact hj))
        rw [← Nat.add_assoc] at this
        exact this
      · rw [show i = w.size by omega]
        exact pw_end he
  exact key w.size 0 (by omega) (Nat.zero_le _) hf.2
theorem lies_ext {T w : ByteArray} {p : Nat} (hl : LiesAt T p w) : T.extract p (p + w.size) = w := by
  have hs : (T.extract p (p + w.size)).size = w.size := by rw [size_ext _ _ _ hl.1]; omega
  refine ext_byt hs fun i hi => ?_
  rw [hs] at hi
  rw [byt_extract _ _ _ _ (by omega) hl.1, hl.2 i hi]
theorem fine_at {T w : ByteArray} {p : Nat} (hl : LiesAt T p w) (hf : fineW w) (h0 : w.size ≠ 0) : WordAt T p ∧ byt T p ≠ 34 := by
  have hb : byt T p = byt w 0 := by have := hl.2 0 (by omega); rwa [Nat.add_zero] at this
  have hx := hf.1 0 (by omega)
  have := hl.1
  unfold WordAt
  omega
theorem scn_wplain {T w : ByteArray} {p l : Nat} {sm : Bool} (hl : LiesAt T p w) (he : endB T (p + w.size) = true) (hf : fineW w) (h0 : w.size ≠ 0) (hn : numB w = false) : scn T p l sm = ⟨1, w, 0, p, l, 0⟩ :: scn T (p + w.size) l true := by
  obtain ⟨h1, h2⟩ := fine_at hl hf h0
  have := scn_plain (sm := sm) (l := l) h1 h2 (plF_word (pw_fine hl he hf) (by rw [lies_ext hl]; exact hn))
  rwa [lies_ext hl] at this
theorem scn_wnum {T w : ByteArray} {p l : Nat} {sm : Bool} {v : Int} (hl : LiesAt T p w) (he : endB T (p + w.size) = true) (hf : fineW w) (h0 : w.size ≠ 0) (hn : numB w = true) (ht : numT w.data.toList = some v) : scn T p l sm = ⟨3, ByteArray.empty, v, p, l, 0⟩ :: scn T (p + w.size) l true := by
  obtain ⟨h1, h2⟩ := fine_at hl hf h0
  exact scn_plain (sm := sm) (l := l) h1 h2 (plF_num (pw_fine hl he hf) (by rw [lies_ext hl]; exact hn) (by rw [lies_ext hl]; exact ht))
theorem qtd_lies (s x t : ByteArray) : qtd (s ++ quo x ++ t) s.size = (true, x, s.size + (quo x).size) := by
  refine qtd_ext ?_
  have hq : s ++ quo x = (s ++ one 34) ++ (qcat x (cut x 0) ++ one 34) := by unfold quo; rw [ByteArray.append_assoc, ByteArray.append_assoc]
  have hz : (s ++ one 34).size = s.size + 1 := by rw [ByteArray.size_append, one_size]
  have h0 : s.size < (s ++ quo x).size ∧ byt (s ++ quo x) s.size = 34 := by
    rw [hq]
    refine ⟨by rw [ByteArray.size_append, hz]; omega, ?_⟩
    rw [byt_append_left _ _ _ (by omega)]
    have := byt_append_right s (one 34) 0
    rw [Nat.add_zero] at this
    rw [this, byt_one (by decide)]
  have hsz : (s ++ quo x).size = s.size + (quo x).size := ByteArray.size_append ..
  unfold qtd
  rw [if_pos h0]
  have := qd_rest (s := x) x.size 0 (s ++ one 34) ByteArray.empty (by omega) (Nat.zero_le _)
  rw [hz, ← hq] at this
  rw [this, ByteArray.empty_append, hsz, ext_all]
theorem scn_wquo {s x t : ByteArray} {l : Nat} {sm : Bool} (he : endB (s ++ quo x ++ t) (s.size + (quo x).size) = true) : scn (s ++ quo x ++ t) s.size l sm = ⟨2, x, 0, s.size, l, 0⟩ :: scn (s ++ quo x ++ t) (s.size + (quo x).size) l true := by
  have hq := qtd_lies s x t
  have hm := qtd_more hq
  have h0 : s.size < (s ++ quo x ++ t).size ∧ byt (s ++ quo x ++ t) s.size = 34 := by
    refine ⟨by omega, ?_⟩
    have : byt (s ++ (quo x ++ t)) s.size = byt (quo x ++ t) 0 := by have := byt_append_right s (quo x ++ t) 0; rwa [Nat.add_zero] at this
    rw [ByteArray.append_assoc, this]
    unfold quo
    rw [ByteArray.append_assoc, ByteArray.append_assoc, byt_append_left _ _ _ (by rw [one_size]; omega), byt_one (by decide)]
  have hw : WordAt (s ++ quo x ++ t) s.size := by unfold WordAt; omega
  exact scn_quote hw h0.2 hq he
theorem gap_scn {T g : ByteArray} {p l : Nat} {sm : Bool} (hl : LiesAt T p g) (hg : ∀ i, i < g.size → byt g i = 32 ∨ byt g i = 9) : scn T p l sm = scn T (p + g.size) l sm := by
  have key : ∀ (m i : Nat), g.size - i ≤ m → i ≤ g.size → scn T (p + i) l sm = scn T (p + g.size) l sm := by
    intro m
    induction m with
    | zero => intro i hm hi; rw [show i = g.size by omega]
    | succ m ih =>
      intro i hm hi
      by_cases hlt : i < g.size
      · have hb : byt T (p + i) = byt g i := hl.2 i hlt
        have := hl.1
        rw [scn_blank (by omega) (by rw [hb]; exact hg i hlt), Nat.add_assoc]
        exact ih (i + 1) (by omega) (by omega)
      · rw [show i = g.size by omega]
  exact key g.size 0 (by omega) (Nat.zero_le _)
/-- The ends of a line: the text, how many lines, where the line ends. -/
def endT : Nat → ByteArray × Nat × Nat
  | 0 => (⟨#[10]⟩, 1, 0)
  | 1 => (⟨#[13, 10]⟩, 1, 0)
  | 2 => (⟨#[13]⟩, 1, 0)
  | 3 => (⟨#[32, 35, 32, 97, 32, 34, 255, 10]⟩, 1, 7)
  | 4 => (⟨#[35, 10]⟩, 1, 1)
  | 5 => (⟨#[10, 32, 10]⟩, 2, 0)
  | _ => (⟨#[9, 13, 13, 10]⟩, 2, 1)
theorem end_scn {T : ByteArray} {p l k : Nat} (hl : LiesAt T p (endT k).1) (hc : p + (endT k).1.size < T.size → byt T (p + (endT k).1.size) ≠ 10) :
    scn T p l true = ⟨4, ByteArray.empty, 0, p + (endT k).2.2, l, 0⟩ :: scn T (p + (endT k).1.size) (l + (endT k).2.1) false := by
  have hz := hl.1
  have hb := hl.2
  match k with
  | 0 =>
    have b0 : byt T p = 10 := hb 0 (by decide)
    have hz : p + 1 ≤ T.size := hz
    rw [scn_line (by omega) (.inl b0), show lineB T p = p + 1 by unfold lineB; rw [if_neg (by omega)]]
    rfl
  | 1 =>
    have b0 : byt T p = 13 := hb 0 (by decide)
    have b1 : byt T (p + 1) = 10 := hb 1 (by decide)
    have hz : p + 2 ≤ T.size := hz
    rw [scn_line (by omega) (.inr b0), show lineB T p = p + 2 by unfold lineB; rw [if_pos (by omega)]]
    rfl
  | 2 =>
    have b0 : byt T p = 13 := hb 0 (by decide)
    have hz : p + 1 ≤ T.size := hz
    have hc : p + 1 < T.size → byt T (p + 1) ≠ 10 := hc
    rw [scn_line (by omega) (.inr b0), show lineB T p = p + 1 by unfold lineB; rw [if_neg (by omega)]]
    rfl
  | 3 =>
    have b0 : byt T p = 32 := hb 0 (by decide)
    have b1 : byt T (p + 1) = 35 := hb 1 (by decide)
    have b2 : byt T (p + 2) = 32 := hb 2 (by decide)
    have b3 : byt T (p + 3) = 97 := hb 3 (by decide)
    have b4 : byt T (p + 4) = 32 := hb 4 (by decide)
    have b5 : byt T (p + 5) = 34 := hb 5 (by decide)
    have b6 : byt T (p + 6) = 255 := hb 6 (by decide)
    have b7 : byt T (p + 7) = 10 := hb 7 (by decide)
    have hz : p + 8 ≤ T.size := hz
    have hr : rem T (p + 1) = p + 7 := by
      rw [rem_on ⟨by omega, by omega, by omega⟩, rem_on (i := p + 1 + 1) ⟨by omega, by rw [show p + 1 + 1 = p + 2 by omega]; omega, by rw [show p + 1 + 1 = p + 2 by omega]; omega⟩, show p + 1 + 1 + 1 = p + 3 by omega,
        rem_on ⟨by omega, by omega, by omega⟩, show p + 3 + 1 = p + 4 by omega, rem_on ⟨by omega, by omega, by omega⟩, show p + 4 + 1 = p + 5 by omega, rem_on ⟨by omega, by omega, by omega⟩, show p + 5 + 1 = p + 6 by omega,
        rem_on ⟨by omega, by omega, by omega⟩, show p + 6 + 1 = p + 7 by omega, rem_end (by omega)]
    rw [scn_blank (by omega) (.inl b0), scn_rem (by omega) b1, hr, scn_line (by omega) (.inl b7), show lineB T (p + 7) = p + 8 by unfold lineB; rw [if_neg (by omega)]]
    rfl
  | 4 =>
    have b0 : byt T p = 35 := hb 0 (by decide)
    have b1 : byt T (p + 1) = 10 := hb 1 (by decide)
    have hz : p + 2 ≤ T.size := hz
    have hr : rem T p = p + 1 := by rw [rem_on ⟨by omega, by omega, by omega⟩, rem_end (by omega)]
    rw [scn_rem (by omega) b0, hr, scn_line (by omega) (.inl b1), show lineB T (p + 1) = p + 2 by unfold lineB; rw [if_neg (by omega)]]
    rfl
  | 5 =>
    have b0 : byt T p = 10 := hb 0 (by decide)
    have b1 : byt T (p + 1) = 32 := hb 1 (by decide)
    have b2 : byt T (p + 2) = 10 := hb 2 (by decide)
    have hz : p + 3 ≤ T.size := hz
    rw [scn_line (by omega) (.inl b0), show lineB T p = p + 1 by unfold lineB; rw [if_neg (by omega)], scn_blank (by omega) (.inl b1), show p + 1 + 1 = p + 2 by omega, scn_line (by omega) (.inl b2), show lineB T (p + 2) = p + 3 by unfold lineB; rw [if_neg (by omega)]]
    rfl
  | k + 6 =>
    have b0 : byt T p = 9 := hb 0 (show (0 : Nat) < 4 by decide)
    have b1 : byt T (p + 1) = 13 := hb 1 (show (1 : Nat) < 4 by decide)
    have b2 : byt T (p + 2) = 13 := hb 2 (show (2 : Nat) < 4 by decide)
    have b3 : byt T (p + 3) = 10 := hb 3 (show (3 : Nat) < 4 by decide)
    have hz : p + 4 ≤ T.size := hz
    rw [scn_blank (by omega) (.inr b0), scn_line (by omega) (.inr b1), show lineB T (p + 1) = p + 2 by unfold lineB; rw [if_neg (by rw [show p + 1 + 1 = p + 2 by omega]; omega)], scn_line (by omega) (.inr b2), show lineB T (p + 2) = p + 4 by unfold lineB; rw [if_pos (by rw [show p + 2 + 1 = p + 3 by omega]; omega)]]
    rfl
/-- What may stand behind: a word's end; anything but a line feed. -/
def condT (sm : Bool) (t : ByteArray) : Prop := t.size ≠ 0 → if sm = true then byt t 0 = 32 ∨ byt t 0 = 9 ∨ byt t 0 = 35 ∨ byt t 0 = 10 ∨ byt t 0 = 13 else byt t 0 ≠ 10
/-- A text that is scanned into L so far, whatever stands behind. -/
def Laid (s : ByteArray) (line : Nat) (sm : Bool) (L : List Fn) : Prop := ∀ t, condT sm t → scn (s ++ t) 0 1 false = L ++ scn (s ++ t) s.size line sm
theorem Laid.start : Laid ByteArray.empty 1 false [] := fun t _ => by rw [List.nil_append]; rfl
theorem Laid.stop {s : ByteArray} {line : Nat} {sm : Bool} {L : List Fn} (h : Laid s line sm L) : scn s 0 1 false = L ++ endF sm s.size line := by
  have := h ByteArray.empty (fun h => absurd rfl h)
  rw [ByteArray.append_empty] at this
  rw [this, scn_over (Nat.lt_irrefl _)]
theorem cond_end {s t : ByteArray} (h : condT true t) : endB (s ++ t) s.size = true := by
  by_cases h0 : t.size = 0
  · exact endB_yes (.inl (by rw [ByteArray.size_append]; omega))
  · have := h h0
    rw [if_pos rfl] at this
    have hb : byt (s ++ t) s.size = byt t 0 := by have := byt_append_right s t 0; rwa [Nat.add_zero] at this
    refine endB_yes (.inr ?_)
    rw [hb]
    exact this
theorem lies_mid (s w t : ByteArray) : LiesAt (s ++ w ++ t) s.size w := by rw [ByteArray.append_assoc]; exact LiesAt.mid s w t
/-- Behind a gap. -/
theorem Laid.gap {s g : ByteArray} {line : Nat} {sm : Bool} {L : List Fn} (h : Laid s line sm L) (hg : ∀ i, i < g.size → byt g i = 32 ∨ byt g i = 9) (h0 : sm = true → g.size ≠ 0) :
    ∀ t, (g.size = 0 → condT sm t) → scn (s ++ g ++ t) 0 1 false = L ++ scn (s ++ g ++ t) (s ++ g).size line sm := by
  intro t ht
  have hc : condT sm (g ++ t) := by
    intro hz
    by_cases hg0 : g.size = 0
    · have hge : g = ByteArray.empty := ext_byt hg0 (fun i hi => by omega)
      subst hge
      rw [ByteArray.empty_append] at hz ⊢
      exact ht hg0 hz
    · have hb : byt (g ++ t) 0 = byt g 0 := byt_append_left _ _ _ (by omega)
      have := hg 0 (by omega)
      rw [hb]
      split <;> omega
  have := h (g ++ t) hc
  rw [← ByteArray.append_assoc] at this
  rw [this, gap_scn (lies_mid s g t) hg, ByteArray.size_append]
/-- Behind a word. -/
theorem Laid.word {s g w : ByteArray} {line : Nat} {sm : Bool} {L : List Fn} {f : Fn} (h : Laid s line sm L) (hg : ∀ i, i < g.size → byt g i = 32 ∨ byt g i = 9) (h0 : sm = true → g.size ≠ 0) (hw0 : w.size ≠ 0) (hw1 : byt w 0 ≠ 10)
    (hW : ∀ t, condT true t → scn (s ++ g ++ w ++ t) (s ++ g).size line sm = f :: scn (s ++ g ++ w ++ t) (s ++ g ++ w).size line true) : Laid (s ++ g ++ w) line true (L ++ [f]) := by
  intro t ht
  have h1 := h.gap hg h0 (w ++ t) (fun hg0 hz => by
    have hb : byt (w ++ t) 0 = byt w 0 := byt_append_left _ _ _ (by omega)
    have hsm : sm = false := by cases sm with
      | false => rfl
      | true => exact absurd hg0 (h0 rfl)
    rw [hsm, if_neg (by simp), hb]
    exact hw1)
  rw [← ByteArray.append_assoc] at h1
  rw [h1, hW t ht, List.append_assoc]
  rfl
/-- Behind a line's end. -/
theorem Laid.line {s : ByteArray} {line k : Nat} {L : List Fn} (h : Laid s line true L) : Laid (s ++ (endT k).1) (line + (endT k).2.1) false (L ++ [⟨4, ByteArray.empty, 0, s.size + (endT k).2.2, line, 0⟩]) := by
  intro t ht
  have he : condT true ((endT k).1 ++ t) := by
    intro _
    have h0 : (endT k).1.size ≠ 0 := by
      match k with
      | 0 => decide
      | 1 => decide
      | 2 => decide
      | 3 => decide
      | 4 => decide
      | 5 => decide
      | k + 6 => exact (by decide : (endT 6).1.size ≠ 0)
    rw [if_pos rfl, byt_append_left _ _ _ (by omega)]
    match k with
    | 0 => decide
    | 1 => decide
    | 2 => decide
    | 3 => decide
    | 4 => decide
    | 5 => decide
    | k + 6 => exact (by decide : byt (endT 6).1 0 = 32 ∨ byt (endT 6).1 0 = 9 ∨ byt (endT 6).1 0 = 35 ∨ byt (endT 6).1 0 = 10 ∨ byt (endT 6).1 0 = 13)
  have h1 := h _ he
  rw [← ByteArray.append_assoc] at h1
  rw [h1, end_scn (lies_mid s _ t) (fun hlt => by
    have hb : byt (s ++ (endT k).1 ++ t) (s.size + (endT k).1.size) = byt t 0 := by
      have := byt_append_right (s ++ (endT k).1) t 0
      rwa [Nat.add_zero, ByteArray.size_append] at this
    rw [hb]
    have hz : t.size ≠ 0 := by rw [ByteArray.size_append, ByteArray.size_append] at hlt; omega
    have := ht hz
    rwa [if_neg (by simp)] at this), List.append_assoc, ByteArray.size_append]
  rfl
end Go.Proofs.YtbmapellhcdipaaDoor
namespace Go.Proofs.YtbmapellhcdipaaDoor
open Go.RowKit Go.Lib
set_option linter.unusedVariables false
set_option linter.unusedSimpArgs false

theorem dec_digs : ∀ (u : Nat) (c : UInt8), c ∈ decDigits u → 48 ≤ c.toNat ∧ c.toNat ≤ 57 := by
  intro u
  induction u using Nat.strongRecOn with
  | ind u ih =>
    intro c hc
    rw [decDigits] at hc
    split at hc
    · rename_i h
      simp only [List.mem_singleton] at hc
      subst hc
      rw [u8_48 u h]
      omega
    · rename_i h
      rcases List.mem_append.1 hc with hc | hc
      · exact ih (u / 10) (by omega) c hc
      · simp only [List.mem_singleton] at hc
        subst hc
        rw [u8_48 (u % 10) (by omega)]
        omega
/-- A number's text. -/
def itoaB (v : Int) : ByteArray := ⟨(itoa v).toArray⟩
theorem itoaB_list (v : Int) : (itoaB v).data.toList = itoa v := by simp [itoaB]
theorem numT_itoa {v : Int} (hv : -9223372036854775808 ≤ v ∧ v < 9223372036854775808) : numT (itoa v) = some v := by
  by_cases hn : v < 0
  · have hi : itoa v = 45 :: decDigits v.natAbs := by unfold itoa; rw [if_pos hn]
    rw [hi]
    have hna : 1 ≤ v.natAbs := by omega
    cases hd : decDigits v.natAbs with
    | nil => exact absurd hd (dec_ne _)
    | cons c r =>
      have hl := dec_len_lt (u := v.natAbs) (by omega)
      have hf := dfold_dec v.natAbs
      have hh := dec_head _ hna c r hd
      rw [hd] at hl hf
      show (if (45 : UInt8).toNat = 45 then numO true (c :: r) else numO false (45 :: c :: r)) = some v
      rw [if_pos (by decide), numO_of hl (fun h => hh h.1) hf (.inl ⟨rfl, by omega⟩), if_pos rfl]
      congr 1
      omega
  · have hi : itoa v = decDigits v.toNat := by unfold itoa; rw [if_neg hn]
    rw [hi]
    cases hd : decDigits v.toNat with
    | nil => exact absurd hd (dec_ne _)
    | cons c r =>
      have hl := dec_len_lt (u := v.toNat) (by omega)
      have hf := dfold_dec v.toNat
      have hh : ¬ (c.toNat = 48 ∧ (r ≠ [] ∨ false = true)) := by
        rintro ⟨a1, a2⟩
        by_cases hz : v.toNat < 10
        · rw [decDigits, dif_pos hz] at hd
          injection hd with _ hd
          simp [← hd] at a2
        · exact dec_head _ (by omega) c r hd a1
      have hdig := dec_digs v.toNat c (by rw [hd]; simp)
      rw [hd] at hl hf
      show (if c.toNat = 45 then numO true r else numO false (c :: r)) = some v
      rw [if_neg (by omega), numO_of hl hh hf (.inr ⟨rfl, by omega⟩), if_neg (by simp)]
      congr 1
      omega
theorem itoa_shape (v : Int) : ∃ c r, (∀ x ∈ c :: r, 48 ≤ x.toNat ∧ x.toNat ≤ 57) ∧ ((v < 0 ∧ itoa v = 45 :: c :: r ∧ decDigits v.natAbs = c :: r) ∨ (0 ≤ v ∧ itoa v = c :: r ∧ decDigits v.toNat = c :: r)) := by
  by_cases hn : v < 0
  · cases hd : decDigits v.natAbs with
    | nil => exact absurd hd (dec_ne _)
    | cons c r => exact ⟨c, r, fun x hx => dec_digs v.natAbs x (by rw [hd]; exact hx), .inl ⟨hn, by unfold itoa; rw [if_pos hn, hd], rfl⟩⟩
  · cases hd : decDigits v.toNat with
    | nil => exact absurd hd (dec_ne _)
    | cons c r => exact ⟨c, r, fun x hx => dec_digs v.toNat x (by rw [hd]; exact hx), .inr ⟨by omega, by unfold itoa; rw [if_neg hn, hd], rfl⟩⟩
theorem good_ascii {w : ByteArray} (h : ∀ i, i < w.size → byt w i < 128) : Good w 0 := by
  intro j hj
  have hlt : ∀ (m i : Nat), w.size - i ≤ m → ∀ j ∈ cut w i, j < w.size := by
    intro m
    induction m with
    | zero => intro i hm j hj; rw [cut_end (by omega)] at hj; cases hj
    | succ m ih =>
      intro i hm j hj
      by_cases hi : i < w.size
      · rw [cut_step hi] at hj
        rcases List.mem_cons.1 hj with rfl | hj
        · exact hi
        · have := dec_n hi
          exact ih _ (by omega) j hj
      · rw [cut_end hi] at hj; cases hj
  have hjl := hlt w.size 0 (by omega) j hj
  have hr : RuneAt w j (byt w j) 1 := ⟨by omega, .inl ⟨rfl, h j hjl, rfl⟩⟩
  rw [hr.wid]
  omega
theorem itoa_byt (v : Int) (i : Nat) : byt (itoaB v) i = ((itoa v)[i]?.getD 0).toNat := by unfold itoaB; exact mk_byt _ _
theorem itoa_size (v : Int) : (itoaB v).size = (itoa v).length := by simp [itoaB, ByteArray.size]
theorem itoa_fine {v : Int} (hv : -9223372036854775808 ≤ v ∧ v < 9223372036854775808) : fineW (itoaB v) ∧ (itoaB v).size ≠ 0 ∧ (itoaB v).size ≤ 20 ∧ numB (itoaB v) = true ∧ numT (itoaB v).data.toList = some v ∧ byt (itoaB v) 0 ≠ 10 := by
  obtain ⟨c, r, hd, hs⟩ := itoa_shape v
  have hall : ∀ i, i < (itoaB v).size → byt (itoaB v) i = 45 ∨ (48 ≤ byt (itoaB v) i ∧ byt (itoaB v) i ≤ 57) := by
    intro i hi
    rw [itoa_byt]
    rw [itoa_size] at hi
    rcases hs with ⟨_, hs, _⟩ | ⟨_, hs, _⟩
    · rw [hs] at hi ⊢
      rcases i with _ | i
      · exact .inl rfl
      · right
        rw [List.getElem?_cons_succ, List.getElem?_eq_getElem (by simpa using hi)]
        exact hd _ (List.getElem_mem _)
    · rw [hs] at hi ⊢
      right
      rw [List.getElem?_eq_getElem hi]
      exact hd _ (List.getElem_mem _)
  have hlen : (itoa v).length ≤ 20 := by
    rcases hs with ⟨hn, hs, hq⟩ | ⟨hn, hs, hq⟩
    · have := dec_len_lt (u := v.natAbs) (by omega)
      rw [hs, List.length_cons, ← hq]
      omega
    · have := dec_len_lt (u := v.toNat) (by omega)
      rw [hs, ← hq]
      omega
  have hc := hd c (by simp)
  have h0 : (itoaB v).size ≠ 0 := by
    rw [itoa_size]
    rcases hs with ⟨_, hs, _⟩ | ⟨_, hs, _⟩ <;> rw [hs] <;> simp
  refine ⟨⟨fun i hi => by have := hall i hi; omega, good_ascii fun i hi => by have := hall i hi; omega⟩, h0, by rw [itoa_size]; exact hlen, ?_, by rw [itoaB_list]; exact numT_itoa hv, by have := hall 0 (by omega); omega⟩
  unfold numB
  rcases hs with ⟨_, hs, _⟩ | ⟨_, hs, _⟩
  · have b0 : byt (itoaB v) 0 = 45 := by rw [itoa_byt, hs]; rfl
    have b1 : byt (itoaB v) 1 = c.toNat := by rw [itoa_byt, hs]; rfl
    rw [if_pos b0, b1]
    exact decide_eq_true hc
  · have b0 : byt (itoaB v) 0 = c.toNat := by rw [itoa_byt, hs]; rfl
    rw [if_neg (by rw [b0]; omega), b0]
    exact decide_eq_true hc
theorem good_badAt {x : ByteArray} (h : badAt x < 0) : Good x 0 := by
  intro j hj hw
  unfold badAt at h
  cases hf : (cut x 0).find? (fun j => wid x j == 0) with
  | some j => rw [hf] at h; simp only at h; omega
  | none =>
    have := List.find?_eq_none.1 hf j hj
    simp [hw] at this
/-- What the law calls plain. -/
def plP (x : ByteArray) : Prop := fineW x ∧ x.size ≠ 0 ∧ numB x = false
theorem rem_endT (k : Nat) (hk : k < 7) : rem (endT k).1 0 = (endT k).2.2 := by
  match k, hk with
  | 0, _ => exact rem_end (by decide)
  | 1, _ => exact rem_end (by decide)
  | 2, _ => exact rem_end (by decide)
  | 3, _ =>
    rw [rem_on (by decide), rem_on (by decide), rem_on (by decide), rem_on (by decide), rem_on (by decide), rem_on (by decide), rem_on (by decide), rem_end (by decide)]
    rfl
  | 4, _ =>
    rw [rem_on (by decide), rem_end (by decide)]
    rfl
  | 5, _ => exact rem_end (by decide)
  | 6, _ =>
    rw [rem_on (by decide), rem_end (by decide)]
    rfl
end Go.Proofs.YtbmapellhcdipaaDoor
namespace Go.Proofs.YtbmapellhcdipaaDoor
open Go.RowKit
set_option linter.unusedVariables false
set_option linter.unusedSimpArgs false

/-- A gap. -/
def gapP (must : Bool) (g : ByteArray) : Prop := g.size ≤ 2 ∧ (∀ i, i < g.size → byt g i = 32 ∨ byt g i = 9) ∧ (must = true → g.size ≠ 0)
theorem gap_0 : gapP false ⟨#[]⟩ := ⟨by decide, fun i hi => absurd hi (Nat.not_lt_zero i), by simp⟩
theorem gap_1 (m : Bool) : gapP m ⟨#[32]⟩ := ⟨by decide, fun i hi => by have : i < 1 := hi; obtain rfl : i = 0 := by omega
                                                                        decide, fun _ => by decide⟩
theorem gap_2 (m : Bool) : gapP m ⟨#[9]⟩ := ⟨by decide, fun i hi => by have : i < 1 := hi; obtain rfl : i = 0 := by omega
                                                                       decide, fun _ => by decide⟩
theorem gap_3 (m : Bool) : gapP m ⟨#[32, 32]⟩ := ⟨by decide, fun i hi => by have : i < 2 := hi; obtain rfl | rfl : i = 0 ∨ i = 1 := by omega
                                                                            all_goals decide, fun _ => by decide⟩
theorem gap_4 (m : Bool) : gapP m ⟨#[32, 9]⟩ := ⟨by decide, fun i hi => by have : i < 2 := hi; obtain rfl | rfl : i = 0 ∨ i = 1 := by omega
                                                                           all_goals decide, fun _ => by decide⟩
theorem tmod_bd (n : Int) {d : Int} (hd : 0 < d) : -d < n.tmod d ∧ n.tmod d < d := ⟨Int.lt_tmod_of_pos n hd, Int.tmod_lt_of_pos n hd⟩
set_option maxHeartbeats 16000000 in
set_option maxRecDepth 100000 in
theorem gap_any (n : Int) (must : Bool) (w : World) (hn : -9223372036854775808 ≤ n ∧ n < 9223372036854775808) : Calls Tryd.prog 20 #[.int .i64 n, .bool must] w fun e w' => ∃ g, e = .returned (.string g) ∧ gapP must g ∧ Keep [] w w' := by
  have h5 := tmod_bd n (d := 5) (by decide)
  go_enter Tryd.func20, Tryd.ntmps20
  go_upto_region 3 with (fail)
  obtain ⟨b, hb⟩ : ∃ b, b = w.heap.size := ⟨_, rfl⟩
  obtain ⟨w1, hw1⟩ : ∃ w1, w1 = w.alloc (.cells #[.string ⟨#[]⟩, .string ⟨#[32]⟩, .string ⟨#[9]⟩, .string ⟨#[32, 32]⟩, .string ⟨#[32, 9]⟩] 9) := ⟨_, rfl⟩
  have hb1 : w1.heap[b]? = some (.cells #[.string ⟨#[]⟩, .string ⟨#[32]⟩, .string ⟨#[9]⟩, .string ⟨#[32, 32]⟩, .string ⟨#[32, 9]⟩] 9 (0, 0)) := by rw [hw1, hb]; exact World.alloc_heap_new w _
  have hk1 : Keep [] w w1 := by rw [hw1]; exact (Keep.refl _ _).alloc _
  rw [← hw1, ← hb]
  have HK := Lib.hid hk1
  have q0 := cell_of_block hb1 0
  have q1 := cell_of_block hb1 1
  have q2 := cell_of_block hb1 2
  have q3 := cell_of_block hb1 3
  have q4 := cell_of_block hb1 4
  simp at q0 q1 q2 q3 q4
  clear hw1 hb hb1 hk1 hn
  generalize n.tmod 5 = m at *
  have hc : m = -4 ∨ m = -3 ∨ m = -2 ∨ m = -1 ∨ m = 0 ∨ m = 1 ∨ m = 2 ∨ m = 3 ∨ m = 4 := by omega
  clear h5
  rcases hc with rfl | rfl | rfl | rfl | rfl | rfl | rfl | rfl | rfl
  all_goals cases must
  all_goals
    go_wp2
    go_ret
    first
      | exact ⟨_, rfl, gap_0, HK.out⟩
      | exact ⟨_, rfl, gap_1 _, HK.out⟩
      | exact ⟨_, rfl, gap_2 _, HK.out⟩
      | exact ⟨_, rfl, gap_3 _, HK.out⟩
      | exact ⟨_, rfl, gap_4 _, HK.out⟩
end Go.Proofs.YtbmapellhcdipaaDoor
namespace Go.Proofs.YtbmapellhcdipaaDoor
open Go.RowKit
set_option linter.unusedVariables false
set_option linter.unusedSimpArgs false

set_option maxHeartbeats 16000000 in
set_option maxRecDepth 100000 in
theorem end_any (n : Int) (w : World) (hn : -9223372036854775808 ≤ n ∧ n < 9223372036854775808) : Calls Tryd.prog 23 #[.int .i64 n] w fun e w' => ∃ k : Nat, k < 7 ∧ e = .returned (.tuple #[.string (endT k).1, .int .i64 ((endT k).2.1 : Nat)]) ∧ Keep [] w w' := by
  have h5 := tmod_bd n (d := 7) (by decide)
  go_enter Tryd.func23, Tryd.ntmps23
  go_upto_region 4 with (fail)
  obtain ⟨b, hb⟩ : ∃ b, b = w.heap.size := ⟨_, rfl⟩
  obtain ⟨w0, hw0⟩ : ∃ w0, w0 = w.alloc (.cells #[.string ⟨#[10]⟩, .string ⟨#[13, 10]⟩, .string ⟨#[13]⟩, .string ⟨#[32, 35, 32, 97, 32, 34, 255, 10]⟩, .string ⟨#[35, 10]⟩, .string ⟨#[10, 32, 10]⟩, .string ⟨#[9, 13, 13, 10]⟩] 9) := ⟨_, rfl⟩
  obtain ⟨w1, hw1⟩ : ∃ w1, w1 = w0.alloc (.cells #[.int .i64 1, .int .i64 1, .int .i64 1, .int .i64 1, .int .i64 1, .int .i64 2, .int .i64 2] 3) := ⟨_, rfl⟩
  have hb0 : w0.heap[b]? = some (.cells #[.string ⟨#[10]⟩, .string ⟨#[13, 10]⟩, .string ⟨#[13]⟩, .string ⟨#[32, 35, 32, 97, 32, 34, 255, 10]⟩, .string ⟨#[35, 10]⟩, .string ⟨#[10, 32, 10]⟩, .string ⟨#[9, 13, 13, 10]⟩] 9 (0, 0)) := by rw [hw0, hb]; exact World.alloc_heap_new w _
  have hs0 : w0.heap.size = b + 1 := by rw [hw0, hb]; simp
  have hk0 : Keep [] w w0 := by rw [hw0]; exact (Keep.refl _ _).alloc _
  have hk1 : Keep [] w0 w1 := by rw [hw1]; exact (Keep.refl _ _).alloc _
  have hb1 : w1.heap[b + 1]? = some (.cells #[.int .i64 1, .int .i64 1, .int .i64 1, .int .i64 1, .int .i64 1, .int .i64 2, .int .i64 2] 3 (0, 0)) := by rw [hw1, ← hs0]; exact World.alloc_heap_new w0 _
  have hb2 := hk1.at_ hb0 (by simp)
  rw [← hw0, ← hw1, ← hb]
  have HK := Lib.hid (hk0.trans0 hk1)
  clear hw0 hw1 hb hb0 hs0 hk0 hk1 hn
  generalize n.tmod 7 = m at *
  have hc : ∃ k : Nat, k < 7 ∧ ((m < 0 ∧ m + 7 = (k : Int)) ∨ m = (k : Int)) := by
    by_cases h : m < 0
    · exact ⟨(m + 7).toNat, by omega, .inl ⟨h, by omega⟩⟩
    · exact ⟨m.toNat, by omega, .inr (by omega)⟩
  obtain ⟨k, hk, hm⟩ := hc
  have hmw : wrap64 (m + 7) = m + 7 := by unfold wrap64; omega
  have hmw2 : IntKind.i64.wrap (m + 7) = m + 7 := by rw [IntKind.wrap_i64]; omega
  have hfin : ∀ (c1 : ByteArray) (c2 : Int), w1.cell? ⟨b, k, none⟩ = some (.string c1) → w1.cell? ⟨b + 1, k, none⟩ = some (.int .i64 c2) → c1 = (endT k).1 ∧ c2 = ((endT k).2.1 : Nat) := by
    intro c1 c2 h1 h2
    rw [cell_of_block hb2] at h1
    rw [cell_of_block hb1] at h2
    match k, hk with
    | 0, _ => simp at h1 h2; exact ⟨h1.symm, h2.symm⟩
    | 1, _ => simp at h1 h2; exact ⟨h1.symm, h2.symm⟩
    | 2, _ => simp at h1 h2; exact ⟨h1.symm, h2.symm⟩
    | 3, _ => simp at h1 h2; exact ⟨h1.symm, h2.symm⟩
    | 4, _ => simp at h1 h2; exact ⟨h1.symm, h2.symm⟩
    | 5, _ => simp at h1 h2; exact ⟨h1.symm, h2.symm⟩
    | 6, _ => simp at h1 h2; exact ⟨h1.symm, h2.symm⟩
  have hcells : w1.cell? ⟨b, k, none⟩ = some (.string (endT k).1) ∧ w1.cell? ⟨b + 1, k, none⟩ = some (.int .i64 ((endT k).2.1 : Nat)) := by
    rw [cell_of_block hb2, cell_of_block hb1]
    match k, hk with
    | 0, _ => exact ⟨rfl, rfl⟩
    | 1, _ => exact ⟨rfl, rfl⟩
    | 2, _ => exact ⟨rfl, rfl⟩
    | 3, _ => exact ⟨rfl, rfl⟩
    | 4, _ => exact ⟨rfl, rfl⟩
    | 5, _ => exact ⟨rfl, rfl⟩
    | 6, _ => exact ⟨rfl, rfl⟩
  obtain ⟨q1, q2⟩ := hcells
  clear hb1 hb2 hfin
  have hmk : m < 0 → wrap64 (m + 7) = (k : Int) := fun h => by
    rcases hm with ⟨_, h2⟩ | h2
    · rw [hmw, h2]
    · omega
  have hmk2 : m < 0 → IntKind.i64.wrap (m + 7) = (k : Int) := fun h => by
    rcases hm with ⟨_, h2⟩ | h2
    · rw [hmw2, h2]
    · omega
  clear hmw hmw2
  have HKL := Lib.hid hk
  obtain ⟨c1, hc1⟩ : ∃ c1, c1 = (endT k).1 := ⟨_, rfl⟩
  obtain ⟨c2, hc2⟩ : ∃ c2, c2 = (endT k).2.1 := ⟨_, rfl⟩
  rw [← hc1] at q1
  rw [← hc2] at q2
  have HC1 := Lib.hid hc1
  have HC2 := Lib.hid hc2
  have i1 := dec_lt_t (show (k : Int) < 7 by omega)
  have i2 := dec_ltn_t hk
  have i3 : (k : Int) < 7 := by omega
  clear hc1 hc2 h5
  by_cases h0 : m < 0
  · have g1 := dec_lt_t h0
    have g2 := hmk h0
    have g3 := hmk2 h0
    clear hmk hmk2 hm h0
    go_upto_region 6 with (fail)
    refine (wpIn_wide (n := 0)).1 ?_
    refine wpIn_fix (.inl rfl) 9 [] (fun _ => w1.drew) (fun w' => w'.cell? ⟨b, k, none⟩ = some (.string c1) ∧ w'.cell? ⟨b + 1, k, none⟩ = some (.int .i64 (c2 : Nat)))
      [.slice (some ⟨b, 0, none⟩) 7 7, .int .i64 (k : Nat), .pointer (some ⟨b, k, none⟩), .string c1, .slice (some ⟨b + 1, 0, none⟩) 7 7, .int .i64 (k : Nat), .pointer (some ⟨b + 1, k, none⟩), .int .i64 (c2 : Nat), .string c1]
      (by kernel_rfl) (by kernel_rfl) rfl rfl rfl (fun _ _ => ⟨q1, q2⟩) ?rest6
    case rest6 =>
      intro A hA
      simp only [putVals, List.take, Act.put, List.setIfInBounds_toArray, List.set_cons_succ, List.set_cons_zero] at hA
      subst hA
      refine ⟨?_, fixWrites_nil, ?_⟩
      · iterate 9
          refine fixReads_cons rfl ?_ ?_
          · intro w1 hw1 K Q hK
            obtain ⟨x1, x2⟩ := hw1
            go_simp
            exact hK
        exact fixReads_nil
      · simp only [List.drop]
        gi_wp2
        go_wp2
        go_ret2
        exact ⟨k, HKL.out, by rw [← HC1.out, ← HC2.out]; rfl, HK.out.drew⟩
  · have hmk3 : m = (k : Int) := by
      rcases hm with ⟨h1, _⟩ | h2
      · exact absurd h1 h0
      · exact h2
    subst hmk3
    have g1 := dec_lt_f h0
    clear hmk hmk2 hm h0
    go_upto_region 6 with (fail)
    refine (wpIn_wide (n := 0)).1 ?_
    refine wpIn_fix (.inl rfl) 9 [] (fun _ => w1.drew) (fun w' => w'.cell? ⟨b, k, none⟩ = some (.string c1) ∧ w'.cell? ⟨b + 1, k, none⟩ = some (.int .i64 (c2 : Nat)))
      [.slice (some ⟨b, 0, none⟩) 7 7, .int .i64 (k : Nat), .pointer (some ⟨b, k, none⟩), .string c1, .slice (some ⟨b + 1, 0, none⟩) 7 7, .int .i64 (k : Nat), .pointer (some ⟨b + 1, k, none⟩), .int .i64 (c2 : Nat), .string c1]
      (by kernel_rfl) (by kernel_rfl) rfl rfl rfl (fun _ _ => ⟨q1, q2⟩) ?rest6
    case rest6 =>
      intro A hA
      simp only [putVals, List.take, Act.put, List.setIfInBounds_toArray, List.set_cons_succ, List.set_cons_zero] at hA
      subst hA
      refine ⟨?_, fixWrites_nil, ?_⟩
      · iterate 9
          refine fixReads_cons rfl ?_ ?_
          · intro w1 hw1 K Q hK
            obtain ⟨x1, x2⟩ := hw1
            go_simp
            exact hK
        exact fixReads_nil
      · simp only [List.drop]
        gi_wp2
        go_wp2
        go_ret2
        exact ⟨k, HKL.out, by rw [← HC1.out, ← HC2.out]; rfl, HK.out.drew⟩
theorem lcut_any (s : ByteArray) (w : World) (hz : s.size ≤ 1000000) : Calls Tryd.prog 24 #[.string s] w fun e w' => e = .returned (.int .i64 (rem s 0 : Nat)) ∧ w = w' := by
  go_enter Tryd.func24, Tryd.ntmps24
  go_wp2
  go_loopw [3] (fun av wx => ∃ i : Nat, av = .int .i64 i ∧ i ≤ s.size ∧ rem s 0 = rem s i ∧ w = wx) (fun av _ => s.size - (intOf av).toNat)
  case atStart => exact ⟨0, rfl, by omega, rfl, rfl⟩
  case round =>
    obtain ⟨i, rfl, hi, hr, rfl⟩ := hrel
    have HRR := Lib.hid hr; clear hr
    by_cases his : i < s.size
    · have g1 := dec_lt_t (show (i : Int) < (s.size : Int) by omega)
      have g2 := dec_ltn_t his
      have hix := byte_z (s := s) (i := i) (z := (i : Nat)) his rfl
      obtain ⟨c, hcc⟩ : ∃ c : Int, c = ((byt s i : Nat) : Int) := ⟨_, rfl⟩
      rw [← hcc] at hix
      by_cases e1 : byt s i = 10
      · have HE := Lib.hid (HRR.out.trans (rem_end (fun h => h.2.1 e1)))
        have g3 : (c == 10) = true := (ar4 hcc).1 e1
        clear e1 hcc
        go_wp2
        go_ret
        exact ⟨by rw [HE.out]; rfl, rfl⟩
      · have g3 : (c == 10) = false := ((ar4 hcc).2 e1).1
        by_cases e2 : byt s i = 13
        · have HE := Lib.hid (HRR.out.trans (rem_end (fun h => h.2.2 e2)))
          have g4 : (c == 13) = true := (ar4 hcc).1 e2
          clear e1 e2 hcc
          go_wp2
          go_ret
          exact ⟨by rw [HE.out]; rfl, rfl⟩
        · have g4 : (c == 13) = false := ((ar4 hcc).2 e2).1
          have HE := Lib.hid (HRR.out.trans (rem_on ⟨his, e1, e2⟩))
          clear e1 e2 hcc
          go_wp2
          go_roundw
          case rel => exact ⟨i + 1, by go_num, by omega, HE.out, by trivial⟩
          case measure => simp [intOf]; omega
    · have g1 := dec_lt_f (show ¬ (i : Int) < (s.size : Int) by omega)
      have g2 := dec_ltn_f his
      have HE := Lib.hid (HRR.out.trans (rem_end (fun h => his h.1)))
      have his2 : i = s.size := by omega
      subst his2
      clear his
      go_wp2
      go_ret
      exact ⟨by rw [HE.out]; rfl, rfl⟩
end Go.Proofs.YtbmapellhcdipaaDoor
namespace Go.Proofs.YtbmapellhcdipaaDoor
open Go.RowKit
set_option linter.unusedVariables false
set_option linter.unusedSimpArgs false

/-- Between the digits. -/
def DigI (v n : Int) (s : ByteArray) : Prop := -9223372036854775808 ≤ n ∧ n < 9223372036854775808 ∧ (v < 0 → n ≤ 0) ∧ (0 < v → 0 ≤ n) ∧ s.size ≤ 19 ∧ ((n ≠ 0 ∧ Lib.decDigits v.natAbs = Lib.decDigits n.natAbs ++ s.data.toList) ∨ (n = 0 ∧ Lib.decDigits v.natAbs = s.data.toList))

theorem conv_dig (w : World) (c : Nat) (hc : c < 10) : (convert 30 9 (.slice (some ⟨w.heap.size, 0, none⟩) 1 1)).run Tryd.prog (w.alloc (.cells #[.int .u8 (48 + (c : Int))] 5)) = .ok (.string (one (48 + c))) (w.alloc (.cells #[.int .u8 (48 + (c : Int))] 5)) := by
  refine conv_own (base := w.heap.size) ?_
  have hs : (one (48 + c)).size = 1 := one_size _
  have hcs : Lib.strCells (one (48 + c)) = [.int .u8 (48 + (c : Int))] := by
    simp [Lib.strCells, one]
    omega
  rw [hs, hcs]
  exact ⟨rfl, .inr ⟨_, 1, _, rfl, Nat.le_refl _, World.alloc_heap_new w _, Nat.le_refl _, by decide, rfl, rfl⟩⟩
theorem DigI.next {v n q : Int} {s : ByteArray} {c : Nat} (hv : -9223372036854775808 ≤ v ∧ v < 9223372036854775808) (h : DigI v n s) (h0 : n ≠ 0) (hc : c = n.natAbs % 10 ∧ q.natAbs = n.natAbs / 10 ∧ (v < 0 → q ≤ 0) ∧ (0 < v → 0 ≤ q) ∧ -9223372036854775808 ≤ q ∧ q < 9223372036854775808) : DigI v q (one (48 + c) ++ s) := by
  obtain ⟨_, _, h1, h2, h3, h4⟩ := h
  obtain ⟨c1, c2, c3, c4, c5, c6⟩ := hc
  have hd : Lib.decDigits v.natAbs = Lib.decDigits n.natAbs ++ s.data.toList := by
    rcases h4 with h4 | h4
    · exact h4.2
    · exact absurd h4.1 h0
  have hl : (one (48 + c) ++ s).data.toList = UInt8.ofNat (48 + c) :: s.data.toList := by simp [one]
  have key : (q ≠ 0 ∧ Lib.decDigits v.natAbs = Lib.decDigits q.natAbs ++ (one (48 + c) ++ s).data.toList) ∨ (q = 0 ∧ Lib.decDigits v.natAbs = (one (48 + c) ++ s).data.toList) := by
    by_cases h10 : n.natAbs < 10
    · right
      refine ⟨by omega, ?_⟩
      rw [hd, hl, Lib.decDigits, dif_pos h10, show c = n.natAbs by omega]
      rfl
    · left
      refine ⟨by omega, ?_⟩
      rw [hd, hl, Lib.decDigits, dif_neg h10, c1, c2, List.append_assoc]
      rfl
  refine ⟨c5, c6, c3, c4, ?_, key⟩
  have hlen := dec_len_lt (u := v.natAbs) (by omega)
  have hz : (one (48 + c) ++ s).size = (one (48 + c) ++ s).data.toList.length := (Array.length_toList).symm
  rw [hz]
  rcases key with ⟨_, hk⟩ | ⟨_, hk⟩
  · rw [hk, List.length_append] at hlen; omega
  · rw [hk] at hlen; omega
theorem tdm_pos {n : Int} (h : 0 ≤ n) : n.tmod 10 = n % 10 ∧ n.tdiv 10 = n / 10 := ⟨Int.tmod_eq_emod_of_nonneg h, Int.tdiv_eq_ediv_of_nonneg h⟩
theorem tdm_neg {n : Int} (h : n < 0) : n.tmod 10 = -((-n) % 10) ∧ n.tdiv 10 = -((-n) / 10) := by
  obtain ⟨m, rfl⟩ : ∃ m, n = -m := ⟨-n, by omega⟩
  rw [Int.neg_tmod, Int.neg_tdiv, Int.neg_neg]
  have := tdm_pos (n := m) (by omega)
  rw [this.1, this.2]
  exact ⟨rfl, rfl⟩
set_option maxHeartbeats 16000000 in
set_option maxRecDepth 100000 in
theorem digits_any (v : Int) (w : World) (hv : -9223372036854775808 ≤ v ∧ v < 9223372036854775808) : Calls Tryd.prog 21 #[.int .i64 v] w fun e w' => e = .returned (.string (itoaB v)) ∧ Keep [] w w' := by
  go_enter Tryd.func21, Tryd.ntmps21
  by_cases h0 : v = 0
  · subst h0
    go_wp2
    go_ret
    exact ⟨by kernel_rfl, Keep.refl _ _⟩
  · have g1 : (v == 0) = false := by simpa using h0
    obtain ⟨bl, hbl⟩ : ∃ bl : Bool, decide (v < 0) = bl := ⟨_, rfl⟩
    have HBL := Lib.hid hbl
    have HV := Lib.hid hv
    have H0 := Lib.hid h0
    clear hv h0
    go_upto_region 5 with (fail)
    clear hbl g1
    go_loopw [0, 3, 5] (fun nv sv _ wx => ∃ (n : Int) (s : ByteArray), nv = .int .i64 n ∧ sv = .string s ∧ DigI v n s ∧ Keep [] w wx) (fun nv _ _ _ => (intOf nv).natAbs)
    case atStart => exact ⟨v, ByteArray.empty, rfl, rfl, ⟨HV.out.1, HV.out.2, fun h => Int.le_of_lt h, fun h => Int.le_of_lt h, by decide, .inl ⟨H0.out, by simp⟩⟩, Keep.refl _ _⟩
    case round =>
      obtain ⟨n, s, rfl, rfl, hI, hk⟩ := hrel
      have HI := Lib.hid hI
      have HK := Lib.hid hk
      have hss : s.size ≤ 19 := hI.2.2.2.2.1
      clear hI hk
      by_cases hn0 : n = 0
      · have g1 : (n != 0) = false := by simpa using hn0
        have hfin : Lib.decDigits v.natAbs = s.data.toList := by
          rcases HI.out.2.2.2.2.2 with ⟨h, _⟩ | ⟨_, h⟩
          · exact absurd hn0 h
          · exact h
        have HF := Lib.hid hfin
        clear hfin hn0
        cases bl with
        | true =>
          have hb := of_decide_eq_true HBL.out
          have hi : itoaB v = ⟨#[45]⟩ ++ s := by
            have : (Lib.itoa v) = 45 :: Lib.decDigits v.natAbs := by unfold Lib.itoa; rw [if_pos hb]
            refine ByteArray.ext (Array.toList_inj.1 ?_)
            rw [itoaB_list, this, HF.out]
            simp
          have HII := Lib.hid hi
          clear hi hb
          go_wp2
          go_ret
          exact ⟨by rw [HII.out]; rfl, HK.out⟩
        | false =>
          have hb := of_decide_eq_false HBL.out
          have hi : itoaB v = s := by
            have : (Lib.itoa v) = Lib.decDigits v.natAbs := by unfold Lib.itoa; rw [if_neg hb]; congr 1; omega
            refine ByteArray.ext (Array.toList_inj.1 ?_)
            rw [itoaB_list, this, HF.out]
          have HII := Lib.hid hi
          clear hi hb
          go_wp2
          go_ret
          exact ⟨by rw [HII.out]; rfl, HK.out⟩
      · have g1 : (n != 0) = true := by simpa using hn0
        have hcs : ∃ (c : Nat) (q : Int), c = n.natAbs % 10 ∧ q.natAbs = n.natAbs / 10 ∧ n.tdiv 10 = q ∧ (v < 0 → q ≤ 0) ∧ (0 < v → 0 ≤ q) ∧ ((n.tmod 10 < 0 ∧ -(n.tmod 10) = (c : Int)) ∨ n.tmod 10 = (c : Int)) ∧ -9223372036854775808 ≤ q ∧ q < 9223372036854775808 ∧ -10 < n.tmod 10 ∧ n.tmod 10 < 10 := by
          have hb := HI.out
          have hb1 := hb.1
          have hb2 := hb.2.1
          rcases Int.lt_or_le n 0 with hneg | hpos
          · have h1 := tdm_neg hneg
            refine ⟨n.natAbs % 10, n.tdiv 10, rfl, ?_, rfl, ?_, ?_, ?_, ?_, ?_, ?_, ?_⟩ <;> (try rw [h1.1]) <;> (try rw [h1.2]) <;> have := hb.2.2.1 <;> have := hb.2.2.2.1 <;> omega
          · have h1 := tdm_pos hpos
            refine ⟨n.natAbs % 10, n.tdiv 10, rfl, ?_, rfl, ?_, ?_, ?_, ?_, ?_, ?_, ?_⟩ <;> (try rw [h1.1]) <;> (try rw [h1.2]) <;> have := hb.2.2.1 <;> have := hb.2.2.2.1 <;> omega
        obtain ⟨c, q, hc, hq, hdv, hq1, hq2, hmd, hq3, hq4, hm1, hm2⟩ := hcs
        have hc9 : c < 10 := by omega
        have hc256 : (48 + (c : Int)) % 256 = 48 + (c : Int) := by omega
        have HC := Lib.hid (show c = n.natAbs % 10 ∧ q.natAbs = n.natAbs / 10 ∧ (v < 0 → q ≤ 0) ∧ (0 < v → 0 ≤ q) ∧ -9223372036854775808 ≤ q ∧ q < 9223372036854775808 from ⟨hc, hq, hq1, hq2, hq3, hq4⟩)
        have HN0 := Lib.hid hn0
        have hw1 : IntKind.u8.wrap (48 + (c : Int)) = 48 + (c : Int) := by unfold IntKind.wrap; simp [IntKind.bits, IntKind.signed]; omega
        have hwq : wrap64 q = q := by unfold wrap64; omega
        have hwq2 : IntKind.i64.wrap q = q := by rw [IntKind.wrap_i64]; omega
        clear hc hq hq1 hq2 hq3 hq4 hn0
        rcases hmd with ⟨hm0, hmc⟩ | hmc
        · have g2 := dec_lt_t hm0
          have hmw : wrap64 (-n.tmod 10) = (c : Int) := by unfold wrap64; omega
          have hmw2 : IntKind.i64.wrap (-n.tmod 10) = (c : Int) := by rw [IntKind.wrap_i64]; omega
          clear hm0 hmc hm1 hm2
          have hcv := conv_dig wr c hc9
          have hsum : ¬ 9223372036854775807 < (one (48 + c)).size + s.size := by rw [one_size]; omega
          go_wp2
          go_roundw
          case rel => exact ⟨q, one (48 + c) ++ s, rfl, rfl, HI.out.next HV.out HN0.out HC.out, HK.out.alloc _⟩
          case measure => have := HC.out.2.1; have := HN0.out; simp [intOf, hwq]; omega
        · have g2 := dec_lt_f (show ¬ n.tmod 10 < 0 by omega)
          clear hm1 hm2
          have hcv := conv_dig wr c hc9
          have hsum : ¬ 9223372036854775807 < (one (48 + c)).size + s.size := by rw [one_size]; omega
          go_wp2
          go_roundw
          case rel => exact ⟨q, one (48 + c) ++ s, rfl, rfl, HI.out.next HV.out HN0.out HC.out, HK.out.alloc _⟩
          case measure => have := HC.out.2.1; have := HN0.out; simp [intOf, hwq]; omega
end Go.Proofs.YtbmapellhcdipaaDoor
namespace Go.Proofs.YtbmapellhcdipaaDoor
open Go.RowKit
set_option linter.unusedVariables false
set_option linter.unusedSimpArgs false

theorem rgood_b (q : ByteArray) (w : World) (hz : q.size ≤ 1000000) : Calls Tryd.prog 14 #[.string q] w fun e w' => e = .returned (.bool (decide (badAt q < 0))) ∧ Keep [] w w' := by
  have H := Lib.hid (rbadAt_any q w (by omega))
  generalize badAt q = z at *
  go_enter Tryd.func14, Tryd.ntmps14
  go_wp2_with fail
  refine H.out.mono ?_
  rintro e w1 ⟨rfl, hk⟩
  have HK := Lib.hid hk; clear hk
  go_wp2
  go_ret
  exact ⟨rfl, HK.out⟩

set_option maxHeartbeats 16000000 in
set_option maxRecDepth 100000 in
theorem lplain_any (x : ByteArray) (w : World) (hz : x.size ≤ 1000000) : Calls Tryd.prog 22 #[.string x] w fun e w' => ∃ b : Bool, e = .returned (.bool b) ∧ (b = true → plP x) ∧ Keep [] w w' := by
  have HG := Lib.hid (fun W => rgood_b x W hz)
  have HGA := Lib.hid (fun h : badAt x < 0 => good_badAt h)
  generalize hbz : badAt x = bz at *
  clear hbz
  go_enter Tryd.func22, Tryd.ntmps22
  go_wp2
  go_loopw [3] (fun av wx => ∃ i : Nat, av = .int .i64 i ∧ i ≤ x.size ∧ (∀ j, j < i → 33 ≤ byt x j ∧ byt x j ≠ 127 ∧ byt x j ≠ 34 ∧ byt x j ≠ 35) ∧ w = wx) (fun av _ => x.size - (intOf av).toNat)
  case atStart => exact ⟨0, rfl, by omega, fun j hj => absurd hj (Nat.not_lt_zero _), rfl⟩
  case round =>
    obtain ⟨i, rfl, hi, hr, rfl⟩ := hrel
    have HRR := Lib.hid hr; clear hr
    by_cases his : i < x.size
    · have g1 := dec_lt_t (show (i : Int) < (x.size : Int) by omega)
      have g2 := dec_ltn_t his
      have hix := byte_z (s := x) (i := i) (z := (i : Nat)) his rfl
      obtain ⟨c, hcc⟩ : ∃ c : Int, c = ((byt x i : Nat) : Int) := ⟨_, rfl⟩
      rw [← hcc] at hix
      by_cases e1 : c ≤ 32
      · have g3 := dec_le_t e1
        clear e1 hcc
        go_wp2
        go_ret
        exact ⟨_, rfl, fun h => (by cases h), Keep.refl _ _⟩
      · have g3 := dec_le_f e1
        by_cases e2 : byt x i = 127
        · have g4 : (c == 127) = true := (ar4 hcc).1 e2
          clear e1 e2 hcc
          go_wp2
          go_ret
          exact ⟨_, rfl, fun h => (by cases h), Keep.refl _ _⟩
        · have g4 : (c == 127) = false := ((ar4 hcc).2 e2).1
          by_cases e3 : byt x i = 34
          · have g5 : (c == 34) = true := (ar4 hcc).1 e3
            clear e1 e2 e3 hcc
            go_wp2
            go_ret
            exact ⟨_, rfl, fun h => (by cases h), Keep.refl _ _⟩
          · have g5 : (c == 34) = false := ((ar4 hcc).2 e3).1
            by_cases e4 : byt x i = 35
            · have g6 : (c == 35) = true := (ar4 hcc).1 e4
              clear e1 e2 e3 e4 hcc
              go_wp2
              go_ret
              exact ⟨_, rfl, fun h => (by cases h), Keep.refl _ _⟩
            · have g6 : (c == 35) = false := ((ar4 hcc).2 e4).1
              have HN := Lib.hid (show ∀ j, j < i + 1 → 33 ≤ byt x j ∧ byt x j ≠ 127 ∧ byt x j ≠ 34 ∧ byt x j ≠ 35 from fun j hj => by
                by_cases hji : j < i
                · exact HRR.out j hji
                · obtain rfl : j = i := by omega
                  omega)
              clear e1 e2 e3 e4 hcc
              go_wp2
              go_roundw
              case rel => exact ⟨i + 1, by go_num, by omega, HN.out, by trivial⟩
              case measure => simp [intOf]; omega
    · have g1 := dec_lt_f (show ¬ (i : Int) < (x.size : Int) by omega)
      have g2 := dec_ltn_f his
      obtain rfl : i = x.size := by omega
      clear his
      by_cases h0 : x.size = 0
      · obtain rfl : x = ByteArray.empty := ext_byt h0 (fun i hi => by omega)
        go_wp2
        go_ret
        exact ⟨_, rfl, fun h => (by cases h), Keep.refl _ _⟩
      · have hne := ne_empty h0
        have n1 := hne.1
        have n2 := hne.2.1
        have n3 := hne.2.2
        clear hne
        have hi0 := byte_z (s := x) (i := 0) (z := 0) (by omega) rfl
        obtain ⟨c0, hc0⟩ : ∃ c0 : Int, c0 = ((byt x 0 : Nat) : Int) := ⟨_, rfl⟩
        rw [← hc0] at hi0
        by_cases hb : bz < 0
        · have g3 := dec_lt_t hb
          have HF := Lib.hid (show fineW x from ⟨fun i hi => HRR.out i hi, HGA.out hb⟩)
          rw [g3] at HG
          clear hb
          by_cases h45 : byt x 0 = 45
          · have g4 : (c0 == 45) = true := (ar4 hc0).1 h45
            by_cases h1 : 1 < x.size
            · have g5 := dec_lt_t (show (1 : Int) < (x.size : Int) by omega)
              have g6 := dec_ltn_t h1
              have hi1 := byte_z (s := x) (i := 1) (z := 1) h1 rfl
              obtain ⟨c1, hc1⟩ : ∃ c1 : Int, c1 = ((byt x 1 : Nat) : Int) := ⟨_, rfl⟩
              rw [← hc1] at hi1
              have hnum : numB x = digB (byt x 1) := by unfold numB; rw [if_pos h45]
              clear hc0
              by_cases hd : 48 ≤ c1
              · have g7 := dec_lt_f (show ¬ c1 < 48 by omega)
                by_cases hd2 : c1 ≤ 57
                · have g8 := dec_lt_f (show ¬ 57 < c1 by omega)
                  clear hd hd2 hnum hc1 h45
                  go_wp2_with fail
                  refine (HG.out _).mono ?_
                  rintro e w1 ⟨rfl, hk⟩
                  have HK := Lib.hid hk
                  clear hk HG
                  go_wp2
                  go_ret
                  exact ⟨_, rfl, fun h => (by cases h), HK.out⟩
                · have g8 := dec_lt_t (show 57 < c1 by omega)
                  have HNU := Lib.hid (show numB x = false by rw [hnum]; exact decide_eq_false (by omega))
                  have H0 := Lib.hid h0
                  clear hd hd2 hnum hc1 h0 h45
                  go_wp2_with fail
                  refine (HG.out _).mono ?_
                  rintro e w1 ⟨rfl, hk⟩
                  have HK := Lib.hid hk
                  clear hk HG
                  go_wp2
                  go_ret
                  exact ⟨_, rfl, fun _ => ⟨HF.out, H0.out, HNU.out⟩, HK.out⟩
              · have g7 := dec_lt_t (show c1 < 48 by omega)
                have HNU := Lib.hid (show numB x = false by rw [hnum]; exact decide_eq_false (by omega))
                have H0 := Lib.hid h0
                clear hd hnum hc1 h0 h45
                go_wp2_with fail
                refine (HG.out _).mono ?_
                rintro e w1 ⟨rfl, hk⟩
                have HK := Lib.hid hk
                clear hk HG
                go_wp2
                go_ret
                exact ⟨_, rfl, fun _ => ⟨HF.out, H0.out, HNU.out⟩, HK.out⟩
            · have g5 := dec_lt_f (show ¬ (1 : Int) < (x.size : Int) by omega)
              have g6 := dec_ltn_f h1
              have hc45 : c0 = 45 := by rw [hc0, h45]; rfl
              subst hc45
              have hnum : numB x = false := by unfold numB; rw [if_pos h45, byt_end (by omega)]; rfl
              have HNU := Lib.hid hnum
              have H0 := Lib.hid h0
              clear hnum h0 hc0 h45
              go_wp2_with fail
              refine (HG.out _).mono ?_
              rintro e w1 ⟨rfl, hk⟩
              have HK := Lib.hid hk
              clear hk HG
              go_wp2
              go_ret
              exact ⟨_, rfl, fun _ => ⟨HF.out, H0.out, HNU.out⟩, HK.out⟩
          · have g4 : (c0 == 45) = false := ((ar4 hc0).2 h45).1
            have hnum : numB x = digB (byt x 0) := by unfold numB; rw [if_neg h45]
            by_cases hd : 48 ≤ c0
            · have g7 := dec_lt_f (show ¬ c0 < 48 by omega)
              by_cases hd2 : c0 ≤ 57
              · have g8 := dec_lt_f (show ¬ 57 < c0 by omega)
                clear hd hd2 hnum hc0 h45
                go_wp2_with fail
                refine (HG.out _).mono ?_
                rintro e w1 ⟨rfl, hk⟩
                have HK := Lib.hid hk
                clear hk HG
                go_wp2
                go_ret
                exact ⟨_, rfl, fun h => (by cases h), HK.out⟩
              · have g8 := dec_lt_t (show 57 < c0 by omega)
                have HNU := Lib.hid (show numB x = false by rw [hnum]; exact decide_eq_false (by omega))
                have H0 := Lib.hid h0
                clear hd hd2 hnum hc0 h0 h45
                go_wp2_with fail
                refine (HG.out _).mono ?_
                rintro e w1 ⟨rfl, hk⟩
                have HK := Lib.hid hk
                clear hk HG
                go_wp2
                go_ret
                exact ⟨_, rfl, fun _ => ⟨HF.out, H0.out, HNU.out⟩, HK.out⟩
            · have g7 := dec_lt_t (show c0 < 48 by omega)
              have HNU := Lib.hid (show numB x = false by rw [hnum]; exact decide_eq_false (by omega))
              have H0 := Lib.hid h0
              clear hd hnum hc0 h0 h45
              go_wp2_with fail
              refine (HG.out _).mono ?_
              rintro e w1 ⟨rfl, hk⟩
              have HK := Lib.hid hk
              clear hk HG
              go_wp2
              go_ret
              exact ⟨_, rfl, fun _ => ⟨HF.out, H0.out, HNU.out⟩, HK.out⟩
        · have g3 := dec_lt_f hb
          rw [g3] at HG
          clear hb
          go_wp2_with fail
          refine (HG.out _).mono ?_
          rintro e w1 ⟨rfl, hk⟩
          have HK := Lib.hid hk
          clear hk HG
          go_wp2
          go_ret
          exact ⟨_, rfl, fun h => (by cases h), HK.out⟩
end Go.Proofs.YtbmapellhcdipaaDoor
namespace Go.Proofs.YtbmapellhcdipaaDoor
open Go.RowKit Go.ChangeShapes Go.WideShapes
set_option linter.unusedVariables false
set_option linter.unusedSimpArgs false
attribute [local go_sem] Oper.semAt_some

/-- A word's cells. -/
def wV (f : Fn) : Array Value := #[.int .i64 (f.k : Nat), .string f.t, .int .i64 f.n, .int .i64 (f.a : Nat), .int .i64 (f.l : Nat)]
def wCs : List Fn → List Value
  | [] => []
  | f :: L => (wV f).toList ++ wCs L
theorem wCs_snoc (L : List Fn) (f : Fn) : wCs (L ++ [f]) = wCs L ++ (wV f).toList := by
  induction L with
  | nil => simp [wCs]
  | cons g L ih => simp [wCs, ih]
theorem wCs_at : ∀ (L : List Fn) (k j : Nat) (hk : k < L.length), j < 5 → (wCs L)[k * 5 + j]? = (wV L[k])[j]? := by
  intro L
  induction L with
  | nil => intro k j hk; cases hk
  | cons f L ih =>
    intro k j hk hj
    have hl : (wV f).toList.length = 5 := rfl
    unfold wCs
    cases k with
    | zero =>
      rw [List.getElem?_append_left (by omega)]
      simp
    | succ k =>
      rw [List.getElem?_append_right (by omega), show (k + 1) * 5 + j - (wV f).toList.length = k * 5 + j by omega, ih k j (by simpa using hk) hj]
      rfl
theorem info_word : (Tryd.prog.info? 39).map (fun i => (i.zero, i.size, i.bytes)) = some (some (.agg #[.int .i64 0, .string ⟨#[]⟩, .int .i64 0, .int .i64 0, .int .i64 0]), 5, 48) := by kernel_rfl
/-- 'append(want, w)', behind the new element's block. -/
theorem w_append {W : World} {base : Nat} {v : Value} {L : List Fn} (f : Fn) (hown : W.ownsRow base 39 5 v L.length (wCs L)) (hb : base ≤ W.heap.size) (hk : L.length ≤ 1000000) :
    ∃ v' w', (Builtin.append_ #[45, 45] 45 #[v, .slice (some ⟨W.heap.size, 0, none⟩) 1 1]).run Tryd.prog (W.alloc (.cells (wV f) 39)) = .ok v' w' ∧
      AppPost (W.alloc (.cells (wV f) 39)) base 39 5 v L.length (wCs L) 1 (wV f).toList v' w' := by
  obtain ⟨i0, hi, hz0, hz1, hz2⟩ := info_parts info_word
  exact run_append_mine (P := Tryd.prog) _ base 45 45 39 i0 (.agg #[.int .i64 0, .string ⟨#[]⟩, .int .i64 0, .int .i64 0, .int .i64 0]) 5 48 Tryd.underlying45 hi hz0 hz1 hz2 rfl (by decide) v L.length _ (hown.alloc _) ⟨W.heap.size, 0, none⟩ 1 1 (wV f).toList rfl
    (cell_new_row W (wV f).toList 39) (by simp [wV, Value.oneCell']) (by unfold maxLen; omega) (by omega) (by simp; omega)
theorem w_append_drew {W : World} {base : Nat} {v : Value} {L : List Fn} (f : Fn) (hown : W.ownsRow base 39 5 v L.length (wCs L)) (hb : base ≤ W.heap.size) (hk : L.length ≤ 1000000) :
    ∃ v' w', (Builtin.append_ #[45, 45] 45 #[v, .slice (some ⟨W.heap.size, 0, none⟩) 1 1]).run Tryd.prog (W.alloc (.cells (wV f) 39)).drew = .ok v' w' ∧
      AppPost (W.alloc (.cells (wV f) 39)).drew base 39 5 v L.length (wCs L) 1 (wV f).toList v' w' := w_append (W := W.drew) f hown hb hk
/-- The list so far, in its variable. -/
def Want (w : World) (bw : Nat) (v : Value) (L : List Fn) (W : World) : Prop :=
  W.ownsRow w.heap.size 39 5 v L.length (wCs L) ∧ Keep [] w W ∧ W.heap[bw]? = some (.cells #[v] 45 (0, 0)) ∧ w.heap.size ≤ bw
theorem Want.keep {w W W' : World} {bw : Nat} {v : Value} {L : List Fn} (h : Want w bw v L W) (k : Keep [] W W') : Want w bw v L W' := ⟨k.owns h.1 (by simp), h.2.1.trans0 k, k.at_ h.2.2.1 (by simp), h.2.2.2⟩
/-- Behind an append, and its store. -/
theorem Want.snoc {w W W1 W2 : World} {bw : Nat} {v v' : Value} {L : List Fn} {f : Fn} (h : Want w bw v L W) (k : Keep [] W W1) (hp : AppPost W1 w.heap.size 39 5 v L.length (wCs L) 1 (wV f).toList v' W2) :
    Want w bw v' (L ++ [f]) (W2.setCell ⟨bw, 0, none⟩ v') ∧ W2.cell? ⟨bw, 0, none⟩ = some v ∧ W2.frozen? ⟨bw, 0, none⟩ = false ∧ W2.heap.size ≥ W.heap.size ∧ (∀ b o, W.heap[b]? = some o → b ≠ bw → (∀ c f, o ≠ .cells c 39 f ∨ f ≠ (0, 0) ∨ b ∉ v.ownBlock.toList) → (W2.setCell ⟨bw, 0, none⟩ v').heap[b]? = some o) := by
  obtain ⟨h1, h2, h3, h4⟩ := h
  have hnb : bw ∉ v.ownBlock.toList := own_not_type h1 h3 (by decide)
  have hk2 : Keep v.ownBlock.toList W1 W2 := hp.2.1
  have hb2 : W2.heap[bw]? = some (.cells #[v] 45 (0, 0)) := hk2.at_ (k.at_ h3 (by simp)) hnb
  have hon := own_next h1 h2 k hp (by have := h2.size; omega)
  have hnb2 : bw ∉ v'.ownBlock.toList := own_not_type hon.1 hb2 (by decide)
  have hks : Keep [bw] W2 (W2.setCell ⟨bw, 0, none⟩ v') := (Keep.refl _ _).setCell (.inl (by simp)) _
  refine ⟨⟨?_, hon.2.1.trans hks (fun x hx => by simp at hx; subst hx; exact .inr h4), by have := block_setCell hb2 0 v'; exact this, h4⟩, by rw [cell_of_block hb2]; rfl, free_of_block hb2 0, ?_, ?_⟩
  · rw [wCs_snoc, List.length_append, List.length_singleton]
    exact hks.owns hon.1 (fun g hg hm => by simp at hm; subst hm; exact hnb2 (by simp [hg]))
  · have := k.size; have := hk2.size; omega
  · intro b o hb hne hty
    refine hks.at_ (hk2.at_ (k.at_ hb (by simp)) (fun hm => ?_)) (by simpa using hne)
    simp at hm
    rcases h1.2 with ⟨rfl, _⟩ | ⟨g, cap, cur, rfl, _, hg, _⟩
    · simp [Value.ownBlock] at hm
    · simp [Value.ownBlock] at hm
      subst hm
      have := Option.some.inj (hb.symm.trans hg)
      rcases hty cur (0, 0) with h | h | h
      · exact h this
      · exact h rfl
      · exact h (by simp [Value.ownBlock])

/-- An item of the argument. -/
abbrev ItQ := { x : Int × ByteArray × Int × Int × Int // (-9223372036854775808 ≤ x.1 ∧ x.1 < 9223372036854775808) ∧ (-9223372036854775808 ≤ x.2.2.1 ∧ x.2.2.1 < 9223372036854775808) ∧ (-9223372036854775808 ≤ x.2.2.2.1 ∧ x.2.2.2.1 < 9223372036854775808) ∧ (-9223372036854775808 ≤ x.2.2.2.2 ∧ x.2.2.2.2 < 9223372036854775808) }
def encQ (x : ItQ) : List Value := [.int .i64 x.1.1, .string x.1.2.1, .int .i64 x.1.2.2.1, .int .i64 x.1.2.2.2.1, .int .i64 x.1.2.2.2.2]
section
variable {H : Type} {enc : TypeId × Value → H} {P : Program} {w : World} {base : Nat} {spare : Nat → Bool} {held : Bool}
theorem trod_struct5 {t : TypeId} {f0 f1 f2 f3 f4 : Field} {fuel : Nat} {cs : List Value} {x : DataW H × List MemPlace} (ht : P.underlying t = some (.struct #[f0, f1, f2, f3, f4])) (h : DataW.trod enc P w base spare held fuel t cs = some x) :
    ∃ y0 y1 y2 y3 y4 n, cs.length = P.cellsOf t ∧ DataW.trod enc P w base spare held n f0.type ((cs.drop f0.offset).take (P.cellsOf f0.type)) = some y0 ∧
      DataW.trod enc P w base spare held n f1.type ((cs.drop f1.offset).take (P.cellsOf f1.type)) = some y1 ∧ DataW.trod enc P w base spare held n f2.type ((cs.drop f2.offset).take (P.cellsOf f2.type)) = some y2 ∧
      DataW.trod enc P w base spare held n f3.type ((cs.drop f3.offset).take (P.cellsOf f3.type)) = some y3 ∧ DataW.trod enc P w base spare held n f4.type ((cs.drop f4.offset).take (P.cellsOf f4.type)) = some y4 := by
  obtain ⟨xs, n, _, rfl, hl, hlen, hf⟩ := DataW.trod_struct ht h
  match xs, hlen with
  | [y0, y1, y2, y3, y4], _ => exact ⟨y0, y1, y2, y3, y4, n, hl, by simpa using hf 0 f0 rfl, by simpa using hf 1 f1 rfl, by simpa using hf 2 f2 rfl, by simpa using hf 3 f3 rfl, by simpa using hf 4 f4 rfl⟩
end
theorem cellsItem : Tryd.prog.cellsOf 47 = 5 := by kernel_rfl
theorem cellsIntQ : Tryd.prog.cellsOf 3 = 1 := by kernel_rfl
theorem cellsStrQ : Tryd.prog.cellsOf 9 = 1 := by kernel_rfl
theorem item_reads {H : Type} {enc : TypeId × Value → H} {w : World} (n : Nat) (cs : List Value) (y : DataW H × List MemPlace) (h : DataW.trod enc Tryd.prog w 0 (fun _ => true) true n 47 cs = some y) : ∃ x : ItQ, cs = encQ x := by
  obtain ⟨y0, y1, y2, y3, y4, m, hl, h0, h1, h2, h3, h4⟩ := trod_struct5 Tryd.underlying47 h
  rw [cellsItem] at hl
  rw [cellsIntQ] at h0 h2 h3 h4
  rw [cellsStrQ] at h1
  match cs, hl with
  | [a, b, c, d, e], _ =>
    obtain ⟨k0, e0, _, b0⟩ := DataW.trod_int Tryd.underlying3 h0
    obtain ⟨s, e1, _, b1⟩ := DataW.trod_string Tryd.underlying9 h1
    obtain ⟨k2, e2, _, b2⟩ := DataW.trod_int Tryd.underlying3 h2
    obtain ⟨k3, e3, _, b3⟩ := DataW.trod_int Tryd.underlying3 h3
    obtain ⟨k4, e4, _, b4⟩ := DataW.trod_int Tryd.underlying3 h4
    simp at e0 e1 e2 e3 e4
    simp only [Lit.wf, Bool.and_eq_true, decide_eq_true_eq] at b0 b2 b3 b4
    have hh : ∀ z : Int, IntKind.i64.min ≤ z ∧ z ≤ IntKind.i64.max → -9223372036854775808 ≤ z ∧ z < 9223372036854775808 := fun z hz => by
      have h1 : IntKind.i64.min = -9223372036854775808 := by decide
      have h2 : IntKind.i64.max = 9223372036854775807 := by decide
      omega
    exact ⟨⟨(k0, s, k2, k3, k4), hh _ b0, hh _ b2, hh _ b3, hh _ b4⟩, by rw [e0, e1, e2, e3, e4]; rfl⟩

set_option maxHeartbeats 64000000 in
set_option maxRecDepth 100000 in
theorem words1_any (bw bo bn : Nat) (v : Value) (L : List Fn) (k : Nat) (W : World) (hk : k < L.length) (hlen : L.length ≤ 1000000) (he : (L[k]).e = 0) (hw : W.heap[bw]? = some (.cells #[v] 45 (0, 0))) (hs : SlAt W v L.length (wCs L)) (hT : Two bo bn k W) :
    Calls Tryd.prog 25 (fnArgs L[k] ++ #[.pointer (some ⟨bo, 0, none⟩), .pointer (some ⟨bn, 0, none⟩), .pointer (some ⟨bw, 0, none⟩)]) W fun e W' =>
      e = .returned (.bool true) ∧ Keep [bo, bn] W W' ∧ Two bo bn (k + 1) W' := by
  obtain ⟨f, hf⟩ : ∃ f, f = L[k] := ⟨_, rfl⟩
  have hcs := fun j (hj : j < 5) => wCs_at L k j hk hj
  rw [← hf] at hcs he ⊢
  obtain ⟨gb, off, cap, hv, hcell⟩ := hs.at_ (by omega)
  obtain ⟨n, hn⟩ : ∃ n, n = L.length := ⟨_, rfl⟩
  rw [← hn] at hv hlen hk
  clear hf hn
  have hce : ∀ j (hj : j < 5) u, (wV f)[j]? = some u → W.cell? ⟨gb, off + k * 5 + j, none⟩ = some u := fun j hj u hu => by
    rw [Nat.add_assoc]; exact hcell _ _ ((hcs j hj).trans hu)
  obtain ⟨fk, ft, fn, fa, fl, fe⟩ := f
  simp only at he
  subst he
  have g0 := hce 0 (by decide) _ rfl
  have g1 := hce 1 (by decide) _ rfl
  have g2 := hce 2 (by decide) _ rfl
  have g3 := hce 3 (by decide) _ rfl
  have g4 := hce 4 (by decide) _ rfl
  have hD : (W.alloc (.cells #[.int .i64 (fk : Nat), .string ft, .int .i64 fn, .int .i64 (fa : Nat), .int .i64 (fl : Nat)] 39)).heap[W.heap.size]? = some (.cells #[.int .i64 (fk : Nat), .string ft, .int .i64 fn, .int .i64 (fa : Nat), .int .i64 (fl : Nat)] 39 (0, 0)) := World.alloc_heap_new W _
  have hKD : Keep [] W (W.alloc (.cells #[.int .i64 (fk : Nat), .string ft, .int .i64 fn, .int .i64 (fa : Nat), .int .i64 (fl : Nat)] 39)) := (Keep.refl _ _).alloc _
  subst hv
  simp only [fnArgs, List.push_toArray, List.append_toArray, List.cons_append, List.nil_append]
  have HTW := Lib.hid (hT.keep hKD (by simp) (by simp))
  have HWW := Lib.hid (hKD.at_ hw (by simp))
  have HKW := Lib.hid hKD
  obtain ⟨D, hDD⟩ : ∃ D, D = W.heap.size := ⟨_, rfl⟩
  obtain ⟨w0, hw0⟩ : ∃ w0, w0 = W.alloc (.cells #[.int .i64 (fk : Nat), .string ft, .int .i64 fn, .int .i64 (fa : Nat), .int .i64 (fl : Nat)] 39) := ⟨_, rfl⟩
  rw [← hw0] at HTW HWW HKW hD hKD
  rw [← hDD] at hD
  have c0 := hKD.cellv g0 (by simp)
  have c1 := hKD.cellv g1 (by simp)
  have c2 := hKD.cellv g2 (by simp)
  have c3 := hKD.cellv g3 (by simp)
  have c4 := hKD.cellv g4 (by simp)
  have d0 := cell_of_block hD 0
  have d1 := cell_of_block hD 1
  have d2 := cell_of_block hD 2
  have d3 := cell_of_block hD 3
  have d4 := cell_of_block hD 4
  have p0 := cell_of_block HTW.out.1 0
  have y0 := free_of_block HTW.out.1 0
  have p1 := cell_of_block HTW.out.2.1 0
  have p2 := cell_of_block HWW.out 0
  simp at d0 d1 d2 d3 d4 p0 p1 p2
  have f1 := dec_lt_t (show (k : Int) < (n : Int) by omega)
  have f2 := dec_ltn_t (show k < n by omega)
  have hkz : k ≤ 1000001 := by omega
  have hnz : n ≤ 1000001 := by omega
  clear g0 g1 g2 g3 g4 hD hKD hs hT hcs hce hcell hlen hw
  go_enter Tryd.func25, Tryd.ntmps25
  go_upto_region 1 with (fail)
  rw [← hw0, ← hDD]
  clear hw0 hDD
  refine (wpIn_wide (n := 0)).1 ?_
  refine wpIn_fix (.inl rfl) 19 [] (fun _ => w0.drew) (fun w' => w'.cell? ⟨bo, 0, none⟩ = some (.bool true) ∧ w'.cell? ⟨bn, 0, none⟩ = some (.int .i64 (k : Nat)) ∧ w'.cell? ⟨bw, 0, none⟩ = some (.slice (some ⟨gb, off, none⟩) n cap) ∧
      w'.cell? ⟨D, 0, none⟩ = some (.int .i64 (fk : Nat)) ∧ w'.cell? ⟨D, 1, none⟩ = some (.string ft) ∧ w'.cell? ⟨D, 2, none⟩ = some (.int .i64 fn) ∧ w'.cell? ⟨D, 3, none⟩ = some (.int .i64 (fa : Nat)) ∧ w'.cell? ⟨D, 4, none⟩ = some (.int .i64 (fl : Nat)) ∧
      w'.cell? ⟨gb, off + k * 5, none⟩ = some (.int .i64 (fk : Nat)) ∧ w'.cell? ⟨gb, off + k * 5 + 1, none⟩ = some (.string ft) ∧ w'.cell? ⟨gb, off + k * 5 + 2, none⟩ = some (.int .i64 fn) ∧ w'.cell? ⟨gb, off + k * 5 + 3, none⟩ = some (.int .i64 (fa : Nat)) ∧ w'.cell? ⟨gb, off + k * 5 + 4, none⟩ = some (.int .i64 (fl : Nat)))
    [.bool true, .bool true, .int .i64 0, .bool true, .bool true, .bool true, .int .i64 (k : Nat), .slice (some ⟨gb, off, none⟩) n cap, .int .i64 (n : Nat), .bool true, .bool true, .bool true,
     .agg #[.int .i64 (fk : Nat), .string ft, .int .i64 fn, .int .i64 (fa : Nat), .int .i64 (fl : Nat)], .slice (some ⟨gb, off, none⟩) n cap, .int .i64 (k : Nat), .pointer (some ⟨gb, off + k * 5, none⟩),
     .agg #[.int .i64 (fk : Nat), .string ft, .int .i64 fn, .int .i64 (fa : Nat), .int .i64 (fl : Nat)], .bool true, .bool true]
    (by kernel_rfl) (by kernel_rfl) rfl rfl rfl (fun _ _ => ⟨p0, p1, p2, d0, d1, d2, d3, d4, c0, c1, c2, c3, c4⟩) ?rest1
  case rest1 =>
    intro A hA
    simp only [putVals, List.take, Act.put, List.setIfInBounds_toArray, List.set_cons_succ, List.set_cons_zero] at hA
    subst hA
    refine ⟨?_, fixWrites_nil, ?_⟩
    · iterate 19
        refine fixReads_on rfl ?_ ?_
        · intro w1 hw1 K Q hK
          obtain ⟨x0, x1, x2, x3, x4, x5, x6, x7, x8, x9, x10, x11, x12⟩ := hw1
          go_simp
          exact hK
      exact fixReads_nil
    · simp only [List.drop]
      gi_upto_region 2 with (fail)
      have HT1 := Lib.hid (show Two bo bn k (w0.setCell ⟨bo, 0, none⟩ (.bool true)).drew from HTW.out.setOk)
      have HK1 := Lib.hid (show Keep [bo, bn] W (w0.setCell ⟨bo, 0, none⟩ (.bool true)).drew from (((HKW.out.mono (by simp)).setCell (p := ⟨bo, 0, none⟩) (.inl (by simp)) (.bool true)).drew))
      obtain ⟨w1, hw1⟩ : ∃ w1, w1 = (w0.setCell ⟨bo, 0, none⟩ (.bool true)).drew := ⟨_, rfl⟩
      rw [← hw1] at HT1 HK1 ⊢
      clear hw1 c0 c1 c2 c3 c4 d0 d1 d2 d3 d4 p0 p1 p2 y0 HKW HTW HWW
      have p0 := cell_of_block HT1.out.1 0
      have y0 := free_of_block HT1.out.1 0
      have p1 := cell_of_block HT1.out.2.1 0
      have y1 := free_of_block HT1.out.2.1 0
      simp at p0 p1
      go_upto_region 3 with (fail)
      have HT2 := Lib.hid (HT1.out.setN (k + 1))
      have HK2 := Lib.hid (HK1.out.setCell (p := ⟨bn, 0, none⟩) (.inl (by simp)) (.int .i64 ((k + 1 : Nat) : Nat)))
      obtain ⟨w2, hw2⟩ : ∃ w2, w2 = w1.setCell ⟨bn, 0, none⟩ (.int .i64 ((k + 1 : Nat) : Nat)) := ⟨_, rfl⟩
      rw [← hw2] at HT2 HK2
      have hw3 : w2 = w1.setCell ⟨bn, 0, none⟩ (.int .i64 ((k : Int) + 1)) := hw2
      rw [← hw3]
      clear hw2 hw3 p0 p1 y0 y1 HT1 HK1
      have p0 := cell_of_block HT2.out.1 0
      simp at p0
      go_wp2
      go_ret
      exact ⟨rfl, HK2.out, HT2.out⟩
theorem enters_w1 (args : Array Value) (w : World) : (callFunc 25 args).run Tryd.prog w = .ok (.enter 25 args) w := enters_of Tryd.func25 (by kernel_rfl) rfl args w
theorem w1_round {bw bo bn : Nat} {v : Value} {L : List Fn} {W0 : World} (hlen : L.length ≤ 1000000) (he : ∀ f ∈ L, f.e = 0) (hw : W0.heap[bw]? = some (.cells #[v] 45 (0, 0))) (hs : SlAt W0 v L.length (wCs L)) (hd : bw ∉ [bo, bn]) (hvd : ∀ g, v.ownBlock = some g → g ∉ [bo, bn])
    (k : Nat) (hk : k < (L.map fnArgs).length) (fp : List Nat) (W1 : World) (h : WInv bo bn W0 k fp W1) :
    CallV Tryd.prog (.func (.func 25) #[] #[.pointer (some ⟨bo, 0, none⟩), .pointer (some ⟨bn, 0, none⟩), .pointer (some ⟨bw, 0, none⟩)]) (L.map fnArgs)[k] W1 (RoundPost (WInv bo bn W0) (fun _ _ _ => False) k fp W1) := by
  rw [List.length_map] at hk
  obtain ⟨rfl, hkp, hT⟩ := h
  rw [List.getElem_map]
  refine .inr ⟨_, _, rfl, enters_w1, (words1_any bw bo bn v L k W1 hk hlen (he _ (List.getElem_mem _)) (hkp.at_ hw hd) (hs.keep hkp hvd) hT).mono ?_⟩
  rintro e W2 ⟨rfl, hk2, hT2⟩
  exact .inl ⟨rfl, [bo, bn], ⟨rfl, hkp.trans hk2 (fun x hx => .inl hx), hT2⟩, hk2, FromNew.refl _ _⟩
end Go.Proofs.YtbmapellhcdipaaDoor
namespace Go.Proofs.YtbmapellhcdipaaDoor
open Go.RowKit
set_option linter.unusedVariables false
set_option linter.unusedSimpArgs false

theorem quo_size2 (s : ByteArray) : (quo s).size ≤ 10 * s.size + 2 ∧ 2 ≤ (quo s).size ∧ byt (quo s) 0 = 34 := by
  have h1 := cut_len_le s 0 (Nat.zero_le _)
  have h2 := qcat_size (s := s) (l := cut s 0) (fun i hi => by
    obtain ⟨j, hj, rfl⟩ := List.getElem_of_mem hi
    exact (at_get s j hj).2)
  have h3 : (quo s).size = 1 + (qcat s (cut s 0)).size + 1 := by unfold quo; rw [ByteArray.size_append, ByteArray.size_append, one_size]
  refine ⟨by omega, by omega, ?_⟩
  unfold quo
  rw [ByteArray.append_assoc, byt_append_left _ _ _ (by rw [one_size]; omega), byt_one (by decide)]
section
variable {s g : ByteArray} {line : Nat} {sm : Bool} {L : List Fn}
theorem end_at {s w t : ByteArray} (ht : condT true t) : endB (s ++ w ++ t) (s.size + w.size) = true := by
  have := cond_end (s := s ++ w) ht
  rwa [ByteArray.size_append] at this
theorem laid_quo (x : ByteArray) (h : Laid s line sm L) (hg : gapP sm g) : Laid (s ++ g ++ quo x) line true (L ++ [⟨2, x, 0, (s ++ g).size, line, 0⟩]) := by
  obtain ⟨_, q1, q2⟩ := quo_size2 x
  refine h.word hg.2.1 hg.2.2 (by omega) (by omega) (fun t ht => ?_)
  rw [scn_wquo (s := s ++ g) (end_at ht), ← ByteArray.size_append]
theorem laid_num {v : Int} (hv : -9223372036854775808 ≤ v ∧ v < 9223372036854775808) (h : Laid s line sm L) (hg : gapP sm g) : Laid (s ++ g ++ itoaB v) line true (L ++ [⟨3, ByteArray.empty, v, (s ++ g).size, line, 0⟩]) := by
  obtain ⟨q1, q2, _, q3, q4, q5⟩ := itoa_fine hv
  refine h.word hg.2.1 hg.2.2 q2 q5 (fun t ht => ?_)
  rw [scn_wnum (lies_mid (s ++ g) (itoaB v) t) (end_at ht) q1 q2 q3 q4, ← ByteArray.size_append]
theorem laid_plain {x : ByteArray} (hp : plP x) (h : Laid s line sm L) (hg : gapP sm g) : Laid (s ++ g ++ x) line true (L ++ [⟨1, x, 0, (s ++ g).size, line, 0⟩]) := by
  obtain ⟨q1, q2, q3⟩ := hp
  refine h.word hg.2.1 hg.2.2 q2 (by have := q1.1 0 (by omega); omega) (fun t ht => ?_)
  rw [scn_wplain (lies_mid (s ++ g) x t) (end_at ht) q1 q2 q3, ← ByteArray.size_append]
end
theorem two_set02 {w : World} {g : Nat} {c0 c1 c2 c3 c4 v0 v2 : Value} {t : TypeId} (h : w.heap[g]? = some (.cells #[c0, c1, c2, c3, c4] t (0, 0))) :
    ((w.setCell ⟨g, 0, none⟩ v0).setCell ⟨g, 2, none⟩ v2).heap[g]? = some (.cells #[v0, c1, v2, c3, c4] t (0, 0)) ∧ Keep [g] w ((w.setCell ⟨g, 0, none⟩ v0).setCell ⟨g, 2, none⟩ v2) := by
  refine ⟨?_, ((Keep.refl _ _).setCell (by simp) _).setCell (by simp) _⟩
  have h0 := block_setCell h 0 v0
  exact block_setCell h0 2 v2
theorem tdiv2_bd {n : Int} (hn : -9223372036854775808 ≤ n ∧ n < 9223372036854775808) : -9223372036854775808 ≤ n.tdiv 2 ∧ n.tdiv 2 < 9223372036854775808 := by
  rcases Int.lt_or_le n 0 with h | h
  · obtain ⟨m, rfl⟩ : ∃ m, n = -m := ⟨-n, by omega⟩
    rw [Int.neg_tdiv, Int.tdiv_eq_ediv_of_nonneg (by omega)]
    omega
  · rw [Int.tdiv_eq_ediv_of_nonneg h]
    omega
theorem endT_small (k : Nat) : (endT k).1.size ≤ 8 ∧ (endT k).2.1 ≤ 2 ∧ (endT k).2.2 ≤ 8 := by
  match k with
  | 0 => decide
  | 1 => decide
  | 2 => decide
  | 3 => decide
  | 4 => decide
  | 5 => decide
  | k + 6 => exact (by decide : (endT 6).1.size ≤ 8 ∧ (endT 6).2.1 ≤ 2 ∧ (endT 6).2.2 ≤ 8)
end Go.Proofs.YtbmapellhcdipaaDoor
namespace Go.Proofs.YtbmapellhcdipaaDoor
open Go.RowKit
set_option linter.unusedVariables false
set_option linter.unusedSimpArgs false

/-- Between the items. -/
def QI (xs : List ItQ) (w : World) (bw : Nat) (i : Nat) (s : ByteArray) (line : Nat) (sm : Bool) (L : List Fn) (vw : Value) (W : World) : Prop :=
  i ≤ xs.length ∧ Laid s line sm L ∧ s.size ≤ 4000 * i ∧ line ≤ 2 * i + 1 ∧ L.length ≤ 2 * i ∧ (∀ f ∈ L, f.e = 0) ∧ Want w bw vw L W
theorem ElemsAt.cell5 {w : World} {v : Value} {xs : List ItQ} (h : ElemsAt w v 5 encQ xs) : ∃ ad cap, v = .slice ad xs.length cap ∧ ∀ i (hi : i < xs.length), ∃ b off, ad = some ⟨b, off, none⟩ ∧ b < w.heap.size ∧
    w.cell? ⟨b, off + i * 5, none⟩ = some (.int .i64 xs[i].1.1) ∧ w.cell? ⟨b, off + i * 5 + 1, none⟩ = some (.string xs[i].1.2.1) ∧ w.cell? ⟨b, off + i * 5 + 2, none⟩ = some (.int .i64 xs[i].1.2.2.1) ∧ w.cell? ⟨b, off + i * 5 + 3, none⟩ = some (.int .i64 xs[i].1.2.2.2.1) ∧ w.cell? ⟨b, off + i * 5 + 4, none⟩ = some (.int .i64 xs[i].1.2.2.2.2) := by
  obtain ⟨ad, cap, rfl, h1, h2⟩ := h
  refine ⟨ad, cap, rfl, fun i hi => ?_⟩
  obtain ⟨b, off, rfl, hc⟩ := h1 (by omega)
  have hx : xs[i]? = some xs[i] := List.getElem?_eq_getElem hi
  have hj : ∀ (j : Nat) (u : Value), (encQ xs[i])[j]? = some u → w.cell? ⟨b, off + (i * 5 + j), none⟩ = some u := hc i xs[i] hx
  have c0 := hj 0 _ rfl
  have c1 := hj 1 _ rfl
  have c2 := hj 2 _ rfl
  have c3 := hj 3 _ rfl
  have c4 := hj 4 _ rfl
  exact ⟨b, off, rfl, World.block_lt_of_cell? _ _ c0, c0, by rw [Nat.add_assoc]; exact c1, by rw [Nat.add_assoc]; exact c2, by rw [Nat.add_assoc]; exact c3, by rw [Nat.add_assoc]; exact c4⟩

set_option maxHeartbeats 64000000 in
set_option maxRecDepth 100000 in
theorem quoteWords_walk (v : Value) (xs : List ItQ) (w : World) (h : ElemsAt w v 5 encQ xs) (hT : TQ w) : Calls Tryd.prog 7 #[v] w fun e w' => e = .returned (.bool true) ∧ Keep [] w w' := by
  obtain ⟨ad, cap, rfl, hel⟩ := h.cell5
  obtain ⟨i0, hi, hz0, hz1, hz2⟩ := info_parts info_word
  have HI := Lib.hid hi
  have HZ0 := Lib.hid hz0
  have HZ1 := Lib.hid hz1
  have HZ2 := Lib.hid hz2
  clear hi hz0 hz1 hz2
  have HEL := Lib.hid hel
  have HT := Lib.hid hT
  obtain ⟨n, hn⟩ : ∃ n, n = xs.length := ⟨_, rfl⟩
  rw [← hn]
  have HN := Lib.hid hn
  clear hel hT h hn
  by_cases h60 : n ≤ 60
  · have f1 := dec_lt_f (show ¬ (60 : Int) < (n : Int) by omega)
    have f2 := dec_ltn_f (show ¬ 60 < n by omega)
    go_enter Tryd.func7, Tryd.ntmps7
    go_upto_region 7 with (fail)
    obtain ⟨bw, hbw⟩ : ∃ bw, bw = w.heap.size := ⟨_, rfl⟩
    obtain ⟨w1, hw1⟩ : ∃ w1, w1 = w.alloc (.cells #[.slice none 0 0] 45) := ⟨_, rfl⟩
    have hW1 : Want w bw (.slice none 0 0) [] w1 := ⟨World.ownsRow_nil _ _ _ _, by rw [hw1]; exact (Keep.refl _ _).alloc _, by rw [hw1, hbw]; exact World.alloc_heap_new w _, by omega⟩
    have HQ1 := Lib.hid (show QI xs w bw 0 ByteArray.empty 1 false [] (.slice none 0 0) w1 from ⟨Nat.zero_le _, Laid.start, Nat.le_refl _, Nat.le_refl _, Nat.le_refl _, fun f hf => (by cases hf), hW1⟩)
    rw [← hw1, ← hbw]
    have HBW := Lib.hid hbw
    clear hw1 hbw hW1
    go_upto_region 8 with (fail)
    go_loopw [3, 4, 5, 7, 8, 9, 10, 11] (fun sv lv mv iv _ _ _ _ wr => ∃ (i : Nat) (s : ByteArray) (line : Nat) (sm : Bool) (L : List Fn) (vw : Value), sv = .string s ∧ lv = .int .i64 line ∧ mv = .bool sm ∧ iv = .int .i64 i ∧ QI xs w bw i s line sm L vw wr) (fun _ _ _ iv _ _ _ _ _ => 60 - (intOf iv).toNat)
    case atStart => exact ⟨0, ByteArray.empty, 1, false, [], _, rfl, rfl, rfl, rfl, HQ1.out⟩
    case round =>
      obtain ⟨i, s, line, sm, L, vw, rfl, rfl, rfl, rfl, hq⟩ := hrel
      have hil := hq.1
      rw [← HN.out] at hil
      have HQ := Lib.hid hq
      have hsz : s.size ≤ 240000 := by have := hq.2.2.1; omega
      have hlz : line ≤ 1000 := by have := hq.2.2.2.1; omega
      clear hq HQ1
      by_cases hin : i < n
      · have g1 := dec_lt_t (show (i : Int) < (n : Int) by omega)
        have g2 := dec_ltn_t hin
        obtain ⟨b, off, rfl, hbl, c0, c1, c2, c3, c4⟩ := HEL.out i (by rw [← HN.out]; exact hin)
        obtain ⟨⟨⟨xk, xt, xn, xa, xe⟩, hb0, hb2, hb3, hb4⟩, hx⟩ : ∃ x, x = xs[i]'(by rw [← HN.out]; exact hin) := ⟨_, rfl⟩
        rw [← hx] at c0 c1 c2 c3 c4
        simp only at c0 c1 c2 c3 c4 hb0 hb2 hb3 hb4
        have hkw := HQ.out.2.2.2.2.2.2.2.1
        have c0 := hkw.cellv c0 (by simp)
        have c1 := hkw.cellv c1 (by simp)
        have c2 := hkw.cellv c2 (by simp)
        have c3 := hkw.cellv c3 (by simp)
        have c4 := hkw.cellv c4 (by simp)
        have HX0 := Lib.hid hb0
        have HX2 := Lib.hid hb2
        have HX3 := Lib.hid hb3
        have HX4 := Lib.hid hb4
        clear hx hkw hb0 hb2 hb3 hb4 hbl
        go_upto_region 11 with (fail)
        obtain ⟨bx, hbx⟩ : ∃ bx, bx = wr.heap.size := ⟨_, rfl⟩
        obtain ⟨w2, hw2⟩ : ∃ w2, w2 = wr.alloc (.cells #[.int .i64 xk, .string xt, .int .i64 xn, .int .i64 xa, .int .i64 xe] 47) := ⟨_, rfl⟩
        have hk2 : Keep [] wr w2 := by rw [hw2]; exact (Keep.refl _ _).alloc _
        have hx2 : w2.heap[bx]? = some (.cells #[.int .i64 xk, .string xt, .int .i64 xn, .int .i64 xa, .int .i64 xe] 47 (0, 0)) := by rw [hw2, hbx]; exact World.alloc_heap_new wr _
        rw [← hw2, ← hbx]
        have HW2 := Lib.hid (HQ.out.2.2.2.2.2.2.keep hk2)
        have HBX := Lib.hid (show bx ≠ bw by have := lt_of_block HQ.out.2.2.2.2.2.2.2.2.1; omega)
        have HX2B := Lib.hid hx2
        clear hw2 hbx hk2 c0 c1 c2 c3 c4
        have x0 := cell_of_block hx2 0
        have x1 := cell_of_block hx2 1
        have x2 := cell_of_block hx2 2
        have x3 := cell_of_block hx2 3
        have x4 := cell_of_block hx2 4
        simp at x0 x1 x2 x3 x4
        clear hx2
        by_cases h300 : xt.size ≤ 300
        · have g3 := dec_lt_f (show ¬ (300 : Int) < (xt.size : Int) by omega)
          have g4 := dec_ltn_f (show ¬ 300 < xt.size by omega)
          go_wp2_with fail
          refine (gap_any xa sm w2 HX3.out).mono ?_
          rintro e w3 ⟨g, rfl, hg, hk3⟩
          have hgz := hg.1
          have HG := Lib.hid hg
          have HW3 := Lib.hid (HW2.out.keep hk3)
          have hx3 := hk3.at_ HX2B.out (by simp)
          have HX3B := Lib.hid hx3
          clear hg hk3 HW2 HX2B x0 x1 x2 x3 x4 g3 g4
          have x0 := cell_of_block hx3 0
          have x1 := cell_of_block hx3 1
          have x2 := cell_of_block hx3 2
          have x3 := cell_of_block hx3 3
          have x4 := cell_of_block hx3 4
          simp at x0 x1 x2 x3 x4
          clear hx3
          have hsum : ¬ 9223372036854775807 < s.size + g.size := by omega
          go_upto_region 14 with (fail)
          obtain ⟨s1, hs1⟩ : ∃ s1, s1 = s ++ g := ⟨_, rfl⟩
          rw [← hs1]
          have hz1 : s1.size ≤ 240002 := by rw [hs1, ByteArray.size_append]; omega
          have HS1 := Lib.hid hs1
          clear hs1 hsum hgz
          go_upto_region 15 with (fail)
          obtain ⟨bv, hbv⟩ : ∃ bv, bv = w3.heap.size := ⟨_, rfl⟩
          obtain ⟨w4, hw4⟩ : ∃ w4, w4 = w3.alloc (.cells #[.int .i64 0, .string ⟨#[]⟩, .int .i64 0, .int .i64 (s1.size : Nat), .int .i64 (line : Nat)] 39) := ⟨_, rfl⟩
          have hk4 : Keep [] w3 w4 := by rw [hw4]; exact (Keep.refl _ _).alloc _
          have hv4 : w4.heap[bv]? = some (.cells #[.int .i64 0, .string ⟨#[]⟩, .int .i64 0, .int .i64 (s1.size : Nat), .int .i64 (line : Nat)] 39 (0, 0)) := by rw [hw4, hbv]; exact World.alloc_heap_new w3 _
          rw [← hw4, ← hbv]
          have HK4 := Lib.hid hk4
          have HV4 := Lib.hid hv4
          have HBV := Lib.hid (show w3.heap.size ≤ bv by omega)
          clear hw4 hbv x0 x1 x2 x3 x4
          have hx4 := hk4.at_ HX3B.out (by simp)
          have x0 := cell_of_block hx4 0
          have x1 := cell_of_block hx4 1
          have x2 := cell_of_block hx4 2
          have x3 := cell_of_block hx4 3
          have x4 := cell_of_block hx4 4
          simp at x0 x1 x2 x3 x4
          clear hx4 hk4
          have v0 := cell_of_block hv4 0
          have y0 := free_of_block hv4 0
          have v1 := cell_of_block hv4 1
          have y1 := free_of_block hv4 1
          have v2 := cell_of_block hv4 2
          have y2 := free_of_block hv4 2
          have v3 := cell_of_block hv4 3
          have y3 := free_of_block hv4 3
          have v4 := cell_of_block hv4 4
          have y4 := free_of_block hv4 4
          simp at v0 v1 v2 v3 v4
          clear hv4
          have HLA := Lib.hid (HQ.out.2.1)
          have HQN := Lib.hid (show s.size ≤ 4000 * i ∧ line ≤ 2 * i + 1 ∧ L.length ≤ 2 * i ∧ (∀ f ∈ L, f.e = 0) ∧ i < xs.length from ⟨HQ.out.2.2.1, HQ.out.2.2.2.1, HQ.out.2.2.2.2.1, HQ.out.2.2.2.2.2.1, HN.out ▸ hin⟩)
          clear HQ
          by_cases hk0 : xk.tmod 3 = 0
          · -- quoted
            have g5 : (xk.tmod 3 == 0) = true := by simpa using hk0
            clear hk0
            go_upto_region 24 with (fail)
            have h2 := two_set (v0 := .int .i64 2) (v1 := .string xt) HV4.out
            obtain ⟨w5, hw5⟩ : ∃ w5, w5 = (w4.setCell ⟨bv, 0, none⟩ (.int .i64 2)).setCell ⟨bv, 1, none⟩ (.string xt) := ⟨_, rfl⟩
            rw [← hw5] at h2 ⊢
            have HV5 := Lib.hid h2.1
            have HK5 := Lib.hid (show Keep [] w3 w5 from HK4.out.trans h2.2 (fun x hx => by simp at hx; subst hx; exact .inr HBV.out))
            clear h2 hw5 x0 x1 x2 x3 x4 v0 v1 v2 v3 v4 y0 y1 y2 y3 y4
            have hx5 := HK5.out.at_ HX3B.out (by simp)
            have x0 := cell_of_block hx5 0
            have x1 := cell_of_block hx5 1
            have x2 := cell_of_block hx5 2
            have x3 := cell_of_block hx5 3
            have x4 := cell_of_block hx5 4
            simp at x0 x1 x2 x3 x4
            clear hx5
            have HZQ := Lib.hid (quo_size2 xt)
            go_wp2_with fail
            refine (quote_any xt w5 (by omega) (HT.out.1.keep0 (HW3.out.2.1.trans0 HK5.out))).mono ?_
            rintro e w6 ⟨rfl, hk6⟩
            obtain ⟨wd, hwd⟩ : ∃ wd, wd = quo xt := ⟨_, rfl⟩
            rw [← hwd]
            have hwz : wd.size ≤ 3002 := by rw [hwd]; have := HZQ.out.1; omega
            have HLD := Lib.hid (show Laid (s1 ++ wd) line true (L ++ [⟨2, xt, 0, s1.size, line, 0⟩]) by rw [hwd, HS1.out]; exact laid_quo xt HLA.out HG.out)
            clear hwd
            have HK6 := Lib.hid (HK5.out.trans0 hk6)
            have HV6 := Lib.hid (hk6.at_ HV5.out (by simp))
            clear hk6 HK5 HV5 g5 x0 x1 x2 x3 x4
            have hsum2 : ¬ 9223372036854775807 < s1.size + wd.size := by omega
            go_upto_region 29 with (fail)
            obtain ⟨s2, hs2⟩ : ∃ s2, s2 = s1 ++ wd := ⟨_, rfl⟩
            rw [← hs2] at HLD ⊢
            have hz2 : s2.size ≤ s1.size + 3002 ∧ s1.size ≤ s.size + 2 := by rw [hs2, ByteArray.size_append, HS1.out, ByteArray.size_append]; have := HG.out.1; omega
            have HZ2S := Lib.hid hz2
            have hz2b : s2.size ≤ 250000 := by omega
            clear hs2 hsum2 hz2 hwz
            have hp6 := HW3.out.keep HK6.out
            have pw := cell_of_block hp6.2.2.1 0
            simp at pw
            have HW6 := Lib.hid hp6
            have hx6 := HK6.out.at_ HX3B.out (by simp)
            have HX6 := Lib.hid hx6
            clear hp6 hx6
            have v0 := cell_of_block HV6.out 0
            have v1 := cell_of_block HV6.out 1
            have v2 := cell_of_block HV6.out 2
            have v3 := cell_of_block HV6.out 3
            have v4 := cell_of_block HV6.out 4
            simp at v0 v1 v2 v3 v4
            go_upto_region 30 with (at_builtin; refine wpList_append_mine _ rfl (.tmp 82) (.tmp 84) 45 rfl w.heap.size 39 i0 (.agg #[.int .i64 0, .string ⟨#[]⟩, .int .i64 0, .int .i64 0, .int .i64 0]) 5 48 Tryd.underlying45 HI.out HZ0.out HZ1.out HZ2.out rfl (by decide) _ _ _ rfl (HW6.out.1.alloc _) ⟨w6.heap.size, 0, none⟩ 1 1 [.int .i64 2, .string xt, .int .i64 0, .int .i64 (s1.size : Nat), .int .i64 (line : Nat)] rfl rfl (cell_new_row _ _ _) (by simp [Value.oneCell']) (by have := HQN.out.2.2.1; have := HQN.out.2.2.2.2; have := HN.out; unfold maxLen; omega) (by have := HQN.out.2.2.1; have := HQN.out.2.2.2.2; have := HN.out; omega) (by have := HW6.out.2.1.size; simp; omega) ?_; intro v' W2 hp2; have hsn := Want.snoc (f := (⟨2, xt, 0, s1.size, line, 0⟩ : Fn)) HW6.out ((Keep.refl _ _).alloc _) hp2; obtain ⟨ad2, cap2, hv2⟩ := (SlAt.of_owns hsn.1.1).empty; obtain ⟨ln2, hln2⟩ : ∃ ln2, ln2 = (L ++ [(⟨2, xt, 0, s1.size, line, 0⟩ : Fn)]).length := ⟨_, rfl⟩; rw [← hln2] at hv2; have HLN2 := Lib.hid hln2; clear hln2; subst hv2; have qb := hsn.2.1; have zb := hsn.2.2.1; have HSN := Lib.hid hsn; clear hp2 hsn)
            clear pw v0 v1 v2 v3 v4 qb zb
            obtain ⟨w8, hw8⟩ : ∃ w8, w8 = W2.setCell ⟨bw, 0, none⟩ (.slice ad2 ln2 cap2) := ⟨_, rfl⟩
            have hW8 := HSN.out.1
            have hx8 := HSN.out.2.2.2.2 bx _ HX6.out HBX.out (fun c f => .inl (fun h => by injection h with _ h2; exact absurd h2 (by decide)))
            rw [← hw8] at hW8 hx8 ⊢
            have HW8 := Lib.hid hW8
            clear hW8 hw8 HSN
            have x0 := cell_of_block hx8 0
            have x1 := cell_of_block hx8 1
            have x2 := cell_of_block hx8 2
            have x3 := cell_of_block hx8 3
            have x4 := cell_of_block hx8 4
            simp at x0 x1 x2 x3 x4
            clear hx8
            have HQ8 := Lib.hid (show s2.size ≤ 4000 * i + 3004 ∧ line ≤ 2 * i + 1 ∧ (L ++ [(⟨2, xt, 0, s1.size, line, 0⟩ : Fn)]).length ≤ 2 * i + 1 ∧ ∀ f ∈ L ++ [(⟨2, xt, 0, s1.size, line, 0⟩ : Fn)], f.e = 0 from ⟨by have := HQN.out.1; have := HZ2S.out; omega, HQN.out.2.1, by rw [List.length_append, List.length_singleton]; have := HQN.out.2.2.1; omega, fun f hf => by
              rcases List.mem_append.1 hf with hf | hf
              · exact HQN.out.2.2.2.1 f hf
              · simp only [List.mem_singleton] at hf; rw [hf]⟩)
            by_cases he0 : xe.tmod 2 = 0
            · have g7 : (xe.tmod 2 != 0) = false := by simpa using he0
              clear he0
              go_wp2
              go_roundw
              case rel => exact ⟨i + 1, s2, line, true, L ++ [(⟨2, xt, 0, s1.size, line, 0⟩ : Fn)], .slice ad2 ln2 cap2, rfl, rfl, rfl, by go_num, HQN.out.2.2.2.2, HLD.out, by have := HQ8.out.1; omega, by have := HQ8.out.2.1; omega, by have := HQ8.out.2.2.1; omega, HQ8.out.2.2.2, HW8.out⟩
              case measure => simp [intOf]; omega
            · have g7 : (xe.tmod 2 != 0) = true := by simpa using he0
              clear he0
              have hq1 := tdiv2_bd HX4.out
              have hq2 : wrap64 (xe.tdiv 2) = xe.tdiv 2 := by unfold wrap64; omega
              have hq3 : IntKind.i64.wrap (xe.tdiv 2) = xe.tdiv 2 := by rw [IntKind.wrap_i64]; omega
              go_wp2_with fail
              refine (end_any (xe.tdiv 2) w8 hq1).mono ?_
              rintro e w9 ⟨k, hk7, rfl, hk9⟩
              obtain ⟨et, het⟩ : ∃ et, et = (endT k).1 := ⟨_, rfl⟩
              obtain ⟨el, hel⟩ : ∃ el, el = (endT k).2.1 := ⟨_, rfl⟩
              obtain ⟨ec, hec⟩ : ∃ ec, ec = (endT k).2.2 := ⟨_, rfl⟩
              have hsm := endT_small k
              have hrem := rem_endT k hk7
              rw [← het, ← hec] at hrem
              have hcut := fun W => lcut_any et W (by rw [het]; omega)
              rw [hrem] at hcut
              have HCUT := Lib.hid hcut
              have HL9 := Lib.hid (show Laid (s2 ++ et) (line + el) false ((L ++ [(⟨2, xt, 0, s1.size, line, 0⟩ : Fn)]) ++ [(⟨4, ByteArray.empty, 0, s2.size + ec, line, 0⟩ : Fn)]) by rw [het, hel, hec]; exact HLD.out.line)
              rw [← het, ← hel, ← hec] at hsm
              rw [← het, ← hel]
              have HW9 := Lib.hid (HW8.out.keep hk9)
              have hec8 : ec ≤ 8 := hsm.2.2
              have hwr9 : IntKind.i64.wrap ((s2.size : Int) + (ec : Int)) = (s2.size : Int) + (ec : Int) := by rw [IntKind.wrap_i64]; omega
              clear hcut hrem hk9 het hel hec hq1 hq2 hq3 g7 x0 x1 x2 x3 x4
              go_upto_region 33 with (fail)
              have hlen9 : (L ++ [(⟨2, xt, 0, s1.size, line, 0⟩ : Fn)]).length ≤ 1000000 := by have := HQ8.out.2.2.1; have := HQN.out.2.2.2.2; have := HN.out; omega
              have hnb9 : bw ∉ (Value.slice ad2 ln2 cap2).ownBlock.toList := own_not_type HW9.out.1 HW9.out.2.2.1 (by decide)
              obtain ⟨v2, W10, hap, hpost⟩ := w_append_drew (⟨4, ByteArray.empty, 0, s2.size + ec, line, 0⟩ : Fn) HW9.out.1 HW9.out.2.1.size hlen9
              have pw9 : w9.cell? ⟨bw, 0, none⟩ = some (.slice ad2 ln2 cap2) := by rw [cell_of_block HW9.out.2.2.1]; rfl
              have k9a : Keep [] w9 (w9.alloc (.cells (wV (⟨4, ByteArray.empty, 0, s2.size + ec, line, 0⟩ : Fn)) 39)).drew := ((Keep.refl _ _).alloc _).drew
              have hsn := Want.snoc (f := (⟨4, ByteArray.empty, 0, s2.size + ec, line, 0⟩ : Fn)) HW9.out k9a hpost
              obtain ⟨ad3, cap3, hv3⟩ := (SlAt.of_owns hsn.1.1).empty
              obtain ⟨ln3, hln3⟩ : ∃ ln3, ln3 = ((L ++ [(⟨2, xt, 0, s1.size, line, 0⟩ : Fn)]) ++ [(⟨4, ByteArray.empty, 0, s2.size + ec, line, 0⟩ : Fn)]).length := ⟨_, rfl⟩
              rw [← hln3] at hv3
              clear hln3
              subst hv3
              have qb := hsn.2.1
              have zb := hsn.2.2.1
              have HSN := Lib.hid hsn.1
              have HCL := Lib.hid (show w9.drew.cell? ⟨bw, 0, none⟩ = some (.slice ad2 ln2 cap2) ∧ (w9.alloc (.cells (wV (⟨4, ByteArray.empty, 0, s2.size + ec, line, 0⟩ : Fn)) 39)).drew.cell? ⟨bw, 0, none⟩ = some (.slice ad2 ln2 cap2) ∧ W10.cell? ⟨bw, 0, none⟩ = some (.slice ad2 ln2 cap2) from ⟨pw9, k9a.cellv pw9 (by simp), qb⟩)
              clear hsn hpost k9a pw9 hlen9 hnb9
              unfold wV at hap
              refine (wpIn_wide (n := 0)).1 ?_
              refine wpIn_fix (.inl rfl) 10 [8, 9] (fun k => if k = 0 then w9.drew else if k = 1 then (w9.alloc (.cells (wV (⟨4, ByteArray.empty, 0, s2.size + ec, line, 0⟩ : Fn)) 39)).drew else W10) (fun w' => w'.cell? ⟨bw, 0, none⟩ = some (.slice ad2 ln2 cap2))
                [.slice ad2 ln2 cap2, .string s2, .int .i64 (s2.size : Nat), .string et, .int .i64 (ec : Nat), .int .i64 ((s2.size : Int) + (ec : Int)), .int .i64 (line : Nat), .agg #[.int .i64 4, .string ⟨#[]⟩, .int .i64 0, .int .i64 ((s2.size : Int) + (ec : Int)), .int .i64 (line : Nat)], .slice (some ⟨w9.heap.size, 0, none⟩) 1 1, .slice ad3 ln3 cap3]
                (by kernel_rfl) (by kernel_rfl) rfl rfl (show _ = W10 from rfl) ?hC ?rest33
              case hC =>
                intro k hk
                rcases k with _ | _ | k
                · exact HCL.out.1
                · exact HCL.out.2.1
                · exact HCL.out.2.2
              case rest33 =>
                intro A hA
                simp only [putVals, List.take, Act.put, List.setIfInBounds_toArray, List.set_cons_succ, List.set_cons_zero] at hA
                subst hA
                refine ⟨?_, fixWrites_cons rfl rfl ?_ (fixWrites_cons rfl rfl ?_ fixWrites_nil), ?_⟩
                · iterate 8
                    refine fixReads_cons rfl ?_ ?_
                    · intro w1 hw1 K Q hK
                      go_simp
                      first
                        | exact hK
                        | (refine (HCUT.out _).mono ?_; rintro e w' ⟨rfl, rfl⟩; exact hK)
                  exact fixReads_skip (by rfl) (fixReads_skip (by rfl) fixReads_nil)
                · intro K Q hK
                  go_simp
                  exact hK
                · exact fun K Q hK => wp_append_eq _ _ _ rfl rfl rfl hap hK
                · simp only [List.drop]
                  gi_upto_region 34 with (fail)
                  clear qb zb hap
                  obtain ⟨w11, hw11⟩ : ∃ w11, w11 = W10.setCell ⟨bw, 0, none⟩ (.slice ad3 ln3 cap3) := ⟨_, rfl⟩
                  rw [← hw11] at HSN ⊢
                  clear hw11
                  have hsum3 : ¬ 9223372036854775807 < s2.size + et.size := by omega
                  have hlz2 : el ≤ 2 := hsm.2.1
                  have HSM := Lib.hid hsm
                  go_wp2
                  go_roundw
                  case rel => exact ⟨i + 1, s2 ++ et, line + el, false, (L ++ [(⟨2, xt, 0, s1.size, line, 0⟩ : Fn)]) ++ [(⟨4, ByteArray.empty, 0, s2.size + ec, line, 0⟩ : Fn)], .slice ad3 ln3 cap3, rfl, by go_num, rfl, by go_num, HQN.out.2.2.2.2, HL9.out, by rw [ByteArray.size_append]; have := HQ8.out.1; have := HSM.out.1; omega, by have := HQ8.out.2.1; omega, by rw [List.length_append, List.length_singleton]; have := HQ8.out.2.2.1; omega, fun f hf => by
                    rcases List.mem_append.1 hf with hf | hf
                    · exact HQ8.out.2.2.2 f hf
                    · simp only [List.mem_singleton] at hf; rw [hf], HSN.out⟩
                  case measure => simp [intOf]; omega
          · have g5 : (xk.tmod 3 == 0) = false := by simpa using hk0
            by_cases hk1 : xk.tmod 3 = 1
            · -- a number
              have g6 : (xk.tmod 3 == 1) = true := by simpa using hk1
              clear hk0 hk1
              go_upto_region 28 with (fail)
              have h2 := two_set02 (v0 := .int .i64 3) (v2 := .int .i64 xn) HV4.out
              obtain ⟨w5, hw5⟩ : ∃ w5, w5 = (w4.setCell ⟨bv, 0, none⟩ (.int .i64 3)).setCell ⟨bv, 2, none⟩ (.int .i64 xn) := ⟨_, rfl⟩
              rw [← hw5] at h2 ⊢
              have HV5 := Lib.hid h2.1
              have HK5 := Lib.hid (show Keep [] w3 w5 from HK4.out.trans h2.2 (fun x hx => by simp at hx; subst hx; exact .inr HBV.out))
              clear h2 hw5 x0 x1 x2 x3 x4 v0 v1 v2 v3 v4 y0 y1 y2 y3 y4
              have hx5 := HK5.out.at_ HX3B.out (by simp)
              have x0 := cell_of_block hx5 0
              have x1 := cell_of_block hx5 1
              have x2 := cell_of_block hx5 2
              have x3 := cell_of_block hx5 3
              have x4 := cell_of_block hx5 4
              simp at x0 x1 x2 x3 x4
              clear hx5
              have HZQ := Lib.hid (itoa_fine HX2.out)
              go_wp2_with fail
              refine (digits_any xn w5 HX2.out).mono ?_
              rintro e w6 ⟨rfl, hk6⟩
              obtain ⟨wd, hwd⟩ : ∃ wd, wd = itoaB xn := ⟨_, rfl⟩
              rw [← hwd]
              have hwz : wd.size ≤ 3002 := by rw [hwd]; have := HZQ.out.2.2.1; omega
              have HLD := Lib.hid (show Laid (s1 ++ wd) line true (L ++ [⟨3, ByteArray.empty, xn, s1.size, line, 0⟩]) by rw [hwd, HS1.out]; exact laid_num HX2.out HLA.out HG.out)
              clear hwd
              have HK6 := Lib.hid (HK5.out.trans0 hk6)
              have HV6 := Lib.hid (hk6.at_ HV5.out (by simp))
              clear hk6 HK5 HV5 g5 g6 x0 x1 x2 x3 x4
              have hsum2 : ¬ 9223372036854775807 < s1.size + wd.size := by omega
              go_upto_region 29 with (fail)
              obtain ⟨s2, hs2⟩ : ∃ s2, s2 = s1 ++ wd := ⟨_, rfl⟩
              rw [← hs2] at HLD ⊢
              have hz2 : s2.size ≤ s1.size + 3002 ∧ s1.size ≤ s.size + 2 := by rw [hs2, ByteArray.size_append, HS1.out, ByteArray.size_append]; have := HG.out.1; omega
              have HZ2S := Lib.hid hz2
              have hz2b : s2.size ≤ 250000 := by omega
              clear hs2 hsum2 hz2 hwz
              have hp6 := HW3.out.keep HK6.out
              have pw := cell_of_block hp6.2.2.1 0
              simp at pw
              have HW6 := Lib.hid hp6
              have hx6 := HK6.out.at_ HX3B.out (by simp)
              have HX6 := Lib.hid hx6
              clear hp6 hx6
              have v0 := cell_of_block HV6.out 0
              have v1 := cell_of_block HV6.out 1
              have v2 := cell_of_block HV6.out 2
              have v3 := cell_of_block HV6.out 3
              have v4 := cell_of_block HV6.out 4
              simp at v0 v1 v2 v3 v4
              go_upto_region 30 with (at_builtin; refine wpList_append_mine _ rfl (.tmp 82) (.tmp 84) 45 rfl w.heap.size 39 i0 (.agg #[.int .i64 0, .string ⟨#[]⟩, .int .i64 0, .int .i64 0, .int .i64 0]) 5 48 Tryd.underlying45 HI.out HZ0.out HZ1.out HZ2.out rfl (by decide) _ _ _ rfl (HW6.out.1.alloc _) ⟨w6.heap.size, 0, none⟩ 1 1 [.int .i64 3, .string ⟨#[]⟩, .int .i64 xn, .int .i64 (s1.size : Nat), .int .i64 (line : Nat)] rfl rfl (cell_new_row _ _ _) (by simp [Value.oneCell']) (by have := HQN.out.2.2.1; have := HQN.out.2.2.2.2; have := HN.out; unfold maxLen; omega) (by have := HQN.out.2.2.1; have := HQN.out.2.2.2.2; have := HN.out; omega) (by have := HW6.out.2.1.size; simp; omega) ?_; intro v' W2 hp2; have hsn := Want.snoc (f := (⟨3, ByteArray.empty, xn, s1.size, line, 0⟩ : Fn)) HW6.out ((Keep.refl _ _).alloc _) hp2; obtain ⟨ad2, cap2, hv2⟩ := (SlAt.of_owns hsn.1.1).empty; obtain ⟨ln2, hln2⟩ : ∃ ln2, ln2 = (L ++ [(⟨3, ByteArray.empty, xn, s1.size, line, 0⟩ : Fn)]).length := ⟨_, rfl⟩; rw [← hln2] at hv2; have HLN2 := Lib.hid hln2; clear hln2; subst hv2; have qb := hsn.2.1; have zb := hsn.2.2.1; have HSN := Lib.hid hsn; clear hp2 hsn)
              clear pw v0 v1 v2 v3 v4 qb zb
              obtain ⟨w8, hw8⟩ : ∃ w8, w8 = W2.setCell ⟨bw, 0, none⟩ (.slice ad2 ln2 cap2) := ⟨_, rfl⟩
              have hW8 := HSN.out.1
              have hx8 := HSN.out.2.2.2.2 bx _ HX6.out HBX.out (fun c f => .inl (fun h => by injection h with _ h2; exact absurd h2 (by decide)))
              rw [← hw8] at hW8 hx8 ⊢
              have HW8 := Lib.hid hW8
              clear hW8 hw8 HSN
              have x0 := cell_of_block hx8 0
              have x1 := cell_of_block hx8 1
              have x2 := cell_of_block hx8 2
              have x3 := cell_of_block hx8 3
              have x4 := cell_of_block hx8 4
              simp at x0 x1 x2 x3 x4
              clear hx8
              have HQ8 := Lib.hid (show s2.size ≤ 4000 * i + 3004 ∧ line ≤ 2 * i + 1 ∧ (L ++ [(⟨3, ByteArray.empty, xn, s1.size, line, 0⟩ : Fn)]).length ≤ 2 * i + 1 ∧ ∀ f ∈ L ++ [(⟨3, ByteArray.empty, xn, s1.size, line, 0⟩ : Fn)], f.e = 0 from ⟨by have := HQN.out.1; have := HZ2S.out; omega, HQN.out.2.1, by rw [List.length_append, List.length_singleton]; have := HQN.out.2.2.1; omega, fun f hf => by
                rcases List.mem_append.1 hf with hf | hf
                · exact HQN.out.2.2.2.1 f hf
                · simp only [List.mem_singleton] at hf; rw [hf]⟩)
              by_cases he0 : xe.tmod 2 = 0
              · have g7 : (xe.tmod 2 != 0) = false := by simpa using he0
                clear he0
                go_wp2
                go_roundw
                case rel => exact ⟨i + 1, s2, line, true, L ++ [(⟨3, ByteArray.empty, xn, s1.size, line, 0⟩ : Fn)], .slice ad2 ln2 cap2, rfl, rfl, rfl, by go_num, HQN.out.2.2.2.2, HLD.out, by have := HQ8.out.1; omega, by have := HQ8.out.2.1; omega, by have := HQ8.out.2.2.1; omega, HQ8.out.2.2.2, HW8.out⟩
                case measure => simp [intOf]; omega
              · have g7 : (xe.tmod 2 != 0) = true := by simpa using he0
                clear he0
                have hq1 := tdiv2_bd HX4.out
                have hq2 : wrap64 (xe.tdiv 2) = xe.tdiv 2 := by unfold wrap64; omega
                have hq3 : IntKind.i64.wrap (xe.tdiv 2) = xe.tdiv 2 := by rw [IntKind.wrap_i64]; omega
                go_wp2_with fail
                refine (end_any (xe.tdiv 2) w8 hq1).mono ?_
                rintro e w9 ⟨k, hk7, rfl, hk9⟩
                obtain ⟨et, het⟩ : ∃ et, et = (endT k).1 := ⟨_, rfl⟩
                obtain ⟨el, hel⟩ : ∃ el, el = (endT k).2.1 := ⟨_, rfl⟩
                obtain ⟨ec, hec⟩ : ∃ ec, ec = (endT k).2.2 := ⟨_, rfl⟩
                have hsm := endT_small k
                have hrem := rem_endT k hk7
                rw [← het, ← hec] at hrem
                have hcut := fun W => lcut_any et W (by rw [het]; omega)
                rw [hrem] at hcut
                have HCUT := Lib.hid hcut
                have HL9 := Lib.hid (show Laid (s2 ++ et) (line + el) false ((L ++ [(⟨3, ByteArray.empty, xn, s1.size, line, 0⟩ : Fn)]) ++ [(⟨4, ByteArray.empty, 0, s2.size + ec, line, 0⟩ : Fn)]) by rw [het, hel, hec]; exact HLD.out.line)
                rw [← het, ← hel, ← hec] at hsm
                rw [← het, ← hel]
                have HW9 := Lib.hid (HW8.out.keep hk9)
                have hec8 : ec ≤ 8 := hsm.2.2
                have hwr9 : IntKind.i64.wrap ((s2.size : Int) + (ec : Int)) = (s2.size : Int) + (ec : Int) := by rw [IntKind.wrap_i64]; omega
                clear hcut hrem hk9 het hel hec hq1 hq2 hq3 g7 x0 x1 x2 x3 x4
                go_upto_region 33 with (fail)
                have hlen9 : (L ++ [(⟨3, ByteArray.empty, xn, s1.size, line, 0⟩ : Fn)]).length ≤ 1000000 := by have := HQ8.out.2.2.1; have := HQN.out.2.2.2.2; have := HN.out; omega
                have hnb9 : bw ∉ (Value.slice ad2 ln2 cap2).ownBlock.toList := own_not_type HW9.out.1 HW9.out.2.2.1 (by decide)
                obtain ⟨v2, W10, hap, hpost⟩ := w_append_drew (⟨4, ByteArray.empty, 0, s2.size + ec, line, 0⟩ : Fn) HW9.out.1 HW9.out.2.1.size hlen9
                have pw9 : w9.cell? ⟨bw, 0, none⟩ = some (.slice ad2 ln2 cap2) := by rw [cell_of_block HW9.out.2.2.1]; rfl
                have k9a : Keep [] w9 (w9.alloc (.cells (wV (⟨4, ByteArray.empty, 0, s2.size + ec, line, 0⟩ : Fn)) 39)).drew := ((Keep.refl _ _).alloc _).drew
                have hsn := Want.snoc (f := (⟨4, ByteArray.empty, 0, s2.size + ec, line, 0⟩ : Fn)) HW9.out k9a hpost
                obtain ⟨ad3, cap3, hv3⟩ := (SlAt.of_owns hsn.1.1).empty
                obtain ⟨ln3, hln3⟩ : ∃ ln3, ln3 = ((L ++ [(⟨3, ByteArray.empty, xn, s1.size, line, 0⟩ : Fn)]) ++ [(⟨4, ByteArray.empty, 0, s2.size + ec, line, 0⟩ : Fn)]).length := ⟨_, rfl⟩
                rw [← hln3] at hv3
                clear hln3
                subst hv3
                have qb := hsn.2.1
                have zb := hsn.2.2.1
                have HSN := Lib.hid hsn.1
                have HCL := Lib.hid (show w9.drew.cell? ⟨bw, 0, none⟩ = some (.slice ad2 ln2 cap2) ∧ (w9.alloc (.cells (wV (⟨4, ByteArray.empty, 0, s2.size + ec, line, 0⟩ : Fn)) 39)).drew.cell? ⟨bw, 0, none⟩ = some (.slice ad2 ln2 cap2) ∧ W10.cell? ⟨bw, 0, none⟩ = some (.slice ad2 ln2 cap2) from ⟨pw9, k9a.cellv pw9 (by simp), qb⟩)
                clear hsn hpost k9a pw9 hlen9 hnb9
                unfold wV at hap
                refine (wpIn_wide (n := 0)).1 ?_
                refine wpIn_fix (.inl rfl) 10 [8, 9] (fun k => if k = 0 then w9.drew else if k = 1 then (w9.alloc (.cells (wV (⟨4, ByteArray.empty, 0, s2.size + ec, line, 0⟩ : Fn)) 39)).drew else W10) (fun w' => w'.cell? ⟨bw, 0, none⟩ = some (.slice ad2 ln2 cap2))
                  [.slice ad2 ln2 cap2, .string s2, .int .i64 (s2.size : Nat), .string et, .int .i64 (ec : Nat), .int .i64 ((s2.size : Int) + (ec : Int)), .int .i64 (line : Nat), .agg #[.int .i64 4, .string ⟨#[]⟩, .int .i64 0, .int .i64 ((s2.size : Int) + (ec : Int)), .int .i64 (line : Nat)], .slice (some ⟨w9.heap.size, 0, none⟩) 1 1, .slice ad3 ln3 cap3]
                  (by kernel_rfl) (by kernel_rfl) rfl rfl (show _ = W10 from rfl) ?hC ?rest33
                case hC =>
                  intro k hk
                  rcases k with _ | _ | k
                  · exact HCL.out.1
                  · exact HCL.out.2.1
                  · exact HCL.out.2.2
                case rest33 =>
                  intro A hA
                  simp only [putVals, List.take, Act.put, List.setIfInBounds_toArray, List.set_cons_succ, List.set_cons_zero] at hA
                  subst hA
                  refine ⟨?_, fixWrites_cons rfl rfl ?_ (fixWrites_cons rfl rfl ?_ fixWrites_nil), ?_⟩
                  · iterate 8
                      refine fixReads_cons rfl ?_ ?_
                      · intro w1 hw1 K Q hK
                        go_simp
                        first
                          | exact hK
                          | (refine (HCUT.out _).mono ?_; rintro e w' ⟨rfl, rfl⟩; exact hK)
                    exact fixReads_skip (by rfl) (fixReads_skip (by rfl) fixReads_nil)
                  · intro K Q hK
                    go_simp
                    exact hK
                  · exact fun K Q hK => wp_append_eq _ _ _ rfl rfl rfl hap hK
                  · simp only [List.drop]
                    gi_upto_region 34 with (fail)
                    clear qb zb hap
                    obtain ⟨w11, hw11⟩ : ∃ w11, w11 = W10.setCell ⟨bw, 0, none⟩ (.slice ad3 ln3 cap3) := ⟨_, rfl⟩
                    rw [← hw11] at HSN ⊢
                    clear hw11
                    have hsum3 : ¬ 9223372036854775807 < s2.size + et.size := by omega
                    have hlz2 : el ≤ 2 := hsm.2.1
                    have HSM := Lib.hid hsm
                    go_wp2
                    go_roundw
                    case rel => exact ⟨i + 1, s2 ++ et, line + el, false, (L ++ [(⟨3, ByteArray.empty, xn, s1.size, line, 0⟩ : Fn)]) ++ [(⟨4, ByteArray.empty, 0, s2.size + ec, line, 0⟩ : Fn)], .slice ad3 ln3 cap3, rfl, by go_num, rfl, by go_num, HQN.out.2.2.2.2, HL9.out, by rw [ByteArray.size_append]; have := HQ8.out.1; have := HSM.out.1; omega, by have := HQ8.out.2.1; omega, by rw [List.length_append, List.length_singleton]; have := HQ8.out.2.2.1; omega, fun f hf => by
                      rcases List.mem_append.1 hf with hf | hf
                      · exact HQ8.out.2.2.2 f hf
                      · simp only [List.mem_singleton] at hf; rw [hf], HSN.out⟩
                    case measure => simp [intOf]; omega
            · -- plain
              have g6 : (xk.tmod 3 == 1) = false := by simpa using hk1
              clear hk0 hk1
              go_wp2_with fail
              refine (lplain_any xt w4 (by omega)).mono ?_
              rintro e wp ⟨pb, rfl, hpl, hkp⟩
              have HPL := Lib.hid hpl
              have HVP := Lib.hid (hkp.at_ HV4.out (by simp))
              have HKP := Lib.hid (HK4.out.trans0 hkp)
              clear hpl hkp HV4 HK4 x0 x1 x2 x3 x4 v0 v1 v2 v3 v4 y0 y1 y2 y3 y4
              have hx4 := HKP.out.at_ HX3B.out (by simp)
              have x0 := cell_of_block hx4 0
              have x1 := cell_of_block hx4 1
              have x2 := cell_of_block hx4 2
              have x3 := cell_of_block hx4 3
              have x4 := cell_of_block hx4 4
              simp at x0 x1 x2 x3 x4
              clear hx4
              have v0 := cell_of_block HVP.out 0
              have y0 := free_of_block HVP.out 0
              have v1 := cell_of_block HVP.out 1
              have y1 := free_of_block HVP.out 1
              have v2 := cell_of_block HVP.out 2
              have y2 := free_of_block HVP.out 2
              have v3 := cell_of_block HVP.out 3
              have y3 := free_of_block HVP.out 3
              have v4 := cell_of_block HVP.out 4
              have y4 := free_of_block HVP.out 4
              simp at v0 v1 v2 v3 v4
              cases pb with
              | false =>
                clear v0 v1 v2 v3 v4 y0 y1 y2 y3 y4 x0 x1 x2 x3 x4
                have HKW := Lib.hid (HW3.out.2.1.trans0 HKP.out)
                go_wp2_with fail
                refine (known_true _ (HT.out.1.keep0 HKW.out)).mono ?_
                rintro e W1 ⟨rfl, hk1⟩
                have HK1 := Lib.hid (HKW.out.trans0 hk1)
                clear hk1
                go_wp2
                go_ret
                exact ⟨rfl, HK1.out⟩
              | true =>
                go_upto_region 20 with (fail)
                have h2 := two_set (v0 := .int .i64 1) (v1 := .string xt) HVP.out
                obtain ⟨w5, hw5⟩ : ∃ w5, w5 = (wp.setCell ⟨bv, 0, none⟩ (.int .i64 1)).setCell ⟨bv, 1, none⟩ (.string xt) := ⟨_, rfl⟩
                rw [← hw5] at h2 ⊢
                have HV5 := Lib.hid h2.1
                have HK5 := Lib.hid (show Keep [] w3 w5 from HKP.out.trans h2.2 (fun x hx => by simp at hx; subst hx; exact .inr HBV.out))
                clear h2 hw5 x0 x1 x2 x3 x4 v0 v1 v2 v3 v4 y0 y1 y2 y3 y4
                have hx5 := HK5.out.at_ HX3B.out (by simp)
                have x0 := cell_of_block hx5 0
                have x1 := cell_of_block hx5 1
                have x2 := cell_of_block hx5 2
                have x3 := cell_of_block hx5 3
                have x4 := cell_of_block hx5 4
                simp at x0 x1 x2 x3 x4
                clear hx5
                obtain ⟨wd, hwd⟩ : ∃ wd, wd = xt := ⟨_, rfl⟩
                have hwz : wd.size ≤ 3002 := by rw [hwd]; omega
                have HLD := Lib.hid (show Laid (s1 ++ wd) line true (L ++ [⟨1, xt, 0, s1.size, line, 0⟩]) by rw [hwd, HS1.out]; exact laid_plain (HPL.out trivial) HLA.out HG.out)
                obtain ⟨w6, hw6⟩ : ∃ w6, w6 = w5 := ⟨_, rfl⟩
                rw [← hw6] at HK5 HV5 x0 x1 x2 x3 x4 ⊢
                have HK6 := HK5
                have HV6 := HV5
                clear HK5 HV5 hw6 g5 g6
                have hsum2 : ¬ 9223372036854775807 < s1.size + wd.size := by omega
                go_upto_region 29 with (fail)
                rw [← hwd]
                clear hwd
                obtain ⟨s2, hs2⟩ : ∃ s2, s2 = s1 ++ wd := ⟨_, rfl⟩
                rw [← hs2] at HLD ⊢
                have hz2 : s2.size ≤ s1.size + 3002 ∧ s1.size ≤ s.size + 2 := by rw [hs2, ByteArray.size_append, HS1.out, ByteArray.size_append]; have := HG.out.1; omega
                have HZ2S := Lib.hid hz2
                have hz2b : s2.size ≤ 250000 := by omega
                clear hs2 hsum2 hz2 hwz
                have hp6 := HW3.out.keep HK6.out
                have pw := cell_of_block hp6.2.2.1 0
                simp at pw
                have HW6 := Lib.hid hp6
                have hx6 := HK6.out.at_ HX3B.out (by simp)
                have HX6 := Lib.hid hx6
                clear hp6 hx6
                have v0 := cell_of_block HV6.out 0
                have v1 := cell_of_block HV6.out 1
                have v2 := cell_of_block HV6.out 2
                have v3 := cell_of_block HV6.out 3
                have v4 := cell_of_block HV6.out 4
                simp at v0 v1 v2 v3 v4
                go_upto_region 30 with (at_builtin; refine wpList_append_mine _ rfl (.tmp 82) (.tmp 84) 45 rfl w.heap.size 39 i0 (.agg #[.int .i64 0, .string ⟨#[]⟩, .int .i64 0, .int .i64 0, .int .i64 0]) 5 48 Tryd.underlying45 HI.out HZ0.out HZ1.out HZ2.out rfl (by decide) _ _ _ rfl (HW6.out.1.alloc _) ⟨w6.heap.size, 0, none⟩ 1 1 [.int .i64 1, .string xt, .int .i64 0, .int .i64 (s1.size : Nat), .int .i64 (line : Nat)] rfl rfl (cell_new_row _ _ _) (by simp [Value.oneCell']) (by have := HQN.out.2.2.1; have := HQN.out.2.2.2.2; have := HN.out; unfold maxLen; omega) (by have := HQN.out.2.2.1; have := HQN.out.2.2.2.2; have := HN.out; omega) (by have := HW6.out.2.1.size; simp; omega) ?_; intro v' W2 hp2; have hsn := Want.snoc (f := (⟨1, xt, 0, s1.size, line, 0⟩ : Fn)) HW6.out ((Keep.refl _ _).alloc _) hp2; obtain ⟨ad2, cap2, hv2⟩ := (SlAt.of_owns hsn.1.1).empty; obtain ⟨ln2, hln2⟩ : ∃ ln2, ln2 = (L ++ [(⟨1, xt, 0, s1.size, line, 0⟩ : Fn)]).length := ⟨_, rfl⟩; rw [← hln2] at hv2; have HLN2 := Lib.hid hln2; clear hln2; subst hv2; have qb := hsn.2.1; have zb := hsn.2.2.1; have HSN := Lib.hid hsn; clear hp2 hsn)
                clear pw v0 v1 v2 v3 v4 qb zb
                obtain ⟨w8, hw8⟩ : ∃ w8, w8 = W2.setCell ⟨bw, 0, none⟩ (.slice ad2 ln2 cap2) := ⟨_, rfl⟩
                have hW8 := HSN.out.1
                have hx8 := HSN.out.2.2.2.2 bx _ HX6.out HBX.out (fun c f => .inl (fun h => by injection h with _ h2; exact absurd h2 (by decide)))
                rw [← hw8] at hW8 hx8 ⊢
                have HW8 := Lib.hid hW8
                clear hW8 hw8 HSN
                have x0 := cell_of_block hx8 0
                have x1 := cell_of_block hx8 1
                have x2 := cell_of_block hx8 2
                have x3 := cell_of_block hx8 3
                have x4 := cell_of_block hx8 4
                simp at x0 x1 x2 x3 x4
                clear hx8
                have HQ8 := Lib.hid (show s2.size ≤ 4000 * i + 3004 ∧ line ≤ 2 * i + 1 ∧ (L ++ [(⟨1, xt, 0, s1.size, line, 0⟩ : Fn)]).length ≤ 2 * i + 1 ∧ ∀ f ∈ L ++ [(⟨1, xt, 0, s1.size, line, 0⟩ : Fn)], f.e = 0 from ⟨by have := HQN.out.1; have := HZ2S.out; omega, HQN.out.2.1, by rw [List.length_append, List.length_singleton]; have := HQN.out.2.2.1; omega, fun f hf => by
                  rcases List.mem_append.1 hf with hf | hf
                  · exact HQN.out.2.2.2.1 f hf
                  · simp only [List.mem_singleton] at hf; rw [hf]⟩)
                by_cases he0 : xe.tmod 2 = 0
                · have g7 : (xe.tmod 2 != 0) = false := by simpa using he0
                  clear he0
                  go_wp2
                  go_roundw
                  case rel => exact ⟨i + 1, s2, line, true, L ++ [(⟨1, xt, 0, s1.size, line, 0⟩ : Fn)], .slice ad2 ln2 cap2, rfl, rfl, rfl, by go_num, HQN.out.2.2.2.2, HLD.out, by have := HQ8.out.1; omega, by have := HQ8.out.2.1; omega, by have := HQ8.out.2.2.1; omega, HQ8.out.2.2.2, HW8.out⟩
                  case measure => simp [intOf]; omega
                · have g7 : (xe.tmod 2 != 0) = true := by simpa using he0
                  clear he0
                  have hq1 := tdiv2_bd HX4.out
                  have hq2 : wrap64 (xe.tdiv 2) = xe.tdiv 2 := by unfold wrap64; omega
                  have hq3 : IntKind.i64.wrap (xe.tdiv 2) = xe.tdiv 2 := by rw [IntKind.wrap_i64]; omega
                  go_wp2_with fail
                  refine (end_any (xe.tdiv 2) w8 hq1).mono ?_
                  rintro e w9 ⟨k, hk7, rfl, hk9⟩
                  obtain ⟨et, het⟩ : ∃ et, et = (endT k).1 := ⟨_, rfl⟩
                  obtain ⟨el, hel⟩ : ∃ el, el = (endT k).2.1 := ⟨_, rfl⟩
                  obtain ⟨ec, hec⟩ : ∃ ec, ec = (endT k).2.2 := ⟨_, rfl⟩
                  have hsm := endT_small k
                  have hrem := rem_endT k hk7
                  rw [← het, ← hec] at hrem
                  have hcut := fun W => lcut_any et W (by rw [het]; omega)
                  rw [hrem] at hcut
                  have HCUT := Lib.hid hcut
                  have HL9 := Lib.hid (show Laid (s2 ++ et) (line + el) false ((L ++ [(⟨1, xt, 0, s1.size, line, 0⟩ : Fn)]) ++ [(⟨4, ByteArray.empty, 0, s2.size + ec, line, 0⟩ : Fn)]) by rw [het, hel, hec]; exact HLD.out.line)
                  rw [← het, ← hel, ← hec] at hsm
                  rw [← het, ← hel]
                  have HW9 := Lib.hid (HW8.out.keep hk9)
                  have hec8 : ec ≤ 8 := hsm.2.2
                  have hwr9 : IntKind.i64.wrap ((s2.size : Int) + (ec : Int)) = (s2.size : Int) + (ec : Int) := by rw [IntKind.wrap_i64]; omega
                  clear hcut hrem hk9 het hel hec hq1 hq2 hq3 g7 x0 x1 x2 x3 x4
                  go_upto_region 33 with (fail)
                  have hlen9 : (L ++ [(⟨1, xt, 0, s1.size, line, 0⟩ : Fn)]).length ≤ 1000000 := by have := HQ8.out.2.2.1; have := HQN.out.2.2.2.2; have := HN.out; omega
                  have hnb9 : bw ∉ (Value.slice ad2 ln2 cap2).ownBlock.toList := own_not_type HW9.out.1 HW9.out.2.2.1 (by decide)
                  obtain ⟨v2, W10, hap, hpost⟩ := w_append_drew (⟨4, ByteArray.empty, 0, s2.size + ec, line, 0⟩ : Fn) HW9.out.1 HW9.out.2.1.size hlen9
                  have pw9 : w9.cell? ⟨bw, 0, none⟩ = some (.slice ad2 ln2 cap2) := by rw [cell_of_block HW9.out.2.2.1]; rfl
                  have k9a : Keep [] w9 (w9.alloc (.cells (wV (⟨4, ByteArray.empty, 0, s2.size + ec, line, 0⟩ : Fn)) 39)).drew := ((Keep.refl _ _).alloc _).drew
                  have hsn := Want.snoc (f := (⟨4, ByteArray.empty, 0, s2.size + ec, line, 0⟩ : Fn)) HW9.out k9a hpost
                  obtain ⟨ad3, cap3, hv3⟩ := (SlAt.of_owns hsn.1.1).empty
                  obtain ⟨ln3, hln3⟩ : ∃ ln3, ln3 = ((L ++ [(⟨1, xt, 0, s1.size, line, 0⟩ : Fn)]) ++ [(⟨4, ByteArray.empty, 0, s2.size + ec, line, 0⟩ : Fn)]).length := ⟨_, rfl⟩
                  rw [← hln3] at hv3
                  clear hln3
                  subst hv3
                  have qb := hsn.2.1
                  have zb := hsn.2.2.1
                  have HSN := Lib.hid hsn.1
                  have HCL := Lib.hid (show w9.drew.cell? ⟨bw, 0, none⟩ = some (.slice ad2 ln2 cap2) ∧ (w9.alloc (.cells (wV (⟨4, ByteArray.empty, 0, s2.size + ec, line, 0⟩ : Fn)) 39)).drew.cell? ⟨bw, 0, none⟩ = some (.slice ad2 ln2 cap2) ∧ W10.cell? ⟨bw, 0, none⟩ = some (.slice ad2 ln2 cap2) from ⟨pw9, k9a.cellv pw9 (by simp), qb⟩)
                  clear hsn hpost k9a pw9 hlen9 hnb9
                  unfold wV at hap
                  refine (wpIn_wide (n := 0)).1 ?_
                  refine wpIn_fix (.inl rfl) 10 [8, 9] (fun k => if k = 0 then w9.drew else if k = 1 then (w9.alloc (.cells (wV (⟨4, ByteArray.empty, 0, s2.size + ec, line, 0⟩ : Fn)) 39)).drew else W10) (fun w' => w'.cell? ⟨bw, 0, none⟩ = some (.slice ad2 ln2 cap2))
                    [.slice ad2 ln2 cap2, .string s2, .int .i64 (s2.size : Nat), .string et, .int .i64 (ec : Nat), .int .i64 ((s2.size : Int) + (ec : Int)), .int .i64 (line : Nat), .agg #[.int .i64 4, .string ⟨#[]⟩, .int .i64 0, .int .i64 ((s2.size : Int) + (ec : Int)), .int .i64 (line : Nat)], .slice (some ⟨w9.heap.size, 0, none⟩) 1 1, .slice ad3 ln3 cap3]
                    (by kernel_rfl) (by kernel_rfl) rfl rfl (show _ = W10 from rfl) ?hC ?rest33
                  case hC =>
                    intro k hk
                    rcases k with _ | _ | k
                    · exact HCL.out.1
                    · exact HCL.out.2.1
                    · exact HCL.out.2.2
                  case rest33 =>
                    intro A hA
                    simp only [putVals, List.take, Act.put, List.setIfInBounds_toArray, List.set_cons_succ, List.set_cons_zero] at hA
                    subst hA
                    refine ⟨?_, fixWrites_cons rfl rfl ?_ (fixWrites_cons rfl rfl ?_ fixWrites_nil), ?_⟩
                    · iterate 8
                        refine fixReads_cons rfl ?_ ?_
                        · intro w1 hw1 K Q hK
                          go_simp
                          first
                            | exact hK
                            | (refine (HCUT.out _).mono ?_; rintro e w' ⟨rfl, rfl⟩; exact hK)
                      exact fixReads_skip (by rfl) (fixReads_skip (by rfl) fixReads_nil)
                    · intro K Q hK
                      go_simp
                      exact hK
                    · exact fun K Q hK => wp_append_eq _ _ _ rfl rfl rfl hap hK
                    · simp only [List.drop]
                      gi_upto_region 34 with (fail)
                      clear qb zb hap
                      obtain ⟨w11, hw11⟩ : ∃ w11, w11 = W10.setCell ⟨bw, 0, none⟩ (.slice ad3 ln3 cap3) := ⟨_, rfl⟩
                      rw [← hw11] at HSN ⊢
                      clear hw11
                      have hsum3 : ¬ 9223372036854775807 < s2.size + et.size := by omega
                      have hlz2 : el ≤ 2 := hsm.2.1
                      have HSM := Lib.hid hsm
                      go_wp2
                      go_roundw
                      case rel => exact ⟨i + 1, s2 ++ et, line + el, false, (L ++ [(⟨1, xt, 0, s1.size, line, 0⟩ : Fn)]) ++ [(⟨4, ByteArray.empty, 0, s2.size + ec, line, 0⟩ : Fn)], .slice ad3 ln3 cap3, rfl, by go_num, rfl, by go_num, HQN.out.2.2.2.2, HL9.out, by rw [ByteArray.size_append]; have := HQ8.out.1; have := HSM.out.1; omega, by have := HQ8.out.2.1; omega, by rw [List.length_append, List.length_singleton]; have := HQ8.out.2.2.1; omega, fun f hf => by
                        rcases List.mem_append.1 hf with hf | hf
                        · exact HQ8.out.2.2.2 f hf
                        · simp only [List.mem_singleton] at hf; rw [hf], HSN.out⟩
                      case measure => simp [intOf]; omega
        · have g3 := dec_lt_t (show (300 : Int) < (xt.size : Int) by omega)
          have g4 := dec_ltn_t (show 300 < xt.size by omega)
          go_wp2_with fail
          refine (known_true _ (HT.out.1.keep0 HW2.out.2.1)).mono ?_
          rintro e W1 ⟨rfl, hk1⟩
          have HK1 := Lib.hid (HW2.out.2.1.trans0 hk1)
          clear hk1
          go_wp2
          go_ret
          exact ⟨rfl, HK1.out⟩
      · have g1 := dec_lt_f (show ¬ (i : Int) < (n : Int) by omega)
        have g2 := dec_ltn_f hin
        have HSC := Lib.hid HQ.out.2.1.stop
        have HWQ := Lib.hid HQ.out.2.2.2.2.2.2
        have HLE := Lib.hid (show L.length ≤ 2 * i ∧ (∀ f ∈ L, f.e = 0) ∧ i ≤ 60 from ⟨HQ.out.2.2.2.2.1, HQ.out.2.2.2.2.2.1, by omega⟩)
        clear HQ
        cases sm with
        | true =>
          have pw := cell_of_block HWQ.out.2.2.1 0
          simp at pw
          go_upto_region 39 with (at_builtin; refine wpList_append_mine _ rfl (.tmp 114) (.tmp 119) 45 rfl w.heap.size 39 i0 (.agg #[.int .i64 0, .string ⟨#[]⟩, .int .i64 0, .int .i64 0, .int .i64 0]) 5 48 Tryd.underlying45 HI.out HZ0.out HZ1.out HZ2.out rfl (by decide) _ _ _ rfl (HWQ.out.1.alloc _) ⟨wr.heap.size, 0, none⟩ 1 1 [.int .i64 4, .string ⟨#[]⟩, .int .i64 0, .int .i64 (s.size : Nat), .int .i64 (line : Nat)] rfl rfl (cell_new_row _ _ _) (by simp [Value.oneCell']) (by have := HLE.out.1; have := HLE.out.2.2; unfold maxLen; omega) (by have := HLE.out.1; have := HLE.out.2.2; omega) (by have := HWQ.out.2.1.size; simp; omega) ?_; intro v' W2 hp2; have hsn := Want.snoc (f := (⟨4, ByteArray.empty, 0, s.size, line, 0⟩ : Fn)) HWQ.out ((Keep.refl _ _).alloc _) hp2; obtain ⟨ad2, cap2, hv2⟩ := (SlAt.of_owns hsn.1.1).empty; obtain ⟨ln2, hln2⟩ : ∃ ln2, ln2 = (L ++ [(⟨4, ByteArray.empty, 0, s.size, line, 0⟩ : Fn)]).length := ⟨_, rfl⟩; rw [← hln2] at hv2; have HLN2 := Lib.hid hln2; clear hln2; subst hv2; have qb := hsn.2.1; have zb := hsn.2.2.1; have HSN := Lib.hid hsn; clear hp2 hsn)
          clear pw qb zb
          obtain ⟨w8, hw8⟩ : ∃ w8, w8 = W2.setCell ⟨bw, 0, none⟩ (.slice ad2 ln2 cap2) := ⟨_, rfl⟩
          have hW8 := HSN.out.1
          rw [← hw8] at hW8 ⊢
          clear hw8 HSN
          obtain ⟨L2, hL2⟩ : ∃ L2, L2 = L ++ [(⟨4, ByteArray.empty, 0, s.size, line, 0⟩ : Fn)] := ⟨_, rfl⟩
          rw [← hL2] at hW8 HLN2
          have HSC2 := Lib.hid (show scn s 0 1 false = L2 by rw [HSC.out, hL2]; rfl)
          have HLE2 := Lib.hid (show L2.length ≤ 1000 ∧ ∀ f ∈ L2, f.e = 0 from ⟨by rw [hL2, List.length_append, List.length_singleton]; have := HLE.out; omega, fun f hf => by
            rw [hL2] at hf
            rcases List.mem_append.1 hf with hf | hf
            · exact HLE.out.2.1 f hf
            · simp only [List.mem_singleton] at hf; rw [hf]⟩)
          have HW8 := Lib.hid hW8
          clear hW8 hL2 HSC HLE HWQ
          have hsl2 : SlAt w8 (.slice ad2 ln2 cap2) L2.length (wCs L2) := SlAt.of_owns HW8.out.1
          have hvb : ∀ g, (Value.slice ad2 ln2 cap2).ownBlock = some g → g < w8.heap.size := fun g hg => (HW8.out.1.lt g hg).2
          have hbwl : bw < w8.heap.size := lt_of_block HW8.out.2.2.1
          go_upto_region 41 with (fail)
          obtain ⟨bn, hbn⟩ : ∃ bn, bn = w8.heap.size := ⟨_, rfl⟩
          obtain ⟨w9, hw9⟩ : ∃ w9, w9 = (w8.alloc (.cells #[.int .i64 0] 3)).alloc (.cells #[.bool true] 4) := ⟨_, rfl⟩
          have hk9 : Keep [] w8 w9 := by rw [hw9]; exact ((Keep.refl _ _).alloc _).alloc _
          have hn9 : w9.heap[bn]? = some (.cells #[.int .i64 0] 3 (0, 0)) := by rw [hw9, hbn]; exact ((Keep.refl [] (w8.alloc (.cells #[.int .i64 0] 3))).alloc _).at_ (World.alloc_heap_new w8 _) (by simp)
          have ho9 : w9.heap[bn + 1]? = some (.cells #[.bool true] 4 (0, 0)) := by
            rw [hw9, hbn]
            have := World.alloc_heap_new (w8.alloc (.cells #[.int .i64 0] 3)) (.cells #[.bool true] 4)
            rwa [World.size_alloc] at this
          rw [← hw9, ← hbn]
          have hs9 : bn + 1 < w9.heap.size := lt_of_block ho9
          clear hw9
          go_wp2_with fail
          refine (scan_any s w9).mono ?_
          rintro e w10 ⟨rfl, hw10⟩
          obtain ⟨tb, htb⟩ : ∃ tb, tb = w9.heap.size := ⟨_, rfl⟩
          have hk10 : Keep [] w9 w10 := by rw [hw10]; exact (Keep.refl _ _).alloc _
          have hbx10 : BoxNeed tb s w10 := by rw [hw10, htb]; exact World.alloc_heap_new w9 _
          rw [← htb]
          clear hw10
          have hs10 : tb < w10.heap.size := lt_of_block hbx10
          have HK10 := Lib.hid (show Keep [] w w10 from HW8.out.2.1.trans0 (hk9.trans0 hk10))
          have HT10 := Lib.hid (HT.out.keep0 HK10.out)
          have hwl : w.heap.size ≤ w8.heap.size := HW8.out.2.1.size
          have hlt : ∀ x ∈ tqB, x < bn := fun x hx => by have := HT.out.lt x hx; omega
          have HLT := Lib.hid hlt
          have HT2 := Lib.hid (show Two (bn + 1) bn 0 w10 from ⟨hk10.at_ ho9 (by simp), hk10.at_ hn9 (by simp), by omega⟩)
          have HWB := Lib.hid (hk10.at_ (hk9.at_ HW8.out.2.2.1 (by simp)) (by simp))
          have HSL := Lib.hid ((hsl2.keep0 hk9).keep0 hk10)
          have HBB := Lib.hid (show bn + 1 < w10.heap.size ∧ w.heap.size ≤ bn ∧ bw < bn from ⟨by have := hk10.size; omega, by omega, by omega⟩)
          have HVB := Lib.hid (show ∀ g, (Value.slice ad2 ln2 cap2).ownBlock = some g → g ∉ [bn + 1, bn] from fun g hg => by have := hvb g hg; simp; omega)
          have nf1 : ∀ w, (binOp .eql 36 (.func (.func 44) #[] #[.pointer (some ⟨tb, 0, none⟩)]) Value.nilFunc).run Tryd.prog w = .ok (.bool false) w := fun _ => by kernel_rfl
          have hit := scan1_iters tb s (by omega)
          rw [HSC2.out] at hit
          have hcall := hit (.func (.func 25) #[] #[.pointer (some ⟨bn + 1, 0, none⟩), .pointer (some ⟨bn, 0, none⟩), .pointer (some ⟨bw, 0, none⟩)]) (WInv (bn + 1) bn w10) (fun _ _ _ => False) [bn + 1, bn] w10 ⟨hbx10, HT10.out⟩ (fun b hb => by cases hb)
            (fun b hb => by
              rcases List.mem_cons.1 hb with rfl | hb
              · exact ⟨hs10, by simp; omega⟩
              · have := hlt b hb
                have := HBB.out
                exact ⟨by omega, by simp; omega⟩)
            (WInv.steady (by have := HBB.out; omega)) (fun _ _ _ _ _ h => h.elim)
            (fun k hk fp W1 hj => w1_round (by have := HLE2.out.1; omega) HLE2.out.2 HWB.out HSL.out (by have := HBB.out; simp; omega) HVB.out k hk fp W1 hj) (fun b hb => by have := HBB.out; simp at hb; omega)
            ⟨rfl, Keep.refl _ _, HT2.out⟩
          have HCALL := Lib.hid hcall
          clear hcall hit hsl2 hvb hbwl hk9 hn9 ho9 hs9 hk10 hbx10 hs10 hwl hlt hbn htb
          go_wp2_with fail
          refine HCALL.out.mono ?_
          clear HCALL
          rintro e w11 ⟨rfl, ⟨fp', _, hk11, hT11⟩ | ⟨_, _, _, h⟩⟩
          · rw [List.length_map, ← HLN2.out] at hT11
            have p0 := cell_of_block hT11.1 0
            have p1 := cell_of_block hT11.2.1 0
            have pw := cell_of_block (hk11.at_ HWB.out (by have := HBB.out; simp; omega)) 0
            simp at p0 p1 pw
            have HT11 := Lib.hid (HT10.out.keep hk11 (fun x hx hm => by have := HLT.out x hx; simp at hm; omega))
            have HK11 := Lib.hid (HK10.out.trans hk11 (fun x hx => .inr (by have := HBB.out; simp at hx; omega)))
            clear hT11 hk11
            go_wp2_with fail
            refine (known_true _ HT11.out.1).mono ?_
            rintro e w12 ⟨rfl, hk12⟩
            have HK12 := Lib.hid (HK11.out.trans0 hk12)
            clear hk12
            go_wp2
            go_ret
            exact ⟨rfl, HK12.out⟩
          · exact h.elim
        | false =>
          obtain ⟨ad2, cap2, hv2⟩ := (SlAt.of_owns HWQ.out.1).empty
          obtain ⟨ln2, hln2⟩ : ∃ ln2, ln2 = L.length := ⟨_, rfl⟩
          rw [← hln2] at hv2
          have HLN2 := Lib.hid hln2
          clear hln2
          subst hv2
          have HSC2 := Lib.hid (show scn s 0 1 false = L by rw [HSC.out]; unfold endF; simp)
          have HLE2 := Lib.hid (show L.length ≤ 1000 ∧ ∀ f ∈ L, f.e = 0 from ⟨by have := HLE.out; omega, HLE.out.2.1⟩)
          have HW8 := HWQ
          clear HSC HLE HWQ
          obtain ⟨w8, hw8⟩ : ∃ w8, w8 = wr := ⟨_, rfl⟩
          rw [← hw8] at HW8 ⊢
          clear hw8
          obtain ⟨L2, hL2⟩ : ∃ L2, L2 = L := ⟨_, rfl⟩
          rw [← hL2] at HSC2 HLE2 HW8 HLN2
          clear hL2
          have hsl2 : SlAt w8 (.slice ad2 ln2 cap2) L2.length (wCs L2) := SlAt.of_owns HW8.out.1
          have hvb : ∀ g, (Value.slice ad2 ln2 cap2).ownBlock = some g → g < w8.heap.size := fun g hg => (HW8.out.1.lt g hg).2
          have hbwl : bw < w8.heap.size := lt_of_block HW8.out.2.2.1
          go_upto_region 41 with (fail)
          obtain ⟨bn, hbn⟩ : ∃ bn, bn = w8.heap.size := ⟨_, rfl⟩
          obtain ⟨w9, hw9⟩ : ∃ w9, w9 = (w8.alloc (.cells #[.int .i64 0] 3)).alloc (.cells #[.bool true] 4) := ⟨_, rfl⟩
          have hk9 : Keep [] w8 w9 := by rw [hw9]; exact ((Keep.refl _ _).alloc _).alloc _
          have hn9 : w9.heap[bn]? = some (.cells #[.int .i64 0] 3 (0, 0)) := by rw [hw9, hbn]; exact ((Keep.refl [] (w8.alloc (.cells #[.int .i64 0] 3))).alloc _).at_ (World.alloc_heap_new w8 _) (by simp)
          have ho9 : w9.heap[bn + 1]? = some (.cells #[.bool true] 4 (0, 0)) := by
            rw [hw9, hbn]
            have := World.alloc_heap_new (w8.alloc (.cells #[.int .i64 0] 3)) (.cells #[.bool true] 4)
            rwa [World.size_alloc] at this
          rw [← hw9, ← hbn]
          have hs9 : bn + 1 < w9.heap.size := lt_of_block ho9
          clear hw9
          go_wp2_with fail
          refine (scan_any s w9).mono ?_
          rintro e w10 ⟨rfl, hw10⟩
          obtain ⟨tb, htb⟩ : ∃ tb, tb = w9.heap.size := ⟨_, rfl⟩
          have hk10 : Keep [] w9 w10 := by rw [hw10]; exact (Keep.refl _ _).alloc _
          have hbx10 : BoxNeed tb s w10 := by rw [hw10, htb]; exact World.alloc_heap_new w9 _
          rw [← htb]
          clear hw10
          have hs10 : tb < w10.heap.size := lt_of_block hbx10
          have HK10 := Lib.hid (show Keep [] w w10 from HW8.out.2.1.trans0 (hk9.trans0 hk10))
          have HT10 := Lib.hid (HT.out.keep0 HK10.out)
          have hwl : w.heap.size ≤ w8.heap.size := HW8.out.2.1.size
          have hlt : ∀ x ∈ tqB, x < bn := fun x hx => by have := HT.out.lt x hx; omega
          have HLT := Lib.hid hlt
          have HT2 := Lib.hid (show Two (bn + 1) bn 0 w10 from ⟨hk10.at_ ho9 (by simp), hk10.at_ hn9 (by simp), by omega⟩)
          have HWB := Lib.hid (hk10.at_ (hk9.at_ HW8.out.2.2.1 (by simp)) (by simp))
          have HSL := Lib.hid ((hsl2.keep0 hk9).keep0 hk10)
          have HBB := Lib.hid (show bn + 1 < w10.heap.size ∧ w.heap.size ≤ bn ∧ bw < bn from ⟨by have := hk10.size; omega, by omega, by omega⟩)
          have HVB := Lib.hid (show ∀ g, (Value.slice ad2 ln2 cap2).ownBlock = some g → g ∉ [bn + 1, bn] from fun g hg => by have := hvb g hg; simp; omega)
          have nf1 : ∀ w, (binOp .eql 36 (.func (.func 44) #[] #[.pointer (some ⟨tb, 0, none⟩)]) Value.nilFunc).run Tryd.prog w = .ok (.bool false) w := fun _ => by kernel_rfl
          have hit := scan1_iters tb s (by omega)
          rw [HSC2.out] at hit
          have hcall := hit (.func (.func 25) #[] #[.pointer (some ⟨bn + 1, 0, none⟩), .pointer (some ⟨bn, 0, none⟩), .pointer (some ⟨bw, 0, none⟩)]) (WInv (bn + 1) bn w10) (fun _ _ _ => False) [bn + 1, bn] w10 ⟨hbx10, HT10.out⟩ (fun b hb => by cases hb)
            (fun b hb => by
              rcases List.mem_cons.1 hb with rfl | hb
              · exact ⟨hs10, by simp; omega⟩
              · have := hlt b hb
                have := HBB.out
                exact ⟨by omega, by simp; omega⟩)
            (WInv.steady (by have := HBB.out; omega)) (fun _ _ _ _ _ h => h.elim)
            (fun k hk fp W1 hj => w1_round (by have := HLE2.out.1; omega) HLE2.out.2 HWB.out HSL.out (by have := HBB.out; simp; omega) HVB.out k hk fp W1 hj) (fun b hb => by have := HBB.out; simp at hb; omega)
            ⟨rfl, Keep.refl _ _, HT2.out⟩
          have HCALL := Lib.hid hcall
          clear hcall hit hsl2 hvb hbwl hk9 hn9 ho9 hs9 hk10 hbx10 hs10 hwl hlt hbn htb
          go_wp2_with fail
          refine HCALL.out.mono ?_
          clear HCALL
          rintro e w11 ⟨rfl, ⟨fp', _, hk11, hT11⟩ | ⟨_, _, _, h⟩⟩
          · rw [List.length_map, ← HLN2.out] at hT11
            have p0 := cell_of_block hT11.1 0
            have p1 := cell_of_block hT11.2.1 0
            have pw := cell_of_block (hk11.at_ HWB.out (by have := HBB.out; simp; omega)) 0
            simp at p0 p1 pw
            have HT11 := Lib.hid (HT10.out.keep hk11 (fun x hx hm => by have := HLT.out x hx; simp at hm; omega))
            have HK11 := Lib.hid (HK10.out.trans hk11 (fun x hx => .inr (by have := HBB.out; simp at hx; omega)))
            clear hT11 hk11
            go_wp2_with fail
            refine (known_true _ HT11.out.1).mono ?_
            rintro e w12 ⟨rfl, hk12⟩
            have HK12 := Lib.hid (HK11.out.trans0 hk12)
            clear hk12
            go_wp2
            go_ret
            exact ⟨rfl, HK12.out⟩
          · exact h.elim
  · have f1 := dec_lt_t (show (60 : Int) < (n : Int) by omega)
    have f2 := dec_ltn_t (show 60 < n by omega)
    go_enter Tryd.func7, Tryd.ntmps7
    go_wp2_with fail
    refine (known_true _ HT.out.1).mono ?_
    rintro e W1 ⟨rfl, hk1⟩
    go_wp2
    go_ret
    exact ⟨rfl, hk1⟩
end Go.Proofs.YtbmapellhcdipaaDoor
namespace Go.Proofs.YtbmapellhcdipaaDoor
open Go.ChangeShapes Go.WideShapes Go.ChangeAt Go.RowKit
set_option linter.unusedVariables false

theorem own : ownKnob Tryd.prog.godebug = none := by kernel_rfl
theorem gTab : Tryd.prog.globalNamed "math/bits.deBruijn64tab" = some 4 := by kernel_rfl
theorem gTabType : (Tryd.prog.globals[4]?).map (·.type) = some 137 := by kernel_rfl
theorem gPType : (Tryd.prog.globals[0]?).map (·.type) = some 120 := by kernel_rfl
theorem gSType : (Tryd.prog.globals[1]?).map (·.type) = some 60 := by kernel_rfl
theorem gRType : (Tryd.prog.globals[2]?).map (·.type) = some 60 := by kernel_rfl
theorem cellsTab : Tryd.prog.cellsOf 137 = 64 := by kernel_rfl
theorem cellsU8 : Tryd.prog.cellsOf 5 = 1 := by kernel_rfl
theorem cellsP : Tryd.prog.cellsOf 120 = 20 := by kernel_rfl
theorem cellsU64 : Tryd.prog.cellsOf 102 = 1 := by kernel_rfl
theorem cellsES : Tryd.prog.cellsOf 135 = 1 := by kernel_rfl
theorem cellsStr : Tryd.prog.cellsOf 9 = 1 := by kernel_rfl
theorem laidOut : laidOutB Tryd.prog = true := by kernel_rfl
theorem esStar : "*" ++ "errors.errorString" = "*errors.errorString" := by decide
theorem esRow (u : TypeId) (h : Tryd.prog.typeName? 3 u = some "*errors.errorString") : u = 133 :=
  typeName_ptr_named (nm := "errors.errorString") (by rw [esStar]; kernel_rfl) (by kernel_rfl) (by decide) u (by rw [esStar]; exact h)

/-- What each row lists. -/
def laid1 : List (String × DataW Unit) := [("math/bits.deBruijn32tab", Rows.laid_math_bits_deBruijn32tab), ("math/bits.deBruijn64tab", Rows.laid_math_bits_deBruijn64tab), ("internal/strconv.uint64pow10", Rows.laid_internal_strconv_uint64pow10), ("strconv.ErrRange", Rows.laid_strconv_ErrRange), ("strconv.ErrSyntax", Rows.laid_strconv_ErrSyntax)]

theorem tab_head {P : Program} {W : World} {name : String} {k : IntKind} {zs : List Int} {rest : List (String × DataW Unit)} {g : Nat} {t e : TypeId} {n : Nat}
    (hg : P.globalNamed name = some g) (hty : (P.globals[g]?).map (·.type) = some t) (ht : P.underlying t = some (.array n e)) (he : P.underlying e = some (.int k)) (hce : P.cellsOf e = 1) (hct : P.cellsOf t = n)
    (h : laidMet P ((name, Lib.tabData k zs) :: rest) W) : Lib.TabIs P W name k zs := by
  obtain ⟨ps, ⟨g', t', cs, fuel, p, q, hg', ht', hvar, hd, _, _⟩, _⟩ := h
  obtain rfl := Option.some.inj (hg.symm.trans hg')
  obtain rfl := Option.some.inj (hty.symm.trans ht')
  unfold Lib.TabIs
  rw [hvar, ← Lib.cells_of_tab ht he hce hct hd]

/-- WHAT THE ROW's LIST GIVES. -/
theorem table {W : World} (h : laidMetH Tryd.prog laid1 W) : TQ W := by
  have h0 : laidMet Tryd.prog (("math/bits.deBruijn32tab", Rows.laid_math_bits_deBruijn32tab) :: ("math/bits.deBruijn64tab", Rows.laid_math_bits_deBruijn64tab) :: ("internal/strconv.uint64pow10", Rows.laid_internal_strconv_uint64pow10) :: ("strconv.ErrRange", Rows.laid_strconv_ErrRange) :: ("strconv.ErrSyntax", Rows.laid_strconv_ErrSyntax) :: []) W := h
  have h1 := h0.tail
  have h2 := h1.tail
  have h3 := h2.tail
  have h4 := h3.tail
  have t1 : Lib.TabIs Tryd.prog W "math/bits.deBruijn64tab" .u8 (Lib.deBruijn64tab.map Int.ofNat) := tab_head gTab gTabType Tryd.underlying137 Tryd.underlying5 cellsU8 cellsTab h1
  have t2 : Lib.TabIs Tryd.prog W "internal/strconv.uint64pow10" .u64 Lib.pow10Tab := tab_head gP gPType Tryd.underlying120 Tryd.underlying102 cellsU64 cellsP h2
  refine ⟨by have := t1.cell gTab 15 (by decide); exact this, t2, ?_, ?_⟩
  · obtain ⟨a, s, hv, _⟩ := laid_sentinel h4 gS gSType Tryd.underlying60 esRow Tryd.underlying133 Tryd.underlying135 rfl rfl Tryd.underlying9 cellsES cellsStr
    exact ⟨_, _, hv⟩
  · obtain ⟨a, s, hv, _⟩ := laid_sentinel h3 gR gRType Tryd.underlying60 esRow Tryd.underlying133 Tryd.underlying135 rfl rfl Tryd.underlying9 cellsES cellsStr
    exact ⟨_, _, hv⟩

def rangeS : ByteArray := { data := #[118, 97, 108, 117, 101, 32, 111, 117, 116, 32, 111, 102, 32, 114, 97, 110, 103, 101] }
def syntaxS : ByteArray := { data := #[105, 110, 118, 97, 108, 105, 100, 32, 115, 121, 110, 116, 97, 120] }
/-- So many blocks has the settled world. -/
noncomputable def low : Nat := (World.holding Tryd.prog default ⟨#[], #[], []⟩).heap.size
/-- A WORLD FOR THE WITNESS: the settled one, the tables' blocks holding what their initialisers lay; two blocks more, of the errors. -/
noncomputable def laidWorld (os : Os) : World :=
  let w0 := World.holding Tryd.prog os ⟨#[.cells #[.string rangeS] 135, .cells #[.string syntaxS] 135], #[], []⟩
  { w0 with heap := ((((w0.heap.modify 3 (fun
      | .cells _ t frozen => .cells (Lib.deBruijn32tab.map fun (z : Nat) => Value.int .u8 z).toArray t frozen
      | o => o)).modify 4 (fun
      | .cells _ t frozen => .cells (Lib.deBruijn64tab.map fun (z : Nat) => Value.int .u8 z).toArray t frozen
      | o => o)).modify 0 (fun
      | .cells _ t frozen => .cells (Lib.pow10Tab.map fun (z : Int) => Value.int .u64 z).toArray t frozen
      | o => o)).modify 2 (fun
      | .cells _ t frozen => .cells #[.iface 133 (.pointer (some ⟨low, 0, none⟩))] t frozen
      | o => o)).modify 1 (fun
      | .cells _ t frozen => .cells #[.iface 133 (.pointer (some ⟨low + 1, 0, none⟩))] t frozen
      | o => o) }
end Go.Proofs.YtbmapellhcdipaaDoor
namespace Go.Proofs.YtbmapellhcdipaaDoor.quoteWords
open Go.ChangeShapes Go.WideShapes Go.ChangeAt Go.RowKit
open Go.ChangeMaps (open_string shut_string)
set_option linter.unusedVariables false

set_option maxRecDepth 100000 in
theorem contract (H : Type) (enc : TypeId × Value → H) (W : World) (base : Nat) (args : Array Value) (ds gs : List (DataW H)) (before : List MemPlace)
    (hval : ∀ (j : Nat) t v, Tryd.f7.params[j]? = some t → args[j]? = some v → Value.okWide Tryd.prog W .any base t v)
    (hW : DataW.Whole enc Tryd.prog Tryd.f7.params.toList Rows.quoteWordsSpec.vars false W args.toList ds gs before) (hL : laidMetH Tryd.prog laid1 W) :
    Calls Tryd.prog 7 args W fun e W' => ∃ v, e = .returned v ∧ Rows.quoteWordsSpec.post enc Tryd.prog Tryd.f7 false true false false W args v W' := by
  have hW' := hW
  obtain ⟨p, q, hA0, hV, rfl, hfz, hnd⟩ := hW
  have hA : DataW.TrodAll enc Tryd.prog W 0 (fun _ => true) true Tryd.f7.params.toList args.toList ds p := hA0
  rw [Tryd.params7] at hA hval
  obtain ⟨v0, vs0, d0, ds0, p0, q0, hargs, rfl, rfl, h0, r0⟩ := trodAll_cons hA
  obtain ⟨rfl, rfl, rfl⟩ := trodAll_nil r0
  obtain rfl : args = #[v0] := by cases args; simp_all
  obtain ⟨rfl, rfl⟩ := trodVars_none hV
  clear hA0
  simp only [List.append_nil] at hW'
  have hlt : ∀ x ∈ p0, x.block < W.heap.size := fun x hx => by simpa using hW'.lt x (by simpa using hx)
  have k0 := h0
  obtain ⟨xs0, hx0⟩ := open_elems 5 (by decide) encQ Tryd.underlying44 cellsItem item_reads (hval 0 44 v0 rfl rfl) h0
  refine (quoteWords_walk v0 xs0 W hx0 (table hL)).mono fun e W' ⟨he, hk⟩ => ?_
  subst he
  have hb := hk.below
  exact ⟨_, rfl, _, _, _, [], p0 ++ [], [], hW', trodAll_cons_mk (shut_bool Tryd.underlying4 _) trodAll_mk0, trodAll_cons_mk (Below.trod laidOut (by kernel_rfl) (of_decide_eq_true (by kernel_rfl)) k0 hb (fun x hx => hlt x (by simp [hx]))) trodAll_mk0, rfl, hb.frame _, fun h => by cases h⟩

theorem laid_met (os : Os) : laidMet Tryd.prog laid1 ((laidWorld os).forCall (fun _ _ => 0) ⟨#[], #[.slice none 0 0], []⟩).memory :=
  laidMet_of_run' 8 (by kernel_rfl) (by kernel_rfl)
theorem reads (os : Os) {H : Type} (enc : TypeId × Value → H) : ∃ places, DataW.whole enc Tryd.prog ((laidWorld os).forCall (fun _ _ => 0) ⟨#[], #[.slice none 0 0], []⟩).memory Tryd.f7.params.toList Rows.quoteWordsSpec.vars false #[(.slice none 0 0 : Value)].toList 8 = some ([.nil], [], places) :=
  ⟨[], by kernel_rfl⟩

set_option maxRecDepth 100000 in
theorem lifted (os : Os) (started : os.Started) (H : Type) (enc : TypeId × Value → H) (F : Stop.Interp) :
    ReturnsInHanded {} Tryd.checked os 7 .any ((OpenSpec.ofChange Rows.quoteWordsSpec).preRow enc Tryd.prog Tryd.f7 Rows.quoteWordsRow.domain false Rows.quoteWordsRow.laid) (((OpenSpec.ofChange Rows.quoteWordsSpec).at F).post enc Tryd.prog Tryd.f7 false true false false) := by
  obtain ⟨places, hx⟩ := reads os enc
  refine returnsInHanded_of_row (C := Tryd.checked) (s := OpenSpec.ofChange Rows.quoteWordsSpec) own started (by kernel_rfl) Tryd.func7
    (witness_row_at (enc := enc) (C := Tryd.checked) false (laidWorld os) #[.slice none 0 0] rfl (by kernel_rfl) (by kernel_rfl) (by kernel_rfl)
      (OpenSpec.preRow_of_cond 8 hx (by kernel_rfl) (fun k hk => by cases hk) (by kernel_rfl) (laid_met os))) ?_
  intro W base args ds gs before hval hW _ _ _ hL _ _
  exact contract H enc W base args ds gs before hval hW hL

theorem said : Rows.QuoteWordsSaid :=
  OpenClaim.holds_of_cond 7 Tryd.f7 rfl rfl rfl rfl rfl rfl rfl ⟨rfl, rfl, rfl, rfl, rfl⟩ rfl rfl rfl rfl rfl (by kernel_rfl) Tryd.func7 (by kernel_rfl)
    (of_decide_eq_true (by kernel_rfl)) (by unfold Func.isWrapper; first | (rw [if_pos (by decide +kernel)]; kernel_rfl) | (rw [if_neg (by decide +kernel)]; exact ⟨rfl, rfl⟩))
    (fun os started H enc _ F => by rw [OpenClaim.pre_eq_preRow]; exact lifted os started H enc F)

/-- No parameter wants a stand-in; the program's own looks are off. -/
theorem plain (f : FuncId) (fn : Func) (hf : Tryd.pinned.checked.prog.funcNamed "hearsay/hearsaylaw4.QuoteWords" = some f) (hfn : Tryd.pinned.checked.prog.funcs[f]? = some fn) :
    true = Tryd.pinned.checked.prog.looks [] ∧ ∀ (j : Nat) t, fn.params[j]? = some t → Tryd.pinned.checked.prog.wantsStandIn t = false := by
  obtain rfl : f = 7 := Option.some.inj ((show Tryd.prog.funcNamed "hearsay/hearsaylaw4.QuoteWords" = some 7 by kernel_rfl).symm.trans hf) |>.symm
  obtain rfl : fn = Tryd.f7 := (Option.some.inj (Tryd.func7.symm.trans hfn)).symm
  refine ⟨by kernel_rfl, fun j t ht => ?_⟩
  rw [Tryd.params7] at ht
  have hm := Array.mem_of_getElem? ht
  simp at hm
  subst hm
  exact (show Tryd.prog.wantsStandIn 44 = false by kernel_rfl)

/-- THE CARD. -/
theorem card : Rows.QuoteWordsCardSaid :=
  Claim7.holds_tied_plain_at .later [] _ _ _ _ said (fun _ h => by cases h) (by kernel_rfl) (fun _ h => by cases h) quoteWords_row_tie rfl ⟨rfl, rfl⟩ (by kernel_rfl) rfl plain (by kernel_rfl)
end Go.Proofs.YtbmapellhcdipaaDoor.quoteWords
