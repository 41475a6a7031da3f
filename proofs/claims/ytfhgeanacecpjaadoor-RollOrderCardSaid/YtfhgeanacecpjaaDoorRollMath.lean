/-
  Plain laws of a Roll's state: two words of bits and a count.
-/
import Derived.WalkKit
import Derived.Lib.TrailingZeros
namespace Go.Proofs.YtfhgeanacecpjaaDoor
set_option linter.unusedVariables false

/-- Is a number a site? -/
def siteB (n : Int) : Bool := decide (1 ≤ n ∧ n ≤ 16)
/-- The bits of j that are not in l. -/
def butNot (j l : Nat) : Nat := j &&& (4294967295 - l)
/-- Is n a member? -/
def hasB (j l : Nat) (n : Int) : Bool := siteB n && (butNot j l).testBit n.toNat
def knownB (j l : Nat) (n : Int) : Bool := siteB n && (j ||| l).testBit n.toNat
def withBit (j : Nat) (n : Int) : Nat := if siteB n then j ||| 2 ^ n.toNat else j
def joinR (j l : Nat) (n : Int) : Bool := hasB (withBit j n) l n != hasB j l n
def leaveR (j l : Nat) (n : Int) : Bool := hasB j (withBit l n) n != hasB j l n

theorem site_yes {n : Int} (h : siteB n = true) : 1 ≤ n ∧ n ≤ 16 := by simpa [siteB] using h
theorem site_mk {n : Int} (h : 1 ≤ n) (h' : n ≤ 16) : siteB n = true := by simp [siteB, h, h']
theorem site_no {n : Int} (h : siteB n = false) : n < 1 ∨ 16 < n := by simp [siteB] at h; omega

theorem testBit_butNot (j l i : Nat) (hl : l < 4294967296) (hj : j < 4294967296) : (butNot j l).testBit i = (j.testBit i && !l.testBit i) := by
  unfold butNot
  rw [Nat.testBit_and, show 4294967295 - l = 2 ^ 32 - (l + 1) by omega, Nat.testBit_two_pow_sub_succ (by omega)]
  by_cases h : i < 32
  · simp [h]
  · have : j.testBit i = false := Nat.testBit_lt_two_pow (Nat.lt_of_lt_of_le hj (by rw [show (4294967296 : Nat) = 2 ^ 32 by decide]; exact Nat.pow_le_pow_right (by omega) (by omega)))
    simp [this]
theorem butNot_lt (j l : Nat) (hj : j < 131072) : butNot j l < 131072 := Nat.lt_of_le_of_lt Nat.and_le_left hj
theorem or_lt17 (j l : Nat) (hj : j < 131072) (hl : l < 131072) : j ||| l < 131072 := Nat.or_lt_two_pow (n := 17) hj hl
theorem pow_lt17 {n : Int} (h : siteB n = true) : 2 ^ n.toNat < 131072 := by
  have := site_yes h
  exact Nat.lt_of_le_of_lt (Nat.pow_le_pow_right (by omega) (show n.toNat ≤ 16 by omega)) (by decide)
theorem withBit_lt (j : Nat) (n : Int) (hj : j < 131072) : withBit j n < 131072 := by
  unfold withBit
  split
  · exact or_lt17 _ _ hj (pow_lt17 ‹_›)
  · exact hj
theorem hasB_eq (j l : Nat) (n : Int) (hj : j < 131072) (hl : l < 131072) : hasB j l n = (siteB n && (j.testBit n.toNat && !l.testBit n.toNat)) := by
  unfold hasB; rw [testBit_butNot _ _ _ (by omega) (by omega)]
theorem knownB_eq (j l : Nat) (n : Int) : knownB j l n = (siteB n && (j.testBit n.toNat || l.testBit n.toNat)) := by
  unfold knownB; rw [Nat.testBit_or]
theorem testBit_withBit (j : Nat) (n : Int) (i : Nat) : (withBit j n).testBit i = (j.testBit i || (siteB n && decide (n.toNat = i))) := by
  unfold withBit
  cases h : siteB n <;> simp [Nat.testBit_or, Nat.testBit_two_pow]
/-- The walk's form of a bit. -/
theorem bit_test (x i : Nat) : ((((x / 2 ^ i &&& 1 : Nat) : Int)) == 1) = x.testBit i := by
  rw [Nat.and_one_is_mod, Nat.testBit_eq_decide_div_mod_eq]
  generalize x / 2 ^ i % 2 = y
  rw [Bool.eq_iff_iff, beq_iff_eq, decide_eq_true_iff]; omega
theorem bit_test' (x i : Nat) : (((x / 2 ^ i % 2 : Nat) : Int) == 1) = x.testBit i := by
  rw [Nat.testBit_eq_decide_div_mod_eq]
  generalize x / 2 ^ i % 2 = y
  rw [Bool.eq_iff_iff, beq_iff_eq, decide_eq_true_iff]; omega
/-- The numbers of the bits that are set, rising. -/
def bitList (x : Nat) : List Int := ((List.range 17).filter fun i => x.testBit i).map Int.ofNat

/-- The lowest bit of a word, and the word without it. -/
theorem low_spec (y : Nat) (h0 : y ≠ 0) (h : y < 131072) : Lib.ctz 32 y ≤ 16 ∧ y.testBit (Lib.ctz 32 y) = true ∧ (∀ i, i < Lib.ctz 32 y → y.testBit i = false) ∧
    (∀ i, (y &&& (y - 1)).testBit i = (y.testBit i && decide (i ≠ Lib.ctz 32 y))) ∧ (y &&& (y - 1)) < y := by
  obtain ⟨m, hm, hk⟩ := Lib.ctzFrom_spec 32 y (by omega) (by omega)
  have e : Lib.ctz 32 y = Lib.ctzFrom 32 y := by simp [Lib.ctz, h0]
  rw [e]
  generalize Lib.ctzFrom 32 y = k at *
  have hp : 0 < 2 ^ k := Nat.two_pow_pos k
  have t1 : ∀ i, y.testBit i = (decide (k ≤ i) && (2 * m + 1).testBit (i - k)) := fun i => by rw [hm, Nat.testBit_two_pow_mul]
  have e2 : y - 1 = 2 ^ k * (2 * m) + (2 ^ k - 1) := by rw [hm, Nat.mul_add]; omega
  have t2 : ∀ i, (y - 1).testBit i = if i < k then (2 ^ k - 1).testBit i else (2 * m).testBit (i - k) := fun i => by
    rw [e2, Nat.testBit_two_pow_mul_add _ (by omega)]
  have hk16 : k ≤ 16 := by
    rcases Nat.lt_or_ge 16 k with hh | hh
    · exfalso
      have : 2 ^ 17 ≤ 2 ^ k := Nat.pow_le_pow_right (by omega) hh
      have : 2 ^ k * 1 ≤ y := by rw [hm]; exact Nat.mul_le_mul_left _ (by omega)
      omega
    · exact hh
  refine ⟨hk16, ?_, ?_, ?_, ?_⟩
  · rw [t1]; simp
  · intro i hi; rw [t1]; simp; omega
  · intro i
    rw [Nat.testBit_and, t1, t2]
    rcases Nat.lt_trichotomy i k with hi | hi | hi
    · have : ¬ k ≤ i := by omega
      simp [this]
    · subst hi; simp
    · have h1 : k ≤ i := by omega
      have h2 : ¬ i < k := by omega
      obtain ⟨d, hd⟩ : ∃ d, i - k = d + 1 := ⟨i - k - 1, by omega⟩
      have h3 : i ≠ k := by omega
      simp [h1, h2, hd, h3, Nat.testBit_succ, Nat.mul_add_div]
  · exact Nat.lt_of_le_of_lt Nat.and_le_right (by omega)

theorem bitList_zero : bitList 0 = [] := by simp [bitList]
theorem bitList_step (y : Nat) (h0 : y ≠ 0) (h : y < 131072) : bitList y = (Lib.ctz 32 y : Int) :: bitList (y &&& (y - 1)) := by
  obtain ⟨hk, hb, hlow, hand, _⟩ := low_spec y h0 h
  generalize Lib.ctz 32 y = k at *
  have hr : List.range 17 = List.range' 0 k ++ (k :: List.range' (k + 1) (16 - k)) := by
    rw [List.range_eq_range', ← List.range'_succ, show 16 - k + 1 = 17 - k by omega]
    have := List.range'_append (s := 0) (m := k) (n := 17 - k) (step := 1)
    simp at this
    rw [this]; congr 1; omega
  unfold bitList
  rw [hr]
  simp only [List.filter_append, List.filter_cons, hb, if_true]
  have f1 : List.filter (fun i => y.testBit i) (List.range' 0 k) = [] := by
    rw [List.filter_eq_nil_iff]; intro i hi; simp at hi; simp [hlow i hi]
  have f2 : List.filter (fun i => (y &&& (y - 1)).testBit i) (List.range' 0 k) = [] := by
    rw [List.filter_eq_nil_iff]; intro i hi; simp at hi; rw [hand]; simp [hlow i hi]
  have f3 : List.filter (fun i => (y &&& (y - 1)).testBit i) (List.range' (k + 1) (16 - k)) = List.filter (fun i => y.testBit i) (List.range' (k + 1) (16 - k)) := by
    apply List.filter_congr; intro i hi; simp [List.mem_range'] at hi; obtain ⟨d, hd, rfl⟩ := hi; rw [hand]
    have : k + 1 + d ≠ k := by omega
    simp [this]
  have f4 : (y &&& (y - 1)).testBit k = false := by rw [hand]; simp
  rw [f1, f2, f3, f4]
  simp
theorem bitList_len (y : Nat) : (bitList y).length ≤ 17 := by
  unfold bitList
  rw [List.length_map]
  exact Nat.le_trans (List.length_filter_le _ _) (by simp)
theorem bitList_mem (y : Nat) (n : Int) : n ∈ bitList y ↔ (0 ≤ n ∧ n ≤ 16 ∧ y.testBit n.toNat = true) := by
  unfold bitList
  simp only [List.mem_map, List.mem_filter, List.mem_range]
  constructor
  · rintro ⟨a, ⟨h1, h2⟩, rfl⟩; simp; exact ⟨by omega, h2⟩
  · rintro ⟨h1, h2, h3⟩; exact ⟨n.toNat, ⟨by omega, h3⟩, by simp; omega⟩

def bit1 (b : Bool) : Nat := if b then 1 else 0
/-- How many bits of a byte are set. -/
def pop8 (i : Nat) : Nat := bit1 (i.testBit 0) + bit1 (i.testBit 1) + bit1 (i.testBit 2) + bit1 (i.testBit 3) + bit1 (i.testBit 4) + bit1 (i.testBit 5) + bit1 (i.testBit 6) + bit1 (i.testBit 7)
theorem bit1_le (b : Bool) : bit1 b ≤ 1 := by cases b <;> decide
theorem pop8_le (i : Nat) : pop8 i ≤ 8 := by
  unfold pop8
  have := bit1_le (i.testBit 0); have := bit1_le (i.testBit 1); have := bit1_le (i.testBit 2); have := bit1_le (i.testBit 3)
  have := bit1_le (i.testBit 4); have := bit1_le (i.testBit 5); have := bit1_le (i.testBit 6); have := bit1_le (i.testBit 7)
  omega
/-- How many bits of a word are set. -/
def popC (x : Nat) : Nat := (bitList x).length
theorem popC_eq (x : Nat) : popC x = bit1 (x.testBit 0) + bit1 (x.testBit 1) + bit1 (x.testBit 2) + bit1 (x.testBit 3) + bit1 (x.testBit 4) + bit1 (x.testBit 5) + bit1 (x.testBit 6) + bit1 (x.testBit 7)
    + bit1 (x.testBit 8) + bit1 (x.testBit 9) + bit1 (x.testBit 10) + bit1 (x.testBit 11) + bit1 (x.testBit 12) + bit1 (x.testBit 13) + bit1 (x.testBit 14) + bit1 (x.testBit 15) + bit1 (x.testBit 16) := by
  unfold popC bitList
  rw [List.length_map, ← List.countP_eq_length_filter, show List.range 17 = [0, 1, 2, 3, 4, 5, 6, 7, 8, 9, 10, 11, 12, 13, 14, 15, 16] from by decide]
  simp only [List.countP_cons, List.countP_nil, bit1]
  omega
theorem popC_split (x a b c : Nat) (hx : x < 131072) (ha : a = x / 65536 % 256) (hb : b = x / 256 % 256) (hc : c = x % 256) : popC x = pop8 a + pop8 b + pop8 c := by
  have ta : ∀ i, a.testBit i = (decide (i < 8) && x.testBit (i + 16)) := fun i => by
    rw [ha, show (256 : Nat) = 2 ^ 8 by decide, Nat.testBit_mod_two_pow, show (65536 : Nat) = 2 ^ 16 by decide, Nat.testBit_div_two_pow]
  have tb : ∀ i, b.testBit i = (decide (i < 8) && x.testBit (i + 8)) := fun i => by
    rw [hb, show x / 256 % 256 = x / 2 ^ 8 % 2 ^ 8 by rfl, Nat.testBit_mod_two_pow, Nat.testBit_div_two_pow]
  have tc : ∀ i, c.testBit i = (decide (i < 8) && x.testBit i) := fun i => by
    rw [hc, show (256 : Nat) = 2 ^ 8 by decide, Nat.testBit_mod_two_pow]
  have tx : ∀ i, 17 ≤ i → x.testBit i = false := fun i hi => Nat.testBit_lt_two_pow (Nat.lt_of_lt_of_le hx (by rw [show (131072 : Nat) = 2 ^ 17 by decide]; exact Nat.pow_le_pow_right (by omega) hi))
  rw [popC_eq]
  simp only [pop8, ta, tb, tc]
  simp [bit1, tx]
  omega
theorem popC_le (x : Nat) : popC x ≤ 17 := bitList_len x

/-- Do sites rise, from above a number on? -/
def risingFrom : Int → List Int → Bool
  | _, [] => true
  | last, n :: r => siteB n && (decide (last < n) && risingFrom n r)
/-- Sites as bits. -/
def bitsOf (w : Nat) : List Int → Nat
  | [] => w
  | n :: r => bitsOf (w ||| 2 ^ n.toNat) r
theorem bitsOf_lt : ∀ (l : List Int) (w : Nat) (last : Int), w < 131072 → risingFrom last l = true → bitsOf w l < 131072
  | [], w, _, h, _ => h
  | n :: r, w, last, h, hr => by
    simp [risingFrom] at hr
    exact bitsOf_lt r _ n (or_lt17 _ _ h (pow_lt17 hr.1)) hr.2.2

theorem rising_sites : ∀ (l : List Int) (last : Int), risingFrom last l = true → ∀ x ∈ l, siteB x = true
  | [], _, _, x, hx => by cases hx
  | n :: r, last, h, x, hx => by
    simp [risingFrom] at h
    rcases List.mem_cons.1 hx with e | e
    · rw [e]; exact h.1
    · exact rising_sites r n h.2.2 x e
theorem bitsOf_snoc : ∀ (l : List Int) (w : Nat) (x : Int), bitsOf w (l ++ [x]) = bitsOf w l ||| 2 ^ x.toNat
  | [], _, _ => rfl
  | n :: r, w, x => by simp only [List.cons_append, bitsOf]; exact bitsOf_snoc r _ x
theorem bitsOf_take (l : List Int) (k : Nat) (hk : k < l.length) (hs : siteB l[k] = true) : bitsOf 0 (l.take (k + 1)) = withBit (bitsOf 0 (l.take k)) l[k] := by
  rw [List.take_succ_eq_append_getElem hk, bitsOf_snoc]
  simp [withBit, hs]
theorem bitsOf_bit0 : ∀ (l : List Int) (w : Nat) (last : Int), w.testBit 0 = false → risingFrom last l = true → (bitsOf w l).testBit 0 = false
  | [], w, _, h, _ => h
  | n :: r, w, last, h, hr => by
    simp [risingFrom] at hr
    have hs := site_yes hr.1
    refine bitsOf_bit0 r _ n ?_ hr.2.2
    rw [Nat.testBit_or, h, Nat.testBit_two_pow]
    simp; omega
end Go.Proofs.YtfhgeanacecpjaaDoor
