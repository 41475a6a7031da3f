/-
  The pieces of a text; runes as a text: plain.
-/
import Derived.Test.YtbidppjhenfjdaaGreatDoorGlyP
import Derived.Laws.Cover4
import Derived.Laws.IdiomStrings
namespace Go.Proofs.YtbidppjhenfjdaaGreatDoor
set_option linter.unusedVariables false
set_option linter.unusedSimpArgs false

/-- The places where a text's pieces begin, from i on. -/
def cut (s : ByteArray) (i : Nat) : List Nat := if h : i < s.size then i :: cut s (i + (dec s i).2) else []
termination_by s.size - i
decreasing_by have := dec_n h; omega
theorem cut_step {s : ByteArray} {i : Nat} (h : i < s.size) : cut s i = i :: cut s (i + (dec s i).2) := by rw [cut, dif_pos h]
theorem cut_end {s : ByteArray} {i : Nat} (h : ¬ i < s.size) : cut s i = [] := by rw [cut, dif_neg h]

/-- Up to i a text's pieces begin at l. -/
inductive At (s : ByteArray) : List Nat → Nat → Prop
  | zero : At s [] 0
  | step {l : List Nat} {i : Nat} : At s l i → i < s.size → At s (l ++ [i]) (i + (dec s i).2)

namespace At
variable {s : ByteArray} {l : List Nat} {i : Nat}
theorem le (h : At s l i) : i ≤ s.size := by
  induction h with
  | zero => exact Nat.zero_le _
  | step _ hi _ => exact (dec_n hi).2.2
theorem cut (h : At s l i) : cut s 0 = l ++ Proofs.YtbidppjhenfjdaaGreatDoor.cut s i := by
  induction h with
  | zero => rfl
  | step _ hi ih => rw [ih, cut_step hi]; simp
theorem len (h : At s l i) : l.length ≤ i := by
  induction h with
  | zero => exact Nat.le_refl _
  | step _ hi ih => have := dec_n hi; simp; omega
theorem len4 (h : At s l i) : i ≤ 4 * l.length := by
  induction h with
  | zero => exact Nat.le_refl _
  | step _ hi ih => have := dec_n hi; simp; omega
theorem done (h : At s l i) (hi : ¬ i < s.size) : l = Proofs.YtbidppjhenfjdaaGreatDoor.cut s 0 ∧ i = s.size := by
  have := h.cut
  rw [cut_end hi, List.append_nil] at this
  exact ⟨this.symm, by have := h.le; omega⟩
theorem lt (h : At s l i) : ∀ j ∈ l, j < i := by
  induction h with
  | zero => simp
  | step _ hi ih =>
    intro j hj
    have := dec_n hi
    rcases List.mem_append.1 hj with hj | hj
    · have := ih j hj; omega
    · simp at hj; omega
theorem cnt (h : At s l i) (hi : i < s.size) : l.length < (Proofs.YtbidppjhenfjdaaGreatDoor.cut s 0).length := by rw [h.cut, cut_step hi]; simp
theorem get (h : At s l i) (hi : i < s.size) : (Proofs.YtbidppjhenfjdaaGreatDoor.cut s 0)[l.length]? = some i := by rw [h.cut, cut_step hi]; simp
theorem cnt_le (h : At s l i) : l.length ≤ (Proofs.YtbidppjhenfjdaaGreatDoor.cut s 0).length := by rw [h.cut]; simp
theorem take (h : At s l i) : l = (Proofs.YtbidppjhenfjdaaGreatDoor.cut s 0).take l.length := by rw [h.cut]; simp
theorem zero_iff (h : At s l i) : l.length = 0 ↔ i = 0 := by
  have := h.len; have := h.len4; omega
/-- No rune leaps over a place where a piece ends. -/
theorem over (h : At s l i) : ∀ j, j < i → j + wid s j ≤ i := by
  induction h with
  | zero => intro j hj; omega
  | @step l j h hj ih =>
    intro k hk
    have hn := dec_n hj
    by_cases h1 : k < j
    · have := ih k h1; omega
    by_cases h2 : k = j
    · subst h2
      by_cases hw : wid s k = 0
      · omega
      · rw [wid_snd hw]; omega
    · have hw : wid s k = 0 := by
        rcases rune_or s j hj with hr | ⟨hb, _⟩
        · have := hr.goes (k := k - j) (by omega) (by omega)
          rw [show j + (k - j) = k by omega] at this
          exact wid_goes (by omega) this
        · rw [hb] at hk; simp at hk; omega
      omega
end At
theorem cut_len_le (s : ByteArray) (i : Nat) (h : i ≤ s.size) : (cut s i).length ≤ s.size - i := by
  by_cases hi : i < s.size
  · rw [cut_step hi]
    have := dec_n hi
    have ih := cut_len_le s (i + (dec s i).2) (by omega)
    simp; omega
  · rw [cut_end hi]; simp
termination_by s.size - i
decreasing_by have := dec_n hi; omega
/-- From a place on, all the pieces. -/
theorem at_rest (s : ByteArray) (l : List Nat) (i : Nat) (h : At s l i) : ∀ k, k ≤ (cut s i).length → ∃ j, At s (l ++ (cut s i).take k) j ∧ (cut s i).drop k = cut s j := by
  intro k
  induction k with
  | zero => intro _; exact ⟨i, by simpa using h, by simp⟩
  | succ k ih =>
    intro hk
    obtain ⟨j, hj, hd⟩ := ih (by omega)
    by_cases hjs : j < s.size
    · refine ⟨j + (dec s j).2, ?_, ?_⟩
      · have := hj.step hjs
        have hk' : (cut s i)[k]? = some j := by
          have := congrArg (·[0]?) hd
          rw [cut_step hjs] at this
          simpa using this
        rw [List.take_add_one, hk']
        simpa using this
      · rw [← List.drop_drop, hd, cut_step hjs]; rfl
    · rw [cut_end hjs] at hd
      have := List.length_drop (i := k) (l := cut s i)
      rw [hd] at this; simp at this; omega
theorem at_take (s : ByteArray) (k : Nat) (hk : k ≤ (cut s 0).length) : ∃ i, At s ((cut s 0).take k) i ∧ (cut s 0).drop k = cut s i := by
  obtain ⟨j, h1, h2⟩ := at_rest s [] 0 .zero k hk
  exact ⟨j, by simpa using h1, h2⟩
theorem at_all (s : ByteArray) : At s (cut s 0) s.size := by
  obtain ⟨i, h1, h2⟩ := at_take s (cut s 0).length (Nat.le_refl _)
  rw [List.take_length] at h1
  by_cases hi : i < s.size
  · rw [cut_step hi] at h2; simp at h2
  · have := h1.le
    have e : i = s.size := by omega
    rwa [e] at h1
/-- Where the k-th piece begins. -/
theorem at_get (s : ByteArray) (k : Nat) (hk : k < (cut s 0).length) : At s ((cut s 0).take k) ((cut s 0)[k]) ∧ (cut s 0)[k] < s.size := by
  obtain ⟨i, h1, h2⟩ := at_take s k (by omega)
  have hi : i < s.size := by
    refine Classical.byContradiction fun h => ?_
    rw [cut_end h] at h2
    have := List.length_drop (i := k) (l := cut s 0)
    rw [h2] at this; simp at this; omega
  have hl : ((cut s 0).take k).length = k := by simp; omega
  have := h1.get hi
  rw [hl, List.getElem?_eq_getElem hk] at this
  simp at this
  rw [this]; exact ⟨h1, hi⟩

/-! ### from the end -/
/-- How many bytes the rune has that ends ahead of a place; 0: none ends there. -/
def lstN (s : ByteArray) (e : Nat) : Nat :=
  if 1 ≤ e ∧ wid s (e - 1) = 1 then 1 else if 2 ≤ e ∧ wid s (e - 2) = 2 then 2 else if 3 ≤ e ∧ wid s (e - 3) = 3 then 3 else if 4 ≤ e ∧ wid s (e - 4) = 4 then 4 else 0
/-- The rune that ends ahead of a place, and its bytes. -/
def lst (s : ByteArray) (e : Nat) : Nat × Nat := if lstN s e = 0 then (65533, 1) else ((dec s (e - lstN s e)).1, lstN s e)

theorem lstN_le (s : ByteArray) (e : Nat) : lstN s e ≤ 4 ∧ (lstN s e ≠ 0 → lstN s e ≤ e ∧ wid s (e - lstN s e) = lstN s e) := by
  unfold lstN
  repeat' split
  all_goals omega
theorem lstN_is {s : ByteArray} {e n : Nat} (he : e ≤ s.size) (h1 : 1 ≤ n) (hn : n ≤ e) (hw : wid s (e - n) = n) : lstN s e = n := by
  have h4 := wid_n (s := s) (i := e - n) (by omega)
  have no : ∀ m, 1 ≤ m → m < n → wid s (e - m) = 0 := fun m hm hmn => by
    have hr := rune_of_wid (s := s) (i := e - n) (by omega) (by omega)
    have := hr.goes (k := n - m) (by omega) (by omega)
    rw [show e - n + (n - m) = e - m by omega] at this
    exact wid_goes (by omega) this
  have no1 := no 1
  have no2 := no 2
  have no3 := no 3
  have : n = 1 ∨ n = 2 ∨ n = 3 ∨ n = 4 := by omega
  unfold lstN
  rcases this with rfl | rfl | rfl | rfl
  · rw [if_pos (by omega)]
  · rw [if_neg (by omega), if_pos (by omega)]
  · rw [if_neg (by omega), if_neg (by omega), if_pos (by omega)]
  · rw [if_neg (by omega), if_neg (by omega), if_neg (by omega), if_pos (by omega)]
theorem lstN_none {s : ByteArray} {e : Nat} (h : ∀ n, 1 ≤ n → n ≤ 4 → n ≤ e → wid s (e - n) ≠ n) : lstN s e = 0 := by
  have h1 := h 1
  have h2 := h 2
  have h3 := h 3
  have h4 := h 4
  unfold lstN
  rw [if_neg (by omega), if_neg (by omega), if_neg (by omega), if_neg (by omega)]
/-- At the end of a piece: the piece. -/
theorem At.last {s : ByteArray} {l : List Nat} {i : Nat} (h : At s l i) (hi : i < s.size) : lstN s (i + (dec s i).2) = wid s i ∧ lst s (i + (dec s i).2) = dec s i := by
  have hn := dec_n hi
  by_cases hw : wid s i = 0
  · have hd := dec_of_wid hi hw
    have h0 : lstN s (i + (dec s i).2) = 0 := by
      refine lstN_none fun n h1 h4 hne hwn => ?_
      rw [hd] at hwn hne
      simp at hwn hne
      by_cases e : n = 1
      · subst e; simp at hwn; omega
      · have := h.over (i + 1 - n) (by omega); omega
    exact ⟨by rw [h0, hw], by unfold lst; rw [if_pos h0, hd]⟩
  · have hd := wid_snd hw
    have h0 : lstN s (i + (dec s i).2) = wid s i := by
      rw [hd]
      exact lstN_is (by omega) (by omega) (by omega) (by rw [Nat.add_sub_cancel])
    refine ⟨h0, ?_⟩
    unfold lst
    rw [h0, if_neg hw, hd, Nat.add_sub_cancel, ← hd]

/-! ### runes as a text -/
/-- A number as a rune. -/
def fixr (n : Int) : Int := if Utf8.valid n = true then n else 65533
theorem fixr_valid (n : Int) : Utf8.valid (fixr n) = true := by
  unfold fixr; split
  · assumption
  · decide
theorem fixr_nat (n : Int) : ((fixr n).toNat : Int) = fixr n := by
  have := fixr_valid n
  simp only [Utf8.valid, Bool.or_eq_true, Bool.and_eq_true, decide_eq_true_eq] at this
  omega
theorem fixr_of {n : Int} (h : Utf8.valid n = true) : fixr n = n := by unfold fixr; rw [if_pos h]
theorem enc_fix (n : Int) : Utf8.encode n = Utf8.encode (fixr n) := by
  unfold fixr; split
  · rfl
  · rename_i h
    exact enc_bad (by simpa using h)
def txt : List Int → ByteArray
  | [] => ByteArray.empty
  | n :: l => Utf8.encode n ++ txt l
theorem txt_append (a b : List Int) : txt (a ++ b) = txt a ++ txt b := by
  induction a with
  | nil => simp [txt]
  | cons n a ih => simp [txt, ih, ByteArray.append_assoc]
theorem txt_snoc (a : List Int) (n : Int) : txt (a ++ [n]) = txt a ++ Utf8.encode n := by rw [txt_append]; simp [txt]
theorem txt_fold (l : List Int) : ∀ r : ByteArray, l.foldl (fun r n => r ++ Utf8.encode n) r = r ++ txt l := by
  induction l with
  | nil => intro r; simp [txt]
  | cons n l ih => intro r; simp [txt, ih, ByteArray.append_assoc]
theorem runesBytes_txt (l : List Int) : runesBytes l = txt l := by unfold runesBytes; rw [txt_fold]; simp
theorem txt_fix (l : List Int) : txt l = txt (l.map fixr) := by
  induction l with
  | nil => rfl
  | cons n l ih => simp only [txt, List.map_cons, ← ih]; rw [← enc_fix]
theorem txt_size (l : List Int) : (txt l).size ≤ 4 * l.length := by rw [← runesBytes_txt]; exact runesBytes_size_le l
theorem enc_size (n : Int) : 1 ≤ (Utf8.encode n).size ∧ (Utf8.encode n).size ≤ 4 := by
  refine ⟨?_, encode_size_le n⟩
  unfold Utf8.encode
  simp only
  repeat' split
  all_goals simp [ByteArray.size]
/-- A rune's text in the midst of another. -/
theorem rune_mid (p q : ByteArray) (n : Int) : RuneAt (p ++ (Utf8.encode n ++ q)) p.size (fixr n).toNat (Utf8.encode n).size := by
  have hv := fixr_valid n
  have hn := fixr_nat n
  rw [enc_fix n]
  generalize (fixr n).toNat = c at *
  rw [← hn] at hv ⊢
  refine rune_of_enc hv (by rw [ByteArray.size_append, ByteArray.size_append]; omega) fun k hk => ?_
  rw [byt_append_right, byt_append_left _ _ _ hk]
theorem size_txt_cons (n : Int) (l : List Int) : (txt (n :: l)).size = (Utf8.encode n).size + (txt l).size := by simp [txt, ByteArray.size_append]

/-- The runes of a text from a place on. -/
def runs (s : ByteArray) (i : Nat) : List Int := (cut s i).map fun j => ((dec s j).1 : Int)
theorem runs_step {s : ByteArray} {i : Nat} (h : i < s.size) : runs s i = ((dec s i).1 : Int) :: runs s (i + (dec s i).2) := by unfold runs; rw [cut_step h]; rfl
theorem runs_end {s : ByteArray} {i : Nat} (h : ¬ i < s.size) : runs s i = [] := by unfold runs; rw [cut_end h]; rfl
/-- Is a text UTF-8 from a place on? -/
def Good (s : ByteArray) (i : Nat) : Prop := ∀ j ∈ cut s i, wid s j ≠ 0

theorem runs_txt (l : List Int) : ∀ p : ByteArray, runs (p ++ txt l) p.size = l.map fixr ∧ Good (p ++ txt l) p.size := by
  induction l with
  | nil =>
    intro p
    have : ¬ p.size < (p ++ txt []).size := by simp [txt]
    exact ⟨by rw [runs_end this]; rfl, by unfold Good; rw [cut_end this]; simp⟩
  | cons n l ih =>
    intro p
    have hr := rune_mid p (txt l) n
    have hd := hr.dec
    have hw := hr.wid
    have hz := enc_size n
    have hlt : p.size < (p ++ txt (n :: l)).size := by rw [ByteArray.size_append, size_txt_cons]; omega
    obtain ⟨h1, h2⟩ := ih (p ++ Utf8.encode n)
    have e : p ++ Utf8.encode n ++ txt l = p ++ txt (n :: l) := by simp [txt, ByteArray.append_assoc]
    rw [e, ByteArray.size_append] at h1 h2
    change dec (p ++ txt (n :: l)) p.size = _ at hd
    change wid (p ++ txt (n :: l)) p.size = _ at hw
    constructor
    · rw [runs_step hlt, hd, h1, List.map_cons]
      show ((fixr n).toNat : Int) :: _ = _
      rw [fixr_nat]
    · unfold Good at h2 ⊢
      rw [cut_step hlt, hd]
      intro j hj
      rcases List.mem_cons.1 hj with rfl | hj
      · rw [hw]; omega
      · exact h2 j hj
theorem runs_text (l : List Int) : runs (txt l) 0 = l.map fixr ∧ Good (txt l) 0 := by
  have := runs_txt l ByteArray.empty
  simpa using this
theorem cut_txt_len (l : List Int) : (cut (txt l) 0).length = l.length := by
  have := congrArg List.length (runs_text l).1
  simpa [runs] using this
/-- A good text is its runes' text. -/
theorem good_txt (s : ByteArray) (i : Nat) (hi : i ≤ s.size) (h : Good s i) : txt (runs s i) = s.extract i s.size := by
  by_cases hlt : i < s.size
  · have hw : wid s i ≠ 0 := h i (by rw [cut_step hlt]; simp)
    have hr := rune_of_wid hlt hw
    have hd := wid_snd hw
    have hn := hr.n4
    have ih := good_txt s (i + wid s i) hn.2.2 (by
      intro j hj
      exact h j (by rw [cut_step hlt, hd]; simp [hj]))
    rw [runs_step hlt, hd, txt, ih, hr.enc]
    apply ext_byt
    · rw [ByteArray.size_append, size_ext _ _ _ hn.2.2, size_ext _ _ _ (Nat.le_refl _), size_ext _ _ _ (Nat.le_refl _)]; omega
    · intro k hk
      rw [ByteArray.size_append, size_ext _ _ _ hn.2.2, size_ext _ _ _ (Nat.le_refl _)] at hk
      by_cases hk1 : k < wid s i
      · rw [byt_append_left _ _ _ (by rw [size_ext _ _ _ hn.2.2]; omega), byt_extract _ _ _ _ (by omega) hn.2.2, byt_tail]
      · have e : k = (s.extract i (i + wid s i)).size + (k - wid s i) := by rw [size_ext _ _ _ hn.2.2]; omega
        rw [e, byt_append_right, byt_tail, byt_tail, size_ext _ _ _ hn.2.2]
        congr 1; omega
  · have e : i = s.size := by omega
    subst e
    rw [runs_end hlt]
    apply ext_byt
    · rw [size_ext _ _ _ (Nat.le_refl _)]; simp [txt]
    · intro k hk; simp [txt] at hk
termination_by s.size - i
decreasing_by omega
theorem ext_all (s : ByteArray) : s.extract 0 s.size = s := by
  apply ext_byt
  · rw [size_ext _ _ _ (Nat.le_refl _)]; omega
  · intro k hk; rw [byt_tail]; simp
/-- A text mended. -/
def mend (s : ByteArray) : ByteArray := txt (runs s 0)
theorem mend_good {s : ByteArray} (h : Good s 0) : mend s = s := by unfold mend; rw [good_txt s 0 (Nat.zero_le _) h, ext_all]
theorem runs_valid (s : ByteArray) (i : Nat) : ∀ r ∈ runs s i, Utf8.valid r = true := by
  intro r hr
  unfold runs at hr
  obtain ⟨j, hj, rfl⟩ := List.mem_map.1 hr
  have : j < s.size := by
    have key : ∀ i, j ∈ cut s i → j < s.size := fun i => by
      induction i using Nat.strongRecOn generalizing s with
      | _ i _ => 
        intro h
        have hl : ∀ n i, s.size - i ≤ n → j ∈ cut s i → j < s.size := fun n => by
          induction n with
          | zero => intro i hi h; rw [cut_end (by omega)] at h; simp at h
          | succ n ih =>
            intro i hi h
            by_cases hlt : i < s.size
            · rw [cut_step hlt] at h
              have := dec_n hlt
              rcases List.mem_cons.1 h with rfl | h
              · exact hlt
              · exact ih _ (by omega) h
            · rw [cut_end hlt] at h; simp at h
        exact hl _ i (Nat.le_refl _) h
    exact key i hj
  exact dec_scalar this
theorem map_fix_valid {l : List Int} (h : ∀ r ∈ l, Utf8.valid r = true) : l.map fixr = l := by
  induction l with
  | nil => rfl
  | cons n l ih => rw [List.map_cons, fixr_of (h n (by simp)), ih (fun r hr => h r (by simp [hr]))]
/-- What the language makes of '[]rune(s)'. -/
theorem conv_runes (s : ByteArray) : ∀ (n i : Nat) (acc : Array Value), s.size - i ≤ n → Conv.runesFrom s n i acc = acc ++ ((runs s i).map (Value.int .i32)).toArray := by
  intro n
  induction n with
  | zero => intro i acc h; rw [runs_end (by omega)]; simp [Conv.runesFrom]
  | succ n ih =>
    intro i acc h
    by_cases hi : i < s.size
    · have hn := dec_n hi
      rw [runs_step hi]
      unfold Conv.runesFrom
      rw [if_pos hi, dec_eq]
      simp only
      rw [ih _ _ (by omega)]
      simp
    · rw [runs_end hi]
      unfold Conv.runesFrom
      rw [if_neg hi]; simp
end Go.Proofs.YtbidppjhenfjdaaGreatDoor
