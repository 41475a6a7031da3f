/-
  ScriptLoose: more blanks, remarks, empty lines and other line's ends change nothing of what a script is read as; no condition but the five listed variables of the library.
-/
import Derived.Test.YtbidppjhenfjdaaDoorSMD
import Derived.Test.YtbidppjhenfjdaaDoorSMB
namespace Go.Proofs.YtbidppjhenfjdaaDoor
open Go.RowKit
set_option linter.unusedVariables false
set_option linter.unusedSimpArgs false

/-- What stands for a line's end. -/
def endE (v : Option Int) : ByteArray :=
  match v with
  | none => ⟨#[10]⟩
  | some n => if n.tmod 5 = 1 then ⟨#[13, 10]⟩ else if n.tmod 5 = 2 then ⟨#[13]⟩ else if n.tmod 5 = 3 then ⟨#[32, 35, 32, 34, 120, 255, 32, 121, 10, 10]⟩ else if n.tmod 5 = 4 then ⟨#[9, 10, 32, 32, 13, 10, 35, 10]⟩ else ⟨#[10]⟩
/-- What stands for a blank. -/
def blkE (v : Option Int) : ByteArray :=
  match v with
  | none => ⟨#[32]⟩
  | some n => if n.tmod 3 = 0 then ⟨#[32]⟩ else ⟨#[32, 9, 32, 32]⟩
/-- The law's loop: the text so far, how many line's ends, within a quoted word, behind a backslash. -/
structure LSt where
  t : ByteArray
  n : Nat
  q : Bool
  e : Bool
def loC (ends blanks : List Int) (i c : Nat) (x : LSt) : LSt :=
  if x.q = true then ⟨x.t ++ one c, x.n, !(decide (c = 34) && !x.e), decide (c = 92) && !x.e⟩
  else if c = 10 then ⟨x.t ++ endE ends[x.n]?, x.n + 1, false, x.e⟩
  else if c = 32 then ⟨x.t ++ blkE blanks[i]?, x.n, false, x.e⟩
  else ⟨x.t ++ one c, x.n, decide (c = 34), x.e⟩
def lo (ends blanks : List Int) (s : ByteArray) : Nat → LSt
  | 0 => ⟨ByteArray.empty, 0, false, false⟩
  | k + 1 => loC ends blanks k (byt s k) (lo ends blanks s k)
theorem endE_size (v : Option Int) : (endE v).size ≤ 10 := by
  unfold endE
  split
  · decide
  · split
    · decide
    · split
      · decide
      · split
        · decide
        · split <;> decide
theorem blkE_size (v : Option Int) : (blkE v).size ≤ 10 := by
  unfold blkE
  split
  · decide
  · split <;> decide
section
variable {ends blanks : List Int}
theorem lo_size (s : ByteArray) : ∀ k, (lo ends blanks s k).t.size ≤ 10 * k ∧ (lo ends blanks s k).n ≤ k := by
  intro k
  induction k with
  | zero => exact ⟨Nat.le_refl _, Nat.le_refl _⟩
  | succ k ih =>
    show (loC ends blanks k (byt s k) (lo ends blanks s k)).t.size ≤ _ ∧ (loC ends blanks k (byt s k) (lo ends blanks s k)).n ≤ _
    have e1 := endE_size ends[(lo ends blanks s k).n]?
    have e2 := blkE_size blanks[k]?
    unfold loC
    split
    · simp only [ByteArray.size_append, one_size]; omega
    · split
      · simp only [ByteArray.size_append]; omega
      · split
        · simp only [ByteArray.size_append]; omega
        · simp only [ByteArray.size_append, one_size]; omega
theorem ext_snoc (w : ByteArray) (m : Nat) (hm : m < w.size) : w.extract 0 (m + 1) = w.extract 0 m ++ one (byt w m) := by
  have h1 : (w.extract 0 (m + 1)).size = m + 1 := by rw [ByteArray.size_extract]; omega
  have h2 : (w.extract 0 m).size = m := by rw [ByteArray.size_extract]; omega
  apply ext_byt
  · rw [ByteArray.size_append, one_size, h1, h2]
  · intro i hi
    rw [h1] at hi
    rw [byt_extract _ 0 (m + 1) i (by omega) (by omega), Nat.zero_add]
    by_cases h : i < m
    · rw [byt_append_left _ _ _ (by omega), byt_extract _ 0 m i (by omega) (by omega), Nat.zero_add]
    · have e : i = (w.extract 0 m).size + 0 := by omega
      rw [e, byt_append_right, byt_one (byt_lt w m), h2, Nat.add_zero]
theorem ext_0 (w : ByteArray) : w.extract 0 0 = ByteArray.empty := by
  apply ext_byt
  · rw [ByteArray.size_extract]; rfl
  · intro i hi
    rw [ByteArray.size_extract] at hi
    omega
/-- Bytes outside a quoted word. -/
theorem lo_out {s w t : ByteArray} {p n : Nat} {e : Bool} (hl : LiesAt s p w) (hw : ∀ i, i < w.size → byt w i ≠ 34 ∧ byt w i ≠ 10 ∧ byt w i ≠ 32) (h : lo ends blanks s p = ⟨t, n, false, e⟩) : lo ends blanks s (p + w.size) = ⟨t ++ w, n, false, e⟩ := by
  have key : ∀ m, m ≤ w.size → lo ends blanks s (p + m) = ⟨t ++ w.extract 0 m, n, false, e⟩ := by
    intro m
    induction m with
    | zero => intro _; rw [ext_0, ByteArray.append_empty]; exact h
    | succ m ih =>
      intro hm
      have hx := hw m (by omega)
      rw [← hl.2 m (by omega)] at hx
      show loC ends blanks (p + m) (byt s (p + m)) (lo ends blanks s (p + m)) = _
      rw [ih (by omega)]
      unfold loC
      rw [if_neg (by simp), if_neg hx.2.1, if_neg hx.2.2, decide_eq_false hx.1, ext_snoc w m (by omega), hl.2 m (by omega), ByteArray.append_assoc]
  have := key w.size (Nat.le_refl _)
  rwa [ext_all] at this
/-- Bytes within a quoted word. -/
theorem lo_in {s w t : ByteArray} {p n : Nat} (hl : LiesAt s p w) (hw : ∀ i, i < w.size → byt w i ≠ 34 ∧ byt w i ≠ 92) (h : lo ends blanks s p = ⟨t, n, true, false⟩) : lo ends blanks s (p + w.size) = ⟨t ++ w, n, true, false⟩ := by
  have key : ∀ m, m ≤ w.size → lo ends blanks s (p + m) = ⟨t ++ w.extract 0 m, n, true, false⟩ := by
    intro m
    induction m with
    | zero => intro _; rw [ext_0, ByteArray.append_empty]; exact h
    | succ m ih =>
      intro hm
      have hx := hw m (by omega)
      rw [← hl.2 m (by omega)] at hx
      show loC ends blanks (p + m) (byt s (p + m)) (lo ends blanks s (p + m)) = _
      rw [ih (by omega)]
      unfold loC
      rw [if_pos rfl, decide_eq_false hx.1, decide_eq_false hx.2, ext_snoc w m (by omega), hl.2 m (by omega), ByteArray.append_assoc]
      rfl
  have := key w.size (Nat.le_refl _)
  rwa [ext_all] at this
theorem lo_esc {s w t : ByteArray} {p n c : Nat} (hc : c < 256) (hl : LiesAt s p (one 92 ++ one c ++ w)) (hw : ∀ i, i < w.size → byt w i ≠ 34 ∧ byt w i ≠ 92) (h : lo ends blanks s p = ⟨t, n, true, false⟩) : lo ends blanks s (p + (one 92 ++ one c ++ w).size) = ⟨t ++ (one 92 ++ one c ++ w), n, true, false⟩ := by
  obtain ⟨b0, b0'⟩ := hl.left.left.one (by decide)
  obtain ⟨b1, b1'⟩ := hl.left.right.one hc
  rw [one_size] at b1 b1'
  have hr := hl.right
  rw [ByteArray.size_append, one_size, one_size] at hr
  have h1 : lo ends blanks s (p + 1) = ⟨t ++ one 92, n, true, true⟩ := by
    show loC ends blanks p (byt s p) (lo ends blanks s p) = _
    rw [h, b0']
    rfl
  have h2 : lo ends blanks s (p + 2) = ⟨t ++ one 92 ++ one c, n, true, false⟩ := by
    show loC ends blanks (p + 1) (byt s (p + 1)) (lo ends blanks s (p + 1)) = _
    rw [h1, b1']
    unfold loC
    rw [if_pos rfl]
    simp
  have h3 := lo_in hr hw h2
  have e : p + (one 92 ++ one c ++ w).size = p + (1 + 1) + w.size := by simp only [ByteArray.size_append, one_size]; omega
  rw [e]
  have e2 : t ++ (one 92 ++ one c ++ w) = t ++ one 92 ++ one c ++ w := by simp only [ByteArray.append_assoc]
  rw [e2]
  exact h3
theorem hexd_no {n : Nat} (h : n < 16) : hexd n < 256 ∧ hexd n ≠ 34 ∧ hexd n ≠ 92 := by unfold hexd; split <;> omega
theorem one_no {c : Nat} (hc : c < 256) (h : c ≠ 34 ∧ c ≠ 92) : ∀ i, i < (one c).size → byt (one c) i ≠ 34 ∧ byt (one c) i ≠ 92 := by
  intro i hi
  rw [one_size] at hi
  obtain rfl : i = 0 := by omega
  rw [byt_one hc]
  exact h
theorem app_no {a b : ByteArray} (ha : ∀ i, i < a.size → byt a i ≠ 34 ∧ byt a i ≠ 92) (hb : ∀ i, i < b.size → byt b i ≠ 34 ∧ byt b i ≠ 92) : ∀ i, i < (a ++ b).size → byt (a ++ b) i ≠ 34 ∧ byt (a ++ b) i ≠ 92 := by
  intro i hi
  rw [ByteArray.size_append] at hi
  by_cases h : i < a.size
  · rw [byt_append_left _ _ _ h]; exact ha i h
  · have e : i = a.size + (i - a.size) := by omega
    rw [e, byt_append_right]
    exact hb _ (by omega)
theorem hexs_no : ∀ (r : Nat), ∀ i, i < (hexs r).size → byt (hexs r) i ≠ 34 ∧ byt (hexs r) i ≠ 92 := by
  intro r
  induction r using Nat.strongRecOn with
  | ind r ih =>
    by_cases h : r < 16
    · rw [hexs_small h]
      have := hexd_no h
      exact one_no this.1 this.2
    · rw [hexs_big h]
      have := hexd_no (n := r % 16) (by omega)
      exact app_no (ih (r / 16) (by omega)) (one_no this.1 this.2)
theorem lett_256 (r : Nat) : lett r < 256 := by
  unfold lett
  split
  · decide
  · split
    · decide
    · split
      · decide
      · split
        · decide
        · split <;> decide
theorem lo_piece {x s t : ByteArray} {i p n : Nat} (hi : i < x.size) (hl : LiesAt s p (qp x i)) (h : lo ends blanks s p = ⟨t, n, true, false⟩) : lo ends blanks s (p + (qp x i).size) = ⟨t ++ qp x i, n, true, false⟩ := by
  have hb := byt_lt x i
  have htwo : qp x i = two (byt x i) → lo ends blanks s (p + (qp x i).size) = ⟨t ++ qp x i, n, true, false⟩ := by
    intro hq
    have e : two (byt x i) = one 92 ++ one 120 ++ (one (hexd (byt x i / 16)) ++ one (hexd (byt x i % 16))) := by unfold two; simp only [ByteArray.append_assoc]
    rw [hq, e] at hl ⊢
    have h1 := hexd_no (n := byt x i / 16) (by omega)
    have h2 := hexd_no (n := byt x i % 16) (by omega)
    exact lo_esc (by decide) hl (app_no (one_no h1.1 h1.2) (one_no h2.1 h2.2)) h
  by_cases h0 : wid x i = 0
  · exact htwo (by unfold qp; rw [if_pos h0])
  · by_cases h1 : lett (dec x i).1 ≠ 0
    · have e : qp x i = one 92 ++ one (lett (dec x i).1) ++ ByteArray.empty := by unfold qp; rw [if_neg h0, if_pos h1, ByteArray.append_empty]
      rw [e] at hl ⊢
      exact lo_esc (lett_256 _) hl (fun j hj => absurd hj (Nat.not_lt_zero j)) h
    · by_cases h2 : (dec x i).1 < 32 ∨ (dec x i).1 = 127
      · exact htwo (by unfold qp; rw [if_neg h0, if_neg h1, if_pos h2])
      · by_cases h3 : hr (dec x i).1 = true
        · have e : qp x i = one 92 ++ one 117 ++ (one 123 ++ hexs (dec x i).1 ++ one 125) := by unfold qp braces; rw [if_neg h0, if_neg h1, if_neg h2, if_pos h3]; simp only [ByteArray.append_assoc]
          rw [e] at hl ⊢
          exact lo_esc (by decide) hl (app_no (app_no (one_no (by decide) (by decide)) (hexs_no _)) (one_no (by decide) (by decide))) h
        · have e : qp x i = Utf8.encode ((dec x i).1 : Nat) := by unfold qp; rw [if_neg h0, if_neg h1, if_neg h2, if_neg h3]
          rw [e] at hl ⊢
          refine lo_in hl ?_ h
          have hr := rune_of_wid hi h0
          have hen := hr.enc
          have h4 := hr.n4
          have hl5 := lett_0 (by simpa using h1 : lett (dec x i).1 = 0)
          obtain ⟨hz, hcs⟩ := hr
          rw [hen]
          intro j hj
          rw [ByteArray.size_extract] at hj
          rw [byt_extract _ i (i + wid x i) j (by omega) hz]
          have b0 : j = 0 → byt x (i + j) = byt x i := fun e => by rw [e, Nat.add_zero]
          have b1 : j = 1 → byt x (i + j) = byt x (i + 1) := fun e => by rw [e]
          have b2 : j = 2 → byt x (i + j) = byt x (i + 2) := fun e => by rw [e]
          have b3 : j = 3 → byt x (i + j) = byt x (i + 3) := fun e => by rw [e]
          omega
theorem cut_lt {x : ByteArray} : ∀ (m i : Nat), x.size - i ≤ m → ∀ j ∈ cut x i, j < x.size := by
  intro m
  induction m with
  | zero => intro i hm j hj; rw [cut_end (by omega)] at hj; cases hj
  | succ m ih =>
    intro i hm j hj
    by_cases hi : i < x.size
    · rw [cut_step hi] at hj
      rcases List.mem_cons.1 hj with rfl | hj
      · exact hi
      · have := dec_n hi
        exact ih _ (by omega) j hj
    · rw [cut_end hi] at hj; cases hj
theorem lo_pieces {x s : ByteArray} {n : Nat} : ∀ (l : List Nat) (p : Nat) (t : ByteArray), (∀ j ∈ l, j < x.size) → LiesAt s p (qcat x l) → lo ends blanks s p = ⟨t, n, true, false⟩ → lo ends blanks s (p + (qcat x l).size) = ⟨t ++ qcat x l, n, true, false⟩ := by
  intro l
  induction l with
  | nil => intro p t _ _ h; show lo ends blanks s (p + 0) = ⟨t ++ ByteArray.empty, _, _, _⟩; rw [ByteArray.append_empty]; exact h
  | cons i l ih =>
    intro p t hj hl h
    have e : qcat x (i :: l) = qp x i ++ qcat x l := rfl
    rw [e] at hl ⊢
    have h1 := lo_piece (hj i (by simp)) hl.left h
    have h2 := ih _ _ (fun j h => hj j (by simp [h])) hl.right h1
    rw [ByteArray.size_append, ← Nat.add_assoc, ← ByteArray.append_assoc]
    exact h2
theorem lo_quo {x s t : ByteArray} {p n : Nat} (hl : LiesAt s p (quo x)) (h : lo ends blanks s p = ⟨t, n, false, false⟩) : lo ends blanks s (p + (quo x).size) = ⟨t ++ quo x, n, false, false⟩ := by
  have e : quo x = one 34 ++ qcat x (cut x 0) ++ one 34 := rfl
  rw [e] at hl ⊢
  obtain ⟨b0, b0'⟩ := hl.left.left.one (by decide)
  have hm := hl.left.right
  obtain ⟨b1, b1'⟩ := hl.right.one (by decide)
  rw [one_size] at hm
  rw [ByteArray.size_append, one_size] at b1 b1'
  have h1 : lo ends blanks s (p + 1) = ⟨t ++ one 34, n, true, false⟩ := by
    show loC ends blanks p (byt s p) (lo ends blanks s p) = _
    rw [h, b0']
    rfl
  have h2 := lo_pieces (cut x 0) _ _ (cut_lt x.size 0 (by omega)) hm h1
  have h3 : lo ends blanks s (p + 1 + (qcat x (cut x 0)).size + 1) = ⟨t ++ one 34 ++ qcat x (cut x 0) ++ one 34, n, false, false⟩ := by
    show loC ends blanks _ (byt s (p + 1 + (qcat x (cut x 0)).size)) (lo ends blanks s (p + 1 + (qcat x (cut x 0)).size)) = _
    rw [h2, Nat.add_assoc p 1, b1']
    rfl
  have e1 : p + (one 34 ++ qcat x (cut x 0) ++ one 34).size = p + 1 + (qcat x (cut x 0)).size + 1 := by simp only [ByteArray.size_append, one_size]; omega
  rw [e1, h3]
  simp only [ByteArray.append_assoc]
theorem lo_wi {s t : ByteArray} {p n : Nat} {w : WI} (hw : w.ok) (hl : LiesAt s p w.tx) (h : lo ends blanks s p = ⟨t, n, false, false⟩) : lo ends blanks s (p + w.tx.size) = ⟨t ++ w.tx, n, false, false⟩ := by
  cases w with
  | pl x => exact lo_out hl (fun i hi => by have := hw.1.1 i hi; show byt x i ≠ 34 ∧ byt x i ≠ 10 ∧ byt x i ≠ 32; omega) h
  | nu v =>
    have hf := (itoa_fine (show -9223372036854775808 ≤ v ∧ v < 9223372036854775808 from hw)).1
    exact lo_out hl (fun i hi => by have := hf.1 i hi; show byt (itoaB v) i ≠ 34 ∧ byt (itoaB v) i ≠ 10 ∧ byt (itoaB v) i ≠ 32; omega) h
  | qu x => exact lo_quo hl h
theorem blkE_ok (v : Option Int) : gapOk true (blkE v) := by
  have h1 : gapOk true ⟨#[32]⟩ := ⟨fun i hi => by
    have : i < 1 := hi
    obtain rfl : i = 0 := by omega
    exact .inl rfl, fun _ => by decide⟩
  have h2 : gapOk true ⟨#[32, 9, 32, 32]⟩ := ⟨fun i hi => by
    have : i < 4 := hi
    match i, this with
    | 0, _ => exact .inl rfl
    | 1, _ => exact .inr rfl
    | 2, _ => exact .inl rfl
    | 3, _ => exact .inl rfl, fun _ => by decide⟩
  unfold blkE
  split
  · exact h1
  · split
    · exact h1
    · exact h2
theorem lo_words : ∀ (ws : List WI) {s t : ByteArray} {p n : Nat}, (∀ w ∈ ws, w.ok) → LiesAt s p (gws (ws.map fun x => (⟨#[32]⟩, x))) → lo ends blanks s p = ⟨t, n, false, false⟩ →
    ∃ gs, gs.map (·.2) = ws ∧ gapsOk true gs ∧ lo ends blanks s (p + (gws (ws.map fun x => (⟨#[32]⟩, x))).size) = ⟨t ++ gws gs, n, false, false⟩ := by
  intro ws
  induction ws with
  | nil => intro s t p n _ _ h; exact ⟨[], rfl, trivial, by show lo ends blanks s (p + 0) = ⟨t ++ ByteArray.empty, _, _, _⟩; rw [ByteArray.append_empty]; exact h⟩
  | cons w r ih =>
    intro s t p n hok hl h
    have e : gws ((w :: r).map fun x => ((⟨#[32]⟩ : ByteArray), x)) = (⟨#[32]⟩ : ByteArray) ++ w.tx ++ gws (r.map fun x => (⟨#[32]⟩, x)) := rfl
    rw [e] at hl ⊢
    have hb : byt s p = 32 := hl.left.left.2 0 (by show 0 < 1; omega)
    have h1 : lo ends blanks s (p + 1) = ⟨t ++ blkE blanks[p]?, n, false, false⟩ := by
      show loC ends blanks p (byt s p) (lo ends blanks s p) = _
      rw [h, hb]
      rfl
    have h2 := lo_wi (hok w (by simp)) hl.left.right h1
    have hr := hl.right
    rw [ByteArray.size_append, ← Nat.add_assoc] at hr
    obtain ⟨gs, g1, g2, g3⟩ := ih (fun x hx => hok x (by simp [hx])) hr h2
    refine ⟨(blkE blanks[p]?, w) :: gs, by simp [g1], ⟨blkE_ok _, hok w (by simp), g2⟩, ?_⟩
    have e1 : p + ((⟨#[32]⟩ : ByteArray) ++ w.tx ++ gws (r.map fun x => ((⟨#[32]⟩ : ByteArray), x))).size = p + 1 + w.tx.size + (gws (r.map fun x => ((⟨#[32]⟩ : ByteArray), x))).size := by
      rw [ByteArray.size_append, ByteArray.size_append]
      show p + (1 + w.tx.size + _) = _
      omega
    have e2 : t ++ gws ((blkE blanks[p]?, w) :: gs) = t ++ blkE blanks[p]? ++ w.tx ++ gws gs := by
      show t ++ (blkE blanks[p]? ++ w.tx ++ gws gs) = _
      simp only [ByteArray.append_assoc]
    rw [e1, e2]
    exact g3
theorem lo_line {s t : ByteArray} {p n : Nat} (w : WI) (r : List WI) (hok : ∀ x ∈ w :: r, x.ok) (hl : LiesAt s p (gws (blanked (w :: r)))) (h : lo ends blanks s p = ⟨t, n, false, false⟩) :
    ∃ gs, gs.map (·.2) = w :: r ∧ gapsOk false gs ∧ lo ends blanks s (p + (gws (blanked (w :: r))).size) = ⟨t ++ gws gs, n, false, false⟩ := by
  have e : gws (blanked (w :: r)) = w.tx ++ gws (r.map fun x => ((⟨#[32]⟩ : ByteArray), x)) := by
    show (⟨#[]⟩ : ByteArray) ++ w.tx ++ gws _ = _
    rw [show (⟨#[]⟩ : ByteArray) = ByteArray.empty from rfl, ByteArray.empty_append]
  rw [e] at hl ⊢
  have h1 := lo_wi (hok w (by simp)) hl.left h
  obtain ⟨gs, g1, g2, g3⟩ := lo_words r (fun x hx => hok x (by simp [hx])) hl.right h1
  refine ⟨(ByteArray.empty, w) :: gs, by simp [g1], ⟨⟨fun i hi => absurd hi (Nat.not_lt_zero i), by simp⟩, hok w (by simp), g2⟩, ?_⟩
  rw [ByteArray.size_append, ← Nat.add_assoc, g3]
  congr 1
  show _ = t ++ (ByteArray.empty ++ w.tx ++ gws gs)
  simp only [ByteArray.append_assoc, ByteArray.empty_append]
end
/-- A line's end of any form. -/
theorem Laid.ends {s e : ByteArray} {line d : Nat} {L : List Fn} (h : Laid s line true L) (h0 : e.size ≠ 0) (h1 : byt e 0 = 32 ∨ byt e 0 = 9 ∨ byt e 0 = 35 ∨ byt e 0 = 10 ∨ byt e 0 = 13)
    (a : Nat)
    (ha : ∀ (T : ByteArray) (p l : Nat), LiesAt T p e → (p + e.size < T.size → byt T (p + e.size) ≠ 10) → scn T p l true = ⟨4, ByteArray.empty, 0, p + a, l, 0⟩ :: scn T (p + e.size) (l + d) false) :
    Laid (s ++ e) (line + d) false (L ++ [⟨4, ByteArray.empty, 0, s.size + a, line, 0⟩]) := by
  intro t ht
  have h2 := h (e ++ t) (fun _ => by rw [if_pos rfl, byt_append_left _ _ _ (by omega)]; exact h1)
  rw [← ByteArray.append_assoc] at h2
  rw [h2, ha _ _ _ (lies_mid s e t) (fun hlt => by
    have hb : byt (s ++ e ++ t) (s.size + e.size) = byt t 0 := by
      have := byt_append_right (s ++ e) t 0
      rwa [Nat.add_zero, ByteArray.size_append] at this
    rw [hb]
    have hz : t.size ≠ 0 := by rw [ByteArray.size_append, ByteArray.size_append] at hlt; omega
    have := ht hz
    rwa [if_neg (by simp)] at this), List.append_assoc, ByteArray.size_append]
  rfl
theorem ends_3 {T : ByteArray} {p l : Nat} (hl : LiesAt T p ⟨#[32, 35, 32, 34, 120, 255, 32, 121, 10, 10]⟩) : scn T p l true = ⟨4, ByteArray.empty, 0, p + 8, l, 0⟩ :: scn T (p + 10) (l + 2) false := by
  have hz := hl.1
  have hb := hl.2
  have b0 : byt T p = 32 := hb 0 (by decide)
  have b1 : byt T (p + 1) = 35 := hb 1 (by decide)
  have b2 : byt T (p + 2) = 32 := hb 2 (by decide)
  have b3 : byt T (p + 3) = 34 := hb 3 (by decide)
  have b4 : byt T (p + 4) = 120 := hb 4 (by decide)
  have b5 : byt T (p + 5) = 255 := hb 5 (by decide)
  have b6 : byt T (p + 6) = 32 := hb 6 (by decide)
  have b7 : byt T (p + 7) = 121 := hb 7 (by decide)
  have b8 : byt T (p + 8) = 10 := hb 8 (by decide)
  have b9 : byt T (p + 9) = 10 := hb 9 (by decide)
  have hz : p + 10 ≤ T.size := hz
  have hr : rem T (p + 1) = p + 8 := by
    rw [rem_on ⟨by omega, by omega, by omega⟩, show p + 1 + 1 = p + 2 by omega, rem_on ⟨by omega, by omega, by omega⟩, show p + 2 + 1 = p + 3 by omega,
      rem_on ⟨by omega, by omega, by omega⟩, show p + 3 + 1 = p + 4 by omega, rem_on ⟨by omega, by omega, by omega⟩, show p + 4 + 1 = p + 5 by omega, rem_on ⟨by omega, by omega, by omega⟩, show p + 5 + 1 = p + 6 by omega,
      rem_on ⟨by omega, by omega, by omega⟩, show p + 6 + 1 = p + 7 by omega, rem_on ⟨by omega, by omega, by omega⟩, show p + 7 + 1 = p + 8 by omega, rem_end (by omega)]
  rw [scn_blank (by omega) (.inl b0), scn_rem (by omega) b1, hr, scn_line (by omega) (.inl b8), show lineB T (p + 8) = p + 9 by unfold lineB; rw [if_neg (by omega)],
    scn_line (by omega) (.inl b9), show lineB T (p + 9) = p + 10 by unfold lineB; rw [if_neg (by omega)]]
  rfl
theorem ends_4 {T : ByteArray} {p l : Nat} (hl : LiesAt T p ⟨#[9, 10, 32, 32, 13, 10, 35, 10]⟩) : scn T p l true = ⟨4, ByteArray.empty, 0, p + 1, l, 0⟩ :: scn T (p + 8) (l + 3) false := by
  have hz := hl.1
  have hb := hl.2
  have b0 : byt T p = 9 := hb 0 (by decide)
  have b1 : byt T (p + 1) = 10 := hb 1 (by decide)
  have b2 : byt T (p + 2) = 32 := hb 2 (by decide)
  have b3 : byt T (p + 3) = 32 := hb 3 (by decide)
  have b4 : byt T (p + 4) = 13 := hb 4 (by decide)
  have b5 : byt T (p + 5) = 10 := hb 5 (by decide)
  have b6 : byt T (p + 6) = 35 := hb 6 (by decide)
  have b7 : byt T (p + 7) = 10 := hb 7 (by decide)
  have hz : p + 8 ≤ T.size := hz
  have hr : rem T (p + 6) = p + 7 := by rw [rem_on ⟨by omega, by omega, by omega⟩, show p + 6 + 1 = p + 7 by omega, rem_end (by omega)]
  rw [scn_blank (by omega) (.inr b0), scn_line (by omega) (.inl b1), show lineB T (p + 1) = p + 2 by unfold lineB; rw [if_neg (by omega)],
    scn_blank (by omega) (.inl b2), show p + 2 + 1 = p + 3 by omega, scn_blank (by omega) (.inl b3), show p + 3 + 1 = p + 4 by omega,
    scn_line (by omega) (.inr b4), show lineB T (p + 4) = p + 6 by unfold lineB; rw [if_pos ⟨b4, by omega, by rw [show p + 4 + 1 = p + 5 by omega]; exact b5⟩],
    scn_rem (by omega) b6, hr, scn_line (by omega) (.inl b7), show lineB T (p + 7) = p + 8 by unfold lineB; rw [if_neg (by omega)]]
  rfl
theorem Laid.endE' {s : ByteArray} {line : Nat} {L : List Fn} (h : Laid s line true L) (v : Option Int) : ∃ d f, f.e = 0 ∧ f.k = 4 ∧ Laid (s ++ endE v) (line + d) false (L ++ [f]) := by
  have h0 := h.line (k := 0)
  have h1 := h.line (k := 1)
  have h2 := h.line (k := 2)
  unfold endE
  split
  · exact ⟨_, _, rfl, rfl, h0⟩
  · split
    · exact ⟨_, _, rfl, rfl, h1⟩
    · split
      · exact ⟨_, _, rfl, rfl, h2⟩
      · split
        · exact ⟨2, _, rfl, rfl, h.ends (by decide) (.inl rfl) 8 (fun T p l hl _ => ends_3 hl)⟩
        · split
          · exact ⟨3, _, rfl, rfl, h.ends (by decide) (.inr (.inl rfl)) 1 (fun T p l hl _ => ends_4 hl)⟩
          · exact ⟨_, _, rfl, rfl, h0⟩
/-- A text, and what it is read as, if no line feed follows. -/
def LaidE (s : ByteArray) (line : Nat) (out : List Stp) : Prop := ∃ L, Laid s line false L ∧ Reads L out
theorem LaidE.parse {s : ByteArray} {line : Nat} {out : List Stp} (h : LaidE s line out) : prsT s = (out, 0, 0) := by
  obtain ⟨L, hl, hr⟩ := h
  unfold prsT
  rw [hl.stop]
  have e : endF false s.size line = [] := rfl
  rw [e, hr]
  rfl
theorem lo_print {ends blanks : List Int} {s : ByteArray} : ∀ (L : List Stp) {t r : ByteArray} {p n line : Nat} {out : List Stp}, lo ends blanks s p = ⟨t, n, false, false⟩ → LaidE t line out → (∀ x ∈ L, StpOk x) → prn L = some r → LiesAt s p r →
    ∃ t' n' line', lo ends blanks s (p + r.size) = ⟨t', n', false, false⟩ ∧ LaidE t' line' (out ++ L.map bareS) := by
  intro L
  induction L with
  | nil =>
    intro t r p n line out h hl _ hp _
    injection hp with hp
    subst hp
    exact ⟨t, n, line, h, by simpa using hl⟩
  | cons x L ih =>
    intro t r p n line out h hla hok hp hl
    unfold prn at hp
    cases ha : sayO x with
    | none => rw [ha] at hp; cases hp
    | some a =>
      rw [ha] at hp
      cases hr : prn L with
      | none => rw [hr] at hp; cases hp
      | some r' =>
        rw [hr] at hp
        injection hp with hp
        subst hp
        obtain ⟨k, k1, k2, hk, rfl⟩ := sayO_some ha
        have hxo := sayI_ok k1 k2 (hok x (by simp))
        have hne : ∃ w ws, sayI k x = w :: ws := ⟨_, _, rfl⟩
        obtain ⟨w, ws, hws⟩ := hne
        rw [hws] at hxo hl
        obtain ⟨gs, g1, g2, g3⟩ := lo_line w ws hxo hl.left.left h
        have hbf : byt s (p + (gws (blanked (w :: ws))).size) = 10 := hl.left.right.2 0 (by show 0 < 1; omega)
        have h4 : lo ends blanks s (p + (gws (blanked (w :: ws))).size + 1) = ⟨t ++ gws gs ++ endE ends[n]?, n + 1, false, false⟩ := by
          show loC ends blanks _ (byt s (p + (gws (blanked (w :: ws))).size)) (lo ends blanks s (p + (gws (blanked (w :: ws))).size)) = _
          rw [g3, hbf]
          rfl
        obtain ⟨F0, hl0, hr0⟩ := hla
        obtain ⟨F, hF, hl2⟩ := hl0.words gs g2
        have e : (false || !gs.isEmpty) = true := by
          cases gs with
          | nil => cases g1
          | cons _ _ => rfl
        rw [e] at hl2
        rw [g1] at hF
        obtain ⟨d, f, f1, f2, hl3⟩ := hl2.endE' ends[n]?
        have hrd := rd_says k1 k2 hk (by rw [hws]; exact hF)
        obtain ⟨t', n', line', q1, q2⟩ := ih h4 ⟨_, hl3, hr0.step hF hrd f1 f2⟩ (fun y hy => hok y (by simp [hy])) hr (by
          have := hl.right
          rw [ByteArray.size_append, ← Nat.add_assoc] at this
          exact this)
        refine ⟨t', n', line', ?_, by simpa using q2⟩
        rw [hws]
        have e1 : p + (gws (blanked (w :: ws)) ++ (⟨#[10]⟩ : ByteArray) ++ r').size = p + (gws (blanked (w :: ws))).size + 1 + r'.size := by
          rw [ByteArray.size_append, ByteArray.size_append]
          show p + (_ + 1 + _) = _
          omega
        rw [e1]
        exact q1
/-- The text that the law makes is read as the steps. -/
theorem prs_lo {ends blanks : List Int} {L : List Stp} {s : ByteArray} (hok : ∀ x ∈ L, StpOk x) (h : prn L = some s) : prsT (lo ends blanks s s.size).t = (L.map bareS, 0, 0) := by
  obtain ⟨t', n', line', q1, q2⟩ := lo_print (ends := ends) (blanks := blanks) (s := s) (t := ByteArray.empty) (r := s) (p := 0) (n := 0) (line := 1) (out := []) L rfl ⟨[], LaidN.start.laid, Reads.start⟩ hok h ⟨by omega, fun i hi => by rw [Nat.zero_add]⟩
  rw [Nat.zero_add] at q1
  rw [q1]
  exact q2.parse
end Go.Proofs.YtbidppjhenfjdaaDoor
namespace Go.Proofs.YtbidppjhenfjdaaDoor
open Go.RowKit
set_option linter.unusedVariables false
set_option linter.unusedSimpArgs false

theorem conv_l1 (W : World) (x : Nat) (hx : x < 256) : (convert 29 9 (.slice (some ⟨W.heap.size, 0, none⟩) 1 1)).run Tryd.prog (W.alloc (.cells #[.int .u8 (x : Int)] 5)) = .ok (.string (one x)) (W.alloc (.cells #[.int .u8 (x : Int)] 5)) := by
  have hb1 : byt (one x) 0 = x := byt_one hx
  have hz : (one x).size = 1 := one_size x
  have h := conv_bsl (W := W.alloc (.cells #[.int .u8 (x : Int)] 5)) (v := .slice (some ⟨W.heap.size, 0, none⟩) 1 1) (d := one x) ⟨some ⟨W.heap.size, 0, none⟩, 1, by rw [hz], ⟨fun h => by omega, fun h => by cases h⟩, fun _ => ⟨W.heap.size, 0, rfl, fun i u hu => by
    have hi : i < 1 := by
      have := (List.getElem?_eq_some_iff.1 hu).1
      rwa [bytV_len, hz] at this
    obtain rfl : i = 0 := by omega
    rw [bytV_at (by omega), hb1] at hu
    cases hu
    have := cell_of_block (World.alloc_heap_new W (.cells #[.int .u8 (x : Int)] 5)) 0
    exact this⟩⟩
  exact h
theorem tmod_bd2 (n : Int) {d : Int} (hd : 0 < d) : -d < n.tmod d ∧ n.tmod d < d := ⟨Int.lt_tmod_of_pos n hd, Int.tmod_lt_of_pos n hd⟩
theorem int_at {W : World} {v : Value} {zs : List Int} (h : SlAt W v zs.length (intsV zs)) {k : Nat} (hk : k < zs.length) : ∃ b off cap, v = .slice (some ⟨b, off, none⟩) zs.length cap ∧ W.cell? ⟨b, off + k, none⟩ = some (.int .i64 zs[k]) := by
  obtain ⟨b, off, cap, e, hc⟩ := h.at_ (by omega)
  refine ⟨b, off, cap, e, hc k _ ?_⟩
  unfold intsV
  rw [List.getElem?_map, List.getElem?_eq_getElem hk]
  rfl

set_option maxHeartbeats 32000000 in
set_option maxRecDepth 100000 in
theorem scriptLoose_walk (v1 : Value) (L : List Stp) (v2 : Value) (ends : List Int) (v3 : Value) (blanks : List Int) (W : World) (h1 : Steps W v1 L) (hf1 : ∀ s ∈ L, StpOk s ∧ StpFit s) (h2 : SlAt W v2 ends.length (intsV ends)) (h3 : SlAt W v3 blanks.length (intsV blanks)) (hT : TQ W) :
    Calls Tryd.prog 4 #[v1, v2, v3] W fun e W' => e = .returned (.bool true) ∧ Keep [] W W' := by
  have H1 := Lib.hid h1
  have F1 := Lib.hid hf1
  have HT := Lib.hid hT
  have H2 := Lib.hid h2
  have H3 := Lib.hid h3
  obtain ⟨ad1, cap1, hv1⟩ := h1.slice
  subst hv1
  obtain ⟨ad2, cap2, hv2⟩ := h2.empty
  subst hv2
  obtain ⟨ad3, cap3, hv3⟩ := h3.empty
  subst hv3
  clear h1 hf1 hT h2 h3
  obtain ⟨n1, hn1⟩ : ∃ n, n = L.length := ⟨_, rfl⟩
  rw [← hn1] at H1 ⊢
  have N1 := Lib.hid hn1
  clear hn1
  obtain ⟨n2, hn2⟩ : ∃ n, n = ends.length := ⟨_, rfl⟩
  rw [← hn2] at H2 ⊢
  have N2 := Lib.hid hn2
  clear hn2
  obtain ⟨n3, hn3⟩ : ∃ n, n = blanks.length := ⟨_, rfl⟩
  rw [← hn3] at H3 ⊢
  have N3 := Lib.hid hn3
  clear hn3
  go_enter Tryd.func4, Tryd.ntmps4
  go_upto_region 1 with (fail)
  go_wp2_with fail
  refine (much_any _ L W H1.out (fun s hs => (F1.out s hs).2)).mono ?_
  rintro e w1 ⟨hk1, b1, rfl, hb1⟩
  have HK1 := Lib.hid hk1
  have HB1 := Lib.hid hb1
  clear hk1 hb1
  cases b1 with
  | true =>
    go_wp2_with fail
    refine (known_true w1 (HT.out.keep0 HK1.out)).mono ?_
    rintro e w9 ⟨rfl, hk9⟩
    have HK9 := Lib.hid (HK1.out.trans0 hk9)
    clear hk9
    go_wp2
    go_ret
    exact ⟨rfl, HK9.out⟩
  | false =>
  have FW1 := Lib.hid (HB1.out rfl)
  clear HB1
  by_cases hz : 400 < n2
  · have g1 := dec_lt_t (show (400 : Int) < (n2 : Int) by omega)
    have g2 := dec_ltn_t hz
    clear hz
    go_wp2_with fail
    refine (known_true w1 (HT.out.keep0 HK1.out)).mono ?_
    rintro e w9 ⟨rfl, hk9⟩
    have HK9 := Lib.hid (HK1.out.trans0 hk9)
    clear hk9
    go_wp2
    go_ret
    exact ⟨rfl, HK9.out⟩
  have g1 := dec_lt_f (show ¬ (400 : Int) < (n2 : Int) by omega)
  have g2 := dec_ltn_f hz
  by_cases hy : 400 < n3
  · have g3 := dec_lt_t (show (400 : Int) < (n3 : Int) by omega)
    have g4 := dec_ltn_t hy
    clear hz hy
    go_wp2_with fail
    refine (known_true w1 (HT.out.keep0 HK1.out)).mono ?_
    rintro e w9 ⟨rfl, hk9⟩
    have HK9 := Lib.hid (HK1.out.trans0 hk9)
    clear hk9
    go_wp2
    go_ret
    exact ⟨rfl, HK9.out⟩
  have g3 := dec_lt_f (show ¬ (400 : Int) < (n3 : Int) by omega)
  have g4 := dec_ltn_f hy
  have Z2 := Lib.hid (show n2 ≤ 400 by omega)
  have Z3 := Lib.hid (show n3 ≤ 400 by omega)
  clear hz hy
  go_upto_region 3 with (fail)
  go_wp2_with fail
  refine (print_any _ L w1 (H1.out.keep0 HK1.out) (FW1.out.ok F1.out) (by have := FW1.out.1; omega) (HT.out.keep0 HK1.out)).mono ?_
  rintro e w3 ⟨rfl, hk3⟩
  have HK3 := Lib.hid (HK1.out.trans0 hk3)
  clear hk3 HK1 g1 g2 g3 g4
  obtain ⟨o1, ho1⟩ : ∃ o, o = prn L := ⟨_, rfl⟩
  rw [← ho1]
  have O1 := Lib.hid ho1
  clear ho1
  cases o1 with
  | none =>
    unfold prnV
    go_wp2_with fail
    refine (known_true w3 (HT.out.keep0 HK3.out)).mono ?_
    rintro e w9 ⟨rfl, hk9⟩
    have HK9 := Lib.hid (HK3.out.trans0 hk9)
    clear hk9
    go_wp2
    go_ret
    exact ⟨rfl, HK9.out⟩
  | some s =>
  unfold prnV
  have ZS := Lib.hid (FW1.out.prn F1.out O1.out.symm)
  have HPS := Lib.hid (prs_prn (fun x hx => (F1.out x hx).1) O1.out.symm)
  have HPL := Lib.hid (prs_lo (ends := ends) (blanks := blanks) (fun x hx => (F1.out x hx).1) O1.out.symm)
  go_upto_region 6 with (fail)
  go_wp2_with fail
  refine (parse_says s (L.map bareS) 0 0 _ (by have := ZS.out; omega) (HT.out.keep0 HK3.out) HPS.out).mono ?_
  rintro e w5 ⟨ad5, cap5, rfl, hk5, hs5⟩
  have HS5 := Lib.hid hs5
  have HK5 := Lib.hid (HK3.out.trans0 hk5)
  clear hk5 hs5 HK3
  obtain ⟨lm, hlm⟩ : ∃ lm, lm = (L.map bareS).length := ⟨_, rfl⟩
  rw [← hlm] at HS5 ⊢
  clear hlm
  go_upto_region 14 with (fail)
  go_loopw [12, 13, 14, 15, 16] (fun tv nv qv ev iv wr => ∃ (k : Nat) (x : LSt), x = lo ends blanks s k ∧ iv = .int .i64 k ∧ k ≤ s.size ∧ tv = .string x.t ∧ nv = .int .i64 (x.n : Nat) ∧ qv = .bool x.q ∧ ev = .bool x.e ∧ Keep [] w5 wr) (fun _ _ _ _ iv _ => s.size - (intOf iv).toNat)
  case atStart => exact ⟨0, _, rfl, rfl, Nat.zero_le _, rfl, rfl, rfl, rfl, Keep.refl _ _⟩
  case round =>
    rename World => wr
    obtain ⟨k, ⟨t, n, q, e⟩, hx, rfl, hk, rfl, rfl, rfl, rfl, hkr⟩ := hrel
    have hsz := lo_size (ends := ends) (blanks := blanks) s k
    rw [← hx] at hsz
    simp only at hsz ⊢
    have HX := Lib.hid hx
    have HKR := Lib.hid hkr
    have hz := ZS.out
    obtain ⟨hts, hns⟩ := hsz
    clear hx hkr
    by_cases hlt : k < s.size
    · have HLT := Lib.hid hlt
      have g1 := dec_lt_t (show (k : Int) < (s.size : Int) by omega)
      have g2 := dec_ltn_t hlt
      have hix := byte_z (s := s) (i := k) (z := (k : Nat)) hlt rfl
      have hb := byt_lt s k
      have hcv := conv_l1 wr (byt s k) hb
      obtain ⟨y, hy⟩ : ∃ y : ByteArray, y = one (byt s k) := ⟨_, rfl⟩
      rw [← hy] at hcv
      have hys : y.size = 1 := by rw [hy]; exact one_size _
      have HY := Lib.hid hy
      obtain ⟨c, hci⟩ : ∃ c : Int, c = ((byt s k : Nat) : Int) := ⟨_, rfl⟩
      rw [← hci] at hix hcv
      have HC := Lib.hid hci
      have HKA := Lib.hid (HKR.out.alloc (.cells #[.int .u8 c] 5))
      have hty : (t ++ y).size ≤ 30000000 := by rw [ByteArray.size_append]; omega
      have htk : t.size ≤ 21000000 := by omega
      have hnk : n ≤ 3000000 := by omega
      clear hy hci hb hlt hts hns
      cases q with
      | true =>
        cases e with
        | true =>
          by_cases h34 : c = 34
          · subst h34
            have HB := Lib.hid (show byt s k = 34 by have := HC.out; omega)
            have HNX := Lib.hid (show (⟨t ++ y, n, true, false⟩ : LSt) = lo ends blanks s (k + 1) by
              rw [show lo ends blanks s (k + 1) = loC ends blanks k (byt s k) (lo ends blanks s k) from rfl, ← HX.out]
              rw [HY.out, HB.out]; rfl)
            go_wp2
            go_roundw
            case rel => exact ⟨k + 1, _, HNX.out, by go_num, HLT.out, rfl, by go_num, rfl, rfl, HKA.out⟩
            case measure => have := HLT.out; simp [intOf]; omega
          by_cases h92 : c = 92
          · subst h92
            have HB := Lib.hid (show byt s k = 92 by have := HC.out; omega)
            have HNX := Lib.hid (show (⟨t ++ y, n, true, false⟩ : LSt) = lo ends blanks s (k + 1) by
              rw [show lo ends blanks s (k + 1) = loC ends blanks k (byt s k) (lo ends blanks s k) from rfl, ← HX.out]
              rw [HY.out, HB.out]; rfl)
            go_wp2
            go_roundw
            case rel => exact ⟨k + 1, _, HNX.out, by go_num, HLT.out, rfl, by go_num, rfl, rfl, HKA.out⟩
            case measure => have := HLT.out; simp [intOf]; omega
          have g3 : (c == 34) = false := by simpa using h34
          have g4 : (c == 92) = false := by simpa using h92
          have HB := Lib.hid (show byt s k ≠ 34 ∧ byt s k ≠ 92 by have := HC.out; omega)
          clear h34 h92
          have HNX := Lib.hid (show (⟨t ++ y, n, true, false⟩ : LSt) = lo ends blanks s (k + 1) by
            rw [show lo ends blanks s (k + 1) = loC ends blanks k (byt s k) (lo ends blanks s k) from rfl, ← HX.out]
            rw [HY.out]; unfold loC; rw [if_pos rfl, decide_eq_false HB.out.1, decide_eq_false HB.out.2]; rfl)
          go_wp2
          go_roundw
          case rel => exact ⟨k + 1, _, HNX.out, by go_num, HLT.out, rfl, by go_num, rfl, rfl, HKA.out⟩
          case measure => have := HLT.out; simp [intOf]; omega
        | false =>
          by_cases h34 : c = 34
          · subst h34
            have HB := Lib.hid (show byt s k = 34 by have := HC.out; omega)
            have HNX := Lib.hid (show (⟨t ++ y, n, false, false⟩ : LSt) = lo ends blanks s (k + 1) by
              rw [show lo ends blanks s (k + 1) = loC ends blanks k (byt s k) (lo ends blanks s k) from rfl, ← HX.out]
              rw [HY.out, HB.out]; rfl)
            go_wp2
            go_roundw
            case rel => exact ⟨k + 1, _, HNX.out, by go_num, HLT.out, rfl, by go_num, rfl, rfl, HKA.out⟩
            case measure => have := HLT.out; simp [intOf]; omega
          by_cases h92 : c = 92
          · subst h92
            have HB := Lib.hid (show byt s k = 92 by have := HC.out; omega)
            have HNX := Lib.hid (show (⟨t ++ y, n, true, true⟩ : LSt) = lo ends blanks s (k + 1) by
              rw [show lo ends blanks s (k + 1) = loC ends blanks k (byt s k) (lo ends blanks s k) from rfl, ← HX.out]
              rw [HY.out, HB.out]; rfl)
            go_wp2
            go_roundw
            case rel => exact ⟨k + 1, _, HNX.out, by go_num, HLT.out, rfl, by go_num, rfl, rfl, HKA.out⟩
            case measure => have := HLT.out; simp [intOf]; omega
          have g3 : (c == 34) = false := by simpa using h34
          have g4 : (c == 92) = false := by simpa using h92
          have HB := Lib.hid (show byt s k ≠ 34 ∧ byt s k ≠ 92 by have := HC.out; omega)
          clear h34 h92
          have HNX := Lib.hid (show (⟨t ++ y, n, true, false⟩ : LSt) = lo ends blanks s (k + 1) by
            rw [show lo ends blanks s (k + 1) = loC ends blanks k (byt s k) (lo ends blanks s k) from rfl, ← HX.out]
            rw [HY.out]; unfold loC; rw [if_pos rfl, decide_eq_false HB.out.1, decide_eq_false HB.out.2]; rfl)
          go_wp2
          go_roundw
          case rel => exact ⟨k + 1, _, HNX.out, by go_num, HLT.out, rfl, by go_num, rfl, rfl, HKA.out⟩
          case measure => have := HLT.out; simp [intOf]; omega
      | false =>
        have HCV := Lib.hid hcv
        have HYS := Lib.hid hys
        have HTY := Lib.hid hty
        clear hcv hys hty
        by_cases h10 : c = 10
        · subst h10
          have HB := Lib.hid (show byt s k = 10 by have := HC.out; omega)
          by_cases hne : n < n2
          · have hnl : n < ends.length := by have := N2.out; omega
            obtain ⟨eb, eo, ec, hev, hce⟩ := int_at (by have h := H2.out.keep0 (HK5.out.trans0 HKR.out); rw [N2.out] at h; exact h) hnl
            rw [← N2.out] at hev
            injection hev with e1 _ e3
            subst e1
            have HE := Lib.hid (show ends[n]? = some ends[n] from List.getElem?_eq_getElem hnl)
            have htb := tmod_bd2 ends[n] (d := 5) (by decide)
            generalize ends[n] = z at hce HE htb
            have g3 := dec_lt_t (show (n : Int) < (n2 : Int) by omega)
            have g4 := dec_ltn_t hne
            clear hnl e3
            by_cases r1 : z.tmod 5 = 1
            · have q1 : (z.tmod 5 == 1) = true := by simpa using r1
              have HR := Lib.hid r1
              clear r1
              have hadd : ∀ W, (Op.stringOp .add t (⟨#[13, 10]⟩ : ByteArray)).run Tryd.prog W = .ok (.string (t ++ (⟨#[13, 10]⟩ : ByteArray))) W := fun W => Go.run_string_add_sum W _ _ (by show t.size + 2 ≤ _; omega)
              obtain ⟨tt, htt⟩ : ∃ tt, tt = t ++ (⟨#[13, 10]⟩ : ByteArray) := ⟨_, rfl⟩
              rw [← htt] at hadd
              have HTT := Lib.hid htt
              clear htt
              have HNX := Lib.hid (show (⟨tt, n + 1, false, e⟩ : LSt) = lo ends blanks s (k + 1) by
                rw [show lo ends blanks s (k + 1) = loC ends blanks k (byt s k) (lo ends blanks s k) from rfl, ← HX.out]
                rw [HTT.out, HB.out]; unfold loC endE; simp [HE.out, HR.out])
              go_wp2
              go_roundw
              case rel => exact ⟨k + 1, _, HNX.out, by go_num, HLT.out, rfl, by go_num, rfl, rfl, HKR.out⟩
              case measure => have := HLT.out; simp [intOf]; omega
            by_cases r2 : z.tmod 5 = 2
            · have q2 : (z.tmod 5 == 2) = true := by simpa using r2
              have q1 : (z.tmod 5 == 1) = false := by simpa using r1
              have HR := Lib.hid r2
              clear r1 r2
              have hadd : ∀ W, (Op.stringOp .add t (⟨#[13]⟩ : ByteArray)).run Tryd.prog W = .ok (.string (t ++ (⟨#[13]⟩ : ByteArray))) W := fun W => Go.run_string_add_sum W _ _ (by show t.size + 1 ≤ _; omega)
              obtain ⟨tt, htt⟩ : ∃ tt, tt = t ++ (⟨#[13]⟩ : ByteArray) := ⟨_, rfl⟩
              rw [← htt] at hadd
              have HTT := Lib.hid htt
              clear htt
              have HNX := Lib.hid (show (⟨tt, n + 1, false, e⟩ : LSt) = lo ends blanks s (k + 1) by
                rw [show lo ends blanks s (k + 1) = loC ends blanks k (byt s k) (lo ends blanks s k) from rfl, ← HX.out]
                rw [HTT.out, HB.out]; unfold loC endE; simp [HE.out, HR.out])
              go_wp2
              go_roundw
              case rel => exact ⟨k + 1, _, HNX.out, by go_num, HLT.out, rfl, by go_num, rfl, rfl, HKR.out⟩
              case measure => have := HLT.out; simp [intOf]; omega
            by_cases r3 : z.tmod 5 = 3
            · have q3 : (z.tmod 5 == 3) = true := by simpa using r3
              have q1 : (z.tmod 5 == 1) = false := by simpa using r1
              have q2 : (z.tmod 5 == 2) = false := by simpa using r2
              have HR := Lib.hid r3
              clear r1 r2 r3
              have hadd : ∀ W, (Op.stringOp .add t (⟨#[32, 35, 32, 34, 120, 255, 32, 121, 10, 10]⟩ : ByteArray)).run Tryd.prog W = .ok (.string (t ++ (⟨#[32, 35, 32, 34, 120, 255, 32, 121, 10, 10]⟩ : ByteArray))) W := fun W => Go.run_string_add_sum W _ _ (by show t.size + 10 ≤ _; omega)
              obtain ⟨tt, htt⟩ : ∃ tt, tt = t ++ (⟨#[32, 35, 32, 34, 120, 255, 32, 121, 10, 10]⟩ : ByteArray) := ⟨_, rfl⟩
              rw [← htt] at hadd
              have HTT := Lib.hid htt
              clear htt
              have HNX := Lib.hid (show (⟨tt, n + 1, false, e⟩ : LSt) = lo ends blanks s (k + 1) by
                rw [show lo ends blanks s (k + 1) = loC ends blanks k (byt s k) (lo ends blanks s k) from rfl, ← HX.out]
                rw [HTT.out, HB.out]; unfold loC endE; simp [HE.out, HR.out])
              go_wp2
              go_roundw
              case rel => exact ⟨k + 1, _, HNX.out, by go_num, HLT.out, rfl, by go_num, rfl, rfl, HKR.out⟩
              case measure => have := HLT.out; simp [intOf]; omega
            by_cases r4 : z.tmod 5 = 4
            · have q4 : (z.tmod 5 == 4) = true := by simpa using r4
              have q1 : (z.tmod 5 == 1) = false := by simpa using r1
              have q2 : (z.tmod 5 == 2) = false := by simpa using r2
              have q3 : (z.tmod 5 == 3) = false := by simpa using r3
              have HR := Lib.hid r4
              clear r1 r2 r3 r4
              have hadd : ∀ W, (Op.stringOp .add t (⟨#[9, 10, 32, 32, 13, 10, 35, 10]⟩ : ByteArray)).run Tryd.prog W = .ok (.string (t ++ (⟨#[9, 10, 32, 32, 13, 10, 35, 10]⟩ : ByteArray))) W := fun W => Go.run_string_add_sum W _ _ (by show t.size + 8 ≤ _; omega)
              obtain ⟨tt, htt⟩ : ∃ tt, tt = t ++ (⟨#[9, 10, 32, 32, 13, 10, 35, 10]⟩ : ByteArray) := ⟨_, rfl⟩
              rw [← htt] at hadd
              have HTT := Lib.hid htt
              clear htt
              have HNX := Lib.hid (show (⟨tt, n + 1, false, e⟩ : LSt) = lo ends blanks s (k + 1) by
                rw [show lo ends blanks s (k + 1) = loC ends blanks k (byt s k) (lo ends blanks s k) from rfl, ← HX.out]
                rw [HTT.out, HB.out]; unfold loC endE; simp [HE.out, HR.out])
              go_wp2
              go_roundw
              case rel => exact ⟨k + 1, _, HNX.out, by go_num, HLT.out, rfl, by go_num, rfl, rfl, HKR.out⟩
              case measure => have := HLT.out; simp [intOf]; omega
            have q1 : (z.tmod 5 == 1) = false := by simpa using r1
            have q2 : (z.tmod 5 == 2) = false := by simpa using r2
            have q3 : (z.tmod 5 == 3) = false := by simpa using r3
            have q4 : (z.tmod 5 == 4) = false := by simpa using r4
            have HR := Lib.hid (show z.tmod 5 ≠ 1 ∧ z.tmod 5 ≠ 2 ∧ z.tmod 5 ≠ 3 ∧ z.tmod 5 ≠ 4 from ⟨r1, r2, r3, r4⟩)
            clear r1 r2 r3 r4
            have hadd : ∀ W, (Op.stringOp .add t (⟨#[10]⟩ : ByteArray)).run Tryd.prog W = .ok (.string (t ++ (⟨#[10]⟩ : ByteArray))) W := fun W => Go.run_string_add_sum W _ _ (by show t.size + 1 ≤ _; omega)
            obtain ⟨tt, htt⟩ : ∃ tt, tt = t ++ (⟨#[10]⟩ : ByteArray) := ⟨_, rfl⟩
            rw [← htt] at hadd
            have HTT := Lib.hid htt
            clear htt
            have HNX := Lib.hid (show (⟨tt, n + 1, false, e⟩ : LSt) = lo ends blanks s (k + 1) by
              rw [show lo ends blanks s (k + 1) = loC ends blanks k (byt s k) (lo ends blanks s k) from rfl, ← HX.out]
              rw [HTT.out, HB.out]; unfold loC endE; simp [HE.out, HR.out.1, HR.out.2.1, HR.out.2.2.1, HR.out.2.2.2])
            go_wp2
            go_roundw
            case rel => exact ⟨k + 1, _, HNX.out, by go_num, HLT.out, rfl, by go_num, rfl, rfl, HKR.out⟩
            case measure => have := HLT.out; simp [intOf]; omega
          · have HE := Lib.hid (show ends[n]? = none from List.getElem?_eq_none (by have := N2.out; omega))
            have g3 := dec_lt_f (show ¬ (n : Int) < (n2 : Int) by omega)
            have g4 := dec_ltn_f hne
            clear hne
            have hadd : ∀ W, (Op.stringOp .add t (⟨#[10]⟩ : ByteArray)).run Tryd.prog W = .ok (.string (t ++ (⟨#[10]⟩ : ByteArray))) W := fun W => Go.run_string_add_sum W _ _ (by show t.size + 1 ≤ _; omega)
            obtain ⟨tt, htt⟩ : ∃ tt, tt = t ++ (⟨#[10]⟩ : ByteArray) := ⟨_, rfl⟩
            rw [← htt] at hadd
            have HTT := Lib.hid htt
            clear htt
            have HNX := Lib.hid (show (⟨tt, n + 1, false, e⟩ : LSt) = lo ends blanks s (k + 1) by
              rw [show lo ends blanks s (k + 1) = loC ends blanks k (byt s k) (lo ends blanks s k) from rfl, ← HX.out]
              rw [HTT.out, HB.out]; unfold loC endE; simp [HE.out])
            go_wp2
            go_roundw
            case rel => exact ⟨k + 1, _, HNX.out, by go_num, HLT.out, rfl, by go_num, rfl, rfl, HKR.out⟩
            case measure => have := HLT.out; simp [intOf]; omega
        by_cases h32 : c = 32
        · subst h32
          have HB := Lib.hid (show byt s k = 32 by have := HC.out; omega)
          have ha1 : ∀ W, (Op.stringOp .add t (⟨#[32]⟩ : ByteArray)).run Tryd.prog W = .ok (.string (t ++ (⟨#[32]⟩ : ByteArray))) W := fun W => Go.run_string_add_sum W _ _ (by show t.size + 1 ≤ _; omega)
          obtain ⟨tt, htt⟩ : ∃ tt, tt = t ++ (⟨#[32]⟩ : ByteArray) := ⟨_, rfl⟩
          have hts : tt.size ≤ 21000001 := by rw [htt, ByteArray.size_append]; show t.size + 1 ≤ _; omega
          rw [← htt] at ha1
          have ha2 : ∀ W, (Op.stringOp .add tt (⟨#[9, 32, 32]⟩ : ByteArray)).run Tryd.prog W = .ok (.string (tt ++ (⟨#[9, 32, 32]⟩ : ByteArray))) W := fun W => Go.run_string_add_sum W _ _ (by show tt.size + 3 ≤ _; omega)
          obtain ⟨tu, htu⟩ : ∃ tu, tu = tt ++ (⟨#[9, 32, 32]⟩ : ByteArray) := ⟨_, rfl⟩
          rw [← htu] at ha2
          have HTT := Lib.hid htt
          have HTU := Lib.hid (show tu = t ++ (⟨#[32, 9, 32, 32]⟩ : ByteArray) by rw [htu, htt, ByteArray.append_assoc]; rfl)
          clear htt htu hts
          by_cases hne : k < n3
          · have hnl : k < blanks.length := by have := N3.out; omega
            obtain ⟨eb, eo, ec, hev, hce⟩ := int_at (by have h := H3.out.keep0 (HK5.out.trans0 HKR.out); rw [N3.out] at h; exact h) hnl
            rw [← N3.out] at hev
            injection hev with e1 _ e3
            subst e1
            have HE := Lib.hid (show blanks[k]? = some blanks[k] from List.getElem?_eq_getElem hnl)
            have htb := tmod_bd2 blanks[k] (d := 3) (by decide)
            generalize blanks[k] = z at hce HE htb
            have g3 := dec_lt_t (show (k : Int) < (n3 : Int) by omega)
            have g4 := dec_ltn_t hne
            clear hnl e3
            by_cases r1 : z.tmod 3 = 0
            · have q1 : (z.tmod 3 != 0) = false := by simpa using r1
              have HR := Lib.hid r1
              clear r1
              have HNX := Lib.hid (show (⟨tt, n, false, e⟩ : LSt) = lo ends blanks s (k + 1) by
                rw [show lo ends blanks s (k + 1) = loC ends blanks k (byt s k) (lo ends blanks s k) from rfl, ← HX.out]
                rw [HTT.out, HB.out]; unfold loC blkE; simp [HE.out, HR.out])
              go_wp2
              go_roundw
              case rel => exact ⟨k + 1, _, HNX.out, by go_num, HLT.out, rfl, by go_num, rfl, rfl, HKR.out⟩
              case measure => have := HLT.out; simp [intOf]; omega
            · have q1 : (z.tmod 3 != 0) = true := by simpa using r1
              have HR := Lib.hid r1
              clear r1
              have HNX := Lib.hid (show (⟨tu, n, false, e⟩ : LSt) = lo ends blanks s (k + 1) by
                rw [show lo ends blanks s (k + 1) = loC ends blanks k (byt s k) (lo ends blanks s k) from rfl, ← HX.out]
                rw [HTU.out, HB.out]; unfold loC blkE; simp [HE.out, HR.out])
              go_wp2
              go_roundw
              case rel => exact ⟨k + 1, _, HNX.out, by go_num, HLT.out, rfl, by go_num, rfl, rfl, HKR.out⟩
              case measure => have := HLT.out; simp [intOf]; omega
          · have HE := Lib.hid (show blanks[k]? = none from List.getElem?_eq_none (by have := N3.out; omega))
            have g3 := dec_lt_f (show ¬ (k : Int) < (n3 : Int) by omega)
            have g4 := dec_ltn_f hne
            clear hne
            have HNX := Lib.hid (show (⟨tt, n, false, e⟩ : LSt) = lo ends blanks s (k + 1) by
              rw [show lo ends blanks s (k + 1) = loC ends blanks k (byt s k) (lo ends blanks s k) from rfl, ← HX.out]
              rw [HTT.out, HB.out]; unfold loC blkE; simp [HE.out])
            go_wp2
            go_roundw
            case rel => exact ⟨k + 1, _, HNX.out, by go_num, HLT.out, rfl, by go_num, rfl, rfl, HKR.out⟩
            case measure => have := HLT.out; simp [intOf]; omega
        have g3 : (c == 10) = false := by simpa using h10
        have g4 : (c == 32) = false := by simpa using h32
        have hcv := HCV.out
        have hys := HYS.out
        have hty := HTY.out
        by_cases h34 : c = 34
        · subst h34
          have HB := Lib.hid (show byt s k = 34 by have := HC.out; omega)
          clear g3 g4 h10 h32
          have HNX := Lib.hid (show (⟨t ++ y, n, true, e⟩ : LSt) = lo ends blanks s (k + 1) by
            rw [show lo ends blanks s (k + 1) = loC ends blanks k (byt s k) (lo ends blanks s k) from rfl, ← HX.out]
            rw [HY.out, HB.out]; rfl)
          go_wp2
          go_roundw
          case rel => exact ⟨k + 1, _, HNX.out, by go_num, HLT.out, rfl, by go_num, rfl, rfl, HKA.out⟩
          case measure => have := HLT.out; simp [intOf]; omega
        have g5 : (c == 34) = false := by simpa using h34
        have HB := Lib.hid (show byt s k ≠ 34 ∧ byt s k ≠ 10 ∧ byt s k ≠ 32 by have := HC.out; omega)
        clear h10 h32 h34
        have HNX := Lib.hid (show (⟨t ++ y, n, false, e⟩ : LSt) = lo ends blanks s (k + 1) by
          rw [show lo ends blanks s (k + 1) = loC ends blanks k (byt s k) (lo ends blanks s k) from rfl, ← HX.out]
          rw [HY.out]; unfold loC; rw [if_neg (by simp), if_neg HB.out.2.1, if_neg HB.out.2.2, decide_eq_false HB.out.1])
        go_wp2
        go_roundw
        case rel => exact ⟨k + 1, _, HNX.out, by go_num, HLT.out, rfl, by go_num, rfl, rfl, HKA.out⟩
        case measure => have := HLT.out; simp [intOf]; omega
    · obtain rfl : k = s.size := by omega
      have g1 := dec_lt_f (show ¬ (s.size : Int) < (s.size : Int) by omega)
      have g2 := dec_ltn_f hlt
      have HPT := Lib.hid (show prsT t = (L.map bareS, 0, 0) by have h := HPL.out; rw [← HX.out] at h; exact h)
      have HKW := Lib.hid (HK5.out.trans0 HKR.out)
      have HS6 := Lib.hid (HS5.out.keep0 HKR.out)
      have HTZ := Lib.hid (show t.size ≤ 100000000 by omega)
      clear hlt HX HPL HK5 HS5 HKR hts hns hz
      go_upto_region 42 with (fail)
      clear g1 g2
      go_wp2_with fail
      refine (parse_says t (L.map bareS) 0 0 wr HTZ.out (HT.out.keep0 HKW.out) HPT.out).mono ?_
      rintro e w6 ⟨ad6, cap6, rfl, hk6, hs6⟩
      have HK6 := Lib.hid (HKW.out.trans0 hk6)
      have HS7 := Lib.hid (HS6.out.keep0 hk6)
      have HS8 := Lib.hid hs6
      clear hk6 hs6 HS6 HKW
      obtain ⟨lq, hlq⟩ : ∃ lq, lq = (L.map bareS).length := ⟨_, rfl⟩
      rw [← hlq] at HS8 ⊢
      clear hlq
      go_upto_region 43 with (fail)
      go_wp2_with fail
      refine (same_any (L.map bareS) _ _ w6 HS8.out HS7.out (by rw [List.length_map]; have := FW1.out.1; omega) (bare_draws (FW1.out.ok F1.out))).mono ?_
      rintro e w7 ⟨rfl, hk7⟩
      have HK7 := Lib.hid (HK6.out.trans0 hk7)
      clear hk7 HS7 HS8 HK6
      go_wp2_with fail
      refine (known_true w7 (HT.out.keep0 HK7.out)).mono ?_
      rintro e w9 ⟨rfl, hk9⟩
      have HK9 := Lib.hid (HK7.out.trans0 hk9)
      clear hk9
      go_wp2
      go_ret
      exact ⟨rfl, HK9.out⟩
end Go.Proofs.YtbidppjhenfjdaaDoor
namespace Go.Proofs.YtbidppjhenfjdaaDoor.scriptLoose
open Go.ChangeShapes Go.WideShapes Go.ChangeAt Go.RowKit
open Go.ChangeMaps (open_string shut_string)
set_option linter.unusedVariables false

set_option maxRecDepth 100000 in
theorem contract (H : Type) (enc : TypeId × Value → H) (W : World) (base : Nat) (args : Array Value) (ds gs : List (DataW H)) (before : List MemPlace)
    (hval : ∀ (j : Nat) t v, Tryd.f4.params[j]? = some t → args[j]? = some v → Value.okWide Tryd.prog W .any base t v)
    (hW : DataW.Whole enc Tryd.prog Tryd.f4.params.toList Rows.scriptLooseSpec.vars false W args.toList ds gs before) (hL : laidMetH Tryd.prog laid1 W) (hWt : (DataW.weightsEach Tryd.prog (Tryd.f4.params.toList ++ []) (ds ++ gs)).all (· ≤ reachBytes) = true) :
    Calls Tryd.prog 4 args W fun e W' => ∃ v, e = .returned v ∧ Rows.scriptLooseSpec.post enc Tryd.prog Tryd.f4 false true false false W args v W' := by
  have hW' := hW
  obtain ⟨p, q, hA0, hV, rfl, hfz, hnd⟩ := hW
  have hA : DataW.TrodAll enc Tryd.prog W 0 (fun _ => true) true Tryd.f4.params.toList args.toList ds p := hA0
  rw [Tryd.params4] at hA hval hWt
  obtain ⟨v0, vs0, d0, ds0, p0, q0, hargs, rfl, rfl, h0, r0⟩ := trodAll_cons hA
  obtain ⟨v1, vs1, d1, ds1, p1, q1, rfl, rfl, rfl, h1, r1⟩ := trodAll_cons r0
  obtain ⟨v2, vs2, d2, ds2, p2, q2, rfl, rfl, rfl, h2, r2⟩ := trodAll_cons r1
  obtain ⟨rfl, rfl, rfl⟩ := trodAll_nil r2
  obtain rfl : args = #[v0, v1, v2] := by cases args; simp_all
  obtain ⟨rfl, rfl⟩ := trodVars_none hV
  have hWt' : (DataW.weightsEach Tryd.prog [22, 28, 28] [d0, d1, d2]).all (· ≤ reachBytes) = true := hWt
  simp only [DataW.weightsEach, List.all_append, Bool.and_eq_true] at hWt'
  obtain ⟨w0, w1, w2, _⟩ := hWt'
  clear hA0
  simp only [List.append_nil] at hW'
  have hlt : ∀ x ∈ p0 ++ (p1 ++ (p2)), x.block < W.heap.size := fun x hx => by simpa using hW'.lt x (by simpa using hx)
  have k0 := h0
  obtain ⟨xs0, hx0, hf0⟩ := open_steps (hval 0 22 v0 rfl rfl) h0 w0
  have k1 := h1
  obtain ⟨xs1, hx1⟩ := open_nums (hval 1 28 v1 rfl rfl) h1 w1
  have k2 := h2
  obtain ⟨xs2, hx2⟩ := open_nums (hval 2 28 v2 rfl rfl) h2 w2
  refine (scriptLoose_walk v0 xs0 v1 xs1 v2 xs2 W hx0 hf0 hx1 hx2 (table hL)).mono fun e W' ⟨he, hk⟩ => ?_
  subst he
  have hb := hk.below
  exact ⟨_, rfl, _, _, _, [], p0 ++ (p1 ++ (p2 ++ [])), [], hW', trodAll_cons_mk (shut_bool Tryd.underlying4 _) trodAll_mk0, trodAll_cons_mk (Below.trod laidOut (by kernel_rfl) (of_decide_eq_true (by kernel_rfl)) k0 hb (fun x hx => hlt x (by simp [hx]))) (trodAll_cons_mk (Below.trod laidOut (by kernel_rfl) (of_decide_eq_true (by kernel_rfl)) k1 hb (fun x hx => hlt x (by simp [hx]))) (trodAll_cons_mk (Below.trod laidOut (by kernel_rfl) (of_decide_eq_true (by kernel_rfl)) k2 hb (fun x hx => hlt x (by simp [hx]))) trodAll_mk0)), rfl, hb.frame _, fun h => by cases h⟩

theorem laid_met (os : Os) : laidMet Tryd.prog laid1 ((laidWorld os).forCall (fun _ _ => 0) ⟨#[], #[.slice none 0 0, .slice none 0 0, .slice none 0 0], []⟩).memory :=
  laidMet_of_run' 8 (by kernel_rfl) (by kernel_rfl)
theorem reads (os : Os) {H : Type} (enc : TypeId × Value → H) : ∃ places, DataW.whole enc Tryd.prog ((laidWorld os).forCall (fun _ _ => 0) ⟨#[], #[.slice none 0 0, .slice none 0 0, .slice none 0 0], []⟩).memory Tryd.f4.params.toList Rows.scriptLooseSpec.vars false #[(.slice none 0 0 : Value), .slice none 0 0, .slice none 0 0].toList 8 = some ([.nil, .nil, .nil], [], places) :=
  ⟨[], by kernel_rfl⟩

set_option maxRecDepth 100000 in
theorem lifted (os : Os) (started : os.Started) (H : Type) (enc : TypeId × Value → H) (F : Stop.Interp) :
    ReturnsInHanded {} Tryd.checked os 4 .any ((OpenSpec.ofChange Rows.scriptLooseSpec).preRow enc Tryd.prog Tryd.f4 Rows.scriptLooseRow.domain false Rows.scriptLooseRow.laid) (((OpenSpec.ofChange Rows.scriptLooseSpec).at F).post enc Tryd.prog Tryd.f4 false true false false) := by
  obtain ⟨places, hx⟩ := reads os enc
  refine returnsInHanded_of_row (C := Tryd.checked) (s := OpenSpec.ofChange Rows.scriptLooseSpec) own started (by kernel_rfl) Tryd.func4
    (witness_row_at (enc := enc) (C := Tryd.checked) false (laidWorld os) #[.slice none 0 0, .slice none 0 0, .slice none 0 0] rfl (by kernel_rfl) (by kernel_rfl) (by kernel_rfl)
      (OpenSpec.preRow_of_cond 8 hx (by kernel_rfl) (fun k hk => by cases hk) (by kernel_rfl) (laid_met os))) ?_
  intro W base args ds gs before hval hW _ _ hWt hL _ _
  exact contract H enc W base args ds gs before hval hW hL hWt

theorem said : Rows.ScriptLooseSaid :=
  OpenClaim.holds_of_cond 4 Tryd.f4 rfl rfl rfl rfl rfl rfl rfl ⟨rfl, rfl, rfl, rfl, rfl⟩ rfl rfl rfl rfl rfl (by kernel_rfl) Tryd.func4 (by kernel_rfl)
    (of_decide_eq_true (by kernel_rfl)) (by unfold Func.isWrapper; first | (rw [if_pos (by decide +kernel)]; kernel_rfl) | (rw [if_neg (by decide +kernel)]; exact ⟨rfl, rfl⟩))
    (fun os started H enc _ F => by rw [OpenClaim.pre_eq_preRow]; exact lifted os started H enc F)

/-- No parameter wants a stand-in; the program's own looks are off. -/
theorem plain (f : FuncId) (fn : Func) (hf : Tryd.pinned.checked.prog.funcNamed "hearsay/hearsaylaw22.ScriptLoose" = some f) (hfn : Tryd.pinned.checked.prog.funcs[f]? = some fn) :
    true = Tryd.pinned.checked.prog.looks [] ∧ ∀ (j : Nat) t, fn.params[j]? = some t → Tryd.pinned.checked.prog.wantsStandIn t = false := by
  obtain rfl : f = 4 := Option.some.inj ((show Tryd.prog.funcNamed "hearsay/hearsaylaw22.ScriptLoose" = some 4 by kernel_rfl).symm.trans hf) |>.symm
  obtain rfl : fn = Tryd.f4 := (Option.some.inj (Tryd.func4.symm.trans hfn)).symm
  refine ⟨by kernel_rfl, fun j t ht => ?_⟩
  rw [Tryd.params4] at ht
  have hm := Array.mem_of_getElem? ht
  simp at hm
  have hm' : t = 22 ∨ t = 28 ∨ t = 28 := by simpa using hm
  rcases hm' with rfl | rfl | rfl
  · exact (show Tryd.prog.wantsStandIn 22 = false by kernel_rfl)
  · exact (show Tryd.prog.wantsStandIn 28 = false by kernel_rfl)
  · exact (show Tryd.prog.wantsStandIn 28 = false by kernel_rfl)

/-- THE CARD. -/
theorem card : Rows.ScriptLooseCardSaid :=
  Claim7.holds_tied_plain_at .later [] _ _ _ _ said (fun _ h => by cases h) (by kernel_rfl) (fun _ h => by cases h) scriptLoose_row_tie rfl ⟨rfl, rfl⟩ (by kernel_rfl) rfl plain (by kernel_rfl)
end Go.Proofs.YtbidppjhenfjdaaDoor.scriptLoose
