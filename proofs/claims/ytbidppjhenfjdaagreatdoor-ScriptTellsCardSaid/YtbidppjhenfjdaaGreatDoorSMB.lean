/-
  What the document fixes of chapter 22.
-/
import Derived.Test.YtbidppjhenfjdaaGreatDoorSMS
import Derived.Test.YtbidppjhenfjdaaGreatDoorSMA
import Derived.Test.YtbidppjhenfjdaaGreatDoorSl
import Derived.Deep.CutRange
import Derived.Test.YtbidppjhenfjdaaGreatDoorQuoB
import Derived.Test.YtbidppjhenfjdaaGreatDoorQuoE
import Derived.Lib.ItoaLen
import Derived.Lib.IfaceNeq
import Derived.Test.YtbidppjhenfjdaaGreatDoorStillIn
namespace Go.Proofs.YtbidppjhenfjdaaGreatDoor
open Go.RowKit
set_option linter.unusedVariables false
set_option linter.unusedSimpArgs false

/-- The last byte of what was found. -/
def lastAt (f : Fn) : Int := if f.k = 1 then (f.a : Int) + f.t.size - 1 else f.a
/-- What is found rises: behind a place, in a line, behind a word of a kind. -/
def rises (s : ByteArray) : Int → Nat → Nat → List Fn → Prop
  | _, _, kind, [] => kind = 4
  | at_, line, kind, f :: r =>
    (f.e ≠ 0 ∧ r = [] ∧ f.k = 0 ∧ f.t = ByteArray.empty ∧ f.n = 0 ∧ line ≤ f.l ∧ f.a ≤ s.size ∧ at_ ≤ f.a ∧ (f.e = 18 ∨ f.e = 2 ∨ f.e = 6)) ∨
    (f.e = 0 ∧ line ≤ f.l ∧ f.a ≤ s.size ∧ at_ < f.a ∧ (kind = 4 → f.k ≠ 4 ∧ (at_ < 0 ∨ line < f.l)) ∧ (kind ≠ 4 → f.l = line) ∧ (f.k = 1 ∨ f.k = 2 ∨ f.k = 3 ∨ f.k = 4) ∧ (f.k = 3 ∨ f.n = 0) ∧
      (f.k = 1 ∨ f.k = 2 ∨ f.t = ByteArray.empty) ∧ (f.k = 1 → f.t.size ≠ 0 ∧ f.a + f.t.size ≤ s.size ∧ s.extract f.a (f.a + f.t.size) = f.t) ∧ rises s (lastAt f) f.l f.k r)
theorem pw_codes (s : ByteArray) : ∀ (m i : Nat), s.size - i ≤ m → (pw s i).2 = 0 ∨ (pw s i).2 = 18 ∨ (pw s i).2 = 2 := by
  intro m
  induction m with
  | zero =>
    intro i hm
    rw [pw_end (endB_yes (.inl (by omega)))]
    exact .inl rfl
  | succ m ih =>
    intro i hm
    cases he : endB s i with
    | true => rw [pw_end he]; exact .inl rfl
    | false =>
      have hi := (endB_lt he).1
      by_cases h1 : (dec s i).1 = 34
      · rw [pw_quote he h1]; exact .inr (.inl rfl)
      · by_cases h2 : wid s i = 0 ∨ (dec s i).1 < 32 ∨ (dec s i).1 = 127
        · rw [pw_bad he h1 h2]; exact .inr (.inr rfl)
        · rw [pw_on he h1 h2]
          have hn := dec_n hi
          exact ih _ (by omega)
theorem qtd_place {s x : ByteArray} {a e : Nat} {ok : Bool} (ha : a < s.size) (h : qtd s a = (ok, x, e)) : a ≤ e ∧ e ≤ s.size := by
  unfold qtd at h
  split at h
  · rename_i h0
    have := qd_pos s (a + 1) ByteArray.empty (by omega)
    rw [h] at this
    exact ⟨by have := this.1; simp only at this; omega, this.2.1⟩
  · injection h with _ h
    injection h with _ h
    omega
/-- What a plain word, a number or neither gives. -/
theorem plF_rises {s : ByteArray} {a l : Nat} (h : endB s a = false) :
    (∃ f, plF s a l = (f, none) ∧ f.e ≠ 0 ∧ f.k = 0 ∧ f.t = ByteArray.empty ∧ f.n = 0 ∧ f.l = l ∧ a ≤ f.a ∧ f.a ≤ s.size ∧ (f.e = 18 ∨ f.e = 2 ∨ f.e = 6)) ∨
    (∃ f e, plF s a l = (f, some e) ∧ a < e ∧ e ≤ s.size ∧ f.e = 0 ∧ f.a = a ∧ f.l = l ∧ ((f.k = 1 ∧ f.t = s.extract a e ∧ f.n = 0) ∨ (f.k = 3 ∧ f.t = ByteArray.empty))) := by
  have hs := (endB_lt h).1
  obtain ⟨⟨e, c⟩, hp⟩ : ∃ r, pw s a = r := ⟨_, rfl⟩
  by_cases hc : c = 0
  · subst hc
    have hm := pw_more h (by rw [hp])
    rw [hp] at hm
    cases hn : numB (s.extract a e) with
    | false => exact .inr ⟨_, _, plF_word hp hn, hm.1, hm.2, rfl, rfl, rfl, .inl ⟨rfl, rfl, rfl⟩⟩
    | true =>
      cases ht : numT (s.extract a e).data.toList with
      | none => exact .inl ⟨_, plF_bad hp hn ht, by simp, rfl, rfl, rfl, rfl, Nat.le_refl _, Nat.le_of_lt hs, .inr (.inr rfl)⟩
      | some v => exact .inr ⟨_, _, plF_num hp hn ht, hm.1, hm.2, rfl, rfl, rfl, .inr ⟨rfl, rfl⟩⟩
  · have h1 := pw_codes s s.size a (by omega)
    have h2 := pw_spec s s.size a (by omega) (by omega)
    rw [hp] at h1 h2
    exact .inl ⟨_, plF_off hp hc, hc, rfl, rfl, rfl, rfl, h2.1, h2.2, by simp only at h1 ⊢; omega⟩
theorem rises_scn (s : ByteArray) : ∀ (m a l : Nat) (sm : Bool) (at_ : Int) (line kind : Nat), s.size - a ≤ m → a ≤ s.size → at_ < a → line ≤ l → (sm = true → kind ≠ 4 ∧ l = line) → (sm = false → kind = 4 ∧ (at_ < 0 ∨ line < l)) →
    rises s at_ line kind (scn s a l sm) := by
  intro m
  induction m with
  | zero =>
    intro a l sm at_ line kind hm ha hat hl h1 h2
    rw [scn_over (by omega)]
    unfold endF
    cases sm with
    | false => exact (h2 rfl).1
    | true =>
      have := h1 rfl
      exact .inr ⟨rfl, hl, ha, hat, fun h => absurd h this.1, fun _ => this.2, .inr (.inr (.inr rfl)), .inr rfl, .inr (.inr rfl), fun h => (by simp at h), rfl⟩
  | succ m ih =>
    intro a l sm at_ line kind hm ha hat hl h1 h2
    by_cases hlt : a < s.size
    · have hcs : (byt s a = 10 ∨ byt s a = 13) ∨ (byt s a = 32 ∨ byt s a = 9) ∨ byt s a = 35 ∨ (WordAt s a ∧ byt s a ≠ 34) ∨ (WordAt s a ∧ byt s a = 34) := by unfold WordAt; omega
      have hk4 : ∀ k : Nat, k ≠ 4 → (kind = 4 → k ≠ 4 ∧ (at_ < 0 ∨ line < l)) ∧ (kind ≠ 4 → l = line) := fun k hk => by
        cases sm with
        | false => exact ⟨fun _ => ⟨hk, (h2 rfl).2⟩, fun h => absurd (h2 rfl).1 h⟩
        | true => exact ⟨fun h => absurd h (h1 rfl).1, fun _ => (h1 rfl).2⟩
      rcases hcs with hc | hc | hc | ⟨hw, hc⟩ | ⟨hw, hc⟩
      · rw [scn_line hlt hc]
        have hlb := lineB_more hlt
        cases sm with
        | false => exact ih _ _ false at_ line kind (by omega) hlb.2 (by omega) (by omega) (fun h => by cases h) (fun _ => ⟨(h2 rfl).1, .inr (by omega)⟩)
        | true =>
          have h3 := h1 rfl
          exact .inr ⟨rfl, hl, ha, hat, fun h => absurd h h3.1, fun _ => h3.2, .inr (.inr (.inr rfl)), .inr rfl, .inr (.inr rfl), fun h => (by simp at h),
            ih _ _ false _ _ _ (by omega) hlb.2 (by show (a : Int) < _; omega) (Nat.le_succ _) (fun h => by cases h) (fun _ => ⟨rfl, .inr (Nat.lt_succ_self _)⟩)⟩
      · rw [scn_blank hlt hc]
        exact ih _ _ sm at_ line kind (by omega) (by omega) (by omega) hl h1 h2
      · rw [scn_rem hlt hc]
        have h3 := rem_on (s := s) (i := a) ⟨hlt, by omega, by omega⟩
        have h4 := rem_spec s s.size (a + 1) (by omega) (by omega)
        exact ih _ _ sm at_ line kind (by omega) (by omega) (by omega) hl h1 h2
      · rcases plF_rises (l := l) hw.ends with ⟨f, hp, p1, p2, p3, p4, p5, p6, p7, p8⟩ | ⟨f, e, hp, p1, p2, p3, p4, p5, p6⟩
        · rw [scn_bad hw hc hp]
          exact .inl ⟨p1, rfl, p2, p3, p4, by omega, p7, by omega, p8⟩
        · rw [scn_plain hw hc hp]
          obtain ⟨fk, ft, fn, fa, fl, fe⟩ := f
          simp only at p3 p4 p5 p6
          subst p3 p4 p5
          rcases p6 with ⟨rfl, rfl, rfl⟩ | ⟨rfl, rfl⟩
          · have hsz : (s.extract fa e).size = e - fa := by rw [ByteArray.size_extract]; omega
            refine .inr ⟨rfl, hl, ha, hat, (hk4 1 (by decide)).1, (hk4 1 (by decide)).2, .inl rfl, .inr rfl, .inl rfl, fun _ => ⟨?_, ?_, ?_⟩, ih _ _ true _ _ _ (by omega) p2 ?_ (Nat.le_refl _) (fun _ => ⟨by simp, rfl⟩) (fun h => by cases h)⟩
            · simp only; rw [hsz]; omega
            · simp only; rw [hsz]; omega
            · simp only; rw [hsz, show fa + (e - fa) = e by omega]
            · simp only [lastAt, if_pos]; rw [hsz]; omega
          · refine .inr ⟨rfl, hl, ha, hat, (hk4 3 (by decide)).1, (hk4 3 (by decide)).2, .inr (.inr (.inl rfl)), .inl rfl, .inr (.inr rfl), fun h => (by simp at h), ih _ _ true _ _ _ (by omega) p2 ?_ (Nat.le_refl _) (fun _ => ⟨by simp, rfl⟩) (fun h => by cases h)⟩
            show (fa : Int) < _
            omega
      · obtain ⟨⟨ok, x, e⟩, hq⟩ : ∃ r, qtd s a = r := ⟨_, rfl⟩
        have hpl := qtd_place hlt hq
        have hbad : rises s at_ line kind [⟨0, ByteArray.empty, 0, e, l, 18⟩] := .inl ⟨by simp, rfl, rfl, rfl, rfl, hl, hpl.2, by show at_ ≤ (e : Int); omega, .inl rfl⟩
        cases ok with
        | false => rw [scn_unq hw hc hq (.inl rfl)]; exact hbad
        | true =>
          cases he : endB s e with
          | false => rw [scn_unq hw hc hq (.inr he)]; exact hbad
          | true =>
            rw [scn_quote hw hc hq he]
            have hm := qtd_more hq
            refine .inr ⟨rfl, hl, ha, hat, (hk4 2 (by decide)).1, (hk4 2 (by decide)).2, .inr (.inl rfl), .inr rfl, .inr (.inl rfl), fun h => (by simp at h), ih _ _ true _ _ _ (by omega) hm.2 ?_ (Nat.le_refl _) (fun _ => ⟨by simp, rfl⟩) (fun h => by cases h)⟩
            show (a : Int) < _
            omega
    · have hae : a = s.size := by omega
      rw [scn_over hlt]
      unfold endF
      cases sm with
      | false => exact (h2 rfl).1
      | true =>
        have := h1 rfl
        exact .inr ⟨rfl, hl, ha, hat, fun h => absurd h this.1, fun _ => this.2, .inr (.inr (.inr rfl)), .inr rfl, .inr (.inr rfl), fun h => (by simp at h), rfl⟩
theorem rises_all (s : ByteArray) : rises s (-1) 1 4 (scn s 0 1 false) :=
  rises_scn s s.size 0 1 false (-1) 1 4 (by omega) (Nat.zero_le _) (by omega) (Nat.le_refl _) (fun h => by cases h) (fun _ => ⟨rfl, .inl (by omega)⟩)
end Go.Proofs.YtbidppjhenfjdaaGreatDoor
namespace Go.Proofs.YtbidppjhenfjdaaGreatDoor
open Go.RowKit
set_option linter.unusedVariables false
set_option linter.unusedSimpArgs false

def wdF (f : Fn) : Nat × ByteArray × Int × Nat × Nat := (f.k, f.t, f.n, f.a, f.l)
/-- The steps that a text's words say; the line and the error. -/
def prs : List Fn → List Fn → List Stp → List Stp × Nat × Nat
  | [], _, out => (out, 0, 0)
  | f :: fs, l, out => if f.e ≠ 0 then ([], f.l, f.e) else if f.k ≠ 4 then prs fs (l ++ [f]) out else
    match rd (l.map wdF) with
    | none => ([], f.l, 19)
    | some s => prs fs [] (out ++ [s])
def prsT (t : ByteArray) : List Stp × Nat × Nat := prs (scn t 0 1 false) [] []
/-- A line's end stands behind a word. -/
def WFs : Bool → List Fn → Prop
  | _, [] => True
  | sm, f :: fs => f.e ≠ 0 ∨ (f.e = 0 ∧ f.k = 4 ∧ sm = true ∧ WFs false fs) ∨ (f.e = 0 ∧ f.k ≠ 4 ∧ WFs true fs)
theorem rises_wf (s : ByteArray) : ∀ (L : List Fn) (a : Int) (line kind : Nat), rises s a line kind L → WFs (decide (kind ≠ 4)) L := by
  intro L
  induction L with
  | nil => intro a line kind h; exact trivial
  | cons f L ih =>
    intro a line kind h
    rcases h with h | ⟨h0, h1, h2, h3, h4, h5, h6, h7, h8, h9, h10⟩
    · exact .inl h.1
    · have hr := ih _ _ _ h10
      by_cases hk : f.k = 4
      · have hkk : kind ≠ 4 := fun e => (h4 e).1 hk
        refine .inr (.inl ⟨h0, hk, by simp [hkk], ?_⟩)
        simpa [hk] using hr
      · refine .inr (.inr ⟨h0, hk, ?_⟩)
        simpa [hk] using hr
theorem scn_wf (s : ByteArray) : WFs false (scn s 0 1 false) := rises_wf s _ _ _ _ (rises_all s)
theorem prs_err {f : Fn} {fs l : List Fn} {out : List Stp} (h : f.e ≠ 0) : prs (f :: fs) l out = ([], f.l, f.e) := by unfold prs; rw [if_pos h]
theorem prs_word {f : Fn} {fs l : List Fn} {out : List Stp} (h : f.e = 0) (hk : f.k ≠ 4) : prs (f :: fs) l out = prs fs (l ++ [f]) out := by rw [prs, if_neg (by omega), if_pos hk]
theorem prs_bad {f : Fn} {fs l : List Fn} {out : List Stp} (h : f.e = 0) (hk : f.k = 4) (hr : rd (l.map wdF) = none) : prs (f :: fs) l out = ([], f.l, 19) := by
  rw [prs, if_neg (by omega), if_neg (by omega), hr]
theorem prs_step {f : Fn} {fs l : List Fn} {out : List Stp} {s : Stp} (h : f.e = 0) (hk : f.k = 4) (hr : rd (l.map wdF) = some s) : prs (f :: fs) l out = prs fs [] (out ++ [s]) := by
  rw [prs, if_neg (by omega), if_neg (by omega), hr]
theorem scn_len1 (s : ByteArray) : ∀ (m a l : Nat) (sm : Bool), s.size - a ≤ m → a ≤ s.size → (scn s a l sm).length ≤ s.size - a + 1 := by
  intro m
  induction m with
  | zero =>
    intro a l sm hm ha
    rw [scn_over (by omega)]
    unfold endF
    split <;> simp
  | succ m ih =>
    intro a l sm hm ha
    by_cases hlt : a < s.size
    · have hcs : (byt s a = 10 ∨ byt s a = 13) ∨ (byt s a = 32 ∨ byt s a = 9) ∨ byt s a = 35 ∨ (WordAt s a ∧ byt s a ≠ 34) ∨ (WordAt s a ∧ byt s a = 34) := by unfold WordAt; omega
      rcases hcs with hc | hc | hc | ⟨hw, hc⟩ | ⟨hw, hc⟩
      · rw [scn_line hlt hc, List.length_append]
        have hlb := lineB_more hlt
        have h1 := ih (lineB s a) (l + 1) false (by omega) hlb.2
        have h2 : (endF sm a l).length ≤ 1 := by unfold endF; split <;> simp
        omega
      · rw [scn_blank hlt hc]
        have h1 := ih (a + 1) l sm (by omega) (by omega)
        omega
      · rw [scn_rem hlt hc]
        have h3 := rem_on (s := s) (i := a) ⟨hlt, by omega, by omega⟩
        have h4 := rem_spec s s.size (a + 1) (by omega) (by omega)
        have h1 := ih (rem s a) l sm (by omega) (by omega)
        omega
      · obtain ⟨⟨f, o⟩, hp⟩ : ∃ r, plF s a l = r := ⟨_, rfl⟩
        cases o with
        | none => rw [scn_bad hw hc hp]; simp
        | some e =>
          have hm := plF_more (s := s) (a := a) (l := l) (e := e) hw.ends (by rw [hp])
          rw [scn_plain hw hc hp, List.length_cons]
          have h1 := ih e l true (by omega) hm.2
          omega
      · obtain ⟨⟨ok, x, e⟩, hq⟩ : ∃ r, qtd s a = r := ⟨_, rfl⟩
        cases ok with
        | false => rw [scn_unq hw hc hq (.inl rfl)]; simp
        | true =>
          cases he : endB s e with
          | false => rw [scn_unq hw hc hq (.inr he)]; simp
          | true =>
            have hm := qtd_more hq
            rw [scn_quote hw hc hq he, List.length_cons]
            have h1 := ih e l true (by omega) hm.2
            omega
    · rw [scn_over hlt]
      unfold endF
      split <;> simp
end Go.Proofs.YtbidppjhenfjdaaGreatDoor
namespace Go.Proofs.YtbidppjhenfjdaaGreatDoor
open Go.RowKit
set_option linter.unusedVariables false
set_option linter.unusedSimpArgs false

def intsV (l : List Int) : List Value := l.map fun x => Value.int .i64 x
def bytV (d : ByteArray) : List Value := (List.range d.size).map fun j => Value.int .u8 (byt d j : Nat)
theorem bytV_len (d : ByteArray) : (bytV d).length = d.size := by simp [bytV]
theorem bytV_at {d : ByteArray} {j : Nat} (hj : j < d.size) : (bytV d)[j]? = some (.int .u8 (byt d j : Nat)) := by simp [bytV, hj]
/-- A step's cells, and the blocks that it owns. -/
def StRow (W : World) (s : Stp) (cs : List Value) (bs : List Nat) : Prop := ∃ dv bv, cs = (stV s dv bv).toList ∧ bs = dv.ownBlock.toList ++ bv.ownBlock.toList ∧ DatB W bv s.data ∧ W.ownsRow 0 3 1 dv s.draws.length (intsV s.draws)
def StRows (W : World) : List Stp → List Value → List Nat → Prop
  | [], cs, bs => cs = [] ∧ bs = []
  | s :: L, cs, bs => ∃ c r b q, cs = c ++ r ∧ bs = b ++ q ∧ StRow W s c b ∧ StRows W L r q
theorem StRow.keep {W W' : World} {s : Stp} {cs : List Value} {bs K : List Nat} (h : StRow W s cs bs) (k : Keep K W W') (hb : ∀ b ∈ bs, b ∉ K) : StRow W' s cs bs := by
  obtain ⟨dv, bv, rfl, rfl, h1, h2⟩ := h
  exact ⟨dv, bv, rfl, rfl, h1.keep k (fun g hg => hb g (by simp [hg])), k.owns h2 (fun g hg => hb g (by simp [hg]))⟩
theorem StRows.keep {W W' : World} {K : List Nat} (k : Keep K W W') : ∀ {L : List Stp} {cs : List Value} {bs : List Nat}, StRows W L cs bs → (∀ b ∈ bs, b ∉ K) → StRows W' L cs bs := by
  intro L
  induction L with
  | nil => intro cs bs h _; exact h
  | cons s L ih =>
    intro cs bs h hb
    obtain ⟨c, r, b, q, rfl, rfl, h1, h2⟩ := h
    exact ⟨c, r, b, q, rfl, rfl, h1.keep k (fun x hx => hb x (by simp [hx])), ih h2 (fun x hx => hb x (by simp [hx]))⟩
theorem StRows.snoc {W : World} {s : Stp} {c : List Value} {b : List Nat} (h1 : StRow W s c b) : ∀ {L : List Stp} {cs : List Value} {bs : List Nat}, StRows W L cs bs → StRows W (L ++ [s]) (cs ++ c) (bs ++ b) := by
  intro L
  induction L with
  | nil =>
    rintro cs bs ⟨rfl, rfl⟩
    exact ⟨c, [], b, [], by simp, by simp, h1, rfl, rfl⟩
  | cons s' L ih =>
    rintro cs bs ⟨c', r, b', q, rfl, rfl, h2, h3⟩
    exact ⟨c', r ++ c, b', q ++ b, by simp, by simp, h2, ih h3⟩
theorem StRow.len {W : World} {s : Stp} {cs : List Value} {bs : List Nat} (h : StRow W s cs bs) : cs.length = 9 := by
  obtain ⟨dv, bv, rfl, _⟩ := h; rfl
theorem StRows.len {W : World} : ∀ {L : List Stp} {cs : List Value} {bs : List Nat}, StRows W L cs bs → cs.length = L.length * 9 := by
  intro L
  induction L with
  | nil => rintro cs bs ⟨rfl, _⟩; rfl
  | cons s L ih =>
    rintro cs bs ⟨c, r, b, q, rfl, rfl, h1, h2⟩
    rw [List.length_append, h1.len, ih h2, List.length_cons]
    omega
/-- A step's lists where it is read. -/
def StRd (W : World) (s : Stp) (dv bv : Value) : Prop := SlAt W dv s.draws.length (intsV s.draws) ∧ SlAt W bv s.data.size (bytV s.data)
theorem DatB.sl {W : World} {bv : Value} {d : ByteArray} (h : DatB W bv d) : SlAt W bv d.size (bytV d) := by
  rcases h with ⟨rfl, rfl⟩ | ⟨g, cap, rfl, h⟩
  · exact ⟨none, 0, rfl, ⟨fun _ => rfl, fun _ => rfl⟩, fun h => absurd rfl h⟩
  · refine ⟨_, cap, rfl, ⟨fun h0 => by apply List.eq_nil_of_length_eq_zero; rw [bytV_len, h0], fun h => by cases h⟩, fun _ => ⟨g, 0, rfl, fun i u hu => ?_⟩⟩
    have hi : i < d.size := by
      have := (List.getElem?_eq_some_iff.1 hu).1
      rwa [bytV_len] at this
    rw [bytV_at hi] at hu
    cases hu
    rw [Nat.zero_add]
    exact (h.cell hi).1
theorem StRow.rd {W : World} {s : Stp} {cs : List Value} {bs : List Nat} (h : StRow W s cs bs) : ∃ dv bv, cs = (stV s dv bv).toList ∧ StRd W s dv bv := by
  obtain ⟨dv, bv, rfl, rfl, h1, h2⟩ := h
  exact ⟨dv, bv, rfl, by simpa [intsV] using SlAt.of_owns h2, h1.sl⟩
theorem StRd.keep0 {W W' : World} {s : Stp} {dv bv : Value} (h : StRd W s dv bv) (k : Keep [] W W') : StRd W' s dv bv := ⟨h.1.keep0 k, h.2.keep0 k⟩
/-- Steps that are read: a slice of steps. -/
def Steps (W : World) (v : Value) (L : List Stp) : Prop :=
  ∃ ad cap, v = .slice ad L.length cap ∧ (L.length ≠ 0 → ∃ b off, ad = some ⟨b, off, none⟩ ∧ ∀ (k : Nat) (s : Stp), L[k]? = some s → ∃ dv bv, StRd W s dv bv ∧ ∀ j u, (stV s dv bv)[j]? = some u → W.cell? ⟨b, off + (k * 9 + j), none⟩ = some u) ∧ (ad = none → cap = 0) ∧ L.length ≤ cap
theorem Steps.keep0 {W W' : World} {v : Value} {L : List Stp} (h : Steps W v L) (k : Keep [] W W') : Steps W' v L := by
  obtain ⟨ad, cap, rfl, h1, h2⟩ := h
  refine ⟨ad, cap, rfl, fun hn => ?_, h2⟩
  obtain ⟨b, off, rfl, hc⟩ := h1 hn
  refine ⟨b, off, rfl, fun i s hs => ?_⟩
  obtain ⟨dv, bv, hr, hu⟩ := hc i s hs
  exact ⟨dv, bv, hr.keep0 k, fun j u hj => k.cellv (hu j u hj) (by simp)⟩
theorem StRows.at_ {W : World} : ∀ {L : List Stp} {cs : List Value} {bs : List Nat}, StRows W L cs bs → ∀ (k : Nat) (s : Stp), L[k]? = some s → ∃ dv bv, StRd W s dv bv ∧ ∀ j u, (stV s dv bv)[j]? = some u → cs[k * 9 + j]? = some u := by
  intro L
  induction L with
  | nil => rintro cs bs _ k s hs; simp at hs
  | cons s' L ih =>
    rintro cs bs ⟨c, r, b, q, rfl, rfl, h1, h2⟩ k s hs
    have hl := h1.len
    cases k with
    | zero =>
      simp at hs
      subst hs
      obtain ⟨dv, bv, rfl, hr⟩ := h1.rd
      refine ⟨dv, bv, hr, fun j u hj => ?_⟩
      have hj9 : j < 9 := (Array.getElem?_eq_some_iff.1 hj).1
      rw [List.getElem?_append_left (by rw [hl]; omega)]
      simpa using hj
    | succ k =>
      obtain ⟨dv, bv, hr, hu⟩ := ih h2 k s (by simpa using hs)
      refine ⟨dv, bv, hr, fun j u hj => ?_⟩
      rw [List.getElem?_append_right (by omega), hl, show (k + 1) * 9 + j - 9 = k * 9 + j by omega]
      exact hu j u hj
/-- Steps of the call's own may be read. -/
theorem StRows.steps {W : World} {base : Nat} {v : Value} {L : List Stp} {cs : List Value} {bs : List Nat} (h : StRows W L cs bs) (ho : W.ownsRow base 40 9 v L.length cs) : Steps W v L := by
  have hs := SlAt.of_owns ho
  obtain ⟨ad, cap, rfl, h0, h1⟩ := hs
  refine ⟨ad, cap, rfl, fun hn => ?_, h0.2, ?_⟩
  · obtain ⟨b, off, rfl, hc⟩ := h1 hn
    refine ⟨b, off, rfl, fun k s hk => ?_⟩
    obtain ⟨dv, bv, hr, hu⟩ := h.at_ k s hk
    exact ⟨dv, bv, hr, fun j u hj => hc _ _ (hu j u hj)⟩
  · rcases ho.2 with ⟨e, _⟩ | ⟨g, cap', cur, e, _, _, hc, _⟩
    · injection e with e1 e2 e3; omega
    · injection e with e1 e2 e3; omega
end Go.Proofs.YtbidppjhenfjdaaGreatDoor
namespace Go.Proofs.YtbidppjhenfjdaaGreatDoor
open Go.RowKit
set_option linter.unusedVariables false
set_option linter.unusedSimpArgs false

/-- A word's cells. -/
def fV (f : Fn) : Array Value := #[.int .i64 (f.k : Nat), .string f.t, .int .i64 f.n, .int .i64 (f.a : Nat), .int .i64 (f.l : Nat)]
def fCs : List Fn → List Value
  | [] => []
  | f :: L => (fV f).toList ++ fCs L
theorem fCs_snoc (L : List Fn) (f : Fn) : fCs (L ++ [f]) = fCs L ++ (fV f).toList := by
  induction L with
  | nil => simp [fCs]
  | cons g L ih => simp [fCs, ih]
theorem fCs_at : ∀ (L : List Fn) (k j : Nat) (hk : k < L.length), j < 5 → (fCs L)[k * 5 + j]? = (fV L[k])[j]? := by
  intro L
  induction L with
  | nil => intro k j hk; cases hk
  | cons f L ih =>
    intro k j hk hj
    have hl : (fV f).toList.length = 5 := rfl
    unfold fCs
    cases k with
    | zero =>
      rw [List.getElem?_append_left (by omega)]
      simp
    | succ k =>
      rw [List.getElem?_append_right (by omega), show (k + 1) * 5 + j - (fV f).toList.length = k * 5 + j by omega, ih k j (by simpa using hk) hj]
      rfl
theorem wd_of_sl {W : World} {lb lo cap : Nat} {L : List Fn} (h : ∀ i u, (fCs L)[i]? = some u → W.cell? ⟨lb, lo + i, none⟩ = some u) : WdAt W lb lo (L.map wdF) := by
  intro j hj
  have hj' : j < L.length := by simpa using hj
  have e : (L.map wdF)[j] = wdF L[j] := by simp
  rw [e]
  have hc := fun i (hi : i < 5) u hu => h (j * 5 + i) u ((fCs_at L j i hj' hi).trans hu)
  have h0 := hc 0 (by decide) _ rfl
  have h1 := hc 1 (by decide) _ rfl
  have h2 := hc 2 (by decide) _ rfl
  have h3 := hc 3 (by decide) _ rfl
  have h4 := hc 4 (by decide) _ rfl
  simp only [← Nat.add_assoc, Nat.add_zero] at h0 h1 h2 h3 h4
  exact ⟨h0, h1, h2, h3, h4⟩
theorem info_wordS : (Tryz.prog.info? 67).map (fun i => (i.zero, i.size, i.bytes)) = some (some (.agg #[.int .i64 0, .string ⟨#[]⟩, .int .i64 0, .int .i64 0, .int .i64 0]), 5, 48) := by kernel_rfl
theorem info_stepS : (Tryz.prog.info? 40).map (fun i => (i.zero, i.size, i.bytes)) = some (some (.agg #[.int .i64 0, .int .i64 0, .int .i64 0, .int .i64 0, .int .i64 0, .int .i64 0, .string ⟨#[]⟩, .slice none 0 0, .slice none 0 0]), 9, 112) := by kernel_rfl
theorem parts_of {P : Program} {t : TypeId} {z : Value} {n b : Nat} (h : (P.info? t).map (fun i => (i.zero, i.size, i.bytes)) = some (some z, n, b)) : ∃ i, P.info? t = some i ∧ i.zero = some z ∧ i.size = n ∧ i.bytes = b := by
  cases he : P.info? t with
  | none => rw [he] at h; cases h
  | some i =>
    rw [he] at h
    simp at h
    exact ⟨i, rfl, h.1, h.2.1, h.2.2⟩
theorem new_row_cells (w : World) (cs : List Value) (t : TypeId) (j : Nat) (u : Value) (h : cs[j]? = some u) : (w.alloc (.cells cs.toArray t)).cell? ((⟨w.heap.size, 0, none⟩ : Addr).add j) = some u := by
  have hb := cell_of_block (World.alloc_heap_new w (.cells cs.toArray t)) j
  have e : (⟨w.heap.size, 0, none⟩ : Addr).add j = ⟨w.heap.size, j, none⟩ := by simp [Addr.add]; intro h; exact h.symm
  rw [e, hb]
  simpa using h
/-- 'append(line, w)', behind the new element's block. -/
theorem line_append {W : World} {base : Nat} {v : Value} {n : Nat} {xs : List Value} (f : Fn) (hown : W.ownsRow base 67 5 v n xs) (hb : base ≤ W.heap.size) (hk : n ≤ 1000000000) :
    ∃ v' w', (Builtin.append_ #[62, 62] 62 #[v, .slice (some ⟨W.heap.size, 0, none⟩) 1 1]).run Tryz.prog (W.alloc (.cells (fV f) 67)) = .ok v' w' ∧
      AppPost (W.alloc (.cells (fV f) 67)) base 67 5 v n xs 1 (fV f).toList v' w' := by
  obtain ⟨i0, hi, hz0, hz1, hz2⟩ := parts_of info_wordS
  exact run_append_mine (P := Tryz.prog) _ base 62 62 67 i0 _ 5 48 Tryz.underlying62 hi hz0 hz1 hz2 rfl (by decide) v n _ (hown.alloc _) ⟨W.heap.size, 0, none⟩ 1 1 (fV f).toList rfl
    (new_row_cells W (fV f).toList 67) (by simp [fV, Value.oneCell']) (by unfold maxLen; omega) (by omega) (by simp; omega)
/-- 'append(out, s)', behind the new element's block. -/
theorem out_append {W : World} {base : Nat} {v : Value} {n : Nat} {xs : List Value} (cs : Array Value) (h9 : cs.size = 9) (h1 : ∀ u ∈ cs.toList, u.oneCell' = true) (hown : W.ownsRow base 40 9 v n xs) (hb : base ≤ W.heap.size) (hk : n ≤ 1000000000) :
    ∃ v' w', (Builtin.append_ #[23, 23] 23 #[v, .slice (some ⟨W.heap.size, 0, none⟩) 1 1]).run Tryz.prog (W.alloc (.cells cs 40)) = .ok v' w' ∧
      AppPost (W.alloc (.cells cs 40)) base 40 9 v n xs 1 cs.toList v' w' := by
  obtain ⟨i0, hi, hz0, hz1, hz2⟩ := parts_of info_stepS
  exact run_append_mine (P := Tryz.prog) _ base 23 23 40 i0 _ 9 112 Tryz.underlying23 hi hz0 hz1 hz2 rfl (by decide) v n _ (hown.alloc _) ⟨W.heap.size, 0, none⟩ 1 1 cs.toList (by simp [h9])
    (new_row_cells W cs.toList 40) h1 (by unfold maxLen; omega) (by omega) (by simp; omega)
theorem Iters.r {P : Program} {g : Nat} {lb : Array Value} {xs : List (Array Value)} {own rd : List Nat} {Need : World → Prop} (h : Iters P g lb xs own rd Need) : ItersR P g lb xs own rd Need (fun _ _ => True) :=
  fun y J Jx fp W h1 h2 h3 h4 h5 _ h6 h7 h8 => h y J Jx fp W h1 h2 h3 h4 h5 h6 h7 h8

section
variable {P : Program}
/-- An append in a round, by its run. -/
theorem wpListIn_append_eq {F : Fence} {n : Nat} {ops : Array Oper} {rest : List Oper} {o : Oper} {a : Act} {Q : Exit → Act → World → Prop} {w w' : World}
    (hg : o.guard = none) (s x : Operand) (t : TypeId) (hop : o.op = Op.call { callee := Callee.builtin Builtin.append, args := #[s, x], argTypes := #[t, t] }) {v xv v' : Value} (hs : a.eval s = v) (hx : a.eval x = xv)
    (hrun : (Builtin.append_ #[t, t] o.type #[v, xv]).run P w = .ok v' w') (hK : wpListIn F n P ops Q rest (a.put o.dst v') w') : wpListIn F n P ops Q (o :: rest) a w := by
  refine wpListIn_plain hg fun K hK' => ?_
  unfold Oper.wpIn
  refine ⟨?_, ?_⟩
  · simp [Oper.about, hop, resolve, Target.leads, Sem.run_pure]
  · rw [Oper.semAt_plain F _ _ (by rw [hop]; intro c hc'; cases hc')]
    simp [execOp, hop, resolve, invoke, builtin, hs, hx, hrun, Result.andThen]
    exact hK' _ _ hK
end
theorem own_ty {W : World} {base sz : Nat} {e : TypeId} {v : Value} {n : Nat} {xs : List Value} (h : W.ownsRow base e sz v n xs) : ∀ b ∈ v.ownBlock.toList, ∃ c f, W.heap[b]? = some (.cells c e f) := by
  intro b hb
  rcases h.2 with ⟨rfl, _⟩ | ⟨g, cap, cur, rfl, _, hg, _⟩
  · simp [Value.ownBlock] at hb
  · simp [Value.ownBlock] at hb
    subst hb
    exact ⟨_, _, hg⟩
/-- A row in its box, where blocks of other types are written. -/
theorem BoxRow.other {B : Nat} {tb e : TypeId} {sz k : Nat} {xs : List Value} {fp fp' S : List Nat} {W1 W2 : World} (h : BoxRow B tb e sz k xs fp W1) (hk : Keep S W1 W2) (hS : ∀ b ∈ S, b ≠ B ∧ ∀ c f, W1.heap[b]? ≠ some (.cells c e f)) (hf : ∀ b ∈ fp, b ∈ fp') : BoxRow B tb e sz k xs fp' W2 := by
  obtain ⟨v, h1, h2, h3, h5, h6⟩ := h
  refine ⟨v, hk.at_ h1 (fun hm => (hS _ hm).1 rfl), hk.owns h2 (fun g hg hm => ?_), h3, hf _ h5, fun g hg => hf _ (h6 g hg)⟩
  obtain ⟨c, f, hc⟩ := own_ty h2 g (by simp [hg])
  exact (hS _ hm).2 c f hc
/-- What the rows of steps are laid in. -/
theorem DatB.ty {W : World} {bv : Value} {d : ByteArray} (h : DatB W bv d) : ∀ b ∈ bv.ownBlock.toList, ∃ c f, W.heap[b]? = some (.cells c 5 f) := by
  intro b hb
  rcases h with ⟨rfl, _⟩ | ⟨g, cap, rfl, c, m, hc, _⟩
  · simp [Value.ownBlock] at hb
  · simp [Value.ownBlock] at hb
    subst hb
    exact ⟨_, _, hc⟩
theorem StRow.ty {W : World} {s : Stp} {cs : List Value} {bs : List Nat} (h : StRow W s cs bs) : ∀ b ∈ bs, ∃ c t f, W.heap[b]? = some (.cells c t f) ∧ (t = 3 ∨ t = 5) := by
  obtain ⟨dv, bv, rfl, rfl, h1, h2⟩ := h
  intro b hb
  rcases List.mem_append.1 hb with h | h
  · obtain ⟨c, f, hc⟩ := own_ty h2 b h
    exact ⟨c, _, f, hc, .inl rfl⟩
  · obtain ⟨c, f, hc⟩ := h1.ty b h
    exact ⟨c, _, f, hc, .inr rfl⟩
theorem StRows.ty {W : World} : ∀ {L : List Stp} {cs : List Value} {bs : List Nat}, StRows W L cs bs → ∀ b ∈ bs, ∃ c t f, W.heap[b]? = some (.cells c t f) ∧ (t = 3 ∨ t = 5) := by
  intro L
  induction L with
  | nil => rintro cs bs ⟨_, rfl⟩ b hb; cases hb
  | cons s L ih =>
    rintro cs bs ⟨c, r, b1, q, rfl, rfl, h1, h2⟩ b hb
    rcases List.mem_append.1 hb with h | h
    · exact h1.ty b h
    · exact ih h2 b h
theorem StRows.lt {W : World} {L : List Stp} {cs : List Value} {bs : List Nat} (h : StRows W L cs bs) : ∀ b ∈ bs, b < W.heap.size := fun b hb => by
  obtain ⟨c, t, f, hc, _⟩ := h.ty b hb
  exact lt_of_block hc
/-- A block of another type is none of them. -/
theorem StRows.not_ty {W : World} {L : List Stp} {cs : List Value} {bs : List Nat} (h : StRows W L cs bs) {b : Nat} {c : Array Value} {t : TypeId} {f : Nat × Nat} (hb : W.heap[b]? = some (.cells c t f)) (h1 : t ≠ 3) (h2 : t ≠ 5) : b ∉ bs := by
  intro hm
  obtain ⟨c', t', f', hc, ht⟩ := h.ty b hm
  have e := Option.some.inj (hb.symm.trans hc)
  injection e with _ e _
  subst e
  rcases ht with h | h
  · exact h1 h
  · exact h2 h
end Go.Proofs.YtbidppjhenfjdaaGreatDoor
namespace Go.Proofs.YtbidppjhenfjdaaGreatDoor
open Go.RowKit
set_option linter.unusedVariables false
set_option linter.unusedSimpArgs false
attribute [local go_sem] Oper.semAt_some

/-- Between the rounds: the words of a line so far, and the steps. -/
def PAt (Z : List Fn) (w0 : World) (k : Nat) (fp : List Nat) (W : World) (l : List Fn) (out : List Stp) (cs : List Value) (bs : List Nat) : Prop :=
  prs Z [] [] = prs (Z.drop k) l out ∧ WFs (decide (l ≠ [])) (Z.drop k) ∧ l.length ≤ k ∧ out.length ≤ k ∧
    BoxRow (w0.heap.size + 4) 62 67 5 l.length (fCs l) fp W ∧ BoxRow (w0.heap.size + 3) 23 40 9 out.length cs fp W ∧ StRows W out cs bs ∧ (∀ b ∈ bs, w0.heap.size + 5 ≤ b ∧ b ∈ fp) ∧ bs.Nodup ∧
    W.heap[w0.heap.size]? = some (.cells #[.slice none 0 0] 23 (0, 0)) ∧ W.heap[w0.heap.size + 1]? = some (.cells #[.int .i64 0] 3 (0, 0)) ∧ W.heap[w0.heap.size + 2]? = some (.cells #[.int .i64 0] 24 (0, 0)) ∧
    (∀ j, j < 3 → w0.heap.size + j ∈ fp) ∧ Keep [] w0 W ∧ (∀ b ∈ fp, b < W.heap.size)
def PInv (Z : List Fn) (w0 : World) (k : Nat) (fp : List Nat) (W : World) : Prop := ∃ l out cs bs, PAt Z w0 k fp W l out cs bs
/-- What is as it was, where the blocks of a list are written, none of them a step's. -/
theorem PAt.rest {Z : List Fn} {w0 V W : World} {k : Nat} {fp fp' S : List Nat} {l : List Fn} {out : List Stp} {cs : List Value} {bs : List Nat} (h : PAt Z w0 k fp V l out cs bs) (hk : Keep S V W)
    (hS : ∀ b ∈ S, w0.heap.size + 4 ≤ b ∧ ∃ c t f, V.heap[b]? = some (.cells c t f) ∧ (t = 62 ∨ t = 67)) (hf : ∀ b ∈ fp, b ∈ fp') :
    BoxRow (w0.heap.size + 3) 23 40 9 out.length cs fp' W ∧ StRows W out cs bs ∧ (∀ b ∈ bs, w0.heap.size + 5 ≤ b ∧ b ∈ fp') ∧ bs.Nodup ∧
    W.heap[w0.heap.size]? = some (.cells #[.slice none 0 0] 23 (0, 0)) ∧ W.heap[w0.heap.size + 1]? = some (.cells #[.int .i64 0] 3 (0, 0)) ∧ W.heap[w0.heap.size + 2]? = some (.cells #[.int .i64 0] 24 (0, 0)) ∧
    (∀ j, j < 3 → w0.heap.size + j ∈ fp') ∧ Keep [] w0 W := by
  obtain ⟨h1, h2, h3, h4, h5, h6, h7, h8, h9, h10, h11, h12, h13, h14, h15⟩ := h
  refine ⟨h6.other hk (fun b hb => ?_) hf, StRows.keep hk h7 (fun b hb hm => ?_), fun b hb => ⟨(h8 b hb).1, hf _ (h8 b hb).2⟩, h9, hk.at_ h10 (fun hm => ?_), hk.at_ h11 (fun hm => ?_), hk.at_ h12 (fun hm => ?_), fun j hj => hf _ (h13 j hj), h14.trans hk (fun b hb => ?_)⟩
  · obtain ⟨h0, c, t, f, hc, ht⟩ := hS b hb
    refine ⟨by omega, fun c' f' hc' => ?_⟩
    have e := Option.some.inj (hc.symm.trans hc')
    injection e with _ e _
    rcases ht with rfl | rfl <;> exact absurd e (by decide)
  · obtain ⟨h0, c, t, f, hc, ht⟩ := hS b hm
    refine StRows.not_ty h7 hc ?_ ?_ hb <;> rcases ht with rfl | rfl <;> decide
  · have := (hS _ hm).1; omega
  · have := (hS _ hm).1; omega
  · have := (hS _ hm).1; omega
  · have := (hS _ hb).1; exact .inr (by omega)
/-- Behind a word. -/
theorem PAt.word {Z : List Fn} {w0 V W2 : World} {k : Nat} {fp : List Nat} {l : List Fn} {out : List Stp} {cs : List Value} {bs : List Nat} {f : Fn} {v v' : Value} (h : PAt Z w0 k fp V l out cs bs) (hd : Z.drop k = f :: Z.drop (k + 1)) (he : f.e = 0) (hk4 : f.k ≠ 4)
    (hb : Hid (V.heap[w0.heap.size + 4]? = some (.cells #[v] 62 (0, 0)) ∧ (v = .slice none 0 0 ↔ l.length = 0) ∧ w0.heap.size + 4 ∈ fp ∧ (∀ g, v.ownBlock = some g → g ∈ fp))) (hrow : V.ownsRow (w0.heap.size + 4 + 1) 67 5 v l.length (fCs l))
    (hp : AppPost (V.alloc (.cells (fV f) 67)) (w0.heap.size + 4 + 1) 67 5 v l.length (fCs l) 1 (fV f).toList v' W2) :
    PInv Z w0 (k + 1) (v'.ownBlock.toList ++ fp) (W2.setCell ⟨w0.heap.size + 4, 0, none⟩ v') ∧ Keep fp V (W2.setCell ⟨w0.heap.size + 4, 0, none⟩ v') ∧ FromNew fp (v'.ownBlock.toList ++ fp) V := by
  obtain ⟨_, _, _, hv', hbx⟩ := BoxRow.appended hb hrow ((Keep.refl [] V).alloc _) hp (by omega)
  obtain ⟨hb1, hb2, hb3, hb4⟩ := hb.out
  have kS : Keep (v.ownBlock.toList ++ [w0.heap.size + 4]) V (W2.setCell ⟨w0.heap.size + 4, 0, none⟩ v') :=
    ((((Keep.refl [] V).alloc _).mono (by simp)).trans hp.2.1 (fun x hx => .inl (by simp at hx; simp [hx]))).setCell (.inl (by simp)) _
  have hr := h.rest (fp' := v'.ownBlock.toList ++ fp) kS (fun b hb => by
    rcases List.mem_append.1 hb with hm | hm
    · obtain ⟨c, f, hc⟩ := own_ty hrow b hm
      simp at hm
      exact ⟨by have := (hrow.lt b hm).1; omega, c, _, f, hc, .inr rfl⟩
    · simp at hm
      subst hm
      exact ⟨Nat.le_refl _, _, _, _, hb1, .inl rfl⟩) (fun b hb => by simp [hb])
  obtain ⟨h1, h2, h3, h4, h5, h6, h7, h8, h9, h10, h11, h12, h13, h14, h15⟩ := h
  rw [hd] at h1 h2
  refine ⟨⟨l ++ [f], out, cs, bs, h1.trans (prs_word he hk4), ?_, by simp; omega, by omega, ?_, hr.1, hr.2.1, hr.2.2.1, hr.2.2.2.1, hr.2.2.2.2.1, hr.2.2.2.2.2.1, hr.2.2.2.2.2.2.1, hr.2.2.2.2.2.2.2.1, hr.2.2.2.2.2.2.2.2, ?_⟩, hbx.out.2.1, hbx.out.2.2⟩
  · rcases h2 with h | h | h
    · exact absurd he h
    · exact absurd h.2.1 hk4
    · simpa using h.2.2
  · have := hbx.out.1
    rw [fCs_snoc, List.length_append, List.length_singleton]
    exact this
  · intro b hb
    rcases List.mem_append.1 hb with hm | hm
    · simp at hm
      have := (hp.1.lt b hm).2
      simpa [World.setCell] using this
    · exact Nat.lt_of_lt_of_le (h15 b hm) (hbx.out.2.1).size
/-- Left by a return: an error. -/
def PStop (Z : List Fn) (w0 : World) (c : Code) (k : Nat) (fp : List Nat) (W : World) : Prop :=
  c = .ret ∧ ∃ (l e : Nat), prs Z [] [] = ([], l, e) ∧ W.heap[w0.heap.size]? = some (.cells #[.slice none 0 0] 23 (0, 0)) ∧ W.heap[w0.heap.size + 1]? = some (.cells #[.int .i64 (l : Nat)] 3 (0, 0)) ∧ W.heap[w0.heap.size + 2]? = some (.cells #[.int .i64 (e : Nat)] 24 (0, 0)) ∧
    (∀ j, j < 3 → w0.heap.size + j ∈ fp) ∧ Keep [] w0 W
theorem PInv.steady {Z : List Fn} {w0 w : World} (hw : w0.heap.size ≤ w.heap.size) (k : Nat) : Steady [] w (PInv Z w0 k) := by
  rintro fp W1 W2 S ⟨l, out, cs, bs, h1, h2, h3, h4, h5, h6, h7, h8, h9, h10, h11, h12, h13, h14, h15⟩ hk hS
  have hn : ∀ b ∈ S, b ∉ fp := fun b hb => (hS b hb).1
  refine ⟨l, out, cs, bs, h1, h2, h3, h4, h5.keep hk hn, h6.keep hk hn, StRows.keep hk h7 (fun b hb hm => hn b hm (h8 b hb).2), h8, h9, hk.at_ h10 (fun hm => hn _ hm (h13 0 (by decide))), hk.at_ h11 (fun hm => hn _ hm (h13 1 (by decide))), hk.at_ h12 (fun hm => hn _ hm (h13 2 (by decide))), h13, h14.trans hk (fun b hb => ?_), fun b hb => Nat.lt_of_lt_of_le (h15 b hb) hk.size⟩
  rcases (hS b hb).2 with h | h
  · cases h
  · exact .inr (by omega)
theorem PStop.steady {Z : List Fn} {w0 w : World} (hw : w0.heap.size ≤ w.heap.size) (c : Code) (k : Nat) : Steady [] w (PStop Z w0 c k) := by
  rintro fp W1 W2 S ⟨h0, l, e, h1, h10, h11, h12, h13, h14⟩ hk hS
  have hn : ∀ b ∈ S, b ∉ fp := fun b hb => (hS b hb).1
  refine ⟨h0, l, e, h1, hk.at_ h10 (fun hm => hn _ hm (h13 0 (by decide))), hk.at_ h11 (fun hm => hn _ hm (h13 1 (by decide))), hk.at_ h12 (fun hm => hn _ hm (h13 2 (by decide))), h13, h14.trans hk (fun b hb => ?_)⟩
  rcases (hS b hb).2 with h | h
  · cases h
  · exact .inr (by omega)
theorem PAt.keep0 {Z : List Fn} {w0 V W : World} {k : Nat} {fp : List Nat} {l : List Fn} {out : List Stp} {cs : List Value} {bs : List Nat} (h : PAt Z w0 k fp V l out cs bs) (hk : Keep [] V W) : PAt Z w0 k fp W l out cs bs := by
  obtain ⟨h1, h2, h3, h4, h5, h6, h7, h8, h9, h10, h11, h12, h13, h14, h15⟩ := h
  exact ⟨h1, h2, h3, h4, h5.keep hk (by simp), h6.keep hk (by simp), StRows.keep hk h7 (by simp), h8, h9, hk.at_ h10 (by simp), hk.at_ h11 (by simp), hk.at_ h12 (by simp), h13, h14.trans0 hk, fun b hb => Nat.lt_of_lt_of_le (h15 b hb) hk.size⟩
theorem StRow.nodup {W : World} {s : Stp} {cs : List Value} {bs : List Nat} (h : StRow W s cs bs) : bs.Nodup := by
  obtain ⟨dv, bv, rfl, rfl, h1, h2⟩ := h
  rw [List.nodup_append]
  have hone : ∀ v : Value, v.ownBlock.toList.Nodup := fun v => by cases v.ownBlock <;> simp
  refine ⟨hone _, hone _, fun a ha b hb e => ?_⟩
  subst e
  obtain ⟨c, f, hc⟩ := own_ty h2 a ha
  obtain ⟨c', f', hc'⟩ := h1.ty a hb
  have e := Option.some.inj (hc.symm.trans hc')
  injection e with _ e _
  exact absurd e (by decide)
/-- Behind a line's end. -/
theorem PAt.step {Z : List Fn} {w0 V V3 W2 : World} {k : Nat} {fp : List Nat} {l : List Fn} {out : List Stp} {cs : List Value} {bs b : List Nat} {f : Fn} {st : Stp} {c9 : Array Value} {v v' : Value} (h : PAt Z w0 k fp V l out cs bs) (hd : Z.drop k = f :: Z.drop (k + 1)) (he : f.e = 0) (hk4 : f.k = 4)
    (hrd : rd (l.map wdF) = some st) (hk3 : Keep [] V V3) (hr : StRow V3 st c9.toList b) (hnew : ∀ x ∈ b, V.heap.size ≤ x)
    (hb : Hid (V.heap[w0.heap.size + 3]? = some (.cells #[v] 23 (0, 0)) ∧ (v = .slice none 0 0 ↔ out.length = 0) ∧ w0.heap.size + 3 ∈ fp ∧ (∀ g, v.ownBlock = some g → g ∈ fp))) (hrow : V.ownsRow (w0.heap.size + 3 + 1) 40 9 v out.length cs)
    (hp : AppPost (V3.alloc (.cells c9 40)) (w0.heap.size + 3 + 1) 40 9 v out.length cs 1 c9.toList v' W2) :
    (∃ vl, (W2.setCell ⟨w0.heap.size + 3, 0, none⟩ v').cell? ⟨w0.heap.size + 4, 0, none⟩ = some vl ∧ (W2.setCell ⟨w0.heap.size + 3, 0, none⟩ v').frozen? ⟨w0.heap.size + 4, 0, none⟩ = false) ∧ ∃ fp', PInv Z w0 (k + 1) fp' ((W2.setCell ⟨w0.heap.size + 3, 0, none⟩ v').setCell ⟨w0.heap.size + 4, 0, none⟩ (.slice none 0 0)) ∧ Keep fp V ((W2.setCell ⟨w0.heap.size + 3, 0, none⟩ v').setCell ⟨w0.heap.size + 4, 0, none⟩ (.slice none 0 0)) ∧ FromNew fp fp' V := by
  have k3a : Keep [] V (V3.alloc (.cells c9 40)) := hk3.alloc _
  obtain ⟨_, _, hsz, hv', hbx⟩ := BoxRow.appended hb hrow k3a hp (by omega)
  obtain ⟨hb1, hb2, hb3, hb4⟩ := hb.out
  obtain ⟨h1, h2, h3, h4, h5, h6, h7, h8, h9, h10, h11, h12, h13, h14, h15⟩ := h
  obtain ⟨vl, q1, q2, q3, q5, q6⟩ := h5
  obtain ⟨y1, y2, y3⟩ := hbx.out
  have kS3 : Keep (v.ownBlock.toList ++ [w0.heap.size + 3]) V (W2.setCell ⟨w0.heap.size + 3, 0, none⟩ v') := ((k3a.mono (by simp)).trans hp.2.1 (fun x hx => .inl (by simp at hx; simp [hx]))).setCell (.inl (by simp)) _
  have hvS : ∀ x ∈ v.ownBlock.toList, w0.heap.size + 4 ≤ x ∧ x ∈ fp := fun x hx => ⟨(hrow.lt x (by simpa using hx)).1, hb4 x (by simpa using hx)⟩
  have hq3 : (W2.setCell ⟨w0.heap.size + 3, 0, none⟩ v').heap[w0.heap.size + 4]? = some (.cells #[vl] 62 (0, 0)) := kS3.at_ q1 (fun hm => by
    rcases List.mem_append.1 hm with hm | hm
    · exact own_not_ty hrow q1 (by decide) hm
    · simp at hm)
  have k4 : Keep [w0.heap.size + 4] (W2.setCell ⟨w0.heap.size + 3, 0, none⟩ v') ((W2.setCell ⟨w0.heap.size + 3, 0, none⟩ v').setCell ⟨w0.heap.size + 4, 0, none⟩ (.slice none 0 0)) := (Keep.refl _ _).setCell (.inl (by simp)) _
  have kS : Keep (v.ownBlock.toList ++ [w0.heap.size + 3, w0.heap.size + 4]) V ((W2.setCell ⟨w0.heap.size + 3, 0, none⟩ v').setCell ⟨w0.heap.size + 4, 0, none⟩ (.slice none 0 0)) :=
    (kS3.mono (L' := v.ownBlock.toList ++ [w0.heap.size + 3, w0.heap.size + 4]) (by intro x hx; simp only [List.mem_append, List.mem_cons, List.not_mem_nil, or_false] at hx ⊢; rcases hx with h | h; exact .inl (.inl h); exact .inl (.inr (.inl h)))).trans k4 (by simp)
  have hS : ∀ x ∈ v.ownBlock.toList ++ [w0.heap.size + 3, w0.heap.size + 4], w0.heap.size + 3 ≤ x ∧ x < V.heap.size ∧ x ∈ fp ∧ ∃ c t f, V.heap[x]? = some (.cells c t f) ∧ t ≠ 3 ∧ t ≠ 5 := by
    intro x hx
    simp only [List.mem_append, List.mem_cons, List.not_mem_nil, or_false] at hx
    rcases hx with hx | hx | hx
    · obtain ⟨c, f, hc⟩ := own_ty hrow x hx
      have h0 := hvS x hx
      exact ⟨by omega, lt_of_block hc, h0.2, c, _, f, hc, by decide, by decide⟩
    · subst hx
      exact ⟨by omega, lt_of_block hb1, hb3, _, _, _, hb1, by decide, by decide⟩
    · subst hx
      exact ⟨by omega, lt_of_block q1, q5, _, _, _, q1, by decide, by decide⟩
  have hkf : Keep fp V ((W2.setCell ⟨w0.heap.size + 3, 0, none⟩ v').setCell ⟨w0.heap.size + 4, 0, none⟩ (.slice none 0 0)) := kS.mono (fun x hx => .inl (hS x hx).2.2.1)
  rw [hd] at h1 h2
  have hbs := StRows.keep kS h7 (fun x hx hm => by
    obtain ⟨_, _, _, c, t, f, hc, ht1, ht2⟩ := hS x hm
    exact StRows.not_ty h7 hc ht1 ht2 hx)
  have k3w : Keep (v.ownBlock.toList ++ [w0.heap.size + 3, w0.heap.size + 4]) V3 ((W2.setCell ⟨w0.heap.size + 3, 0, none⟩ v').setCell ⟨w0.heap.size + 4, 0, none⟩ (.slice none 0 0)) := by
    refine ((((Keep.refl [] V3).alloc _).mono (L' := v.ownBlock.toList ++ [w0.heap.size + 3, w0.heap.size + 4]) (by simp)).trans hp.2.1 (fun x hx => .inl (by simp at hx; simp [hx]))).setCell (.inl (by simp)) _ |>.setCell (.inl (by simp)) _
  have hrb := hr.keep k3w (fun x hx hm => by
    have h0 := hnew x hx
    have h1 := (hS x hm).2.1
    omega)
  have hge : w0.heap.size + 5 ≤ V.heap.size := by have := lt_of_block q1; omega
  refine ⟨⟨vl, cell_of_block hq3 0, free_of_block hq3 0⟩, b ++ (v'.ownBlock.toList ++ fp), ⟨[], out ++ [st], cs ++ c9.toList, bs ++ b, h1.trans (prs_step he hk4 hrd), ?_, by simp, by simp; omega, ⟨_, block_setCell hq3 0 _, World.ownsRow_nil _ _ _ _, by simp, by simp [q5], by simp [Value.ownBlock]⟩, ?_, StRows.snoc hrb hbs, ?_, ?_, ?_, ?_, ?_, fun j hj => by simp [h13 j hj], ?_, ?_⟩, hkf, ?_⟩
  · rcases h2 with h | h | h
    · exact absurd he h
    · simpa using h.2.2.2
    · exact absurd hk4 h.2.1
  · rw [List.length_append, List.length_singleton]
    refine y1.other k4 (fun x hx => ?_) (fun x hx => by simp at hx ⊢; exact .inr hx)
    simp at hx
    subst hx
    refine ⟨by omega, fun c f hc => ?_⟩
    have e := Option.some.inj (hq3.symm.trans hc)
    injection e with _ e _
    exact absurd e (by decide)
  · intro x hx
    rcases List.mem_append.1 hx with hx | hx
    · have := h8 x hx
      exact ⟨this.1, by simp [this.2]⟩
    · have := hnew x hx
      exact ⟨by omega, by simp [hx]⟩
  · rw [List.nodup_append]
    refine ⟨h9, hr.nodup, fun x hx y hy e => ?_⟩
    have h0 := h7.lt x hx
    have h1 := hnew y hy
    omega
  · exact kS.at_ h10 (fun hm => by have := (hS _ hm).1; omega)
  · exact kS.at_ h11 (fun hm => by have := (hS _ hm).1; omega)
  · exact kS.at_ h12 (fun hm => by have := (hS _ hm).1; omega)
  · exact h14.trans kS (fun x hx => .inr (by have := (hS x hx).1; omega))
  · intro x hx
    rcases List.mem_append.1 hx with hx | hx
    · obtain ⟨c, t, f, hc, _⟩ := hrb.ty x hx
      exact lt_of_block hc
    · rcases List.mem_append.1 hx with hx | hx
      · have := (hp.1.lt x (by simpa using hx)).2
        simpa [World.setCell] using this
      · exact Nat.lt_of_lt_of_le (h15 x hx) hkf.size
  · intro x hx
    rcases List.mem_append.1 hx with hx | hx
    · exact .inr (hnew x hx)
    · exact y3 x hx
/-- An error's three stores. -/
def stopW (V : World) (G : Nat) (l e : Int) : World := (((V.drew).setCell ⟨G, 0, none⟩ (.slice none 0 0)).setCell ⟨G + 1, 0, none⟩ (.int .i64 l)).setCell ⟨G + 2, 0, none⟩ (.int .i64 e)
theorem PAt.stop {Z : List Fn} {w0 V : World} {k : Nat} {fp : List Nat} {l : List Fn} {out : List Stp} {cs : List Value} {bs : List Nat} (h : PAt Z w0 k fp V l out cs bs) {ln e : Nat} (hp : prs Z [] [] = ([], ln, e)) :
    PStop Z w0 .ret k fp (stopW V w0.heap.size ln e) ∧ Keep fp V (stopW V w0.heap.size ln e) ∧ FromNew fp fp V := by
  obtain ⟨h1, h2, h3, h4, h5, h6, h7, h8, h9, h10, h11, h12, h13, h14, h15⟩ := h
  have k0 : Keep fp V (stopW V w0.heap.size ln e) := (((((Keep.refl fp V).drew).setCell (p := ⟨w0.heap.size, 0, none⟩) (.inl (h13 0 (by decide))) _).setCell (p := ⟨w0.heap.size + 1, 0, none⟩) (.inl (h13 1 (by decide))) _).setCell (p := ⟨w0.heap.size + 2, 0, none⟩) (.inl (h13 2 (by decide))) _)
  have k1 : Keep [w0.heap.size, w0.heap.size + 1, w0.heap.size + 2] V (stopW V w0.heap.size ln e) := (((((Keep.refl _ V).drew).setCell (p := ⟨w0.heap.size, 0, none⟩) (.inl (by simp)) _).setCell (p := ⟨w0.heap.size + 1, 0, none⟩) (.inl (by simp)) _).setCell (p := ⟨w0.heap.size + 2, 0, none⟩) (.inl (by simp)) _)
  refine ⟨⟨rfl, ln, e, hp, ?_, ?_, ?_, h13, h14.trans k1 (fun b hb => by simp at hb; exact .inr (by omega))⟩, k0, FromNew.refl _ _⟩
  · unfold stopW
    rw [block_setCell_other _ (by simp), block_setCell_other _ (by simp)]
    exact block_setCell (w := V.drew) h10 0 _
  · unfold stopW
    rw [block_setCell_other _ (by simp)]
    refine block_setCell (w := (V.drew).setCell ⟨w0.heap.size, 0, none⟩ (.slice none 0 0)) (c := #[.int .i64 0]) ?_ 0 _
    rw [block_setCell_other _ (by simp)]
    exact h11
  · unfold stopW
    refine block_setCell (w := ((V.drew).setCell ⟨w0.heap.size, 0, none⟩ (.slice none 0 0)).setCell ⟨w0.heap.size + 1, 0, none⟩ (.int .i64 ln)) (c := #[.int .i64 0]) ?_ 0 _
    rw [block_setCell_other _ (by simp), block_setCell_other _ (by simp)]
    exact h12
/-- The three stores go through. -/
theorem PAt.cells {Z : List Fn} {w0 V : World} {k : Nat} {fp : List Nat} {l : List Fn} {out : List Stp} {cs : List Value} {bs : List Nat} (h : PAt Z w0 k fp V l out cs bs) (ln : Int) :
    (V.cell? ⟨w0.heap.size, 0, none⟩ = some (.slice none 0 0) ∧ V.frozen? ⟨w0.heap.size, 0, none⟩ = false) ∧
    ((V.setCell ⟨w0.heap.size, 0, none⟩ (.slice none 0 0)).cell? ⟨w0.heap.size + 1, 0, none⟩ = some (.int .i64 0) ∧ (V.setCell ⟨w0.heap.size, 0, none⟩ (.slice none 0 0)).frozen? ⟨w0.heap.size + 1, 0, none⟩ = false) ∧
    (((V.setCell ⟨w0.heap.size, 0, none⟩ (.slice none 0 0)).setCell ⟨w0.heap.size + 1, 0, none⟩ (.int .i64 ln)).cell? ⟨w0.heap.size + 2, 0, none⟩ = some (.int .i64 0) ∧ ((V.setCell ⟨w0.heap.size, 0, none⟩ (.slice none 0 0)).setCell ⟨w0.heap.size + 1, 0, none⟩ (.int .i64 ln)).frozen? ⟨w0.heap.size + 2, 0, none⟩ = false) := by
  obtain ⟨h1, h2, h3, h4, h5, h6, h7, h8, h9, h10, h11, h12, h13, h14, h15⟩ := h
  have b1 : (V.setCell ⟨w0.heap.size, 0, none⟩ (.slice none 0 0)).heap[w0.heap.size + 1]? = some (.cells #[.int .i64 0] 3 (0, 0)) := by
    rw [block_setCell_other _ (by simp)]; exact h11
  have b2 : ((V.setCell ⟨w0.heap.size, 0, none⟩ (.slice none 0 0)).setCell ⟨w0.heap.size + 1, 0, none⟩ (.int .i64 ln)).heap[w0.heap.size + 2]? = some (.cells #[.int .i64 0] 24 (0, 0)) := by
    rw [block_setCell_other _ (by simp), block_setCell_other _ (by simp)]; exact h12
  exact ⟨⟨cell_of_block (w := V) h10 0, free_of_block (w := V) h10 0⟩, ⟨cell_of_block b1 0, free_of_block b1 0⟩, ⟨cell_of_block b2 0, free_of_block b2 0⟩⟩
/-- What Parse says. -/
def PPost (W : World) (p : List Stp × Nat × Nat) (e : Ending) (W' : World) : Prop :=
  ∃ v cs bs, e = .returned (.tuple #[v, .int .i64 (p.2.1 : Nat), .int .i64 (p.2.2 : Nat)]) ∧ Keep [] W W' ∧ W'.ownsRow W.heap.size 40 9 v p.1.length cs ∧ StRows W' p.1 cs bs ∧ (∀ b ∈ bs, W.heap.size ≤ b) ∧ bs.Nodup ∧ (v = .slice none 0 0 ↔ p.1.length = 0)

theorem results_3 {P : Program} {fn : Func} {p q r : Tmp} {t1 t2 t3 : TypeId} (h : fn.results = #[.cell p t1, .cell q t2, .cell r t3]) (tmps : Array Value) (w : World) (b1 b2 b3 : Nat) (v1 v2 v3 : Value)
    (hp : tmps.getD p undef = .pointer (some ⟨b1, 0, none⟩)) (hq : tmps.getD q undef = .pointer (some ⟨b2, 0, none⟩)) (hr : tmps.getD r undef = .pointer (some ⟨b3, 0, none⟩)) (h1 : (loadVar t1 ⟨b1, 0, none⟩).run P w = .ok v1 w)
    (h2 : (loadVar t2 ⟨b2, 0, none⟩).run P w = .ok v2 w) (h3 : (loadVar t3 ⟨b3, 0, none⟩).run P w = .ok v3 w) : (results fn tmps).run P w = .ok (.tuple #[v1, v2, v3]) w := by
  have hp' : tmps[p]?.getD undef = .pointer (some ⟨b1, 0, none⟩) := by simpa using hp
  have hq' : tmps[q]?.getD undef = .pointer (some ⟨b2, 0, none⟩) := by simpa using hq
  have hr' : tmps[r]?.getD undef = .pointer (some ⟨b3, 0, none⟩) := by simpa using hr
  simp [results, h, hp', hq', hr', asAddr, h1, h2, h3]
theorem load_steps {w : World} {b : Nat} {ad : Option Addr} {n c : Nat} (h : w.heap[b]? = some (.cells #[.slice ad n c] 23 (0, 0))) : (loadVar 23 ⟨b, 0, none⟩).run Tryz.prog w = .ok (.slice ad n c) w := by
  have c1 : w.cell? ⟨b, 0, none⟩ = some (.slice ad n c) := cell_of_block h 0
  have u := Tryz.underlying23
  simp [go_sem, loadVar, c1, u]
theorem load_intv {w : World} {b : Nat} {x : Int} (h : w.heap[b]? = some (.cells #[.int .i64 x] 3 (0, 0))) : (loadVar 3 ⟨b, 0, none⟩).run Tryz.prog w = .ok (.int .i64 x) w := by
  have c1 : w.cell? ⟨b, 0, none⟩ = some (.int .i64 x) := cell_of_block h 0
  have u := Tryz.underlying3
  simp [go_sem, loadVar, c1, u]
theorem load_errno {w : World} {b : Nat} {x : Int} (h : w.heap[b]? = some (.cells #[.int .i64 x] 24 (0, 0))) : (loadVar 24 ⟨b, 0, none⟩).run Tryz.prog w = .ok (.int .i64 x) w := by
  have c1 : w.cell? ⟨b, 0, none⟩ = some (.int .i64 x) := cell_of_block h 0
  have u := Tryz.underlying24
  simp [go_sem, loadVar, c1, u]
theorem own_base {w : World} {base base' sz : Nat} {e : TypeId} {v : Value} {n : Nat} {xs : List Value} (h : w.ownsRow base e sz v n xs) (hb : base' ≤ base) : w.ownsRow base' e sz v n xs := by
  refine ⟨h.1, ?_⟩
  rcases h.2 with h | ⟨g, cap, cur, h0, h1, h2⟩
  · exact .inl h
  · exact .inr ⟨g, cap, cur, h0, Nat.le_trans hb h1, h2⟩
/-- The three results' stores at the end. -/
def doneW (V : World) (G : Nat) (v : Value) : World := ((V.setCell ⟨G, 0, none⟩ v).setCell ⟨G + 1, 0, none⟩ (.int .i64 0)).setCell ⟨G + 2, 0, none⟩ (.int .i64 0)
/-- What stands at the end. -/
theorem PAt.done {Z : List Fn} {w0 V : World} {D : Nat} {fp : List Nat} {l : List Fn} {out : List Stp} {cs : List Value} {bs : List Nat} (h : PAt Z w0 Z.length fp V l out cs bs) (hD : w0.heap.size + 6 ≤ D) (hdf : V.heap[D]? = some (.deferred (some []))) :
    ∃ ad cap, V.cell? ⟨w0.heap.size + 3, 0, none⟩ = some (.slice ad out.length cap) ∧ V.cell? ⟨w0.heap.size, 0, none⟩ = some (.slice none 0 0) ∧ V.frozen? ⟨w0.heap.size, 0, none⟩ = false ∧
      (V.setCell ⟨w0.heap.size, 0, none⟩ (.slice ad out.length cap)).cell? ⟨w0.heap.size + 1, 0, none⟩ = some (.int .i64 0) ∧ (V.setCell ⟨w0.heap.size, 0, none⟩ (.slice ad out.length cap)).frozen? ⟨w0.heap.size + 1, 0, none⟩ = false ∧
      ((V.setCell ⟨w0.heap.size, 0, none⟩ (.slice ad out.length cap)).setCell ⟨w0.heap.size + 1, 0, none⟩ (.int .i64 0)).cell? ⟨w0.heap.size + 2, 0, none⟩ = some (.int .i64 0) ∧ ((V.setCell ⟨w0.heap.size, 0, none⟩ (.slice ad out.length cap)).setCell ⟨w0.heap.size + 1, 0, none⟩ (.int .i64 0)).frozen? ⟨w0.heap.size + 2, 0, none⟩ = false ∧
      (doneW V w0.heap.size (.slice ad out.length cap)).heap[D]? = some (.deferred (some [])) ∧ ∀ o, (loadVar 23 ⟨w0.heap.size, 0, none⟩).run Tryz.prog ((doneW V w0.heap.size (.slice ad out.length cap)).putObj D o) = .ok (.slice ad out.length cap) ((doneW V w0.heap.size (.slice ad out.length cap)).putObj D o) ∧
        (loadVar 3 ⟨w0.heap.size + 1, 0, none⟩).run Tryz.prog ((doneW V w0.heap.size (.slice ad out.length cap)).putObj D o) = .ok (.int .i64 0) ((doneW V w0.heap.size (.slice ad out.length cap)).putObj D o) ∧
        (loadVar 24 ⟨w0.heap.size + 2, 0, none⟩).run Tryz.prog ((doneW V w0.heap.size (.slice ad out.length cap)).putObj D o) = .ok (.int .i64 0) ((doneW V w0.heap.size (.slice ad out.length cap)).putObj D o) ∧
        PPost w0 (prs Z [] []) (.returned (.tuple #[.slice ad out.length cap, .int .i64 0, .int .i64 0])) ((doneW V w0.heap.size (.slice ad out.length cap)).putObj D o) := by
  obtain ⟨p1, p2, p3, p4, p5, p6, p7, p8, p9, p10, p11, p12, p13, p14, p15⟩ := h
  have hpr : prs Z [] [] = (out, 0, 0) := by rw [p1, List.drop_length]; rfl
  obtain ⟨v, b1, b2, b3, b4, b5⟩ := p6
  obtain ⟨ad, cap, hv⟩ := (SlAt.of_owns b2).empty
  subst hv
  have r1 : (V.setCell ⟨w0.heap.size, 0, none⟩ (.slice ad out.length cap)).heap[w0.heap.size + 1]? = some (.cells #[.int .i64 0] 3 (0, 0)) := by rw [block_setCell_other _ (by simp)]; exact p11
  have r2 : ((V.setCell ⟨w0.heap.size, 0, none⟩ (.slice ad out.length cap)).setCell ⟨w0.heap.size + 1, 0, none⟩ (.int .i64 0)).heap[w0.heap.size + 2]? = some (.cells #[.int .i64 0] 24 (0, 0)) := by
    rw [block_setCell_other _ (by simp), block_setCell_other _ (by simp)]; exact p12
  have f0 : (doneW V w0.heap.size (.slice ad out.length cap)).heap[w0.heap.size]? = some (.cells #[.slice ad out.length cap] 23 (0, 0)) := by
    unfold doneW
    rw [block_setCell_other _ (by simp), block_setCell_other _ (by simp)]; exact block_setCell p10 0 _
  have f1 : (doneW V w0.heap.size (.slice ad out.length cap)).heap[w0.heap.size + 1]? = some (.cells #[.int .i64 0] 3 (0, 0)) := by
    unfold doneW
    rw [block_setCell_other _ (by simp)]; exact block_setCell r1 0 _
  have f2 : (doneW V w0.heap.size (.slice ad out.length cap)).heap[w0.heap.size + 2]? = some (.cells #[.int .i64 0] 24 (0, 0)) := by
    unfold doneW
    exact block_setCell r2 0 _
  have kd : Keep [w0.heap.size, w0.heap.size + 1, w0.heap.size + 2] V (doneW V w0.heap.size (.slice ad out.length cap)) :=
    (((Keep.refl _ V).setCell (p := ⟨w0.heap.size, 0, none⟩) (.inl (by simp)) _).setCell (p := ⟨w0.heap.size + 1, 0, none⟩) (.inl (by simp)) _).setCell (p := ⟨w0.heap.size + 2, 0, none⟩) (.inl (by simp)) _
  refine ⟨ad, cap, cell_of_block b1 0, cell_of_block p10 0, free_of_block p10 0, cell_of_block r1 0, free_of_block r1 0, cell_of_block r2 0, free_of_block r2 0, kd.at_ hdf (by simp; omega), fun o => ?_⟩
  have kp : Keep [w0.heap.size, w0.heap.size + 1, w0.heap.size + 2, D] V ((doneW V w0.heap.size (.slice ad out.length cap)).putObj D o) := (kd.mono (L' := [w0.heap.size, w0.heap.size + 1, w0.heap.size + 2, D]) (by simp)).trans (keep_putObj _ D o) (by simp)
  have hof : ∀ j, j < 3 → ((doneW V w0.heap.size (.slice ad out.length cap)).putObj D o).heap[w0.heap.size + j]? = (doneW V w0.heap.size (.slice ad out.length cap)).heap[w0.heap.size + j]? := fun j hj => World.putObj_heap_other (by omega)
  refine ⟨load_steps ((hof 0 (by decide)).trans f0), load_intv ((hof 1 (by decide)).trans f1), load_errno ((hof 2 (by decide)).trans f2), ?_⟩
  rw [hpr]
  refine ⟨_, cs, bs, rfl, p14.trans kp (fun b hb => by simp at hb; exact .inr (by omega)), own_base (kp.owns b2 (fun g hg hm => ?_)) (by omega), StRows.keep kp p7 (fun b hb hm => ?_), fun b hb => by have := (p8 b hb).1; omega, p9, b3⟩
  · obtain ⟨c, f, hc⟩ := own_ty b2 g (by simp [hg])
    have hge := (b2.lt g hg).1
    simp at hm
    rcases hm with h | h | h | h
    · omega
    · omega
    · omega
    · subst h
      have e := Option.some.inj (hc.symm.trans hdf)
      cases e
  · obtain ⟨c, t, f, hc, _⟩ := p7.ty b hb
    have hge := (p8 b hb).1
    simp at hm
    rcases hm with h | h | h | h
    · omega
    · omega
    · omega
    · subst h
      have e := Option.some.inj (hc.symm.trans hdf)
      cases e
set_option maxHeartbeats 16000000 in
set_option maxRecDepth 100000 in
theorem parse_any (s : ByteArray) (W : World) (hz : s.size ≤ 100000000) (hT : TQ W) :
    Calls Tryz.prog 7 #[.string s] W (PPost W (prsT s)) := by
  have HT := Lib.hid hT
  clear hT
  refine (callsIn_wide (n := 0)).1 ?_
  refine callsIn_of_wp_marks Tryz.func7 rfl trivial ?_
  simp only [Tryz.ntmps7, List.size_toArray, List.length_cons, List.length_nil, Nat.reduceAdd, Nat.reduceSub, Array.replicate_succ, Array.replicate_zero, List.push_toArray, List.append_toArray, List.nil_append, List.cons_append]
  gi_wp2_with fail
  refine wpIn_wide.2 (wp_scope_straight ((wpIn_wide (n := 0)).1 ?_))
  gi_wp2_with fail
  refine wpIn_label ?_
  gi_wp2_with fail
  refine ⟨trivial, rfl, ?_⟩
  refine (callsIn_wide.2 (scan_any s _)).mono ?_
  rintro e w1 ⟨rfl, hw1⟩
  have hw1' : w1 = allocs W [.cells #[.slice none 0 0] 23, .cells #[.int .i64 0] 3, .cells #[.int .i64 0] 24, .cells #[.slice none 0 0] 23, .cells #[.slice none 0 0] 62, .cells #[.string s] 9] := hw1
  have hs1 : w1.heap.size = W.heap.size + 6 := by rw [hw1']; exact allocs_size _ _
  have hat := fun i o (h : [Obj.cells #[.slice none 0 0] 23, .cells #[.int .i64 0] 3, .cells #[.int .i64 0] 24, .cells #[.slice none 0 0] 23, .cells #[.slice none 0 0] 62, .cells #[.string s] 9][i]? = some o) => allocs_at _ W i o h
  rw [← hw1'] at hat
  have HB0 := Lib.hid (hat 0 _ rfl)
  have HB1 := Lib.hid (hat 1 _ rfl)
  have HB2 := Lib.hid (hat 2 _ rfl)
  have HB3 := Lib.hid (hat 3 _ rfl)
  have HB4 := Lib.hid (hat 4 _ rfl)
  have HB5 := Lib.hid (hat 5 _ rfl)
  have HK1 := Lib.hid (show Keep [] W w1 by rw [hw1']; exact allocs_keep _ _)
  have HS1 := Lib.hid hs1
  simp only [World.size_alloc, Nat.add_assoc, Nat.reduceAdd]
  clear hw1 hw1' hs1 hat
  obtain ⟨Z, hZ⟩ : ∃ Z, Z = scn s 0 1 false := ⟨_, rfl⟩
  have HZ := Lib.hid hZ
  have hit := (scan1_iters (W.heap.size + 5) s hz).r
  rw [← hZ] at hit
  have hzl : Z.length ≤ 100000001 := by rw [hZ]; have := scn_len1 s s.size 0 1 false (by omega) (by omega); omega
  clear hZ
  gi_wp2_with fail
  refine wpIn_rangeB (gf := 42) (lb := #[.pointer (some ⟨W.heap.size + 5, 0, none⟩)]) rfl (enters_of Tryz.func42 (by kernel_rfl) rfl)
    hit (fun W' hk => ⟨hk.at_ HB5.out (by simp), (HT.out.keep0 HK1.out).keep0 hk⟩) ?ps [W.heap.size, W.heap.size + 1, W.heap.size + 2, W.heap.size + 3, W.heap.size + 4]
    (fun b hb => by cases hb) ?rds (fun b hb => by simp at hb; have := HS1.out; omega)
    (PInv Z W) (fun _ _ _ _ _ => trivial) (PStop Z W) (PInv.steady (by have := HS1.out; omega)) (PStop.steady (by have := HS1.out; omega))
    ?start (fun k fp W' h => by obtain ⟨_, _, _, _, _, _, _, _, _, _, _, _, _, _, _, _, _, _, h⟩ := h; exact h)
    (fun k => .cells (fV (Z[k]?.getD ⟨0, ByteArray.empty, 0, 0, 0, 0⟩)) 67)
    (fun k B => { tmps := #[.string s, undef, .pointer (some ⟨W.heap.size, 0, none⟩), .pointer (some ⟨W.heap.size + 1, 0, none⟩), .pointer (some ⟨W.heap.size + 2, 0, none⟩), .pointer (some ⟨W.heap.size + 3, 0, none⟩), .pointer (some ⟨W.heap.size + 4, 0, none⟩), .pointer (some ⟨B, 0, none⟩), .int .i64 ((Z[k]?.getD ⟨0, ByteArray.empty, 0, 0, 0, 0⟩).e : Nat), undef, undef, .string s, .func (.func 42) #[] #[.pointer (some ⟨W.heap.size + 5, 0, none⟩)], .agg (fV (Z[k]?.getD ⟨0, ByteArray.empty, 0, 0, 0, 0⟩)), .int .i64 ((Z[k]?.getD ⟨0, ByteArray.empty, 0, 0, 0, 0⟩).e : Nat), undef, undef, undef, undef, undef, undef, undef, undef, undef, undef, undef, undef, undef, undef, undef, undef, undef, undef, undef, undef, undef, undef, undef, undef, undef, undef, undef, undef], defers := [] })
    ?assign ?body ?done ?stop
  case ps => intro x hx; simp only [List.mem_map] at hx; obtain ⟨k, _, rfl⟩ := hx; rfl
  case rds =>
    intro b hb
    have h1 := HS1.out
    rcases List.mem_cons.1 hb with h | h
    · subst h; simp; omega
    · have h2 := HT.out.lt b h
      refine ⟨by omega, ?_⟩
      simp
      omega
  case start =>
    have h0 : (Value.slice none 0 0).ownBlock = none := rfl
    exact ⟨[], [], [], [], rfl, by rw [HZ.out]; exact scn_wf s, Nat.zero_le _, Nat.zero_le _, ⟨_, HB4.out, World.ownsRow_nil _ _ _ _, by simp, by simp, by simp [h0]⟩, ⟨_, HB3.out, World.ownsRow_nil _ _ _ _, by simp, by simp, by simp [h0]⟩, ⟨rfl, rfl⟩, by simp, List.nodup_nil, HB0.out, HB1.out, HB2.out, by
      intro j hj
      match j, hj with
      | 0, _ => simp
      | 1, _ => simp
      | 2, _ => simp, HK1.out, fun b hb => by simp at hb; have := HS1.out; omega⟩
  case assign =>
    intro l k hk V K hK
    rw [List.length_map] at hk
    have hk2 := List.getElem?_eq_getElem hk
    rw [List.getElem_map, show Z[k] = Z[k]?.getD ⟨0, ByteArray.empty, 0, 0, 0, 0⟩ by rw [hk2]; rfl]
    clear hk2
    generalize Z[k]?.getD ⟨0, ByteArray.empty, 0, 0, 0, 0⟩ = f at hK ⊢
    obtain ⟨fk, ft, fn, fa, fl, fe⟩ := f
    simp only [fnArgs, fV] at hK ⊢
    gi_wp2
    exact hK
  case body =>
    rintro l k hk fp B V ⟨ln, out, cs, bs, hpa⟩ hB hBf hBw hl hlf hlw
    rw [List.length_map] at hk
    have hd := List.drop_eq_getElem_cons hk
    have hgk := List.getElem?_eq_getElem hk
    rw [hgk, Option.getD_some] at hB ⊢
    clear hgk
    generalize Z[k] = f at hd hB ⊢
    obtain ⟨fk, ft, fn, fa, fl, fe⟩ := f
    simp only [fV] at hB ⊢
    have e0 := cell_of_block hB 0
    have e1 := cell_of_block hB 1
    have e2 := cell_of_block hB 2
    have e3 := cell_of_block hB 3
    have e4 := cell_of_block hB 4
    simp at e0 e1 e2 e3 e4
    have HPA := Lib.hid hpa
    have HD := Lib.hid hd
    have HBB := Lib.hid hB
    have HBF := Lib.hid (And.intro hBf hBw)
    have hlk := hpa.2.2.1
    have hok := hpa.2.2.2.1
    clear hpa hd hB hBf hBw hl hlf hlw
    by_cases he : fe = 0
    · subst he
      by_cases hk4 : fk = 4
      · -- the end of a line
        subst hk4
        have hne : ln ≠ [] := by
          have h2 := HPA.out.2.1
          rw [HD.out] at h2
          rcases h2 with h | h | h
          · exact absurd rfl h
          · simpa using h.2.2.1
          · exact absurd rfl h.2.1
        obtain ⟨f0, lr, hln⟩ : ∃ f0 lr, ln = f0 :: lr := by
          cases ln with
          | nil => exact absurd rfl hne
          | cons a b => exact ⟨a, b, rfl⟩
        obtain ⟨v, c1, z1, lt1, row1, hb1⟩ := HPA.out.2.2.2.2.1.box
        obtain ⟨gb, cap1, hv1, hcp, hcell⟩ : ∃ gb cap1, v = .slice (some ⟨gb, 0, none⟩) ln.length cap1 ∧ ln.length ≤ cap1 ∧ ∀ i u, (fCs ln)[i]? = some u → V.cell? ⟨gb, 0 + i, none⟩ = some u := by
          have hat := (SlAt.of_owns row1).at_ (by rw [hln]; simp)
          rcases row1.2 with ⟨_, h0⟩ | ⟨g, cap, cur, rfl, hb, hg, h1, h2, h3, h4⟩
          · rw [hln] at h0; simp at h0
          · obtain ⟨b, off, cp, e, hc⟩ := hat
            injection e with e1 e2 e3
            injection e1 with e1
            injection e1 with e4 e5 e6
            subst e4
            subst e5
            exact ⟨g, cap, rfl, h1, hc⟩
        subst hv1
        have hw := wd_of_sl (lb := gb) (lo := 0) (cap := cap1) hcell
        obtain ⟨n, hn⟩ : ∃ n, n = ln.length := ⟨_, rfl⟩
        have hrd := fun W' (hk' : Keep [] V W') => read_any gb 0 cap1 (wdF f0) (lr.map wdF) W' n (by rw [hn, hln]; simp) (by omega) (by omega) (by have := hw.keep hk' (by simp); rw [hln] at this; simpa using this)
        have hmp : wdF f0 :: lr.map wdF = ln.map wdF := by rw [hln]; rfl
        rw [hmp] at hrd
        rw [← hn] at c1
        have HRD := Lib.hid hrd
        clear hrd hmp hw hcell hln hn hne row1 hb1
        gi_wp2_with fail
        refine ⟨trivial, rfl, ?_⟩
        refine ((callsIn_wide.2 (HRD.out V (Keep.refl _ _))).inRound l).mono ?_
        rintro e V2 ⟨hk2, ho⟩
        have f4 := hk2.cellv e4 (by simp)
        have HK2 := Lib.hid hk2
        clear hk2 c1 z1 lt1 e0 e1 e2 e3 e4
        rcases ho with ⟨hnone, rfl⟩ | ⟨st, dv, bv, hsome, rfl, hdat, hnew, hdr⟩
        · -- no step
          unfold noStep stV Stp.zero
          gi_upto_region 12 with (fail)
          obtain ⟨V3, hV3⟩ : ∃ V3, V3 = V2.alloc (.cells #[.int .i64 0, .int .i64 0, .int .i64 0, .int .i64 0, .int .i64 0, .int .i64 0, .string ByteArray.empty, .slice none 0 0, .slice none 0 0] 40) := ⟨_, rfl⟩
          have hk3 : Keep [] V2 V3 := by rw [hV3]; exact (Keep.refl _ _).alloc _
          have f5 := hk3.cellv f4 (by simp)
          have HK3 := Lib.hid (HK2.out.trans0 hk3)
          have HPA3 := Lib.hid (HPA.out.keep0 HK3.out)
          rw [← hV3]
          clear hV3 hk3 f4
          obtain ⟨⟨p0, y0⟩, ⟨p1, y1⟩, ⟨p2, y2⟩⟩ := HPA3.out.cells (fl : Nat)
          have HFIN := Lib.hid (HPA3.out.stop ((HPA.out.1.trans (by rw [HD.out])).trans (prs_bad rfl rfl hnone)))
          have HC := Lib.hid (show V3.drew.cell? ⟨B, 4, none⟩ = some (.int .i64 (fl : Nat)) ∧ ((V3.setCell ⟨W.heap.size, 0, none⟩ (.slice none 0 0)).drew).cell? ⟨B, 4, none⟩ = some (.int .i64 (fl : Nat)) ∧ (((V3.setCell ⟨W.heap.size, 0, none⟩ (.slice none 0 0)).setCell ⟨W.heap.size + 1, 0, none⟩ (.int .i64 (fl : Nat))).drew).cell? ⟨B, 4, none⟩ = some (.int .i64 (fl : Nat)) from by
            have hne : ∀ j, j < 3 → W.heap.size + j ≠ B := fun j hj h => HBF.out.1 (h ▸ HPA.out.2.2.2.2.2.2.2.2.2.2.2.2.1 j hj)
            have n0 := hne 0 (by decide)
            have n1 := hne 1 (by decide)
            have kk : Keep [W.heap.size, W.heap.size + 1] V3 (((V3.setCell ⟨W.heap.size, 0, none⟩ (.slice none 0 0)).setCell ⟨W.heap.size + 1, 0, none⟩ (.int .i64 (fl : Nat))).drew) := (((Keep.refl _ V3).setCell (p := ⟨W.heap.size, 0, none⟩) (.inl (by simp)) _).setCell (p := ⟨W.heap.size + 1, 0, none⟩) (.inl (by simp)) _).drew
            have kl : Keep [W.heap.size] V3 ((V3.setCell ⟨W.heap.size, 0, none⟩ (.slice none 0 0)).drew) := ((Keep.refl _ V3).setCell (p := ⟨W.heap.size, 0, none⟩) (.inl (by simp)) _).drew
            exact ⟨f5, kl.cellv f5 (by simp; omega), kk.cellv f5 (by simp; omega)⟩)
          clear f5
          refine wpIn_fix (.inr ⟨_, rfl⟩) 4 [2, 3] (fun q => if q = 0 then V3.drew else if q = 1 then (V3.setCell ⟨W.heap.size, 0, none⟩ (.slice none 0 0)).drew else ((V3.setCell ⟨W.heap.size, 0, none⟩ (.slice none 0 0)).setCell ⟨W.heap.size + 1, 0, none⟩ (.int .i64 (fl : Nat))).drew)
            (fun w' => w'.cell? ⟨B, 4, none⟩ = some (.int .i64 (fl : Nat)))
            [.pointer (some ⟨B, 4, none⟩), .int .i64 (fl : Nat), undef, undef]
            (by kernel_rfl) (by kernel_rfl) rfl rfl (show _ = ((V3.setCell ⟨W.heap.size, 0, none⟩ (.slice none 0 0)).setCell ⟨W.heap.size + 1, 0, none⟩ (.int .i64 (fl : Nat))).drew from rfl) ?hC12 ?rest12
          case hC12 =>
            intro q hq
            rcases q with _ | _ | q
            · exact HC.out.1
            · exact HC.out.2.1
            · exact HC.out.2.2
          case rest12 =>
            intro A hA
            simp only [putVals, List.take, Act.put, List.setIfInBounds_toArray, List.set_cons_succ, List.set_cons_zero] at hA
            subst hA
            refine ⟨?_, fixWrites_cons rfl rfl ?_ (fixWrites_cons rfl rfl ?_ fixWrites_nil), ?_⟩
            · iterate 2
                refine fixReads_cons rfl ?_ ?_
                · intro w1 hw1 K Q hK
                  go_simp
                  exact hK
              exact fixReads_skip (by rfl) (fixReads_skip (by rfl) fixReads_nil)
            · intro K Q hK
              go_simp
              exact hK
            · intro K Q hK
              go_simp
              exact hK
            · simp only [List.drop]
              gi_wp2
              obtain ⟨x1, x2, x3⟩ := HFIN.out
              exact ⟨_, x1, (HK3.out.mono (by simp)).trans x2 (fun x hx => .inl hx), fun x hx => .inl hx⟩
        · -- a step
          obtain ⟨ad2, cap2, hv2⟩ := (SlAt.of_owns hdr).empty
          obtain ⟨ad3, cap3, hv3⟩ := hdat.sl.empty
          subst hv2
          subst hv3
          have hrow3 : StRow V2 st (stV st (.slice ad2 st.draws.length cap2) (.slice ad3 st.data.size cap3)).toList ((Value.slice ad2 st.draws.length cap2).ownBlock.toList ++ (Value.slice ad3 st.data.size cap3).ownBlock.toList) := ⟨_, _, rfl, rfl, hdat, own_base hdr (Nat.zero_le _)⟩
          have hge : ∀ x ∈ ((Value.slice ad2 st.draws.length cap2).ownBlock.toList ++ (Value.slice ad3 st.data.size cap3).ownBlock.toList), V.heap.size ≤ x := fun x hx => by
            rcases List.mem_append.1 hx with h | h
            · exact (hdr.lt x (by simpa using h)).1
            · exact hnew x (by simpa using h)
          obtain ⟨V3, hV3⟩ : ∃ V3, V3 = V2.alloc (.cells (stV st (.slice ad2 st.draws.length cap2) (.slice ad3 st.data.size cap3)) 40) := ⟨_, rfl⟩
          have hk3 : Keep [] V2 V3 := by rw [hV3]; exact (Keep.refl _ _).alloc _
          have hb3 : V3.heap[V2.heap.size]? = some (.cells (stV st (.slice ad2 st.draws.length cap2) (.slice ad3 st.data.size cap3)) 40 (0, 0)) := by rw [hV3]; exact World.alloc_heap_new V2 _
          have HK3 := Lib.hid (HK2.out.trans0 hk3)
          obtain ⟨vo, co, zo, lto, rowo, hbo⟩ := HPA.out.2.2.2.2.2.1.box
          obtain ⟨ad4, cap4, hv4⟩ := (SlAt.of_owns rowo).empty
          subst hv4
          have co3 := HK3.out.cellv co (by simp)
          obtain ⟨v2, W2, hap, hpost⟩ := out_append (W := V3) (stV st (.slice ad2 st.draws.length cap2) (.slice ad3 st.data.size cap3)) rfl (by simp [stV, Value.oneCell']) (HK3.out.owns rowo (by simp)) (by have := HK3.out.size; omega) (by omega)
          have hfin := PAt.step HPA.out HD.out rfl rfl hsome HK3.out (hrow3.keep hk3 (by simp)) hge hbo rowo hpost
          obtain ⟨x1, x2, x3, ⟨g5, cap5, hv5⟩, x4⟩ := BoxRow.appended hbo rowo (HK3.out.alloc _) hpost (by omega)
          subst hv5
          obtain ⟨⟨vl, y1, y2⟩, hfin2⟩ := hfin
          have HFIN := Lib.hid hfin2
          have HAP := Lib.hid hap
          have d0 := cell_of_block hb3 0
          have d1 := cell_of_block hb3 1
          have d2 := cell_of_block hb3 2
          have d3 := cell_of_block hb3 3
          have d4 := cell_of_block hb3 4
          have d5 := cell_of_block hb3 5
          have d6 := cell_of_block hb3 6
          have d7 := cell_of_block hb3 7
          have d8 := cell_of_block hb3 8
          simp [stV] at d0 d1 d2 d3 d4 d5 d6 d7 d8
          unfold stV at HAP hV3 ⊢
          clear hfin2 hap hpost hrow3 hge hk3 hb3 rowo hbo x3 x4 hdat hnew hdr
          gi_upto_region 13 with (fail)
          rw [← hV3]
          clear hV3
          generalize st.draws.length = nd at *
          generalize st.data.size = nb at *
          gi_wp2_with (gi_at_builtin; refine wpListIn_append_eq rfl (.tmp 38) (.tmp 40) 23 rfl rfl rfl HAP.out ?_)
          gi_wp2
          exact HFIN.out
      · -- a word
        have g2 : ((fk : Int) != 4) = true := by simp; omega
        obtain ⟨v, c1, z1, lt1, row1, hb1⟩ := HPA.out.2.2.2.2.1.box
        obtain ⟨ad1, cap1, hv1⟩ := (SlAt.of_owns row1).empty
        subst hv1
        obtain ⟨v2, W2, hap, hpost⟩ := line_append ⟨fk, ft, fn, fa, fl, 0⟩ row1 (by omega) (by omega)
        have HFIN := Lib.hid (PAt.word HPA.out HD.out rfl hk4 hb1 row1 hpost)
        obtain ⟨x1, x2, x3, ⟨g3, cap3, hv3⟩, x4⟩ := BoxRow.appended hb1 row1 ((Keep.refl [] V).alloc _) hpost (by omega)
        subst hv3
        simp only [fV] at hap
        have HAP := Lib.hid hap
        clear hap hpost row1 hb1 x3 x4
        gi_wp2_with (gi_at_builtin; refine wpListIn_append_eq rfl (.tmp 25) (.tmp 27) 62 rfl rfl rfl HAP.out ?_)
        gi_wp2
        exact ⟨_, HFIN.out⟩
    · -- an error
      have g1 : ((fe : Int) != 0) = true := by simp; omega
      obtain ⟨⟨p0, y0⟩, ⟨p1, y1⟩, ⟨p2, y2⟩⟩ := HPA.out.cells (fl : Nat)
      have HFIN := Lib.hid (HPA.out.stop ((HPA.out.1.trans (by rw [HD.out])).trans (prs_err he)))
      gi_upto_region 7 with (fail)
      have HC := Lib.hid (show V.drew.cell? ⟨B, 4, none⟩ = some (.int .i64 (fl : Nat)) ∧ ((V.setCell ⟨W.heap.size, 0, none⟩ (.slice none 0 0)).drew).cell? ⟨B, 4, none⟩ = some (.int .i64 (fl : Nat)) ∧ (((V.setCell ⟨W.heap.size, 0, none⟩ (.slice none 0 0)).setCell ⟨W.heap.size + 1, 0, none⟩ (.int .i64 (fl : Nat))).drew).cell? ⟨B, 4, none⟩ = some (.int .i64 (fl : Nat)) from by
        have hne : ∀ j, j < 3 → W.heap.size + j ≠ B := fun j hj h => HBF.out.1 (h ▸ HPA.out.2.2.2.2.2.2.2.2.2.2.2.2.1 j hj)
        have n0 := hne 0 (by decide)
        have n1 := hne 1 (by decide)
        have kk : Keep [W.heap.size, W.heap.size + 1] V (((V.setCell ⟨W.heap.size, 0, none⟩ (.slice none 0 0)).setCell ⟨W.heap.size + 1, 0, none⟩ (.int .i64 (fl : Nat))).drew) := (((Keep.refl _ V).setCell (p := ⟨W.heap.size, 0, none⟩) (.inl (by simp)) _).setCell (p := ⟨W.heap.size + 1, 0, none⟩) (.inl (by simp)) _).drew
        have kl : Keep [W.heap.size] V ((V.setCell ⟨W.heap.size, 0, none⟩ (.slice none 0 0)).drew) := ((Keep.refl _ V).setCell (p := ⟨W.heap.size, 0, none⟩) (.inl (by simp)) _).drew
        exact ⟨e4, kl.cellv e4 (by simp; omega), kk.cellv e4 (by simp; omega)⟩)
      clear he e0 e1 e2 e3 e4
      refine wpIn_fix (.inr ⟨_, rfl⟩) 5 [3, 4] (fun q => if q = 0 then V.drew else if q = 1 then (V.setCell ⟨W.heap.size, 0, none⟩ (.slice none 0 0)).drew else ((V.setCell ⟨W.heap.size, 0, none⟩ (.slice none 0 0)).setCell ⟨W.heap.size + 1, 0, none⟩ (.int .i64 (fl : Nat))).drew)
        (fun w' => w'.cell? ⟨B, 4, none⟩ = some (.int .i64 (fl : Nat)))
        [.pointer (some ⟨B, 4, none⟩), .int .i64 (fl : Nat), .int .i64 (fe : Nat), undef, undef]
        (by kernel_rfl) (by kernel_rfl) rfl rfl (show _ = ((V.setCell ⟨W.heap.size, 0, none⟩ (.slice none 0 0)).setCell ⟨W.heap.size + 1, 0, none⟩ (.int .i64 (fl : Nat))).drew from rfl) ?hC7 ?rest7
      case hC7 =>
        intro q hq
        rcases q with _ | _ | q
        · exact HC.out.1
        · exact HC.out.2.1
        · exact HC.out.2.2
      case rest7 =>
        intro A hA
        simp only [putVals, List.take, Act.put, List.setIfInBounds_toArray, List.set_cons_succ, List.set_cons_zero] at hA
        subst hA
        refine ⟨?_, fixWrites_cons rfl rfl ?_ (fixWrites_cons rfl rfl ?_ fixWrites_nil), ?_⟩
        · iterate 3
            refine fixReads_cons rfl ?_ ?_
            · intro w1 hw1 K Q hK
              go_simp
              exact hK
          exact fixReads_skip (by rfl) (fixReads_skip (by rfl) fixReads_nil)
        · intro K Q hK
          go_simp
          exact hK
        · intro K Q hK
          go_simp
          exact hK
        · simp only [List.drop]
          gi_wp2
          exact ⟨_, HFIN.out⟩
  case done =>
    rintro D fp V hD ⟨ln, out, cs, bs, hpa⟩ hdf
    rw [List.length_map] at hpa
    obtain ⟨ad, cap, q3, q0, y0, q1, y1, q2, y2, hd3, hall⟩ := PAt.done hpa (by have := HS1.out; omega) hdf
    have HDF := Lib.hid hd3
    have HALL := Lib.hid hall
    clear hpa hdf hd3 hall
    generalize out.length = n at *
    gi_wp2
    refine ⟨by simp, .inl ⟨_, _, rfl, run_takeDeferred HDF.out, ?_⟩⟩
    obtain ⟨z1, z2, z3, z4⟩ := HALL.out (.deferred none)
    have z5 : PPost W (prsT s) _ _ := (show prsT s = prs Z [] [] by unfold prsT; rw [HZ.out]) ▸ z4
    exact ⟨_, results_3 rfl _ _ W.heap.size (W.heap.size + 1) (W.heap.size + 2) _ _ _ rfl rfl rfl z1 z2 z3, z5⟩
  case stop =>
    rintro D c k fp V hD hk ⟨rfl, ln, e, h1, h2, h3, h4, h5, h6⟩ hdf
    have hof : ∀ j o, j < 3 → (V.putObj D o).heap[W.heap.size + j]? = V.heap[W.heap.size + j]? := fun j o hj => World.putObj_heap_other (by have := HS1.out; omega)
    have HH := Lib.hid (And.intro h2 (And.intro h3 (And.intro h4 (And.intro h6 hof))))
    have HDF := Lib.hid hdf
    have HP := Lib.hid (show prsT s = ([], ln, e) by unfold prsT; rw [← HZ.out]; exact h1)
    clear h1 h2 h3 h4 h5 h6 hof hdf
    gi_wp2
    refine ⟨by simp, .inl ⟨_, _, rfl, run_takeDeferred HDF.out, ?_⟩⟩
    obtain ⟨h2, h3, h4, h6, hof⟩ := HH.out
    refine ⟨_, results_3 rfl _ _ W.heap.size (W.heap.size + 1) (W.heap.size + 2) _ _ _ rfl rfl rfl (load_steps ((hof 0 _ (by decide)).trans h2)) (load_intv ((hof 1 _ (by decide)).trans h3)) (load_errno ((hof 2 _ (by decide)).trans h4)), ?_⟩
    rw [HP.out]
    exact ⟨_, [], [], rfl, h6.trans (keep_putObj V D _) (fun b hb => by simp at hb; subst hb; exact .inr (by have := HS1.out; omega)), World.ownsRow_nil _ _ _ _, ⟨rfl, rfl⟩, by simp, List.nodup_nil, by simp⟩
end Go.Proofs.YtbidppjhenfjdaaGreatDoor
namespace Go.Proofs.YtbidppjhenfjdaaGreatDoor
open Go.RowKit
set_option linter.unusedVariables false
set_option linter.unusedSimpArgs false

/-- What a write leaves: of the blocks that were there, the builder's and its row's may have turned. -/
def WroteT (b base : Nat) (t : ByteArray) (w w' : World) : Prop :=
  BufAt w' b base t ∧ ∃ L, Keep L w w' ∧ ∀ x ∈ L, x = b ∨ w.heap.size ≤ x ∨ (base ≤ x ∧ ∃ c f, w.heap[x]? = some (.cells c 5 f))
theorem WroteT.at_ {b base : Nat} {t : ByteArray} {w w' : World} (h : WroteT b base t w w') {y : Nat} {c : Array Value} {ty : TypeId} {f : Nat × Nat} (hy : w.heap[y]? = some (.cells c ty f)) (hb : y ≠ b) (ht : ty ≠ 5) : w'.heap[y]? = some (.cells c ty f) := by
  obtain ⟨_, L, hk, hL⟩ := h
  refine hk.at_ hy (fun hm => ?_)
  rcases hL y hm with h | h | ⟨_, c', f', hc⟩
  · exact hb h
  · have := lt_of_block hy; omega
  · have e := Option.some.inj (hy.symm.trans hc)
    injection e with _ e _
    exact ht e
theorem WroteT.low {b base : Nat} {t : ByteArray} {w0 w w' : World} (h : WroteT b base t w w') (hk : Keep [] w0 w) (h1 : w0.heap.size ≤ b) (h2 : b < base) : Keep [] w0 w' := by
  obtain ⟨_, L, hk2, hL⟩ := h
  refine hk.trans hk2 (fun x hx => .inr ?_)
  have := hk.size
  rcases hL x hx with h | h | ⟨h, _⟩ <;> omega
theorem own_tyB {W : World} {base sz : Nat} {e : TypeId} {v : Value} {n : Nat} {xs : List Value} (h : W.ownsRow base e sz v n xs) : ∀ b ∈ v.ownBlock.toList, ∃ c f, W.heap[b]? = some (.cells c e f) := by
  intro b hb
  rcases h.2 with ⟨rfl, _⟩ | ⟨g, cap, cur, rfl, _, hg, _⟩
  · simp [Value.ownBlock] at hb
  · simp [Value.ownBlock] at hb
    subst hb
    exact ⟨_, _, hg⟩
set_option maxHeartbeats 8000000 in
theorem writeStr_ty (b base : Nat) (t s : ByteArray) (w : World) (h : BufAt w b base t) (hs : s.size ≤ 1073741824) (hl : t.size ≤ 10000000000000) (hb : base ≤ w.heap.size) :
    Calls Tryz.prog 25 #[.pointer (some ⟨b, 0, none⟩), .string s] w fun e w' => (∃ k : Int, e = .returned (.tuple #[.int .i64 k, .nilIface])) ∧ WroteT b base (t ++ s) w w' := by
  obtain ⟨i0, hi, hz0, hz1, hz2⟩ := info_parts info_u8
  have HI := Lib.hid hi; have HZ0 := Lib.hid hz0; have HZ1 := Lib.hid hz1; have HZ2 := Lib.hid hz2
  clear hi hz0 hz1 hz2
  have hbb : b < base := by obtain ⟨_, _, _, _, _, hbb⟩ := h; exact hbb
  have H := Lib.hid h; clear h
  go_enter Tryz.func25, Tryz.ntmps25
  go_wp2_with fail
  refine (copyCheck_any b base t w H.out).mono ?_
  rintro r w1 ⟨rfl, ⟨v, hb1, ho1⟩, hk1⟩
  obtain ⟨ad, cap, rfl, _⟩ := SlAt.of_owns ho1
  have c1 : w1.cell? ⟨b, 1, none⟩ = some (.slice ad t.size cap) := by rw [cell_of_block hb1]; rfl
  have hsz1 := hk1.size
  have HB1 := Lib.hid hb1; have HO1 := Lib.hid ho1; have HK1 := Lib.hid hk1; clear hb1 ho1 hk1
  go_wp2_with (with_reducible refine park_append 12 13 _ rfl ?_)
  refine Lib.wpList_append_own_string _ rfl (.tmp 12) (.tmp 13) 38 9 rfl base 5 i0 Tryz.underlying38 Tryz.underlying9 HI.out HZ0.out HZ1.out HZ2.out _ _ _ rfl HO1.out s rfl (by unfold maxLen; omega) (by omega) (by omega) ?_
  intro v' w2 ho2 hg2 _
  rw [← strCells_append] at ho2
  have hk2 : Keep ((Value.slice ad t.size cap).ownBlock.toList) w1 w2 := keep_of_grown hg2
  have hge : ∀ g, (Value.slice ad t.size cap).ownBlock = some g → base ≤ g := fun g hg => (HO1.out.lt g hg).1
  have hb2 := hk2.at_ HB1.out (by intro hm; simp at hm; have := hge _ (by simpa using hm); omega)
  obtain ⟨ad', cap', hv', _⟩ := SlAt.of_owns ho2
  rw [hv'] at ho2
  subst hv'
  have f1 := free_of_block hb2 1
  have c2 : w2.cell? ⟨b, 1, none⟩ = some (.slice ad t.size cap) := by rw [cell_of_block hb2]; rfl
  have hset := block_setCell hb2 1 (.slice ad' (t.size + s.size) cap')
  have hlt2 := lt_of_block hb2
  have hkA : Keep (b :: (Value.slice ad t.size cap).ownBlock.toList) w w2 := (HK1.out.mono (by simp)).trans hk2 (by intro x hx; simp [hx])
  have HKA := Lib.hid hkA
  have HK2 := Lib.hid hk2; have HO2 := Lib.hid ho2; have HSET := Lib.hid hset; have HGE := Lib.hid hge
  clear hkA hk2 ho2 hset hge hb2 hg2
  go_wp2
  go_ret2
  refine ⟨⟨_, rfl⟩, ⟨_, _, HSET.out, .inr rfl, ?_, hbb⟩, ⟨_, HKA.out.setCell (by simp) _, ?_⟩⟩
  · rw [ByteArray.size_append]
    refine ownsRow_setCell_other HO2.out (fun e => ?_) _
    have := (HO2.out.lt _ e).1
    simp at this; omega
  · intro x hx
    rcases List.mem_cons.1 hx with h | h
    · exact .inl h
    · refine .inr ?_
      rcases Nat.lt_or_ge x w.heap.size with hlt | hge
      · obtain ⟨c, f, hc⟩ := own_tyB HO1.out x h
        have hgx := HGE.out x (by simpa using h)
        exact .inr ⟨hgx, c, f, (HK1.out.block x hlt (by simp; omega)).symm.trans hc⟩
      · exact .inl hge

set_option maxHeartbeats 8000000 in
theorem writeByte_ty (b base : Nat) (t : ByteArray) (c : Nat) (w : World) (h : BufAt w b base t) (hc : c < 256) (hl : t.size ≤ 10000000000000) (hb : base ≤ w.heap.size) :
    Calls Tryz.prog 30 #[.pointer (some ⟨b, 0, none⟩), .int .u8 (c : Nat)] w fun e w' => e = .returned .nilIface ∧ WroteT b base (t ++ one c) w w' := by
  obtain ⟨i0, hi, hz0, hz1, hz2⟩ := info_parts info_u8
  have HI := Lib.hid hi; have HZ0 := Lib.hid hz0; have HZ1 := Lib.hid hz1; have HZ2 := Lib.hid hz2
  clear hi hz0 hz1 hz2
  have hbb : b < base := by obtain ⟨_, _, _, _, _, hbb⟩ := h; exact hbb
  have H := Lib.hid h; clear h
  go_enter Tryz.func30, Tryz.ntmps30
  go_wp2_with fail
  refine (copyCheck_any b base t w H.out).mono ?_
  rintro r w1 ⟨rfl, ⟨v, hb1, ho1⟩, hk1⟩
  obtain ⟨ad, cap, rfl, _⟩ := SlAt.of_owns ho1
  have c1 : w1.cell? ⟨b, 1, none⟩ = some (.slice ad t.size cap) := by rw [cell_of_block hb1]; rfl
  have hsz1 := hk1.size
  have HB1 := Lib.hid hb1; have HO1 := Lib.hid ho1; have HK1 := Lib.hid hk1; clear hb1 ho1 hk1
  go_wp2_with (with_reducible refine park_append 11 13 _ rfl ?_)
  refine wpList_append_mine _ rfl (.tmp 11) (.tmp 13) 38 rfl base 5 i0 (.int .u8 0) 1 1 Tryz.underlying38 HI.out HZ0.out HZ1.out HZ2.out rfl (by decide) _ _ _ rfl (HO1.out.alloc _) ⟨w1.heap.size, 0, none⟩ 1 1 [.int .u8 (c : Nat)] rfl rfl (cell_new_row _ _ _) (by simp [Value.oneCell']) (by unfold maxLen; omega) (by omega) (by simp; omega) ?_
  intro v' w2 hp2
  obtain ⟨ho2, hk2', hv2, _⟩ := hp2
  rw [show Lib.strCells t ++ [Value.int .u8 (c : Nat)] = Lib.strCells (t ++ one c) by rw [strCells_append, one_cells hc]] at ho2
  have hk2 : Keep ((Value.slice ad t.size cap).ownBlock.toList) w1 w2 := Keep.trans' (((Keep.refl [] w1).alloc _).mono (by simp)) hk2'
  have hge : ∀ g, (Value.slice ad t.size cap).ownBlock = some g → base ≤ g := fun g hg => (HO1.out.lt g hg).1
  have hb2 := hk2.at_ HB1.out (by intro hm; simp at hm; have := hge _ (by simpa using hm); omega)
  obtain ⟨ad', cap', hv', _⟩ := SlAt.of_owns ho2
  rw [hv'] at ho2
  subst hv'
  have f1 := free_of_block hb2 1
  have c2 : w2.cell? ⟨b, 1, none⟩ = some (.slice ad t.size cap) := by rw [cell_of_block hb2]; rfl
  have hset := block_setCell hb2 1 (.slice ad' (t.size + 1) cap')
  have hlt2 := lt_of_block hb2
  have hkA : Keep (b :: (Value.slice ad t.size cap).ownBlock.toList) w w2 := (HK1.out.mono (by simp)).trans hk2 (by intro x hx; simp [hx])
  have HKA := Lib.hid hkA
  have HK2 := Lib.hid hk2; have HO2 := Lib.hid ho2; have HSET := Lib.hid hset; have HGE := Lib.hid hge
  clear hkA hk2 hk2' hv2 ho2 hset hge hb2
  go_wp2
  go_ret
  refine ⟨rfl, ⟨_, _, HSET.out, .inr rfl, ?_, hbb⟩, ⟨_, HKA.out.setCell (by simp) _, ?_⟩⟩
  · rw [ByteArray.size_append, one_size]
    refine ownsRow_setCell_other HO2.out (fun e => ?_) _
    have := (HO2.out.lt _ e).1
    simp at this; omega
  · intro x hx
    rcases List.mem_cons.1 hx with h | h
    · exact .inl h
    · refine .inr ?_
      rcases Nat.lt_or_ge x w.heap.size with hlt | hge
      · obtain ⟨c, f, hc⟩ := own_tyB HO1.out x h
        have hgx := HGE.out x (by simpa using h)
        exact .inr ⟨hgx, c, f, (HK1.out.block x hlt (by simp; omega)).symm.trans hc⟩
      · exact .inl hge
end Go.Proofs.YtbidppjhenfjdaaGreatDoor
namespace Go.Proofs.YtbidppjhenfjdaaGreatDoor
open Go.RowKit
set_option linter.unusedVariables false
set_option linter.unusedSimpArgs false

def itB (n : Int) : ByteArray := ⟨(Lib.itoa n).toArray⟩
def fW (s : Stp) (f : Fld) : ByteArray :=
  match f with
  | .site => itB s.site
  | .peer => itB s.peer
  | .at => itB s.at_
  | .num => itB s.n
  | .text => quo s.text
  | .data => quo s.data
/-- The words of a step of a kind. -/
def sayW (k : Nat) (s : Stp) : List ByteArray := tabW k :: (tabF k).map (fW s) ++ (if k = 6 then s.draws.map itB else [])
def joinB (l : List ByteArray) : ByteArray := ⟨(Lib.join (l.map (·.data.toList)) [32]).toArray⟩
/-- A step's line. -/
def sayO (s : Stp) : Option ByteArray := if 1 ≤ s.kind ∧ s.kind ≤ 14 then some (joinB (sayW s.kind.toNat s)) else none
def I64 (n : Int) : Prop := -9223372036854775808 ≤ n ∧ n < 9223372036854775808
/-- A step that may be: numbers of a machine. -/
def StpOk (s : Stp) : Prop := I64 s.kind ∧ I64 s.site ∧ I64 s.peer ∧ I64 s.unit ∧ I64 s.at_ ∧ I64 s.n ∧ (∀ x ∈ s.draws, I64 x)
def StpSmall (s : Stp) : Prop := s.text.size ≤ 100000 ∧ s.data.size ≤ 100000 ∧ s.draws.length ≤ 100000
theorem itB_size {n : Int} (h : I64 n) : (itB n).size ≤ 21 := by
  have := Lib.itoa_length_le n h.1 (by have := h.2; omega)
  show (Lib.itoa n).toArray.size ≤ 21
  simpa using this
theorem quo_size (s : ByteArray) : (quo s).size ≤ 10 * s.size + 2 := by
  have h2 := qcat_size (s := s) (l := cut s 0) (fun i hi => by
    obtain ⟨k, hk, rfl⟩ := List.getElem_of_mem hi
    exact (at_get s k hk).2)
  have h3 := cut_len_le s 0 (Nat.zero_le _)
  unfold quo
  simp only [ByteArray.size_append, one_size]
  omega
theorem fW_size {s : Stp} (h : StpOk s) (hs : StpSmall s) (f : Fld) : (fW s f).size ≤ 1000002 := by
  obtain ⟨h0, h1, h2, h3, h4, h5, h6⟩ := h
  obtain ⟨g0, g1, g2⟩ := hs
  cases f
  · have := itB_size h1; show (itB s.site).size ≤ _; omega
  · have := itB_size h2; show (itB s.peer).size ≤ _; omega
  · have := itB_size h4; show (itB s.at_).size ≤ _; omega
  · have := itB_size h5; show (itB s.n).size ≤ _; omega
  · have := quo_size s.text; show (quo s.text).size ≤ _; omega
  · have := quo_size s.data; show (quo s.data).size ≤ _; omega
/-- The sizes of some words, and their blanks. -/
def sizes : List ByteArray → Nat
  | [] => 0
  | x :: l => x.size + 1 + sizes l
theorem join_le (l : List ByteArray) : (Lib.join (l.map (·.data.toList)) [32]).length ≤ sizes l := by
  have key : ∀ (l : List ByteArray), (List.intercalate [32] (l.map (·.data.toList)) : List UInt8).length ≤ sizes l := by
    intro l
    induction l with
    | nil => simp [sizes]
    | cons x l ih =>
      cases l with
      | nil =>
        have : x.data.size = x.size := rfl
        simp [sizes, List.intercalate]
        try omega
      | cons y r =>
        rw [List.map_cons, List.map_cons, List.intercalate_cons_cons]
        rw [List.map_cons] at ih
        have : x.data.size = x.size := rfl
        unfold sizes
        simp only [List.length_append, List.length_cons, List.length_nil, Array.length_toList] at ih ⊢
        omega
  exact key l
theorem sizes_app (a b : List ByteArray) : sizes (a ++ b) = sizes a + sizes b := by
  induction a with
  | nil => simp [sizes]
  | cons x a ih => simp [sizes, ih]; omega
theorem sizes_le {m : Nat} (l : List ByteArray) (h : ∀ x ∈ l, x.size ≤ m) : sizes l ≤ l.length * (m + 1) := by
  induction l with
  | nil => simp [sizes]
  | cons x l ih =>
    have h1 := ih (fun y hy => h y (by simp [hy]))
    have h2 := h x (by simp)
    unfold sizes
    rw [List.length_cons, Nat.succ_mul]
    omega
theorem sayW_sizes {k : Nat} {s : Stp} (h : StpOk s) (hs : StpSmall s) : sizes (sayW k s) ≤ 6000000 := by
  have hl : (tabF k).length ≤ 3 := by
    unfold tabF
    split <;> simp
  have h1 : sizes ((tabF k).map (fW s)) ≤ 3 * 1000003 := by
    have := sizes_le ((tabF k).map (fW s)) (m := 1000002) (fun x hx => by
      obtain ⟨f, _, rfl⟩ := List.mem_map.1 hx
      exact fW_size h hs f)
    rw [List.length_map] at this
    refine Nat.le_trans this (Nat.mul_le_mul_right _ hl)
  have h2 : sizes (if k = 6 then s.draws.map itB else []) ≤ 2200000 := by
    split
    · have := sizes_le (s.draws.map itB) (m := 21) (fun x hx => by
        obtain ⟨n, hn, rfl⟩ := List.mem_map.1 hx
        exact itB_size (h.2.2.2.2.2.2 n hn))
      rw [List.length_map] at this
      have := hs.2.2
      omega
    · simp [sizes]
  have h3 : (tabW k).size ≤ 10 := by
    unfold tabW
    split <;> decide
  unfold sayW
  rw [List.cons_append]
  unfold sizes
  rw [sizes_app]
  omega
theorem info_strS : (Tryz.prog.info? 9).map (fun i => (i.zero, i.size, i.bytes)) = some (some (.string ⟨#[]⟩), 1, 16) := by kernel_rfl
/-- 'append(l, x)', behind the new word's block. -/
theorem str_append {W : World} {base : Nat} {v : Value} {n : Nat} {xs : List Value} (x : ByteArray) (hown : W.ownsRow base 9 1 v n xs) (hb : base ≤ W.heap.size) (hk : n ≤ 1000000000) :
    ∃ v' w', (Builtin.append_ #[100, 100] 100 #[v, .slice (some ⟨W.heap.size, 0, none⟩) 1 1]).run Tryz.prog (W.alloc (.cells #[.string x] 9)) = .ok v' w' ∧
      AppPost (W.alloc (.cells #[.string x] 9)) base 9 1 v n xs 1 [.string x] v' w' := by
  obtain ⟨i0, hi, hz0, hz1, hz2⟩ : ∃ i, Tryz.prog.info? 9 = some i ∧ i.zero = some (.string ⟨#[]⟩) ∧ i.size = 1 ∧ i.bytes = 16 := by
    have h := info_strS
    cases he : Tryz.prog.info? 9 with
    | none => rw [he] at h; cases h
    | some i =>
      rw [he] at h
      simp at h
      exact ⟨i, rfl, h.1, h.2.1, h.2.2⟩
  refine run_append_mine (P := Tryz.prog) _ base 100 100 9 i0 (.string ⟨#[]⟩) 1 16 Tryz.underlying100 hi hz0 hz1 hz2 rfl (by decide) v n _ (hown.alloc _) ⟨W.heap.size, 0, none⟩ 1 1 [.string x] rfl
    (fun j u hu => ?_) (by simp [Value.oneCell']) (by unfold maxLen; omega) (by omega) (by simp; omega)
  have hj : j = 0 := by have := (List.getElem?_eq_some_iff.1 hu).1; simpa using this
  subst hj
  have h := cell_of_block (World.alloc_heap_new W (.cells #[.string x] 9)) 0
  simp at hu
  subst hu
  exact h
/-- A new slice of one word. -/
theorem own_one {W : World} {base : Nat} (x : ByteArray) (hb : base ≤ W.heap.size) : (W.alloc (.cells #[.string x] 9)).ownsRow base 9 1 (.slice (some ⟨W.heap.size, 0, none⟩) 1 1) 1 [.string x] :=
  ⟨rfl, .inr ⟨W.heap.size, 1, #[.string x], rfl, hb, World.alloc_heap_new W _, by decide, by decide, rfl, rfl⟩⟩
section
variable {P : Program}
/-- An append, by its run. -/
theorem wpList_append_eq {ops : Array Oper} {rest : List Oper} {o : Oper} {a : Act} {Q : Exit → Act → World → Prop} {w w' : World}
    (hg : o.guard = none) (s x : Operand) (t : TypeId) (hop : o.op = Op.call { callee := Callee.builtin Builtin.append, args := #[s, x], argTypes := #[t, t] }) {v xv v' : Value} (hs : a.eval s = v) (hx : a.eval x = xv)
    (hrun : (Builtin.append_ #[t, t] o.type #[v, xv]).run P w = .ok v' w') (hK : wpList P ops Q rest (a.put o.dst v') w') : wpList P ops Q (o :: rest) a w := by
  refine wpList_plain hg fun K hK' => ?_
  unfold Oper.wp
  simp [execOp, hop, resolve, invoke, builtin, hs, hx, hrun, Result.andThen]
  exact hK' _ _ hK
end
theorem addr_plain2 (b off n : Nat) : (⟨b, off, none⟩ : Addr).add n = ⟨b, off + n, none⟩ := by
  unfold Addr.add
  split
  · rename_i h; subst h; rfl
  · rfl
/-- The bytes of a slice that is read, as a string. -/
theorem conv_bsl {W : World} {v : Value} {d : ByteArray} (h : SlAt W v d.size (bytV d)) : (convert 38 9 v).run Tryz.prog W = .ok (.string d) W := by
  obtain ⟨ad, cap, rfl, h0, h1⟩ := h
  by_cases hd : d.size = 0
  · have hde : d = ByteArray.empty := ByteArray.ext (Array.eq_empty_of_size_eq_zero hd)
    subst hde
    have e : ByteArray.empty.size = 0 := rfl
    rw [e]
    rw [run_convert_bytes_string W _ _ _ _ _ _ Tryz.underlying38 Tryz.underlying5 Tryz.underlying9]
    cases ad <;> rfl
  · obtain ⟨b, off, rfl, hc⟩ := h1 hd
    have := run_convert_bytes_back (P := Tryz.prog) W 38 9 5 ⟨b, off, none⟩ cap d.data.toList Tryz.underlying38 Tryz.underlying5 Tryz.underlying9 (fun j hj => by
      have hj' : j < d.size := by simpa using hj
      have h2 := hc j _ (bytV_at hj')
      have e : (⟨b, off, none⟩ : Addr).add j = ⟨b, off + j, none⟩ := addr_plain2 b off j
      rw [e, h2]
      have hjd : j < d.data.size := hj'
      simp [byt, hj', hjd]
      try rfl)
    have e : d.data.toList.length = d.size := by rw [Array.length_toList]; rfl
    rw [e] at this
    exact this
/-- Some words of the call's own, joined. -/
theorem join_own {W : World} {base : Nat} {v : Value} {xs : List ByteArray} (hown : W.ownsRow base 9 1 v xs.length (xs.map Value.string)) (h0 : xs.length ≠ 0) (hlen : sizes xs ≤ 1000000000) (hn : xs.length ≤ 1000000000) :
    Calls Tryz.prog 55 #[v, .string ⟨#[32]⟩] W fun e W' => e = .returned (.string (joinB xs)) ∧ Keep [] W W' := by
  have hat := (SlAt.of_owns hown).at_ h0
  rcases hown.2 with ⟨_, h⟩ | ⟨g, cap, cur, rfl, hb, hg, h1, h2, h3, h4⟩
  · exact absurd h h0
  · obtain ⟨b, off, cp, e, hc⟩ := hat
    injection e with e1 e2 e3
    injection e1 with e1
    injection e1 with e4 e5 e6
    subst e4
    subst e5
    have hj := join_le xs
    refine (Tryz.strings_Join g 0 cap xs ⟨#[32]⟩ W (fun j x hx => hc j _ (by rw [List.getElem?_map, hx]; rfl)) (lt_of_block hg) (by omega) h1 (by
      have e : (⟨#[32]⟩ : ByteArray).data.toList = [32] := rfl
      rw [e]
      omega)).mono ?_
    rintro e W' ⟨rfl, hk⟩
    exact ⟨rfl, Keep.of_below hk (Nat.le_refl _)⟩
end Go.Proofs.YtbidppjhenfjdaaGreatDoor
namespace Go.Proofs.YtbidppjhenfjdaaGreatDoor
open Go.RowKit
set_option linter.unusedVariables false
set_option linter.unusedSimpArgs false

/-- What say says. -/
def sayV : Option ByteArray → Value
  | some b => .tuple #[.string b, .bool true]
  | none => .tuple #[.string ByteArray.empty, .bool false]
/-- The words said so far. -/
def Words (lb : Nat) (lv : Value) (xs : List ByteArray) (wr : World) : Prop := wr.ownsRow lb 9 1 lv xs.length (xs.map Value.string)
/-- What stands below the words' list. -/
def SayI (W : World) (B bs bh lb : Nat) (s : Stp) (dv bv : Value) (i : Nat) (wx : World) : Prop := Keep [] W wx ∧ Shp B wx ∧ StB bs s dv bv wx ∧ wx.heap[bh]? = some (.cells (rowV B i) 113 (0, 0)) ∧ (W.heap.size ≤ lb ∧ bs < lb ∧ B + 12 < lb ∧ bh < lb ∧ lb ≤ wx.heap.size)
theorem SayI.keep {W wx w' : World} {B bs bh lb : Nat} {s : Stp} {dv bv : Value} {i : Nat} {K : List Nat} (h : SayI W B bs bh lb s dv bv i wx) (k : Keep K wx w') (hK : ∀ x ∈ K, lb ≤ x) : SayI W B bs bh lb s dv bv i w' := by
  obtain ⟨h1, h2, h3, h4, h5⟩ := h
  refine ⟨h1.trans k (fun x hx => .inr (by have := hK x hx; omega)), h2.keep k (fun i hi hm => by have := hK _ hm; omega), k.at_ h3 (fun hm => by have := hK _ hm; omega), k.at_ h4 (fun hm => by have := hK _ hm; omega), ?_⟩
  have := k.size
  omega
/-- A word more. -/
theorem Words.more {W wx w5 w6 : World} {B bs bh lb : Nat} {s : Stp} {dv bv : Value} {i : Nat} {lv v2 : Value} {xs : List ByteArray} {x : ByteArray} (h : SayI W B bs bh lb s dv bv i wx) (hk5 : Keep [] wx w5)
    (hw : Words lb lv xs w5) (hp : AppPost (w5.alloc (.cells #[.string x] 9)) lb 9 1 lv xs.length (xs.map Value.string) 1 [.string x] v2 w6) : Words lb v2 (xs ++ [x]) w6 ∧ SayI W B bs bh lb s dv bv i w6 := by
  refine ⟨?_, ((h.keep hk5 (by simp)).keep ((Keep.refl [] w5).alloc _) (by simp)).keep hp.2.1 (fun y hy => (hw.lt y (by simpa using hy)).1)⟩
  unfold Words
  rw [List.length_append, List.map_append]
  exact hp.1
theorem itoa_any2 (v : Int) (w : World) (h : I64 v) (hT : TQ w) : Calls Tryz.prog 31 #[.int .i64 v] w fun e w' => e = .returned (.string (itB v)) ∧ Keep [] w w' := itoa_any v w h hT
theorem sayO_at {s : Stp} {i : Nat} (hi : i < 14) (h : s.kind = (i + 1 : Nat)) : sayO s = some (joinB (sayW (i + 1) s)) := by
  unfold sayO
  rw [if_pos (by omega), h]
  rfl
theorem sayO_no {s : Stp} (h : ∀ k, k < 14 → s.kind ≠ (k + 1 : Nat)) : sayO s = none := by
  unfold sayO
  rw [if_neg]
  rintro ⟨h1, h2⟩
  have := h (s.kind.toNat - 1) (by omega)
  omega

set_option maxHeartbeats 16000000 in
set_option maxRecDepth 100000 in
theorem say_any (s : Stp) (dv bv : Value) (W : World) (h : StRd W s dv bv) (hok : StpOk s) (hsm : StpSmall s) (hT : TQ W) :
    Calls Tryz.prog 24 #[.agg (stV s dv bv)] W fun e W' => e = .returned (sayV (sayO s)) ∧ Keep [] W W' := by
  have HRD := Lib.hid h
  have HOK := Lib.hid hok
  have HSM := Lib.hid hsm
  have HT := Lib.hid hT
  obtain ⟨ad1, cap1, hdv⟩ := h.1.empty
  obtain ⟨ad2, cap2, hbv⟩ := h.2.empty
  subst hdv
  subst hbv
  clear h hok hsm hT
  obtain ⟨nd, hnd⟩ : ∃ nd, nd = s.draws.length := ⟨_, rfl⟩
  obtain ⟨nb, hnb⟩ : ∃ nb, nb = s.data.size := ⟨_, rfl⟩
  rw [← hnd, ← hnb] at HRD ⊢
  have HND := Lib.hid (And.intro hnd hnb)
  clear hnd hnb
  unfold stV
  go_enter Tryz.func24, Tryz.ntmps24
  go_wp2_with fail
  refine (shapes_any _).mono ?_
  rintro e w1 ⟨rfl, hk1, hsh, hz⟩
  have hsb : StB W.heap.size s (.slice ad1 nd cap1) (.slice ad2 nb cap2) w1 := hk1.at_ (World.alloc_heap_new W _) (by simp)
  obtain ⟨bs, hbs⟩ : ∃ bs, bs = W.heap.size := ⟨_, rfl⟩
  obtain ⟨B, hB⟩ : ∃ B, B = bs + 1 := ⟨_, rfl⟩
  rw [World.size_alloc, ← hbs, ← hB] at hsh hz ⊢
  rw [← hbs] at hsb
  have HSB := Lib.hid hsb
  have HBS := Lib.hid (And.intro hbs hB)
  have HSH := Lib.hid hsh
  have HK1 := Lib.hid (((Keep.refl [] W).alloc _).trans0 hk1)
  clear hk1 hsh hz hB hbs hsb
  go_upto_region 2 with (fail)
  go_loopw [16] (fun iv wr => ∃ i : Nat, iv = .int .i64 i ∧ i ≤ 14 ∧ (∀ k, k < i → s.kind ≠ (k + 1 : Nat)) ∧ Keep [] W wr ∧ Shp B wr ∧ StB bs s (.slice ad1 nd cap1) (.slice ad2 nb cap2) wr) (fun iv _ => 14 - (intOf iv).toNat)
  case atStart => exact ⟨0, rfl, by omega, fun k hk => absurd hk (Nat.not_lt_zero _), HK1.out, HSH.out, HSB.out⟩
  case round =>
    rename World => wr
    obtain ⟨i, rfl, hi, hno, hkr, hsr, hsb⟩ := hrel
    have HNO := Lib.hid hno
    have HKR := Lib.hid hkr
    have HSR := Lib.hid hsr
    have HSBR := Lib.hid hsb
    clear hno hkr hsr hsb HSH HK1 HSB
    by_cases hlt : i < 14
    · have g1 := dec_lt_t (show (i : Int) < 14 by omega)
      have g2 := dec_ltn_t hlt
      have hld := load_shape HSR.out i hlt
      obtain ⟨w2, hst, hb2, hk2⟩ := new_shape wr B i
      go_upto_region 3 with (fail)
      go_wp2_with (with_reducible refine park_load 18 _ rfl ?_)
      refine wpList_load_eq rfl _ (.tmp 18) rfl hld ?_
      go_wp2_with (with_reducible refine park_store 5 19 _ rfl ?_)
      refine wpList_store_eq rfl _ (.tmp 5) (.tmp 19) rfl hst ?_
      obtain ⟨bh, hbh⟩ : ∃ bh, bh = wr.heap.size := ⟨_, rfl⟩
      rw [← hbh] at hb2 ⊢
      have HB2 := Lib.hid hb2
      have HK2 := Lib.hid (HKR.out.trans0 hk2)
      have HS2 := Lib.hid (HSR.out.keep hk2 (fun _ _ => by simp))
      have HSB2 := Lib.hid (show StB bs s (.slice ad1 nd cap1) (.slice ad2 nb cap2) w2 from hk2.at_ HSBR.out (by simp))
      have q0 : w2.cell? ⟨bh, 0, none⟩ = some (.int .i64 ((i + 1 : Nat) : Nat)) := cell_of_block hb2 0
      have q1 : w2.cell? ⟨bh, 1, none⟩ = some (.string (tabW (i + 1))) := cell_of_block hb2 1
      have q5 : w2.cell? ⟨bs, 0, none⟩ = some (.int .i64 s.kind) := cell_of_block HSB2.out 0
      clear hb2 hk2 hld hst hbh
      by_cases hk : s.kind = (i + 1 : Nat)
      · have HKD := Lib.hid hk
        have g3 : (((i : Int) + 1) != s.kind) = false := by simp; omega
        clear hk
        obtain ⟨tw, htw⟩ : ∃ tw, tw = tabW (i + 1) := ⟨_, rfl⟩
        rw [← htw] at q1
        have HTW := Lib.hid htw
        obtain ⟨ad, hts, had⟩ := tabS_slice B (i + 1)
        obtain ⟨fl, hfl⟩ : ∃ fl, fl = (tabF (i + 1)).length := ⟨_, rfl⟩
        rw [← hfl] at hts had
        have HTS := Lib.hid hts
        have HAD := Lib.hid had
        have HFL := Lib.hid hfl
        have q2 : w2.cell? ⟨bh, 2, none⟩ = some (.slice ad fl fl) := by rw [← HTS.out]; exact cell_of_block HB2.out 2
        clear hts had hfl htw
        go_upto_region 6 with (fail)
        obtain ⟨w3, hw3⟩ : ∃ w3, w3 = w2.alloc (.cells #[.string tw] 9) := ⟨_, rfl⟩
        have hk3 : Keep [] w2 w3 := by rw [hw3]; exact (Keep.refl _ _).alloc _
        have hown3 : Words w2.heap.size (.slice (some ⟨w2.heap.size, 0, none⟩) 1 1) [tw] w3 := by
          have := own_one (W := w2) (base := w2.heap.size) tw (Nat.le_refl _)
          rw [hw3]
          exact this
        obtain ⟨lb, hlb⟩ : ∃ lb, lb = w2.heap.size := ⟨_, rfl⟩
        rw [← hlb] at hown3
        rw [← hw3, ← hlb]
        have HI3 := Lib.hid (show SayI W B bs bh lb s (.slice ad1 nd cap1) (.slice ad2 nb cap2) i w3 from by
          refine ⟨HK2.out.trans0 hk3, HS2.out.keep hk3 (fun _ _ => by simp), hk3.at_ HSB2.out (by simp), hk3.at_ HB2.out (by simp), ?_⟩
          have h1 := HK2.out.size
          have h2 := lt_of_block HSB2.out
          have h3 := World.block_lt_of_cell? _ _ (HS2.out.row 0 (by decide)).1
          have h4 := lt_of_block HB2.out
          have h5 := hk3.size
          simp only at h3
          rw [hlb]
          exact ⟨h1, h2, h3, h4, h5⟩)
        have HOWN3 := Lib.hid hown3
        have q2 := hk3.cellv q2 (by simp)
        clear hw3 hk3 hown3 hlb q0 q1 q5 g3 HK2 HS2 HSB2 HB2
        have hfl3 : fl ≤ 3 := by
          rw [HFL.out]
          unfold tabF
          split <;> simp
        go_upto_region 7 with (fail)
        go_loopw [6, 31] (fun lv jv wx => ∃ j : Nat, jv = .int .i64 j ∧ j ≤ fl ∧ Words lb lv (tw :: ((tabF (i + 1)).take j).map (fW s)) wx ∧ SayI W B bs bh lb s (.slice ad1 nd cap1) (.slice ad2 nb cap2) i wx) (fun _ jv _ => fl - (intOf jv).toNat)
        case atStart => exact ⟨0, rfl, Nat.zero_le _, HOWN3.out, HI3.out⟩
        case round =>
          rename World => wx
          obtain ⟨j, rfl, hj, how, hix⟩ := hrel
          have HOW := Lib.hid how
          have HIX := Lib.hid hix
          have q2 : wx.cell? ⟨bh, 2, none⟩ = some (.slice ad fl fl) := by rw [← HTS.out]; exact cell_of_block HIX.out.2.2.2.1 2
          obtain ⟨ad5, cap5, hlv⟩ := (SlAt.of_owns how).empty
          have hln : (tw :: ((tabF (i + 1)).take j).map (fW s)).length = j + 1 := by
            have := HFL.out
            simp
            omega
          rw [hln] at hlv
          subst hlv
          clear how hix
          by_cases hlt2 : j < fl
          · have HJM := Lib.hid hlt2
            have g1 := dec_lt_t (show (j : Int) < (fl : Int) by omega)
            have g2 := dec_ltn_t hlt2
            have hjf : j < (tabF (i + 1)).length := by rw [← HFL.out]; exact hlt2
            have had2 := HAD.out (by omega)
            have hfc := HIX.out.2.1.fld (i + 1) j hjf
            have htk : (tabF (i + 1)).take (j + 1) = (tabF (i + 1)).take j ++ [(tabF (i + 1))[j]] := by rw [List.take_add_one, List.getElem?_eq_getElem hjf]; rfl
            generalize (tabF (i + 1))[j] = f at hfc htk
            subst had2
            have HTK := Lib.hid (show tw :: ((tabF (i + 1)).take (j + 1)).map (fW s) = (tw :: ((tabF (i + 1)).take j).map (fW s)) ++ [fW s f] by rw [htk, List.map_append]; rfl)
            clear htk hjf hlt2
            cases f
            case site =>
              simp only [fldV] at hfc
              have t1 := ta_ii
              have p0 : wx.cell? ⟨bs, 1, none⟩ = some (.int .i64 s.site) := cell_of_block HIX.out.2.2.1 1
              go_wp2_with fail
              refine (fld_any (.site) bs _).mono ?_
              rintro e w' ⟨rfl, rfl⟩
              unfold fldT fldO
              go_wp2_with fail
              refine (itoa_any2 _ _ HOK.out.2.1 (HT.out.keep0 HIX.out.1)).mono ?_
              rintro e w5 ⟨rfl, hk5⟩
              have how5 := hk5.owns HOW.out (by simp)
              obtain ⟨x, hx⟩ : ∃ x, x = itB s.site := ⟨_, rfl⟩
              rw [← hx]
              obtain ⟨v2, w6, hap, hpost⟩ := str_append (W := w5) x how5 (by have := HIX.out.2.2.2.2; have := hk5.size; omega) (by rw [hln]; omega)
              have hmo := Words.more HIX.out hk5 how5 hpost
              obtain ⟨ad7, cap7, hv7⟩ := (SlAt.of_owns hmo.1).empty
              rw [List.length_append, hln, List.length_singleton] at hv7
              subst hv7
              have HMO := Lib.hid (show Words lb (.slice ad7 (j + 1 + 1) cap7) (tw :: ((tabF (i + 1)).take (j + 1)).map (fW s)) w6 ∧ SayI W B bs bh lb s (.slice ad1 nd cap1) (.slice ad2 nb cap2) i w6 from by
                rw [HTK.out, show fW s (.site) = x from hx.symm]; exact hmo)
              clear hmo hpost how5 hx
              go_wp2_with (with_reducible refine park_append 40 45 _ rfl ?_)
              refine wpList_append_eq rfl (.tmp 40) (.tmp 45) 100 rfl rfl rfl hap ?_
              go_wp2
              go_roundw
              case rel => exact ⟨j + 1, by go_num, by have := HJM.out; omega, HMO.out.1, HMO.out.2⟩
              case measure => have := HJM.out; simp [intOf]; omega
            case peer =>
              simp only [fldV] at hfc
              have t1 := ta_ii
              have p0 : wx.cell? ⟨bs, 2, none⟩ = some (.int .i64 s.peer) := cell_of_block HIX.out.2.2.1 2
              go_wp2_with fail
              refine (fld_any (.peer) bs _).mono ?_
              rintro e w' ⟨rfl, rfl⟩
              unfold fldT fldO
              go_wp2_with fail
              refine (itoa_any2 _ _ HOK.out.2.2.1 (HT.out.keep0 HIX.out.1)).mono ?_
              rintro e w5 ⟨rfl, hk5⟩
              have how5 := hk5.owns HOW.out (by simp)
              obtain ⟨x, hx⟩ : ∃ x, x = itB s.peer := ⟨_, rfl⟩
              rw [← hx]
              obtain ⟨v2, w6, hap, hpost⟩ := str_append (W := w5) x how5 (by have := HIX.out.2.2.2.2; have := hk5.size; omega) (by rw [hln]; omega)
              have hmo := Words.more HIX.out hk5 how5 hpost
              obtain ⟨ad7, cap7, hv7⟩ := (SlAt.of_owns hmo.1).empty
              rw [List.length_append, hln, List.length_singleton] at hv7
              subst hv7
              have HMO := Lib.hid (show Words lb (.slice ad7 (j + 1 + 1) cap7) (tw :: ((tabF (i + 1)).take (j + 1)).map (fW s)) w6 ∧ SayI W B bs bh lb s (.slice ad1 nd cap1) (.slice ad2 nb cap2) i w6 from by
                rw [HTK.out, show fW s (.peer) = x from hx.symm]; exact hmo)
              clear hmo hpost how5 hx
              go_wp2_with (with_reducible refine park_append 40 45 _ rfl ?_)
              refine wpList_append_eq rfl (.tmp 40) (.tmp 45) 100 rfl rfl rfl hap ?_
              go_wp2
              go_roundw
              case rel => exact ⟨j + 1, by go_num, by have := HJM.out; omega, HMO.out.1, HMO.out.2⟩
              case measure => have := HJM.out; simp [intOf]; omega
            case «at» =>
              simp only [fldV] at hfc
              have t1 := ta_ii
              have p0 : wx.cell? ⟨bs, 4, none⟩ = some (.int .i64 s.at_) := cell_of_block HIX.out.2.2.1 4
              go_wp2_with fail
              refine (fld_any (.at) bs _).mono ?_
              rintro e w' ⟨rfl, rfl⟩
              unfold fldT fldO
              go_wp2_with fail
              refine (itoa_any2 _ _ HOK.out.2.2.2.2.1 (HT.out.keep0 HIX.out.1)).mono ?_
              rintro e w5 ⟨rfl, hk5⟩
              have how5 := hk5.owns HOW.out (by simp)
              obtain ⟨x, hx⟩ : ∃ x, x = itB s.at_ := ⟨_, rfl⟩
              rw [← hx]
              obtain ⟨v2, w6, hap, hpost⟩ := str_append (W := w5) x how5 (by have := HIX.out.2.2.2.2; have := hk5.size; omega) (by rw [hln]; omega)
              have hmo := Words.more HIX.out hk5 how5 hpost
              obtain ⟨ad7, cap7, hv7⟩ := (SlAt.of_owns hmo.1).empty
              rw [List.length_append, hln, List.length_singleton] at hv7
              subst hv7
              have HMO := Lib.hid (show Words lb (.slice ad7 (j + 1 + 1) cap7) (tw :: ((tabF (i + 1)).take (j + 1)).map (fW s)) w6 ∧ SayI W B bs bh lb s (.slice ad1 nd cap1) (.slice ad2 nb cap2) i w6 from by
                rw [HTK.out, show fW s (.at) = x from hx.symm]; exact hmo)
              clear hmo hpost how5 hx
              go_wp2_with (with_reducible refine park_append 40 45 _ rfl ?_)
              refine wpList_append_eq rfl (.tmp 40) (.tmp 45) 100 rfl rfl rfl hap ?_
              go_wp2
              go_roundw
              case rel => exact ⟨j + 1, by go_num, by have := HJM.out; omega, HMO.out.1, HMO.out.2⟩
              case measure => have := HJM.out; simp [intOf]; omega
            case num =>
              simp only [fldV] at hfc
              have t1 := ta_ii
              have p0 : wx.cell? ⟨bs, 5, none⟩ = some (.int .i64 s.n) := cell_of_block HIX.out.2.2.1 5
              go_wp2_with fail
              refine (fld_any (.num) bs _).mono ?_
              rintro e w' ⟨rfl, rfl⟩
              unfold fldT fldO
              go_wp2_with fail
              refine (itoa_any2 _ _ HOK.out.2.2.2.2.2.1 (HT.out.keep0 HIX.out.1)).mono ?_
              rintro e w5 ⟨rfl, hk5⟩
              have how5 := hk5.owns HOW.out (by simp)
              obtain ⟨x, hx⟩ : ∃ x, x = itB s.n := ⟨_, rfl⟩
              rw [← hx]
              obtain ⟨v2, w6, hap, hpost⟩ := str_append (W := w5) x how5 (by have := HIX.out.2.2.2.2; have := hk5.size; omega) (by rw [hln]; omega)
              have hmo := Words.more HIX.out hk5 how5 hpost
              obtain ⟨ad7, cap7, hv7⟩ := (SlAt.of_owns hmo.1).empty
              rw [List.length_append, hln, List.length_singleton] at hv7
              subst hv7
              have HMO := Lib.hid (show Words lb (.slice ad7 (j + 1 + 1) cap7) (tw :: ((tabF (i + 1)).take (j + 1)).map (fW s)) w6 ∧ SayI W B bs bh lb s (.slice ad1 nd cap1) (.slice ad2 nb cap2) i w6 from by
                rw [HTK.out, show fW s (.num) = x from hx.symm]; exact hmo)
              clear hmo hpost how5 hx
              go_wp2_with (with_reducible refine park_append 40 45 _ rfl ?_)
              refine wpList_append_eq rfl (.tmp 40) (.tmp 45) 100 rfl rfl rfl hap ?_
              go_wp2
              go_roundw
              case rel => exact ⟨j + 1, by go_num, by have := HJM.out; omega, HMO.out.1, HMO.out.2⟩
              case measure => have := HJM.out; simp [intOf]; omega
            case text =>
              simp only [fldV] at hfc
              have t1 := ta_si
              have t2 := ta_ss
              have p0 : wx.cell? ⟨bs, 6, none⟩ = some (.string s.text) := cell_of_block HIX.out.2.2.1 6
              go_wp2_with fail
              refine (fld_any (.text) bs _).mono ?_
              rintro e w' ⟨rfl, rfl⟩
              unfold fldT fldO
              go_wp2_with fail
              refine (quote_any _ _ (by have := HSM.out.1; omega) (HT.out.keep0 HIX.out.1).1).mono ?_
              rintro e w5 ⟨rfl, hk5⟩
              have how5 := hk5.owns HOW.out (by simp)
              obtain ⟨x, hx⟩ : ∃ x, x = quo s.text := ⟨_, rfl⟩
              rw [← hx]
              obtain ⟨v2, w6, hap, hpost⟩ := str_append (W := w5) x how5 (by have := HIX.out.2.2.2.2; have := hk5.size; omega) (by rw [hln]; omega)
              have hmo := Words.more HIX.out hk5 how5 hpost
              obtain ⟨ad7, cap7, hv7⟩ := (SlAt.of_owns hmo.1).empty
              rw [List.length_append, hln, List.length_singleton] at hv7
              subst hv7
              have HMO := Lib.hid (show Words lb (.slice ad7 (j + 1 + 1) cap7) (tw :: ((tabF (i + 1)).take (j + 1)).map (fW s)) w6 ∧ SayI W B bs bh lb s (.slice ad1 nd cap1) (.slice ad2 nb cap2) i w6 from by
                rw [HTK.out, show fW s (.text) = x from hx.symm]; exact hmo)
              clear hmo hpost how5 hx
              go_wp2_with (with_reducible refine park_append 50 55 _ rfl ?_)
              refine wpList_append_eq rfl (.tmp 50) (.tmp 55) 100 rfl rfl rfl hap ?_
              go_wp2
              go_roundw
              case rel => exact ⟨j + 1, by go_num, by have := HJM.out; omega, HMO.out.1, HMO.out.2⟩
              case measure => have := HJM.out; simp [intOf]; omega
            case data =>
              simp only [fldV] at hfc
              have t1 := ta_di
              have t2 := ta_ds
              have t3 := ta_dd
              have hcv := conv_bsl (by have := HRD.out.2.keep0 HIX.out.1; rw [← HND.out.2] at this ⊢; exact this)
              have p0 : wx.cell? ⟨bs, 8, none⟩ = some (.slice ad2 nb cap2) := cell_of_block HIX.out.2.2.1 8
              go_wp2_with fail
              refine (fld_any (.data) bs _).mono ?_
              rintro e w' ⟨rfl, rfl⟩
              unfold fldT fldO
              go_wp2_with fail
              refine (quote_any _ _ (by have := HSM.out.2.1; omega) (HT.out.keep0 HIX.out.1).1).mono ?_
              rintro e w5 ⟨rfl, hk5⟩
              have how5 := hk5.owns HOW.out (by simp)
              obtain ⟨x, hx⟩ : ∃ x, x = quo s.data := ⟨_, rfl⟩
              rw [← hx]
              obtain ⟨v2, w6, hap, hpost⟩ := str_append (W := w5) x how5 (by have := HIX.out.2.2.2.2; have := hk5.size; omega) (by rw [hln]; omega)
              have hmo := Words.more HIX.out hk5 how5 hpost
              obtain ⟨ad7, cap7, hv7⟩ := (SlAt.of_owns hmo.1).empty
              rw [List.length_append, hln, List.length_singleton] at hv7
              subst hv7
              have HMO := Lib.hid (show Words lb (.slice ad7 (j + 1 + 1) cap7) (tw :: ((tabF (i + 1)).take (j + 1)).map (fW s)) w6 ∧ SayI W B bs bh lb s (.slice ad1 nd cap1) (.slice ad2 nb cap2) i w6 from by
                rw [HTK.out, show fW s (.data) = x from hx.symm]; exact hmo)
              clear hmo hpost how5 hx
              go_wp2_with (with_reducible refine park_append 60 66 _ rfl ?_)
              refine wpList_append_eq rfl (.tmp 60) (.tmp 66) 100 rfl rfl rfl hap ?_
              go_wp2
              go_roundw
              case rel => exact ⟨j + 1, by go_num, by have := HJM.out; omega, HMO.out.1, HMO.out.2⟩
              case measure => have := HJM.out; simp [intOf]; omega
          · obtain rfl : j = fl := by omega
            have g1 := dec_lt_f (show ¬ (j : Int) < (j : Int) by omega)
            have g2 := dec_ltn_f hlt2
            have HTF := Lib.hid (show (tabF (i + 1)).take j = tabF (i + 1) from List.take_of_length_le (by rw [← HFL.out]; omega))
            clear hlt2 q2
            by_cases h6 : i + 1 = 6
            · obtain rfl : i = 5 := by omega
              have r3b : wx.cell? ⟨bh, 3, none⟩ = some (.func (.func 79) #[] #[]) := cell_of_block HIX.out.2.2.2.1 3
              have nn : ∀ w, (binOp .neq 111 (.func (.func 79) #[] #[]) .nilFunc).run Tryz.prog w = .ok (.bool true) w := fun _ => by kernel_rfl
              have p7 : wx.cell? ⟨bs, 7, none⟩ = some (.slice ad1 nd cap1) := cell_of_block HIX.out.2.2.1 7
              obtain rfl : j = 0 := HFL.out
              have HOW6 := Lib.hid (show Words lb (.slice ad5 (0 + 1) cap5) [tw] wx from HOW.out)
              clear h6
              go_wp2_with fail
              refine (fdraws_any bs _).mono ?_
              rintro e w' ⟨rfl, rfl⟩
              go_upto_region 22 with (fail)
              clear r3b nn p7
              have hndz : nd ≤ 100000 := by rw [HND.out.1]; exact HSM.out.2.2
              go_loopw [6, 78] (fun lv jv wy => ∃ m : Nat, jv = .int .i64 m ∧ m ≤ nd ∧ Words lb lv (tw :: (s.draws.take m).map itB) wy ∧ SayI W B bs bh lb s (.slice ad1 nd cap1) (.slice ad2 nb cap2) 5 wy) (fun _ jv _ => nd - (intOf jv).toNat)
              case atStart => exact ⟨0, rfl, Nat.zero_le _, HOW6.out, HIX.out⟩
              case round =>
                rename World => wy
                obtain ⟨m, rfl, hm, how2, hix2⟩ := hrel
                have HOW2 := Lib.hid how2
                have HIX2 := Lib.hid hix2
                obtain ⟨ad8, cap8, hlv⟩ := (SlAt.of_owns how2).empty
                have hln2 : (tw :: (s.draws.take m).map itB).length = m + 1 := by
                  have := HND.out.1
                  simp
                  omega
                rw [hln2] at hlv
                subst hlv
                clear how2 hix2
                by_cases hlt3 : m < nd
                · have HJM := Lib.hid hlt3
                  have g3 := dec_lt_t (show (m : Int) < (nd : Int) by omega)
                  have g4 := dec_ltn_t hlt3
                  have hmd : m < s.draws.length := by rw [← HND.out.1]; exact hlt3
                  have hsl : SlAt wy (.slice ad1 nd cap1) nd (intsV s.draws) := by have := HRD.out.1.keep0 HIX2.out.1; rw [← HND.out.1] at this; exact this
                  obtain ⟨gb, off, cp, e, hc⟩ := hsl.at_ (by omega)
                  injection e with e1 e2 e3
                  subst e1
                  clear e2 e3
                  have hcx := hc m (.int .i64 (s.draws[m])) (by unfold intsV; rw [List.getElem?_map, List.getElem?_eq_getElem hmd]; rfl)
                  have htk : s.draws.take (m + 1) = s.draws.take m ++ [s.draws[m]] := by rw [List.take_add_one, List.getElem?_eq_getElem hmd]; rfl
                  have hI : I64 s.draws[m] := HOK.out.2.2.2.2.2.2 _ (List.getElem_mem hmd)
                  generalize s.draws[m] = y at hcx htk hI
                  have HTK := Lib.hid (show tw :: (s.draws.take (m + 1)).map itB = (tw :: (s.draws.take m).map itB) ++ [itB y] by rw [htk, List.map_append]; rfl)
                  clear htk hmd hlt3 hc hsl
                  go_wp2_with fail
                  refine (itoa_any2 _ _ hI (HT.out.keep0 HIX2.out.1)).mono ?_
                  rintro e w5 ⟨rfl, hk5⟩
                  have how5 := hk5.owns HOW2.out (by simp)
                  obtain ⟨x, hx⟩ : ∃ x, x = itB y := ⟨_, rfl⟩
                  rw [← hx]
                  obtain ⟨v2, w6, hap, hpost⟩ := str_append (W := w5) x how5 (by have := HIX2.out.2.2.2.2; have := hk5.size; omega) (by rw [hln2]; omega)
                  have hmo := Words.more HIX2.out hk5 how5 hpost
                  obtain ⟨ad7, cap7, hv7⟩ := (SlAt.of_owns hmo.1).empty
                  rw [List.length_append, hln2, List.length_singleton] at hv7
                  subst hv7
                  have HMO := Lib.hid (show Words lb (.slice ad7 (m + 1 + 1) cap7) (tw :: (s.draws.take (m + 1)).map itB) w6 ∧ SayI W B bs bh lb s (.slice (some ⟨gb, off, none⟩) nd cap1) (.slice ad2 nb cap2) 5 w6 from by
                    rw [HTK.out, show itB y = x from hx.symm]; exact hmo)
                  clear hmo hpost how5 hx hI
                  go_wp2_with (with_reducible refine park_append 82 85 _ rfl ?_)
                  refine wpList_append_eq rfl (.tmp 82) (.tmp 85) 100 rfl rfl rfl hap ?_
                  go_wp2
                  go_roundw
                  case rel => exact ⟨m + 1, by go_num, by have := HJM.out; omega, HMO.out.1, HMO.out.2⟩
                  case measure => have := HJM.out; simp [intOf]; omega
                · obtain rfl : m = nd := by omega
                  have g3 := dec_lt_f (show ¬ (m : Int) < (m : Int) by omega)
                  have g4 := dec_ltn_f hlt3
                  have hsw : tw :: (s.draws.take m).map itB = sayW (5 + 1) s := by
                    rw [List.take_of_length_le (by have := HND.out.1; omega), HTW.out]
                    rfl
                  have HSO := Lib.hid (sayO_at (s := s) (i := 5) (by decide) HKD.out)
                  have HOW9 := Lib.hid (show Words lb (.slice ad8 (m + 1) cap8) (sayW (5 + 1) s) wy by rw [← hsw]; exact HOW2.out)
                  have hln9 : (sayW (5 + 1) s).length = m + 1 := by rw [← hsw]; exact hln2
                  clear hlt3 hsw
                  go_wp2_with fail
                  refine (join_own HOW9.out (by omega) (by have := sayW_sizes (k := 5 + 1) HOK.out HSM.out; omega) (by omega)).mono ?_
                  rintro e w7 ⟨rfl, hk7⟩
                  have HK7 := Lib.hid (HIX2.out.1.trans0 hk7)
                  clear hk7
                  generalize joinB (sayW (5 + 1) s) = x at HSO ⊢
                  go_wp2
                  go_ret2
                  exact ⟨by rw [HSO.out]; rfl, HK7.out⟩
            · have r3b : wx.cell? ⟨bh, 3, none⟩ = some .nilFunc := by
                have h := cell_of_block HIX.out.2.2.2.1 3
                rw [h]
                show some (tabR (i + 1)) = _
                unfold tabR
                rw [if_neg h6]
              have nn : ∀ w, (binOp .neq 111 .nilFunc .nilFunc).run Tryz.prog w = .ok (.bool false) w := fun _ => by kernel_rfl
              have hsw : tw :: ((tabF (i + 1)).take j).map (fW s) = sayW (i + 1) s := by
                rw [HTF.out, HTW.out]
                unfold sayW
                rw [if_neg h6]
                simp
              have HSO := Lib.hid (sayO_at (s := s) hlt HKD.out)
              have HOW9 := Lib.hid (show Words lb (.slice ad5 (j + 1) cap5) (sayW (i + 1) s) wx by rw [← hsw]; exact HOW.out)
              have hln9 : (sayW (i + 1) s).length = j + 1 := by rw [← hsw]; exact hln
              clear h6 hsw
              go_wp2_with fail
              refine (join_own HOW9.out (by omega) (by have := sayW_sizes (k := i + 1) HOK.out HSM.out; omega) (by omega)).mono ?_
              rintro e w7 ⟨rfl, hk7⟩
              have HK7 := Lib.hid (HIX.out.1.trans0 hk7)
              clear hk7
              generalize joinB (sayW (i + 1) s) = x at HSO ⊢
              go_wp2
              go_ret2
              exact ⟨by rw [HSO.out]; rfl, HK7.out⟩
      · have g3 : (((i : Int) + 1) != s.kind) = true := by simp; omega
        have hnx := Lib.hid (show ∀ k, k < i + 1 → s.kind ≠ (k + 1 : Nat) from fun k hk' => by
          by_cases hki : k < i
          · exact HNO.out k hki
          · obtain rfl : k = i := by omega
            exact hk)
        clear hk
        go_wp2
        go_roundw
        case rel => exact ⟨i + 1, by go_num, by omega, hnx.out, HK2.out, HS2.out, HSB2.out⟩
        case measure => simp [intOf]; omega
    · have g1 := dec_lt_f (show ¬ (i : Int) < 14 by omega)
      have g2 := dec_ltn_f hlt
      have HSO := Lib.hid (sayO_no (s := s) (fun k hk => HNO.out k (by omega)))
      clear hlt
      go_wp2
      go_ret2
      exact ⟨by rw [HSO.out]; rfl, HKR.out⟩
end Go.Proofs.YtbidppjhenfjdaaGreatDoor
namespace Go.Proofs.YtbidppjhenfjdaaGreatDoor
open Go.RowKit
set_option linter.unusedVariables false
set_option linter.unusedSimpArgs false

/-- The text of steps. -/
def prn : List Stp → Option ByteArray
  | [] => some ByteArray.empty
  | s :: L => match sayO s with
    | none => none
    | some a => (prn L).map fun r => a ++ ⟨#[10]⟩ ++ r
def prnV : Option ByteArray → Value
  | some b => .tuple #[.string b, .int .i64 0]
  | none => .tuple #[.string ByteArray.empty, .int .i64 19]
theorem sayO_size {s : Stp} {a : ByteArray} (h : StpOk s) (hs : StpSmall s) (e : sayO s = some a) : a.size ≤ 6000000 := by
  unfold sayO at e
  split at e
  · injection e with e
    subst e
    have h1 := join_le (sayW s.kind.toNat s)
    have h2 := sayW_sizes (k := s.kind.toNat) h hs
    show (Lib.join ((sayW s.kind.toNat s).map (·.data.toList)) [32]).toArray.size ≤ _
    simp only [List.size_toArray]
    omega
  · cases e
/-- Steps that may be. -/
def StpsOk (L : List Stp) : Prop := ∀ s ∈ L, StpOk s ∧ StpSmall s
/-- A step of a list that is read. -/
theorem Steps.elem {W : World} {v : Value} {L : List Stp} (h : Steps W v L) (hn : L.length ≠ 0) : ∃ b off cap, v = .slice (some ⟨b, off, none⟩) L.length cap ∧ ∀ k (hk : k < L.length), ∃ ad1 cap1 ad2 cap2, StRd W L[k] (.slice ad1 L[k].draws.length cap1) (.slice ad2 L[k].data.size cap2) ∧
    ∀ j u, (stV L[k] (.slice ad1 L[k].draws.length cap1) (.slice ad2 L[k].data.size cap2))[j]? = some u → W.cell? ⟨b, off + k * 9 + j, none⟩ = some u := by
  obtain ⟨ad, cap, rfl, h1, _⟩ := h
  obtain ⟨b, off, rfl, hc⟩ := h1 hn
  refine ⟨b, off, cap, rfl, fun k hk => ?_⟩
  obtain ⟨dv, bv, hr, hu⟩ := hc k L[k] (List.getElem?_eq_getElem hk)
  obtain ⟨ad1, cap1, h3⟩ := hr.1.empty
  obtain ⟨ad2, cap2, h4⟩ := hr.2.empty
  subst h3
  subst h4
  exact ⟨ad1, cap1, ad2, cap2, hr, fun j u hj => by rw [Nat.add_assoc]; exact hu j u hj⟩
theorem Steps.slice {W : World} {v : Value} {L : List Stp} (h : Steps W v L) : ∃ ad cap, v = .slice ad L.length cap := by
  obtain ⟨ad, cap, rfl, _⟩ := h
  exact ⟨ad, cap, rfl⟩

set_option maxHeartbeats 16000000 in
set_option maxRecDepth 100000 in
theorem print_any (v : Value) (L : List Stp) (W : World) (h : Steps W v L) (hok : StpsOk L) (hn : L.length ≤ 100000) (hT : TQ W) :
    Calls Tryz.prog 12 #[v] W fun e W' => e = .returned (prnV (prn L)) ∧ Keep [] W W' := by
  have HST := Lib.hid h
  have HOK := Lib.hid hok
  have HT := Lib.hid hT
  obtain ⟨ad, cap, hv⟩ := h.slice
  subst hv
  clear h hok hT
  obtain ⟨n, hnl⟩ : ∃ n, n = L.length := ⟨_, rfl⟩
  rw [← hnl] at HST hn ⊢
  have HN := Lib.hid hnl
  clear hnl
  go_enter Tryz.func12, Tryz.ntmps12
  go_upto_region 3 with (fail)
  obtain ⟨b, hb⟩ : ∃ b, b = W.heap.size := ⟨_, rfl⟩
  have hb1 := World.alloc_heap_new W (.cells #[.pointer none, .slice none 0 0] 77)
  have HB1 := Lib.hid (show BufAt (W.alloc (.cells #[.pointer none, .slice none 0 0] 77)) b (b + 1) ByteArray.empty from ⟨_, _, by rw [hb]; exact hb1, .inl rfl, World.ownsRow_nil _ _ _ _, by omega⟩)
  have HK1 := Lib.hid ((Keep.refl [] W).alloc (.cells #[.pointer none, .slice none 0 0] 77))
  have HBW := Lib.hid hb
  rw [← hb]
  clear hb hb1
  go_loopw [11] (fun iv wr => ∃ (k : Nat) (t : ByteArray), iv = .int .i64 k ∧ k ≤ n ∧ prn L = (prn (L.drop k)).map (t ++ ·) ∧ t.size ≤ k * 6000001 ∧ Keep [] W wr ∧ BufAt wr b (b + 1) t) (fun iv _ => n - (intOf iv).toNat)
  case atStart => exact ⟨0, ByteArray.empty, rfl, Nat.zero_le _, by simp, Nat.zero_le _, HK1.out, HB1.out⟩
  case round =>
    rename World => wr
    obtain ⟨k, t, rfl, hk, hpr, htz, hkr, hbu⟩ := hrel
    have HPR := Lib.hid hpr
    have HKR := Lib.hid hkr
    have HBU := Lib.hid hbu
    clear hpr hkr hbu HB1 HK1
    by_cases hlt : k < n
    · have HLT := Lib.hid hlt
      have g1 := dec_lt_t (show (k : Int) < (n : Int) by omega)
      have g2 := dec_ltn_t hlt
      have hkL : k < L.length := by rw [← HN.out]; exact hlt
      obtain ⟨gb, off, cp, e, hel⟩ := Steps.elem (by have := HST.out.keep0 HKR.out; exact this) (by omega)
      injection e with e1 e2 e3
      subst e1
      clear e2 e3
      obtain ⟨ad1, cap1, ad2, cap2, hrd, hcl⟩ := hel k hkL
      have hok1 := HOK.out _ (List.getElem_mem hkL)
      have hdr := List.drop_eq_getElem_cons hkL
      generalize L[k] = s at hrd hcl hok1 hdr
      have c0 : wr.cell? ⟨gb, off + k * 9, none⟩ = some (.int .i64 s.kind) := hcl 0 _ rfl
      have c1 : wr.cell? ⟨gb, off + k * 9 + 1, none⟩ = some (.int .i64 s.site) := hcl 1 _ rfl
      have c2 : wr.cell? ⟨gb, off + k * 9 + 2, none⟩ = some (.int .i64 s.peer) := hcl 2 _ rfl
      have c3 : wr.cell? ⟨gb, off + k * 9 + 3, none⟩ = some (.int .i64 s.unit) := hcl 3 _ rfl
      have c4 : wr.cell? ⟨gb, off + k * 9 + 4, none⟩ = some (.int .i64 s.at_) := hcl 4 _ rfl
      have c5 : wr.cell? ⟨gb, off + k * 9 + 5, none⟩ = some (.int .i64 s.n) := hcl 5 _ rfl
      have c6 : wr.cell? ⟨gb, off + k * 9 + 6, none⟩ = some (.string s.text) := hcl 6 _ rfl
      have c7 : wr.cell? ⟨gb, off + k * 9 + 7, none⟩ = some (.slice ad1 s.draws.length cap1) := hcl 7 _ rfl
      have c8 : wr.cell? ⟨gb, off + k * 9 + 8, none⟩ = some (.slice ad2 s.data.size cap2) := hcl 8 _ rfl
      have HRD := Lib.hid hrd
      have HOK1 := Lib.hid hok1
      have HSZ := Lib.hid (fun a (e : sayO s = some a) => sayO_size hok1.1 hok1.2 e)
      have HDR := Lib.hid hdr
      clear hel hcl hrd hok1 hdr hlt hkL
      obtain ⟨nd, hnd⟩ : ∃ nd, nd = s.draws.length := ⟨_, rfl⟩
      obtain ⟨nb, hnb⟩ : ∃ nb, nb = s.data.size := ⟨_, rfl⟩
      rw [← hnd] at c7 HRD
      rw [← hnb] at c8 HRD
      clear hnd hnb
      go_upto_region 5 with (fail)
      obtain ⟨bs, hbs⟩ : ∃ bs, bs = wr.heap.size := ⟨_, rfl⟩
      obtain ⟨w2, hw2⟩ : ∃ w2, w2 = wr.alloc (.cells #[.int .i64 s.kind, .int .i64 s.site, .int .i64 s.peer, .int .i64 s.unit, .int .i64 s.at_, .int .i64 s.n, .string s.text, .slice ad1 nd cap1, .slice ad2 nb cap2] 40) := ⟨_, rfl⟩
      have hk2 : Keep [] wr w2 := by rw [hw2]; exact (Keep.refl _ _).alloc _
      have hb2 : w2.heap[bs]? = some (.cells #[.int .i64 s.kind, .int .i64 s.site, .int .i64 s.peer, .int .i64 s.unit, .int .i64 s.at_, .int .i64 s.n, .string s.text, .slice ad1 nd cap1, .slice ad2 nb cap2] 40 (0, 0)) := by rw [hw2, hbs]; exact World.alloc_heap_new wr _
      rw [← hw2, ← hbs]
      have d0 := cell_of_block hb2 0
      have d1 := cell_of_block hb2 1
      have d2 := cell_of_block hb2 2
      have d3 := cell_of_block hb2 3
      have d4 := cell_of_block hb2 4
      have d5 := cell_of_block hb2 5
      have d6 := cell_of_block hb2 6
      have d7 := cell_of_block hb2 7
      have d8 := cell_of_block hb2 8
      simp at d0 d1 d2 d3 d4 d5 d6 d7 d8
      have HK2 := Lib.hid (HKR.out.trans0 hk2)
      have HBU2 := Lib.hid (HBU.out.keep hk2)
      have HRD2 := Lib.hid (HRD.out.keep0 hk2)
      clear hw2 hbs hk2 hb2 c0 c1 c2 c3 c4 c5 c6 c7 c8
      go_wp2_with fail
      refine (say_any s (.slice ad1 nd cap1) (.slice ad2 nb cap2) _ HRD2.out HOK1.out.1 HOK1.out.2 (HT.out.keep0 HK2.out)).mono ?_
      rintro e w3 ⟨rfl, hk3⟩
      have HK3 := Lib.hid (HK2.out.trans0 hk3)
      have HBU3 := Lib.hid (HBU2.out.keep hk3)
      clear hk3 d0 d1 d2 d3 d4 d5 d6 d7 d8
      obtain ⟨o, ho⟩ : ∃ o, o = sayO s := ⟨_, rfl⟩
      rw [← ho] at HSZ ⊢
      have HO := Lib.hid ho
      clear ho
      cases o with
      | none =>
        have HPN := Lib.hid (show prn L = none by
          rw [HPR.out, HDR.out]
          unfold prn
          rw [← HO.out]
          rfl)
        unfold sayV
        go_wp2
        go_ret2
        exact ⟨by rw [HPN.out]; rfl, HK3.out⟩
      | some a =>
        have hsz := HSZ.out a rfl
        have HPN := Lib.hid (show prn L = (prn (L.drop (k + 1))).map ((t ++ (a ++ ⟨#[10]⟩)) ++ ·) by
          rw [HPR.out, HDR.out]
          conv => lhs; unfold prn
          rw [← HO.out, Option.map_map]
          congr 1
          funext r
          simp [ByteArray.append_assoc])
        have hz5 : (a ++ (⟨#[10]⟩ : ByteArray)).size ≤ 6000001 := by
          rw [ByteArray.size_append]
          show a.size + 1 ≤ _
          omega
        have hc1 : ∀ W, (Op.stringOp .add a (⟨#[10]⟩ : ByteArray)).run Tryz.prog W = .ok (.string (a ++ (⟨#[10]⟩ : ByteArray))) W := fun W => Go.run_string_add_sum W _ _ (by show a.size + 1 ≤ _; omega)
        generalize (a ++ (⟨#[10]⟩ : ByteArray)) = x at HPN hz5 hc1
        unfold sayV
        go_wp2_with fail
        clear hc1 g1 g2 hsz
        refine (writeStr_ty b (b + 1) t x _ HBU3.out (by omega) (by omega) (by have := HK3.out.size; have := HBW.out; have := HBU3.out; obtain ⟨_, _, hq, _⟩ := this; have := lt_of_block hq; omega)).mono ?_
        rintro e w4 ⟨⟨q, rfl⟩, hw4⟩
        have HK4 := Lib.hid (hw4.low HK3.out (by have := HBW.out; omega) (by omega))
        have HBU4 := Lib.hid hw4.1
        have hz7 : (t ++ x).size ≤ (k + 1) * 6000001 := by rw [ByteArray.size_append]; omega
        clear hw4
        go_wp2
        go_roundw
        case rel => exact ⟨k + 1, _, by go_num, by have := HLT.out; omega, HPN.out, hz7, HK4.out, HBU4.out⟩
        case measure => have := HLT.out; simp [intOf]; omega
    · obtain rfl : k = n := by omega
      have g1 := dec_lt_f (show ¬ (k : Int) < (k : Int) by omega)
      have g2 := dec_ltn_f hlt
      have HPN := Lib.hid (show prn L = some t by
        rw [HPR.out, List.drop_of_length_le (by rw [← HN.out]; omega)]
        show some (t ++ ByteArray.empty) = _
        rw [ByteArray.append_empty])
      clear hlt
      go_wp2_with fail
      refine (Tryz.Builder_String_any_k b b _ _ HBU.out.builder (by obtain ⟨_, _, hq, _⟩ := HBU.out; have := lt_of_block hq; omega)).mono ?_
      rintro r W6 ⟨rfl, _, hb, _⟩
      have HK6 := Lib.hid (keep_below HKR.out hb (by have := HBW.out; omega))
      clear hb
      go_wp2
      go_ret2
      exact ⟨by rw [HPN.out]; rfl, HK6.out⟩
end Go.Proofs.YtbidppjhenfjdaaGreatDoor
namespace Go.Proofs.YtbidppjhenfjdaaGreatDoor
open Go.RowKit
set_option linter.unusedVariables false
set_option linter.unusedSimpArgs false

/-- A word or a number. -/
inductive Tok where
  | str (b : ByteArray)
  | num (n : Int)
def tokV : Tok → Value
  | .str b => .iface 9 (.string b)
  | .num n => .iface 3 (.int .i64 n)
def tokB : Tok → ByteArray
  | .str b => b
  | .num n => itB n
/-- Is a word another one than this? -/
def tokNe (x : Tok) (b : ByteArray) : Bool :=
  match x with
  | .str a => !(a == b)
  | .num _ => true
def in2 : ByteArray := ⟨#[32, 32]⟩
def in4 : ByteArray := ⟨#[32, 32, 32, 32]⟩
def gapT (x : Tok) : Bool := tokNe x in2 && tokNe x in4
def gapB : Option Tok → ByteArray
  | none => ByteArray.empty
  | some p => if gapT p = true then one 32 else ByteArray.empty
def lineG (p : Option Tok) : List Tok → ByteArray
  | [] => ByteArray.empty
  | x :: r => gapB p ++ tokB x ++ lineG (some x) r
def lineB' (L : List Tok) : ByteArray := lineG none L ++ one 10
theorem lineG_snoc : ∀ (A : List Tok) (p : Option Tok) (x : Tok), lineG p (A ++ [x]) = lineG p A ++ (gapB (A.getLast?.or p) ++ tokB x) := by
  intro A
  induction A with
  | nil => intro p x; simp [lineG]
  | cons y A ih =>
    intro p x
    rw [List.cons_append]
    unfold lineG
    rw [ih (some y) x]
    have e : ((y :: A).getLast?.or p) = (A.getLast?.or (some y)) := by
      cases A with
      | nil => rfl
      | cons z A => simp [List.getLast?_cons]
    rw [e]
    simp only [ByteArray.append_assoc]
theorem lineG_app : ∀ (A B : List Tok) (p : Option Tok), lineG p (A ++ B) = lineG p A ++ lineG (A.getLast?.or p) B := by
  intro A
  induction A with
  | nil => intro B p; simp [lineG]
  | cons y A ih =>
    intro B p
    rw [List.cons_append]
    conv => lhs; unfold lineG
    conv => rhs; lhs; unfold lineG
    rw [ih B (some y)]
    have e : ((y :: A).getLast?.or p) = (A.getLast?.or (some y)) := by
      cases A with
      | nil => rfl
      | cons z A => simp [List.getLast?_cons]
    rw [e]
    simp only [ByteArray.append_assoc]
theorem lineG_take (L : List Tok) (k : Nat) : (lineG none (L.take k)).size + 1 ≤ (lineB' L).size := by
  have h : lineG none L = lineG none (L.take k) ++ lineG ((L.take k).getLast?.or none) (L.drop k) := by
    rw [← lineG_app, List.take_append_drop]
  unfold lineB'
  rw [h, ByteArray.size_append, ByteArray.size_append, one_size]
  omega
theorem neq_iface_str {P : Program} (w : World) {t tx : TypeId} {ms : Array (String × TypeId)} (a b : ByteArray) (ht : P.underlying t = some (.interface ms)) (hc : (P.info? tx).map (·.comparable) = some true) (hx : P.underlying tx = some .string) :
    (binOp .neq t (.iface tx (.string a)) (.iface tx (.string b))).run P w = .ok (.bool (!(a == b))) w := by
  cases hi : P.info? tx with
  | none => simp [hi] at hc
  | some i =>
    have hcc : i.comparable = true := by simpa [hi] using hc
    have h : ∀ d : Nat, (Op.equalIn (d + 2) t (.iface tx (.string a)) (.iface tx (.string b))).run P w = .ok (a == b) w := fun d => by
      simp [Op.equalIn, run_underlying ht, run_underlying hx, typeInfo, hi, hcc]
    simp only [binOp]
    simp [Op.equal, Op.maxDepth, h 9998]
theorem neq_tok (x : Tok) (b : ByteArray) (W : World) : (binOp .neq 20 (tokV x) (.iface 9 (.string b))).run Tryz.prog W = .ok (.bool (tokNe x b)) W := by
  cases x with
  | str a => exact neq_iface_str W a b Tryz.underlying20 (by kernel_rfl) Tryz.underlying9
  | num n =>
    show (binOp .neq 20 (.iface 3 (.int .i64 n)) (.iface 9 (.string b))).run Tryz.prog W = .ok (.bool true) W
    kernel_rfl
theorem eqg_tok (x : Tok) (b : ByteArray) (i j : Nat) (W : World) : (eqGuard .neq 20 (.tmp i) (.tmp j) (tokV x) (.iface 9 (.string b))).run Tryz.prog W = .ok () W := by
  cases x with
  | str a =>
    show (eqGuard .neq 20 (.tmp i) (.tmp j) (.iface 9 (.string a)) (.iface 9 (.string b))).run Tryz.prog W = .ok () W
    kernel_rfl
  | num n =>
    show (eqGuard .neq 20 (.tmp i) (.tmp j) (.iface 3 (.int .i64 n)) (.iface 9 (.string b))).run Tryz.prog W = .ok () W
    kernel_rfl
theorem tk_ss (v : Value) (W : World) : (Instr.typeAssert (.iface 9 v) 20 9 true).run Tryz.prog W = .ok (.tuple #[v, .bool true]) W := by kernel_rfl
theorem tk_is (v : Value) (W : World) : (Instr.typeAssert (.iface 3 v) 20 9 true).run Tryz.prog W = .ok (.tuple #[.string ⟨#[]⟩, .bool false]) W := by kernel_rfl
theorem tk_ii (v : Value) (W : World) : (Instr.typeAssert (.iface 3 v) 20 3 true).run Tryz.prog W = .ok (.tuple #[v, .bool true]) W := by kernel_rfl

theorem WroteT.trans {b base : Nat} {t t' : ByteArray} {w w1 w2 : World} (h : WroteT b base t w w1) (k : WroteT b base t' w1 w2) : WroteT b base t' w w2 := by
  obtain ⟨_, L, hk, hL⟩ := h
  obtain ⟨hb, L', hk', hL'⟩ := k
  have hs := hk.size
  have key : ∀ x ∈ L', x ∈ L ∨ x = b ∨ w.heap.size ≤ x ∨ (base ≤ x ∧ ∃ c f, w.heap[x]? = some (.cells c 5 f)) := fun x hx => by
    rcases hL' x hx with h | h | ⟨h1, c, f, hc⟩
    · exact .inr (.inl h)
    · exact .inr (.inr (.inl (by omega)))
    · by_cases hm : x ∈ L
      · exact .inl hm
      · rcases Nat.lt_or_ge x w.heap.size with hlt | hge
        · exact .inr (.inr (.inr ⟨h1, c, f, (hk.block x hlt hm).symm.trans hc⟩))
        · exact .inr (.inr (.inl hge))
  refine ⟨hb, L ++ L', (hk.mono (L' := L ++ L') (fun x hx => .inl (by simp [hx]))).trans hk' (fun x hx => .inl (by simp [hx])), fun x hx => ?_⟩
  rcases List.mem_append.1 hx with h | h
  · exact hL x h
  · rcases key x h with h | h
    · exact hL x h
    · exact h
theorem WroteT.post {b base : Nat} {t : ByteArray} {w w1 w2 : World} (h : WroteT b base t w w1) (k : Keep [] w1 w2) : WroteT b base t w w2 := by
  obtain ⟨hb, L, hk, hL⟩ := h
  exact ⟨hb.keep k, L, hk.trans0 k, hL⟩
theorem WroteT.refl {b base : Nat} {t : ByteArray} {w : World} (h : BufAt w b base t) : WroteT b base t w w := ⟨h, [], Keep.refl _ _, by simp⟩
/-- A slice that no write into a builder touches. -/
def Apart (W : World) (b : Nat) (v : Value) (n : Nat) : Prop := n ≠ 0 → ∀ g, v.ownBlock = some g → g ≠ b ∧ ∃ c ty f, W.heap[g]? = some (.cells c ty f) ∧ ty ≠ 5
theorem SlAt.wrote {b base : Nat} {t : ByteArray} {w w' : World} {v : Value} {n : Nat} {cs : List Value} (h : SlAt w v n cs) (ha : Apart w b v n) (hw : WroteT b base t w w') : SlAt w' v n cs := by
  obtain ⟨ad, cap, rfl, h0, h1⟩ := h
  refine ⟨ad, cap, rfl, h0, fun hn => ?_⟩
  obtain ⟨g, off, rfl, hc⟩ := h1 hn
  refine ⟨g, off, rfl, fun i u hu => ?_⟩
  obtain ⟨hb, c, ty, f, hg, ht⟩ := ha hn g rfl
  have h2 := hw.at_ hg hb ht
  have h3 := hc i u hu
  rw [cell_of_block hg] at h3
  rw [cell_of_block h2]
  exact h3
theorem TQ.wrote {b base : Nat} {t : ByteArray} {w w' : World} (h : TQ w) (hq : ∀ q ∈ tqB, q < b) (hb : b < base) (hw : WroteT b base t w w') : TQ w' := by
  obtain ⟨_, L, hk, hL⟩ := hw
  refine h.keep hk (fun q hm hx => ?_)
  have h1 := hq q hm
  have h2 := h.lt q hm
  rcases hL q hx with h | h | ⟨h, _⟩ <;> omega
/-- Words that may be told. -/
def TokOk : Tok → Prop
  | .str b => b.size ≤ 1000000000
  | .num n => I64 n

set_option maxHeartbeats 16000000 in
set_option maxRecDepth 100000 in
theorem line_any (b base : Nat) (t : ByteArray) (L : List Tok) (v : Value) (W : World) (hb : BufAt W b base t) (hs : SlAt W v L.length (L.map tokV)) (ha : Apart W b v L.length) (hok : ∀ x ∈ L, TokOk x) (hn : L.length ≤ 100000) (hz : t.size + (lineB' L).size ≤ 1000000000000) (hT : TQ W) (hq : ∀ q ∈ tqB, q < b) (hbw : base ≤ W.heap.size) :
    Calls Tryz.prog 29 #[v, .pointer (some ⟨b, 0, none⟩)] W fun e W' => e = .returned (.tuple #[]) ∧ WroteT b base (t ++ lineB' L) W W' := by
  have HS := Lib.hid hs
  have HA := Lib.hid ha
  have HOK := Lib.hid hok
  have HT := Lib.hid hT
  have HQ := Lib.hid hq
  have HBB := Lib.hid (show b < base from by obtain ⟨_, _, _, _, _, h⟩ := hb; exact h)
  have HB := Lib.hid hb
  have HBW := Lib.hid hbw
  have HZ := Lib.hid hz
  obtain ⟨ad, cap, hv⟩ := hs.empty
  subst hv
  clear hs ha hok hT hq hb hbw hz
  obtain ⟨n, hnl⟩ : ∃ n, n = L.length := ⟨_, rfl⟩
  rw [← hnl] at HS HA hn ⊢
  have HN := Lib.hid hnl
  clear hnl
  go_enter Tryz.func29, Tryz.ntmps29
  go_upto_region 1 with (fail)
  go_loopw [9] (fun iv wr => ∃ k : Nat, iv = .int .i64 k ∧ k ≤ n ∧ WroteT b base (t ++ lineG none (L.take k)) W wr) (fun iv _ => n - (intOf iv).toNat)
  case atStart => exact ⟨0, rfl, Nat.zero_le _, by
    have e : t ++ lineG none (L.take 0) = t := by simp [lineG]
    rw [e]
    exact WroteT.refl HB.out⟩
  case round =>
    rename World => wr
    obtain ⟨k, rfl, hk, hwr⟩ := hrel
    have HWR := Lib.hid hwr
    have hsr := HS.out.wrote HA.out hwr
    clear hwr
    by_cases hlt : k < n
    · have HLT := Lib.hid hlt
      have g1 := dec_lt_t (show (k : Int) < (n : Int) by omega)
      have g2 := dec_ltn_t hlt
      have hkL : k < L.length := by rw [← HN.out]; exact hlt
      obtain ⟨gb, off, cp, e, hel⟩ := hsr.at_ (by omega)
      injection e with e1 e2 e3
      subst e1
      clear e2 e3
      have hx : wr.cell? ⟨gb, off + k, none⟩ = some (tokV L[k]) := hel k _ (by rw [List.getElem?_map, List.getElem?_eq_getElem hkL]; rfl)
      have htk : L.take (k + 1) = L.take k ++ [L[k]] := by rw [List.take_add_one, List.getElem?_eq_getElem hkL]; rfl
      have hokx := HOK.out _ (List.getElem_mem hkL)
      obtain ⟨t1, ht1⟩ : ∃ t1, t1 = t ++ lineG none (L.take k) := ⟨_, rfl⟩
      have hz1 : t1.size ≤ 1000000000000 := by
        have h1 := lineG_take L k
        have h2 := HZ.out
        rw [ht1, ByteArray.size_append]
        omega
      have hnx0 : t ++ lineG none (L.take (k + 1)) = t1 ++ (gapB ((L.take k).getLast?) ++ tokB L[k]) := by
        rw [htk, lineG_snoc, ht1, Option.or_none, ByteArray.append_assoc]
      rw [← ht1] at HWR
      have HOX := Lib.hid hokx
      clear ht1 htk hokx
      by_cases hk0 : k = 0
      · subst hk0
        have hgap : gapB ((L.take 0).getLast?) = ByteArray.empty := rfl
        generalize L[0] = x at hx hnx0 HOX
        rw [Nat.add_zero] at hx
        clear hel hkL hlt
        have HNX := Lib.hid (show t ++ lineG none (L.take (0 + 1)) = t1 ++ tokB x by rw [hnx0, hgap, ByteArray.empty_append])
        have HBU := Lib.hid HWR.out.1
        have HWU := HWR
        have HSW := Lib.hid (show base ≤ wr.heap.size from Nat.le_trans HBW.out HWR.out.2.choose_spec.1.size)
        clear hnx0 hgap
        cases x with
        | str a =>
          have t1' := tk_ss
          unfold tokV at hx
          have hza : a.size ≤ 1000000000 := HOX.out
          go_wp2_with fail
          refine (writeStr_ty b base t1 a _ HBU.out (by omega) (by omega) HSW.out).mono ?_
          rintro e w7 ⟨⟨q, rfl⟩, hw7⟩
          have HW7 := Lib.hid (show WroteT b base (t ++ lineG none (L.take (0 + 1))) W w7 by rw [HNX.out]; exact HWU.out.trans hw7)
          clear hw7
          go_wp2
          go_roundw
          case rel => exact ⟨0 + 1, by go_num, by have := HLT.out; omega, HW7.out⟩
          case measure => have := HLT.out; simp [intOf]; omega
        | num m =>
          have t1' := tk_is
          have t2' := tk_ii
          unfold tokV at hx
          go_wp2_with fail
          refine (itoa_any2 _ _ HOX.out (HT.out.wrote HQ.out HBB.out HWU.out)).mono ?_
          rintro e w6 ⟨rfl, hk6⟩
          have hza : (itB m).size ≤ 21 := itB_size HOX.out
          have HWV := Lib.hid (HWU.out.post hk6)
          have HSV := Lib.hid (Nat.le_trans HSW.out hk6.size)
          have hnx := HNX.out
          simp only [tokB] at hnx
          clear hk6 HNX
          obtain ⟨a, ha⟩ : ∃ a, a = itB m := ⟨_, rfl⟩
          rw [← ha] at hza hnx ⊢
          clear ha
          have HNX := Lib.hid hnx
          clear hnx
          go_wp2_with fail
          refine (writeStr_ty b base t1 a _ HWV.out.1 (by omega) (by omega) HSV.out).mono ?_
          rintro e w7 ⟨⟨q, rfl⟩, hw7⟩
          have HW7 := Lib.hid (show WroteT b base (t ++ lineG none (L.take (0 + 1))) W w7 by rw [HNX.out]; exact HWV.out.trans hw7)
          clear hw7
          go_wp2
          go_roundw
          case rel => exact ⟨0 + 1, by go_num, by have := HLT.out; omega, HW7.out⟩
          case measure => have := HLT.out; simp [intOf]; omega
      · have hkp : k - 1 < L.length := by omega
        have hp : wr.cell? ⟨gb, off + (k - 1), none⟩ = some (tokV L[k - 1]) := hel (k - 1) _ (by rw [List.getElem?_map, List.getElem?_eq_getElem hkp]; rfl)
        have hlast : (L.take k).getLast? = some L[k - 1] := by
          rw [List.getLast?_eq_getElem?, List.length_take, List.getElem?_take, if_pos (by omega), show min k L.length - 1 = k - 1 by omega, List.getElem?_eq_getElem hkp]
        rw [hlast] at hnx0
        generalize L[k - 1] = pr at hp hnx0
        generalize L[k] = x at hx hnx0 HOX
        have n2 := fun W => neq_tok pr in2 W
        have n4 := fun W => neq_tok pr in4 W
        have q2 := fun W => eqg_tok pr in2 21 22 W
        have q4 := fun W => eqg_tok pr in4 30 31 W
        unfold in2 at q2
        unfold in4 at q4
        unfold in2 at n2
        unfold in4 at n4
        have hg0 : gapB (some pr) = if (tokNe pr in2 && tokNe pr in4) = true then one 32 else ByteArray.empty := rfl
        have g3 : ((k : Int) > 0) := by omega
        have g4 := dec_lt_t (show (0 : Int) < (k : Int) by omega)
        have g5 := dec_ltn_t (show 0 < k by omega)
        have g6 : IntKind.i64.wrap ((k : Int) - 1) = ((k - 1 : Nat) : Int) := by rw [IntKind.wrap_i64]; omega
        have g7 : (((k - 1 : Nat) : Int)).toNat = k - 1 := by omega
        have g8 : k - 1 < n := by omega
        generalize tokV pr = pv at hp n2 n4 q2 q4
        clear hel hkL hkp hlast hlt
        rw [hg0] at hnx0
        unfold in2 in4 at hnx0
        generalize tokNe pr ⟨#[32, 32]⟩ = f1 at n2 hnx0
        generalize tokNe pr ⟨#[32, 32, 32, 32]⟩ = f2 at n4 hnx0
        clear hg0
        cases f1
        · have hgap : (if (false && f2) = true then one 32 else ByteArray.empty) = ByteArray.empty := rfl
          have HNX := Lib.hid (show t ++ lineG none (L.take (k + 1)) = t1 ++ tokB x by rw [hnx0, hgap, ByteArray.empty_append])
          have HBU := Lib.hid HWR.out.1
          have HWU := HWR
          have HSW := Lib.hid (show base ≤ wr.heap.size from Nat.le_trans HBW.out HWR.out.2.choose_spec.1.size)
          clear hnx0 hgap
          cases x with
          | str a =>
            have t1' := tk_ss
            unfold tokV at hx
            have hza : a.size ≤ 1000000000 := HOX.out
            go_wp2_with fail
            refine (writeStr_ty b base t1 a _ HBU.out (by omega) (by omega) HSW.out).mono ?_
            rintro e w7 ⟨⟨q, rfl⟩, hw7⟩
            have HW7 := Lib.hid (show WroteT b base (t ++ lineG none (L.take (k + 1))) W w7 by rw [HNX.out]; exact HWU.out.trans hw7)
            clear hw7
            go_wp2
            go_roundw
            case rel => exact ⟨k + 1, by go_num, by have := HLT.out; omega, HW7.out⟩
            case measure => have := HLT.out; simp [intOf]; omega
          | num m =>
            have t1' := tk_is
            have t2' := tk_ii
            unfold tokV at hx
            go_wp2_with fail
            refine (itoa_any2 _ _ HOX.out (HT.out.wrote HQ.out HBB.out HWU.out)).mono ?_
            rintro e w6 ⟨rfl, hk6⟩
            have hza : (itB m).size ≤ 21 := itB_size HOX.out
            have HWV := Lib.hid (HWU.out.post hk6)
            have HSV := Lib.hid (Nat.le_trans HSW.out hk6.size)
            have hnx := HNX.out
            simp only [tokB] at hnx
            clear hk6 HNX
            obtain ⟨a, ha⟩ : ∃ a, a = itB m := ⟨_, rfl⟩
            rw [← ha] at hza hnx ⊢
            clear ha
            have HNX := Lib.hid hnx
            clear hnx
            go_wp2_with fail
            refine (writeStr_ty b base t1 a _ HWV.out.1 (by omega) (by omega) HSV.out).mono ?_
            rintro e w7 ⟨⟨q, rfl⟩, hw7⟩
            have HW7 := Lib.hid (show WroteT b base (t ++ lineG none (L.take (k + 1))) W w7 by rw [HNX.out]; exact HWV.out.trans hw7)
            clear hw7
            go_wp2
            go_roundw
            case rel => exact ⟨k + 1, by go_num, by have := HLT.out; omega, HW7.out⟩
            case measure => have := HLT.out; simp [intOf]; omega
        · cases f2
          · have hgap : (if (true && false) = true then one 32 else ByteArray.empty) = ByteArray.empty := rfl
            have HNX := Lib.hid (show t ++ lineG none (L.take (k + 1)) = t1 ++ tokB x by rw [hnx0, hgap, ByteArray.empty_append])
            have HBU := Lib.hid HWR.out.1
            have HWU := HWR
            have HSW := Lib.hid (show base ≤ wr.heap.size from Nat.le_trans HBW.out HWR.out.2.choose_spec.1.size)
            clear hnx0 hgap
            cases x with
            | str a =>
              have t1' := tk_ss
              unfold tokV at hx
              have hza : a.size ≤ 1000000000 := HOX.out
              go_wp2_with fail
              refine (writeStr_ty b base t1 a _ HBU.out (by omega) (by omega) HSW.out).mono ?_
              rintro e w7 ⟨⟨q, rfl⟩, hw7⟩
              have HW7 := Lib.hid (show WroteT b base (t ++ lineG none (L.take (k + 1))) W w7 by rw [HNX.out]; exact HWU.out.trans hw7)
              clear hw7
              go_wp2
              go_roundw
              case rel => exact ⟨k + 1, by go_num, by have := HLT.out; omega, HW7.out⟩
              case measure => have := HLT.out; simp [intOf]; omega
            | num m =>
              have t1' := tk_is
              have t2' := tk_ii
              unfold tokV at hx
              go_wp2_with fail
              refine (itoa_any2 _ _ HOX.out (HT.out.wrote HQ.out HBB.out HWU.out)).mono ?_
              rintro e w6 ⟨rfl, hk6⟩
              have hza : (itB m).size ≤ 21 := itB_size HOX.out
              have HWV := Lib.hid (HWU.out.post hk6)
              have HSV := Lib.hid (Nat.le_trans HSW.out hk6.size)
              have hnx := HNX.out
              simp only [tokB] at hnx
              clear hk6 HNX
              obtain ⟨a, ha⟩ : ∃ a, a = itB m := ⟨_, rfl⟩
              rw [← ha] at hza hnx ⊢
              clear ha
              have HNX := Lib.hid hnx
              clear hnx
              go_wp2_with fail
              refine (writeStr_ty b base t1 a _ HWV.out.1 (by omega) (by omega) HSV.out).mono ?_
              rintro e w7 ⟨⟨q, rfl⟩, hw7⟩
              have HW7 := Lib.hid (show WroteT b base (t ++ lineG none (L.take (k + 1))) W w7 by rw [HNX.out]; exact HWV.out.trans hw7)
              clear hw7
              go_wp2
              go_roundw
              case rel => exact ⟨k + 1, by go_num, by have := HLT.out; omega, HW7.out⟩
              case measure => have := HLT.out; simp [intOf]; omega
          · have hgap : (if (true && true) = true then one 32 else ByteArray.empty) = one 32 := rfl
            have HNX := Lib.hid (show t ++ lineG none (L.take (k + 1)) = (t1 ++ one 32) ++ tokB x by rw [hnx0, hgap, ByteArray.append_assoc])
            have HSW0 := Lib.hid (show base ≤ wr.heap.size from Nat.le_trans HBW.out HWR.out.2.choose_spec.1.size)
            clear hnx0 hgap
            go_wp2_with fail
            refine (writeByte_ty b base t1 32 _ HWR.out.1 (by decide) (by omega) HSW0.out).mono ?_
            rintro e w5 ⟨rfl, hw5⟩
            have HWU := Lib.hid (HWR.out.trans hw5)
            have HBU := Lib.hid hw5.1
            have HSW := Lib.hid (show base ≤ w5.heap.size from Nat.le_trans HSW0.out hw5.2.choose_spec.1.size)
            clear hw5
            cases x with
            | str a =>
              have t1' := tk_ss
              unfold tokV at hx ⊢
              have hza : a.size ≤ 1000000000 := HOX.out
              go_wp2_with fail
              refine (writeStr_ty b base (t1 ++ one 32) a _ HBU.out (by omega) (by rw [ByteArray.size_append, one_size]; omega) HSW.out).mono ?_
              rintro e w7 ⟨⟨q, rfl⟩, hw7⟩
              have HW7 := Lib.hid (show WroteT b base (t ++ lineG none (L.take (k + 1))) W w7 by rw [HNX.out]; exact HWU.out.trans hw7)
              clear hw7
              go_wp2
              go_roundw
              case rel => exact ⟨k + 1, by go_num, by have := HLT.out; omega, HW7.out⟩
              case measure => have := HLT.out; simp [intOf]; omega
            | num m =>
              have t1' := tk_is
              have t2' := tk_ii
              unfold tokV at hx ⊢
              go_wp2_with fail
              refine (itoa_any2 _ _ HOX.out (HT.out.wrote HQ.out HBB.out HWU.out)).mono ?_
              rintro e w6 ⟨rfl, hk6⟩
              have hza : (itB m).size ≤ 21 := itB_size HOX.out
              have HWV := Lib.hid (HWU.out.post hk6)
              have HSV := Lib.hid (Nat.le_trans HSW.out hk6.size)
              have hnx := HNX.out
              simp only [tokB] at hnx
              clear hk6 HNX
              obtain ⟨a, ha⟩ : ∃ a, a = itB m := ⟨_, rfl⟩
              rw [← ha] at hza hnx ⊢
              clear ha
              have HNX := Lib.hid hnx
              clear hnx
              go_wp2_with fail
              refine (writeStr_ty b base (t1 ++ one 32) a _ HWV.out.1 (by omega) (by rw [ByteArray.size_append, one_size]; omega) HSV.out).mono ?_
              rintro e w7 ⟨⟨q, rfl⟩, hw7⟩
              have HW7 := Lib.hid (show WroteT b base (t ++ lineG none (L.take (k + 1))) W w7 by rw [HNX.out]; exact HWV.out.trans hw7)
              clear hw7
              go_wp2
              go_roundw
              case rel => exact ⟨k + 1, by go_num, by have := HLT.out; omega, HW7.out⟩
              case measure => have := HLT.out; simp [intOf]; omega
    · obtain rfl : k = n := by omega
      have g1 := dec_lt_f (show ¬ (k : Int) < (k : Int) by omega)
      have g2 := dec_ltn_f hlt
      have hz1 : (t ++ lineG none (L.take k)).size ≤ 1000000000000 := by
        have h1 := lineG_take L k
        have h2 := HZ.out
        rw [ByteArray.size_append]
        omega
      have HSW := Lib.hid (show base ≤ wr.heap.size from Nat.le_trans HBW.out HWR.out.2.choose_spec.1.size)
      have HFI := Lib.hid (show t ++ lineB' L = (t ++ lineG none (L.take k)) ++ one 10 by
        unfold lineB'
        rw [List.take_of_length_le (by rw [HN.out]; exact Nat.le_refl _), ByteArray.append_assoc])
      clear hlt hsr
      generalize t ++ lineG none (L.take k) = t1 at *
      go_wp2_with fail
      refine (writeByte_ty b base t1 10 _ HWR.out.1 (by decide) (by omega) HSW.out).mono ?_
      rintro e w5 ⟨rfl, hw5⟩
      have HWU := Lib.hid (HWR.out.trans hw5)
      clear hw5
      go_wp2
      go_end0
      exact ⟨rfl, by rw [HFI.out]; exact HWU.out⟩
end Go.Proofs.YtbidppjhenfjdaaGreatDoor
namespace Go.Proofs.YtbidppjhenfjdaaGreatDoor
open Go.RowKit
set_option linter.unusedVariables false
set_option linter.unusedSimpArgs false

section
variable {P : Program} {ops : Array Oper} {md : Region.Mode} {C : World → Prop} {Q : Exit → Act → World → Prop}

/-- An operation wants no guard, and in every world of the class leaves v and the world as it was. -/
def YieldsC (P : Program) (ops : Array Oper) (C : World → Prop) (o : Oper) (v : Value) (a : Act) : Prop :=
  Region.wanted o (yielded ops a.tmps) = true ∧ ∀ w, C w → o.wp P a w (fun a1 w1 => a1 = a.put o.dst v ∧ w1 = w) (fun _ _ _ => False)
theorem no_letsOut : ¬ LetsOut (fun _ _ _ => False) := fun ⟨_, _, h⟩ => h
/-- Where an operation ends in one act and one world. -/
theorem wp_of_ends {o : Oper} {a A : Act} {w w' : World} {K : Act → World → Prop} (h : o.wp P a w (fun a1 w1 => a1 = A ∧ w1 = w') (fun _ _ _ => False)) (hK : K A w') : o.wp P a w K Q := by
  unfold Oper.wp at *
  generalize (execOp a.eval o).run P w = r at *
  cases r with
  | ok n w1 =>
    cases n <;> simp only [Oper.upon] at h ⊢
    case value u => obtain ⟨h1, h2⟩ := h; rw [h1, h2]; exact hK
    case skip => obtain ⟨h1, h2⟩ := h; rw [h1, h2]; exact hK
    case defer d => obtain ⟨h1, h2⟩ := h; rw [h1, h2]; exact hK
    case enter f args =>
      refine Calls.mono h fun e w2 he => ?_
      cases e with
      | returned u => obtain ⟨h1, h2⟩ := he; simp only; rw [h1, h2]; exact hK
      | panicked c => exact he.elim
      | outgrown => exact absurd he no_letsOut
    case row row args => exact Rows.mono h fun u w2 he => by obtain ⟨h1, h2⟩ := he; rw [h1, h2]; exact hK
  | halt x w1 => cases x <;> simp only [Oper.upon] at h
/-- What an operation leaves: its own temporary is put, and calls may have been deferred. -/
theorem wp_frame {o : Oper} {a : Act} {w : World} {K : Act → World → Prop} (h : o.wp P a w K Q) : o.wp P a w (fun a' w' => K a' w' ∧ ∃ ds u, a' = Act.put { a with defers := ds } o.dst u) Q := by
  unfold Oper.wp at *
  generalize (execOp a.eval o).run P w = r at *
  cases r with
  | ok n w1 =>
    cases n <;> simp only [Oper.upon] at h ⊢
    case value u => exact ⟨h, a.defers, u, rfl⟩
    case skip => exact ⟨h, a.defers, undef, rfl⟩
    case defer d => exact ⟨h, d :: a.defers, undef, rfl⟩
    case enter f args =>
      refine Calls.mono h fun e w2 he => ?_
      cases e with
      | returned u => exact ⟨he, a.defers, u, rfl⟩
      | panicked c => exact he
      | outgrown => exact he
    case row row args => exact Rows.mono h fun u w2 he => ⟨he, a.defers, u, rfl⟩
  | halt x w1 => cases x <;> simp only [Oper.upon] at h ⊢ <;> exact h
theorem wpOp_frame {j : Nat} {oj : Oper} (hj : ops[j]? = some oj) {a : Act} {w : World} {K : Act → World → Prop} (h : wpOp P ops Q j K a w) : wpOp P ops Q j (fun a' w' => K a' w' ∧ ∃ ds u, a' = Act.put { a with defers := ds } oj.dst u) a w := by
  unfold wpOp at *
  simp only [hj] at *
  split
  · rename_i hw
    simp only [hw, if_true] at h
    exact h.imp wp_frame id
  · rename_i hw
    simp only [hw] at h
    exact ⟨h, a.defers, undef, rfl⟩
theorem put_eq_of {a : Act} {ds : List Deferred} {dst dst' : Option Tmp} {x u v : Value} (h : a.put dst x = a.put dst v) : (Act.put { a with defers := ds } dst' u).put dst x = (Act.put { a with defers := ds } dst' u).put dst v := by
  cases dst with
  | none => rfl
  | some d =>
    rcases Nat.lt_or_ge d a.tmps.size with hlt | hge
    · have h1 := congrArg (fun a => a.tmps[d]?) h
      simp only [Act.put, Array.getElem?_setIfInBounds_self_of_lt hlt] at h1
      cases h1
      rfl
    · have hs : (Act.put { a with defers := ds } dst' u).tmps.size = a.tmps.size := by cases dst' <;> simp [Act.put]
      generalize Act.put { a with defers := ds } dst' u = b at hs
      simp only [Act.put]
      rw [Array.setIfInBounds_eq_of_size_le (by omega), Array.setIfInBounds_eq_of_size_le (by omega)]
/-- A reader behind another operation that is apart from it. -/
theorem YieldsC.past {oi oj : Oper} {v u : Value} {a : Act} {ds : List Deferred} (hsi : ∀ cs b, oi.op ≠ .select cs b) (h3 : ∀ d, oj.dst = some d → d ∉ oi.looksAt ops) (hy : YieldsC P ops C oi v a) : YieldsC P ops C oi v (Act.put { a with defers := ds } oj.dst u) := by
  obtain ⟨h1, h2⟩ := hy
  have he : execOp (Act.put { a with defers := ds } oj.dst u).eval oi = execOp a.eval oi := (execOp_put oi hsi { a with defers := ds } oj.dst u h3).trans rfl
  have hw : Region.wanted oi (yielded ops (Act.put { a with defers := ds } oj.dst u).tmps) = Region.wanted oi (yielded ops a.tmps) := wanted_put oi { a with defers := ds } oj.dst u h3
  refine ⟨hw.trans h1, fun w hC => ?_⟩
  have h := h2 w hC
  unfold Oper.wp at *
  rw [he]
  generalize (execOp a.eval oi).run P w = r at *
  cases r with
  | ok n w1 =>
    cases n <;> simp only [Oper.upon] at h ⊢
    case value x => exact ⟨put_eq_of h.1, h.2⟩
    case skip => exact ⟨put_eq_of h.1, h.2⟩
    case defer d =>
      have h2 := congrArg (fun a => a.defers.length) h.1
      cases hdst : oi.dst <;> simp [hdst, Act.put] at h2
    case enter f args =>
      refine Calls.mono h fun e w2 he => ?_
      cases e with
      | returned x => exact ⟨put_eq_of he.1, he.2⟩
      | panicked c => exact he
      | outgrown => exact he
    case row row args => exact Rows.mono h fun x w2 he => ⟨put_eq_of he.1, he.2⟩
  | halt x w1 => cases x <;> simp only [Oper.upon] at h ⊢
/-- An operation that only moves a constant into a reader's place. -/
theorem const_yields (oi : Oper) (v : Value) (a : Act) : Yields P ops { oi with op := .move (.const v), guard := none } v a := by
  refine .inl ⟨by simp [Region.wanted], fun w => ?_⟩
  simp [execOp, Act.eval]
theorem wpOp_past {j : Nat} {oi oj : Oper} {v : Value} (hj : ops[j]? = some oj) (hap : oi.apart ops oj = true) (hsi : ∀ cs b, oi.op ≠ .select cs b) (hsj : ∀ cs b, oj.op ≠ .select cs b)
    (hQ : ∀ c a w, ¬ Q (.panic c) a w) {K : Act → World → Prop} {a : Act} {w : World} (hy : YieldsC P ops C oi v a) (h : wpOp P ops Q j K (a.put oi.dst v) w) :
    wpOp P ops Q j (fun a' w' => YieldsC P ops C oi v a' ∧ K (a'.put oi.dst v) w') a w := by
  obtain ⟨h1, h2, h3⟩ := Oper.apart_spec hap
  have hap' : Oper.apart ops { oi with op := .move (.const v), guard := none } oj = true := by
    have hl : Oper.looksAt ops { oi with op := .move (.const v), guard := none } = [] := rfl
    unfold Oper.apart
    rw [hl]
    cases e : oi.dst with
    | none => cases oj.dst <;> rfl
    | some d =>
      have a1 := h1 d e
      have a2 := h2 d e
      cases e2 : oj.dst with
      | none => simp [a1]
      | some d2 =>
        rw [e2] at a2
        simp [a1]
        simpa using a2
  have hp := wpOp_put (oi := { oi with op := .move (.const v), guard := none }) hj hap' (fun cs b e => by cases e) hsj (fun c a w h => absurd h (hQ c _ w)) (const_yields oi v a) h
  refine wpOp_mono (fun a' w' hh => ?_) (wpOp_frame hj hp)
  obtain ⟨⟨_, hk⟩, ds, u, rfl⟩ := hh
  exact ⟨hy.past hsi h3, hk⟩
/-- Whatever order is picked, and in every world on the way what the class says. -/
def wpAnyC (P : Program) (md : Region.Mode) (ops : Array Oper) (C : World → Prop) (Q : Exit → Act → World → Prop) : Nat → Array Bool → Act → World → Prop
  | 0, listed, a, w => Region.ready md ops listed = [] ∧ Q .normal a w
  | f + 1, listed, a, w => (Region.ready md ops listed = [] → Q .normal a w) ∧ ∀ i ∈ Region.ready md ops listed, wpOp P ops Q i (fun a' w' => C w' ∧ wpAnyC P md ops C Q f (listed.setIfInBounds i true) a' w') a w
theorem wpAny_of_C : ∀ (f : Nat) (listed : Array Bool) (a : Act) (w : World), wpAnyC P md ops C Q f listed a w → wpAny P md ops Q f listed a w
  | 0, _, _, _, h => h
  | f + 1, _, _, _, h => ⟨h.1, fun i hi => wpOp_mono (fun a' w' hh => wpAny_of_C f _ a' w' hh.2) (h.2 i hi)⟩
theorem YieldsC.wpOp {i : Nat} {o : Oper} {v : Value} {a : Act} {w : World} (hi : ops[i]? = some o) (hy : YieldsC P ops C o v a) (hC : C w) {K : Act → World → Prop} (hK : K (a.put o.dst v) w) : Go.wpOp P ops Q i K a w := by
  unfold Go.wpOp
  simp only [hi]
  rw [if_pos hy.1]
  exact .inl (wp_of_ends (hy.2 w hC) hK)
/-- A reader that may come up now may be taken first. -/
theorem wpAnyC_take {i : Nat} {oi : Oper} {v : Value} (hi : ops[i]? = some oi) (hs : Region.noSelect ops = true) (hQ : ∀ c a w, ¬ Q (.panic c) a w) :
    ∀ (f : Nat) (listed : Array Bool) (a : Act) (w : World),
      (∀ j oj, ops[j]? = some oj → j ≠ i → listed.getD j true = false → (∀ e ∈ oj.after, Region.binds md e = true → e.on ≠ i) → oi.apart ops oj = true) →
      i ∈ Region.ready md ops listed → YieldsC P ops C oi v a → C w → wpAnyC P md ops C Q f (listed.setIfInBounds i true) (a.put oi.dst v) w → wpAnyC P md ops C Q (f + 1) listed a w := by
  intro f
  induction f with
  | zero =>
    intro listed a w _ hr hy hC H
    refine ⟨fun h => absurd hr (by rw [h]; exact List.not_mem_nil), fun j hj => ?_⟩
    by_cases hji : j = i
    · subst hji
      exact hy.wpOp hi hC ⟨hC, H⟩
    · have h1 := ready_mono hj hji
      rw [H.1] at h1
      cases h1
  | succ f ih =>
    intro listed a w hfree hr hy hC H
    refine ⟨fun h => absurd hr (by rw [h]; exact List.not_mem_nil), fun j hj => ?_⟩
    by_cases hji : j = i
    · subst hji
      exact hy.wpOp hi hC ⟨hC, H⟩
    · have h1 := H.2 j (ready_mono hj hji)
      have hun := (mem_ready.1 hr).1
      obtain ⟨hjun, oj, hoj, hall⟩ := mem_ready.1 hj
      have hno : ∀ e ∈ oj.after, Region.binds md e = true → e.on ≠ i := fun e he hb heq => by
        have h2 := hall e he hb
        rw [heq, getD_both hun] at h2
        cases h2
      have h2 := wpOp_past hoj (hfree j oj hoj hji hjun hno) (fun cs b => Region.noSelect_spec hs i oi cs b hi) (fun cs b => Region.noSelect_spec hs j oj cs b hoj) hQ hy h1
      refine wpOp_mono (fun a' w' hh => ⟨hh.2.1, ih (listed.setIfInBounds j true) a' w' (fun k ok hk hki hku hkn => hfree k ok hk hki ?_ hkn) (ready_mono hr (Ne.symm hji)) hh.1 hh.2.1 ?_⟩) h2
      · by_cases hjk : j = k
        · subst hjk; exact hjun
        · rw [getD_set_ne true hjk] at hku; exact hku
      · rw [Array.setIfInBounds_comm _ _ hji]
        exact hh.2.2
/-- The spine: operations one behind the other. -/
def wpSp (P : Program) (ops : Array Oper) (C : World → Prop) (Q : Exit → Act → World → Prop) : List Nat → Act → World → Prop
  | [], a, w => Q .normal a w
  | i :: r, a, w => Go.wpOp P ops Q i (fun a' w' => C w' ∧ wpSp P ops C Q r a' w') a w
def spB (md : Region.Mode) (ops : Array Oper) : List Nat → Array Bool → Bool
  | [], listed => decide (Region.ready md ops listed = [])
  | i :: r, listed => decide (Region.ready md ops listed = [i]) && spB md ops r (listed.setIfInBounds i true)
theorem wpAnyC_of_sp : ∀ (r : List Nat) (listed : Array Bool) (a : Act) (w : World), spB md ops r listed = true → wpSp P ops C Q r a w → wpAnyC P md ops C Q r.length listed a w
  | [], listed, a, w, hB, h => ⟨by simpa [spB] using hB, h⟩
  | i :: r, listed, a, w, hB, h => by
    simp only [spB, Bool.and_eq_true, decide_eq_true_eq] at hB
    refine ⟨fun h1 => (by rw [hB.1] at h1; cases h1), fun j hj => ?_⟩
    rw [hB.1] at hj
    obtain rfl : j = i := by simpa using hj
    exact wpOp_mono (fun a' w' hh => ⟨hh.1, wpAnyC_of_sp r _ a' w' hB.2 hh.2⟩) h
/-- Readers, one by one. -/
def takeR (P : Program) (ops : Array Oper) (C : World → Prop) : List Nat → Act → (Act → Prop) → Prop
  | [], a, K => K a
  | i :: r, a, K => ∃ o v, ops[i]? = some o ∧ YieldsC P ops C o v a ∧ takeR P ops C r (a.put o.dst v) K
def spineB (md : Region.Mode) (ops : Array Oper) (sp : List Nat) : List Nat → Array Bool → Bool
  | [], listed => spB md ops sp listed
  | i :: r, listed => Region.free md ops listed i && (Region.ready md ops listed).contains i && spineB md ops sp r (listed.setIfInBounds i true)
theorem wpAnyC_spine (hs : Region.noSelect ops = true) (hQ : ∀ c a w, ¬ Q (.panic c) a w) (sp : List Nat) : ∀ (rs : List Nat) (listed : Array Bool) (a : Act) (w : World), spineB md ops sp rs listed = true → C w →
    takeR P ops C rs a (fun a' => wpSp P ops C Q sp a' w) → wpAnyC P md ops C Q (rs.length + sp.length) listed a w
  | [], listed, a, w, hB, hC, h => by
    rw [List.length_nil, Nat.zero_add]
    exact wpAnyC_of_sp sp listed a w hB h
  | i :: r, listed, a, w, hB, hC, h => by
    simp only [spineB, Bool.and_eq_true] at hB
    obtain ⟨o, v, hi, hy, hr⟩ := h
    rw [List.length_cons, show r.length + 1 + sp.length = (r.length + sp.length) + 1 by omega]
    exact wpAnyC_take hi hs hQ _ listed a w (Region.free_spec hi hB.1.1) (by simpa using hB.1.2) hy hC (wpAnyC_spine hs hQ sp r _ _ w hB.2 hC hr)
/-- A REGION THAT DRAWS: readers rs, and a spine sp. -/
theorem wp_spine {id : Nat} {a : Act} {w : World} {l : List Oper} (C : World → Prop) (rs sp : List Nat) (hm : P.follows .mixedOrders = true) (hB : (Region.noSelect l.toArray && decide (rs.length + sp.length = l.length) && spineB .any l.toArray sp rs (Array.replicate l.toArray.size false)) = true)
    (hC : C w.drew) (h : ∀ Q0 : Exit → Act → World → Prop, (∀ a' w', Q .normal a' w' → Q0 .normal a' w') → takeR P l.toArray C rs a (fun a' => wpSp P l.toArray C Q0 sp a' w.drew)) : (Code.region id l.toArray true).wp P Q a w := by
  simp only [Bool.and_eq_true, decide_eq_true_eq] at hB
  obtain ⟨⟨hs, hl⟩, hB⟩ := hB
  refine Code.wp_mono (Q := fun e a' w' => e = .normal ∧ Q .normal a' w') ?_ ?_
  · rintro e a' w' ⟨rfl, h⟩
    exact h
  · refine wp_region_any hm ?_
    have := wpAnyC_spine (P := P) (ops := l.toArray) (md := .any) (C := C) (Q := fun e a' w' => e = .normal ∧ Q .normal a' w') hs (fun c a w hh => by cases hh.1) sp rs _ a w.drew hB hC (h _ (fun a' w' hh => ⟨rfl, hh⟩))
    rw [hl] at this
    exact wpAny_of_C _ _ _ _ this
theorem takeR_cons {a : Act} {i : Nat} {r : List Nat} {K : Act → Prop} {o : Oper} (hi : ops[i]? = some o) (hg : o.guard = none) (v : Value) (hv : ∀ w, C w → ∀ (K : Act → World → Prop) (Q : Exit → Act → World → Prop), K (a.put o.dst v) w → o.wp P a w K Q) (hr : takeR P ops C r (a.put o.dst v) K) : takeR P ops C (i :: r) a K :=
  ⟨o, v, hi, ⟨by simp [Region.wanted, hg], fun w hC => hv w hC _ _ ⟨rfl, rfl⟩⟩, hr⟩
theorem wpSp_cons {a : Act} {w : World} {i : Nat} {r : List Nat} {o : Oper} (hi : ops[i]? = some o) (hg : o.guard = none) (h : ∀ K : Act → World → Prop, (∀ a' w', C w' → wpSp P ops C Q r a' w' → K a' w') → o.wp P a w K Q) : wpSp P ops C Q (i :: r) a w := by
  unfold wpSp Go.wpOp
  simp only [hi]
  rw [if_pos (by simp [Region.wanted, hg])]
  exact .inl (h _ fun a' w' h1 h2 => ⟨h1, h2⟩)
end
end Go.Proofs.YtbidppjhenfjdaaGreatDoor
namespace Go.Proofs.YtbidppjhenfjdaaGreatDoor
open Go.RowKit
set_option linter.unusedVariables false
set_option linter.unusedSimpArgs false

/-- Words in a row of the call's own. -/
def Toks (W : World) (base : Nat) (v : Value) (xs : List Tok) : Prop := W.ownsRow base 20 1 v xs.length (xs.map tokV)
theorem info_anyS : (Tryz.prog.info? 20).map (fun i => (i.zero, i.size, i.bytes)) = some (some .nilIface, 1, 16) := by kernel_rfl
theorem tokV_one (xs : List Tok) : ∀ u ∈ xs.map tokV, u.oneCell' = true := by
  intro u hu
  obtain ⟨x, _, rfl⟩ := List.mem_map.1 hu
  cases x <;> rfl
theorem new_row_any (w : World) (cs : List Value) (t : TypeId) (j : Nat) (u : Value) (h : cs[j]? = some u) : (w.alloc (.cells cs.toArray t)).cell? ((⟨w.heap.size, 0, none⟩ : Addr).add j) = some u := by
  rw [addr_plain2, Nat.zero_add, cell_of_block (World.alloc_heap_new w (.cells cs.toArray t)) j]
  simpa using h
/-- A new list of words. -/
theorem toks_new {W : World} {base : Nat} (xs : List Tok) (hb : base ≤ W.heap.size) (h0 : xs.length ≤ maxLen) : Toks (W.alloc (.cells (xs.map tokV).toArray 20)) base (.slice (some ⟨W.heap.size, 0, none⟩) xs.length xs.length) xs :=
  ⟨by simp, .inr ⟨W.heap.size, xs.length, (xs.map tokV).toArray, rfl, hb, World.alloc_heap_new W _, Nat.le_refl _, h0, by simp, by simp [List.take_of_length_le]⟩⟩
theorem any_append {W : World} {base : Nat} {v : Value} {xs : List Tok} (ys : List Tok) (hown : Toks W base v xs) (hb : base ≤ W.heap.size) (hk : xs.length + ys.length ≤ 1000000000) :
    ∃ v' w', (Builtin.append_ #[89, 89] 89 #[v, .slice (some ⟨W.heap.size, 0, none⟩) ys.length ys.length]).run Tryz.prog (W.alloc (.cells (ys.map tokV).toArray 20)) = .ok v' w' ∧
      AppPost (W.alloc (.cells (ys.map tokV).toArray 20)) base 20 1 v xs.length (xs.map tokV) ys.length (ys.map tokV) v' w' := by
  obtain ⟨i0, hi, hz0, hz1, hz2⟩ : ∃ i, Tryz.prog.info? 20 = some i ∧ i.zero = some .nilIface ∧ i.size = 1 ∧ i.bytes = 16 := by
    have h := info_anyS
    cases he : Tryz.prog.info? 20 with
    | none => rw [he] at h; cases h
    | some i =>
      rw [he] at h
      simp at h
      exact ⟨i, rfl, h.1, h.2.1, h.2.2⟩
  exact run_append_mine (P := Tryz.prog) _ base 89 89 20 i0 .nilIface 1 16 Tryz.underlying89 hi hz0 hz1 hz2 rfl (by decide) v xs.length _ (World.ownsRow.alloc hown _) ⟨W.heap.size, 0, none⟩ ys.length ys.length (ys.map tokV) (by simp)
    (new_row_any W _ _) (tokV_one ys) (by unfold maxLen; omega) (by omega) (by simp; omega)
/-- Behind an append. -/
theorem Toks.app {W1 w' : World} {base : Nat} {v v' : Value} {xs ys : List Tok} (hp : AppPost W1 base 20 1 v xs.length (xs.map tokV) ys.length (ys.map tokV) v' w') : Toks w' base v' (xs ++ ys) := by
  unfold Toks
  rw [List.length_append, List.map_append]
  exact hp.1
theorem Toks.sl {W : World} {base : Nat} {v : Value} {xs : List Tok} (h : Toks W base v xs) : SlAt W v xs.length (xs.map tokV) := SlAt.of_owns h
theorem Toks.keep {W W' : World} {base : Nat} {v : Value} {xs : List Tok} {K : List Nat} (h : Toks W base v xs) (k : Keep K W W') (hK : ∀ g, v.ownBlock = some g → g ∉ K) : Toks W' base v xs := k.owns h hK
/-- No write into a builder touches them. -/
theorem Toks.apart {W : World} {base b : Nat} {v : Value} {xs : List Tok} {c : Array Value} {f : Nat × Nat} (h : Toks W base v xs) (hb : W.heap[b]? = some (.cells c 77 f)) : Apart W b v xs.length := fun _ g hg => by
  obtain ⟨c', f', hc⟩ := own_tyB h g (by simp [hg])
  refine ⟨fun e => ?_, c', _, f', hc, by decide⟩
  subst e
  have := Option.some.inj (hb.symm.trans hc)
  injection this with _ e _
  exact absurd e (by decide)
set_option maxHeartbeats 4000000 in
set_option maxRecDepth 100000 in
theorem flag_any (v : Value) (xs : List Tok) (word : ByteArray) (is : Bool) (base : Nat) (W : World) (h : Toks W base v xs) (hb : base ≤ W.heap.size) (hn : xs.length ≤ 1000000) :
    Calls Tryz.prog 35 #[v, .string word, .bool is] W fun e W' => ∃ v', e = .returned v' ∧ Toks W' base v' (xs ++ if is = true then [.str word] else []) ∧ Keep v.ownBlock.toList W W' := by
  have H := Lib.hid h
  obtain ⟨v2, w2, hap, hp⟩ := any_append [.str word] h hb (by simp; omega)
  have HP := Lib.hid hp
  have hk : Keep v.ownBlock.toList W w2 := ((((Keep.refl [] W).alloc _).mono (by simp)).trans hp.2.1 (fun x hx => .inl hx))
  have HK := Lib.hid hk
  obtain ⟨ad, cap, hv⟩ := h.sl.empty
  obtain ⟨n, hn⟩ : ∃ n, n = xs.length := ⟨_, rfl⟩
  rw [← hn] at hv
  subst hv
  have hap' : (Builtin.append_ #[89, 89] 89 #[.slice ad n cap, .slice (some ⟨W.heap.size, 0, none⟩) 1 1]).run Tryz.prog (W.alloc (.cells #[.iface 9 (.string word)] 20)) = .ok v2 w2 := hap
  clear h hp hk hap hn hb
  cases is
  · go_enter Tryz.func35, Tryz.ntmps35
    go_wp2
    go_ret
    exact ⟨_, rfl, by simpa using H.out, Keep.refl _ _⟩
  · go_enter Tryz.func35, Tryz.ntmps35
    go_wp2_with (with_reducible refine park_append 8 11 _ rfl ?_)
    refine wpList_append_eq rfl (.tmp 8) (.tmp 11) 89 rfl rfl rfl hap' ?_
    go_wp2
    go_ret
    exact ⟨_, rfl, Toks.app HP.out, HK.out⟩
end Go.Proofs.YtbidppjhenfjdaaGreatDoor
namespace Go.Proofs.YtbidppjhenfjdaaGreatDoor
open Go.RowKit
set_option linter.unusedVariables false
set_option linter.unusedSimpArgs false

/-- A copy. -/
structure Cpy where
  num : Int
  src : Int
  dst : Int
  data : ByteArray
  sent : Int
  bad : Bool
def cpV (c : Cpy) (bv : Value) : Array Value := #[.int .i64 c.num, .int .i64 c.src, .int .i64 c.dst, bv, .int .i64 c.sent, .bool c.bad]
/-- Copies that are read. -/
def Cps (W : World) (v : Value) (L : List Cpy) : Prop :=
  ∃ ad cap, v = .slice ad L.length cap ∧ (L.length ≠ 0 → ∃ b off, ad = some ⟨b, off, none⟩ ∧ ∀ (k : Nat) (hk : k < L.length), ∃ ad1 cap1, SlAt W (.slice ad1 L[k].data.size cap1) L[k].data.size (bytV L[k].data) ∧ ∀ j u, (cpV L[k] (.slice ad1 L[k].data.size cap1))[j]? = some u → W.cell? ⟨b, off + k * 6 + j, none⟩ = some u)
theorem Cps.keep0 {W W' : World} {v : Value} {L : List Cpy} (h : Cps W v L) (k : Keep [] W W') : Cps W' v L := by
  obtain ⟨ad, cap, rfl, h1⟩ := h
  refine ⟨ad, cap, rfl, fun hn => ?_⟩
  obtain ⟨b, off, rfl, hc⟩ := h1 hn
  refine ⟨b, off, rfl, fun i hi => ?_⟩
  obtain ⟨ad1, cap1, hr, hu⟩ := hc i hi
  exact ⟨ad1, cap1, hr.keep0 k, fun j u hj => k.cellv (hu j u hj) (by simp)⟩
/-- A copy's line. -/
def cpA (c : Cpy) : List Tok := [.str in2, .str ⟨#[99, 111, 112, 121]⟩, .num c.num, .str ⟨#[102, 114, 111, 109]⟩, .num c.src, .str ⟨#[116, 111]⟩, .num c.dst, .str ⟨#[115, 101, 110, 116]⟩, .num c.sent]
def cpT (c : Cpy) : List Tok := (cpA c ++ if c.bad = true then [.str ⟨#[98, 97, 100]⟩] else []) ++ [.str (quo c.data)]
def cpsB : List Cpy → ByteArray
  | [] => ByteArray.empty
  | c :: L => lineB' (cpT c) ++ cpsB L
theorem cpsB_app (A B : List Cpy) : cpsB (A ++ B) = cpsB A ++ cpsB B := by
  induction A with
  | nil => simp [cpsB]
  | cons c A ih => simp [cpsB, ih, ByteArray.append_assoc]
def CpyOk (c : Cpy) : Prop := I64 c.num ∧ I64 c.src ∧ I64 c.dst ∧ I64 c.sent ∧ c.data.size ≤ 1000000
theorem cpT_ok {c : Cpy} (h : CpyOk c) : ∀ x ∈ cpT c, TokOk x := by
  obtain ⟨h1, h2, h3, h4, h5⟩ := h
  intro x hx
  have hq := quo_size c.data
  unfold cpT cpA at hx
  simp only [List.mem_append, List.mem_cons, List.not_mem_nil, or_false] at hx
  rcases hx with (((rfl | rfl | rfl | rfl | rfl | rfl | rfl | rfl | rfl)) | hx) | rfl
  · show in2.size ≤ _; decide
  · show (4 : Nat) ≤ _; decide
  · exact h1
  · show (4 : Nat) ≤ _; decide
  · exact h2
  · show (2 : Nat) ≤ _; decide
  · exact h3
  · show (4 : Nat) ≤ _; decide
  · exact h4
  · split at hx
    · simp at hx
      subst hx
      show (3 : Nat) ≤ _
      decide
    · cases hx
  · show (quo c.data).size ≤ _
    omega
theorem cpT_len (c : Cpy) : (cpT c).length ≤ 11 := by
  unfold cpT cpA
  split <;> simp
/-- An answer's cells. -/
def ansV (err : Int) (text : ByteArray) (d1 d2 : Int) (deps : Value) (okd i1 i2 r1 r2 : Int) (ot : ByteArray) (gone : Value) (os ss : Int) (b1 b2 : Bool) (vec bas : Value) (clk tick : Int) (held : Value) (log kept : Int) (mem : Value) (ep : Int) (prs cv : Value) : Array Value :=
  #[.int .i64 err, .string text, .int .i64 d1, .int .i64 d2, deps, .int .i64 okd, .int .i64 i1, .int .i64 i2, .int .i64 r1, .int .i64 r2, .string ot, gone, .int .i64 os, .int .i64 ss, .bool b1, .bool b2, vec, bas, .int .i64 clk, .int .i64 tick, held, .int .i64 log, .int .i64 kept, mem, .int .i64 ep, prs, cv]
/-- A line written through. -/
theorem line_put {b base base' : Nat} {t : ByteArray} {W0 W : World} {v : Value} {xs : List Tok} (hk0 : Keep [] W0 W) (h0 : W0.heap.size ≤ b) (hb : BufAt W b base t) (ht : Toks W base' v xs) (hok : ∀ x ∈ xs, TokOk x) (hn : xs.length ≤ 100000) (hz : t.size + (lineB' xs).size ≤ 1000000000000) (hT : TQ W0) (hbw : base ≤ W.heap.size) :
    Calls Tryz.prog 29 #[v, .pointer (some ⟨b, 0, none⟩)] W fun e W' => e = .returned (.tuple #[]) ∧ WroteT b base (t ++ lineB' xs) W W' := by
  obtain ⟨p, q, hq, hq2, hq3, hq4⟩ := hb
  exact line_any b base t xs v W ⟨p, q, hq, hq2, hq3, hq4⟩ ht.sl (ht.apart hq) hok hn hz (hT.keep0 hk0) (fun x hx => by have := hT.lt x hx; omega) hbw

/-- Between the lines: the step, the answer, the text so far. -/
def TellI (W : World) (st an : Array Value) (t : ByteArray) (wx : World) : Prop :=
  Keep [] W wx ∧ BufAt wx (W.heap.size + 2) (W.heap.size + 3) t ∧ wx.heap[W.heap.size]? = some (.cells st 40 (0, 0)) ∧ wx.heap[W.heap.size + 1]? = some (.cells an 55 (0, 0)) ∧ W.heap.size + 3 ≤ wx.heap.size
theorem TellI.keep {W wx w' : World} {st an : Array Value} {t : ByteArray} (h : TellI W st an t wx) (k : Keep [] wx w') : TellI W st an t w' := by
  obtain ⟨h1, h2, h3, h4, h5⟩ := h
  exact ⟨h1.trans0 k, h2.keep k, k.at_ h3 (by simp), k.at_ h4 (by simp), Nat.le_trans h5 k.size⟩
theorem TellI.wrote {W wx w' : World} {st an : Array Value} {t t' : ByteArray} (h : TellI W st an t wx) (k : WroteT (W.heap.size + 2) (W.heap.size + 3) t' wx w') : TellI W st an t' w' := by
  obtain ⟨h1, h2, h3, h4, h5⟩ := h
  refine ⟨k.low h1 (by omega) (by omega), k.1, k.at_ h3 (by omega) (by decide), k.at_ h4 (by omega) (by decide), ?_⟩
  obtain ⟨_, L, hk, _⟩ := k
  exact Nat.le_trans h5 hk.size
set_option maxHeartbeats 16000000 in
set_option maxRecDepth 100000 in
theorem tell0_any (s : Stp) (a0 : ByteArray) (dv bv : Value) (text : ByteArray) (d1 d2 : Int) (deps : Value) (i1 i2 r1 r2 : Int) (ot : ByteArray) (gone : Value) (os : Int) (b1 b2 : Bool) (vec bas : Value) (clk tick : Int) (held : Value) (log kept : Int) (mem : Value) (ep : Int) (prs cv : Value) (cps : List Cpy) (W : World)
    (h : StRd W s dv bv) (hok : StpOk s) (hsm : StpSmall s) (hsay : sayO s = some a0) (hk12 : s.kind ≠ 12) (hc : Cps W cv cps) (hcok : ∀ c ∈ cps, CpyOk c) (hz : a0.size + (cpsB cps).size ≤ 100000000000) (hn : cps.length ≤ 100000) (hT : TQ W) :
    Calls Tryz.prog 16 #[.agg (stV s dv bv), .agg (ansV 0 text d1 d2 deps 0 i1 i2 r1 r2 ot gone os 0 b1 b2 vec bas clk tick held log kept mem ep prs cv)] W fun e W' => e = .returned (.string (lineB' [.str a0] ++ cpsB cps)) ∧ Keep [] W W' := by
  have HRD := Lib.hid h
  have HOK := Lib.hid hok
  have HSM := Lib.hid hsm
  have HSAY := Lib.hid hsay
  have HC := Lib.hid hc
  have HCOK := Lib.hid hcok
  have HZ := Lib.hid hz
  have HT := Lib.hid hT
  obtain ⟨ad1, cap1, hdv⟩ := h.1.empty
  obtain ⟨ad2, cap2, hbv⟩ := h.2.empty
  subst hdv
  subst hbv
  obtain ⟨adc, capc, hcv, _⟩ := id hc
  subst hcv
  clear h hok hsm hsay hc hcok hz hT
  obtain ⟨nd, hnd⟩ : ∃ nd, nd = s.draws.length := ⟨_, rfl⟩
  obtain ⟨nb, hnb⟩ : ∃ nb, nb = s.data.size := ⟨_, rfl⟩
  obtain ⟨n, hnl⟩ : ∃ n, n = cps.length := ⟨_, rfl⟩
  rw [← hnd, ← hnb] at HRD ⊢
  rw [← hnl] at HC hn ⊢
  have HN := Lib.hid hnl
  clear hnd hnb hnl
  unfold stV ansV
  go_enter Tryz.func16, Tryz.ntmps16
  go_upto_region 3 with (fail)
  obtain ⟨st, hst⟩ : ∃ st : Array Value, st = #[.int .i64 s.kind, .int .i64 s.site, .int .i64 s.peer, .int .i64 s.unit, .int .i64 s.at_, .int .i64 s.n, .string s.text, .slice ad1 nd cap1, .slice ad2 nb cap2] := ⟨_, rfl⟩
  obtain ⟨an, han⟩ : ∃ an : Array Value, an = #[.int .i64 0, .string text, .int .i64 d1, .int .i64 d2, deps, .int .i64 0, .int .i64 i1, .int .i64 i2, .int .i64 r1, .int .i64 r2, .string ot, gone, .int .i64 os, .int .i64 0, .bool b1, .bool b2, vec, bas, .int .i64 clk, .int .i64 tick, held, .int .i64 log, .int .i64 kept, mem, .int .i64 ep, prs, .slice adc n capc] := ⟨_, rfl⟩
  obtain ⟨w1, hw1⟩ : ∃ w1, w1 = allocs W [.cells st 40, .cells an 55, .cells #[.pointer none, .slice none 0 0] 77] := ⟨_, rfl⟩
  have hI : TellI W st an ByteArray.empty w1 := by
    have hat := fun i o (h : [Obj.cells st 40, .cells an 55, .cells #[.pointer none, .slice none 0 0] 77][i]? = some o) => allocs_at _ W i o h
    rw [hw1]
    refine ⟨allocs_keep _ _, ⟨_, _, hat 2 _ rfl, .inl rfl, World.ownsRow_nil _ _ _ _, by omega⟩, hat 0 _ rfl, hat 1 _ rfl, ?_⟩
    rw [allocs_size]
    exact Nat.le_refl _
  have HI1 := Lib.hid hI
  have hw1' : ((W.alloc (.cells st 40)).alloc (.cells an 55)).alloc (.cells #[.pointer none, .slice none 0 0] 77) = w1 := hw1.symm
  rw [hst, han] at hw1'
  rw [hw1']
  simp only [Nat.add_assoc, Nat.reduceAdd]
  obtain ⟨G, hG⟩ : ∃ G, G = W.heap.size := ⟨_, rfl⟩
  rw [← hG]
  have HG := Lib.hid hG
  clear hI hw1 hw1'
  have c0 := cell_of_block HI1.out.2.2.1 0
  have c1 := cell_of_block HI1.out.2.2.1 1
  have c2 := cell_of_block HI1.out.2.2.1 2
  have c3 := cell_of_block HI1.out.2.2.1 3
  have c4 := cell_of_block HI1.out.2.2.1 4
  have c5 := cell_of_block HI1.out.2.2.1 5
  have c6 := cell_of_block HI1.out.2.2.1 6
  have c7 := cell_of_block HI1.out.2.2.1 7
  have c8 := cell_of_block HI1.out.2.2.1 8
  rw [hst, ← hG] at c0 c1 c2 c3 c4 c5 c6 c7 c8
  simp at c0 c1 c2 c3 c4 c5 c6 c7 c8
  clear hG
  have HST := Lib.hid hst
  have HAN := Lib.hid han
  clear hst han
  go_wp2_with fail
  refine (say_any s (.slice ad1 nd cap1) (.slice ad2 nb cap2) _ (HRD.out.keep0 HI1.out.1) HOK.out HSM.out (HT.out.keep0 HI1.out.1)).mono ?_
  rintro e w2 ⟨rfl, hk2⟩
  rw [HSAY.out]
  have HI2 := Lib.hid (HI1.out.keep hk2)
  clear hk2 c0 c1 c2 c3 c4 c5 c6 c7 c8
  unfold sayV
  go_upto_region 5 with (fail)
  go_wp2_with fail
  obtain ⟨w3, hw3⟩ : ∃ w3, w3 = w2.alloc (.cells #[.iface 9 (.string a0)] 20) := ⟨_, rfl⟩
  have hI3 : TellI W st an ByteArray.empty w3 := by rw [hw3]; exact HI2.out.keep ((Keep.refl _ _).alloc _)
  have ht3 : Toks w3 (W.heap.size + 3) (.slice (some ⟨w2.heap.size, 0, none⟩) 1 1) [.str a0] := by rw [hw3]; exact toks_new [.str a0] HI2.out.2.2.2.2 (show 1 ≤ maxLen by decide)
  rw [← hw3]
  have hza := sayO_size HOK.out HSM.out HSAY.out
  have hzb := HZ.out
  have hz1 : (lineB' [Tok.str a0]).size ≤ 100000000002 := by
    unfold lineB' lineG lineG gapB tokB
    simp only [ByteArray.size_append, one_size]
    show 0 + a0.size + 0 + 1 ≤ _
    omega
  have HI3 := Lib.hid hI3
  have HT3 := Lib.hid ht3
  clear hw3 hI3 ht3
  have hlp := line_put HI3.out.1 (by omega) HI3.out.2.1 HT3.out (fun x hx => by simp at hx; subst hx; show a0.size ≤ _; omega) (show 1 ≤ 100000 by decide) (by show 0 + _ ≤ _; omega) HT.out HI3.out.2.2.2.2
  rw [ByteArray.empty_append, ← HG.out] at hlp
  refine hlp.mono ?_
  rintro e w4 ⟨rfl, hw4⟩
  obtain ⟨tl, htl⟩ : ∃ tl, tl = lineB' [Tok.str a0] := ⟨_, rfl⟩
  rw [← htl] at hw4 hz1
  have HTL := Lib.hid htl
  have HI4 := Lib.hid (HI3.out.wrote (by rw [← HG.out]; exact hw4))
  clear hlp hw4 htl
  have c0 := cell_of_block HI4.out.2.2.1 0
  have e0 := cell_of_block HI4.out.2.2.2.1 0
  have e5 := cell_of_block HI4.out.2.2.2.1 5
  have e13 := cell_of_block HI4.out.2.2.2.1 13
  have e26 := cell_of_block HI4.out.2.2.2.1 26
  rw [HST.out, ← HG.out] at c0
  rw [HAN.out, ← HG.out] at e0 e5 e13 e26
  simp at c0 e0 e5 e13 e26
  have g12 : (s.kind == 12) = false := by simpa using hk12
  go_upto_region 16 with (fail)
  clear c0 e0 e5 e13 e26 g12 hk12
  go_loopw [79] (fun iv wr => ∃ k : Nat, iv = .int .i64 k ∧ k ≤ n ∧ TellI W st an (tl ++ cpsB (cps.take k)) wr) (fun iv _ => n - (intOf iv).toNat)
  case atStart => exact ⟨0, rfl, Nat.zero_le _, by
    have h := HI4.out
    simpa [cpsB] using h⟩
  case round =>
    rename World => wr
    obtain ⟨k, rfl, hk, hir⟩ := hrel
    have HIR := Lib.hid hir
    clear hir
    by_cases hlt : k < n
    · have HLT := Lib.hid hlt
      have g1 := dec_lt_t (show (k : Int) < (n : Int) by omega)
      have g2 := dec_ltn_t hlt
      have hkL : k < cps.length := by rw [← HN.out]; exact hlt
      obtain ⟨ad, cp, e, hel⟩ := HC.out
      injection e with e1 e2 e3
      obtain ⟨gb, off, rfl, hcl⟩ := hel (by omega)
      subst e1
      obtain ⟨ad3, cap3, hsl, hu⟩ := hcl k hkL
      have hcok := HCOK.out _ (List.getElem_mem hkL)
      have htk : cps.take (k + 1) = cps.take k ++ [cps[k]] := by rw [List.take_add_one, List.getElem?_eq_getElem hkL]; rfl
      generalize cps[k] = c at hsl hu hcok htk
      have u0 : wr.cell? ⟨gb, off + k * 6, none⟩ = some (.int .i64 c.num) := HIR.out.1.cellv (hu 0 _ rfl) (by simp)
      have u1 : wr.cell? ⟨gb, off + k * 6 + 1, none⟩ = some (.int .i64 c.src) := HIR.out.1.cellv (hu 1 _ rfl) (by simp)
      have u2 : wr.cell? ⟨gb, off + k * 6 + 2, none⟩ = some (.int .i64 c.dst) := HIR.out.1.cellv (hu 2 _ rfl) (by simp)
      have u3 : wr.cell? ⟨gb, off + k * 6 + 3, none⟩ = some (.slice ad3 c.data.size cap3) := HIR.out.1.cellv (hu 3 _ rfl) (by simp)
      have u4 : wr.cell? ⟨gb, off + k * 6 + 4, none⟩ = some (.int .i64 c.sent) := HIR.out.1.cellv (hu 4 _ rfl) (by simp)
      have u5 : wr.cell? ⟨gb, off + k * 6 + 5, none⟩ = some (.bool c.bad) := HIR.out.1.cellv (hu 5 _ rfl) (by simp)
      have HSL := Lib.hid hsl
      have HCK := Lib.hid hcok
      have HTK := Lib.hid (show tl ++ cpsB (cps.take (k + 1)) = (tl ++ cpsB (cps.take k)) ++ lineB' (cpT c) by
        rw [htk, cpsB_app, ByteArray.append_assoc]
        simp [cpsB])
      have HSZ := Lib.hid (show (tl ++ cpsB (cps.take k)).size + (lineB' (cpT c)).size ≤ 1000000000000 by
        have h1 : cpsB cps = cpsB (cps.take (k + 1)) ++ cpsB (cps.drop (k + 1)) := by rw [← cpsB_app, List.take_append_drop]
        have h2 := congrArg ByteArray.size h1
        rw [htk, cpsB_app] at h2
        simp only [cpsB, ByteArray.size_append] at h2 ⊢
        omega)
      obtain ⟨m, hm⟩ : ∃ m, m = c.data.size := ⟨_, rfl⟩
      rw [← hm] at HSL u3
      have HM := Lib.hid hm
      clear hel hcl hsl hu hcok htk hm hkL e2 e3 hlt
      go_upto_region 18 with (fail)
      obtain ⟨bc, hbc⟩ : ∃ bc, bc = wr.heap.size := ⟨_, rfl⟩
      obtain ⟨w5, hw5⟩ : ∃ w5, w5 = wr.alloc (.cells #[.int .i64 c.num, .int .i64 c.src, .int .i64 c.dst, .slice ad3 m cap3, .int .i64 c.sent, .bool c.bad] 60) := ⟨_, rfl⟩
      have hk5 : Keep [] wr w5 := by rw [hw5]; exact (Keep.refl _ _).alloc _
      have hb5 : w5.heap[bc]? = some (.cells #[.int .i64 c.num, .int .i64 c.src, .int .i64 c.dst, .slice ad3 m cap3, .int .i64 c.sent, .bool c.bad] 60 (0, 0)) := by rw [hw5, hbc]; exact World.alloc_heap_new wr _
      rw [← hw5, ← hbc]
      have f0 := cell_of_block hb5 0
      have f1 := cell_of_block hb5 1
      have f2 := cell_of_block hb5 2
      have f3 := cell_of_block hb5 3
      have f4 := cell_of_block hb5 4
      have f5 := cell_of_block hb5 5
      simp at f0 f1 f2 f3 f4 f5
      have HI5 := Lib.hid (HIR.out.keep hk5)
      have HK5 := Lib.hid hk5
      have HB5 := Lib.hid hb5
      have HBC := Lib.hid (show W.heap.size + 3 ≤ bc by rw [hbc]; exact HIR.out.2.2.2.2)
      have HCV := Lib.hid (fun (w' : World) (y1 : Keep [] W w') => show (convert 38 9 (.slice ad3 m cap3)).run Tryz.prog w' = .ok (.string c.data) w' from conv_bsl (by
        have h := HSL.out.keep0 y1
        rw [← HM.out]
        exact h))
      clear hw5 hbc hk5 hb5 u0 u1 u2 u3 u4 u5
      go_upto_region 19 with (fail)
      obtain ⟨w6, hw6⟩ : ∃ w6, w6 = w5.alloc (.cells #[.iface 9 (.string ⟨#[32, 32]⟩), .iface 9 (.string ⟨#[99, 111, 112, 121]⟩), .iface 3 (.int .i64 c.num), .iface 9 (.string ⟨#[102, 114, 111, 109]⟩), .iface 3 (.int .i64 c.src), .iface 9 (.string ⟨#[116, 111]⟩), .iface 3 (.int .i64 c.dst), .iface 9 (.string ⟨#[115, 101, 110, 116]⟩), .iface 3 (.int .i64 c.sent)] 20) := ⟨_, rfl⟩
      have hk6 : Keep [] w5 w6 := by rw [hw6]; exact (Keep.refl _ _).alloc _
      have ht6 : Toks w6 wr.heap.size (.slice (some ⟨w5.heap.size, 0, none⟩) 9 9) (cpA c) := by rw [hw6]; exact toks_new (cpA c) HK5.out.size (show 9 ≤ maxLen by decide)
      rw [← hw6]
      have HI6 := Lib.hid (HI5.out.keep hk6)
      have HB6 := Lib.hid (hk6.at_ HB5.out (by simp))
      have HT6 := Lib.hid ht6
      have HK6 := Lib.hid (HK5.out.trans0 hk6)
      obtain ⟨lb, hlb⟩ : ∃ lb, lb = w5.heap.size := ⟨_, rfl⟩
      rw [← hlb] at HT6 ⊢
      clear hw6 hk6 ht6 f0 f1 f2 f3 f4 f5 hlb
      refine wp_spine (fun w' => Keep [] W w' ∧ w'.heap[bc]? = some (.cells #[.int .i64 c.num, .int .i64 c.src, .int .i64 c.dst, .slice ad3 m cap3, .int .i64 c.sent, .bool c.bad] 60 (0, 0))) [0, 1, 2, 3, 5, 6, 7] [4, 8, 9, 10, 11, 12] (by kernel_rfl) (by kernel_rfl) ⟨HI6.out.1.drew, HB6.out⟩ ?_
      intro Q0 hQ0
      refine takeR_cons rfl rfl (.func (.func 29) #[] #[.pointer (some ⟨G + 2, 0, none⟩)]) ?_ ?_
      · rintro w' ⟨y1, y2⟩ K Q hK
        have x3 := cell_of_block y2 3
        have x5 := cell_of_block y2 5
        have xc := HCV.out w' y1
        simp at x3 x5
        go_simp
        exact hK
      simp only [Act.put, List.setIfInBounds_toArray, List.set_cons_succ, List.set_cons_zero]
      refine takeR_cons rfl rfl (.slice (some ⟨lb, 0, none⟩) 9 9) ?_ ?_
      · rintro w' ⟨y1, y2⟩ K Q hK
        have x3 := cell_of_block y2 3
        have x5 := cell_of_block y2 5
        have xc := HCV.out w' y1
        simp at x3 x5
        go_simp
        exact hK
      simp only [Act.put, List.setIfInBounds_toArray, List.set_cons_succ, List.set_cons_zero]
      refine takeR_cons rfl rfl (.pointer (some ⟨bc, 5, none⟩)) ?_ ?_
      · rintro w' ⟨y1, y2⟩ K Q hK
        have x3 := cell_of_block y2 3
        have x5 := cell_of_block y2 5
        have xc := HCV.out w' y1
        simp at x3 x5
        go_simp
        exact hK
      simp only [Act.put, List.setIfInBounds_toArray, List.set_cons_succ, List.set_cons_zero]
      refine takeR_cons rfl rfl (.bool c.bad) ?_ ?_
      · rintro w' ⟨y1, y2⟩ K Q hK
        have x3 := cell_of_block y2 3
        have x5 := cell_of_block y2 5
        have xc := HCV.out w' y1
        simp at x3 x5
        go_simp
        exact hK
      simp only [Act.put, List.setIfInBounds_toArray, List.set_cons_succ, List.set_cons_zero]
      refine takeR_cons rfl rfl (.pointer (some ⟨bc, 3, none⟩)) ?_ ?_
      · rintro w' ⟨y1, y2⟩ K Q hK
        have x3 := cell_of_block y2 3
        have x5 := cell_of_block y2 5
        have xc := HCV.out w' y1
        simp at x3 x5
        go_simp
        exact hK
      simp only [Act.put, List.setIfInBounds_toArray, List.set_cons_succ, List.set_cons_zero]
      refine takeR_cons rfl rfl (.slice ad3 m cap3) ?_ ?_
      · rintro w' ⟨y1, y2⟩ K Q hK
        have x3 := cell_of_block y2 3
        have x5 := cell_of_block y2 5
        have xc := HCV.out w' y1
        simp at x3 x5
        go_simp
        exact hK
      simp only [Act.put, List.setIfInBounds_toArray, List.set_cons_succ, List.set_cons_zero]
      refine takeR_cons rfl rfl (.string c.data) ?_ ?_
      · rintro w' ⟨y1, y2⟩ K Q hK
        have x3 := cell_of_block y2 3
        have x5 := cell_of_block y2 5
        have xc := HCV.out w' y1
        simp at x3 x5
        go_simp
        exact hK
      simp only [Act.put, List.setIfInBounds_toArray, List.set_cons_succ, List.set_cons_zero]
      refine wpSp_cons rfl rfl fun K hK => ?_
      go_simp
      refine (flag_any (.slice (some ⟨lb, 0, none⟩) 9 9) (cpA c) ⟨#[98, 97, 100]⟩ c.bad wr.heap.size w6.drew HT6.out HK6.out.size (show 9 ≤ 1000000 by decide)).mono ?_
      rintro e w7 ⟨v7, rfl, ht7, hk7⟩
      have hw7 : Keep [] wr w7 := HK6.out.drew.trans hk7 (fun x hx => .inr (HT6.out.lt x (by simpa using hx)).1)
      have hb7 : w7.heap[bc]? = _ := hk7.at_ (w := w7) HB6.out (own_not_ty HT6.out HB6.out (by decide))
      obtain ⟨ys, hys⟩ : ∃ ys, ys = cpA c ++ (if c.bad = true then [Tok.str ⟨#[98, 97, 100]⟩] else []) := ⟨_, rfl⟩
      rw [← hys] at ht7
      obtain ⟨ad7, cap7, hv7⟩ := ht7.sl.empty
      have hyl : ys.length ≤ 10 := by
        rw [hys]
        unfold cpA
        split <;> simp
      have HTY := Lib.hid (show cpT c = ys ++ [.str (quo c.data)] by rw [hys]; rfl)
      subst hv7
      have HW7 := Lib.hid hw7
      have HB7 := Lib.hid hb7
      have HT7 := Lib.hid ht7
      have HI7 := Lib.hid (HIR.out.keep hw7)
      clear ht7 hk7 hw7 hb7 hys
      refine hK _ _ ⟨HI7.out.1, HB7.out⟩ ?_
      try simp only [Act.put, List.setIfInBounds_toArray, List.set_cons_succ, List.set_cons_zero]
      clear hK K
      refine wpSp_cons rfl rfl fun K hK => ?_
      go_simp
      refine (quote_any c.data _ (by have := HCK.out.2.2.2.2; omega) (HT.out.keep0 HI7.out.1).1).mono ?_
      rintro e w8 ⟨rfl, hk8⟩
      have HI8 := Lib.hid (HI7.out.keep hk8)
      have HB8 := Lib.hid (hk8.at_ HB7.out (by simp))
      have HT8 := Lib.hid (HT7.out.keep hk8 (by simp))
      have HW8 := Lib.hid (HW7.out.trans0 hk8)
      clear hk8
      obtain ⟨q, hq⟩ : ∃ q, q = quo c.data := ⟨_, rfl⟩
      have HQ := Lib.hid hq
      rw [← hq]
      clear hq
      refine hK _ _ ⟨HI8.out.1, HB8.out⟩ ?_
      try simp only [Act.put, List.setIfInBounds_toArray, List.set_cons_succ, List.set_cons_zero]
      clear hK K
      refine wpSp_cons rfl rfl fun K hK => ?_
      go_simp
      refine hK _ _ ⟨HI8.out.1, HB8.out⟩ ?_
      try simp only [Act.put, List.setIfInBounds_toArray, List.set_cons_succ, List.set_cons_zero]
      clear hK K
      refine wpSp_cons rfl rfl fun K hK => ?_
      go_simp
      have k8 : Keep [] w8 (w8.alloc (.cells #[.iface 9 (.string q)] 20)) := (Keep.refl _ _).alloc _
      obtain ⟨v9, w9, hap, hpost⟩ := any_append (W := w8) [.str q] HT8.out HW8.out.size (by simp; omega)
      have hap' : (Builtin.append_ #[89, 89] 89 #[.slice ad7 ys.length cap7, .slice (some ⟨w8.heap.size, 0, none⟩) 1 1]).run Tryz.prog (w8.alloc (.cells #[.iface 9 (.string q)] 20)) = .ok v9 w9 := hap
      refine hK _ _ ⟨HI8.out.1.trans0 k8, k8.at_ HB8.out (by simp)⟩ ?_
      try simp only [Act.put, List.setIfInBounds_toArray, List.set_cons_succ, List.set_cons_zero]
      clear hK K
      have hw9 : Keep [] wr w9 := (HW8.out.trans0 k8).trans hpost.2.1 (fun x hx => .inr (HT8.out.lt x (by simpa using hx)).1)
      have HI9 := Lib.hid (HIR.out.keep hw9)
      have hb9 : w9.heap[bc]? = _ := hpost.2.1.at_ (k8.at_ HB8.out (by simp)) (own_not_ty HT8.out HB8.out (by decide))
      have HB9 := Lib.hid hb9
      have HT9 := Lib.hid (show Toks w9 wr.heap.size v9 (cpT c) by rw [HTY.out, ← HQ.out]; exact Toks.app hpost)
      clear hpost hw9 hb9 k8 hap
      refine wpSp_cons rfl rfl fun K hK => ?_
      refine wp_append_eq _ _ _ rfl rfl rfl hap' (hK _ _ ⟨HI9.out.1, HB9.out⟩ ?_)
      try simp only [Act.put, List.setIfInBounds_toArray, List.set_cons_succ, List.set_cons_zero]
      clear hK K hap'
      refine wpSp_cons rfl rfl fun K hK => ?_
      go_simp
      have hlp := line_put HI9.out.1 (by omega) HI9.out.2.1 HT9.out (cpT_ok HCK.out) (by have := cpT_len c; omega) HSZ.out HT.out HI9.out.2.2.2.2
      rw [← HG.out] at hlp
      refine hlp.mono ?_
      rintro e w10 ⟨rfl, hw10⟩
      have hi10 := HI9.out.wrote (by rw [← HG.out]; exact hw10)
      rw [← HTK.out] at hi10
      have HI10 := Lib.hid hi10
      have hb10 := hw10.at_ HB9.out (by have := HBC.out; have := HG.out; omega) (by decide)
      refine hK _ _ ⟨HI10.out.1, hb10⟩ ?_
      try simp only [Act.put, List.setIfInBounds_toArray, List.set_cons_succ, List.set_cons_zero]
      clear hK K hlp hw10 hb10 hi10
      refine hQ0 _ _ ?_
      clear hQ0 Q0
      go_wp2
      go_roundw
      case rel => exact ⟨k + 1, by go_num, by have := HLT.out; omega, HI10.out⟩
      case measure => have := HLT.out; simp [intOf]; omega
    · obtain rfl : k = n := by omega
      have g1 := dec_lt_f (show ¬ (k : Int) < (k : Int) by omega)
      have g2 := dec_ltn_f hlt
      have hfi : tl ++ cpsB (cps.take k) = lineB' [Tok.str a0] ++ cpsB cps := by rw [List.take_of_length_le (by rw [HN.out]; exact Nat.le_refl _), HTL.out]
      rw [hfi] at HIR
      clear hlt hfi
      go_wp2_with fail
      have hbu := HIR.out.2.1
      rw [← HG.out] at hbu
      refine (Tryz.Builder_String_any_k (G + 2) (G + 2) _ _ hbu.builder (by obtain ⟨_, _, hq, _⟩ := hbu; have := lt_of_block hq; omega)).mono ?_
      rintro r W6 ⟨rfl, _, hb, _⟩
      have HK6 := Lib.hid (keep_below HIR.out.1 hb (by have := HG.out; omega))
      clear hb
      go_wp2
      go_ret
      exact ⟨rfl, HK6.out⟩
end Go.Proofs.YtbidppjhenfjdaaGreatDoor
namespace Go.Proofs.YtbidppjhenfjdaaGreatDoor
open Go.RowKit
set_option linter.unusedVariables false
set_option linter.unusedSimpArgs false

def remF : Nat → ByteArray → Nat → Nat
  | 0, _, i => i
  | n + 1, s, i => if i < s.size ∧ byt s i ≠ 10 ∧ byt s i ≠ 13 then remF n s (i + 1) else i
theorem remF_eq (s : ByteArray) : ∀ (n i : Nat), s.size - i ≤ n → remF n s i = rem s i := by
  intro n
  induction n with
  | zero => intro i h; rw [rem_end (by omega)]; rfl
  | succ n ih =>
    intro i h
    unfold remF
    by_cases hc : i < s.size ∧ byt s i ≠ 10 ∧ byt s i ≠ 13
    · rw [if_pos hc, rem_on hc, ih (i + 1) (by omega)]
    · rw [if_neg hc, rem_end hc]
def pwF : Nat → ByteArray → Nat → Nat × Nat
  | 0, _, i => (i, 0)
  | n + 1, s, i => if endB s i = true then (i, 0) else if (dec s i).1 = 34 then (i, 18) else if wid s i = 0 ∨ (dec s i).1 < 32 ∨ (dec s i).1 = 127 then (i, 2) else pwF n s (i + (dec s i).2)
theorem pwF_eq (s : ByteArray) : ∀ (n i : Nat), s.size - i ≤ n → pwF n s i = pw s i := by
  intro n
  induction n with
  | zero => intro i h; rw [pw_end (endB_yes (.inl (by omega)))]; rfl
  | succ n ih =>
    intro i h
    unfold pwF
    cases he : endB s i with
    | true => rw [if_pos rfl, pw_end he]
    | false =>
      rw [if_neg (by simp)]
      by_cases h1 : (dec s i).1 = 34
      · rw [if_pos h1, pw_quote he h1]
      · rw [if_neg h1]
        by_cases h2 : wid s i = 0 ∨ (dec s i).1 < 32 ∨ (dec s i).1 = 127
        · rw [if_pos h2, pw_bad he h1 h2]
        · have hlt := (endB_lt he).1
          have hn := dec_n hlt
          rw [if_neg h2, pw_on he h1 h2, ih _ (by omega)]
def qdF : Nat → ByteArray → Nat → ByteArray → Bool × ByteArray × Nat
  | 0, s, _, _ => (false, ByteArray.empty, s.size)
  | n + 1, s, i, b =>
    if i < s.size then
      if byt s i = 34 then (true, b, i + 1)
      else if byt s i = 92 then
        (if (esc (s.extract (i + 1) s.size)).2 = 0 then (false, ByteArray.empty, i) else qdF n s (i + 1 + (esc (s.extract (i + 1) s.size)).2) (b ++ (esc (s.extract (i + 1) s.size)).1))
      else if wid s i = 0 ∨ (dec s i).1 < 32 ∨ (dec s i).1 = 127 then (false, ByteArray.empty, i)
      else qdF n s (i + (dec s i).2) (b ++ Utf8.encode ((dec s i).1 : Nat))
    else (false, ByteArray.empty, s.size)
theorem qdF_eq (s : ByteArray) : ∀ (n i : Nat) (b : ByteArray), s.size - i ≤ n → qdF n s i b = qd s i b := by
  intro n
  induction n with
  | zero => intro i b h; rw [qd_end b (by omega)]; rfl
  | succ n ih =>
    intro i b h
    unfold qdF
    by_cases h0 : i < s.size
    · rw [if_pos h0]
      by_cases h1 : byt s i = 34
      · rw [if_pos h1, qd_q b h0 h1]
      · rw [if_neg h1]
        by_cases h2 : byt s i = 92
        · rw [if_pos h2]
          by_cases h3 : (esc (s.extract (i + 1) s.size)).2 = 0
          · rw [if_pos h3, qd_bad b h0 h2 h3]
          · rw [if_neg h3, qd_esc b h0 h2 h3, ih _ _ (by omega)]
        · rw [if_neg h2]
          by_cases h3 : wid s i = 0 ∨ (dec s i).1 < 32 ∨ (dec s i).1 = 127
          · rw [if_pos h3, qd_off b h0 h1 h2 h3]
          · have hn := dec_n h0
            rw [if_neg h3, qd_on b h0 h1 h2 h3, ih _ _ (by omega)]
    · rw [if_neg h0, qd_end b h0]
def plFF (n : Nat) (s : ByteArray) (a l : Nat) : Fn × Option Nat :=
  if (pwF n s a).2 ≠ 0 then (⟨0, ByteArray.empty, 0, (pwF n s a).1, l, (pwF n s a).2⟩, none)
  else if numB (s.extract a (pwF n s a).1) = false then (⟨1, s.extract a (pwF n s a).1, 0, a, l, 0⟩, some (pwF n s a).1)
  else match numT (s.extract a (pwF n s a).1).data.toList with
    | none => (⟨0, ByteArray.empty, 0, a, l, 6⟩, none)
    | some v => (⟨3, ByteArray.empty, v, a, l, 0⟩, some (pwF n s a).1)
theorem plFF_eq {n : Nat} {s : ByteArray} {a l : Nat} (h : s.size - a ≤ n) : plFF n s a l = plF s a l := by
  unfold plFF plF
  rw [pwF_eq s n a h]
  rfl
def qtdF (n : Nat) (s : ByteArray) (i : Nat) : Bool × ByteArray × Nat := if i < s.size ∧ byt s i = 34 then qdF n s (i + 1) ByteArray.empty else (false, ByteArray.empty, i)
theorem qtdF_eq {n : Nat} {s : ByteArray} {i : Nat} (h : s.size - i ≤ n) : qtdF n s i = qtd s i := by
  unfold qtdF qtd
  rw [qdF_eq s n (i + 1) _ (by omega)]
def scnF : Nat → ByteArray → Nat → Nat → Bool → List Fn
  | 0, _, a, l, sm => endF sm a l
  | n + 1, s, a, l, sm =>
    if a < s.size then
      if byt s a = 10 ∨ byt s a = 13 then endF sm a l ++ scnF n s (lineB s a) (l + 1) false
      else if byt s a = 32 ∨ byt s a = 9 then scnF n s (a + 1) l sm
      else if byt s a = 35 then scnF n s (remF (n + 1) s a) l sm
      else if byt s a ≠ 34 then
        (match plFF (n + 1) s a l with
        | (f, none) => [f]
        | (f, some e) => f :: scnF n s e l true)
      else
        (match qtdF (n + 1) s a with
        | (false, _, e) => [⟨0, ByteArray.empty, 0, e, l, 18⟩]
        | (true, x, e) => if endB s e = true then ⟨2, x, 0, a, l, 0⟩ :: scnF n s e l true else [⟨0, ByteArray.empty, 0, e, l, 18⟩])
    else endF sm a l
theorem scnF_eq (s : ByteArray) : ∀ (n a l : Nat) (sm : Bool), s.size - a ≤ n → a ≤ s.size → scnF n s a l sm = scn s a l sm := by
  intro n
  induction n with
  | zero => intro a l sm h ha; rw [scn_over (by omega)]; rfl
  | succ n ih =>
    intro a l sm h ha
    unfold scnF
    by_cases h0 : a < s.size
    · rw [if_pos h0]
      by_cases h1 : byt s a = 10 ∨ byt s a = 13
      · have hm := lineB_more h0
        rw [if_pos h1, scn_line h0 h1, ih _ _ _ (by omega) hm.2]
      · rw [if_neg h1]
        by_cases h2 : byt s a = 32 ∨ byt s a = 9
        · rw [if_pos h2, scn_blank h0 h2, ih _ _ _ (by omega) (by omega)]
        · rw [if_neg h2]
          by_cases h3 : byt s a = 35
          · have h4 := rem_on (s := s) (i := a) ⟨h0, by omega, by omega⟩
            have h5 := rem_spec s s.size (a + 1) (by omega) (by omega)
            rw [if_pos h3, remF_eq s (n + 1) a h, scn_rem h0 h3, ih _ _ _ (by omega) (by omega)]
          · have hw : WordAt s a := ⟨h0, by omega, by omega, by omega, by omega, h3⟩
            rw [if_neg h3]
            by_cases h4 : byt s a ≠ 34
            · rw [if_pos h4, plFF_eq h]
              obtain ⟨⟨f, o⟩, hp⟩ : ∃ r, plF s a l = r := ⟨_, rfl⟩
              rw [hp]
              cases o with
              | none => rw [scn_bad hw h4 hp]
              | some e =>
                have hm := plF_more (s := s) (a := a) (l := l) (e := e) hw.ends (by rw [hp])
                simp only
                rw [scn_plain hw h4 hp, ih _ _ _ (by omega) hm.2]
            · have h5 : byt s a = 34 := by simpa using h4
              rw [if_neg h4, qtdF_eq h]
              obtain ⟨⟨ok, x, e⟩, hq⟩ : ∃ r, qtd s a = r := ⟨_, rfl⟩
              rw [hq]
              cases ok with
              | false => rw [scn_unq hw h5 hq (.inl rfl)]
              | true =>
                simp only
                cases he : endB s e with
                | false =>
                  rw [if_neg (by simp), scn_unq hw h5 hq (.inr he)]
                | true =>
                  have hm := qtd_more hq
                  rw [if_pos rfl, scn_quote hw h5 hq he, ih _ _ _ (by omega) hm.2]
    · rw [if_neg h0, scn_over h0]
def cutF : Nat → ByteArray → Nat → List Nat
  | 0, _, _ => []
  | n + 1, s, i => if i < s.size then i :: cutF n s (i + (dec s i).2) else []
theorem cutF_eq (s : ByteArray) : ∀ (n i : Nat), s.size - i ≤ n → cutF n s i = cut s i := by
  intro n
  induction n with
  | zero => intro i h; rw [cut_end (by omega)]; rfl
  | succ n ih =>
    intro i h
    unfold cutF
    by_cases h0 : i < s.size
    · have hn := dec_n h0
      rw [if_pos h0, cut_step h0, ih _ (by omega)]
    · rw [if_neg h0, cut_end h0]
theorem quo_eq (s : ByteArray) (n : Nat) (h : s.size ≤ n) : quo s = one 34 ++ qcat s (cutF n s 0) ++ one 34 := by
  unfold quo
  rw [cutF_eq s n 0 (by omega)]
/-- Are steps the same? -/
def stE (a b : Stp) : Bool := a.kind == b.kind && a.site == b.site && a.peer == b.peer && a.unit == b.unit && a.at_ == b.at_ && a.n == b.n && decide (a.text = b.text) && decide (a.draws = b.draws) && decide (a.data = b.data)
theorem stE_eq {a b : Stp} (h : stE a b = true) : a = b := by
  obtain ⟨_, _, _, _, _, _, _, _, _⟩ := a
  obtain ⟨_, _, _, _, _, _, _, _, _⟩ := b
  simp only [stE, Bool.and_eq_true, beq_iff_eq, decide_eq_true_eq] at h
  obtain ⟨⟨⟨⟨⟨⟨⟨⟨h1, h2⟩, h3⟩, h4⟩, h5⟩, h6⟩, h7⟩, h8⟩, h9⟩ := h
  subst h1; subst h2; subst h3; subst h4; subst h5; subst h6; subst h7; subst h8; subst h9
  rfl
def stsE : List Stp → List Stp → Bool
  | [], [] => true
  | a :: A, b :: B => stE a b && stsE A B
  | _, _ => false
theorem stsE_eq : ∀ {A B : List Stp}, stsE A B = true → A = B
  | [], [], _ => rfl
  | [], _ :: _, h => by cases h
  | _ :: _, [], h => by cases h
  | a :: A, b :: B, h => by
    simp only [stsE, Bool.and_eq_true] at h
    rw [stE_eq h.1, stsE_eq h.2]
/-- The first text of the document, and the second. -/
def kn1 : ByteArray := ⟨#[105, 110, 115, 101, 114, 116, 32, 49, 32, 48, 32, 34, 104, 92, 117, 123, 101, 57, 125, 34, 10, 35, 32, 120, 10, 116, 105, 99, 107, 32, 50, 32, 45, 49, 10]⟩
def kn2 : ByteArray := ⟨#[10, 108, 101, 97, 118, 101, 10]⟩
def kS1 : Stp := { Stp.zero 1 with site := 1, text := ⟨#[104, 195, 169]⟩ }
def kS2 : Stp := { Stp.zero 6 with draws := [2, -1] }
theorem prs_kn1 : prsT kn1 = ([kS1, kS2], 0, 0) := by
  have h1 : stsE (prs (scnF 60 kn1 0 1 false) [] []).1 [kS1, kS2] = true := by decide +kernel
  have h2 : (prs (scnF 60 kn1 0 1 false) [] []).2 = (0, 0) := by decide +kernel
  rw [scnF_eq kn1 60 0 1 false (by decide) (Nat.zero_le _)] at h1 h2
  have h3 := stsE_eq h1
  unfold prsT
  exact Prod.ext h3 h2
theorem prs_kn2 : prsT kn2 = ([], 2, 19) := by
  have h1 : stsE (prs (scnF 10 kn2 0 1 false) [] []).1 [] = true := by decide +kernel
  have h2 : (prs (scnF 10 kn2 0 1 false) [] []).2 = (2, 19) := by decide +kernel
  rw [scnF_eq kn2 10 0 1 false (by decide) (Nat.zero_le _)] at h1 h2
  have h3 := stsE_eq h1
  unfold prsT
  exact Prod.ext h3 h2
end Go.Proofs.YtbidppjhenfjdaaGreatDoor
namespace Go.Proofs.YtbidppjhenfjdaaGreatDoor
open Go.RowKit
set_option linter.unusedVariables false
set_option linter.unusedSimpArgs false

set_option maxHeartbeats 8000000 in
set_option maxRecDepth 100000 in
theorem ints_any (A : List Int) (v1 v2 : Value) (W : World) (h1 : SlAt W v1 A.length (intsV A)) (h2 : SlAt W v2 A.length (intsV A)) (hn : A.length ≤ 1000000) :
    Calls Tryz.prog 18 #[v1, v2] W fun e W' => e = .returned (.bool true) ∧ Keep [] W W' := by
  have H1 := Lib.hid h1
  have H2 := Lib.hid h2
  obtain ⟨ad1, cap1, hv1⟩ := h1.empty
  obtain ⟨ad2, cap2, hv2⟩ := h2.empty
  subst hv1
  subst hv2
  clear h1 h2
  obtain ⟨n, hnl⟩ : ∃ n, n = A.length := ⟨_, rfl⟩
  rw [← hnl] at H1 H2 hn ⊢
  have HN := Lib.hid hnl
  clear hnl
  go_enter Tryz.func18, Tryz.ntmps18
  go_upto_region 4 with (fail)
  go_loopw [5] (fun iv wr => ∃ k : Nat, iv = .int .i64 k ∧ k ≤ n ∧ Keep [] W wr) (fun iv _ => n - (intOf iv).toNat)
  case atStart => exact ⟨0, rfl, Nat.zero_le _, Keep.refl _ _⟩
  case round =>
    rename World => wr
    obtain ⟨k, rfl, hk, hkr⟩ := hrel
    have HKR := Lib.hid hkr
    clear hkr
    by_cases hlt : k < n
    · have HLT := Lib.hid hlt
      have g1 := dec_lt_t (show (k : Int) < (n : Int) by omega)
      have g2 := dec_ltn_t hlt
      have hkL : k < A.length := by rw [← HN.out]; exact hlt
      obtain ⟨b1, o1, c1, e1, q1⟩ := (H1.out.keep0 HKR.out).at_ (by omega)
      obtain ⟨b2, o2, c2, e2, q2⟩ := (H2.out.keep0 HKR.out).at_ (by omega)
      injection e1 with e1 f1 f2
      injection e2 with e2 f3 f4
      subst e1
      subst e2
      clear f1 f2 f3 f4
      have x1 := q1 k (.int .i64 A[k]) (by unfold intsV; rw [List.getElem?_map, List.getElem?_eq_getElem hkL]; rfl)
      have x2 := q2 k (.int .i64 A[k]) (by unfold intsV; rw [List.getElem?_map, List.getElem?_eq_getElem hkL]; rfl)
      generalize A[k] = x at x1 x2
      have g3 : (x != x) = false := by simp
      clear q1 q2 hkL
      go_upto_region 6 with (fail)
      refine (wpIn_wide (n := 0)).1 ?_
      refine wpIn_fix (.inl rfl) 8 [] (fun _ => wr.drew) (fun w' => w'.cell? ⟨b1, o1 + k, none⟩ = some (.int .i64 x) ∧ w'.cell? ⟨b2, o2 + k, none⟩ = some (.int .i64 x))
        [.slice (some ⟨b1, o1, none⟩) n cap1, .int .i64 (k : Nat), .pointer (some ⟨b1, o1 + k, none⟩), .int .i64 x, .slice (some ⟨b2, o2, none⟩) n cap2, .int .i64 (k : Nat), .pointer (some ⟨b2, o2 + k, none⟩), .int .i64 x]
        (by kernel_rfl) (by kernel_rfl) rfl rfl rfl (fun _ _ => ⟨x1, x2⟩) ?rest6
      case rest6 =>
        intro A' hA
        simp only [putVals, List.take, Act.put, List.setIfInBounds_toArray, List.set_cons_succ, List.set_cons_zero] at hA
        subst hA
        refine ⟨?_, fixWrites_nil, ?_⟩
        · iterate 8
            refine fixReads_cons rfl ?_ ?_
            · intro w1 hw1 K Q hK
              obtain ⟨y1, y2⟩ := hw1
              go_simp
              exact hK
          exact fixReads_nil
        · simp only [List.drop]
          gi_wp2
          go_wp2
          go_roundw
          case rel => exact ⟨k + 1, by go_num, by have := HLT.out; omega, HKR.out.drew⟩
          case measure => have := HLT.out; simp [intOf]; omega
    · obtain rfl : k = n := by omega
      have g1 := dec_lt_f (show ¬ (k : Int) < (k : Int) by omega)
      have g2 := dec_ltn_f hlt
      clear hlt
      go_wp2
      go_ret
      exact ⟨rfl, HKR.out⟩

end Go.Proofs.YtbidppjhenfjdaaGreatDoor
namespace Go.Proofs.YtbidppjhenfjdaaGreatDoor
open Go.RowKit
set_option linter.unusedVariables false
set_option linter.unusedSimpArgs false

def kn3 : ByteArray := ⟨#[105, 110, 115, 101, 114, 116, 32, 49, 32, 48, 32, 34, 104, 195, 169, 34, 10, 116, 105, 99, 107, 32, 50, 32, 45, 49, 10]⟩
def kn4 : ByteArray := ⟨#[100, 114, 111, 112, 32, 55, 10, 32, 32, 99, 111, 112, 121, 32, 55, 32, 102, 114, 111, 109, 32, 49, 32, 116, 111, 32, 50, 32, 115, 101, 110, 116, 32, 52, 32, 98, 97, 100, 32, 34, 92, 120, 48, 49, 34, 10]⟩
def kd7 : ByteArray := ⟨#[100, 114, 111, 112, 32, 55]⟩
def kS3 : Stp := { Stp.zero 8 with n := 7 }
def kC : Cpy := ⟨7, 1, 2, ⟨#[1]⟩, 4, true⟩
theorem quo_h : quo ⟨#[104, 195, 169]⟩ = ⟨#[34, 104, 195, 169, 34]⟩ := by
  rw [quo_eq _ 3 (by decide)]
  decide +kernel
theorem quo_1 : quo ⟨#[1]⟩ = ⟨#[34, 92, 120, 48, 49, 34]⟩ := by
  rw [quo_eq _ 1 (by decide)]
  decide +kernel
theorem say_k1 : sayO kS1 = some ⟨#[105, 110, 115, 101, 114, 116, 32, 49, 32, 48, 32, 34, 104, 195, 169, 34]⟩ := by
  have h := sayO_at (s := kS1) (i := 0) (by decide) rfl
  rw [h]
  have e : sayW (0 + 1) kS1 = [tabW 1, itB 1, itB 0, quo ⟨#[104, 195, 169]⟩] := rfl
  rw [e, quo_h]
  have h2 : joinB [tabW 1, itB 1, itB 0, ⟨#[34, 104, 195, 169, 34]⟩] = ⟨#[105, 110, 115, 101, 114, 116, 32, 49, 32, 48, 32, 34, 104, 195, 169, 34]⟩ := by decide +kernel
  rw [h2]
theorem say_k2 : sayO kS2 = some ⟨#[116, 105, 99, 107, 32, 50, 32, 45, 49]⟩ := by
  have h := sayO_at (s := kS2) (i := 5) (by decide) rfl
  rw [h]
  have e : sayW (5 + 1) kS2 = [tabW 6, itB 2, itB (-1)] := rfl
  rw [e]
  have h2 : joinB [tabW 6, itB 2, itB (-1)] = ⟨#[116, 105, 99, 107, 32, 50, 32, 45, 49]⟩ := by decide +kernel
  rw [h2]
theorem say_k3 : sayO kS3 = some kd7 := by
  have h := sayO_at (s := kS3) (i := 7) (by decide) rfl
  rw [h]
  have e : sayW (7 + 1) kS3 = [tabW 8, itB 7] := rfl
  rw [e]
  have h2 : joinB [tabW 8, itB 7] = kd7 := by decide +kernel
  rw [h2]
theorem prn_k : prn [kS1, kS2] = some kn3 := by
  unfold prn
  rw [say_k1]
  unfold prn
  rw [say_k2]
  unfold prn
  simp only [Option.map_some]
  decide +kernel
theorem tell_k : lineB' [Tok.str kd7] ++ cpsB [kC] = kn4 := by
  have e : cpT kC = cpA kC ++ [.str ⟨#[98, 97, 100]⟩] ++ [.str (quo ⟨#[1]⟩)] := rfl
  unfold cpsB cpsB
  rw [e, quo_1]
  decide +kernel
theorem k_small : StpsOk [kS1, kS2] := by
  intro s hs
  simp only [List.mem_cons, List.not_mem_nil, or_false] at hs
  rcases hs with rfl | rfl
  · exact ⟨by unfold StpOk I64; decide, by unfold StpSmall; decide⟩
  · exact ⟨by unfold StpOk I64; decide, by unfold StpSmall; decide⟩

theorem parse_kn1 (W : World) (hT : TQ W) : Calls Tryz.prog 7 #[.string kn1] W fun e W' => ∃ ad cap, e = .returned (.tuple #[.slice ad 2 cap, .int .i64 0, .int .i64 0]) ∧ Keep [] W W' ∧ Steps W' (.slice ad 2 cap) [kS1, kS2] := by
  refine (parse_any kn1 W (by decide) hT).mono ?_
  rintro e w1 ⟨v, cs, bs, he, hk1, ho, hr, _⟩
  rw [prs_kn1] at ho hr he
  obtain ⟨ad, cap, hv⟩ := (SlAt.of_owns ho).empty
  subst hv
  exact ⟨ad, cap, he, hk1, hr.steps ho⟩
theorem parse_kn2 (W : World) (hT : TQ W) : Calls Tryz.prog 7 #[.string kn2] W fun e W' => e = .returned (.tuple #[.slice none 0 0, .int .i64 2, .int .i64 19]) ∧ Keep [] W W' := by
  refine (parse_any kn2 W (by decide) hT).mono ?_
  rintro e w1 ⟨v, cs, bs, he, hk1, _, _, _, _, hv⟩
  rw [prs_kn2] at hv he
  obtain rfl := hv.2 rfl
  exact ⟨he, hk1⟩
theorem print_k (v : Value) (W : World) (h : Steps W v [kS1, kS2]) (hT : TQ W) : Calls Tryz.prog 12 #[v] W fun e W' => e = .returned (.tuple #[.string kn3, .int .i64 0]) ∧ Keep [] W W' := by
  have h := print_any v [kS1, kS2] W h k_small (by decide) hT
  rw [prn_k] at h
  exact h
/-- The third text is told. -/
theorem tellk (g1 g2 : Nat) (W : World) (h1 : W.heap[g1]? = some (.cells #[.int .u8 1] 5 (0, 0))) (h2 : W.heap[g2]? = some (.cells #[.int .i64 7, .int .i64 1, .int .i64 2, .slice (some ⟨g1, 0, none⟩) 1 1, .int .i64 4, .bool true] 60 (0, 0))) (hT : TQ W) :
    Calls Tryz.prog 16 #[.agg (stV kS3 (.slice none 0 0) (.slice none 0 0)), .agg (ansV 0 ⟨#[]⟩ 0 0 (.slice none 0 0) 0 0 0 0 0 ⟨#[]⟩ (.slice none 0 0) 0 0 false false (.slice none 0 0) (.slice none 0 0) 0 0 (.slice none 0 0) 0 0 (.slice none 0 0) 0 (.slice none 0 0) (.slice (some ⟨g2, 0, none⟩) 1 1))] W fun e W' => e = .returned (.string kn4) ∧ Keep [] W W' := by
  have h0 : SlAt W (.slice none 0 0) 0 [] := ⟨none, 0, rfl, ⟨fun _ => rfl, fun _ => rfl⟩, fun h => absurd rfl h⟩
  have h := tell0_any kS3 kd7 (.slice none 0 0) (.slice none 0 0) ⟨#[]⟩ 0 0 (.slice none 0 0) 0 0 0 0 ⟨#[]⟩ (.slice none 0 0) 0 false false (.slice none 0 0) (.slice none 0 0) 0 0 (.slice none 0 0) 0 0 (.slice none 0 0) 0 (.slice none 0 0) (.slice (some ⟨g2, 0, none⟩) 1 1) [kC] W ⟨h0, h0⟩
    (by unfold StpOk I64; decide) (by unfold StpSmall; decide) say_k3 (by decide) ⟨_, _, rfl, fun _ => ⟨g2, 0, rfl, fun k hk => by
      have hk0 : k = 0 := by simpa using hk
      subst hk0
      refine ⟨some ⟨g1, 0, none⟩, 1, ⟨_, _, rfl, ⟨fun h => absurd h (show ¬ (1 : Nat) = 0 by decide), fun h => by cases h⟩, fun _ => ⟨g1, 0, rfl, fun i u hu => ?_⟩⟩, fun j u hj => ?_⟩
      · have hi : i = 0 := by
          have h1 := (List.getElem?_eq_some_iff.1 hu).1
          rw [bytV_len] at h1
          have h2 : (kC.data).size = 1 := rfl
          have h3 : ([kC][0]).data.size = 1 := rfl
          omega
        subst hi
        rw [cell_of_block h1]
        exact hu
      · rw [cell_of_block h2, Nat.zero_mul, Nat.zero_add]
        first | exact hj | (rw [Nat.zero_add]; exact hj)⟩⟩
    (fun c hc => by simp only [List.mem_cons, List.not_mem_nil, or_false] at hc; subst hc; unfold CpyOk I64; decide) (by
      have h1 := tell_k
      have h2 := congrArg ByteArray.size h1
      have h3 : kn4.size ≤ 100 := by decide +kernel
      have h4 : kd7.size = 6 := by decide +kernel
      rw [ByteArray.size_append] at h2
      omega) (by decide) hT
  rw [tell_k] at h
  exact h

set_option maxHeartbeats 16000000 in
set_option maxRecDepth 100000 in
theorem known_true (W : World) (hT : TQ W) : Calls Tryz.prog 6 #[] W fun e W' => e = .returned (.bool true) ∧ Keep [] W W' := by
  have HT := Lib.hid hT
  clear hT
  go_enter Tryz.func6, Tryz.ntmps6
  go_wp2_with fail
  refine (parse_kn1 W HT.out).mono ?_
  rintro e w1 ⟨ad, cap, rfl, hk1, hst⟩
  have HST := Lib.hid hst
  have HK1 := Lib.hid hk1
  clear hst hk1
  go_wp2_with fail
  refine (print_k _ _ HST.out (HT.out.keep0 HK1.out)).mono ?_
  rintro e w2 ⟨rfl, hk2⟩
  have HK2 := Lib.hid (HK1.out.trans0 hk2)
  have HST2 := Lib.hid (HST.out.keep0 hk2)
  obtain ⟨x3, hx3⟩ : ∃ x3, x3 = kn3 := ⟨_, rfl⟩
  have g3 : (x3.toList == [105, 110, 115, 101, 114, 116, 32, 49, 32, 48, 32, 34, 104, 195, 169, 34, 10, 116, 105, 99, 107, 32, 50, 32, 45, 49, 10]) = true := by rw [hx3]; decide +kernel
  rw [← hx3]
  clear hk2 HST HK1 hx3
  go_wp2_with fail
  refine (parse_kn2 _ (HT.out.keep0 HK2.out)).mono ?_
  rintro e w3 ⟨rfl, hk3⟩
  have HK3 := Lib.hid (HK2.out.trans0 hk3)
  have HST3 := Lib.hid (HST2.out.keep0 hk3)
  clear hk3 HST2 HK2
  go_wp2_with fail
  obtain ⟨w4, hw4⟩ : ∃ w4, w4 = (w3.alloc (.cells #[.int .u8 1] 5)).alloc (.cells #[.int .i64 7, .int .i64 1, .int .i64 2, .slice (some ⟨w3.heap.size, 0, none⟩) 1 1, .int .i64 4, .bool true] 60) := ⟨_, rfl⟩
  have hk4 : Keep [] w3 w4 := by rw [hw4]; exact ((Keep.refl _ _).alloc _).alloc _
  have hb1 : w4.heap[w3.heap.size]? = some (.cells #[.int .u8 1] 5 (0, 0)) := by rw [hw4]; exact ((Keep.refl [] _).alloc _).at_ (World.alloc_heap_new w3 _) (by simp)
  have hb2 : w4.heap[w3.heap.size + 1]? = some (.cells #[.int .i64 7, .int .i64 1, .int .i64 2, .slice (some ⟨w3.heap.size, 0, none⟩) 1 1, .int .i64 4, .bool true] 60 (0, 0)) := by
    rw [hw4]
    have h := World.alloc_heap_new (w3.alloc (.cells #[.int .u8 1] 5)) (.cells #[.int .i64 7, .int .i64 1, .int .i64 2, .slice (some ⟨w3.heap.size, 0, none⟩) 1 1, .int .i64 4, .bool true] 60)
    rwa [World.size_alloc] at h
  rw [← hw4]
  have HK4 := Lib.hid (HK3.out.trans0 hk4)
  have HST4 := Lib.hid (HST3.out.keep0 hk4)
  refine (tellk w3.heap.size (w3.heap.size + 1) w4 hb1 hb2 (HT.out.keep0 HK4.out)).mono ?_
  rintro e w5 ⟨rfl, hk5⟩
  have HK5 := Lib.hid (HK4.out.trans0 hk5)
  have hst5 := HST4.out.keep0 hk5
  obtain ⟨x4, hx4⟩ : ∃ x4, x4 = kn4 := ⟨_, rfl⟩
  have g4 : (x4.toList == [100, 114, 111, 112, 32, 55, 10, 32, 32, 99, 111, 112, 121, 32, 55, 32, 102, 114, 111, 109, 32, 49, 32, 116, 111, 32, 50, 32, 115, 101, 110, 116, 32, 52, 32, 98, 97, 100, 32, 34, 92, 120, 48, 49, 34, 10]) = true := by rw [hx4]; decide +kernel
  rw [← hx4]
  obtain ⟨gb, off, cp, e1, hel⟩ := Steps.elem hst5 (by decide)
  injection e1 with e1 f1 f2
  subst e1
  obtain ⟨a1, c1, a2, c2, r1, u1⟩ := hel 0 (by decide)
  obtain ⟨a3, c3, a4, c4, r2, u2⟩ := hel 1 (by decide)
  have y1 : w5.cell? ⟨gb, off + 6, none⟩ = some (.string ⟨#[104, 195, 169]⟩) := u1 6 _ rfl
  have y2 : w5.cell? ⟨gb, off + 9 + 7, none⟩ = some (.slice a3 2 c3) := u2 7 _ rfl
  have HR2 := Lib.hid r2
  have g5 : ((⟨#[104, 195, 169]⟩ : ByteArray).toList == [104, 195, 169]) = true := by decide +kernel
  generalize (⟨#[104, 195, 169]⟩ : ByteArray) = x5 at y1 g5
  clear hk4 hb1 hb2 hw4 hk5 hst5 hx4 hel r1 r2 u1 u2 f1 f2
  go_wp2_with fail
  have hb6 := World.alloc_heap_new w5 (.cells #[.int .i64 2, .int .i64 (-1)] 3)
  have k6 : Keep [] w5 (w5.alloc (.cells #[.int .i64 2, .int .i64 (-1)] 3)) := (Keep.refl _ _).alloc _
  refine (ints_any [2, -1] _ _ _ (HR2.out.1.keep0 k6) ⟨_, _, rfl, ⟨fun h => absurd h (show ¬ (2 : Nat) = 0 by decide), fun h => by cases h⟩, fun _ => ⟨w5.heap.size, 0, rfl, fun i u hu => by
    rw [Nat.zero_add, cell_of_block hb6]
    match i, hu with
    | 0, hu => exact hu
    | 1, hu => exact hu⟩⟩ (by decide)).mono ?_
  rintro e w6 ⟨rfl, hk6⟩
  have HK6 := Lib.hid ((HK5.out.trans0 k6).trans0 hk6)
  clear hb6 k6 hk6
  go_wp2
  go_ret
  exact ⟨rfl, HK6.out⟩
end Go.Proofs.YtbidppjhenfjdaaGreatDoor
