/-
  QuoteRises: whatever the text, the words that are found rise, and an error is the last thing; no condition but the five listed variables of the library.
-/
import Derived.Test.YtbmapellhcdipaaDoorScnP
import Derived.Test.YtbmapellhcdipaaDoorScnE
import Derived.Deep.CutRange
import Derived.Test.YtbmapellhcdipaaDoorQuoT
import Derived.Test.YtbmapellhcdipaaDoorCards
import Derived.Test.YtbmapellhcdipaaDoorTie
import Derived.Test.YtbmapellhcdipaaDoorScnF
import Derived.WalkKit
import Derived.ProofKit
import Derived.OpenShut
import Derived.Deep.DeepHandedRow
import Derived.Lib.LaidTab
import Derived.Lib.TrailingZeros
import Derived.Lib.ItoaNum
import Derived.SizedLaws
import Derived.Carry
import Derived.Stop.LaidErr
namespace Go.Proofs.YtbmapellhcdipaaDoor
open Go.RowKit
set_option linter.unusedVariables false
set_option linter.unusedSimpArgs false

/-- The last byte of what was found. -/
def lastAt (f : Fn) : Int := if f.k = 1 then (f.a : Int) + f.t.size - 1 else f.a
/-- What is found rises: behind a place, in a line, behind a word of a kind. -/
def rises (s : ByteArray) : Int → Nat → Nat → List Fn → Prop
  | _, _, kind, [] => kind = 4
  | at_, line, kind, f :: r =>
    (f.e ≠ 0 ∧ r = [] ∧ f.k = 0 ∧ f.t = ByteArray.empty ∧ f.n = 0 ∧ line ≤ f.l ∧ f.a ≤ s.size ∧ at_ ≤ f.a ∧ (f.e = 18 ∨ f.e = 2 ∨ f.e = 6)) ∨
    (f.e = 0 ∧ line ≤ f.l ∧ f.a ≤ s.size ∧ at_ < f.a ∧ (kind = 4 → f.k ≠ 4 ∧ (at_ < 0 ∨ line < f.l)) ∧ (kind ≠ 4 → f.l = line) ∧ (f.k = 1 ∨ f.k = 2 ∨ f.k = 3 ∨ f.k = 4) ∧ (f.k = 3 ∨ f.n = 0) ∧
      (f.k = 1 ∨ f.k = 2 ∨ f.t = ByteArray.empty) ∧ (f.k = 1 → f.t.size ≠ 0 ∧ f.a + f.t.size ≤ s.size ∧ s.extract f.a (f.a + f.t.size) = f.t) ∧ rises s (lastAt f) f.l f.k r)
theorem pw_codes (s : ByteArray) : ∀ (m i : Nat), s.size - i ≤ m → (pw s i).2 = 0 ∨ (pw s i).2 = 18 ∨ (pw s i).2 = 2 := by
  intro m
  induction m with
  | zero =>
    intro i hm
    rw [pw_end (endB_yes (.inl (by omega)))]
    exact .inl rfl
  | succ m ih =>
    intro i hm
    cases he : endB s i with
    | true => rw [pw_end he]; exact .inl rfl
    | false =>
      have hi := (endB_lt he).1
      by_cases h1 : (dec s i).1 = 34
      · rw [pw_quote he h1]; exact .inr (.inl rfl)
      · by_cases h2 : wid s i = 0 ∨ (dec s i).1 < 32 ∨ (dec s i).1 = 127
        · rw [pw_bad he h1 h2]; exact .inr (.inr rfl)
        · rw [pw_on he h1 h2]
          have hn := dec_n hi
          exact ih _ (by omega)
theorem qtd_place {s x : ByteArray} {a e : Nat} {ok : Bool} (ha : a < s.size) (h : qtd s a = (ok, x, e)) : a ≤ e ∧ e ≤ s.size := by
  unfold qtd at h
  split at h
  · rename_i h0
    have := qd_pos s (a + 1) ByteArray.empty (by omega)
    rw [h] at this
    exact ⟨by have := this.1; simp only at this; omega, this.2.1⟩
  · injection h with _ h
    injection h with _ h
    omega
/-- What a plain word, a number or neither gives. -/
theorem plF_rises {s : ByteArray} {a l : Nat} (h : endB s a = false) :
    (∃ f, plF s a l = (f, none) ∧ f.e ≠ 0 ∧ f.k = 0 ∧ f.t = ByteArray.empty ∧ f.n = 0 ∧ f.l = l ∧ a ≤ f.a ∧ f.a ≤ s.size ∧ (f.e = 18 ∨ f.e = 2 ∨ f.e = 6)) ∨
    (∃ f e, plF s a l = (f, some e) ∧ a < e ∧ e ≤ s.size ∧ f.e = 0 ∧ f.a = a ∧ f.l = l ∧ ((f.k = 1 ∧ f.t = s.extract a e ∧ f.n = 0) ∨ (f.k = 3 ∧ f.t = ByteArray.empty))) := by
  have hs := (endB_lt h).1
  obtain ⟨⟨e, c⟩, hp⟩ : ∃ r, pw s a = r := ⟨_, rfl⟩
  by_cases hc : c = 0
  · subst hc
    have hm := pw_more h (by rw [hp])
    rw [hp] at hm
    cases hn : numB (s.extract a e) with
    | false => exact .inr ⟨_, _, plF_word hp hn, hm.1, hm.2, rfl, rfl, rfl, .inl ⟨rfl, rfl, rfl⟩⟩
    | true =>
      cases ht : numT (s.extract a e).data.toList with
      | none => exact .inl ⟨_, plF_bad hp hn ht, by simp, rfl, rfl, rfl, rfl, Nat.le_refl _, Nat.le_of_lt hs, .inr (.inr rfl)⟩
      | some v => exact .inr ⟨_, _, plF_num hp hn ht, hm.1, hm.2, rfl, rfl, rfl, .inr ⟨rfl, rfl⟩⟩
  · have h1 := pw_codes s s.size a (by omega)
    have h2 := pw_spec s s.size a (by omega) (by omega)
    rw [hp] at h1 h2
    exact .inl ⟨_, plF_off hp hc, hc, rfl, rfl, rfl, rfl, h2.1, h2.2, by simp only at h1 ⊢; omega⟩
theorem rises_scn (s : ByteArray) : ∀ (m a l : Nat) (sm : Bool) (at_ : Int) (line kind : Nat), s.size - a ≤ m → a ≤ s.size → at_ < a → line ≤ l → (sm = true → kind ≠ 4 ∧ l = line) → (sm = false → kind = 4 ∧ (at_ < 0 ∨ line < l)) →
    rises s at_ line kind (scn s a l sm) := by
  intro m
  induction m with
  | zero =>
    intro a l sm at_ line kind hm ha hat hl h1 h2
    rw [scn_over (by omega)]
    unfold endF
    cases sm with
    | false => exact (h2 rfl).1
    | true =>
      have := h1 rfl
      exact .inr ⟨rfl, hl, ha, hat, fun h => absurd h this.1, fun _ => this.2, .inr (.inr (.inr rfl)), .inr rfl, .inr (.inr rfl), fun h => (by simp at h), rfl⟩
  | succ m ih =>
    intro a l sm at_ line kind hm ha hat hl h1 h2
    by_cases hlt : a < s.size
    · have hcs : (byt s a = 10 ∨ byt s a = 13) ∨ (byt s a = 32 ∨ byt s a = 9) ∨ byt s a = 35 ∨ (WordAt s a ∧ byt s a ≠ 34) ∨ (WordAt s a ∧ byt s a = 34) := by unfold WordAt; omega
      have hk4 : ∀ k : Nat, k ≠ 4 → (kind = 4 → k ≠ 4 ∧ (at_ < 0 ∨ line < l)) ∧ (kind ≠ 4 → l = line) := fun k hk => by
        cases sm with
        | false => exact ⟨fun _ => ⟨hk, (h2 rfl).2⟩, fun h => absurd (h2 rfl).1 h⟩
        | true => exact ⟨fun h => absurd h (h1 rfl).1, fun _ => (h1 rfl).2⟩
      rcases hcs with hc | hc | hc | ⟨hw, hc⟩ | ⟨hw, hc⟩
      · rw [scn_line hlt hc]
        have hlb := lineB_more hlt
        cases sm with
        | false => exact ih _ _ false at_ line kind (by omega) hlb.2 (by omega) (by omega) (fun h => by cases h) (fun _ => ⟨(h2 rfl).1, .inr (by omega)⟩)
        | true =>
          have h3 := h1 rfl
          exact .inr ⟨rfl, hl, ha, hat, fun h => absurd h h3.1, fun _ => h3.2, .inr (.inr (.inr rfl)), .inr rfl, .inr (.inr rfl), fun h => (by simp at h),
            ih _ _ false _ _ _ (by omega) hlb.2 (by show (a : Int) < _; omega) (Nat.le_succ _) (fun h => by cases h) (fun _ => ⟨rfl, .inr (Nat.lt_succ_self _)⟩)⟩
      · rw [scn_blank hlt hc]
        exact ih _ _ sm at_ line kind (by omega) (by omega) (by omega) hl h1 h2
      · rw [scn_rem hlt hc]
        have h3 := rem_on (s := s) (i := a) ⟨hlt, by omega, by omega⟩
        have h4 := rem_spec s s.size (a + 1) (by omega) (by omega)
        exact ih _ _ sm at_ line kind (by omega) (by omega) (by omega) hl h1 h2
      · rcases plF_rises (l := l) hw.ends with ⟨f, hp, p1, p2, p3, p4, p5, p6, p7, p8⟩ | ⟨f, e, hp, p1, p2, p3, p4, p5, p6⟩
        · rw [scn_bad hw hc hp]
          exact .inl ⟨p1, rfl, p2, p3, p4, by omega, p7, by omega, p8⟩
        · rw [scn_plain hw hc hp]
          obtain ⟨fk, ft, fn, fa, fl, fe⟩ := f
          simp only at p3 p4 p5 p6
          subst p3 p4 p5
          rcases p6 with ⟨rfl, rfl, rfl⟩ | ⟨rfl, rfl⟩
          · have hsz : (s.extract fa e).size = e - fa := by rw [ByteArray.size_extract]; omega
            refine .inr ⟨rfl, hl, ha, hat, (hk4 1 (by decide)).1, (hk4 1 (by decide)).2, .inl rfl, .inr rfl, .inl rfl, fun _ => ⟨?_, ?_, ?_⟩, ih _ _ true _ _ _ (by omega) p2 ?_ (Nat.le_refl _) (fun _ => ⟨by simp, rfl⟩) (fun h => by cases h)⟩
            · simp only; rw [hsz]; omega
            · simp only; rw [hsz]; omega
            · simp only; rw [hsz, show fa + (e - fa) = e by omega]
            · simp only [lastAt, if_pos]; rw [hsz]; omega
          · refine .inr ⟨rfl, hl, ha, hat, (hk4 3 (by decide)).1, (hk4 3 (by decide)).2, .inr (.inr (.inl rfl)), .inl rfl, .inr (.inr rfl), fun h => (by simp at h), ih _ _ true _ _ _ (by omega) p2 ?_ (Nat.le_refl _) (fun _ => ⟨by simp, rfl⟩) (fun h => by cases h)⟩
            show (fa : Int) < _
            omega
      · obtain ⟨⟨ok, x, e⟩, hq⟩ : ∃ r, qtd s a = r := ⟨_, rfl⟩
        have hpl := qtd_place hlt hq
        have hbad : rises s at_ line kind [⟨0, ByteArray.empty, 0, e, l, 18⟩] := .inl ⟨by simp, rfl, rfl, rfl, rfl, hl, hpl.2, by show at_ ≤ (e : Int); omega, .inl rfl⟩
        cases ok with
        | false => rw [scn_unq hw hc hq (.inl rfl)]; exact hbad
        | true =>
          cases he : endB s e with
          | false => rw [scn_unq hw hc hq (.inr he)]; exact hbad
          | true =>
            rw [scn_quote hw hc hq he]
            have hm := qtd_more hq
            refine .inr ⟨rfl, hl, ha, hat, (hk4 2 (by decide)).1, (hk4 2 (by decide)).2, .inr (.inl rfl), .inr rfl, .inr (.inl rfl), fun h => (by simp at h), ih _ _ true _ _ _ (by omega) hm.2 ?_ (Nat.le_refl _) (fun _ => ⟨by simp, rfl⟩) (fun h => by cases h)⟩
            show (a : Int) < _
            omega
    · have hae : a = s.size := by omega
      rw [scn_over hlt]
      unfold endF
      cases sm with
      | false => exact (h2 rfl).1
      | true =>
        have := h1 rfl
        exact .inr ⟨rfl, hl, ha, hat, fun h => absurd h this.1, fun _ => this.2, .inr (.inr (.inr rfl)), .inr rfl, .inr (.inr rfl), fun h => (by simp at h), rfl⟩
theorem rises_all (s : ByteArray) : rises s (-1) 1 4 (scn s 0 1 false) :=
  rises_scn s s.size 0 1 false (-1) 1 4 (by omega) (Nat.zero_le _) (by omega) (Nat.le_refl _) (fun h => by cases h) (fun _ => ⟨rfl, .inl (by omega)⟩)
end Go.Proofs.YtbmapellhcdipaaDoor
namespace Go.Proofs.YtbmapellhcdipaaDoor
open Go.RowKit
set_option linter.unusedVariables false
set_option linter.unusedSimpArgs false
attribute [local go_sem] Oper.semAt_some

/-- The boxes of QuoteRises. -/
def RB (B : Nat) (s : ByteArray) (at_ : Int) (line kind : Nat) (over ok : Bool) (W : World) : Prop :=
  W.heap[B]? = some (.cells #[.string s] 9 (0, 0)) ∧ W.heap[B + 1]? = some (.cells #[.int .i64 at_] 3 (0, 0)) ∧ W.heap[B + 2]? = some (.cells #[.int .i64 (line : Nat)] 3 (0, 0)) ∧
  W.heap[B + 3]? = some (.cells #[.int .i64 (kind : Nat)] 3 (0, 0)) ∧ W.heap[B + 4]? = some (.cells #[.bool over] 4 (0, 0)) ∧ W.heap[B + 5]? = some (.cells #[.bool ok] 4 (0, 0))
def rbL (B : Nat) : List Nat := [B + 1, B + 2, B + 3, B + 4, B + 5]
theorem RB.keep {B : Nat} {s : ByteArray} {at_ : Int} {line kind : Nat} {over ok : Bool} {W W' : World} {L : List Nat} (h : RB B s at_ line kind over ok W) (k : Keep L W W') (hL : ∀ x ∈ B :: rbL B, x ∉ L) : RB B s at_ line kind over ok W' := by
  obtain ⟨h0, h1, h2, h3, h4, h5⟩ := h
  exact ⟨k.at_ h0 (hL _ (by simp)), k.at_ h1 (hL _ (by simp [rbL])), k.at_ h2 (hL _ (by simp [rbL])), k.at_ h3 (hL _ (by simp [rbL])), k.at_ h4 (hL _ (by simp [rbL])), k.at_ h5 (hL _ (by simp [rbL]))⟩
theorem ne_setCell {W : World} {p : Addr} {v : Value} {b : Nat} {o : Obj} (h : W.heap[b]? = some o) (hn : b ≠ p.block) : (W.setCell p v).heap[b]? = some o := (Below.heap_setCell _ _ _ _ hn).trans h
/-- The boxes and the word's. -/
def RD (B D : Nat) (s : ByteArray) (at_ : Int) (line kind : Nat) (over ok : Bool) (cs : Array Value) (W : World) : Prop :=
  RB B s at_ line kind over ok W ∧ W.heap[D]? = some (.cells cs 39 (0, 0)) ∧ B + 6 ≤ D
section
variable {B D : Nat} {s : ByteArray} {at_ : Int} {line kind : Nat} {over ok : Bool} {cs : Array Value} {W : World}
theorem RD.setOk (h : RD B D s at_ line kind over ok cs W) (v : Bool) : RD B D s at_ line kind over v cs (W.setCell ⟨B + 5, 0, none⟩ (.bool v)) := by
  obtain ⟨⟨h0, h1, h2, h3, h4, h5⟩, h6, h7⟩ := h
  exact ⟨⟨ne_setCell h0 (by simp), ne_setCell h1 (by simp), ne_setCell h2 (by simp), ne_setCell h3 (by simp), ne_setCell h4 (by simp), by have := block_setCell h5 0 (.bool v); exact this⟩, ne_setCell h6 (by simp; omega), h7⟩
theorem RD.setOver (h : RD B D s at_ line kind over ok cs W) (v : Bool) : RD B D s at_ line kind v ok cs (W.setCell ⟨B + 4, 0, none⟩ (.bool v)) := by
  obtain ⟨⟨h0, h1, h2, h3, h4, h5⟩, h6, h7⟩ := h
  exact ⟨⟨ne_setCell h0 (by simp), ne_setCell h1 (by simp), ne_setCell h2 (by simp), ne_setCell h3 (by simp), by have := block_setCell h4 0 (.bool v); exact this, ne_setCell h5 (by simp)⟩, ne_setCell h6 (by simp; omega), h7⟩
theorem RD.setKind (h : RD B D s at_ line kind over ok cs W) (v : Nat) : RD B D s at_ line v over ok cs (W.setCell ⟨B + 3, 0, none⟩ (.int .i64 (v : Nat))) := by
  obtain ⟨⟨h0, h1, h2, h3, h4, h5⟩, h6, h7⟩ := h
  exact ⟨⟨ne_setCell h0 (by simp), ne_setCell h1 (by simp), ne_setCell h2 (by simp), by have := block_setCell h3 0 (.int .i64 (v : Nat)); exact this, ne_setCell h4 (by simp), ne_setCell h5 (by simp)⟩, ne_setCell h6 (by simp; omega), h7⟩
theorem RD.setLine (h : RD B D s at_ line kind over ok cs W) (v : Nat) : RD B D s at_ v kind over ok cs (W.setCell ⟨B + 2, 0, none⟩ (.int .i64 (v : Nat))) := by
  obtain ⟨⟨h0, h1, h2, h3, h4, h5⟩, h6, h7⟩ := h
  exact ⟨⟨ne_setCell h0 (by simp), ne_setCell h1 (by simp), by have := block_setCell h2 0 (.int .i64 (v : Nat)); exact this, ne_setCell h3 (by simp), ne_setCell h4 (by simp), ne_setCell h5 (by simp)⟩, ne_setCell h6 (by simp; omega), h7⟩
theorem RD.setAt (h : RD B D s at_ line kind over ok cs W) (v : Int) : RD B D s v line kind over ok cs (W.setCell ⟨B + 1, 0, none⟩ (.int .i64 v)) := by
  obtain ⟨⟨h0, h1, h2, h3, h4, h5⟩, h6, h7⟩ := h
  exact ⟨⟨ne_setCell h0 (by simp), by have := block_setCell h1 0 (.int .i64 v); exact this, ne_setCell h2 (by simp), ne_setCell h3 (by simp), ne_setCell h4 (by simp), ne_setCell h5 (by simp)⟩, ne_setCell h6 (by simp; omega), h7⟩
theorem RD.drew (h : RD B D s at_ line kind over ok cs W) : RD B D s at_ line kind over ok cs W.drew := h
end
def rbArgs (B : Nat) : Array Value := #[.pointer (some ⟨B + 5, 0, none⟩), .pointer (some ⟨B + 4, 0, none⟩), .pointer (some ⟨B + 2, 0, none⟩), .pointer (some ⟨B, 0, none⟩), .pointer (some ⟨B + 1, 0, none⟩), .pointer (some ⟨B + 3, 0, none⟩)]
theorem slice_u (s : ByteArray) {a n : Nat} (h1 : a ≤ a + n) (h2 : a + n ≤ s.size) (w : World) : (Instr.slice 9 (.string s) (some (.int .i64 a)) (some (.int .i64 ((a : Int) + (n : Int)))) none).run Tryd.prog w = .ok (.string (s.extract a (a + n))) w := slice_w s h1 h2 w
/-- Behind a word. -/
def RPost (B : Nat) (s : ByteArray) (r : List Fn) (W : World) (e : Ending) (W' : World) : Prop :=
  e = .returned (.bool true) ∧ Keep (rbL B) W W' ∧ ∃ (at' : Int) (line' kind' : Nat) (over' : Bool), RB B s at' line' kind' over' true W' ∧ ((over' = false ∧ rises s at' line' kind' r) ∨ (over' = true ∧ r = []))

set_option maxHeartbeats 64000000 in
set_option maxRecDepth 100000 in
theorem rises1_any (B : Nat) (s : ByteArray) (f : Fn) (r : List Fn) (at_ : Int) (line kind : Nat) (W : World) (hz : s.size ≤ 1000000) (hB : RB B s at_ line kind false true W) (hr : rises s at_ line kind (f :: r)) :
    Calls Tryd.prog 26 (fnArgs f ++ rbArgs B) W (RPost B s r W) := by
  obtain ⟨fk, ft, fn, fa, fl, fe⟩ := f
  simp only [fnArgs, rbArgs, List.push_toArray, List.append_toArray, List.cons_append, List.nil_append]
  have hD : RD B W.heap.size s at_ line kind false true #[.int .i64 (fk : Nat), .string ft, .int .i64 fn, .int .i64 (fa : Nat), .int .i64 (fl : Nat)] (W.alloc (.cells #[.int .i64 (fk : Nat), .string ft, .int .i64 fn, .int .i64 (fa : Nat), .int .i64 (fl : Nat)] 39)) :=
    ⟨hB.keep ((Keep.refl [] W).alloc _) (fun _ _ => by simp), World.alloc_heap_new W _, by have := lt_of_block hB.2.2.2.2.2; omega⟩
  have HS := Lib.hid hD
  have HK := Lib.hid ((Keep.refl (rbL B) W).alloc (.cells #[.int .i64 (fk : Nat), .string ft, .int .i64 fn, .int .i64 (fa : Nat), .int .i64 (fl : Nat)] 39))
  have HBB := Lib.hid hB
  clear hB hD
  go_enter Tryd.func26, Tryd.ntmps26
  go_upto_region 1 with (fail)
  obtain ⟨D, hDD⟩ : ∃ D, D = W.heap.size := ⟨_, rfl⟩
  obtain ⟨w0, hw0⟩ : ∃ w0, w0 = W.alloc (.cells #[.int .i64 (fk : Nat), .string ft, .int .i64 fn, .int .i64 (fa : Nat), .int .i64 (fl : Nat)] 39) := ⟨_, rfl⟩
  rw [← hw0, ← hDD] at HS
  rw [← hw0] at HK
  rw [← hw0, ← hDD]
  clear hw0 hDD HBB
  have g1 : line ≤ fl ∧ fa ≤ s.size ∧ at_ ≤ (fa : Int) := by
    rcases hr with hr | hr
    · exact ⟨hr.2.2.2.2.2.1, hr.2.2.2.2.2.2.1, hr.2.2.2.2.2.2.2.1⟩
    · exact ⟨hr.2.1, hr.2.2.1, Int.le_of_lt hr.2.2.2.1⟩
  have e1 := dec_le_t (show (line : Int) ≤ (fl : Int) by omega)
  have e2 := dec_len_t g1.1
  have e3 := dec_le_t (show (fa : Int) ≤ (s.size : Int) by omega)
  have e4 := dec_len_t g1.2.1
  have e5 := dec_le_t g1.2.2
  have HG1 := Lib.hid g1
  clear g1
  rcases hr with ⟨r1, rfl, r2, r3, r4, _, _, _, r8⟩ | ⟨r1, _, _, r4, r5, r6, r7, r8, r9, r10, r11⟩
  · simp only at r1 r2 r3 r4 r8
    subst r2 r3 r4
    rcases r8 with rfl | rfl | rfl
    · -- error 18
      by_cases g0 : at_ < (fa : Int)
      · have g3 : decide (at_ < (fa : Int)) = true := dec_lt_t g0
        clear g0
        have q0 := cell_of_block HS.out.1.1 0
        have q1 := cell_of_block HS.out.1.2.1 0
        have q2 := cell_of_block HS.out.1.2.2.1 0
        have q3 := cell_of_block HS.out.1.2.2.2.1 0
        have q4 := cell_of_block HS.out.1.2.2.2.2.1 0
        have q5 := cell_of_block HS.out.1.2.2.2.2.2 0
        have z1 := free_of_block HS.out.1.2.1 0
        have z2 := free_of_block HS.out.1.2.2.1 0
        have z3 := free_of_block HS.out.1.2.2.2.1 0
        have z4 := free_of_block HS.out.1.2.2.2.2.1 0
        have z5 := free_of_block HS.out.1.2.2.2.2.2 0
        have d0 := cell_of_block HS.out.2.1 0
        have d1 := cell_of_block HS.out.2.1 1
        have d2 := cell_of_block HS.out.2.1 2
        have d3 := cell_of_block HS.out.2.1 3
        have d4 := cell_of_block HS.out.2.1 4
        simp at q0 q1 q2 q3 q4 q5 d0 d1 d2 d3 d4
        go_upto_region 2 with (fail)
        clear q0 q1 q2 q3 q4 q5 z1 z2 z3 z4 z5 d0 d1 d2 d3 d4
        have HS2 := Lib.hid ((HS.out).setOk true)
        have HK2 := Lib.hid ((HK.out).setCell (p := ⟨B + 5, 0, none⟩) (.inl (by simp [rbL])) (.bool true))
        obtain ⟨w1, hw⟩ : ∃ w1, w1 = (w0.setCell ⟨B + 5, 0, none⟩ (.bool true)) := ⟨_, rfl⟩
        rw [← hw] at HS2 HK2 ⊢
        clear hw HS HK
        have HS := HS2
        have HK := HK2
        clear HS2 HK2
        have q0 := cell_of_block HS.out.1.1 0
        have q1 := cell_of_block HS.out.1.2.1 0
        have q2 := cell_of_block HS.out.1.2.2.1 0
        have q3 := cell_of_block HS.out.1.2.2.2.1 0
        have q4 := cell_of_block HS.out.1.2.2.2.2.1 0
        have q5 := cell_of_block HS.out.1.2.2.2.2.2 0
        have z1 := free_of_block HS.out.1.2.1 0
        have z2 := free_of_block HS.out.1.2.2.1 0
        have z3 := free_of_block HS.out.1.2.2.2.1 0
        have z4 := free_of_block HS.out.1.2.2.2.2.1 0
        have z5 := free_of_block HS.out.1.2.2.2.2.2 0
        have d0 := cell_of_block HS.out.2.1 0
        have d1 := cell_of_block HS.out.2.1 1
        have d2 := cell_of_block HS.out.2.1 2
        have d3 := cell_of_block HS.out.2.1 3
        have d4 := cell_of_block HS.out.2.1 4
        simp at q0 q1 q2 q3 q4 q5 d0 d1 d2 d3 d4
        go_upto_region 4 with (fail)
        clear q0 q1 q2 q3 q4 q5 z1 z2 z3 z4 z5 d0 d1 d2 d3 d4
        have HS2 := Lib.hid ((HS.out).setOk true)
        have HK2 := Lib.hid ((HK.out).setCell (p := ⟨B + 5, 0, none⟩) (.inl (by simp [rbL])) (.bool true))
        obtain ⟨w2, hw⟩ : ∃ w2, w2 = (w1.setCell ⟨B + 5, 0, none⟩ (.bool true)) := ⟨_, rfl⟩
        rw [← hw] at HS2 HK2 ⊢
        clear hw HS HK
        have HS := HS2
        have HK := HK2
        clear HS2 HK2
        have q0 := cell_of_block HS.out.1.1 0
        have q1 := cell_of_block HS.out.1.2.1 0
        have q2 := cell_of_block HS.out.1.2.2.1 0
        have q3 := cell_of_block HS.out.1.2.2.2.1 0
        have q4 := cell_of_block HS.out.1.2.2.2.2.1 0
        have q5 := cell_of_block HS.out.1.2.2.2.2.2 0
        have z1 := free_of_block HS.out.1.2.1 0
        have z2 := free_of_block HS.out.1.2.2.1 0
        have z3 := free_of_block HS.out.1.2.2.2.1 0
        have z4 := free_of_block HS.out.1.2.2.2.2.1 0
        have z5 := free_of_block HS.out.1.2.2.2.2.2 0
        have d0 := cell_of_block HS.out.2.1 0
        have d1 := cell_of_block HS.out.2.1 1
        have d2 := cell_of_block HS.out.2.1 2
        have d3 := cell_of_block HS.out.2.1 3
        have d4 := cell_of_block HS.out.2.1 4
        simp at q0 q1 q2 q3 q4 q5 d0 d1 d2 d3 d4
        go_wp2
        go_ret
        exact ⟨rfl, (HK.out.setCell (p := ⟨B + 4, 0, none⟩) (.inl (by simp [rbL])) (.bool true)), _, _, _, _, (HS.out.setOver true).1, .inr ⟨rfl, rfl⟩⟩
      · have g3 : decide (at_ < (fa : Int)) = false := dec_lt_f g0
        clear g0
        have q0 := cell_of_block HS.out.1.1 0
        have q1 := cell_of_block HS.out.1.2.1 0
        have q2 := cell_of_block HS.out.1.2.2.1 0
        have q3 := cell_of_block HS.out.1.2.2.2.1 0
        have q4 := cell_of_block HS.out.1.2.2.2.2.1 0
        have q5 := cell_of_block HS.out.1.2.2.2.2.2 0
        have z1 := free_of_block HS.out.1.2.1 0
        have z2 := free_of_block HS.out.1.2.2.1 0
        have z3 := free_of_block HS.out.1.2.2.2.1 0
        have z4 := free_of_block HS.out.1.2.2.2.2.1 0
        have z5 := free_of_block HS.out.1.2.2.2.2.2 0
        have d0 := cell_of_block HS.out.2.1 0
        have d1 := cell_of_block HS.out.2.1 1
        have d2 := cell_of_block HS.out.2.1 2
        have d3 := cell_of_block HS.out.2.1 3
        have d4 := cell_of_block HS.out.2.1 4
        simp at q0 q1 q2 q3 q4 q5 d0 d1 d2 d3 d4
        go_upto_region 2 with (fail)
        clear q0 q1 q2 q3 q4 q5 z1 z2 z3 z4 z5 d0 d1 d2 d3 d4
        have HS2 := Lib.hid ((HS.out).setOk true)
        have HK2 := Lib.hid ((HK.out).setCell (p := ⟨B + 5, 0, none⟩) (.inl (by simp [rbL])) (.bool true))
        obtain ⟨w1, hw⟩ : ∃ w1, w1 = (w0.setCell ⟨B + 5, 0, none⟩ (.bool true)) := ⟨_, rfl⟩
        rw [← hw] at HS2 HK2 ⊢
        clear hw HS HK
        have HS := HS2
        have HK := HK2
        clear HS2 HK2
        have q0 := cell_of_block HS.out.1.1 0
        have q1 := cell_of_block HS.out.1.2.1 0
        have q2 := cell_of_block HS.out.1.2.2.1 0
        have q3 := cell_of_block HS.out.1.2.2.2.1 0
        have q4 := cell_of_block HS.out.1.2.2.2.2.1 0
        have q5 := cell_of_block HS.out.1.2.2.2.2.2 0
        have z1 := free_of_block HS.out.1.2.1 0
        have z2 := free_of_block HS.out.1.2.2.1 0
        have z3 := free_of_block HS.out.1.2.2.2.1 0
        have z4 := free_of_block HS.out.1.2.2.2.2.1 0
        have z5 := free_of_block HS.out.1.2.2.2.2.2 0
        have d0 := cell_of_block HS.out.2.1 0
        have d1 := cell_of_block HS.out.2.1 1
        have d2 := cell_of_block HS.out.2.1 2
        have d3 := cell_of_block HS.out.2.1 3
        have d4 := cell_of_block HS.out.2.1 4
        simp at q0 q1 q2 q3 q4 q5 d0 d1 d2 d3 d4
        go_upto_region 4 with (fail)
        clear q0 q1 q2 q3 q4 q5 z1 z2 z3 z4 z5 d0 d1 d2 d3 d4
        have HS2 := Lib.hid ((HS.out).setOk true)
        have HK2 := Lib.hid ((HK.out).setCell (p := ⟨B + 5, 0, none⟩) (.inl (by simp [rbL])) (.bool true))
        obtain ⟨w2, hw⟩ : ∃ w2, w2 = (w1.setCell ⟨B + 5, 0, none⟩ (.bool true)) := ⟨_, rfl⟩
        rw [← hw] at HS2 HK2 ⊢
        clear hw HS HK
        have HS := HS2
        have HK := HK2
        clear HS2 HK2
        have q0 := cell_of_block HS.out.1.1 0
        have q1 := cell_of_block HS.out.1.2.1 0
        have q2 := cell_of_block HS.out.1.2.2.1 0
        have q3 := cell_of_block HS.out.1.2.2.2.1 0
        have q4 := cell_of_block HS.out.1.2.2.2.2.1 0
        have q5 := cell_of_block HS.out.1.2.2.2.2.2 0
        have z1 := free_of_block HS.out.1.2.1 0
        have z2 := free_of_block HS.out.1.2.2.1 0
        have z3 := free_of_block HS.out.1.2.2.2.1 0
        have z4 := free_of_block HS.out.1.2.2.2.2.1 0
        have z5 := free_of_block HS.out.1.2.2.2.2.2 0
        have d0 := cell_of_block HS.out.2.1 0
        have d1 := cell_of_block HS.out.2.1 1
        have d2 := cell_of_block HS.out.2.1 2
        have d3 := cell_of_block HS.out.2.1 3
        have d4 := cell_of_block HS.out.2.1 4
        simp at q0 q1 q2 q3 q4 q5 d0 d1 d2 d3 d4
        go_wp2
        go_ret
        exact ⟨rfl, (HK.out.setCell (p := ⟨B + 4, 0, none⟩) (.inl (by simp [rbL])) (.bool true)), _, _, _, _, (HS.out.setOver true).1, .inr ⟨rfl, rfl⟩⟩
    · -- error 2
      by_cases g0 : at_ < (fa : Int)
      · have g3 : decide (at_ < (fa : Int)) = true := dec_lt_t g0
        clear g0
        have q0 := cell_of_block HS.out.1.1 0
        have q1 := cell_of_block HS.out.1.2.1 0
        have q2 := cell_of_block HS.out.1.2.2.1 0
        have q3 := cell_of_block HS.out.1.2.2.2.1 0
        have q4 := cell_of_block HS.out.1.2.2.2.2.1 0
        have q5 := cell_of_block HS.out.1.2.2.2.2.2 0
        have z1 := free_of_block HS.out.1.2.1 0
        have z2 := free_of_block HS.out.1.2.2.1 0
        have z3 := free_of_block HS.out.1.2.2.2.1 0
        have z4 := free_of_block HS.out.1.2.2.2.2.1 0
        have z5 := free_of_block HS.out.1.2.2.2.2.2 0
        have d0 := cell_of_block HS.out.2.1 0
        have d1 := cell_of_block HS.out.2.1 1
        have d2 := cell_of_block HS.out.2.1 2
        have d3 := cell_of_block HS.out.2.1 3
        have d4 := cell_of_block HS.out.2.1 4
        simp at q0 q1 q2 q3 q4 q5 d0 d1 d2 d3 d4
        go_upto_region 2 with (fail)
        clear q0 q1 q2 q3 q4 q5 z1 z2 z3 z4 z5 d0 d1 d2 d3 d4
        have HS2 := Lib.hid ((HS.out).setOk true)
        have HK2 := Lib.hid ((HK.out).setCell (p := ⟨B + 5, 0, none⟩) (.inl (by simp [rbL])) (.bool true))
        obtain ⟨w1, hw⟩ : ∃ w1, w1 = (w0.setCell ⟨B + 5, 0, none⟩ (.bool true)) := ⟨_, rfl⟩
        rw [← hw] at HS2 HK2 ⊢
        clear hw HS HK
        have HS := HS2
        have HK := HK2
        clear HS2 HK2
        have q0 := cell_of_block HS.out.1.1 0
        have q1 := cell_of_block HS.out.1.2.1 0
        have q2 := cell_of_block HS.out.1.2.2.1 0
        have q3 := cell_of_block HS.out.1.2.2.2.1 0
        have q4 := cell_of_block HS.out.1.2.2.2.2.1 0
        have q5 := cell_of_block HS.out.1.2.2.2.2.2 0
        have z1 := free_of_block HS.out.1.2.1 0
        have z2 := free_of_block HS.out.1.2.2.1 0
        have z3 := free_of_block HS.out.1.2.2.2.1 0
        have z4 := free_of_block HS.out.1.2.2.2.2.1 0
        have z5 := free_of_block HS.out.1.2.2.2.2.2 0
        have d0 := cell_of_block HS.out.2.1 0
        have d1 := cell_of_block HS.out.2.1 1
        have d2 := cell_of_block HS.out.2.1 2
        have d3 := cell_of_block HS.out.2.1 3
        have d4 := cell_of_block HS.out.2.1 4
        simp at q0 q1 q2 q3 q4 q5 d0 d1 d2 d3 d4
        go_upto_region 4 with (fail)
        clear q0 q1 q2 q3 q4 q5 z1 z2 z3 z4 z5 d0 d1 d2 d3 d4
        have HS2 := Lib.hid ((HS.out).setOk true)
        have HK2 := Lib.hid ((HK.out).setCell (p := ⟨B + 5, 0, none⟩) (.inl (by simp [rbL])) (.bool true))
        obtain ⟨w2, hw⟩ : ∃ w2, w2 = (w1.setCell ⟨B + 5, 0, none⟩ (.bool true)) := ⟨_, rfl⟩
        rw [← hw] at HS2 HK2 ⊢
        clear hw HS HK
        have HS := HS2
        have HK := HK2
        clear HS2 HK2
        have q0 := cell_of_block HS.out.1.1 0
        have q1 := cell_of_block HS.out.1.2.1 0
        have q2 := cell_of_block HS.out.1.2.2.1 0
        have q3 := cell_of_block HS.out.1.2.2.2.1 0
        have q4 := cell_of_block HS.out.1.2.2.2.2.1 0
        have q5 := cell_of_block HS.out.1.2.2.2.2.2 0
        have z1 := free_of_block HS.out.1.2.1 0
        have z2 := free_of_block HS.out.1.2.2.1 0
        have z3 := free_of_block HS.out.1.2.2.2.1 0
        have z4 := free_of_block HS.out.1.2.2.2.2.1 0
        have z5 := free_of_block HS.out.1.2.2.2.2.2 0
        have d0 := cell_of_block HS.out.2.1 0
        have d1 := cell_of_block HS.out.2.1 1
        have d2 := cell_of_block HS.out.2.1 2
        have d3 := cell_of_block HS.out.2.1 3
        have d4 := cell_of_block HS.out.2.1 4
        simp at q0 q1 q2 q3 q4 q5 d0 d1 d2 d3 d4
        go_wp2
        go_ret
        exact ⟨rfl, (HK.out.setCell (p := ⟨B + 4, 0, none⟩) (.inl (by simp [rbL])) (.bool true)), _, _, _, _, (HS.out.setOver true).1, .inr ⟨rfl, rfl⟩⟩
      · have g3 : decide (at_ < (fa : Int)) = false := dec_lt_f g0
        clear g0
        have q0 := cell_of_block HS.out.1.1 0
        have q1 := cell_of_block HS.out.1.2.1 0
        have q2 := cell_of_block HS.out.1.2.2.1 0
        have q3 := cell_of_block HS.out.1.2.2.2.1 0
        have q4 := cell_of_block HS.out.1.2.2.2.2.1 0
        have q5 := cell_of_block HS.out.1.2.2.2.2.2 0
        have z1 := free_of_block HS.out.1.2.1 0
        have z2 := free_of_block HS.out.1.2.2.1 0
        have z3 := free_of_block HS.out.1.2.2.2.1 0
        have z4 := free_of_block HS.out.1.2.2.2.2.1 0
        have z5 := free_of_block HS.out.1.2.2.2.2.2 0
        have d0 := cell_of_block HS.out.2.1 0
        have d1 := cell_of_block HS.out.2.1 1
        have d2 := cell_of_block HS.out.2.1 2
        have d3 := cell_of_block HS.out.2.1 3
        have d4 := cell_of_block HS.out.2.1 4
        simp at q0 q1 q2 q3 q4 q5 d0 d1 d2 d3 d4
        go_upto_region 2 with (fail)
        clear q0 q1 q2 q3 q4 q5 z1 z2 z3 z4 z5 d0 d1 d2 d3 d4
        have HS2 := Lib.hid ((HS.out).setOk true)
        have HK2 := Lib.hid ((HK.out).setCell (p := ⟨B + 5, 0, none⟩) (.inl (by simp [rbL])) (.bool true))
        obtain ⟨w1, hw⟩ : ∃ w1, w1 = (w0.setCell ⟨B + 5, 0, none⟩ (.bool true)) := ⟨_, rfl⟩
        rw [← hw] at HS2 HK2 ⊢
        clear hw HS HK
        have HS := HS2
        have HK := HK2
        clear HS2 HK2
        have q0 := cell_of_block HS.out.1.1 0
        have q1 := cell_of_block HS.out.1.2.1 0
        have q2 := cell_of_block HS.out.1.2.2.1 0
        have q3 := cell_of_block HS.out.1.2.2.2.1 0
        have q4 := cell_of_block HS.out.1.2.2.2.2.1 0
        have q5 := cell_of_block HS.out.1.2.2.2.2.2 0
        have z1 := free_of_block HS.out.1.2.1 0
        have z2 := free_of_block HS.out.1.2.2.1 0
        have z3 := free_of_block HS.out.1.2.2.2.1 0
        have z4 := free_of_block HS.out.1.2.2.2.2.1 0
        have z5 := free_of_block HS.out.1.2.2.2.2.2 0
        have d0 := cell_of_block HS.out.2.1 0
        have d1 := cell_of_block HS.out.2.1 1
        have d2 := cell_of_block HS.out.2.1 2
        have d3 := cell_of_block HS.out.2.1 3
        have d4 := cell_of_block HS.out.2.1 4
        simp at q0 q1 q2 q3 q4 q5 d0 d1 d2 d3 d4
        go_upto_region 4 with (fail)
        clear q0 q1 q2 q3 q4 q5 z1 z2 z3 z4 z5 d0 d1 d2 d3 d4
        have HS2 := Lib.hid ((HS.out).setOk true)
        have HK2 := Lib.hid ((HK.out).setCell (p := ⟨B + 5, 0, none⟩) (.inl (by simp [rbL])) (.bool true))
        obtain ⟨w2, hw⟩ : ∃ w2, w2 = (w1.setCell ⟨B + 5, 0, none⟩ (.bool true)) := ⟨_, rfl⟩
        rw [← hw] at HS2 HK2 ⊢
        clear hw HS HK
        have HS := HS2
        have HK := HK2
        clear HS2 HK2
        have q0 := cell_of_block HS.out.1.1 0
        have q1 := cell_of_block HS.out.1.2.1 0
        have q2 := cell_of_block HS.out.1.2.2.1 0
        have q3 := cell_of_block HS.out.1.2.2.2.1 0
        have q4 := cell_of_block HS.out.1.2.2.2.2.1 0
        have q5 := cell_of_block HS.out.1.2.2.2.2.2 0
        have z1 := free_of_block HS.out.1.2.1 0
        have z2 := free_of_block HS.out.1.2.2.1 0
        have z3 := free_of_block HS.out.1.2.2.2.1 0
        have z4 := free_of_block HS.out.1.2.2.2.2.1 0
        have z5 := free_of_block HS.out.1.2.2.2.2.2 0
        have d0 := cell_of_block HS.out.2.1 0
        have d1 := cell_of_block HS.out.2.1 1
        have d2 := cell_of_block HS.out.2.1 2
        have d3 := cell_of_block HS.out.2.1 3
        have d4 := cell_of_block HS.out.2.1 4
        simp at q0 q1 q2 q3 q4 q5 d0 d1 d2 d3 d4
        go_wp2
        go_ret
        exact ⟨rfl, (HK.out.setCell (p := ⟨B + 4, 0, none⟩) (.inl (by simp [rbL])) (.bool true)), _, _, _, _, (HS.out.setOver true).1, .inr ⟨rfl, rfl⟩⟩
    · -- error 6
      by_cases g0 : at_ < (fa : Int)
      · have g3 : decide (at_ < (fa : Int)) = true := dec_lt_t g0
        clear g0
        have q0 := cell_of_block HS.out.1.1 0
        have q1 := cell_of_block HS.out.1.2.1 0
        have q2 := cell_of_block HS.out.1.2.2.1 0
        have q3 := cell_of_block HS.out.1.2.2.2.1 0
        have q4 := cell_of_block HS.out.1.2.2.2.2.1 0
        have q5 := cell_of_block HS.out.1.2.2.2.2.2 0
        have z1 := free_of_block HS.out.1.2.1 0
        have z2 := free_of_block HS.out.1.2.2.1 0
        have z3 := free_of_block HS.out.1.2.2.2.1 0
        have z4 := free_of_block HS.out.1.2.2.2.2.1 0
        have z5 := free_of_block HS.out.1.2.2.2.2.2 0
        have d0 := cell_of_block HS.out.2.1 0
        have d1 := cell_of_block HS.out.2.1 1
        have d2 := cell_of_block HS.out.2.1 2
        have d3 := cell_of_block HS.out.2.1 3
        have d4 := cell_of_block HS.out.2.1 4
        simp at q0 q1 q2 q3 q4 q5 d0 d1 d2 d3 d4
        go_upto_region 2 with (fail)
        clear q0 q1 q2 q3 q4 q5 z1 z2 z3 z4 z5 d0 d1 d2 d3 d4
        have HS2 := Lib.hid ((HS.out).setOk true)
        have HK2 := Lib.hid ((HK.out).setCell (p := ⟨B + 5, 0, none⟩) (.inl (by simp [rbL])) (.bool true))
        obtain ⟨w1, hw⟩ : ∃ w1, w1 = (w0.setCell ⟨B + 5, 0, none⟩ (.bool true)) := ⟨_, rfl⟩
        rw [← hw] at HS2 HK2 ⊢
        clear hw HS HK
        have HS := HS2
        have HK := HK2
        clear HS2 HK2
        have q0 := cell_of_block HS.out.1.1 0
        have q1 := cell_of_block HS.out.1.2.1 0
        have q2 := cell_of_block HS.out.1.2.2.1 0
        have q3 := cell_of_block HS.out.1.2.2.2.1 0
        have q4 := cell_of_block HS.out.1.2.2.2.2.1 0
        have q5 := cell_of_block HS.out.1.2.2.2.2.2 0
        have z1 := free_of_block HS.out.1.2.1 0
        have z2 := free_of_block HS.out.1.2.2.1 0
        have z3 := free_of_block HS.out.1.2.2.2.1 0
        have z4 := free_of_block HS.out.1.2.2.2.2.1 0
        have z5 := free_of_block HS.out.1.2.2.2.2.2 0
        have d0 := cell_of_block HS.out.2.1 0
        have d1 := cell_of_block HS.out.2.1 1
        have d2 := cell_of_block HS.out.2.1 2
        have d3 := cell_of_block HS.out.2.1 3
        have d4 := cell_of_block HS.out.2.1 4
        simp at q0 q1 q2 q3 q4 q5 d0 d1 d2 d3 d4
        go_upto_region 4 with (fail)
        clear q0 q1 q2 q3 q4 q5 z1 z2 z3 z4 z5 d0 d1 d2 d3 d4
        have HS2 := Lib.hid ((HS.out).setOk true)
        have HK2 := Lib.hid ((HK.out).setCell (p := ⟨B + 5, 0, none⟩) (.inl (by simp [rbL])) (.bool true))
        obtain ⟨w2, hw⟩ : ∃ w2, w2 = (w1.setCell ⟨B + 5, 0, none⟩ (.bool true)) := ⟨_, rfl⟩
        rw [← hw] at HS2 HK2 ⊢
        clear hw HS HK
        have HS := HS2
        have HK := HK2
        clear HS2 HK2
        have q0 := cell_of_block HS.out.1.1 0
        have q1 := cell_of_block HS.out.1.2.1 0
        have q2 := cell_of_block HS.out.1.2.2.1 0
        have q3 := cell_of_block HS.out.1.2.2.2.1 0
        have q4 := cell_of_block HS.out.1.2.2.2.2.1 0
        have q5 := cell_of_block HS.out.1.2.2.2.2.2 0
        have z1 := free_of_block HS.out.1.2.1 0
        have z2 := free_of_block HS.out.1.2.2.1 0
        have z3 := free_of_block HS.out.1.2.2.2.1 0
        have z4 := free_of_block HS.out.1.2.2.2.2.1 0
        have z5 := free_of_block HS.out.1.2.2.2.2.2 0
        have d0 := cell_of_block HS.out.2.1 0
        have d1 := cell_of_block HS.out.2.1 1
        have d2 := cell_of_block HS.out.2.1 2
        have d3 := cell_of_block HS.out.2.1 3
        have d4 := cell_of_block HS.out.2.1 4
        simp at q0 q1 q2 q3 q4 q5 d0 d1 d2 d3 d4
        go_wp2
        go_ret
        exact ⟨rfl, (HK.out.setCell (p := ⟨B + 4, 0, none⟩) (.inl (by simp [rbL])) (.bool true)), _, _, _, _, (HS.out.setOver true).1, .inr ⟨rfl, rfl⟩⟩
      · have g3 : decide (at_ < (fa : Int)) = false := dec_lt_f g0
        clear g0
        have q0 := cell_of_block HS.out.1.1 0
        have q1 := cell_of_block HS.out.1.2.1 0
        have q2 := cell_of_block HS.out.1.2.2.1 0
        have q3 := cell_of_block HS.out.1.2.2.2.1 0
        have q4 := cell_of_block HS.out.1.2.2.2.2.1 0
        have q5 := cell_of_block HS.out.1.2.2.2.2.2 0
        have z1 := free_of_block HS.out.1.2.1 0
        have z2 := free_of_block HS.out.1.2.2.1 0
        have z3 := free_of_block HS.out.1.2.2.2.1 0
        have z4 := free_of_block HS.out.1.2.2.2.2.1 0
        have z5 := free_of_block HS.out.1.2.2.2.2.2 0
        have d0 := cell_of_block HS.out.2.1 0
        have d1 := cell_of_block HS.out.2.1 1
        have d2 := cell_of_block HS.out.2.1 2
        have d3 := cell_of_block HS.out.2.1 3
        have d4 := cell_of_block HS.out.2.1 4
        simp at q0 q1 q2 q3 q4 q5 d0 d1 d2 d3 d4
        go_upto_region 2 with (fail)
        clear q0 q1 q2 q3 q4 q5 z1 z2 z3 z4 z5 d0 d1 d2 d3 d4
        have HS2 := Lib.hid ((HS.out).setOk true)
        have HK2 := Lib.hid ((HK.out).setCell (p := ⟨B + 5, 0, none⟩) (.inl (by simp [rbL])) (.bool true))
        obtain ⟨w1, hw⟩ : ∃ w1, w1 = (w0.setCell ⟨B + 5, 0, none⟩ (.bool true)) := ⟨_, rfl⟩
        rw [← hw] at HS2 HK2 ⊢
        clear hw HS HK
        have HS := HS2
        have HK := HK2
        clear HS2 HK2
        have q0 := cell_of_block HS.out.1.1 0
        have q1 := cell_of_block HS.out.1.2.1 0
        have q2 := cell_of_block HS.out.1.2.2.1 0
        have q3 := cell_of_block HS.out.1.2.2.2.1 0
        have q4 := cell_of_block HS.out.1.2.2.2.2.1 0
        have q5 := cell_of_block HS.out.1.2.2.2.2.2 0
        have z1 := free_of_block HS.out.1.2.1 0
        have z2 := free_of_block HS.out.1.2.2.1 0
        have z3 := free_of_block HS.out.1.2.2.2.1 0
        have z4 := free_of_block HS.out.1.2.2.2.2.1 0
        have z5 := free_of_block HS.out.1.2.2.2.2.2 0
        have d0 := cell_of_block HS.out.2.1 0
        have d1 := cell_of_block HS.out.2.1 1
        have d2 := cell_of_block HS.out.2.1 2
        have d3 := cell_of_block HS.out.2.1 3
        have d4 := cell_of_block HS.out.2.1 4
        simp at q0 q1 q2 q3 q4 q5 d0 d1 d2 d3 d4
        go_upto_region 4 with (fail)
        clear q0 q1 q2 q3 q4 q5 z1 z2 z3 z4 z5 d0 d1 d2 d3 d4
        have HS2 := Lib.hid ((HS.out).setOk true)
        have HK2 := Lib.hid ((HK.out).setCell (p := ⟨B + 5, 0, none⟩) (.inl (by simp [rbL])) (.bool true))
        obtain ⟨w2, hw⟩ : ∃ w2, w2 = (w1.setCell ⟨B + 5, 0, none⟩ (.bool true)) := ⟨_, rfl⟩
        rw [← hw] at HS2 HK2 ⊢
        clear hw HS HK
        have HS := HS2
        have HK := HK2
        clear HS2 HK2
        have q0 := cell_of_block HS.out.1.1 0
        have q1 := cell_of_block HS.out.1.2.1 0
        have q2 := cell_of_block HS.out.1.2.2.1 0
        have q3 := cell_of_block HS.out.1.2.2.2.1 0
        have q4 := cell_of_block HS.out.1.2.2.2.2.1 0
        have q5 := cell_of_block HS.out.1.2.2.2.2.2 0
        have z1 := free_of_block HS.out.1.2.1 0
        have z2 := free_of_block HS.out.1.2.2.1 0
        have z3 := free_of_block HS.out.1.2.2.2.1 0
        have z4 := free_of_block HS.out.1.2.2.2.2.1 0
        have z5 := free_of_block HS.out.1.2.2.2.2.2 0
        have d0 := cell_of_block HS.out.2.1 0
        have d1 := cell_of_block HS.out.2.1 1
        have d2 := cell_of_block HS.out.2.1 2
        have d3 := cell_of_block HS.out.2.1 3
        have d4 := cell_of_block HS.out.2.1 4
        simp at q0 q1 q2 q3 q4 q5 d0 d1 d2 d3 d4
        go_wp2
        go_ret
        exact ⟨rfl, (HK.out.setCell (p := ⟨B + 4, 0, none⟩) (.inl (by simp [rbL])) (.bool true)), _, _, _, _, (HS.out.setOver true).1, .inr ⟨rfl, rfl⟩⟩
  · simp only at r1 r4 r5 r6 r7 r8 r9 r10 r11
    subst r1
    have HR := Lib.hid r11
    clear r11
    by_cases hk : kind = 4
    · subst hk
      rcases r7 with rfl | rfl | rfl | rfl
      · -- word 1 True
        obtain ⟨hk4, hat⟩ := r5 rfl
        have g3 := dec_lt_t r4
        obtain rfl : fn = 0 := by rcases r8 with h | h; cases h; exact h
        obtain ⟨hts, hte, htx⟩ := r10 rfl
        have HT := Lib.hid (show fa + ft.size ≤ s.size ∧ ft.size ≠ 0 from ⟨hte, hts⟩)
        have htl := ne_empty hts
        have g9 := htl.1
        have g10 := dec_le_t (show (fa : Int) + (ft.size : Int) ≤ (s.size : Int) by omega)
        have g11 := dec_len_t hte
        have hzt : ft.size ≤ 1000000 := by omega
        have haz : fa ≤ 1000000 := by omega
        have hwr : IntKind.i64.wrap ((fa : Int) + (ft.size : Int)) = (fa : Int) + (ft.size : Int) := by rw [IntKind.wrap_i64]; omega
        have g9b := htl.2.1
        have g9c := htl.2.2
        clear htl hts
        have hsl := fun W => slice_u s (show fa ≤ fa + ft.size by omega) hte W
        simp only [htx] at hsl
        by_cases hat0 : at_ < 0
        · have g12 := dec_lt_t hat0
          clear hat
          clear r4 r5 r6 r8 r9 r10
          have q0 := cell_of_block HS.out.1.1 0
          have q1 := cell_of_block HS.out.1.2.1 0
          have q2 := cell_of_block HS.out.1.2.2.1 0
          have q3 := cell_of_block HS.out.1.2.2.2.1 0
          have q4 := cell_of_block HS.out.1.2.2.2.2.1 0
          have q5 := cell_of_block HS.out.1.2.2.2.2.2 0
          have z1 := free_of_block HS.out.1.2.1 0
          have z2 := free_of_block HS.out.1.2.2.1 0
          have z3 := free_of_block HS.out.1.2.2.2.1 0
          have z4 := free_of_block HS.out.1.2.2.2.2.1 0
          have z5 := free_of_block HS.out.1.2.2.2.2.2 0
          have d0 := cell_of_block HS.out.2.1 0
          have d1 := cell_of_block HS.out.2.1 1
          have d2 := cell_of_block HS.out.2.1 2
          have d3 := cell_of_block HS.out.2.1 3
          have d4 := cell_of_block HS.out.2.1 4
          simp at q0 q1 q2 q3 q4 q5 d0 d1 d2 d3 d4
          go_upto_region 2 with (fail)
          clear q0 q1 q2 q3 q4 q5 z1 z2 z3 z4 z5 d0 d1 d2 d3 d4
          have HS2 := Lib.hid ((HS.out).setOk true)
          have HK2 := Lib.hid ((HK.out).setCell (p := ⟨B + 5, 0, none⟩) (.inl (by simp [rbL])) (.bool true))
          obtain ⟨w1, hw⟩ : ∃ w1, w1 = (w0.setCell ⟨B + 5, 0, none⟩ (.bool true)) := ⟨_, rfl⟩
          rw [← hw] at HS2 HK2 ⊢
          clear hw HS HK
          have HS := HS2
          have HK := HK2
          clear HS2 HK2
          have q0 := cell_of_block HS.out.1.1 0
          have q1 := cell_of_block HS.out.1.2.1 0
          have q2 := cell_of_block HS.out.1.2.2.1 0
          have q3 := cell_of_block HS.out.1.2.2.2.1 0
          have q4 := cell_of_block HS.out.1.2.2.2.2.1 0
          have q5 := cell_of_block HS.out.1.2.2.2.2.2 0
          have z1 := free_of_block HS.out.1.2.1 0
          have z2 := free_of_block HS.out.1.2.2.1 0
          have z3 := free_of_block HS.out.1.2.2.2.1 0
          have z4 := free_of_block HS.out.1.2.2.2.2.1 0
          have z5 := free_of_block HS.out.1.2.2.2.2.2 0
          have d0 := cell_of_block HS.out.2.1 0
          have d1 := cell_of_block HS.out.2.1 1
          have d2 := cell_of_block HS.out.2.1 2
          have d3 := cell_of_block HS.out.2.1 3
          have d4 := cell_of_block HS.out.2.1 4
          simp at q0 q1 q2 q3 q4 q5 d0 d1 d2 d3 d4
          go_upto_region 9 with (fail)
          clear q0 q1 q2 q3 q4 q5 z1 z2 z3 z4 z5 d0 d1 d2 d3 d4
          have HS2 := Lib.hid ((HS.out).setOk true)
          have HK2 := Lib.hid ((HK.out).setCell (p := ⟨B + 5, 0, none⟩) (.inl (by simp [rbL])) (.bool true))
          obtain ⟨w2, hw⟩ : ∃ w2, w2 = (w1.setCell ⟨B + 5, 0, none⟩ (.bool true)) := ⟨_, rfl⟩
          rw [← hw] at HS2 HK2 ⊢
          clear hw HS HK
          have HS := HS2
          have HK := HK2
          clear HS2 HK2
          have q0 := cell_of_block HS.out.1.1 0
          have q1 := cell_of_block HS.out.1.2.1 0
          have q2 := cell_of_block HS.out.1.2.2.1 0
          have q3 := cell_of_block HS.out.1.2.2.2.1 0
          have q4 := cell_of_block HS.out.1.2.2.2.2.1 0
          have q5 := cell_of_block HS.out.1.2.2.2.2.2 0
          have z1 := free_of_block HS.out.1.2.1 0
          have z2 := free_of_block HS.out.1.2.2.1 0
          have z3 := free_of_block HS.out.1.2.2.2.1 0
          have z4 := free_of_block HS.out.1.2.2.2.2.1 0
          have z5 := free_of_block HS.out.1.2.2.2.2.2 0
          have d0 := cell_of_block HS.out.2.1 0
          have d1 := cell_of_block HS.out.2.1 1
          have d2 := cell_of_block HS.out.2.1 2
          have d3 := cell_of_block HS.out.2.1 3
          have d4 := cell_of_block HS.out.2.1 4
          simp at q0 q1 q2 q3 q4 q5 d0 d1 d2 d3 d4
          go_upto_region 11 with (fail)
          clear q0 q1 q2 q3 q4 q5 z1 z2 z3 z4 z5 d0 d1 d2 d3 d4
          have HS2 := Lib.hid ((((HS.out).setOk true)).setAt (fa : Nat))
          have HK2 := Lib.hid ((((HK.out).setCell (p := ⟨B + 5, 0, none⟩) (.inl (by simp [rbL])) (.bool true))).setCell (p := ⟨B + 1, 0, none⟩) (.inl (by simp [rbL])) (.int .i64 (fa : Nat)))
          obtain ⟨w3, hw⟩ : ∃ w3, w3 = ((w2.setCell ⟨B + 5, 0, none⟩ (.bool true)).setCell ⟨B + 1, 0, none⟩ (.int .i64 (fa : Nat))) := ⟨_, rfl⟩
          rw [← hw] at HS2 HK2 ⊢
          clear hw HS HK
          have HS := HS2
          have HK := HK2
          clear HS2 HK2
          have q0 := cell_of_block HS.out.1.1 0
          have q1 := cell_of_block HS.out.1.2.1 0
          have q2 := cell_of_block HS.out.1.2.2.1 0
          have q3 := cell_of_block HS.out.1.2.2.2.1 0
          have q4 := cell_of_block HS.out.1.2.2.2.2.1 0
          have q5 := cell_of_block HS.out.1.2.2.2.2.2 0
          have z1 := free_of_block HS.out.1.2.1 0
          have z2 := free_of_block HS.out.1.2.2.1 0
          have z3 := free_of_block HS.out.1.2.2.2.1 0
          have z4 := free_of_block HS.out.1.2.2.2.2.1 0
          have z5 := free_of_block HS.out.1.2.2.2.2.2 0
          have d0 := cell_of_block HS.out.2.1 0
          have d1 := cell_of_block HS.out.2.1 1
          have d2 := cell_of_block HS.out.2.1 2
          have d3 := cell_of_block HS.out.2.1 3
          have d4 := cell_of_block HS.out.2.1 4
          simp at q0 q1 q2 q3 q4 q5 d0 d1 d2 d3 d4
          go_upto_region 12 with (fail)
          refine (wpIn_wide (n := 0)).1 ?_
          refine wpIn_fix (.inl rfl) 32 [] (fun _ => w3.drew) (fun w' => w'.cell? ⟨B, 0, none⟩ = some (.string s) ∧ w'.cell? ⟨B + 5, 0, none⟩ = some (.bool true) ∧ w'.cell? ⟨D, 1, none⟩ = some (.string ft) ∧ w'.cell? ⟨D, 3, none⟩ = some (.int .i64 (fa : Nat)))
            [.bool true, .bool true, .pointer (some ⟨D, 1, none⟩), .string ft, .bool true, .bool true, .bool true, .pointer (some ⟨D, 3, none⟩), .int .i64 (fa : Nat), .pointer (some ⟨D, 1, none⟩), .string ft, .int .i64 (ft.size : Nat), .int .i64 ((fa : Int) + (ft.size : Nat)), .string s, .int .i64 (s.size : Nat), .bool true, .bool true, .bool true,
             .string s, .pointer (some ⟨D, 3, none⟩), .int .i64 (fa : Nat), .pointer (some ⟨D, 3, none⟩), .int .i64 (fa : Nat), .pointer (some ⟨D, 1, none⟩), .string ft, .int .i64 (ft.size : Nat), .int .i64 ((fa : Int) + (ft.size : Nat)), .string ft, .pointer (some ⟨D, 1, none⟩), .string ft, .bool true, .bool true]
            (by kernel_rfl) (by kernel_rfl) rfl rfl rfl (fun _ _ => ⟨q0, q5, d1, d3⟩) ?rest12
          case rest12 =>
            intro A hA
            simp only [putVals, List.take, Act.put, List.setIfInBounds_toArray, List.set_cons_succ, List.set_cons_zero] at hA
            subst hA
            refine ⟨?_, fixWrites_nil, ?_⟩
            · iterate 32
                refine fixReads_on rfl ?_ ?_
                · intro w1 hw1 K Q hK
                  obtain ⟨p1, p2, p3, p4⟩ := hw1
                  go_simp
                  exact hK
              exact fixReads_nil
            · simp only [List.drop]
              gi_upto_region 13 with (fail)
              clear q0 q1 q2 q3 q4 q5 z1 z2 z3 z4 z5 d0 d1 d2 d3 d4
              have HS2 := Lib.hid ((HS.out.setOk true).drew)
              have HK2 := Lib.hid (((HK.out).setCell (p := ⟨B + 5, 0, none⟩) (.inl (by simp [rbL])) (.bool true)).drew)
              obtain ⟨w4, hw⟩ : ∃ w4, w4 = (w3.setCell ⟨B + 5, 0, none⟩ (.bool true)).drew := ⟨_, rfl⟩
              rw [← hw] at HS2 HK2 ⊢
              clear hw HS HK
              have HS := HS2
              have HK := HK2
              clear HS2 HK2
              have q0 := cell_of_block HS.out.1.1 0
              have q1 := cell_of_block HS.out.1.2.1 0
              have q2 := cell_of_block HS.out.1.2.2.1 0
              have q3 := cell_of_block HS.out.1.2.2.2.1 0
              have q4 := cell_of_block HS.out.1.2.2.2.2.1 0
              have q5 := cell_of_block HS.out.1.2.2.2.2.2 0
              have z1 := free_of_block HS.out.1.2.1 0
              have z2 := free_of_block HS.out.1.2.2.1 0
              have z3 := free_of_block HS.out.1.2.2.2.1 0
              have z4 := free_of_block HS.out.1.2.2.2.2.1 0
              have z5 := free_of_block HS.out.1.2.2.2.2.2 0
              have d0 := cell_of_block HS.out.2.1 0
              have d1 := cell_of_block HS.out.2.1 1
              have d2 := cell_of_block HS.out.2.1 2
              have d3 := cell_of_block HS.out.2.1 3
              have d4 := cell_of_block HS.out.2.1 4
              simp at q0 q1 q2 q3 q4 q5 d0 d1 d2 d3 d4
              go_upto_region 14 with (fail)
              clear q0 q1 q2 q3 q4 q5 z1 z2 z3 z4 z5 d0 d1 d2 d3 d4
              have HS2 := Lib.hid ((HS.out).setAt ((fa : Int) + (ft.size : Int) - 1))
              have HK2 := Lib.hid ((HK.out).setCell (p := ⟨B + 1, 0, none⟩) (.inl (by simp [rbL])) (.int .i64 ((fa : Int) + (ft.size : Int) - 1)))
              obtain ⟨w5, hw⟩ : ∃ w5, w5 = (w4.setCell ⟨B + 1, 0, none⟩ (.int .i64 ((fa : Int) + (ft.size : Int) - 1))) := ⟨_, rfl⟩
              rw [← hw] at HS2 HK2 ⊢
              clear hw HS HK
              have HS := HS2
              have HK := HK2
              clear HS2 HK2
              have q0 := cell_of_block HS.out.1.1 0
              have q1 := cell_of_block HS.out.1.2.1 0
              have q2 := cell_of_block HS.out.1.2.2.1 0
              have q3 := cell_of_block HS.out.1.2.2.2.1 0
              have q4 := cell_of_block HS.out.1.2.2.2.2.1 0
              have q5 := cell_of_block HS.out.1.2.2.2.2.2 0
              have z1 := free_of_block HS.out.1.2.1 0
              have z2 := free_of_block HS.out.1.2.2.1 0
              have z3 := free_of_block HS.out.1.2.2.2.1 0
              have z4 := free_of_block HS.out.1.2.2.2.2.1 0
              have z5 := free_of_block HS.out.1.2.2.2.2.2 0
              have d0 := cell_of_block HS.out.2.1 0
              have d1 := cell_of_block HS.out.2.1 1
              have d2 := cell_of_block HS.out.2.1 2
              have d3 := cell_of_block HS.out.2.1 3
              have d4 := cell_of_block HS.out.2.1 4
              simp at q0 q1 q2 q3 q4 q5 d0 d1 d2 d3 d4
              go_upto_region 15 with (fail)
              clear q0 q1 q2 q3 q4 q5 z1 z2 z3 z4 z5 d0 d1 d2 d3 d4
              have HS2 := Lib.hid ((HS.out).setLine fl)
              have HK2 := Lib.hid ((HK.out).setCell (p := ⟨B + 2, 0, none⟩) (.inl (by simp [rbL])) (.int .i64 (fl : Nat)))
              obtain ⟨w6, hw⟩ : ∃ w6, w6 = (w5.setCell ⟨B + 2, 0, none⟩ (.int .i64 (fl : Nat))) := ⟨_, rfl⟩
              rw [← hw] at HS2 HK2 ⊢
              clear hw HS HK
              have HS := HS2
              have HK := HK2
              clear HS2 HK2
              have q0 := cell_of_block HS.out.1.1 0
              have q1 := cell_of_block HS.out.1.2.1 0
              have q2 := cell_of_block HS.out.1.2.2.1 0
              have q3 := cell_of_block HS.out.1.2.2.2.1 0
              have q4 := cell_of_block HS.out.1.2.2.2.2.1 0
              have q5 := cell_of_block HS.out.1.2.2.2.2.2 0
              have z1 := free_of_block HS.out.1.2.1 0
              have z2 := free_of_block HS.out.1.2.2.1 0
              have z3 := free_of_block HS.out.1.2.2.2.1 0
              have z4 := free_of_block HS.out.1.2.2.2.2.1 0
              have z5 := free_of_block HS.out.1.2.2.2.2.2 0
              have d0 := cell_of_block HS.out.2.1 0
              have d1 := cell_of_block HS.out.2.1 1
              have d2 := cell_of_block HS.out.2.1 2
              have d3 := cell_of_block HS.out.2.1 3
              have d4 := cell_of_block HS.out.2.1 4
              simp at q0 q1 q2 q3 q4 q5 d0 d1 d2 d3 d4
              go_wp2
              go_ret
              exact ⟨rfl, (HK.out.setCell (p := ⟨B + 3, 0, none⟩) (.inl (by simp [rbL])) (.int .i64 (1 : Nat))), _, _, _, _, (HS.out.setKind 1).1, .inl ⟨rfl, HR.out⟩⟩
        · have g12 := dec_lt_f hat0
          have hat2 : line < fl := by rcases hat with h | h; exact absurd h hat0; exact h
          have g13 := dec_lt_t (show (line : Int) < (fl : Int) by omega)
          have g14 := dec_ltn_t hat2
          clear hat hat2 hat0
          clear r4 r5 r6 r8 r9 r10
          have q0 := cell_of_block HS.out.1.1 0
          have q1 := cell_of_block HS.out.1.2.1 0
          have q2 := cell_of_block HS.out.1.2.2.1 0
          have q3 := cell_of_block HS.out.1.2.2.2.1 0
          have q4 := cell_of_block HS.out.1.2.2.2.2.1 0
          have q5 := cell_of_block HS.out.1.2.2.2.2.2 0
          have z1 := free_of_block HS.out.1.2.1 0
          have z2 := free_of_block HS.out.1.2.2.1 0
          have z3 := free_of_block HS.out.1.2.2.2.1 0
          have z4 := free_of_block HS.out.1.2.2.2.2.1 0
          have z5 := free_of_block HS.out.1.2.2.2.2.2 0
          have d0 := cell_of_block HS.out.2.1 0
          have d1 := cell_of_block HS.out.2.1 1
          have d2 := cell_of_block HS.out.2.1 2
          have d3 := cell_of_block HS.out.2.1 3
          have d4 := cell_of_block HS.out.2.1 4
          simp at q0 q1 q2 q3 q4 q5 d0 d1 d2 d3 d4
          go_upto_region 2 with (fail)
          clear q0 q1 q2 q3 q4 q5 z1 z2 z3 z4 z5 d0 d1 d2 d3 d4
          have HS2 := Lib.hid ((HS.out).setOk true)
          have HK2 := Lib.hid ((HK.out).setCell (p := ⟨B + 5, 0, none⟩) (.inl (by simp [rbL])) (.bool true))
          obtain ⟨w1, hw⟩ : ∃ w1, w1 = (w0.setCell ⟨B + 5, 0, none⟩ (.bool true)) := ⟨_, rfl⟩
          rw [← hw] at HS2 HK2 ⊢
          clear hw HS HK
          have HS := HS2
          have HK := HK2
          clear HS2 HK2
          have q0 := cell_of_block HS.out.1.1 0
          have q1 := cell_of_block HS.out.1.2.1 0
          have q2 := cell_of_block HS.out.1.2.2.1 0
          have q3 := cell_of_block HS.out.1.2.2.2.1 0
          have q4 := cell_of_block HS.out.1.2.2.2.2.1 0
          have q5 := cell_of_block HS.out.1.2.2.2.2.2 0
          have z1 := free_of_block HS.out.1.2.1 0
          have z2 := free_of_block HS.out.1.2.2.1 0
          have z3 := free_of_block HS.out.1.2.2.2.1 0
          have z4 := free_of_block HS.out.1.2.2.2.2.1 0
          have z5 := free_of_block HS.out.1.2.2.2.2.2 0
          have d0 := cell_of_block HS.out.2.1 0
          have d1 := cell_of_block HS.out.2.1 1
          have d2 := cell_of_block HS.out.2.1 2
          have d3 := cell_of_block HS.out.2.1 3
          have d4 := cell_of_block HS.out.2.1 4
          simp at q0 q1 q2 q3 q4 q5 d0 d1 d2 d3 d4
          go_upto_region 9 with (fail)
          clear q0 q1 q2 q3 q4 q5 z1 z2 z3 z4 z5 d0 d1 d2 d3 d4
          have HS2 := Lib.hid ((HS.out).setOk true)
          have HK2 := Lib.hid ((HK.out).setCell (p := ⟨B + 5, 0, none⟩) (.inl (by simp [rbL])) (.bool true))
          obtain ⟨w2, hw⟩ : ∃ w2, w2 = (w1.setCell ⟨B + 5, 0, none⟩ (.bool true)) := ⟨_, rfl⟩
          rw [← hw] at HS2 HK2 ⊢
          clear hw HS HK
          have HS := HS2
          have HK := HK2
          clear HS2 HK2
          have q0 := cell_of_block HS.out.1.1 0
          have q1 := cell_of_block HS.out.1.2.1 0
          have q2 := cell_of_block HS.out.1.2.2.1 0
          have q3 := cell_of_block HS.out.1.2.2.2.1 0
          have q4 := cell_of_block HS.out.1.2.2.2.2.1 0
          have q5 := cell_of_block HS.out.1.2.2.2.2.2 0
          have z1 := free_of_block HS.out.1.2.1 0
          have z2 := free_of_block HS.out.1.2.2.1 0
          have z3 := free_of_block HS.out.1.2.2.2.1 0
          have z4 := free_of_block HS.out.1.2.2.2.2.1 0
          have z5 := free_of_block HS.out.1.2.2.2.2.2 0
          have d0 := cell_of_block HS.out.2.1 0
          have d1 := cell_of_block HS.out.2.1 1
          have d2 := cell_of_block HS.out.2.1 2
          have d3 := cell_of_block HS.out.2.1 3
          have d4 := cell_of_block HS.out.2.1 4
          simp at q0 q1 q2 q3 q4 q5 d0 d1 d2 d3 d4
          go_upto_region 11 with (fail)
          clear q0 q1 q2 q3 q4 q5 z1 z2 z3 z4 z5 d0 d1 d2 d3 d4
          have HS2 := Lib.hid ((((HS.out).setOk true)).setAt (fa : Nat))
          have HK2 := Lib.hid ((((HK.out).setCell (p := ⟨B + 5, 0, none⟩) (.inl (by simp [rbL])) (.bool true))).setCell (p := ⟨B + 1, 0, none⟩) (.inl (by simp [rbL])) (.int .i64 (fa : Nat)))
          obtain ⟨w3, hw⟩ : ∃ w3, w3 = ((w2.setCell ⟨B + 5, 0, none⟩ (.bool true)).setCell ⟨B + 1, 0, none⟩ (.int .i64 (fa : Nat))) := ⟨_, rfl⟩
          rw [← hw] at HS2 HK2 ⊢
          clear hw HS HK
          have HS := HS2
          have HK := HK2
          clear HS2 HK2
          have q0 := cell_of_block HS.out.1.1 0
          have q1 := cell_of_block HS.out.1.2.1 0
          have q2 := cell_of_block HS.out.1.2.2.1 0
          have q3 := cell_of_block HS.out.1.2.2.2.1 0
          have q4 := cell_of_block HS.out.1.2.2.2.2.1 0
          have q5 := cell_of_block HS.out.1.2.2.2.2.2 0
          have z1 := free_of_block HS.out.1.2.1 0
          have z2 := free_of_block HS.out.1.2.2.1 0
          have z3 := free_of_block HS.out.1.2.2.2.1 0
          have z4 := free_of_block HS.out.1.2.2.2.2.1 0
          have z5 := free_of_block HS.out.1.2.2.2.2.2 0
          have d0 := cell_of_block HS.out.2.1 0
          have d1 := cell_of_block HS.out.2.1 1
          have d2 := cell_of_block HS.out.2.1 2
          have d3 := cell_of_block HS.out.2.1 3
          have d4 := cell_of_block HS.out.2.1 4
          simp at q0 q1 q2 q3 q4 q5 d0 d1 d2 d3 d4
          go_upto_region 12 with (fail)
          refine (wpIn_wide (n := 0)).1 ?_
          refine wpIn_fix (.inl rfl) 32 [] (fun _ => w3.drew) (fun w' => w'.cell? ⟨B, 0, none⟩ = some (.string s) ∧ w'.cell? ⟨B + 5, 0, none⟩ = some (.bool true) ∧ w'.cell? ⟨D, 1, none⟩ = some (.string ft) ∧ w'.cell? ⟨D, 3, none⟩ = some (.int .i64 (fa : Nat)))
            [.bool true, .bool true, .pointer (some ⟨D, 1, none⟩), .string ft, .bool true, .bool true, .bool true, .pointer (some ⟨D, 3, none⟩), .int .i64 (fa : Nat), .pointer (some ⟨D, 1, none⟩), .string ft, .int .i64 (ft.size : Nat), .int .i64 ((fa : Int) + (ft.size : Nat)), .string s, .int .i64 (s.size : Nat), .bool true, .bool true, .bool true,
             .string s, .pointer (some ⟨D, 3, none⟩), .int .i64 (fa : Nat), .pointer (some ⟨D, 3, none⟩), .int .i64 (fa : Nat), .pointer (some ⟨D, 1, none⟩), .string ft, .int .i64 (ft.size : Nat), .int .i64 ((fa : Int) + (ft.size : Nat)), .string ft, .pointer (some ⟨D, 1, none⟩), .string ft, .bool true, .bool true]
            (by kernel_rfl) (by kernel_rfl) rfl rfl rfl (fun _ _ => ⟨q0, q5, d1, d3⟩) ?rest12
          case rest12 =>
            intro A hA
            simp only [putVals, List.take, Act.put, List.setIfInBounds_toArray, List.set_cons_succ, List.set_cons_zero] at hA
            subst hA
            refine ⟨?_, fixWrites_nil, ?_⟩
            · iterate 32
                refine fixReads_on rfl ?_ ?_
                · intro w1 hw1 K Q hK
                  obtain ⟨p1, p2, p3, p4⟩ := hw1
                  go_simp
                  exact hK
              exact fixReads_nil
            · simp only [List.drop]
              gi_upto_region 13 with (fail)
              clear q0 q1 q2 q3 q4 q5 z1 z2 z3 z4 z5 d0 d1 d2 d3 d4
              have HS2 := Lib.hid ((HS.out.setOk true).drew)
              have HK2 := Lib.hid (((HK.out).setCell (p := ⟨B + 5, 0, none⟩) (.inl (by simp [rbL])) (.bool true)).drew)
              obtain ⟨w4, hw⟩ : ∃ w4, w4 = (w3.setCell ⟨B + 5, 0, none⟩ (.bool true)).drew := ⟨_, rfl⟩
              rw [← hw] at HS2 HK2 ⊢
              clear hw HS HK
              have HS := HS2
              have HK := HK2
              clear HS2 HK2
              have q0 := cell_of_block HS.out.1.1 0
              have q1 := cell_of_block HS.out.1.2.1 0
              have q2 := cell_of_block HS.out.1.2.2.1 0
              have q3 := cell_of_block HS.out.1.2.2.2.1 0
              have q4 := cell_of_block HS.out.1.2.2.2.2.1 0
              have q5 := cell_of_block HS.out.1.2.2.2.2.2 0
              have z1 := free_of_block HS.out.1.2.1 0
              have z2 := free_of_block HS.out.1.2.2.1 0
              have z3 := free_of_block HS.out.1.2.2.2.1 0
              have z4 := free_of_block HS.out.1.2.2.2.2.1 0
              have z5 := free_of_block HS.out.1.2.2.2.2.2 0
              have d0 := cell_of_block HS.out.2.1 0
              have d1 := cell_of_block HS.out.2.1 1
              have d2 := cell_of_block HS.out.2.1 2
              have d3 := cell_of_block HS.out.2.1 3
              have d4 := cell_of_block HS.out.2.1 4
              simp at q0 q1 q2 q3 q4 q5 d0 d1 d2 d3 d4
              go_upto_region 14 with (fail)
              clear q0 q1 q2 q3 q4 q5 z1 z2 z3 z4 z5 d0 d1 d2 d3 d4
              have HS2 := Lib.hid ((HS.out).setAt ((fa : Int) + (ft.size : Int) - 1))
              have HK2 := Lib.hid ((HK.out).setCell (p := ⟨B + 1, 0, none⟩) (.inl (by simp [rbL])) (.int .i64 ((fa : Int) + (ft.size : Int) - 1)))
              obtain ⟨w5, hw⟩ : ∃ w5, w5 = (w4.setCell ⟨B + 1, 0, none⟩ (.int .i64 ((fa : Int) + (ft.size : Int) - 1))) := ⟨_, rfl⟩
              rw [← hw] at HS2 HK2 ⊢
              clear hw HS HK
              have HS := HS2
              have HK := HK2
              clear HS2 HK2
              have q0 := cell_of_block HS.out.1.1 0
              have q1 := cell_of_block HS.out.1.2.1 0
              have q2 := cell_of_block HS.out.1.2.2.1 0
              have q3 := cell_of_block HS.out.1.2.2.2.1 0
              have q4 := cell_of_block HS.out.1.2.2.2.2.1 0
              have q5 := cell_of_block HS.out.1.2.2.2.2.2 0
              have z1 := free_of_block HS.out.1.2.1 0
              have z2 := free_of_block HS.out.1.2.2.1 0
              have z3 := free_of_block HS.out.1.2.2.2.1 0
              have z4 := free_of_block HS.out.1.2.2.2.2.1 0
              have z5 := free_of_block HS.out.1.2.2.2.2.2 0
              have d0 := cell_of_block HS.out.2.1 0
              have d1 := cell_of_block HS.out.2.1 1
              have d2 := cell_of_block HS.out.2.1 2
              have d3 := cell_of_block HS.out.2.1 3
              have d4 := cell_of_block HS.out.2.1 4
              simp at q0 q1 q2 q3 q4 q5 d0 d1 d2 d3 d4
              go_upto_region 15 with (fail)
              clear q0 q1 q2 q3 q4 q5 z1 z2 z3 z4 z5 d0 d1 d2 d3 d4
              have HS2 := Lib.hid ((HS.out).setLine fl)
              have HK2 := Lib.hid ((HK.out).setCell (p := ⟨B + 2, 0, none⟩) (.inl (by simp [rbL])) (.int .i64 (fl : Nat)))
              obtain ⟨w6, hw⟩ : ∃ w6, w6 = (w5.setCell ⟨B + 2, 0, none⟩ (.int .i64 (fl : Nat))) := ⟨_, rfl⟩
              rw [← hw] at HS2 HK2 ⊢
              clear hw HS HK
              have HS := HS2
              have HK := HK2
              clear HS2 HK2
              have q0 := cell_of_block HS.out.1.1 0
              have q1 := cell_of_block HS.out.1.2.1 0
              have q2 := cell_of_block HS.out.1.2.2.1 0
              have q3 := cell_of_block HS.out.1.2.2.2.1 0
              have q4 := cell_of_block HS.out.1.2.2.2.2.1 0
              have q5 := cell_of_block HS.out.1.2.2.2.2.2 0
              have z1 := free_of_block HS.out.1.2.1 0
              have z2 := free_of_block HS.out.1.2.2.1 0
              have z3 := free_of_block HS.out.1.2.2.2.1 0
              have z4 := free_of_block HS.out.1.2.2.2.2.1 0
              have z5 := free_of_block HS.out.1.2.2.2.2.2 0
              have d0 := cell_of_block HS.out.2.1 0
              have d1 := cell_of_block HS.out.2.1 1
              have d2 := cell_of_block HS.out.2.1 2
              have d3 := cell_of_block HS.out.2.1 3
              have d4 := cell_of_block HS.out.2.1 4
              simp at q0 q1 q2 q3 q4 q5 d0 d1 d2 d3 d4
              go_wp2
              go_ret
              exact ⟨rfl, (HK.out.setCell (p := ⟨B + 3, 0, none⟩) (.inl (by simp [rbL])) (.int .i64 (1 : Nat))), _, _, _, _, (HS.out.setKind 1).1, .inl ⟨rfl, HR.out⟩⟩
      · -- word 2 True
        obtain ⟨hk4, hat⟩ := r5 rfl
        have g3 := dec_lt_t r4
        obtain rfl : fn = 0 := by rcases r8 with h | h; cases h; exact h
        by_cases hat0 : at_ < 0
        · have g12 := dec_lt_t hat0
          clear hat
          clear r4 r5 r6 r8 r9 r10
          have q0 := cell_of_block HS.out.1.1 0
          have q1 := cell_of_block HS.out.1.2.1 0
          have q2 := cell_of_block HS.out.1.2.2.1 0
          have q3 := cell_of_block HS.out.1.2.2.2.1 0
          have q4 := cell_of_block HS.out.1.2.2.2.2.1 0
          have q5 := cell_of_block HS.out.1.2.2.2.2.2 0
          have z1 := free_of_block HS.out.1.2.1 0
          have z2 := free_of_block HS.out.1.2.2.1 0
          have z3 := free_of_block HS.out.1.2.2.2.1 0
          have z4 := free_of_block HS.out.1.2.2.2.2.1 0
          have z5 := free_of_block HS.out.1.2.2.2.2.2 0
          have d0 := cell_of_block HS.out.2.1 0
          have d1 := cell_of_block HS.out.2.1 1
          have d2 := cell_of_block HS.out.2.1 2
          have d3 := cell_of_block HS.out.2.1 3
          have d4 := cell_of_block HS.out.2.1 4
          simp at q0 q1 q2 q3 q4 q5 d0 d1 d2 d3 d4
          go_upto_region 2 with (fail)
          clear q0 q1 q2 q3 q4 q5 z1 z2 z3 z4 z5 d0 d1 d2 d3 d4
          have HS2 := Lib.hid ((HS.out).setOk true)
          have HK2 := Lib.hid ((HK.out).setCell (p := ⟨B + 5, 0, none⟩) (.inl (by simp [rbL])) (.bool true))
          obtain ⟨w1, hw⟩ : ∃ w1, w1 = (w0.setCell ⟨B + 5, 0, none⟩ (.bool true)) := ⟨_, rfl⟩
          rw [← hw] at HS2 HK2 ⊢
          clear hw HS HK
          have HS := HS2
          have HK := HK2
          clear HS2 HK2
          have q0 := cell_of_block HS.out.1.1 0
          have q1 := cell_of_block HS.out.1.2.1 0
          have q2 := cell_of_block HS.out.1.2.2.1 0
          have q3 := cell_of_block HS.out.1.2.2.2.1 0
          have q4 := cell_of_block HS.out.1.2.2.2.2.1 0
          have q5 := cell_of_block HS.out.1.2.2.2.2.2 0
          have z1 := free_of_block HS.out.1.2.1 0
          have z2 := free_of_block HS.out.1.2.2.1 0
          have z3 := free_of_block HS.out.1.2.2.2.1 0
          have z4 := free_of_block HS.out.1.2.2.2.2.1 0
          have z5 := free_of_block HS.out.1.2.2.2.2.2 0
          have d0 := cell_of_block HS.out.2.1 0
          have d1 := cell_of_block HS.out.2.1 1
          have d2 := cell_of_block HS.out.2.1 2
          have d3 := cell_of_block HS.out.2.1 3
          have d4 := cell_of_block HS.out.2.1 4
          simp at q0 q1 q2 q3 q4 q5 d0 d1 d2 d3 d4
          go_upto_region 9 with (fail)
          clear q0 q1 q2 q3 q4 q5 z1 z2 z3 z4 z5 d0 d1 d2 d3 d4
          have HS2 := Lib.hid ((HS.out).setOk true)
          have HK2 := Lib.hid ((HK.out).setCell (p := ⟨B + 5, 0, none⟩) (.inl (by simp [rbL])) (.bool true))
          obtain ⟨w2, hw⟩ : ∃ w2, w2 = (w1.setCell ⟨B + 5, 0, none⟩ (.bool true)) := ⟨_, rfl⟩
          rw [← hw] at HS2 HK2 ⊢
          clear hw HS HK
          have HS := HS2
          have HK := HK2
          clear HS2 HK2
          have q0 := cell_of_block HS.out.1.1 0
          have q1 := cell_of_block HS.out.1.2.1 0
          have q2 := cell_of_block HS.out.1.2.2.1 0
          have q3 := cell_of_block HS.out.1.2.2.2.1 0
          have q4 := cell_of_block HS.out.1.2.2.2.2.1 0
          have q5 := cell_of_block HS.out.1.2.2.2.2.2 0
          have z1 := free_of_block HS.out.1.2.1 0
          have z2 := free_of_block HS.out.1.2.2.1 0
          have z3 := free_of_block HS.out.1.2.2.2.1 0
          have z4 := free_of_block HS.out.1.2.2.2.2.1 0
          have z5 := free_of_block HS.out.1.2.2.2.2.2 0
          have d0 := cell_of_block HS.out.2.1 0
          have d1 := cell_of_block HS.out.2.1 1
          have d2 := cell_of_block HS.out.2.1 2
          have d3 := cell_of_block HS.out.2.1 3
          have d4 := cell_of_block HS.out.2.1 4
          simp at q0 q1 q2 q3 q4 q5 d0 d1 d2 d3 d4
          go_upto_region 11 with (fail)
          clear q0 q1 q2 q3 q4 q5 z1 z2 z3 z4 z5 d0 d1 d2 d3 d4
          have HS2 := Lib.hid ((((HS.out).setOk true)).setAt (fa : Nat))
          have HK2 := Lib.hid ((((HK.out).setCell (p := ⟨B + 5, 0, none⟩) (.inl (by simp [rbL])) (.bool true))).setCell (p := ⟨B + 1, 0, none⟩) (.inl (by simp [rbL])) (.int .i64 (fa : Nat)))
          obtain ⟨w3, hw⟩ : ∃ w3, w3 = ((w2.setCell ⟨B + 5, 0, none⟩ (.bool true)).setCell ⟨B + 1, 0, none⟩ (.int .i64 (fa : Nat))) := ⟨_, rfl⟩
          rw [← hw] at HS2 HK2 ⊢
          clear hw HS HK
          have HS := HS2
          have HK := HK2
          clear HS2 HK2
          have q0 := cell_of_block HS.out.1.1 0
          have q1 := cell_of_block HS.out.1.2.1 0
          have q2 := cell_of_block HS.out.1.2.2.1 0
          have q3 := cell_of_block HS.out.1.2.2.2.1 0
          have q4 := cell_of_block HS.out.1.2.2.2.2.1 0
          have q5 := cell_of_block HS.out.1.2.2.2.2.2 0
          have z1 := free_of_block HS.out.1.2.1 0
          have z2 := free_of_block HS.out.1.2.2.1 0
          have z3 := free_of_block HS.out.1.2.2.2.1 0
          have z4 := free_of_block HS.out.1.2.2.2.2.1 0
          have z5 := free_of_block HS.out.1.2.2.2.2.2 0
          have d0 := cell_of_block HS.out.2.1 0
          have d1 := cell_of_block HS.out.2.1 1
          have d2 := cell_of_block HS.out.2.1 2
          have d3 := cell_of_block HS.out.2.1 3
          have d4 := cell_of_block HS.out.2.1 4
          simp at q0 q1 q2 q3 q4 q5 d0 d1 d2 d3 d4
          go_upto_region 15 with (fail)
          clear q0 q1 q2 q3 q4 q5 z1 z2 z3 z4 z5 d0 d1 d2 d3 d4
          have HS2 := Lib.hid ((HS.out).setLine fl)
          have HK2 := Lib.hid ((HK.out).setCell (p := ⟨B + 2, 0, none⟩) (.inl (by simp [rbL])) (.int .i64 (fl : Nat)))
          obtain ⟨w4, hw⟩ : ∃ w4, w4 = (w3.setCell ⟨B + 2, 0, none⟩ (.int .i64 (fl : Nat))) := ⟨_, rfl⟩
          rw [← hw] at HS2 HK2 ⊢
          clear hw HS HK
          have HS := HS2
          have HK := HK2
          clear HS2 HK2
          have q0 := cell_of_block HS.out.1.1 0
          have q1 := cell_of_block HS.out.1.2.1 0
          have q2 := cell_of_block HS.out.1.2.2.1 0
          have q3 := cell_of_block HS.out.1.2.2.2.1 0
          have q4 := cell_of_block HS.out.1.2.2.2.2.1 0
          have q5 := cell_of_block HS.out.1.2.2.2.2.2 0
          have z1 := free_of_block HS.out.1.2.1 0
          have z2 := free_of_block HS.out.1.2.2.1 0
          have z3 := free_of_block HS.out.1.2.2.2.1 0
          have z4 := free_of_block HS.out.1.2.2.2.2.1 0
          have z5 := free_of_block HS.out.1.2.2.2.2.2 0
          have d0 := cell_of_block HS.out.2.1 0
          have d1 := cell_of_block HS.out.2.1 1
          have d2 := cell_of_block HS.out.2.1 2
          have d3 := cell_of_block HS.out.2.1 3
          have d4 := cell_of_block HS.out.2.1 4
          simp at q0 q1 q2 q3 q4 q5 d0 d1 d2 d3 d4
          go_wp2
          go_ret
          exact ⟨rfl, (HK.out.setCell (p := ⟨B + 3, 0, none⟩) (.inl (by simp [rbL])) (.int .i64 (2 : Nat))), _, _, _, _, (HS.out.setKind 2).1, .inl ⟨rfl, HR.out⟩⟩
        · have g12 := dec_lt_f hat0
          have hat2 : line < fl := by rcases hat with h | h; exact absurd h hat0; exact h
          have g13 := dec_lt_t (show (line : Int) < (fl : Int) by omega)
          have g14 := dec_ltn_t hat2
          clear hat hat2 hat0
          clear r4 r5 r6 r8 r9 r10
          have q0 := cell_of_block HS.out.1.1 0
          have q1 := cell_of_block HS.out.1.2.1 0
          have q2 := cell_of_block HS.out.1.2.2.1 0
          have q3 := cell_of_block HS.out.1.2.2.2.1 0
          have q4 := cell_of_block HS.out.1.2.2.2.2.1 0
          have q5 := cell_of_block HS.out.1.2.2.2.2.2 0
          have z1 := free_of_block HS.out.1.2.1 0
          have z2 := free_of_block HS.out.1.2.2.1 0
          have z3 := free_of_block HS.out.1.2.2.2.1 0
          have z4 := free_of_block HS.out.1.2.2.2.2.1 0
          have z5 := free_of_block HS.out.1.2.2.2.2.2 0
          have d0 := cell_of_block HS.out.2.1 0
          have d1 := cell_of_block HS.out.2.1 1
          have d2 := cell_of_block HS.out.2.1 2
          have d3 := cell_of_block HS.out.2.1 3
          have d4 := cell_of_block HS.out.2.1 4
          simp at q0 q1 q2 q3 q4 q5 d0 d1 d2 d3 d4
          go_upto_region 2 with (fail)
          clear q0 q1 q2 q3 q4 q5 z1 z2 z3 z4 z5 d0 d1 d2 d3 d4
          have HS2 := Lib.hid ((HS.out).setOk true)
          have HK2 := Lib.hid ((HK.out).setCell (p := ⟨B + 5, 0, none⟩) (.inl (by simp [rbL])) (.bool true))
          obtain ⟨w1, hw⟩ : ∃ w1, w1 = (w0.setCell ⟨B + 5, 0, none⟩ (.bool true)) := ⟨_, rfl⟩
          rw [← hw] at HS2 HK2 ⊢
          clear hw HS HK
          have HS := HS2
          have HK := HK2
          clear HS2 HK2
          have q0 := cell_of_block HS.out.1.1 0
          have q1 := cell_of_block HS.out.1.2.1 0
          have q2 := cell_of_block HS.out.1.2.2.1 0
          have q3 := cell_of_block HS.out.1.2.2.2.1 0
          have q4 := cell_of_block HS.out.1.2.2.2.2.1 0
          have q5 := cell_of_block HS.out.1.2.2.2.2.2 0
          have z1 := free_of_block HS.out.1.2.1 0
          have z2 := free_of_block HS.out.1.2.2.1 0
          have z3 := free_of_block HS.out.1.2.2.2.1 0
          have z4 := free_of_block HS.out.1.2.2.2.2.1 0
          have z5 := free_of_block HS.out.1.2.2.2.2.2 0
          have d0 := cell_of_block HS.out.2.1 0
          have d1 := cell_of_block HS.out.2.1 1
          have d2 := cell_of_block HS.out.2.1 2
          have d3 := cell_of_block HS.out.2.1 3
          have d4 := cell_of_block HS.out.2.1 4
          simp at q0 q1 q2 q3 q4 q5 d0 d1 d2 d3 d4
          go_upto_region 9 with (fail)
          clear q0 q1 q2 q3 q4 q5 z1 z2 z3 z4 z5 d0 d1 d2 d3 d4
          have HS2 := Lib.hid ((HS.out).setOk true)
          have HK2 := Lib.hid ((HK.out).setCell (p := ⟨B + 5, 0, none⟩) (.inl (by simp [rbL])) (.bool true))
          obtain ⟨w2, hw⟩ : ∃ w2, w2 = (w1.setCell ⟨B + 5, 0, none⟩ (.bool true)) := ⟨_, rfl⟩
          rw [← hw] at HS2 HK2 ⊢
          clear hw HS HK
          have HS := HS2
          have HK := HK2
          clear HS2 HK2
          have q0 := cell_of_block HS.out.1.1 0
          have q1 := cell_of_block HS.out.1.2.1 0
          have q2 := cell_of_block HS.out.1.2.2.1 0
          have q3 := cell_of_block HS.out.1.2.2.2.1 0
          have q4 := cell_of_block HS.out.1.2.2.2.2.1 0
          have q5 := cell_of_block HS.out.1.2.2.2.2.2 0
          have z1 := free_of_block HS.out.1.2.1 0
          have z2 := free_of_block HS.out.1.2.2.1 0
          have z3 := free_of_block HS.out.1.2.2.2.1 0
          have z4 := free_of_block HS.out.1.2.2.2.2.1 0
          have z5 := free_of_block HS.out.1.2.2.2.2.2 0
          have d0 := cell_of_block HS.out.2.1 0
          have d1 := cell_of_block HS.out.2.1 1
          have d2 := cell_of_block HS.out.2.1 2
          have d3 := cell_of_block HS.out.2.1 3
          have d4 := cell_of_block HS.out.2.1 4
          simp at q0 q1 q2 q3 q4 q5 d0 d1 d2 d3 d4
          go_upto_region 11 with (fail)
          clear q0 q1 q2 q3 q4 q5 z1 z2 z3 z4 z5 d0 d1 d2 d3 d4
          have HS2 := Lib.hid ((((HS.out).setOk true)).setAt (fa : Nat))
          have HK2 := Lib.hid ((((HK.out).setCell (p := ⟨B + 5, 0, none⟩) (.inl (by simp [rbL])) (.bool true))).setCell (p := ⟨B + 1, 0, none⟩) (.inl (by simp [rbL])) (.int .i64 (fa : Nat)))
          obtain ⟨w3, hw⟩ : ∃ w3, w3 = ((w2.setCell ⟨B + 5, 0, none⟩ (.bool true)).setCell ⟨B + 1, 0, none⟩ (.int .i64 (fa : Nat))) := ⟨_, rfl⟩
          rw [← hw] at HS2 HK2 ⊢
          clear hw HS HK
          have HS := HS2
          have HK := HK2
          clear HS2 HK2
          have q0 := cell_of_block HS.out.1.1 0
          have q1 := cell_of_block HS.out.1.2.1 0
          have q2 := cell_of_block HS.out.1.2.2.1 0
          have q3 := cell_of_block HS.out.1.2.2.2.1 0
          have q4 := cell_of_block HS.out.1.2.2.2.2.1 0
          have q5 := cell_of_block HS.out.1.2.2.2.2.2 0
          have z1 := free_of_block HS.out.1.2.1 0
          have z2 := free_of_block HS.out.1.2.2.1 0
          have z3 := free_of_block HS.out.1.2.2.2.1 0
          have z4 := free_of_block HS.out.1.2.2.2.2.1 0
          have z5 := free_of_block HS.out.1.2.2.2.2.2 0
          have d0 := cell_of_block HS.out.2.1 0
          have d1 := cell_of_block HS.out.2.1 1
          have d2 := cell_of_block HS.out.2.1 2
          have d3 := cell_of_block HS.out.2.1 3
          have d4 := cell_of_block HS.out.2.1 4
          simp at q0 q1 q2 q3 q4 q5 d0 d1 d2 d3 d4
          go_upto_region 15 with (fail)
          clear q0 q1 q2 q3 q4 q5 z1 z2 z3 z4 z5 d0 d1 d2 d3 d4
          have HS2 := Lib.hid ((HS.out).setLine fl)
          have HK2 := Lib.hid ((HK.out).setCell (p := ⟨B + 2, 0, none⟩) (.inl (by simp [rbL])) (.int .i64 (fl : Nat)))
          obtain ⟨w4, hw⟩ : ∃ w4, w4 = (w3.setCell ⟨B + 2, 0, none⟩ (.int .i64 (fl : Nat))) := ⟨_, rfl⟩
          rw [← hw] at HS2 HK2 ⊢
          clear hw HS HK
          have HS := HS2
          have HK := HK2
          clear HS2 HK2
          have q0 := cell_of_block HS.out.1.1 0
          have q1 := cell_of_block HS.out.1.2.1 0
          have q2 := cell_of_block HS.out.1.2.2.1 0
          have q3 := cell_of_block HS.out.1.2.2.2.1 0
          have q4 := cell_of_block HS.out.1.2.2.2.2.1 0
          have q5 := cell_of_block HS.out.1.2.2.2.2.2 0
          have z1 := free_of_block HS.out.1.2.1 0
          have z2 := free_of_block HS.out.1.2.2.1 0
          have z3 := free_of_block HS.out.1.2.2.2.1 0
          have z4 := free_of_block HS.out.1.2.2.2.2.1 0
          have z5 := free_of_block HS.out.1.2.2.2.2.2 0
          have d0 := cell_of_block HS.out.2.1 0
          have d1 := cell_of_block HS.out.2.1 1
          have d2 := cell_of_block HS.out.2.1 2
          have d3 := cell_of_block HS.out.2.1 3
          have d4 := cell_of_block HS.out.2.1 4
          simp at q0 q1 q2 q3 q4 q5 d0 d1 d2 d3 d4
          go_wp2
          go_ret
          exact ⟨rfl, (HK.out.setCell (p := ⟨B + 3, 0, none⟩) (.inl (by simp [rbL])) (.int .i64 (2 : Nat))), _, _, _, _, (HS.out.setKind 2).1, .inl ⟨rfl, HR.out⟩⟩
      · -- word 3 True
        obtain ⟨hk4, hat⟩ := r5 rfl
        have g3 := dec_lt_t r4
        obtain rfl : ft = ByteArray.empty := by rcases r9 with h | h | h; cases h; cases h; exact h
        by_cases hat0 : at_ < 0
        · have g12 := dec_lt_t hat0
          clear hat
          clear r4 r5 r6 r8 r9 r10
          have q0 := cell_of_block HS.out.1.1 0
          have q1 := cell_of_block HS.out.1.2.1 0
          have q2 := cell_of_block HS.out.1.2.2.1 0
          have q3 := cell_of_block HS.out.1.2.2.2.1 0
          have q4 := cell_of_block HS.out.1.2.2.2.2.1 0
          have q5 := cell_of_block HS.out.1.2.2.2.2.2 0
          have z1 := free_of_block HS.out.1.2.1 0
          have z2 := free_of_block HS.out.1.2.2.1 0
          have z3 := free_of_block HS.out.1.2.2.2.1 0
          have z4 := free_of_block HS.out.1.2.2.2.2.1 0
          have z5 := free_of_block HS.out.1.2.2.2.2.2 0
          have d0 := cell_of_block HS.out.2.1 0
          have d1 := cell_of_block HS.out.2.1 1
          have d2 := cell_of_block HS.out.2.1 2
          have d3 := cell_of_block HS.out.2.1 3
          have d4 := cell_of_block HS.out.2.1 4
          simp at q0 q1 q2 q3 q4 q5 d0 d1 d2 d3 d4
          go_upto_region 2 with (fail)
          clear q0 q1 q2 q3 q4 q5 z1 z2 z3 z4 z5 d0 d1 d2 d3 d4
          have HS2 := Lib.hid ((HS.out).setOk true)
          have HK2 := Lib.hid ((HK.out).setCell (p := ⟨B + 5, 0, none⟩) (.inl (by simp [rbL])) (.bool true))
          obtain ⟨w1, hw⟩ : ∃ w1, w1 = (w0.setCell ⟨B + 5, 0, none⟩ (.bool true)) := ⟨_, rfl⟩
          rw [← hw] at HS2 HK2 ⊢
          clear hw HS HK
          have HS := HS2
          have HK := HK2
          clear HS2 HK2
          have q0 := cell_of_block HS.out.1.1 0
          have q1 := cell_of_block HS.out.1.2.1 0
          have q2 := cell_of_block HS.out.1.2.2.1 0
          have q3 := cell_of_block HS.out.1.2.2.2.1 0
          have q4 := cell_of_block HS.out.1.2.2.2.2.1 0
          have q5 := cell_of_block HS.out.1.2.2.2.2.2 0
          have z1 := free_of_block HS.out.1.2.1 0
          have z2 := free_of_block HS.out.1.2.2.1 0
          have z3 := free_of_block HS.out.1.2.2.2.1 0
          have z4 := free_of_block HS.out.1.2.2.2.2.1 0
          have z5 := free_of_block HS.out.1.2.2.2.2.2 0
          have d0 := cell_of_block HS.out.2.1 0
          have d1 := cell_of_block HS.out.2.1 1
          have d2 := cell_of_block HS.out.2.1 2
          have d3 := cell_of_block HS.out.2.1 3
          have d4 := cell_of_block HS.out.2.1 4
          simp at q0 q1 q2 q3 q4 q5 d0 d1 d2 d3 d4
          go_upto_region 9 with (fail)
          clear q0 q1 q2 q3 q4 q5 z1 z2 z3 z4 z5 d0 d1 d2 d3 d4
          have HS2 := Lib.hid ((HS.out).setOk true)
          have HK2 := Lib.hid ((HK.out).setCell (p := ⟨B + 5, 0, none⟩) (.inl (by simp [rbL])) (.bool true))
          obtain ⟨w2, hw⟩ : ∃ w2, w2 = (w1.setCell ⟨B + 5, 0, none⟩ (.bool true)) := ⟨_, rfl⟩
          rw [← hw] at HS2 HK2 ⊢
          clear hw HS HK
          have HS := HS2
          have HK := HK2
          clear HS2 HK2
          have q0 := cell_of_block HS.out.1.1 0
          have q1 := cell_of_block HS.out.1.2.1 0
          have q2 := cell_of_block HS.out.1.2.2.1 0
          have q3 := cell_of_block HS.out.1.2.2.2.1 0
          have q4 := cell_of_block HS.out.1.2.2.2.2.1 0
          have q5 := cell_of_block HS.out.1.2.2.2.2.2 0
          have z1 := free_of_block HS.out.1.2.1 0
          have z2 := free_of_block HS.out.1.2.2.1 0
          have z3 := free_of_block HS.out.1.2.2.2.1 0
          have z4 := free_of_block HS.out.1.2.2.2.2.1 0
          have z5 := free_of_block HS.out.1.2.2.2.2.2 0
          have d0 := cell_of_block HS.out.2.1 0
          have d1 := cell_of_block HS.out.2.1 1
          have d2 := cell_of_block HS.out.2.1 2
          have d3 := cell_of_block HS.out.2.1 3
          have d4 := cell_of_block HS.out.2.1 4
          simp at q0 q1 q2 q3 q4 q5 d0 d1 d2 d3 d4
          go_upto_region 11 with (fail)
          clear q0 q1 q2 q3 q4 q5 z1 z2 z3 z4 z5 d0 d1 d2 d3 d4
          have HS2 := Lib.hid ((((HS.out).setOk true)).setAt (fa : Nat))
          have HK2 := Lib.hid ((((HK.out).setCell (p := ⟨B + 5, 0, none⟩) (.inl (by simp [rbL])) (.bool true))).setCell (p := ⟨B + 1, 0, none⟩) (.inl (by simp [rbL])) (.int .i64 (fa : Nat)))
          obtain ⟨w3, hw⟩ : ∃ w3, w3 = ((w2.setCell ⟨B + 5, 0, none⟩ (.bool true)).setCell ⟨B + 1, 0, none⟩ (.int .i64 (fa : Nat))) := ⟨_, rfl⟩
          rw [← hw] at HS2 HK2 ⊢
          clear hw HS HK
          have HS := HS2
          have HK := HK2
          clear HS2 HK2
          have q0 := cell_of_block HS.out.1.1 0
          have q1 := cell_of_block HS.out.1.2.1 0
          have q2 := cell_of_block HS.out.1.2.2.1 0
          have q3 := cell_of_block HS.out.1.2.2.2.1 0
          have q4 := cell_of_block HS.out.1.2.2.2.2.1 0
          have q5 := cell_of_block HS.out.1.2.2.2.2.2 0
          have z1 := free_of_block HS.out.1.2.1 0
          have z2 := free_of_block HS.out.1.2.2.1 0
          have z3 := free_of_block HS.out.1.2.2.2.1 0
          have z4 := free_of_block HS.out.1.2.2.2.2.1 0
          have z5 := free_of_block HS.out.1.2.2.2.2.2 0
          have d0 := cell_of_block HS.out.2.1 0
          have d1 := cell_of_block HS.out.2.1 1
          have d2 := cell_of_block HS.out.2.1 2
          have d3 := cell_of_block HS.out.2.1 3
          have d4 := cell_of_block HS.out.2.1 4
          simp at q0 q1 q2 q3 q4 q5 d0 d1 d2 d3 d4
          go_upto_region 15 with (fail)
          clear q0 q1 q2 q3 q4 q5 z1 z2 z3 z4 z5 d0 d1 d2 d3 d4
          have HS2 := Lib.hid ((HS.out).setLine fl)
          have HK2 := Lib.hid ((HK.out).setCell (p := ⟨B + 2, 0, none⟩) (.inl (by simp [rbL])) (.int .i64 (fl : Nat)))
          obtain ⟨w4, hw⟩ : ∃ w4, w4 = (w3.setCell ⟨B + 2, 0, none⟩ (.int .i64 (fl : Nat))) := ⟨_, rfl⟩
          rw [← hw] at HS2 HK2 ⊢
          clear hw HS HK
          have HS := HS2
          have HK := HK2
          clear HS2 HK2
          have q0 := cell_of_block HS.out.1.1 0
          have q1 := cell_of_block HS.out.1.2.1 0
          have q2 := cell_of_block HS.out.1.2.2.1 0
          have q3 := cell_of_block HS.out.1.2.2.2.1 0
          have q4 := cell_of_block HS.out.1.2.2.2.2.1 0
          have q5 := cell_of_block HS.out.1.2.2.2.2.2 0
          have z1 := free_of_block HS.out.1.2.1 0
          have z2 := free_of_block HS.out.1.2.2.1 0
          have z3 := free_of_block HS.out.1.2.2.2.1 0
          have z4 := free_of_block HS.out.1.2.2.2.2.1 0
          have z5 := free_of_block HS.out.1.2.2.2.2.2 0
          have d0 := cell_of_block HS.out.2.1 0
          have d1 := cell_of_block HS.out.2.1 1
          have d2 := cell_of_block HS.out.2.1 2
          have d3 := cell_of_block HS.out.2.1 3
          have d4 := cell_of_block HS.out.2.1 4
          simp at q0 q1 q2 q3 q4 q5 d0 d1 d2 d3 d4
          go_wp2
          go_ret
          exact ⟨rfl, (HK.out.setCell (p := ⟨B + 3, 0, none⟩) (.inl (by simp [rbL])) (.int .i64 (3 : Nat))), _, _, _, _, (HS.out.setKind 3).1, .inl ⟨rfl, HR.out⟩⟩
        · have g12 := dec_lt_f hat0
          have hat2 : line < fl := by rcases hat with h | h; exact absurd h hat0; exact h
          have g13 := dec_lt_t (show (line : Int) < (fl : Int) by omega)
          have g14 := dec_ltn_t hat2
          clear hat hat2 hat0
          clear r4 r5 r6 r8 r9 r10
          have q0 := cell_of_block HS.out.1.1 0
          have q1 := cell_of_block HS.out.1.2.1 0
          have q2 := cell_of_block HS.out.1.2.2.1 0
          have q3 := cell_of_block HS.out.1.2.2.2.1 0
          have q4 := cell_of_block HS.out.1.2.2.2.2.1 0
          have q5 := cell_of_block HS.out.1.2.2.2.2.2 0
          have z1 := free_of_block HS.out.1.2.1 0
          have z2 := free_of_block HS.out.1.2.2.1 0
          have z3 := free_of_block HS.out.1.2.2.2.1 0
          have z4 := free_of_block HS.out.1.2.2.2.2.1 0
          have z5 := free_of_block HS.out.1.2.2.2.2.2 0
          have d0 := cell_of_block HS.out.2.1 0
          have d1 := cell_of_block HS.out.2.1 1
          have d2 := cell_of_block HS.out.2.1 2
          have d3 := cell_of_block HS.out.2.1 3
          have d4 := cell_of_block HS.out.2.1 4
          simp at q0 q1 q2 q3 q4 q5 d0 d1 d2 d3 d4
          go_upto_region 2 with (fail)
          clear q0 q1 q2 q3 q4 q5 z1 z2 z3 z4 z5 d0 d1 d2 d3 d4
          have HS2 := Lib.hid ((HS.out).setOk true)
          have HK2 := Lib.hid ((HK.out).setCell (p := ⟨B + 5, 0, none⟩) (.inl (by simp [rbL])) (.bool true))
          obtain ⟨w1, hw⟩ : ∃ w1, w1 = (w0.setCell ⟨B + 5, 0, none⟩ (.bool true)) := ⟨_, rfl⟩
          rw [← hw] at HS2 HK2 ⊢
          clear hw HS HK
          have HS := HS2
          have HK := HK2
          clear HS2 HK2
          have q0 := cell_of_block HS.out.1.1 0
          have q1 := cell_of_block HS.out.1.2.1 0
          have q2 := cell_of_block HS.out.1.2.2.1 0
          have q3 := cell_of_block HS.out.1.2.2.2.1 0
          have q4 := cell_of_block HS.out.1.2.2.2.2.1 0
          have q5 := cell_of_block HS.out.1.2.2.2.2.2 0
          have z1 := free_of_block HS.out.1.2.1 0
          have z2 := free_of_block HS.out.1.2.2.1 0
          have z3 := free_of_block HS.out.1.2.2.2.1 0
          have z4 := free_of_block HS.out.1.2.2.2.2.1 0
          have z5 := free_of_block HS.out.1.2.2.2.2.2 0
          have d0 := cell_of_block HS.out.2.1 0
          have d1 := cell_of_block HS.out.2.1 1
          have d2 := cell_of_block HS.out.2.1 2
          have d3 := cell_of_block HS.out.2.1 3
          have d4 := cell_of_block HS.out.2.1 4
          simp at q0 q1 q2 q3 q4 q5 d0 d1 d2 d3 d4
          go_upto_region 9 with (fail)
          clear q0 q1 q2 q3 q4 q5 z1 z2 z3 z4 z5 d0 d1 d2 d3 d4
          have HS2 := Lib.hid ((HS.out).setOk true)
          have HK2 := Lib.hid ((HK.out).setCell (p := ⟨B + 5, 0, none⟩) (.inl (by simp [rbL])) (.bool true))
          obtain ⟨w2, hw⟩ : ∃ w2, w2 = (w1.setCell ⟨B + 5, 0, none⟩ (.bool true)) := ⟨_, rfl⟩
          rw [← hw] at HS2 HK2 ⊢
          clear hw HS HK
          have HS := HS2
          have HK := HK2
          clear HS2 HK2
          have q0 := cell_of_block HS.out.1.1 0
          have q1 := cell_of_block HS.out.1.2.1 0
          have q2 := cell_of_block HS.out.1.2.2.1 0
          have q3 := cell_of_block HS.out.1.2.2.2.1 0
          have q4 := cell_of_block HS.out.1.2.2.2.2.1 0
          have q5 := cell_of_block HS.out.1.2.2.2.2.2 0
          have z1 := free_of_block HS.out.1.2.1 0
          have z2 := free_of_block HS.out.1.2.2.1 0
          have z3 := free_of_block HS.out.1.2.2.2.1 0
          have z4 := free_of_block HS.out.1.2.2.2.2.1 0
          have z5 := free_of_block HS.out.1.2.2.2.2.2 0
          have d0 := cell_of_block HS.out.2.1 0
          have d1 := cell_of_block HS.out.2.1 1
          have d2 := cell_of_block HS.out.2.1 2
          have d3 := cell_of_block HS.out.2.1 3
          have d4 := cell_of_block HS.out.2.1 4
          simp at q0 q1 q2 q3 q4 q5 d0 d1 d2 d3 d4
          go_upto_region 11 with (fail)
          clear q0 q1 q2 q3 q4 q5 z1 z2 z3 z4 z5 d0 d1 d2 d3 d4
          have HS2 := Lib.hid ((((HS.out).setOk true)).setAt (fa : Nat))
          have HK2 := Lib.hid ((((HK.out).setCell (p := ⟨B + 5, 0, none⟩) (.inl (by simp [rbL])) (.bool true))).setCell (p := ⟨B + 1, 0, none⟩) (.inl (by simp [rbL])) (.int .i64 (fa : Nat)))
          obtain ⟨w3, hw⟩ : ∃ w3, w3 = ((w2.setCell ⟨B + 5, 0, none⟩ (.bool true)).setCell ⟨B + 1, 0, none⟩ (.int .i64 (fa : Nat))) := ⟨_, rfl⟩
          rw [← hw] at HS2 HK2 ⊢
          clear hw HS HK
          have HS := HS2
          have HK := HK2
          clear HS2 HK2
          have q0 := cell_of_block HS.out.1.1 0
          have q1 := cell_of_block HS.out.1.2.1 0
          have q2 := cell_of_block HS.out.1.2.2.1 0
          have q3 := cell_of_block HS.out.1.2.2.2.1 0
          have q4 := cell_of_block HS.out.1.2.2.2.2.1 0
          have q5 := cell_of_block HS.out.1.2.2.2.2.2 0
          have z1 := free_of_block HS.out.1.2.1 0
          have z2 := free_of_block HS.out.1.2.2.1 0
          have z3 := free_of_block HS.out.1.2.2.2.1 0
          have z4 := free_of_block HS.out.1.2.2.2.2.1 0
          have z5 := free_of_block HS.out.1.2.2.2.2.2 0
          have d0 := cell_of_block HS.out.2.1 0
          have d1 := cell_of_block HS.out.2.1 1
          have d2 := cell_of_block HS.out.2.1 2
          have d3 := cell_of_block HS.out.2.1 3
          have d4 := cell_of_block HS.out.2.1 4
          simp at q0 q1 q2 q3 q4 q5 d0 d1 d2 d3 d4
          go_upto_region 15 with (fail)
          clear q0 q1 q2 q3 q4 q5 z1 z2 z3 z4 z5 d0 d1 d2 d3 d4
          have HS2 := Lib.hid ((HS.out).setLine fl)
          have HK2 := Lib.hid ((HK.out).setCell (p := ⟨B + 2, 0, none⟩) (.inl (by simp [rbL])) (.int .i64 (fl : Nat)))
          obtain ⟨w4, hw⟩ : ∃ w4, w4 = (w3.setCell ⟨B + 2, 0, none⟩ (.int .i64 (fl : Nat))) := ⟨_, rfl⟩
          rw [← hw] at HS2 HK2 ⊢
          clear hw HS HK
          have HS := HS2
          have HK := HK2
          clear HS2 HK2
          have q0 := cell_of_block HS.out.1.1 0
          have q1 := cell_of_block HS.out.1.2.1 0
          have q2 := cell_of_block HS.out.1.2.2.1 0
          have q3 := cell_of_block HS.out.1.2.2.2.1 0
          have q4 := cell_of_block HS.out.1.2.2.2.2.1 0
          have q5 := cell_of_block HS.out.1.2.2.2.2.2 0
          have z1 := free_of_block HS.out.1.2.1 0
          have z2 := free_of_block HS.out.1.2.2.1 0
          have z3 := free_of_block HS.out.1.2.2.2.1 0
          have z4 := free_of_block HS.out.1.2.2.2.2.1 0
          have z5 := free_of_block HS.out.1.2.2.2.2.2 0
          have d0 := cell_of_block HS.out.2.1 0
          have d1 := cell_of_block HS.out.2.1 1
          have d2 := cell_of_block HS.out.2.1 2
          have d3 := cell_of_block HS.out.2.1 3
          have d4 := cell_of_block HS.out.2.1 4
          simp at q0 q1 q2 q3 q4 q5 d0 d1 d2 d3 d4
          go_wp2
          go_ret
          exact ⟨rfl, (HK.out.setCell (p := ⟨B + 3, 0, none⟩) (.inl (by simp [rbL])) (.int .i64 (3 : Nat))), _, _, _, _, (HS.out.setKind 3).1, .inl ⟨rfl, HR.out⟩⟩
      · exact absurd rfl (r5 rfl).1
    · rcases r7 with rfl | rfl | rfl | rfl
      · -- word 1 False
        have hll := r6 hk
        subst hll
        have g7 : ((kind : Int) == 4) = false := by simp; omega
        have g8 : (kind == 4) = false := by simp; omega
        have g3 := dec_lt_t r4
        obtain rfl : fn = 0 := by rcases r8 with h | h; cases h; exact h
        obtain ⟨hts, hte, htx⟩ := r10 rfl
        have HT := Lib.hid (show fa + ft.size ≤ s.size ∧ ft.size ≠ 0 from ⟨hte, hts⟩)
        have htl := ne_empty hts
        have g9 := htl.1
        have g10 := dec_le_t (show (fa : Int) + (ft.size : Int) ≤ (s.size : Int) by omega)
        have g11 := dec_len_t hte
        have hzt : ft.size ≤ 1000000 := by omega
        have haz : fa ≤ 1000000 := by omega
        have hwr : IntKind.i64.wrap ((fa : Int) + (ft.size : Int)) = (fa : Int) + (ft.size : Int) := by rw [IntKind.wrap_i64]; omega
        have g9b := htl.2.1
        have g9c := htl.2.2
        clear htl hts
        have hsl := fun W => slice_u s (show fa ≤ fa + ft.size by omega) hte W
        simp only [htx] at hsl
        clear r4 r5 r6 r8 r9 r10
        have q0 := cell_of_block HS.out.1.1 0
        have q1 := cell_of_block HS.out.1.2.1 0
        have q2 := cell_of_block HS.out.1.2.2.1 0
        have q3 := cell_of_block HS.out.1.2.2.2.1 0
        have q4 := cell_of_block HS.out.1.2.2.2.2.1 0
        have q5 := cell_of_block HS.out.1.2.2.2.2.2 0
        have z1 := free_of_block HS.out.1.2.1 0
        have z2 := free_of_block HS.out.1.2.2.1 0
        have z3 := free_of_block HS.out.1.2.2.2.1 0
        have z4 := free_of_block HS.out.1.2.2.2.2.1 0
        have z5 := free_of_block HS.out.1.2.2.2.2.2 0
        have d0 := cell_of_block HS.out.2.1 0
        have d1 := cell_of_block HS.out.2.1 1
        have d2 := cell_of_block HS.out.2.1 2
        have d3 := cell_of_block HS.out.2.1 3
        have d4 := cell_of_block HS.out.2.1 4
        simp at q0 q1 q2 q3 q4 q5 d0 d1 d2 d3 d4
        go_upto_region 2 with (fail)
        clear q0 q1 q2 q3 q4 q5 z1 z2 z3 z4 z5 d0 d1 d2 d3 d4
        have HS2 := Lib.hid ((HS.out).setOk true)
        have HK2 := Lib.hid ((HK.out).setCell (p := ⟨B + 5, 0, none⟩) (.inl (by simp [rbL])) (.bool true))
        obtain ⟨w1, hw⟩ : ∃ w1, w1 = (w0.setCell ⟨B + 5, 0, none⟩ (.bool true)) := ⟨_, rfl⟩
        rw [← hw] at HS2 HK2 ⊢
        clear hw HS HK
        have HS := HS2
        have HK := HK2
        clear HS2 HK2
        have q0 := cell_of_block HS.out.1.1 0
        have q1 := cell_of_block HS.out.1.2.1 0
        have q2 := cell_of_block HS.out.1.2.2.1 0
        have q3 := cell_of_block HS.out.1.2.2.2.1 0
        have q4 := cell_of_block HS.out.1.2.2.2.2.1 0
        have q5 := cell_of_block HS.out.1.2.2.2.2.2 0
        have z1 := free_of_block HS.out.1.2.1 0
        have z2 := free_of_block HS.out.1.2.2.1 0
        have z3 := free_of_block HS.out.1.2.2.2.1 0
        have z4 := free_of_block HS.out.1.2.2.2.2.1 0
        have z5 := free_of_block HS.out.1.2.2.2.2.2 0
        have d0 := cell_of_block HS.out.2.1 0
        have d1 := cell_of_block HS.out.2.1 1
        have d2 := cell_of_block HS.out.2.1 2
        have d3 := cell_of_block HS.out.2.1 3
        have d4 := cell_of_block HS.out.2.1 4
        simp at q0 q1 q2 q3 q4 q5 d0 d1 d2 d3 d4
        go_upto_region 9 with (fail)
        clear q0 q1 q2 q3 q4 q5 z1 z2 z3 z4 z5 d0 d1 d2 d3 d4
        have HS2 := Lib.hid ((HS.out).setOk true)
        have HK2 := Lib.hid ((HK.out).setCell (p := ⟨B + 5, 0, none⟩) (.inl (by simp [rbL])) (.bool true))
        obtain ⟨w2, hw⟩ : ∃ w2, w2 = (w1.setCell ⟨B + 5, 0, none⟩ (.bool true)) := ⟨_, rfl⟩
        rw [← hw] at HS2 HK2 ⊢
        clear hw HS HK
        have HS := HS2
        have HK := HK2
        clear HS2 HK2
        have q0 := cell_of_block HS.out.1.1 0
        have q1 := cell_of_block HS.out.1.2.1 0
        have q2 := cell_of_block HS.out.1.2.2.1 0
        have q3 := cell_of_block HS.out.1.2.2.2.1 0
        have q4 := cell_of_block HS.out.1.2.2.2.2.1 0
        have q5 := cell_of_block HS.out.1.2.2.2.2.2 0
        have z1 := free_of_block HS.out.1.2.1 0
        have z2 := free_of_block HS.out.1.2.2.1 0
        have z3 := free_of_block HS.out.1.2.2.2.1 0
        have z4 := free_of_block HS.out.1.2.2.2.2.1 0
        have z5 := free_of_block HS.out.1.2.2.2.2.2 0
        have d0 := cell_of_block HS.out.2.1 0
        have d1 := cell_of_block HS.out.2.1 1
        have d2 := cell_of_block HS.out.2.1 2
        have d3 := cell_of_block HS.out.2.1 3
        have d4 := cell_of_block HS.out.2.1 4
        simp at q0 q1 q2 q3 q4 q5 d0 d1 d2 d3 d4
        go_upto_region 11 with (fail)
        clear q0 q1 q2 q3 q4 q5 z1 z2 z3 z4 z5 d0 d1 d2 d3 d4
        have HS2 := Lib.hid ((((HS.out).setOk true)).setAt (fa : Nat))
        have HK2 := Lib.hid ((((HK.out).setCell (p := ⟨B + 5, 0, none⟩) (.inl (by simp [rbL])) (.bool true))).setCell (p := ⟨B + 1, 0, none⟩) (.inl (by simp [rbL])) (.int .i64 (fa : Nat)))
        obtain ⟨w3, hw⟩ : ∃ w3, w3 = ((w2.setCell ⟨B + 5, 0, none⟩ (.bool true)).setCell ⟨B + 1, 0, none⟩ (.int .i64 (fa : Nat))) := ⟨_, rfl⟩
        rw [← hw] at HS2 HK2 ⊢
        clear hw HS HK
        have HS := HS2
        have HK := HK2
        clear HS2 HK2
        have q0 := cell_of_block HS.out.1.1 0
        have q1 := cell_of_block HS.out.1.2.1 0
        have q2 := cell_of_block HS.out.1.2.2.1 0
        have q3 := cell_of_block HS.out.1.2.2.2.1 0
        have q4 := cell_of_block HS.out.1.2.2.2.2.1 0
        have q5 := cell_of_block HS.out.1.2.2.2.2.2 0
        have z1 := free_of_block HS.out.1.2.1 0
        have z2 := free_of_block HS.out.1.2.2.1 0
        have z3 := free_of_block HS.out.1.2.2.2.1 0
        have z4 := free_of_block HS.out.1.2.2.2.2.1 0
        have z5 := free_of_block HS.out.1.2.2.2.2.2 0
        have d0 := cell_of_block HS.out.2.1 0
        have d1 := cell_of_block HS.out.2.1 1
        have d2 := cell_of_block HS.out.2.1 2
        have d3 := cell_of_block HS.out.2.1 3
        have d4 := cell_of_block HS.out.2.1 4
        simp at q0 q1 q2 q3 q4 q5 d0 d1 d2 d3 d4
        go_upto_region 12 with (fail)
        refine (wpIn_wide (n := 0)).1 ?_
        refine wpIn_fix (.inl rfl) 32 [] (fun _ => w3.drew) (fun w' => w'.cell? ⟨B, 0, none⟩ = some (.string s) ∧ w'.cell? ⟨B + 5, 0, none⟩ = some (.bool true) ∧ w'.cell? ⟨D, 1, none⟩ = some (.string ft) ∧ w'.cell? ⟨D, 3, none⟩ = some (.int .i64 (fa : Nat)))
          [.bool true, .bool true, .pointer (some ⟨D, 1, none⟩), .string ft, .bool true, .bool true, .bool true, .pointer (some ⟨D, 3, none⟩), .int .i64 (fa : Nat), .pointer (some ⟨D, 1, none⟩), .string ft, .int .i64 (ft.size : Nat), .int .i64 ((fa : Int) + (ft.size : Nat)), .string s, .int .i64 (s.size : Nat), .bool true, .bool true, .bool true,
           .string s, .pointer (some ⟨D, 3, none⟩), .int .i64 (fa : Nat), .pointer (some ⟨D, 3, none⟩), .int .i64 (fa : Nat), .pointer (some ⟨D, 1, none⟩), .string ft, .int .i64 (ft.size : Nat), .int .i64 ((fa : Int) + (ft.size : Nat)), .string ft, .pointer (some ⟨D, 1, none⟩), .string ft, .bool true, .bool true]
          (by kernel_rfl) (by kernel_rfl) rfl rfl rfl (fun _ _ => ⟨q0, q5, d1, d3⟩) ?rest12
        case rest12 =>
          intro A hA
          simp only [putVals, List.take, Act.put, List.setIfInBounds_toArray, List.set_cons_succ, List.set_cons_zero] at hA
          subst hA
          refine ⟨?_, fixWrites_nil, ?_⟩
          · iterate 32
              refine fixReads_on rfl ?_ ?_
              · intro w1 hw1 K Q hK
                obtain ⟨p1, p2, p3, p4⟩ := hw1
                go_simp
                exact hK
            exact fixReads_nil
          · simp only [List.drop]
            gi_upto_region 13 with (fail)
            clear q0 q1 q2 q3 q4 q5 z1 z2 z3 z4 z5 d0 d1 d2 d3 d4
            have HS2 := Lib.hid ((HS.out.setOk true).drew)
            have HK2 := Lib.hid (((HK.out).setCell (p := ⟨B + 5, 0, none⟩) (.inl (by simp [rbL])) (.bool true)).drew)
            obtain ⟨w4, hw⟩ : ∃ w4, w4 = (w3.setCell ⟨B + 5, 0, none⟩ (.bool true)).drew := ⟨_, rfl⟩
            rw [← hw] at HS2 HK2 ⊢
            clear hw HS HK
            have HS := HS2
            have HK := HK2
            clear HS2 HK2
            have q0 := cell_of_block HS.out.1.1 0
            have q1 := cell_of_block HS.out.1.2.1 0
            have q2 := cell_of_block HS.out.1.2.2.1 0
            have q3 := cell_of_block HS.out.1.2.2.2.1 0
            have q4 := cell_of_block HS.out.1.2.2.2.2.1 0
            have q5 := cell_of_block HS.out.1.2.2.2.2.2 0
            have z1 := free_of_block HS.out.1.2.1 0
            have z2 := free_of_block HS.out.1.2.2.1 0
            have z3 := free_of_block HS.out.1.2.2.2.1 0
            have z4 := free_of_block HS.out.1.2.2.2.2.1 0
            have z5 := free_of_block HS.out.1.2.2.2.2.2 0
            have d0 := cell_of_block HS.out.2.1 0
            have d1 := cell_of_block HS.out.2.1 1
            have d2 := cell_of_block HS.out.2.1 2
            have d3 := cell_of_block HS.out.2.1 3
            have d4 := cell_of_block HS.out.2.1 4
            simp at q0 q1 q2 q3 q4 q5 d0 d1 d2 d3 d4
            go_upto_region 14 with (fail)
            clear q0 q1 q2 q3 q4 q5 z1 z2 z3 z4 z5 d0 d1 d2 d3 d4
            have HS2 := Lib.hid ((HS.out).setAt ((fa : Int) + (ft.size : Int) - 1))
            have HK2 := Lib.hid ((HK.out).setCell (p := ⟨B + 1, 0, none⟩) (.inl (by simp [rbL])) (.int .i64 ((fa : Int) + (ft.size : Int) - 1)))
            obtain ⟨w5, hw⟩ : ∃ w5, w5 = (w4.setCell ⟨B + 1, 0, none⟩ (.int .i64 ((fa : Int) + (ft.size : Int) - 1))) := ⟨_, rfl⟩
            rw [← hw] at HS2 HK2 ⊢
            clear hw HS HK
            have HS := HS2
            have HK := HK2
            clear HS2 HK2
            have q0 := cell_of_block HS.out.1.1 0
            have q1 := cell_of_block HS.out.1.2.1 0
            have q2 := cell_of_block HS.out.1.2.2.1 0
            have q3 := cell_of_block HS.out.1.2.2.2.1 0
            have q4 := cell_of_block HS.out.1.2.2.2.2.1 0
            have q5 := cell_of_block HS.out.1.2.2.2.2.2 0
            have z1 := free_of_block HS.out.1.2.1 0
            have z2 := free_of_block HS.out.1.2.2.1 0
            have z3 := free_of_block HS.out.1.2.2.2.1 0
            have z4 := free_of_block HS.out.1.2.2.2.2.1 0
            have z5 := free_of_block HS.out.1.2.2.2.2.2 0
            have d0 := cell_of_block HS.out.2.1 0
            have d1 := cell_of_block HS.out.2.1 1
            have d2 := cell_of_block HS.out.2.1 2
            have d3 := cell_of_block HS.out.2.1 3
            have d4 := cell_of_block HS.out.2.1 4
            simp at q0 q1 q2 q3 q4 q5 d0 d1 d2 d3 d4
            go_upto_region 15 with (fail)
            clear q0 q1 q2 q3 q4 q5 z1 z2 z3 z4 z5 d0 d1 d2 d3 d4
            have HS2 := Lib.hid ((HS.out).setLine fl)
            have HK2 := Lib.hid ((HK.out).setCell (p := ⟨B + 2, 0, none⟩) (.inl (by simp [rbL])) (.int .i64 (fl : Nat)))
            obtain ⟨w6, hw⟩ : ∃ w6, w6 = (w5.setCell ⟨B + 2, 0, none⟩ (.int .i64 (fl : Nat))) := ⟨_, rfl⟩
            rw [← hw] at HS2 HK2 ⊢
            clear hw HS HK
            have HS := HS2
            have HK := HK2
            clear HS2 HK2
            have q0 := cell_of_block HS.out.1.1 0
            have q1 := cell_of_block HS.out.1.2.1 0
            have q2 := cell_of_block HS.out.1.2.2.1 0
            have q3 := cell_of_block HS.out.1.2.2.2.1 0
            have q4 := cell_of_block HS.out.1.2.2.2.2.1 0
            have q5 := cell_of_block HS.out.1.2.2.2.2.2 0
            have z1 := free_of_block HS.out.1.2.1 0
            have z2 := free_of_block HS.out.1.2.2.1 0
            have z3 := free_of_block HS.out.1.2.2.2.1 0
            have z4 := free_of_block HS.out.1.2.2.2.2.1 0
            have z5 := free_of_block HS.out.1.2.2.2.2.2 0
            have d0 := cell_of_block HS.out.2.1 0
            have d1 := cell_of_block HS.out.2.1 1
            have d2 := cell_of_block HS.out.2.1 2
            have d3 := cell_of_block HS.out.2.1 3
            have d4 := cell_of_block HS.out.2.1 4
            simp at q0 q1 q2 q3 q4 q5 d0 d1 d2 d3 d4
            go_wp2
            go_ret
            exact ⟨rfl, (HK.out.setCell (p := ⟨B + 3, 0, none⟩) (.inl (by simp [rbL])) (.int .i64 (1 : Nat))), _, _, _, _, (HS.out.setKind 1).1, .inl ⟨rfl, HR.out⟩⟩
      · -- word 2 False
        have hll := r6 hk
        subst hll
        have g7 : ((kind : Int) == 4) = false := by simp; omega
        have g8 : (kind == 4) = false := by simp; omega
        have g3 := dec_lt_t r4
        obtain rfl : fn = 0 := by rcases r8 with h | h; cases h; exact h
        clear r4 r5 r6 r8 r9 r10
        have q0 := cell_of_block HS.out.1.1 0
        have q1 := cell_of_block HS.out.1.2.1 0
        have q2 := cell_of_block HS.out.1.2.2.1 0
        have q3 := cell_of_block HS.out.1.2.2.2.1 0
        have q4 := cell_of_block HS.out.1.2.2.2.2.1 0
        have q5 := cell_of_block HS.out.1.2.2.2.2.2 0
        have z1 := free_of_block HS.out.1.2.1 0
        have z2 := free_of_block HS.out.1.2.2.1 0
        have z3 := free_of_block HS.out.1.2.2.2.1 0
        have z4 := free_of_block HS.out.1.2.2.2.2.1 0
        have z5 := free_of_block HS.out.1.2.2.2.2.2 0
        have d0 := cell_of_block HS.out.2.1 0
        have d1 := cell_of_block HS.out.2.1 1
        have d2 := cell_of_block HS.out.2.1 2
        have d3 := cell_of_block HS.out.2.1 3
        have d4 := cell_of_block HS.out.2.1 4
        simp at q0 q1 q2 q3 q4 q5 d0 d1 d2 d3 d4
        go_upto_region 2 with (fail)
        clear q0 q1 q2 q3 q4 q5 z1 z2 z3 z4 z5 d0 d1 d2 d3 d4
        have HS2 := Lib.hid ((HS.out).setOk true)
        have HK2 := Lib.hid ((HK.out).setCell (p := ⟨B + 5, 0, none⟩) (.inl (by simp [rbL])) (.bool true))
        obtain ⟨w1, hw⟩ : ∃ w1, w1 = (w0.setCell ⟨B + 5, 0, none⟩ (.bool true)) := ⟨_, rfl⟩
        rw [← hw] at HS2 HK2 ⊢
        clear hw HS HK
        have HS := HS2
        have HK := HK2
        clear HS2 HK2
        have q0 := cell_of_block HS.out.1.1 0
        have q1 := cell_of_block HS.out.1.2.1 0
        have q2 := cell_of_block HS.out.1.2.2.1 0
        have q3 := cell_of_block HS.out.1.2.2.2.1 0
        have q4 := cell_of_block HS.out.1.2.2.2.2.1 0
        have q5 := cell_of_block HS.out.1.2.2.2.2.2 0
        have z1 := free_of_block HS.out.1.2.1 0
        have z2 := free_of_block HS.out.1.2.2.1 0
        have z3 := free_of_block HS.out.1.2.2.2.1 0
        have z4 := free_of_block HS.out.1.2.2.2.2.1 0
        have z5 := free_of_block HS.out.1.2.2.2.2.2 0
        have d0 := cell_of_block HS.out.2.1 0
        have d1 := cell_of_block HS.out.2.1 1
        have d2 := cell_of_block HS.out.2.1 2
        have d3 := cell_of_block HS.out.2.1 3
        have d4 := cell_of_block HS.out.2.1 4
        simp at q0 q1 q2 q3 q4 q5 d0 d1 d2 d3 d4
        go_upto_region 9 with (fail)
        clear q0 q1 q2 q3 q4 q5 z1 z2 z3 z4 z5 d0 d1 d2 d3 d4
        have HS2 := Lib.hid ((HS.out).setOk true)
        have HK2 := Lib.hid ((HK.out).setCell (p := ⟨B + 5, 0, none⟩) (.inl (by simp [rbL])) (.bool true))
        obtain ⟨w2, hw⟩ : ∃ w2, w2 = (w1.setCell ⟨B + 5, 0, none⟩ (.bool true)) := ⟨_, rfl⟩
        rw [← hw] at HS2 HK2 ⊢
        clear hw HS HK
        have HS := HS2
        have HK := HK2
        clear HS2 HK2
        have q0 := cell_of_block HS.out.1.1 0
        have q1 := cell_of_block HS.out.1.2.1 0
        have q2 := cell_of_block HS.out.1.2.2.1 0
        have q3 := cell_of_block HS.out.1.2.2.2.1 0
        have q4 := cell_of_block HS.out.1.2.2.2.2.1 0
        have q5 := cell_of_block HS.out.1.2.2.2.2.2 0
        have z1 := free_of_block HS.out.1.2.1 0
        have z2 := free_of_block HS.out.1.2.2.1 0
        have z3 := free_of_block HS.out.1.2.2.2.1 0
        have z4 := free_of_block HS.out.1.2.2.2.2.1 0
        have z5 := free_of_block HS.out.1.2.2.2.2.2 0
        have d0 := cell_of_block HS.out.2.1 0
        have d1 := cell_of_block HS.out.2.1 1
        have d2 := cell_of_block HS.out.2.1 2
        have d3 := cell_of_block HS.out.2.1 3
        have d4 := cell_of_block HS.out.2.1 4
        simp at q0 q1 q2 q3 q4 q5 d0 d1 d2 d3 d4
        go_upto_region 11 with (fail)
        clear q0 q1 q2 q3 q4 q5 z1 z2 z3 z4 z5 d0 d1 d2 d3 d4
        have HS2 := Lib.hid ((((HS.out).setOk true)).setAt (fa : Nat))
        have HK2 := Lib.hid ((((HK.out).setCell (p := ⟨B + 5, 0, none⟩) (.inl (by simp [rbL])) (.bool true))).setCell (p := ⟨B + 1, 0, none⟩) (.inl (by simp [rbL])) (.int .i64 (fa : Nat)))
        obtain ⟨w3, hw⟩ : ∃ w3, w3 = ((w2.setCell ⟨B + 5, 0, none⟩ (.bool true)).setCell ⟨B + 1, 0, none⟩ (.int .i64 (fa : Nat))) := ⟨_, rfl⟩
        rw [← hw] at HS2 HK2 ⊢
        clear hw HS HK
        have HS := HS2
        have HK := HK2
        clear HS2 HK2
        have q0 := cell_of_block HS.out.1.1 0
        have q1 := cell_of_block HS.out.1.2.1 0
        have q2 := cell_of_block HS.out.1.2.2.1 0
        have q3 := cell_of_block HS.out.1.2.2.2.1 0
        have q4 := cell_of_block HS.out.1.2.2.2.2.1 0
        have q5 := cell_of_block HS.out.1.2.2.2.2.2 0
        have z1 := free_of_block HS.out.1.2.1 0
        have z2 := free_of_block HS.out.1.2.2.1 0
        have z3 := free_of_block HS.out.1.2.2.2.1 0
        have z4 := free_of_block HS.out.1.2.2.2.2.1 0
        have z5 := free_of_block HS.out.1.2.2.2.2.2 0
        have d0 := cell_of_block HS.out.2.1 0
        have d1 := cell_of_block HS.out.2.1 1
        have d2 := cell_of_block HS.out.2.1 2
        have d3 := cell_of_block HS.out.2.1 3
        have d4 := cell_of_block HS.out.2.1 4
        simp at q0 q1 q2 q3 q4 q5 d0 d1 d2 d3 d4
        go_upto_region 15 with (fail)
        clear q0 q1 q2 q3 q4 q5 z1 z2 z3 z4 z5 d0 d1 d2 d3 d4
        have HS2 := Lib.hid ((HS.out).setLine fl)
        have HK2 := Lib.hid ((HK.out).setCell (p := ⟨B + 2, 0, none⟩) (.inl (by simp [rbL])) (.int .i64 (fl : Nat)))
        obtain ⟨w4, hw⟩ : ∃ w4, w4 = (w3.setCell ⟨B + 2, 0, none⟩ (.int .i64 (fl : Nat))) := ⟨_, rfl⟩
        rw [← hw] at HS2 HK2 ⊢
        clear hw HS HK
        have HS := HS2
        have HK := HK2
        clear HS2 HK2
        have q0 := cell_of_block HS.out.1.1 0
        have q1 := cell_of_block HS.out.1.2.1 0
        have q2 := cell_of_block HS.out.1.2.2.1 0
        have q3 := cell_of_block HS.out.1.2.2.2.1 0
        have q4 := cell_of_block HS.out.1.2.2.2.2.1 0
        have q5 := cell_of_block HS.out.1.2.2.2.2.2 0
        have z1 := free_of_block HS.out.1.2.1 0
        have z2 := free_of_block HS.out.1.2.2.1 0
        have z3 := free_of_block HS.out.1.2.2.2.1 0
        have z4 := free_of_block HS.out.1.2.2.2.2.1 0
        have z5 := free_of_block HS.out.1.2.2.2.2.2 0
        have d0 := cell_of_block HS.out.2.1 0
        have d1 := cell_of_block HS.out.2.1 1
        have d2 := cell_of_block HS.out.2.1 2
        have d3 := cell_of_block HS.out.2.1 3
        have d4 := cell_of_block HS.out.2.1 4
        simp at q0 q1 q2 q3 q4 q5 d0 d1 d2 d3 d4
        go_wp2
        go_ret
        exact ⟨rfl, (HK.out.setCell (p := ⟨B + 3, 0, none⟩) (.inl (by simp [rbL])) (.int .i64 (2 : Nat))), _, _, _, _, (HS.out.setKind 2).1, .inl ⟨rfl, HR.out⟩⟩
      · -- word 3 False
        have hll := r6 hk
        subst hll
        have g7 : ((kind : Int) == 4) = false := by simp; omega
        have g8 : (kind == 4) = false := by simp; omega
        have g3 := dec_lt_t r4
        obtain rfl : ft = ByteArray.empty := by rcases r9 with h | h | h; cases h; cases h; exact h
        clear r4 r5 r6 r8 r9 r10
        have q0 := cell_of_block HS.out.1.1 0
        have q1 := cell_of_block HS.out.1.2.1 0
        have q2 := cell_of_block HS.out.1.2.2.1 0
        have q3 := cell_of_block HS.out.1.2.2.2.1 0
        have q4 := cell_of_block HS.out.1.2.2.2.2.1 0
        have q5 := cell_of_block HS.out.1.2.2.2.2.2 0
        have z1 := free_of_block HS.out.1.2.1 0
        have z2 := free_of_block HS.out.1.2.2.1 0
        have z3 := free_of_block HS.out.1.2.2.2.1 0
        have z4 := free_of_block HS.out.1.2.2.2.2.1 0
        have z5 := free_of_block HS.out.1.2.2.2.2.2 0
        have d0 := cell_of_block HS.out.2.1 0
        have d1 := cell_of_block HS.out.2.1 1
        have d2 := cell_of_block HS.out.2.1 2
        have d3 := cell_of_block HS.out.2.1 3
        have d4 := cell_of_block HS.out.2.1 4
        simp at q0 q1 q2 q3 q4 q5 d0 d1 d2 d3 d4
        go_upto_region 2 with (fail)
        clear q0 q1 q2 q3 q4 q5 z1 z2 z3 z4 z5 d0 d1 d2 d3 d4
        have HS2 := Lib.hid ((HS.out).setOk true)
        have HK2 := Lib.hid ((HK.out).setCell (p := ⟨B + 5, 0, none⟩) (.inl (by simp [rbL])) (.bool true))
        obtain ⟨w1, hw⟩ : ∃ w1, w1 = (w0.setCell ⟨B + 5, 0, none⟩ (.bool true)) := ⟨_, rfl⟩
        rw [← hw] at HS2 HK2 ⊢
        clear hw HS HK
        have HS := HS2
        have HK := HK2
        clear HS2 HK2
        have q0 := cell_of_block HS.out.1.1 0
        have q1 := cell_of_block HS.out.1.2.1 0
        have q2 := cell_of_block HS.out.1.2.2.1 0
        have q3 := cell_of_block HS.out.1.2.2.2.1 0
        have q4 := cell_of_block HS.out.1.2.2.2.2.1 0
        have q5 := cell_of_block HS.out.1.2.2.2.2.2 0
        have z1 := free_of_block HS.out.1.2.1 0
        have z2 := free_of_block HS.out.1.2.2.1 0
        have z3 := free_of_block HS.out.1.2.2.2.1 0
        have z4 := free_of_block HS.out.1.2.2.2.2.1 0
        have z5 := free_of_block HS.out.1.2.2.2.2.2 0
        have d0 := cell_of_block HS.out.2.1 0
        have d1 := cell_of_block HS.out.2.1 1
        have d2 := cell_of_block HS.out.2.1 2
        have d3 := cell_of_block HS.out.2.1 3
        have d4 := cell_of_block HS.out.2.1 4
        simp at q0 q1 q2 q3 q4 q5 d0 d1 d2 d3 d4
        go_upto_region 9 with (fail)
        clear q0 q1 q2 q3 q4 q5 z1 z2 z3 z4 z5 d0 d1 d2 d3 d4
        have HS2 := Lib.hid ((HS.out).setOk true)
        have HK2 := Lib.hid ((HK.out).setCell (p := ⟨B + 5, 0, none⟩) (.inl (by simp [rbL])) (.bool true))
        obtain ⟨w2, hw⟩ : ∃ w2, w2 = (w1.setCell ⟨B + 5, 0, none⟩ (.bool true)) := ⟨_, rfl⟩
        rw [← hw] at HS2 HK2 ⊢
        clear hw HS HK
        have HS := HS2
        have HK := HK2
        clear HS2 HK2
        have q0 := cell_of_block HS.out.1.1 0
        have q1 := cell_of_block HS.out.1.2.1 0
        have q2 := cell_of_block HS.out.1.2.2.1 0
        have q3 := cell_of_block HS.out.1.2.2.2.1 0
        have q4 := cell_of_block HS.out.1.2.2.2.2.1 0
        have q5 := cell_of_block HS.out.1.2.2.2.2.2 0
        have z1 := free_of_block HS.out.1.2.1 0
        have z2 := free_of_block HS.out.1.2.2.1 0
        have z3 := free_of_block HS.out.1.2.2.2.1 0
        have z4 := free_of_block HS.out.1.2.2.2.2.1 0
        have z5 := free_of_block HS.out.1.2.2.2.2.2 0
        have d0 := cell_of_block HS.out.2.1 0
        have d1 := cell_of_block HS.out.2.1 1
        have d2 := cell_of_block HS.out.2.1 2
        have d3 := cell_of_block HS.out.2.1 3
        have d4 := cell_of_block HS.out.2.1 4
        simp at q0 q1 q2 q3 q4 q5 d0 d1 d2 d3 d4
        go_upto_region 11 with (fail)
        clear q0 q1 q2 q3 q4 q5 z1 z2 z3 z4 z5 d0 d1 d2 d3 d4
        have HS2 := Lib.hid ((((HS.out).setOk true)).setAt (fa : Nat))
        have HK2 := Lib.hid ((((HK.out).setCell (p := ⟨B + 5, 0, none⟩) (.inl (by simp [rbL])) (.bool true))).setCell (p := ⟨B + 1, 0, none⟩) (.inl (by simp [rbL])) (.int .i64 (fa : Nat)))
        obtain ⟨w3, hw⟩ : ∃ w3, w3 = ((w2.setCell ⟨B + 5, 0, none⟩ (.bool true)).setCell ⟨B + 1, 0, none⟩ (.int .i64 (fa : Nat))) := ⟨_, rfl⟩
        rw [← hw] at HS2 HK2 ⊢
        clear hw HS HK
        have HS := HS2
        have HK := HK2
        clear HS2 HK2
        have q0 := cell_of_block HS.out.1.1 0
        have q1 := cell_of_block HS.out.1.2.1 0
        have q2 := cell_of_block HS.out.1.2.2.1 0
        have q3 := cell_of_block HS.out.1.2.2.2.1 0
        have q4 := cell_of_block HS.out.1.2.2.2.2.1 0
        have q5 := cell_of_block HS.out.1.2.2.2.2.2 0
        have z1 := free_of_block HS.out.1.2.1 0
        have z2 := free_of_block HS.out.1.2.2.1 0
        have z3 := free_of_block HS.out.1.2.2.2.1 0
        have z4 := free_of_block HS.out.1.2.2.2.2.1 0
        have z5 := free_of_block HS.out.1.2.2.2.2.2 0
        have d0 := cell_of_block HS.out.2.1 0
        have d1 := cell_of_block HS.out.2.1 1
        have d2 := cell_of_block HS.out.2.1 2
        have d3 := cell_of_block HS.out.2.1 3
        have d4 := cell_of_block HS.out.2.1 4
        simp at q0 q1 q2 q3 q4 q5 d0 d1 d2 d3 d4
        go_upto_region 15 with (fail)
        clear q0 q1 q2 q3 q4 q5 z1 z2 z3 z4 z5 d0 d1 d2 d3 d4
        have HS2 := Lib.hid ((HS.out).setLine fl)
        have HK2 := Lib.hid ((HK.out).setCell (p := ⟨B + 2, 0, none⟩) (.inl (by simp [rbL])) (.int .i64 (fl : Nat)))
        obtain ⟨w4, hw⟩ : ∃ w4, w4 = (w3.setCell ⟨B + 2, 0, none⟩ (.int .i64 (fl : Nat))) := ⟨_, rfl⟩
        rw [← hw] at HS2 HK2 ⊢
        clear hw HS HK
        have HS := HS2
        have HK := HK2
        clear HS2 HK2
        have q0 := cell_of_block HS.out.1.1 0
        have q1 := cell_of_block HS.out.1.2.1 0
        have q2 := cell_of_block HS.out.1.2.2.1 0
        have q3 := cell_of_block HS.out.1.2.2.2.1 0
        have q4 := cell_of_block HS.out.1.2.2.2.2.1 0
        have q5 := cell_of_block HS.out.1.2.2.2.2.2 0
        have z1 := free_of_block HS.out.1.2.1 0
        have z2 := free_of_block HS.out.1.2.2.1 0
        have z3 := free_of_block HS.out.1.2.2.2.1 0
        have z4 := free_of_block HS.out.1.2.2.2.2.1 0
        have z5 := free_of_block HS.out.1.2.2.2.2.2 0
        have d0 := cell_of_block HS.out.2.1 0
        have d1 := cell_of_block HS.out.2.1 1
        have d2 := cell_of_block HS.out.2.1 2
        have d3 := cell_of_block HS.out.2.1 3
        have d4 := cell_of_block HS.out.2.1 4
        simp at q0 q1 q2 q3 q4 q5 d0 d1 d2 d3 d4
        go_wp2
        go_ret
        exact ⟨rfl, (HK.out.setCell (p := ⟨B + 3, 0, none⟩) (.inl (by simp [rbL])) (.int .i64 (3 : Nat))), _, _, _, _, (HS.out.setKind 3).1, .inl ⟨rfl, HR.out⟩⟩
      · -- word 4 False
        have hll := r6 hk
        subst hll
        have g7 : ((kind : Int) == 4) = false := by simp; omega
        have g8 : (kind == 4) = false := by simp; omega
        have g3 := dec_lt_t r4
        obtain rfl : ft = ByteArray.empty := by rcases r9 with h | h | h; cases h; cases h; exact h
        obtain rfl : fn = 0 := by rcases r8 with h | h; cases h; exact h
        clear r4 r5 r6 r8 r9 r10
        have q0 := cell_of_block HS.out.1.1 0
        have q1 := cell_of_block HS.out.1.2.1 0
        have q2 := cell_of_block HS.out.1.2.2.1 0
        have q3 := cell_of_block HS.out.1.2.2.2.1 0
        have q4 := cell_of_block HS.out.1.2.2.2.2.1 0
        have q5 := cell_of_block HS.out.1.2.2.2.2.2 0
        have z1 := free_of_block HS.out.1.2.1 0
        have z2 := free_of_block HS.out.1.2.2.1 0
        have z3 := free_of_block HS.out.1.2.2.2.1 0
        have z4 := free_of_block HS.out.1.2.2.2.2.1 0
        have z5 := free_of_block HS.out.1.2.2.2.2.2 0
        have d0 := cell_of_block HS.out.2.1 0
        have d1 := cell_of_block HS.out.2.1 1
        have d2 := cell_of_block HS.out.2.1 2
        have d3 := cell_of_block HS.out.2.1 3
        have d4 := cell_of_block HS.out.2.1 4
        simp at q0 q1 q2 q3 q4 q5 d0 d1 d2 d3 d4
        go_upto_region 2 with (fail)
        clear q0 q1 q2 q3 q4 q5 z1 z2 z3 z4 z5 d0 d1 d2 d3 d4
        have HS2 := Lib.hid ((HS.out).setOk true)
        have HK2 := Lib.hid ((HK.out).setCell (p := ⟨B + 5, 0, none⟩) (.inl (by simp [rbL])) (.bool true))
        obtain ⟨w1, hw⟩ : ∃ w1, w1 = (w0.setCell ⟨B + 5, 0, none⟩ (.bool true)) := ⟨_, rfl⟩
        rw [← hw] at HS2 HK2 ⊢
        clear hw HS HK
        have HS := HS2
        have HK := HK2
        clear HS2 HK2
        have q0 := cell_of_block HS.out.1.1 0
        have q1 := cell_of_block HS.out.1.2.1 0
        have q2 := cell_of_block HS.out.1.2.2.1 0
        have q3 := cell_of_block HS.out.1.2.2.2.1 0
        have q4 := cell_of_block HS.out.1.2.2.2.2.1 0
        have q5 := cell_of_block HS.out.1.2.2.2.2.2 0
        have z1 := free_of_block HS.out.1.2.1 0
        have z2 := free_of_block HS.out.1.2.2.1 0
        have z3 := free_of_block HS.out.1.2.2.2.1 0
        have z4 := free_of_block HS.out.1.2.2.2.2.1 0
        have z5 := free_of_block HS.out.1.2.2.2.2.2 0
        have d0 := cell_of_block HS.out.2.1 0
        have d1 := cell_of_block HS.out.2.1 1
        have d2 := cell_of_block HS.out.2.1 2
        have d3 := cell_of_block HS.out.2.1 3
        have d4 := cell_of_block HS.out.2.1 4
        simp at q0 q1 q2 q3 q4 q5 d0 d1 d2 d3 d4
        go_upto_region 9 with (fail)
        clear q0 q1 q2 q3 q4 q5 z1 z2 z3 z4 z5 d0 d1 d2 d3 d4
        have HS2 := Lib.hid ((HS.out).setOk true)
        have HK2 := Lib.hid ((HK.out).setCell (p := ⟨B + 5, 0, none⟩) (.inl (by simp [rbL])) (.bool true))
        obtain ⟨w2, hw⟩ : ∃ w2, w2 = (w1.setCell ⟨B + 5, 0, none⟩ (.bool true)) := ⟨_, rfl⟩
        rw [← hw] at HS2 HK2 ⊢
        clear hw HS HK
        have HS := HS2
        have HK := HK2
        clear HS2 HK2
        have q0 := cell_of_block HS.out.1.1 0
        have q1 := cell_of_block HS.out.1.2.1 0
        have q2 := cell_of_block HS.out.1.2.2.1 0
        have q3 := cell_of_block HS.out.1.2.2.2.1 0
        have q4 := cell_of_block HS.out.1.2.2.2.2.1 0
        have q5 := cell_of_block HS.out.1.2.2.2.2.2 0
        have z1 := free_of_block HS.out.1.2.1 0
        have z2 := free_of_block HS.out.1.2.2.1 0
        have z3 := free_of_block HS.out.1.2.2.2.1 0
        have z4 := free_of_block HS.out.1.2.2.2.2.1 0
        have z5 := free_of_block HS.out.1.2.2.2.2.2 0
        have d0 := cell_of_block HS.out.2.1 0
        have d1 := cell_of_block HS.out.2.1 1
        have d2 := cell_of_block HS.out.2.1 2
        have d3 := cell_of_block HS.out.2.1 3
        have d4 := cell_of_block HS.out.2.1 4
        simp at q0 q1 q2 q3 q4 q5 d0 d1 d2 d3 d4
        go_upto_region 11 with (fail)
        clear q0 q1 q2 q3 q4 q5 z1 z2 z3 z4 z5 d0 d1 d2 d3 d4
        have HS2 := Lib.hid ((((HS.out).setOk true)).setAt (fa : Nat))
        have HK2 := Lib.hid ((((HK.out).setCell (p := ⟨B + 5, 0, none⟩) (.inl (by simp [rbL])) (.bool true))).setCell (p := ⟨B + 1, 0, none⟩) (.inl (by simp [rbL])) (.int .i64 (fa : Nat)))
        obtain ⟨w3, hw⟩ : ∃ w3, w3 = ((w2.setCell ⟨B + 5, 0, none⟩ (.bool true)).setCell ⟨B + 1, 0, none⟩ (.int .i64 (fa : Nat))) := ⟨_, rfl⟩
        rw [← hw] at HS2 HK2 ⊢
        clear hw HS HK
        have HS := HS2
        have HK := HK2
        clear HS2 HK2
        have q0 := cell_of_block HS.out.1.1 0
        have q1 := cell_of_block HS.out.1.2.1 0
        have q2 := cell_of_block HS.out.1.2.2.1 0
        have q3 := cell_of_block HS.out.1.2.2.2.1 0
        have q4 := cell_of_block HS.out.1.2.2.2.2.1 0
        have q5 := cell_of_block HS.out.1.2.2.2.2.2 0
        have z1 := free_of_block HS.out.1.2.1 0
        have z2 := free_of_block HS.out.1.2.2.1 0
        have z3 := free_of_block HS.out.1.2.2.2.1 0
        have z4 := free_of_block HS.out.1.2.2.2.2.1 0
        have z5 := free_of_block HS.out.1.2.2.2.2.2 0
        have d0 := cell_of_block HS.out.2.1 0
        have d1 := cell_of_block HS.out.2.1 1
        have d2 := cell_of_block HS.out.2.1 2
        have d3 := cell_of_block HS.out.2.1 3
        have d4 := cell_of_block HS.out.2.1 4
        simp at q0 q1 q2 q3 q4 q5 d0 d1 d2 d3 d4
        go_upto_region 15 with (fail)
        clear q0 q1 q2 q3 q4 q5 z1 z2 z3 z4 z5 d0 d1 d2 d3 d4
        have HS2 := Lib.hid ((HS.out).setLine fl)
        have HK2 := Lib.hid ((HK.out).setCell (p := ⟨B + 2, 0, none⟩) (.inl (by simp [rbL])) (.int .i64 (fl : Nat)))
        obtain ⟨w4, hw⟩ : ∃ w4, w4 = (w3.setCell ⟨B + 2, 0, none⟩ (.int .i64 (fl : Nat))) := ⟨_, rfl⟩
        rw [← hw] at HS2 HK2 ⊢
        clear hw HS HK
        have HS := HS2
        have HK := HK2
        clear HS2 HK2
        have q0 := cell_of_block HS.out.1.1 0
        have q1 := cell_of_block HS.out.1.2.1 0
        have q2 := cell_of_block HS.out.1.2.2.1 0
        have q3 := cell_of_block HS.out.1.2.2.2.1 0
        have q4 := cell_of_block HS.out.1.2.2.2.2.1 0
        have q5 := cell_of_block HS.out.1.2.2.2.2.2 0
        have z1 := free_of_block HS.out.1.2.1 0
        have z2 := free_of_block HS.out.1.2.2.1 0
        have z3 := free_of_block HS.out.1.2.2.2.1 0
        have z4 := free_of_block HS.out.1.2.2.2.2.1 0
        have z5 := free_of_block HS.out.1.2.2.2.2.2 0
        have d0 := cell_of_block HS.out.2.1 0
        have d1 := cell_of_block HS.out.2.1 1
        have d2 := cell_of_block HS.out.2.1 2
        have d3 := cell_of_block HS.out.2.1 3
        have d4 := cell_of_block HS.out.2.1 4
        simp at q0 q1 q2 q3 q4 q5 d0 d1 d2 d3 d4
        go_wp2
        go_ret
        exact ⟨rfl, (HK.out.setCell (p := ⟨B + 3, 0, none⟩) (.inl (by simp [rbL])) (.int .i64 (4 : Nat))), _, _, _, _, (HS.out.setKind 4).1, .inl ⟨rfl, HR.out⟩⟩
end Go.Proofs.YtbmapellhcdipaaDoor
namespace Go.Proofs.YtbmapellhcdipaaDoor
open Go.RowKit
set_option linter.unusedVariables false
set_option linter.unusedSimpArgs false
attribute [local go_sem] Oper.semAt_some

theorem six_boxes (w : World) (o0 o1 o2 o3 o4 o5 : Obj) :
    ((((((w.alloc o0).alloc o1).alloc o2).alloc o3).alloc o4).alloc o5).heap[w.heap.size]? = some o0 ∧ ((((((w.alloc o0).alloc o1).alloc o2).alloc o3).alloc o4).alloc o5).heap[w.heap.size + 1]? = some o1 ∧
    ((((((w.alloc o0).alloc o1).alloc o2).alloc o3).alloc o4).alloc o5).heap[w.heap.size + 1 + 1]? = some o2 ∧ ((((((w.alloc o0).alloc o1).alloc o2).alloc o3).alloc o4).alloc o5).heap[w.heap.size + 1 + 1 + 1]? = some o3 ∧
    ((((((w.alloc o0).alloc o1).alloc o2).alloc o3).alloc o4).alloc o5).heap[w.heap.size + 1 + 1 + 1 + 1]? = some o4 ∧ ((((((w.alloc o0).alloc o1).alloc o2).alloc o3).alloc o4).alloc o5).heap[w.heap.size + 1 + 1 + 1 + 1 + 1]? = some o5 ∧
    ((((((w.alloc o0).alloc o1).alloc o2).alloc o3).alloc o4).alloc o5).heap.size = w.heap.size + 1 + 1 + 1 + 1 + 1 + 1 := by
  have e1 : ∀ (u : World) (o : Obj), (u.alloc o).heap.size = u.heap.size + 1 := fun u o => by simp
  have n : ∀ (u : World) (o : Obj) (i : Nat), i = u.heap.size → (u.alloc o).heap[i]? = some o := fun u o i h => h ▸ World.alloc_heap_new u o
  have k : ∀ (u : World) (o p : Obj) (i : Nat), u.heap[i]? = some p → (u.alloc o).heap[i]? = some p := fun u o p i h => ((Keep.refl [] u).alloc o).at_ h (by simp)
  exact ⟨k _ _ _ _ (k _ _ _ _ (k _ _ _ _ (k _ _ _ _ (k _ _ _ _ (n _ _ _ rfl))))), k _ _ _ _ (k _ _ _ _ (k _ _ _ _ (k _ _ _ _ (n _ _ _ (by simp only [e1]))))), k _ _ _ _ (k _ _ _ _ (k _ _ _ _ (n _ _ _ (by simp only [e1])))), k _ _ _ _ (k _ _ _ _ (n _ _ _ (by simp only [e1]))), k _ _ _ _ (n _ _ _ (by simp only [e1])), n _ _ _ (by simp only [e1]), by simp only [e1]⟩
theorem enters_qr (args : Array Value) (w : World) : (callFunc 26 args).run Tryd.prog w = .ok (.enter 26 args) w := enters_of Tryd.func26 (by kernel_rfl) rfl args w
/-- Between the words. -/
def RInv (B : Nat) (s : ByteArray) (W0 : World) (k : Nat) (fp : List Nat) (W : World) : Prop :=
  fp = rbL B ∧ Keep (rbL B) W0 W ∧ ∃ (at_ : Int) (line kind : Nat) (over : Bool), RB B s at_ line kind over true W ∧ ((over = false ∧ rises s at_ line kind ((scn s 0 1 false).drop k)) ∨ (over = true ∧ (scn s 0 1 false).drop k = []))
theorem RInv.steady {B : Nat} {s : ByteArray} {W0 : World} (h : B + 6 ≤ W0.heap.size) (k : Nat) : Steady [] W0 (RInv B s W0 k) := by
  rintro fp W1 W2 S ⟨rfl, hk, at_, line, kind, over, hb, hr⟩ hkp hS
  refine ⟨rfl, hk.trans hkp (fun x hx => .inr ?_), at_, line, kind, over, hb.keep hkp (fun x hx hm => ?_), hr⟩
  · rcases (hS x hx).2 with h | h
    · cases h
    · exact h
  · rcases (hS x hm).2 with h' | h'
    · cases h'
    · have : x ≤ B + 5 := by
        rcases List.mem_cons.1 hx with rfl | hx
        · omega
        · simp [rbL] at hx; omega
      omega
theorem RInv.round {B : Nat} {s : ByteArray} {W0 : World} (hz : s.size ≤ 1000000) (k : Nat) (hk : k < ((scn s 0 1 false).map fnArgs).length) (fp : List Nat) (W1 : World) (h : RInv B s W0 k fp W1) :
    CallV Tryd.prog (.func (.func 26) #[] (rbArgs B)) ((scn s 0 1 false).map fnArgs)[k] W1 (RoundPost (RInv B s W0) (fun _ _ _ => False) k fp W1) := by
  rw [List.length_map] at hk
  obtain ⟨rfl, hkp, at_, line, kind, over, hb, hr⟩ := h
  have hd := List.drop_eq_getElem_cons hk
  rw [hd] at hr
  rcases hr with ⟨rfl, hr⟩ | ⟨_, hr⟩
  · rw [List.getElem_map]
    refine .inr ⟨_, _, rfl, enters_qr, (rises1_any B s _ _ at_ line kind W1 hz hb hr).mono ?_⟩
    rintro e W2 ⟨rfl, hk2, at', line', kind', over', hb2, hr2⟩
    exact .inl ⟨rfl, rbL B, ⟨rfl, hkp.trans hk2 (fun x hx => .inl hx), at', line', kind', over', hb2, hr2⟩, hk2, FromNew.refl _ _⟩
  · cases hr

set_option maxHeartbeats 4000000 in
set_option maxRecDepth 100000 in
theorem quoteRises_walk (s : ByteArray) (w : World) (hT : TQ w) : Calls Tryd.prog 8 #[.string s] w fun e w' => e = .returned (.bool true) ∧ Keep [] w w' := by
  by_cases hz : s.size ≤ 20000
  · have f1 := dec_lt_f (show ¬ (20000 : Int) < (s.size : Int) by omega)
    have f2 := dec_ltn_f (show ¬ 20000 < s.size by omega)
    have HT := Lib.hid hT; clear hT
    go_enter Tryd.func8, Tryd.ntmps8
    go_upto_region 8 with (fail)
    obtain ⟨b0, b1, b2, b3, b4, b5, b6⟩ := six_boxes w (.cells #[.string s] 9) (.cells #[.int .i64 (-1)] 3) (.cells #[.int .i64 1] 3) (.cells #[.int .i64 4] 3) (.cells #[.bool false] 4) (.cells #[.bool true] 4)
    have hk8 : Keep [] w ((((((w.alloc (.cells #[.string s] 9)).alloc (.cells #[.int .i64 (-1)] 3)).alloc (.cells #[.int .i64 1] 3)).alloc (.cells #[.int .i64 4] 3)).alloc (.cells #[.bool false] 4)).alloc (.cells #[.bool true] 4)) := ((((((Keep.refl _ _).alloc _).alloc _).alloc _).alloc _).alloc _).alloc _
    obtain ⟨W8, hW8⟩ : ∃ W8, W8 = ((((((w.alloc (.cells #[.string s] 9)).alloc (.cells #[.int .i64 (-1)] 3)).alloc (.cells #[.int .i64 1] 3)).alloc (.cells #[.int .i64 4] 3)).alloc (.cells #[.bool false] 4)).alloc (.cells #[.bool true] 4)) := ⟨_, rfl⟩
    rw [← hW8] at b0 b1 b2 b3 b4 b5 b6 hk8 ⊢
    clear hW8
    have HK8 := Lib.hid hk8
    obtain ⟨B, hB⟩ : ∃ B, w.heap.size = B := ⟨_, rfl⟩
    simp only [Nat.add_assoc, Nat.reduceAdd, hB] at b0 b1 b2 b3 b4 b5 b6 ⊢
    have HRB := Lib.hid (show RB B s (-1) 1 4 false true W8 from ⟨b0, b1, b2, b3, b4, b5⟩)
    have q0 := cell_of_block b0 0
    simp at q0
    have HB := Lib.hid hB
    have HB6 := Lib.hid b6
    clear b0 b1 b2 b3 b4 b5 hk8 hB b6
    go_wp2_with fail
    refine (scan_any s W8).mono ?_
    rintro e W9 ⟨rfl, rfl⟩
    obtain ⟨tb, htb⟩ : ∃ tb, tb = W8.heap.size := ⟨_, rfl⟩
    obtain ⟨W9, hW9⟩ : ∃ W9, W9 = W8.alloc (.cells #[.string s] 9) := ⟨_, rfl⟩
    have hbx : BoxNeed tb s W9 := by rw [hW9, htb]; exact World.alloc_heap_new W8 _
    have hk9 : Keep [] W8 W9 := by rw [hW9]; exact (Keep.refl _ _).alloc _
    have hs9 : W9.heap.size = B + 7 := by rw [hW9, World.size_alloc, HB6.out]
    rw [← hW9, ← htb]
    rw [HB6.out] at htb
    clear hW9 q0
    have HK9 := Lib.hid (HK8.out.trans0 hk9)
    have HR9 := Lib.hid (HRB.out.keep hk9 (fun _ _ => by simp))
    have nf1 : ∀ w, (binOp .eql 36 (.func (.func 44) #[] #[.pointer (some ⟨tb, 0, none⟩)]) Value.nilFunc).run Tryd.prog w = .ok (.bool false) w := fun _ => by kernel_rfl
    have HT9 := Lib.hid (HT.out.keep0 HK9.out)
    have hlt : ∀ x ∈ tqB, x < B := fun x hx => by have := HT.out.lt x hx; have := HB.out; omega
    have HLT := Lib.hid hlt
    have hcall := scan1_iters tb s (by omega) (.func (.func 26) #[] (rbArgs B)) (RInv B s W9) (fun _ _ _ => False) (rbL B) W9 ⟨hbx, HT9.out⟩ (fun b hb => by cases hb)
      (fun b hb => by
        rcases List.mem_cons.1 hb with rfl | hb
        · exact ⟨by omega, by simp [rbL]; omega⟩
        · have := hlt b hb
          exact ⟨by omega, by simp [rbL]; omega⟩)
      (RInv.steady (by omega)) (fun _ _ _ _ _ h => h.elim) (fun k hk fp W1 hj => RInv.round (by omega) k hk fp W1 hj) (fun b hb => by simp [rbL] at hb; omega)
      ⟨rfl, Keep.refl _ _, _, _, _, _, HR9.out, .inl ⟨rfl, rises_all s⟩⟩
    have HCALL := Lib.hid hcall
    have HS9 := Lib.hid hs9
    clear hcall hlt hbx hk9 htb hs9
    unfold rbArgs at HCALL
    go_wp2_with fail
    refine HCALL.out.mono ?_
    clear HCALL
    rintro e W10 ⟨rfl, ⟨fp', rfl, hk10, at_, line, kind, over, hb, hr⟩ | ⟨k, fp', hk, hx⟩⟩
    · rw [List.length_map, List.drop_length] at hr
      have hk11 : Keep [] w W10 := HK9.out.trans hk10 (fun x hx => .inr (by have := HB.out; simp [rbL] at hx; omega))
      have HT10 := Lib.hid (HT9.out.keep hk10 (fun x hx hm => by have := HLT.out x hx; simp [rbL] at hm; omega))
      have HK11 := Lib.hid hk11
      have q3 := cell_of_block hb.2.2.2.1 0
      have q4 := cell_of_block hb.2.2.2.2.1 0
      have q5 := cell_of_block hb.2.2.2.2.2 0
      simp at q3 q4 q5
      clear hb hk10 hk11
      cases over with
      | true =>
        clear hr
        go_wp2_with fail
        refine (known_true _ HT10.out.1).mono ?_
        rintro e W11 ⟨rfl, hk12⟩
        have HK12 := Lib.hid (HK11.out.trans0 hk12)
        clear hk12
        go_wp2
        go_ret
        exact ⟨rfl, HK12.out⟩
      | false =>
        have hr4 : kind = 4 := by
          rcases hr with ⟨_, hr⟩ | ⟨hr, _⟩
          · exact hr
          · cases hr
        subst hr4
        clear hr
        go_wp2_with fail
        refine (known_true _ HT10.out.1).mono ?_
        rintro e W11 ⟨rfl, hk12⟩
        have HK12 := Lib.hid (HK11.out.trans0 hk12)
        clear hk12
        go_wp2
        go_ret
        exact ⟨rfl, HK12.out⟩
    · exact hx.elim
  · have f1 := dec_lt_t (show (20000 : Int) < (s.size : Int) by omega)
    have f2 := dec_ltn_t (show 20000 < s.size by omega)
    have HT := Lib.hid hT; clear hT
    go_enter Tryd.func8, Tryd.ntmps8
    go_wp2_with fail
    refine (known_true _ (HT.out.1.keep0 ((Keep.refl _ _).alloc _))).mono ?_
    rintro e W1 ⟨rfl, hk1⟩
    go_wp2
    go_ret
    exact ⟨rfl, ((Keep.refl _ _).alloc _).trans0 hk1⟩
end Go.Proofs.YtbmapellhcdipaaDoor
namespace Go.Proofs.YtbmapellhcdipaaDoor
open Go.ChangeShapes Go.WideShapes Go.ChangeAt Go.RowKit
set_option linter.unusedVariables false

theorem own : ownKnob Tryd.prog.godebug = none := by kernel_rfl
theorem gTab : Tryd.prog.globalNamed "math/bits.deBruijn64tab" = some 4 := by kernel_rfl
theorem gTabType : (Tryd.prog.globals[4]?).map (·.type) = some 137 := by kernel_rfl
theorem gPType : (Tryd.prog.globals[0]?).map (·.type) = some 120 := by kernel_rfl
theorem gSType : (Tryd.prog.globals[1]?).map (·.type) = some 60 := by kernel_rfl
theorem gRType : (Tryd.prog.globals[2]?).map (·.type) = some 60 := by kernel_rfl
theorem cellsTab : Tryd.prog.cellsOf 137 = 64 := by kernel_rfl
theorem cellsU8 : Tryd.prog.cellsOf 5 = 1 := by kernel_rfl
theorem cellsP : Tryd.prog.cellsOf 120 = 20 := by kernel_rfl
theorem cellsU64 : Tryd.prog.cellsOf 102 = 1 := by kernel_rfl
theorem cellsES : Tryd.prog.cellsOf 135 = 1 := by kernel_rfl
theorem cellsStr : Tryd.prog.cellsOf 9 = 1 := by kernel_rfl
theorem laidOut : laidOutB Tryd.prog = true := by kernel_rfl
theorem esStar : "*" ++ "errors.errorString" = "*errors.errorString" := by decide
theorem esRow (u : TypeId) (h : Tryd.prog.typeName? 3 u = some "*errors.errorString") : u = 133 :=
  typeName_ptr_named (nm := "errors.errorString") (by rw [esStar]; kernel_rfl) (by kernel_rfl) (by decide) u (by rw [esStar]; exact h)

/-- What each row lists. -/
def laid1 : List (String × DataW Unit) := [("math/bits.deBruijn32tab", Rows.laid_math_bits_deBruijn32tab), ("math/bits.deBruijn64tab", Rows.laid_math_bits_deBruijn64tab), ("internal/strconv.uint64pow10", Rows.laid_internal_strconv_uint64pow10), ("strconv.ErrRange", Rows.laid_strconv_ErrRange), ("strconv.ErrSyntax", Rows.laid_strconv_ErrSyntax)]

theorem tab_head {P : Program} {W : World} {name : String} {k : IntKind} {zs : List Int} {rest : List (String × DataW Unit)} {g : Nat} {t e : TypeId} {n : Nat}
    (hg : P.globalNamed name = some g) (hty : (P.globals[g]?).map (·.type) = some t) (ht : P.underlying t = some (.array n e)) (he : P.underlying e = some (.int k)) (hce : P.cellsOf e = 1) (hct : P.cellsOf t = n)
    (h : laidMet P ((name, Lib.tabData k zs) :: rest) W) : Lib.TabIs P W name k zs := by
  obtain ⟨ps, ⟨g', t', cs, fuel, p, q, hg', ht', hvar, hd, _, _⟩, _⟩ := h
  obtain rfl := Option.some.inj (hg.symm.trans hg')
  obtain rfl := Option.some.inj (hty.symm.trans ht')
  unfold Lib.TabIs
  rw [hvar, ← Lib.cells_of_tab ht he hce hct hd]

/-- WHAT THE ROW's LIST GIVES. -/
theorem table {W : World} (h : laidMetH Tryd.prog laid1 W) : TQ W := by
  have h0 : laidMet Tryd.prog (("math/bits.deBruijn32tab", Rows.laid_math_bits_deBruijn32tab) :: ("math/bits.deBruijn64tab", Rows.laid_math_bits_deBruijn64tab) :: ("internal/strconv.uint64pow10", Rows.laid_internal_strconv_uint64pow10) :: ("strconv.ErrRange", Rows.laid_strconv_ErrRange) :: ("strconv.ErrSyntax", Rows.laid_strconv_ErrSyntax) :: []) W := h
  have h1 := h0.tail
  have h2 := h1.tail
  have h3 := h2.tail
  have h4 := h3.tail
  have t1 : Lib.TabIs Tryd.prog W "math/bits.deBruijn64tab" .u8 (Lib.deBruijn64tab.map Int.ofNat) := tab_head gTab gTabType Tryd.underlying137 Tryd.underlying5 cellsU8 cellsTab h1
  have t2 : Lib.TabIs Tryd.prog W "internal/strconv.uint64pow10" .u64 Lib.pow10Tab := tab_head gP gPType Tryd.underlying120 Tryd.underlying102 cellsU64 cellsP h2
  refine ⟨by have := t1.cell gTab 15 (by decide); exact this, t2, ?_, ?_⟩
  · obtain ⟨a, s, hv, _⟩ := laid_sentinel h4 gS gSType Tryd.underlying60 esRow Tryd.underlying133 Tryd.underlying135 rfl rfl Tryd.underlying9 cellsES cellsStr
    exact ⟨_, _, hv⟩
  · obtain ⟨a, s, hv, _⟩ := laid_sentinel h3 gR gRType Tryd.underlying60 esRow Tryd.underlying133 Tryd.underlying135 rfl rfl Tryd.underlying9 cellsES cellsStr
    exact ⟨_, _, hv⟩

def rangeS : ByteArray := { data := #[118, 97, 108, 117, 101, 32, 111, 117, 116, 32, 111, 102, 32, 114, 97, 110, 103, 101] }
def syntaxS : ByteArray := { data := #[105, 110, 118, 97, 108, 105, 100, 32, 115, 121, 110, 116, 97, 120] }
/-- So many blocks has the settled world. -/
noncomputable def low : Nat := (World.holding Tryd.prog default ⟨#[], #[], []⟩).heap.size
/-- A WORLD FOR THE WITNESS: the settled one, the tables' blocks holding what their initialisers lay; two blocks more, of the errors. -/
noncomputable def laidWorld (os : Os) : World :=
  let w0 := World.holding Tryd.prog os ⟨#[.cells #[.string rangeS] 135, .cells #[.string syntaxS] 135], #[], []⟩
  { w0 with heap := ((((w0.heap.modify 3 (fun
      | .cells _ t frozen => .cells (Lib.deBruijn32tab.map fun (z : Nat) => Value.int .u8 z).toArray t frozen
      | o => o)).modify 4 (fun
      | .cells _ t frozen => .cells (Lib.deBruijn64tab.map fun (z : Nat) => Value.int .u8 z).toArray t frozen
      | o => o)).modify 0 (fun
      | .cells _ t frozen => .cells (Lib.pow10Tab.map fun (z : Int) => Value.int .u64 z).toArray t frozen
      | o => o)).modify 2 (fun
      | .cells _ t frozen => .cells #[.iface 133 (.pointer (some ⟨low, 0, none⟩))] t frozen
      | o => o)).modify 1 (fun
      | .cells _ t frozen => .cells #[.iface 133 (.pointer (some ⟨low + 1, 0, none⟩))] t frozen
      | o => o) }
end Go.Proofs.YtbmapellhcdipaaDoor
namespace Go.Proofs.YtbmapellhcdipaaDoor.quoteRises
open Go.ChangeShapes Go.WideShapes Go.ChangeAt Go.RowKit
open Go.ChangeMaps (open_string shut_string)
set_option linter.unusedVariables false

set_option maxRecDepth 100000 in
theorem contract (H : Type) (enc : TypeId × Value → H) (W : World) (base : Nat) (args : Array Value) (ds gs : List (DataW H)) (before : List MemPlace)
    (hval : ∀ (j : Nat) t v, Tryd.f8.params[j]? = some t → args[j]? = some v → Value.okWide Tryd.prog W .any base t v)
    (hW : DataW.Whole enc Tryd.prog Tryd.f8.params.toList Rows.quoteRisesSpec.vars false W args.toList ds gs before) (hL : laidMetH Tryd.prog laid1 W) :
    Calls Tryd.prog 8 args W fun e W' => ∃ v, e = .returned v ∧ Rows.quoteRisesSpec.post enc Tryd.prog Tryd.f8 false true false false W args v W' := by
  have hW' := hW
  obtain ⟨p, q, hA0, hV, rfl, hfz, hnd⟩ := hW
  have hA : DataW.TrodAll enc Tryd.prog W 0 (fun _ => true) true Tryd.f8.params.toList args.toList ds p := hA0
  rw [Tryd.params8] at hA hval
  obtain ⟨v0, vs0, d0, ds0, p0, q0, hargs, rfl, rfl, h0, r0⟩ := trodAll_cons hA
  obtain ⟨rfl, rfl, rfl⟩ := trodAll_nil r0
  obtain rfl : args = #[v0] := by cases args; simp_all
  obtain ⟨rfl, rfl⟩ := trodVars_none hV
  clear hA0
  simp only [List.append_nil] at hW'
  have hlt : ∀ x ∈ p0, x.block < W.heap.size := fun x hx => by simpa using hW'.lt x (by simpa using hx)
  have k0 := h0
  obtain ⟨s0, rfl, _, _, hs0⟩ := open_string Tryd.underlying9 (hval 0 9 v0 rfl rfl) h0
  refine (quoteRises_walk s0 W  (table hL)).mono fun e W' ⟨he, hk⟩ => ?_
  subst he
  have hb := hk.below
  exact ⟨_, rfl, _, _, _, [], p0 ++ [], [], hW', trodAll_cons_mk (shut_bool Tryd.underlying4 _) trodAll_mk0, trodAll_cons_mk (Below.trod laidOut (by kernel_rfl) (of_decide_eq_true (by kernel_rfl)) k0 hb (fun x hx => hlt x (by simp [hx]))) trodAll_mk0, rfl, hb.frame _, fun h => by cases h⟩

theorem laid_met (os : Os) : laidMet Tryd.prog laid1 ((laidWorld os).forCall (fun _ _ => 0) ⟨#[], #[.string ByteArray.empty], []⟩).memory :=
  laidMet_of_run' 8 (by kernel_rfl) (by kernel_rfl)
theorem reads (os : Os) {H : Type} (enc : TypeId × Value → H) : ∃ places, DataW.whole enc Tryd.prog ((laidWorld os).forCall (fun _ _ => 0) ⟨#[], #[.string ByteArray.empty], []⟩).memory Tryd.f8.params.toList Rows.quoteRisesSpec.vars false #[(.string ByteArray.empty : Value)].toList 8 = some ([.lit (.string [])], [], places) :=
  ⟨[], by kernel_rfl⟩

set_option maxRecDepth 100000 in
theorem lifted (os : Os) (started : os.Started) (H : Type) (enc : TypeId × Value → H) (F : Stop.Interp) :
    ReturnsInHanded {} Tryd.checked os 8 .any ((OpenSpec.ofChange Rows.quoteRisesSpec).preRow enc Tryd.prog Tryd.f8 Rows.quoteRisesRow.domain false Rows.quoteRisesRow.laid) (((OpenSpec.ofChange Rows.quoteRisesSpec).at F).post enc Tryd.prog Tryd.f8 false true false false) := by
  obtain ⟨places, hx⟩ := reads os enc
  refine returnsInHanded_of_row (C := Tryd.checked) (s := OpenSpec.ofChange Rows.quoteRisesSpec) own started (by kernel_rfl) Tryd.func8
    (witness_row_at (enc := enc) (C := Tryd.checked) false (laidWorld os) #[.string ByteArray.empty] rfl (by kernel_rfl) (by kernel_rfl) (by kernel_rfl)
      (OpenSpec.preRow_of_cond 8 hx (by kernel_rfl) (fun k hk => by cases hk) (by kernel_rfl) (laid_met os))) ?_
  intro W base args ds gs before hval hW _ _ _ hL _ _
  exact contract H enc W base args ds gs before hval hW hL

theorem said : Rows.QuoteRisesSaid :=
  OpenClaim.holds_of_cond 8 Tryd.f8 rfl rfl rfl rfl rfl rfl rfl ⟨rfl, rfl, rfl, rfl, rfl⟩ rfl rfl rfl rfl rfl (by kernel_rfl) Tryd.func8 (by kernel_rfl)
    (of_decide_eq_true (by kernel_rfl)) (by unfold Func.isWrapper; first | (rw [if_pos (by decide +kernel)]; kernel_rfl) | (rw [if_neg (by decide +kernel)]; exact ⟨rfl, rfl⟩))
    (fun os started H enc _ F => by rw [OpenClaim.pre_eq_preRow]; exact lifted os started H enc F)

/-- No parameter wants a stand-in; the program's own looks are off. -/
theorem plain (f : FuncId) (fn : Func) (hf : Tryd.pinned.checked.prog.funcNamed "hearsay/hearsaylaw4.QuoteRises" = some f) (hfn : Tryd.pinned.checked.prog.funcs[f]? = some fn) :
    true = Tryd.pinned.checked.prog.looks [] ∧ ∀ (j : Nat) t, fn.params[j]? = some t → Tryd.pinned.checked.prog.wantsStandIn t = false := by
  obtain rfl : f = 8 := Option.some.inj ((show Tryd.prog.funcNamed "hearsay/hearsaylaw4.QuoteRises" = some 8 by kernel_rfl).symm.trans hf) |>.symm
  obtain rfl : fn = Tryd.f8 := (Option.some.inj (Tryd.func8.symm.trans hfn)).symm
  refine ⟨by kernel_rfl, fun j t ht => ?_⟩
  rw [Tryd.params8] at ht
  have hm := Array.mem_of_getElem? ht
  simp at hm
  subst hm
  exact (show Tryd.prog.wantsStandIn 9 = false by kernel_rfl)

/-- THE CARD. -/
theorem card : Rows.QuoteRisesCardSaid :=
  Claim7.holds_tied_plain_at .later [] _ _ _ _ said (fun _ h => by cases h) (by kernel_rfl) (fun _ h => by cases h) quoteRises_row_tie rfl ⟨rfl, rfl⟩ (by kernel_rfl) rfl plain (by kernel_rfl)
end Go.Proofs.YtbmapellhcdipaaDoor.quoteRises
