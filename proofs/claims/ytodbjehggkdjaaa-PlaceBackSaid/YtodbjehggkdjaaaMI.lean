/-
  Breaks of a text: plain.
-/
import Derived.Test.YtodbjehggkdjaaaMC
import Derived.Test.YtodbjehggkdjaaaAppend
import Derived.Test.YtodbjehggkdjaaaMB
import Derived.WalkMore
namespace Go.Proofs.Ytodbjehggkdjaaa
set_option linter.unusedVariables false
set_option linter.unusedSimpArgs false

/-! ### classes -/
abbrev Span := Int × Int × Int
/-- Spans of one class, from and to by turns. -/
def grp (c : Int) : List Int → List Span
  | a :: b :: l => (a, b, c) :: grp c l
  | _ => []
def gCtl : List Int := [0, 0x1f, 0x7f, 0x9f, 0x2028, 0x2029]
def gMark : List Int := [0x300, 0x36f, 0x483, 0x489, 0x591, 0x5bd, 0x64b, 0x65f, 0x1ab0, 0x1aff, 0x1dc0, 0x1dff, 0x200c, 0x200c, 0x20d0, 0x20ff, 0x302a, 0x302f, 0x3099, 0x309a, 0xfe00, 0xfe0f, 0xfe20, 0xfe2f, 0x1f3fb, 0x1f3ff, 0xe0020, 0xe007f, 0xe0100, 0xe01ef]
def gFlag : List Int := [0x1f1e6, 0x1f1ff]
def gL : List Int := [0x1100, 0x115f, 0xa960, 0xa97c]
def gV : List Int := [0x1160, 0x11a7, 0xd7b0, 0xd7c6]
def gT : List Int := [0x11a8, 0x11ff, 0xd7cb, 0xd7fb]
def gPic : List Int := [0xa9, 0xa9, 0xae, 0xae, 0x203c, 0x203c, 0x2049, 0x2049, 0x2122, 0x2122, 0x2139, 0x2139, 0x2190, 0x21ff, 0x2300, 0x23ff, 0x2600, 0x27bf, 0x2b00, 0x2bff, 0x3030, 0x3030, 0x303d, 0x303d, 0x3297, 0x3297, 0x3299, 0x3299, 0x1f000, 0x1f1e5, 0x1f200, 0x1faff]
def spansL : List Span :=
  grp 1 [0xd, 0xd] ++ (grp 2 [0xa, 0xa] ++ (grp 3 gCtl ++ (grp 4 [0x200d, 0x200d] ++ (grp 5 gMark ++ (grp 6 gFlag ++ (grp 7 gL ++ (grp 8 gV ++ (grp 9 gT ++ (grp 11 [0xac00, 0xd7a3] ++ grp 12 gPic)))))))))
def inS (r : Int) (s : Span) : Bool := decide (s.1 ≤ r) && decide (r ≤ s.2.1)
def clsO (r : Int) : Option Span → Int
  | none => 0
  | some s => if s.2.2 = 11 ∧ (r - s.1) % 28 = 0 then 10 else s.2.2
/-- The class of a rune: by the first span that it is in. -/
def cls (r : Int) : Int := clsO r (spansL.find? (inS r))
/-- Is a rune in one of the ranges? -/
def inL (r : Int) : List Int → Bool
  | a :: b :: l => (decide (a ≤ r) && decide (r ≤ b)) || inL r l
  | _ => false
/-- The class as the reference finds it. -/
def rcls (r : Int) : Int :=
  if r = 0xd then 1 else if r = 0xa then 2 else if inL r gCtl = true then 3 else if r = 0x200d then 4 else if inL r gMark = true then 5 else if inL r gFlag = true then 6
  else if inL r gL = true then 7 else if inL r gV = true then 8 else if inL r gT = true then 9 else if 0xac00 ≤ r ∧ r ≤ 0xd7a3 then (if (r - 0xac00) % 28 = 0 then 10 else 11)
  else if inL r gPic = true then 12 else 0
theorem grp_find (c r : Int) : ∀ l, (inL r l = true → ∃ s, (grp c l).find? (inS r) = some s ∧ s.2.2 = c) ∧ (inL r l = false → (grp c l).find? (inS r) = none)
  | [] => ⟨by simp [inL], by simp [grp]⟩
  | [a] => ⟨by simp [inL], by simp [grp]⟩
  | a :: b :: l => by
    have ih := grp_find c r l
    unfold inL grp
    by_cases h : inS r (a, b, c) = true
    · rw [List.find?_cons_of_pos h]
      have h' : (decide (a ≤ r) && decide (r ≤ b)) = true := h
      rw [h']
      exact ⟨fun _ => ⟨_, rfl, rfl⟩, by simp⟩
    · rw [List.find?_cons_of_neg h]
      have h' : (decide (a ≤ r) && decide (r ≤ b)) = false := by simpa [inS] using h
      rw [h', Bool.false_or]
      exact ih
theorem find_grp {c r : Int} {l : List Int} {rest : List Span} : (grp c l ++ rest).find? (inS r) = if inL r l = true then (grp c l).find? (inS r) else rest.find? (inS r) := by
  rw [List.find?_append]
  obtain ⟨h1, h2⟩ := grp_find c r l
  cases h : inL r l
  · rw [h2 h]; simp
  · obtain ⟨s, hs, _⟩ := h1 h
    rw [hs]; simp
theorem cls_grp {c r : Int} {l : List Int} (hc : c ≠ 11) (h : inL r l = true) : clsO r ((grp c l).find? (inS r)) = c := by
  obtain ⟨s, hs, e⟩ := (grp_find c r l).1 h
  rw [hs]
  unfold clsO
  simp only
  rw [e, if_neg (by simp [hc])]
theorem inL_two (r a b : Int) : inL r [a, b] = (decide (a ≤ r) && decide (r ≤ b)) := by simp [inL]
theorem inL_pt (r a : Int) : (inL r [a, a] = true ↔ r = a) := by rw [inL_two]; simp; omega
theorem inL_ab (r a b : Int) : (inL r [a, b] = true ↔ a ≤ r ∧ r ≤ b) := by rw [inL_two]; simp
theorem cls_rcls (r : Int) : rcls r = cls r := by
  have key : ∀ {P : Prop} [Decidable P] {c : Int} {l : List Int} {rest : List Span} {x : Int}, c ≠ 11 → (inL r l = true ↔ P) → (¬ P → x = clsO r (rest.find? (inS r))) →
      (if P then c else x) = clsO r ((grp c l ++ rest).find? (inS r)) := by
    intro P _ c l rest x hc hP hx
    rw [find_grp]
    by_cases h : P
    · rw [if_pos h, if_pos (hP.2 h), cls_grp hc (hP.2 h)]
    · rw [if_neg h, if_neg (fun h' => h (hP.1 h')), hx h]
  unfold cls rcls spansL
  refine key (by decide) (inL_pt r _) fun _ => ?_
  refine key (by decide) (inL_pt r _) fun _ => ?_
  refine key (by decide) Iff.rfl fun _ => ?_
  refine key (by decide) (inL_pt r _) fun _ => ?_
  refine key (by decide) Iff.rfl fun _ => ?_
  refine key (by decide) Iff.rfl fun _ => ?_
  refine key (by decide) Iff.rfl fun _ => ?_
  refine key (by decide) Iff.rfl fun _ => ?_
  refine key (by decide) Iff.rfl fun _ => ?_
  rw [find_grp]
  by_cases h10 : 0xac00 ≤ r ∧ r ≤ 0xd7a3
  · rw [if_pos h10, if_pos ((inL_ab r _ _).2 h10)]
    have hf : (grp 11 [0xac00, 0xd7a3]).find? (inS r) = some (0xac00, 0xd7a3, 11) := by
      unfold grp
      exact List.find?_cons_of_pos (by simp [inS]; omega)
    rw [hf]
    unfold clsO
    simp
  rw [if_neg h10, if_neg (fun h => h10 ((inL_ab r _ _).1 h))]
  by_cases h11 : inL r gPic = true
  · rw [if_pos h11, cls_grp (by decide) h11]
  rw [if_neg h11]
  have := (grp_find 12 r gPic).2 (by simpa using h11)
  rw [this]
  rfl
theorem cls_bad : cls 65533 = 0 := by decide +kernel
theorem grp_cls (c : Int) : ∀ l, ∀ s ∈ grp c l, s.2.2 = c
  | [] => by simp [grp]
  | [a] => by simp [grp]
  | a :: b :: l => by
    intro s hs
    unfold grp at hs
    rcases List.mem_cons.1 hs with rfl | hs
    · rfl
    · exact grp_cls c l s hs
theorem cls_range (r : Int) : 0 ≤ cls r ∧ cls r ≤ 12 := by
  rw [← cls_rcls]; unfold rcls
  repeat' split
  all_goals omega

/-! ### breaks: by the classes ahead (the last one first) and the class behind -/
/-- Is there a picture behind which come marks alone? -/
def pic : List Int → Bool
  | [] => false
  | c :: l => if c = 5 then pic l else decide (c = 12)
/-- Flag letters at the end. -/
def flg : List Int → Nat
  | [] => 0
  | c :: l => if c = 6 then flg l + 1 else 0
def hardC (c : Int) : Prop := c = 1 ∨ c = 2 ∨ c = 3
instance (c : Int) : Decidable (hardC c) := by unfold hardC; infer_instance
/-- Is there a break behind the runes of these classes (the last one first), ahead of a rune of class b? -/
def bt : List Int → Int → Bool
  | [], _ => true
  | a :: l, b =>
    if a = 1 ∧ b = 2 then false else if hardC a ∨ hardC b then true
    else if a = 7 ∧ (b = 7 ∨ b = 8 ∨ b = 10 ∨ b = 11) then false
    else if (a = 10 ∨ a = 8) ∧ (b = 8 ∨ b = 9) then false
    else if (a = 11 ∨ a = 9) ∧ b = 9 then false
    else if b = 5 ∨ b = 4 then false
    else if a = 4 ∧ b = 12 ∧ pic l = true then false
    else if a = 6 ∧ b = 6 ∧ flg (a :: l) % 2 = 1 then false
    else true

/-- The class of the piece at a place. -/
def clsAt (s : ByteArray) (i : Nat) : Int := cls (dec s i).1
/-- The classes of pieces, the last one first. -/
def ctx (s : ByteArray) (l : List Nat) : List Int := (l.map (clsAt s)).reverse
theorem ctx_snoc (s : ByteArray) (l : List Nat) (i : Nat) : ctx s (l ++ [i]) = clsAt s i :: ctx s l := by simp [ctx]
end Go.Proofs.Ytodbjehggkdjaaa
namespace Go.Proofs.Ytodbjehggkdjaaa
open Go.RowKit
set_option linter.unusedVariables false
set_option linter.unusedSimpArgs false

def spanCells (l : List Span) : List Value := l.flatMap fun s => [.int .i32 s.1, .int .i32 s.2.1, .int .i64 s.2.2]
theorem span_at : ∀ (l : List Span) (k : Nat) (s : Span), l[k]? = some s → (spanCells l)[k * 3]? = some (.int .i32 s.1) ∧ (spanCells l)[k * 3 + 1]? = some (.int .i32 s.2.1) ∧ (spanCells l)[k * 3 + 2]? = some (.int .i64 s.2.2)
  | [], k, s, h => by simp at h
  | x :: l, 0, s, h => by
    simp at h; subst h
    simp [spanCells]
  | x :: l, k + 1, s, h => by
    have ih := span_at l k s (by simpa using h)
    have e : spanCells (x :: l) = [.int .i32 x.1, .int .i32 x.2.1, .int .i64 x.2.2] ++ spanCells l := by simp [spanCells]
    rw [e, show (k + 1) * 3 = k * 3 + 3 by omega, show k * 3 + 3 + 1 = k * 3 + 1 + 3 by omega, show k * 3 + 3 + 2 = k * 3 + 2 + 3 by omega]
    rw [List.getElem?_append_right (by simp), List.getElem?_append_right (by simp), List.getElem?_append_right (by simp)]
    simpa using ih
theorem spans_low : ∀ s ∈ spansL, 0 ≤ s.1 ∧ s.1 ≤ 2097152 ∧ 0 ≤ s.2.1 ∧ s.2.1 ≤ 2097152 ∧ 0 ≤ s.2.2 ∧ s.2.2 ≤ 12 := by decide +kernel

set_option maxRecDepth 100000 in
set_option maxHeartbeats 8000000 in
theorem spans_any (w : World) : Calls Try.prog 65 #[] w fun e w' => e = .returned (.slice (some ⟨w.heap.size, 0, none⟩) 45 45) ∧ w' = w.alloc (.cells (spanCells spansL).toArray 102) := by
  go_enter Try.func65, Try.ntmps65
  go_wp2
  go_ret
  exact ⟨rfl, rfl⟩

end Go.Proofs.Ytodbjehggkdjaaa
namespace Go.Proofs.Ytodbjehggkdjaaa
open Go.RowKit
set_option linter.unusedVariables false
set_option linter.unusedSimpArgs false

set_option maxRecDepth 100000 in
set_option maxHeartbeats 8000000 in
theorem class_any (r : Int) (w : World) (hr0 : -2147483648 ≤ r) (hr1 : r ≤ 2147483647) :
    Calls Try.prog 56 #[.int .i32 r] w fun e w' => e = .returned (.int .i64 (cls r)) ∧ Keep [] w w' := by
  have HC : Hid (cls r = clsO r (spansL.find? (inS r))) := Lib.hid rfl
  have HL := Lib.hid spans_low
  have HCELL : Hid (∀ (k : Nat) (s : Span), spansL[k]? = some s → (w.alloc (.cells (spanCells spansL).toArray 102)).cell? ⟨w.heap.size, k * 3, none⟩ = some (.int .i32 s.1) ∧
      (w.alloc (.cells (spanCells spansL).toArray 102)).cell? ⟨w.heap.size, k * 3 + 1, none⟩ = some (.int .i32 s.2.1) ∧ (w.alloc (.cells (spanCells spansL).toArray 102)).cell? ⟨w.heap.size, k * 3 + 2, none⟩ = some (.int .i64 s.2.2)) := by
    refine Lib.hid fun k s hs => ?_
    obtain ⟨h0, h1, h2⟩ := span_at _ _ _ hs
    have hb := heap_alloc_new w (.cells (spanCells spansL).toArray 102)
    rw [cell_of_block hb, cell_of_block hb, cell_of_block hb]
    simpa using ⟨h0, h1, h2⟩
  have HLEN : Hid (spansL.length = 45) := Lib.hid (by decide +kernel)
  have hka : Keep [] w (w.alloc (.cells (spanCells spansL).toArray 102)) := (Keep.refl _ _).alloc _
  have HKA := Lib.hid hka; clear hka
  go_enter Try.func56, Try.ntmps56
  go_wp2
  go_step3
  go_wp2
  go_step3
  go_wp2_with fail
  refine (spans_any w).mono ?_
  rintro e w1 ⟨rfl, hw1⟩
  rw [← hw1] at HCELL HKA
  clear hw1
  generalize w.heap.size = b at *
  go_wp2
  go_loopw [3, 8] (fun c i W => ∃ k : Nat, k ≤ 45 ∧ c = .int .i64 0 ∧ i = .int .i64 k ∧ Keep [] w1 W ∧ ∀ j s, j < k → spansL[j]? = some s → inS r s = false) (fun _ i _ => 45 - (intOf i).toNat)
  case atStart => exact ⟨0, by omega, rfl, rfl, Keep.refl _ _, fun j s h => by omega⟩
  case round =>
    obtain ⟨k, hk, rfl, rfl, hkp, hno⟩ := hrel
    have HK := Lib.hid hkp; have HN := Lib.hid hno; clear hkp hno
    by_cases hlt : k < 45
    · have hltd : decide ((k : Int) < 45) = true := by simp; omega
      obtain ⟨s, hs⟩ : ∃ s, spansL[k]? = some s := ⟨_, List.getElem?_eq_getElem (by rw [HLEN.out]; exact hlt)⟩
      obtain ⟨hc0, hc1, hc2⟩ := HCELL.out k s hs
      have d0 := HK.out.cellv hc0 (by simp)
      have d1 := HK.out.cellv hc1 (by simp)
      have d2 := HK.out.cellv hc2 (by simp)
      obtain ⟨b0, b1, b2, b3, b4, b5⟩ := HL.out s (List.mem_of_getElem? hs)
      have HS := Lib.hid hs
      clear hc0 hc1 hc2 hs
      obtain ⟨f, t, c⟩ := s
      simp only at d0 d1 d2 b0 b1 b2 b3 b4 b5
      have hin : Hid (inS r (f, t, c) = (decide (f ≤ r) && decide (r ≤ t))) := Lib.hid rfl
      have hgo : inS r (f, t, c) = false → Hid (∀ j s, j < k + 1 → spansL[j]? = some s → inS r s = false) := fun h => Lib.hid fun j s hj hs => by
        by_cases hjk : j = k
        · subst hjk; rw [HS.out] at hs; cases hs; exact h
        · exact HN.out j s (by omega) hs
      have hhit : inS r (f, t, c) = true → Hid (cls r = if c = 11 ∧ (r - f) % 28 = 0 then 10 else c) := fun h => Lib.hid <| by
        rw [HC.out, List.find?_eq_some_iff_getElem.2 ⟨h, k, by rw [HLEN.out]; exact hlt, by have := HS.out; rw [List.getElem?_eq_getElem (by rw [HLEN.out]; exact hlt)] at this; exact Option.some.inj this, fun j hj => by
          have := HN.out j _ hj (List.getElem?_eq_getElem (by rw [HLEN.out]; omega))
          simp [this]⟩]
        rfl
      by_cases h1 : r < f
      · have HG := hgo (by rw [hin.out]; simp; omega)
        clear hgo hhit
        have h1d : decide (r < f) = true := by simpa using h1
        go_wp2
        exact ⟨⟨k + 1, by omega, rfl, by go_num, HK.out.alloc _, HG.out⟩, by simp [intOf]; omega⟩
      · have h1d : decide (r < f) = false := by simpa using h1
        by_cases h2 : t < r
        · have HG := hgo (by rw [hin.out]; simp; omega)
          clear hgo hhit
          have h2d : decide (t < r) = true := by simpa using h2
          go_wp2
          exact ⟨⟨k + 1, by omega, rfl, by go_num, HK.out.alloc _, HG.out⟩, by simp [intOf]; omega⟩
        · have h2d : decide (t < r) = false := by simpa using h2
          have HH := hhit (by rw [hin.out]; simp; omega)
          clear hgo hhit
          by_cases h3 : c = 11
          · have h3d : (c == 11) = true := by simpa using h3
            by_cases h4 : (r - f) % 28 = 0
            · have h4d : ((r - f) % 28 == 0) = true := by simpa using h4
              have HR : Hid (cls r = 10) := Lib.hid (by rw [HH.out, if_pos ⟨h3, h4⟩])
              subst h3
              go_wp2
              go_ret
              exact ⟨by rw [HR.out]; rfl, HKA.out.trans0 (HK.out.alloc _)⟩
            · have h4d : ((r - f) % 28 == 0) = false := by simpa using h4
              have HR : Hid (cls r = c) := Lib.hid (by rw [HH.out, if_neg (fun h => h4 h.2)])
              subst h3
              go_wp2
              go_ret
              exact ⟨by rw [HR.out]; rfl, HKA.out.trans0 (HK.out.alloc _)⟩
          · have h3d : (c == 11) = false := by simpa using h3
            have HR : Hid (cls r = c) := Lib.hid (by rw [HH.out, if_neg (fun h => h3 h.1)])
            go_wp2
            go_ret
            exact ⟨by rw [HR.out]; rfl, HKA.out.trans0 (HK.out.alloc _)⟩
    · have hltd : decide ((k : Int) < 45) = false := by simp; omega
      have HR : Hid (cls r = 0) := Lib.hid (by
        rw [HC.out, List.find?_eq_none.2 (fun s hs => by
          obtain ⟨j, hj, rfl⟩ := List.mem_iff_getElem.1 hs
          rw [HN.out j _ (by have := HLEN.out; omega) (List.getElem?_eq_getElem hj)]; simp)]
        rfl)
      go_wp2
      rw [Exit.noGoto_ret]
      go_ret
      exact ⟨by rw [HR.out]; rfl, HKA.out.trans0 HK.out⟩
end Go.Proofs.Ytodbjehggkdjaaa
namespace Go.Proofs.Ytodbjehggkdjaaa
set_option linter.unusedVariables false
set_option linter.unusedSimpArgs false

/-! ### parts of texts -/
theorem RuneAt.move {s t : ByteArray} {i j r n : Nat} (h : RuneAt s i r n) (hj : j + n ≤ t.size) (hb : ∀ k, k < n → byt t (j + k) = byt s (i + k)) : RuneAt t j r n := by
  obtain ⟨hs, h⟩ := h
  refine ⟨hj, ?_⟩
  have e0 := hb 0
  have e1 := hb 1
  have e2 := hb 2
  have e3 := hb 3
  simp only [Nat.add_zero] at e0
  rcases h with ⟨rfl, h1, h2⟩ | ⟨rfl, h1, h2, h3, h4⟩ | ⟨rfl, h1, h2, h3, h4, h5, h6, h7⟩ | ⟨rfl, h1, h2, h3, h4, h5, h6, h7, h8⟩
  · rw [e0 (by omega)]; exact .inl ⟨rfl, h1, h2⟩
  · rw [e0 (by omega), e1 (by omega)]; exact .inr (.inl ⟨rfl, h1, h2, h3, h4⟩)
  · rw [e0 (by omega), e1 (by omega), e2 (by omega)]; exact .inr (.inr (.inl ⟨rfl, h1, h2, h3, h4, h5, h6, h7⟩))
  · rw [e0 (by omega), e1 (by omega), e2 (by omega), e3 (by omega)]; exact .inr (.inr (.inr ⟨rfl, h1, h2, h3, h4, h5, h6, h7, h8⟩))
/-- Where two texts agree on the bytes of a piece, and where no rune of the one leaps over what they share. -/
theorem dec_same {s t : ByteArray} {i j m : Nat} (hi : i < s.size) (hj : j < t.size) (hm : (dec s i).2 ≤ m) (hs : i + m ≤ s.size) (ht : j + m ≤ t.size) (hb : ∀ k, k < m → byt t (j + k) = byt s (i + k))
    (hno : j + wid t j ≤ j + m) : dec t j = dec s i := by
  rcases rune_or s i hi with hr | ⟨hd, hw⟩
  · have h2 := hr.move (t := t) (j := j) (by omega) (fun k hk => hb k (by omega))
    rw [h2.dec]
  · rw [hd]
    rcases rune_or t j hj with hr | ⟨hd', _⟩
    · have h4 := hr.n4
      have hw2 := hr.wid
      rw [hw2] at hno
      have h2 := hr.move (t := s) (j := i) (by omega) (fun k hk => (hb k (by omega)).symm)
      have := h2.wid
      omega
    · exact hd'
theorem dec_pre {s : ByteArray} {i p : Nat} (hi : i + (dec s i).2 ≤ p) (hp : p ≤ s.size) (h0 : i < s.size) : dec (s.extract 0 p) i = dec s i := by
  have hn := dec_n h0
  have hz := size_ext s 0 p hp
  refine dec_same (m := p - i) h0 (by omega) (by omega) (by omega) (by omega) (fun k hk => ?_) ?_
  · rw [byt_extract s 0 p _ (by omega) hp, Nat.zero_add]
  · have := wid_n (s := s.extract 0 p) (i := i) (by omega)
    omega
theorem at_pre {s : ByteArray} {l : List Nat} {i p : Nat} (h : At s l i) (hi : i ≤ p) (hp : p ≤ s.size) : At (s.extract 0 p) l i := by
  induction h with
  | zero => exact .zero
  | @step l i h h0 ih =>
    have hn := dec_n h0
    have hd := dec_pre hi hp h0
    have h2 := (ih (by omega)).step (by rw [size_ext _ _ _ hp]; omega)
    rwa [hd] at h2
theorem cut_pre {s : ByteArray} {l : List Nat} {p : Nat} (h : At s l p) : cut (s.extract 0 p) 0 = l := by
  have hp := h.le
  have h2 := at_pre h (Nat.le_refl _) hp
  exact (h2.done (by rw [size_ext _ _ _ hp]; omega)).1.symm
theorem At.uniq {s : ByteArray} {l l' : List Nat} {p : Nat} (h : At s l p) (h' : At s l' p) : l = l' := (cut_pre h).symm.trans (cut_pre h')
theorem At.dec_lt {s : ByteArray} {l : List Nat} {p : Nat} (h : At s l p) : ∀ j ∈ l, j < s.size ∧ j + (dec s j).2 ≤ p := by
  induction h with
  | zero => simp
  | @step l i h h0 ih =>
    have hn := dec_n h0
    intro j hj
    rcases List.mem_append.1 hj with hj | hj
    · have := ih j hj; omega
    · simp at hj; subst hj; exact ⟨h0, Nat.le_refl _⟩
theorem dec_suf (s : ByteArray) (p j : Nat) (hp : p ≤ s.size) : dec (s.extract p s.size) j = dec s (p + j) := by
  unfold dec
  rw [size_tail s p hp, byt_tail, byt_tail, byt_tail, byt_tail]
  rw [show s.size - p - j = s.size - (p + j) by omega]
  rfl
theorem cut_suf (s : ByteArray) (p : Nat) (hp : p ≤ s.size) : ∀ n j, s.size - p - j ≤ n → (cut (s.extract p s.size) j).map (p + ·) = cut s (p + j) := by
  intro n
  induction n with
  | zero => intro j hj; rw [cut_end (by rw [size_tail s p hp]; omega), cut_end (by omega)]; rfl
  | succ n ih =>
    intro j hj
    by_cases hlt : p + j < s.size
    · have hn := dec_n hlt
      rw [cut_step (by rw [size_tail s p hp]; omega), cut_step hlt, List.map_cons, dec_suf s p j hp, ih _ (by omega), Nat.add_assoc]
    · rw [cut_end (by rw [size_tail s p hp]; omega), cut_end hlt]; rfl
/-- The piece in which a byte lies. -/
theorem at_floor (s : ByteArray) (p : Nat) (hp : p ≤ s.size) : ∃ l i, At s l i ∧ i ≤ p ∧ (i = p ∨ (i < s.size ∧ p < i + (dec s i).2)) := by
  induction p with
  | zero => exact ⟨[], 0, .zero, Nat.le_refl _, .inl rfl⟩
  | succ p ih =>
    obtain ⟨l, i, h, hi, hc⟩ := ih (by omega)
    rcases hc with rfl | ⟨h0, hlt⟩
    · have h0 : i < s.size := by omega
      have hn := dec_n h0
      by_cases h1 : (dec s i).2 = 1
      · exact ⟨_, _, h.step h0, by omega, .inl (by omega)⟩
      · exact ⟨l, i, h, by omega, .inr ⟨h0, by omega⟩⟩
    · by_cases h1 : i + (dec s i).2 = p + 1
      · exact ⟨_, _, h.step h0, by omega, .inl h1⟩
      · exact ⟨l, i, h, by omega, .inr ⟨h0, by omega⟩⟩
/-- Where a piece begins: no rune leaps over it. -/
theorem at_iff (s : ByteArray) (p : Nat) (hp : p ≤ s.size) : (∃ l, At s l p) ↔ ∀ j, p ≤ j + 3 → j < p → j + wid s j ≤ p := by
  constructor
  · rintro ⟨l, h⟩ j _ hj
    exact h.over j hj
  · intro h
    obtain ⟨l, i, ha, hi, hc⟩ := at_floor s p hp
    by_cases hip : i = p
    · subst hip; exact ⟨l, ha⟩
    · obtain ⟨h0, hlt⟩ := hc.resolve_left hip
      have hn := dec_n h0
      have hw : wid s i = (dec s i).2 := by
        rcases rune_or s i h0 with hr | ⟨hd, _⟩
        · exact hr.wid
        · rw [hd] at hlt; simp at hlt; omega
      have := h i (by omega) (by omega)
      omega
theorem mem_cut {s : ByteArray} {p : Nat} : p ∈ cut s 0 ↔ (∃ l, At s l p) ∧ p < s.size := by
  constructor
  · intro h
    obtain ⟨k, hk, rfl⟩ := List.mem_iff_getElem.1 h
    obtain ⟨h1, h2⟩ := at_get s k hk
    exact ⟨⟨_, h1⟩, h2⟩
  · rintro ⟨⟨l, h⟩, hp⟩
    exact List.mem_of_getElem? (h.get hp)

/-! ### breaks -/
/-- The classes of a text's pieces, the last one first. -/
def ctxA (t : ByteArray) : List Int := ctx t (cut t 0)
/-- Is there a break ahead of the piece at a place? -/
def isb (s : ByteArray) (p : Nat) : Bool := bt (ctxA (s.extract 0 p)) (clsAt s p)
/-- All breaks of a text, rising. -/
def brk (s : ByteArray) : List Nat := if s.size = 0 then [0] else (cut s 0).filter (isb s) ++ [s.size]
theorem ctx_pre {s : ByteArray} {l : List Nat} {p : Nat} (h : At s l p) : ctxA (s.extract 0 p) = ctx s l := by
  unfold ctxA
  rw [cut_pre h]
  unfold ctx
  refine congrArg List.reverse (List.map_congr_left fun j hj => ?_)
  have := h.dec_lt j hj
  unfold clsAt
  rw [dec_pre this.2 h.le this.1]
theorem isb_at {s : ByteArray} {l : List Nat} {p : Nat} (h : At s l p) : isb s p = bt (ctx s l) (clsAt s p) := by unfold isb; rw [ctx_pre h]
theorem isb_zero (s : ByteArray) : isb s 0 = true := by rw [isb_at .zero]; simp [ctx, bt]
theorem cut_sorted (s : ByteArray) : ∀ n i, s.size - i ≤ n → (cut s i).Pairwise (· < ·) ∧ ∀ p ∈ cut s i, i ≤ p ∧ p < s.size := by
  intro n
  induction n with
  | zero => intro i hi; rw [cut_end (by omega)]; simp
  | succ n ih =>
    intro i hi
    by_cases hlt : i < s.size
    · have hn := dec_n hlt
      obtain ⟨h1, h2⟩ := ih (i + (dec s i).2) (by omega)
      rw [cut_step hlt]
      refine ⟨List.pairwise_cons.2 ⟨fun p hp => by have := h2 p hp; omega, h1⟩, fun p hp => ?_⟩
      rcases List.mem_cons.1 hp with rfl | hp
      · exact ⟨Nat.le_refl _, hlt⟩
      · have := h2 p hp; omega
    · rw [cut_end hlt]; simp
theorem brk_sorted (s : ByteArray) : (brk s).Pairwise (· < ·) := by
  unfold brk
  split
  · simp
  · obtain ⟨h1, h2⟩ := cut_sorted s s.size 0 (by omega)
    refine List.pairwise_append.2 ⟨h1.filter _, by simp, fun a ha b hb => ?_⟩
    simp at hb; subst hb
    exact (h2 a (List.mem_filter.1 ha).1).2
theorem mem_brk {s : ByteArray} {p : Nat} : p ∈ brk s ↔ p = 0 ∨ p = s.size ∨ (p < s.size ∧ ∃ l, At s l p ∧ bt (ctx s l) (clsAt s p) = true) := by
  unfold brk
  split
  · rename_i h
    simp only [List.mem_singleton]
    constructor
    · intro h; exact .inl h
    · rintro (h | h | ⟨h, _⟩) <;> omega
  · rename_i h
    rw [List.mem_append, List.mem_filter, mem_cut, List.mem_singleton]
    constructor
    · rintro (⟨⟨⟨l, h1⟩, h2⟩, h3⟩ | h1)
      · exact .inr (.inr ⟨h2, l, h1, by rw [← isb_at h1]; exact h3⟩)
      · exact .inr (.inl h1)
    · rintro (rfl | h1 | ⟨h2, l, h1, h3⟩)
      · exact .inl ⟨⟨⟨[], .zero⟩, by omega⟩, isb_zero s⟩
      · exact .inr h1
      · exact .inl ⟨⟨⟨l, h1⟩, h2⟩, by rw [isb_at h1]; exact h3⟩
theorem brk_le {s : ByteArray} {p : Nat} (h : p ∈ brk s) : p ≤ s.size := by
  rcases mem_brk.1 h with h | h | ⟨h, _⟩ <;> omega
theorem brk_zero (s : ByteArray) : 0 ∈ brk s := mem_brk.2 (.inl rfl)
theorem brk_size (s : ByteArray) : s.size ∈ brk s := mem_brk.2 (.inr (.inl rfl))

/-! ### Next, Prev -/
def nxtB (s : ByteArray) (at_ : Int) : Nat := ((brk s).find? (fun p : Nat => decide (at_ < (p : Int)))).getD s.size
def prvB (s : ByteArray) (at_ : Int) : Nat := ((brk s).reverse.find? (fun p : Nat => decide ((p : Int) < at_))).getD 0
theorem find_sorted {l : List Nat} {f : Nat → Bool} (h : l.Pairwise (· < ·)) {p : Nat} (hp : p ∈ l) (hf : f p = true) (hm : ∀ q ∈ l, f q = true → p ≤ q) : l.find? f = some p := by
  induction l with
  | nil => simp at hp
  | cons a l ih =>
    obtain ⟨h1, h2⟩ := List.pairwise_cons.1 h
    by_cases ha : f a = true
    · rw [List.find?_cons_of_pos ha]
      have := hm a (by simp) ha
      rcases List.mem_cons.1 hp with rfl | hp
      · rfl
      · have := h1 p hp; omega
    · rw [List.find?_cons_of_neg ha]
      rcases List.mem_cons.1 hp with rfl | hp
      · exact absurd hf ha
      · exact ih h2 hp (fun q hq => hm q (by simp [hq]))
theorem find_sorted_rev {l : List Nat} {f : Nat → Bool} (h : l.Pairwise (· > ·)) {p : Nat} (hp : p ∈ l) (hf : f p = true) (hm : ∀ q ∈ l, f q = true → q ≤ p) : l.find? f = some p := by
  induction l with
  | nil => simp at hp
  | cons a l ih =>
    obtain ⟨h1, h2⟩ := List.pairwise_cons.1 h
    by_cases ha : f a = true
    · rw [List.find?_cons_of_pos ha]
      have := hm a (by simp) ha
      rcases List.mem_cons.1 hp with rfl | hp
      · rfl
      · have := h1 p hp; omega
    · rw [List.find?_cons_of_neg ha]
      rcases List.mem_cons.1 hp with rfl | hp
      · exact absurd hf ha
      · exact ih h2 hp (fun q hq => hm q (by simp [hq]))
theorem nxt_is {s : ByteArray} {a : Int} {p : Nat} (hp : p ∈ brk s) (ha : a < p) (hm : ∀ q ∈ brk s, a < (q : Int) → p ≤ q) : nxtB s a = p := by
  unfold nxtB
  rw [find_sorted (brk_sorted s) hp (by simpa using ha) (fun q hq h => hm q hq (by simpa using h))]; rfl
theorem nxt_end {s : ByteArray} {a : Int} (h : (s.size : Int) ≤ a) : nxtB s a = s.size := by
  unfold nxtB
  rw [List.find?_eq_none.2 (fun q hq => by have := brk_le hq; simp; omega)]; rfl
theorem prv_is {s : ByteArray} {a : Int} {p : Nat} (hp : p ∈ brk s) (ha : (p : Int) < a) (hm : ∀ q ∈ brk s, (q : Int) < a → q ≤ p) : prvB s a = p := by
  unfold prvB
  rw [find_sorted_rev (List.pairwise_reverse.2 (brk_sorted s)) (by simpa using hp) (by simpa using ha) (fun q hq h => hm q (by simpa using hq) (by simpa using h))]; rfl
theorem prv_start {s : ByteArray} {a : Int} (h : a ≤ 0) : prvB s a = 0 := by
  unfold prvB
  rw [List.find?_eq_none.2 (fun q hq => by simp; omega)]; rfl

/-! ### the clumps -/
/-- Neighbours. -/
def prs : List Nat → List (Nat × Nat)
  | a :: b :: l => (a, b) :: prs (b :: l)
  | _ => []
theorem prs_len : ∀ l : List Nat, (prs l).length = l.length - 1
  | [] => rfl
  | [a] => rfl
  | a :: b :: l => by simp [prs, prs_len (b :: l)]
theorem prs_get : ∀ (l : List Nat) (k a b : Nat), l[k]? = some a → l[k + 1]? = some b → (prs l)[k]? = some (a, b)
  | [], k, a, b, h, _ => by simp at h
  | [x], k, a, b, _, h => by simp at h
  | x :: y :: l, 0, a, b, h, h' => by simp at h h'; subst h; subst h'; rfl
  | x :: y :: l, k + 1, a, b, h, h' => by
    have := prs_get (y :: l) k a b (by simpa using h) (by simpa using h')
    simpa [prs] using this
/-- The clumps of a text: from where to where. -/
def clumps (s : ByteArray) : List (Nat × Nat) := prs (brk s)
end Go.Proofs.Ytodbjehggkdjaaa
