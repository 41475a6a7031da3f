/-
  Clumps: classes of runes, breaks between them: plain.
-/
import Derived.Test.YthbcancckogloaaGlyV
namespace Go.Proofs.Ythbcancckogloaa
set_option linter.unusedVariables false
set_option linter.unusedSimpArgs false

/-! ### classes -/
abbrev Span := Int × Int × Int
/-- Spans of one class, from and to by turns. -/
def grp (c : Int) : List Int → List Span
  | a :: b :: l => (a, b, c) :: grp c l
  | _ => []
def gCtl : List Int := [0, 0x1f, 0x7f, 0x9f, 0x2028, 0x2029]
def gMark : List Int := [0x300, 0x36f, 0x483, 0x489, 0x591, 0x5bd, 0x64b, 0x65f, 0x1ab0, 0x1aff, 0x1dc0, 0x1dff, 0x200c, 0x200c, 0x20d0, 0x20ff, 0x302a, 0x302f, 0x3099, 0x309a, 0xfe00, 0xfe0f, 0xfe20, 0xfe2f, 0x1f3fb, 0x1f3ff, 0xe0020, 0xe007f, 0xe0100, 0xe01ef]
def gFlag : List Int := [0x1f1e6, 0x1f1ff]
def gL : List Int := [0x1100, 0x115f, 0xa960, 0xa97c]
def gV : List Int := [0x1160, 0x11a7, 0xd7b0, 0xd7c6]
def gT : List Int := [0x11a8, 0x11ff, 0xd7cb, 0xd7fb]
def gPic : List Int := [0xa9, 0xa9, 0xae, 0xae, 0x203c, 0x203c, 0x2049, 0x2049, 0x2122, 0x2122, 0x2139, 0x2139, 0x2190, 0x21ff, 0x2300, 0x23ff, 0x2600, 0x27bf, 0x2b00, 0x2bff, 0x3030, 0x3030, 0x303d, 0x303d, 0x3297, 0x3297, 0x3299, 0x3299, 0x1f000, 0x1f1e5, 0x1f200, 0x1faff]
def spansL : List Span :=
  grp 1 [0xd, 0xd] ++ (grp 2 [0xa, 0xa] ++ (grp 3 gCtl ++ (grp 4 [0x200d, 0x200d] ++ (grp 5 gMark ++ (grp 6 gFlag ++ (grp 7 gL ++ (grp 8 gV ++ (grp 9 gT ++ (grp 11 [0xac00, 0xd7a3] ++ grp 12 gPic)))))))))
def inS (r : Int) (s : Span) : Bool := decide (s.1 ≤ r) && decide (r ≤ s.2.1)
def clsO (r : Int) : Option Span → Int
  | none => 0
  | some s => if s.2.2 = 11 ∧ (r - s.1) % 28 = 0 then 10 else s.2.2
/-- The class of a rune: by the first span that it is in. -/
def cls (r : Int) : Int := clsO r (spansL.find? (inS r))
/-- Is a rune in one of the ranges? -/
def inL (r : Int) : List Int → Bool
  | a :: b :: l => (decide (a ≤ r) && decide (r ≤ b)) || inL r l
  | _ => false
/-- The class as the reference finds it. -/
def rcls (r : Int) : Int :=
  if r = 0xd then 1 else if r = 0xa then 2 else if inL r gCtl = true then 3 else if r = 0x200d then 4 else if inL r gMark = true then 5 else if inL r gFlag = true then 6
  else if inL r gL = true then 7 else if inL r gV = true then 8 else if inL r gT = true then 9 else if 0xac00 ≤ r ∧ r ≤ 0xd7a3 then (if (r - 0xac00) % 28 = 0 then 10 else 11)
  else if inL r gPic = true then 12 else 0
theorem grp_find (c r : Int) : ∀ l, (inL r l = true → ∃ s, (grp c l).find? (inS r) = some s ∧ s.2.2 = c) ∧ (inL r l = false → (grp c l).find? (inS r) = none)
  | [] => ⟨by simp [inL], by simp [grp]⟩
  | [a] => ⟨by simp [inL], by simp [grp]⟩
  | a :: b :: l => by
    have ih := grp_find c r l
    unfold inL grp
    by_cases h : inS r (a, b, c) = true
    · rw [List.find?_cons_of_pos h]
      have h' : (decide (a ≤ r) && decide (r ≤ b)) = true := h
      rw [h']
      exact ⟨fun _ => ⟨_, rfl, rfl⟩, by simp⟩
    · rw [List.find?_cons_of_neg h]
      have h' : (decide (a ≤ r) && decide (r ≤ b)) = false := by simpa [inS] using h
      rw [h', Bool.false_or]
      exact ih
theorem find_grp {c r : Int} {l : List Int} {rest : List Span} : (grp c l ++ rest).find? (inS r) = if inL r l = true then (grp c l).find? (inS r) else rest.find? (inS r) := by
  rw [List.find?_append]
  obtain ⟨h1, h2⟩ := grp_find c r l
  cases h : inL r l
  · rw [h2 h]; simp
  · obtain ⟨s, hs, _⟩ := h1 h
    rw [hs]; simp
theorem cls_grp {c r : Int} {l : List Int} (hc : c ≠ 11) (h : inL r l = true) : clsO r ((grp c l).find? (inS r)) = c := by
  obtain ⟨s, hs, e⟩ := (grp_find c r l).1 h
  rw [hs]
  unfold clsO
  simp only
  rw [e, if_neg (by simp [hc])]
theorem inL_two (r a b : Int) : inL r [a, b] = (decide (a ≤ r) && decide (r ≤ b)) := by simp [inL]
theorem inL_pt (r a : Int) : (inL r [a, a] = true ↔ r = a) := by rw [inL_two]; simp; omega
theorem inL_ab (r a b : Int) : (inL r [a, b] = true ↔ a ≤ r ∧ r ≤ b) := by rw [inL_two]; simp
theorem cls_rcls (r : Int) : rcls r = cls r := by
  have key : ∀ {P : Prop} [Decidable P] {c : Int} {l : List Int} {rest : List Span} {x : Int}, c ≠ 11 → (inL r l = true ↔ P) → (¬ P → x = clsO r (rest.find? (inS r))) →
      (if P then c else x) = clsO r ((grp c l ++ rest).find? (inS r)) := by
    intro P _ c l rest x hc hP hx
    rw [find_grp]
    by_cases h : P
    · rw [if_pos h, if_pos (hP.2 h), cls_grp hc (hP.2 h)]
    · rw [if_neg h, if_neg (fun h' => h (hP.1 h')), hx h]
  unfold cls rcls spansL
  refine key (by decide) (inL_pt r _) fun _ => ?_
  refine key (by decide) (inL_pt r _) fun _ => ?_
  refine key (by decide) Iff.rfl fun _ => ?_
  refine key (by decide) (inL_pt r _) fun _ => ?_
  refine key (by decide) Iff.rfl fun _ => ?_
  refine key (by decide) Iff.rfl fun _ => ?_
  refine key (by decide) Iff.rfl fun _ => ?_
  refine key (by decide) Iff.rfl fun _ => ?_
  refine key (by decide) Iff.rfl fun _ => ?_
  rw [find_grp]
  by_cases h10 : 0xac00 ≤ r ∧ r ≤ 0xd7a3
  · rw [if_pos h10, if_pos ((inL_ab r _ _).2 h10)]
    have hf : (grp 11 [0xac00, 0xd7a3]).find? (inS r) = some (0xac00, 0xd7a3, 11) := by
      unfold grp
      exact List.find?_cons_of_pos (by simp [inS]; omega)
    rw [hf]
    unfold clsO
    simp
  rw [if_neg h10, if_neg (fun h => h10 ((inL_ab r _ _).1 h))]
  by_cases h11 : inL r gPic = true
  · rw [if_pos h11, cls_grp (by decide) h11]
  rw [if_neg h11]
  have := (grp_find 12 r gPic).2 (by simpa using h11)
  rw [this]
  rfl
theorem cls_bad : cls 65533 = 0 := by decide +kernel
theorem grp_cls (c : Int) : ∀ l, ∀ s ∈ grp c l, s.2.2 = c
  | [] => by simp [grp]
  | [a] => by simp [grp]
  | a :: b :: l => by
    intro s hs
    unfold grp at hs
    rcases List.mem_cons.1 hs with rfl | hs
    · rfl
    · exact grp_cls c l s hs
theorem cls_range (r : Int) : 0 ≤ cls r ∧ cls r ≤ 12 := by
  rw [← cls_rcls]; unfold rcls
  repeat' split
  all_goals omega

/-! ### breaks: by the classes ahead (the last one first) and the class behind -/
/-- Is there a picture behind which come marks alone? -/
def pic : List Int → Bool
  | [] => false
  | c :: l => if c = 5 then pic l else decide (c = 12)
/-- Flag letters at the end. -/
def flg : List Int → Nat
  | [] => 0
  | c :: l => if c = 6 then flg l + 1 else 0
def hardC (c : Int) : Prop := c = 1 ∨ c = 2 ∨ c = 3
instance (c : Int) : Decidable (hardC c) := by unfold hardC; infer_instance
/-- Is there a break behind the runes of these classes (the last one first), ahead of a rune of class b? -/
def bt : List Int → Int → Bool
  | [], _ => true
  | a :: l, b =>
    if a = 1 ∧ b = 2 then false else if hardC a ∨ hardC b then true
    else if a = 7 ∧ (b = 7 ∨ b = 8 ∨ b = 10 ∨ b = 11) then false
    else if (a = 10 ∨ a = 8) ∧ (b = 8 ∨ b = 9) then false
    else if (a = 11 ∨ a = 9) ∧ b = 9 then false
    else if b = 5 ∨ b = 4 then false
    else if a = 4 ∧ b = 12 ∧ pic l = true then false
    else if a = 6 ∧ b = 6 ∧ flg (a :: l) % 2 = 1 then false
    else true

/-- The class of the piece at a place. -/
def clsAt (s : ByteArray) (i : Nat) : Int := cls (dec s i).1
/-- The classes of pieces, the last one first. -/
def ctx (s : ByteArray) (l : List Nat) : List Int := (l.map (clsAt s)).reverse
theorem ctx_snoc (s : ByteArray) (l : List Nat) (i : Nat) : ctx s (l ++ [i]) = clsAt s i :: ctx s l := by simp [ctx]
end Go.Proofs.Ythbcancckogloaa
