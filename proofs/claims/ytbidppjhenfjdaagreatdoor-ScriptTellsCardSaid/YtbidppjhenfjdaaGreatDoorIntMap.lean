/-
  Maps of integer keys: what they hold, in the order in which it came.
-/
import Derived.Test.YtbidppjhenfjdaaGreatDoorIter
import Derived.MapKept
import Derived.Carry
import Derived.OwnWalkIn
namespace Go.Proofs.YtbidppjhenfjdaaGreatDoor
open Go.RowKit Go.MapKept
set_option linter.unusedVariables false
set_option linter.unusedSimpArgs false

/-- Block b is a map with these keys (of an integer kind) and values. -/
def IM (w : World) (b : Nat) (k : IntKind) (l : List (Int × Value)) : Prop :=
  ∃ es clock, w.heap[b]? = some (.map es clock) ∧ es.toList.map (fun e => (e.key, e.val)) = l.map fun p => (Value.int k p.1, p.2)
def imV (l : List (Int × Value)) (x : Int) (z : Value) : Value := ((l.find? fun p => p.1 == x).map (·.2)).getD z
def imHas (l : List (Int × Value)) (x : Int) : Bool := l.any fun p => p.1 == x

theorem IM.made (w : World) (k : IntKind) : IM (w.alloc (.map #[] 0)) w.heap.size k [] := ⟨#[], 0, World.alloc_heap_new w _, rfl⟩
theorem IM.keep {w w' : World} {b : Nat} {k : IntKind} {l : List (Int × Value)} {L : List Nat} (h : IM w b k l) (hk : Keep L w w') (hb : b ∉ L) : IM w' b k l := by
  obtain ⟨es, c, h1, h2⟩ := h
  exact ⟨es, c, hk.at_ h1 hb, h2⟩
theorem IM.lt {w : World} {b : Nat} {k : IntKind} {l : List (Int × Value)} (h : IM w b k l) : b < w.heap.size := by
  obtain ⟨es, c, h1, h2⟩ := h
  exact lt_of_block h1

theorem find_at {k : IntKind} : ∀ {es : List MapEntry} {l : List (Int × Value)} {x : Int}, es.map (fun e => (e.key, e.val)) = l.map (fun p => (Value.int k p.1, p.2)) →
    (∀ e ∈ es, IsKey (.int k) e.key) ∧ ((∀ e ∈ es, e.key ≠ .int k x) → imHas l x = false ∧ ∀ z, imV l x z = z) ∧
    (∀ (j : Nat) (e : MapEntry), es[j]? = some e → e.key = .int k x → (∀ i, i < j → ∀ e', es[i]? = some e' → e'.key ≠ .int k x) → imHas l x = true ∧ ∀ z, imV l x z = e.val)
  | [], [], x, _ => ⟨by simp, by simp [imHas, imV], by simp⟩
  | [], p :: l, x, h => by simp at h
  | e :: es, [], x, h => by simp at h
  | e :: es, p :: l, x, h => by
    simp only [List.map_cons, List.cons.injEq, Prod.mk.injEq] at h
    obtain ⟨⟨h1, h2⟩, h3⟩ := h
    obtain ⟨i1, i2, i3⟩ := find_at (x := x) h3
    refine ⟨fun e' he => ?_, fun hn => ?_, fun j e' hj hk hlt => ?_⟩
    · rcases List.mem_cons.1 he with rfl | he
      · rw [h1]; simp [IsKey]
      · exact i1 e' he
    · have hne : (p.1 == x) = false := by
        have := hn e (by simp)
        rw [h1] at this
        simp at this ⊢
        exact this
      obtain ⟨g1, g2⟩ := i2 (fun e' he => hn e' (by simp [he]))
      unfold imHas imV at *
      rw [List.any_cons, List.find?_cons, hne]
      exact ⟨by simpa using g1, g2⟩
    · cases j with
      | zero =>
        simp at hj; subst hj
        rw [h1] at hk
        simp at hk
        unfold imHas imV
        rw [List.any_cons, List.find?_cons, hk]
        simp [h2]
      | succ j =>
        have hne : (p.1 == x) = false := by
          have := hlt 0 (by omega) e rfl
          rw [h1] at this
          simp at this ⊢
          exact this
        obtain ⟨g1, g2⟩ := i3 j e' (by simpa using hj) hk (fun i hi e'' he => hlt (i + 1) (by omega) e'' (by simpa using he))
        unfold imHas imV at *
        rw [List.any_cons, List.find?_cons, hne]
        exact ⟨by simpa using g1, g2⟩
theorem findNow_first {d : TypeDesc} {k : Value} (hk : IsKey d k) : ∀ (l : List MapEntry) (i : Nat), (∀ x ∈ l, IsKey d x.key) → ∀ (j : Nat) (v : Value), Instr.findNow d k l i = some (some (i + j, v)) → ∀ m, m < j → ∀ e, l[m]? = some e → e.key ≠ k
  | [], i, _, j, v, h, _, _, _, _ => by simp [Instr.findNow] at h
  | e :: es, i, hks, j, v, h, m, hm, e', he => by
    obtain ⟨r, hr, hiff⟩ := sameNow_of_keys hk (hks e (.head _))
    cases r with
    | true => simp [Instr.findNow, hr] at h; omega
    | false =>
      have hne : e.key ≠ k := fun q => by have := hiff.2 q.symm; cases this
      simp only [Instr.findNow, hr] at h
      cases m with
      | zero => simp at he; subst he; exact hne
      | succ m => exact findNow_first hk es (i + 1) (fun x hx => hks x (.tail _ hx)) (j - 1) v (by rw [show i + 1 + (j - 1) = i + j by omega]; exact h) m (by omega) e' (by simpa using he)

section
variable {P : Program} {t kt et : TypeId} {w : World} {b : Nat} {k : IntKind} {l : List (Int × Value)} (ht : P.underlying t = some (.map kt et)) (hkt : P.underlying kt = some (.int k)) (h : IM w b k l)
include ht hkt h

theorem im_lookup (x : Int) (c : Bool) {z : Value} (hz : (zeroValue et).run P w = .ok z w) :
    (Instr.lookup t (.map (some b)) (.int k x) c).run P w = .ok (if c then .tuple #[imV l x z, .bool (imHas l x)] else imV l x z) w := by
  obtain ⟨es, clock, hb, hl⟩ := h
  obtain ⟨i1, i2, i3⟩ := find_at (x := x) hl
  have hkey : IsKey (.int k) (.int k x) := by simp [IsKey]
  have hck := fun e => MapKept.run_checkKey (P := P) (w := w) hkt hkey e 9999
  rcases findNow_spec hkey es.toList 0 i1 with ⟨h1, h2⟩ | ⟨j, e, h1, h2, h3⟩
  · obtain ⟨g1, g2⟩ := i2 h2
    have hf := MapKept.run_findKey (P := P) (w := w) hkt h1
    cases c <;> simp [Instr.lookup, run_underlying ht, MapKept.run_getObj_map hb, hck, hf, hz, g1, g2, Result.andThen]
  · obtain ⟨g1, g2⟩ := i3 j e h2 h3 (findNow_first hkey es.toList 0 i1 j _ h1)
    have hf := MapKept.run_findKey (P := P) (w := w) hkt h1
    cases c <;> simp [Instr.lookup, run_underlying ht, MapKept.run_getObj_map hb, hck, hf, g1, g2, Result.andThen]

/-- A key that is new. -/
theorem im_update (x : Int) (v : Value) (hx : ∀ p ∈ l, p.1 ≠ x) :
    ∃ w', (Instr.mapUpdate t (.map (some b)) (.int k x) v).run P w = .ok () w' ∧ IM w' b k (l ++ [(x, v)]) ∧ Keep [b] w w' := by
  obtain ⟨es, clock, hb, hl⟩ := h
  obtain ⟨i1, i2, i3⟩ := find_at (x := x) hl
  have hkey : IsKey (.int k) (.int k x) := by simp [IsKey]
  have hck := fun e => MapKept.run_checkKey (P := P) (w := w) hkt hkey e 9999
  have hno : ∀ e ∈ es.toList, e.key ≠ .int k x := by
    intro e he hk
    have : (e.key, e.val) ∈ es.toList.map (fun e => (e.key, e.val)) := List.mem_map.2 ⟨e, he, rfl⟩
    rw [hl] at this
    obtain ⟨p, hp, hpe⟩ := List.mem_map.1 this
    simp only [Prod.mk.injEq] at hpe
    rw [hk] at hpe
    have := hpe.1
    simp at this
    exact hx p hp this
  rcases findNow_spec hkey es.toList 0 i1 with ⟨h1, h2⟩ | ⟨j, e, h1, h2, h3⟩
  · have hf := MapKept.run_findKey (P := P) (w := w) hkt h1
    refine ⟨{ w with heap := w.heap.setIfInBounds b (.map (es.push { key := .int k x, val := v, born := clock }) (clock + 1)) }, by simp [Instr.mapUpdate, run_underlying ht, MapKept.run_getObj_map hb, hck, hf, MapKept.run_setObj_map _ hb, Result.andThen], ⟨es.push { key := .int k x, val := v, born := clock }, clock + 1, ?_, ?_⟩, ⟨rfl, rfl, rfl, by simp, fun i hi hn => ?_⟩⟩
    · have hlt := lt_of_block hb
      simp [hlt]
    · simp [hl]
    · have : b ≠ i := fun e => hn (by simp [e])
      simp [this]
  · exact absurd h3 (hno e (List.mem_of_getElem? h2))
end
end Go.Proofs.YtbidppjhenfjdaaGreatDoor
