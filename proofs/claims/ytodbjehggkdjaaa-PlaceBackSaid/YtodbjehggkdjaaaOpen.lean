/-
  Arguments that are slices: where their elements' cells lie.
-/
import Derived.Test.YtodbjehggkdjaaaSl
import Derived.Deep.Slices
import Derived.ChangeSame
import Derived.OpenShut
namespace Go.Proofs.Ytodbjehggkdjaaa
open Go.ChangeShapes Go.WideShapes Go.RowKit
set_option linter.unusedVariables false

/-- The slice value v has the elements xs, each of k cells, which are 'encs x'. -/
def ElemsAt {α : Type} (w : World) (v : Value) (k : Nat) (encs : α → List Value) (xs : List α) : Prop :=
  ∃ ad cap, v = .slice ad xs.length cap ∧ (xs.length ≠ 0 → ∃ b off, ad = some ⟨b, off, none⟩ ∧ ∀ (i : Nat) (x : α), xs[i]? = some x → ∀ j u, (encs x)[j]? = some u → w.cell? ⟨b, off + (i * k + j), none⟩ = some u) ∧ (ad = none → cap = 0) ∧ xs.length ≤ cap

theorem ElemsAt.keep0 {α : Type} {w w' : World} {v : Value} {k : Nat} {encs : α → List Value} {xs : List α} (h : ElemsAt w v k encs xs) (hk : Keep [] w w') : ElemsAt w' v k encs xs := by
  obtain ⟨ad, cap, rfl, h1, h2⟩ := h
  refine ⟨ad, cap, rfl, fun hn => ?_, h2⟩
  obtain ⟨b, off, rfl, hc⟩ := h1 hn
  exact ⟨b, off, rfl, fun i x hx j u hu => hk.cellv (hc i x hx j u hu) (by simp)⟩

theorem ElemsAt.sl {α : Type} {w : World} {v : Value} {f : α → Value} {xs : List α} (h : ElemsAt w v 1 (fun x => [f x]) xs) : SlAt w v xs.length (xs.map f) := by
  obtain ⟨ad, cap, rfl, h1, h2⟩ := h
  refine ⟨ad, cap, rfl, ⟨fun h0 => by simp [List.eq_nil_of_length_eq_zero h0], h2.1⟩, fun hn => ?_⟩
  obtain ⟨b, off, rfl, hc⟩ := h1 hn
  refine ⟨b, off, rfl, fun i u hu => ?_⟩
  rw [List.getElem?_map] at hu
  cases hx : xs[i]? with
  | none => rw [hx] at hu; cases hu
  | some x =>
    rw [hx] at hu
    have := hc i x hx 0 (f x) rfl
    simp at this hu
    rw [← hu]; exact this

theorem addr_plain {a : Addr} (h : a.spot = none) (n : Nat) : a.add n = ⟨a.block, a.off + n, none⟩ := by
  obtain ⟨b, off, spot⟩ := a
  simp at h; subst h
  exact add_plain b off n

section
variable {H : Type} {enc : TypeId × Value → H} {P : Program} {w : World}

/-- AN ARGUMENT THAT IS A SLICE, opened: each element's cells are what the elements' reading says. -/
theorem open_elems {α : Type} {t e : TypeId} {v : Value} {d : DataW H} {ps : List MemPlace} {r : Reach} {b0 : Nat} (k : Nat) (hk : 0 < k) (encs : α → List Value) (ht : P.underlying t = some (.slice e)) (hc : P.cellsOf e = k)
    (hel : ∀ n cs y, DataW.trod enc P w 0 (fun _ => true) true n e cs = some y → ∃ x, cs = encs x)
    (hv : Value.okWide P w r b0 t v) (h : DataW.Trod enc P w 0 (fun _ => true) true t v d ps) : ∃ xs : List α, ElemsAt w v k encs xs := by
  obtain ⟨a0, len, cap, rfl⟩ := okWide_slice ht hv
  obtain ⟨fuel, hf⟩ := h
  rcases Go.Deep.open_slice ht hf with ⟨hcs, _⟩ | ⟨a, len', cap', m, n, D, Pl, hcs, _, hl, _, hm, _, hi⟩
  · simp [Value.cells] at hcs
    obtain ⟨rfl, rfl, rfl⟩ := hcs
    exact ⟨[], none, 0, rfl, fun h => absurd rfl h, (fun _ => rfl), Nat.le_refl _⟩
  · simp [Value.cells] at hcs
    obtain ⟨rfl, rfl, rfl⟩ := hcs
    rw [hc] at hi
    have hm' : m = cap := by simpa using hm
    subst hm'
    have hex : ∀ i : Fin len, ∃ x : α, ∀ j u, (encs x)[j]? = some u → w.cell? (a.add (i.val * k + j)) = some u := fun i => by
      obtain ⟨cs', hcell, htrod⟩ := hi i.val (by omega)
      obtain ⟨x, rfl⟩ := hel n cs' _ htrod
      obtain ⟨_, hlen, hat⟩ := World.cells?_some hcell
      refine ⟨x, fun j u hu => ?_⟩
      have hj : j < k := by rw [← hlen]; exact (List.getElem?_eq_some_iff.1 hu).1
      rw [← Go.Deep.add_add, hat j hj, hu]
    have hspot : len ≠ 0 → a.spot = none := fun h0 => by
      obtain ⟨cs', hcell, htrod⟩ := hi 0 (by omega)
      obtain ⟨_, hlen, hat⟩ := World.cells?_some hcell
      have h1 := hat 0 hk
      have h2 : cs'[0]? = some (cs'[0]'(by omega)) := List.getElem?_eq_getElem (by omega)
      rw [h2] at h1
      have := World.cell?_spot h1
      simpa [Addr.add] using this
    refine ⟨(List.finRange len).map fun i => Classical.choose (hex i), some a, m, by simp, fun h0 => ?_, (fun h => by cases h), by simpa using hl⟩
    have hl0 : len ≠ 0 := by simpa using h0
    have hs := hspot hl0
    refine ⟨a.block, a.off, by obtain ⟨b, off, spot⟩ := a; simp at hs; subst hs; rfl, fun i x hx j u hu => ?_⟩
    rw [List.getElem?_map] at hx
    have hil : i < len := by
      rcases Nat.lt_or_ge i len with h | h
      · exact h
      · rw [List.getElem?_eq_none (by simpa using h)] at hx; cases hx
    rw [List.getElem?_eq_getElem (by simpa using hil)] at hx
    simp at hx
    subst hx
    have := Classical.choose_spec (hex ⟨i, hil⟩) j u hu
    rw [addr_plain hs] at this
    exact this
end
end Go.Proofs.Ytodbjehggkdjaaa
