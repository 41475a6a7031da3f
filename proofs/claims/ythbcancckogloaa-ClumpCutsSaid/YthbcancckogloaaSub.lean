/-
  Parts of slices that are read.
-/
import Derived.Test.YthbcancckogloaaSl
namespace Go.Proofs.Ythbcancckogloaa
open Go.RowKit
set_option linter.unusedVariables false
set_option linter.unusedSimpArgs false

section
variable {P : Program} (t : TypeId) (ht : P.underlying t = some (.slice (P.elem t))) (hs : ∀ W, (sizeOf (P.elem t)).run P W = .ok 1 W)
include ht hs

/-- x[:m] -/
theorem sub_take {W : World} {ad : Option Addr} {n c : Nat} {cs : List Value} (h : SlAt W (.slice ad n c) n cs) (hn : n ≤ c) {m : Nat} (hm : m ≤ n) {i : Int} (hi : i = m) :
    ∃ ad' c', (∀ W', (Instr.slice t (.slice ad n c) none (some (.int .i64 i)) none).run P W' = .ok (.slice ad' m c') W') ∧ SlAt W (.slice ad' m c') m (cs.take m) ∧ m ≤ c' := by
  obtain ⟨ad', cap', e, ⟨h0, hnil⟩, hc⟩ := h
  simp only [Value.slice.injEq] at e
  obtain ⟨rfl, _, rfl⟩ := e
  refine ⟨ad, c, fun W' => ?_, ⟨ad, c, rfl, ⟨fun h => by rw [h]; simp, hnil⟩, fun h => ?_⟩, by omega⟩
  · rw [run_slice_any (P := P) (w := W') t ad n c ht]
    subst hi
    have hb : (Instr.sliceBounds true n c none (some (.int .i64 (m : Int))) none).run P W' = .ok (0, m, c) W' := by simp [Instr.sliceBounds, run_sliceBound, show m ≤ c by omega]
    rw [hb]
    simp only [Result.andThen, hs, sliced, Nat.zero_mul, Nat.sub_zero]
    congr 2
    split
    · rfl
    · cases ad with
      | none => rfl
      | some a => rfl
  · obtain ⟨b, off, rfl, hcc⟩ := hc (by omega)
    refine ⟨b, off, rfl, fun i u hu => hcc i u ?_⟩
    rw [List.getElem?_take] at hu
    split at hu
    · exact hu
    · cases hu

/-- x[k:] -/
theorem sub_drop {W : World} {ad : Option Addr} {n c : Nat} {cs : List Value} (h : SlAt W (.slice ad n c) n cs) (hl : cs.length = n) (hn : n ≤ c) {k : Nat} (hk : k ≤ n) {i : Int} (hi : i = k) :
    ∃ ad' c', (∀ W', (Instr.slice t (.slice ad n c) (some (.int .i64 i)) none none).run P W' = .ok (.slice ad' (n - k) c') W') ∧ SlAt W (.slice ad' (n - k) c') (n - k) (cs.drop k) ∧ n - k ≤ c' := by
  obtain ⟨ad', cap', e, ⟨h0, hnil⟩, hc⟩ := h
  simp only [Value.slice.injEq] at e
  obtain ⟨rfl, _, rfl⟩ := e
  refine ⟨if c = k then ad else ad.map (·.add (k * 1)), c - k, fun W' => ?_, ⟨_, _, rfl, ⟨fun h => ?_, fun h => ?_⟩, fun h => ?_⟩, by omega⟩
  · rw [run_slice_any (P := P) (w := W') t ad n c ht]
    subst hi
    have hb : (Instr.sliceBounds true n c (some (.int .i64 (k : Int))) none none).run P W' = .ok (k, n, c) W' := by simp [Instr.sliceBounds, run_sliceBound, hk]
    rw [hb]
    simp only [Result.andThen, hs, sliced]
  · rw [List.drop_eq_nil_iff]; omega
  · split at h
    · have := hnil h; omega
    · cases ad with
      | none => have := hnil rfl; omega
      | some a => simp at h
  · obtain ⟨b, off, rfl, hcc⟩ := hc (by omega)
    rw [if_neg (by omega)]
    refine ⟨b, off + k, ?_, fun i u hu => ?_⟩
    · rw [Nat.mul_one, Option.map_some]
      simp only [Addr.add]
      split
      · rename_i h5; subst h5; rfl
      · rfl
    · rw [List.getElem?_drop] at hu
      have := hcc (k + i) u hu
      rwa [← Nat.add_assoc] at this
end
end Go.Proofs.Ythbcancckogloaa
