/-
  What a scanner finds: one thing; the reference's plain.
-/
import Derived.Test.YtbidppjhenfjdaaDoorScnB
import Derived.Test.YtbidppjhenfjdaaDoorRow
namespace Go.Proofs.YtbidppjhenfjdaaDoor
open Go.RowKit
set_option linter.unusedVariables false
set_option linter.unusedSimpArgs false

/-- A word, and its error. -/
structure Fn where
  k : Nat
  t : ByteArray
  n : Int
  a : Nat
  l : Nat
  e : Nat
def Fn.vals (f : Fn) : Array Value := #[.int .i64 (f.k : Nat), .string f.t, .int .i64 f.n, .int .i64 (f.a : Nat), .int .i64 (f.l : Nat), .int .i64 (f.e : Nat)]
/-- A word that is not quoted, from a byte on, and the byte behind it; none: an error. -/
def plF (s : ByteArray) (a l : Nat) : Fn × Option Nat :=
  if (pw s a).2 ≠ 0 then (⟨0, ByteArray.empty, 0, (pw s a).1, l, (pw s a).2⟩, none)
  else if numB (s.extract a (pw s a).1) = false then (⟨1, s.extract a (pw s a).1, 0, a, l, 0⟩, some (pw s a).1)
  else match numT (s.extract a (pw s a).1).data.toList with
    | none => (⟨0, ByteArray.empty, 0, a, l, 6⟩, none)
    | some v => (⟨3, ByteArray.empty, v, a, l, 0⟩, some (pw s a).1)
def endV (o : Option Nat) : Int := match o with | none => -1 | some e => (e : Int)
theorem plF_off {s : ByteArray} {a l e c : Nat} (h : pw s a = (e, c)) (hc : c ≠ 0) : plF s a l = (⟨0, ByteArray.empty, 0, e, l, c⟩, none) := by unfold plF; rw [h]; exact if_pos hc
theorem plF_word {s : ByteArray} {a l e : Nat} (h : pw s a = (e, 0)) (hn : numB (s.extract a e) = false) : plF s a l = (⟨1, s.extract a e, 0, a, l, 0⟩, some e) := by
  unfold plF; rw [h]; exact (if_neg (by simp)).trans (if_pos hn)
theorem plF_bad {s : ByteArray} {a l e : Nat} (h : pw s a = (e, 0)) (hn : numB (s.extract a e) = true) (ht : numT (s.extract a e).data.toList = none) : plF s a l = (⟨0, ByteArray.empty, 0, a, l, 6⟩, none) := by
  unfold plF; rw [h]; refine (if_neg (by simp)).trans ((if_neg (by rw [hn]; simp)).trans ?_); simp only; rw [ht]
theorem plF_num {s : ByteArray} {a l e : Nat} {v : Int} (h : pw s a = (e, 0)) (hn : numB (s.extract a e) = true) (ht : numT (s.extract a e).data.toList = some v) : plF s a l = (⟨3, ByteArray.empty, v, a, l, 0⟩, some e) := by
  unfold plF; rw [h]; refine (if_neg (by simp)).trans ((if_neg (by rw [hn]; simp)).trans ?_); simp only; rw [ht]
theorem results_cell_2 {P : Program} {fn : Func} {p q : Tmp} {ty : TypeId} (h : fn.results = #[.cell p ty, .tmp q]) (tmps : Array Value) (w : World) (b : Nat) (v u : Value)
    (hp : tmps.getD p undef = .pointer (some ⟨b, 0, none⟩)) (hq : tmps.getD q undef = u) (hl : (loadVar ty ⟨b, 0, none⟩).run P w = .ok v w) : (results fn tmps).run P w = .ok (.tuple #[v, u]) w := by
  have hp' : tmps[p]?.getD undef = .pointer (some ⟨b, 0, none⟩) := by simpa using hp
  have hq' : tmps[q]?.getD undef = u := by simpa using hq
  simp [results, h, hp', hq', asAddr, hl]

def zeroF : Array Value := #[.int .i64 0, .string ⟨#[]⟩, .int .i64 0, .int .i64 0, .int .i64 0, .int .i64 0]
end Go.Proofs.YtbidppjhenfjdaaDoor
