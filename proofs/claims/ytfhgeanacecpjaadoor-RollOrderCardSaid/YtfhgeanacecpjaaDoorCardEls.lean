/-
  What an element of an argument reads as: a step, an int.
-/
import Derived.Test.YtfhgeanacecpjaaDoorCardBase
import Derived.Test.YtfhgeanacecpjaaDoorLawP
namespace Go.Proofs.YtfhgeanacecpjaaDoor
open Go.ChangeShapes Go.WideShapes Go.ChangeAt Go.RowKit
set_option linter.unusedVariables false

theorem cellsStep : Tryd.prog.cellsOf 28 = 2 := by kernel_rfl
theorem cellsBool : Tryd.prog.cellsOf 4 = 1 := by kernel_rfl
theorem cellsInt : Tryd.prog.cellsOf 3 = 1 := by kernel_rfl
theorem step_reads {H : Type} {enc : TypeId × Value → H} {w : World} (n : Nat) (cs : List Value) (y : DataW H × List MemPlace) (h : DataW.trod enc Tryd.prog w 0 (fun _ => true) true n 28 cs = some y) : ∃ x : Bool × Int, cs = stepCells x := by
  obtain ⟨y0, y1, m, _, hl, h0, h1⟩ := trod_struct2 Tryd.underlying28 h
  rw [cellsStep] at hl
  rw [cellsBool] at h0
  rw [cellsInt] at h1
  match cs, hl with
  | [a, b], _ =>
    obtain ⟨lv, e0, _⟩ := DataW.trod_bool Tryd.underlying4 h0
    obtain ⟨k, e1, _, _⟩ := DataW.trod_int Tryd.underlying3 h1
    simp at e0 e1
    exact ⟨(lv, k), by rw [e0, e1]; rfl⟩
theorem int_reads {H : Type} {enc : TypeId × Value → H} {w : World} (n : Nat) (cs : List Value) (y : DataW H × List MemPlace) (h : DataW.trod enc Tryd.prog w 0 (fun _ => true) true n 3 cs = some y) : ∃ x : Int, cs = [Value.int .i64 x] := by
  obtain ⟨k, e1, _, _⟩ := DataW.trod_int Tryd.underlying3 h
  exact ⟨k, e1⟩
end Go.Proofs.YtfhgeanacecpjaaDoor
