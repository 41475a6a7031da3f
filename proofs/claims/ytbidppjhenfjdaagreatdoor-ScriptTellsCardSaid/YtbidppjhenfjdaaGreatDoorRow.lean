/-
  Structs by value: loaded and stored whole.
-/
import Derived.Test.YtbidppjhenfjdaaGreatDoorSl
import Derived.Deep.MidRow
import Derived.Deep.Quiet
import Derived.WalkKit
namespace Go.Proofs.YtbidppjhenfjdaaGreatDoor
open Go.RowKit
set_option linter.unusedVariables false
set_option linter.unusedSimpArgs false

section
variable {P : Program} {t : TypeId} {d : TypeDesc} {n : Nat} (hu : P.underlying t = some d) (hd : d.isRow = true) (hi : (P.info? t).map (·.size) = some n)
include hu hd hi

theorem load_row {w : World} {g : Nat} {cs : Array Value} {e : TypeId} {fr : Nat × Nat} (hg : w.heap[g]? = some (.cells cs e fr)) (hn : cs.size = n) :
    (Instr.loadAt t (.pointer (some ⟨g, 0, none⟩))).run P w = .ok (.agg cs) w := by
  have := run_loadAt_mid (P := P) w g 0 t cs.toList d (fun j v hv => by
    rw [Nat.zero_add, cell_of_block hg]; simpa using hv) hu hd (by rw [hi]; simp [hn])
  simpa using this
theorem load_var {w : World} {g : Nat} {cs : Array Value} {e : TypeId} {fr : Nat × Nat} (hg : w.heap[g]? = some (.cells cs e fr)) (hn : cs.size = n) :
    (loadVar t ⟨g, 0, none⟩).run P w = .ok (.agg cs) w := run_loadVar_row (P := P) w g e t cs fr d hg hu (by cases d <;> simp_all) (by rw [hi, hn])
theorem load_mid {w : World} {b o : Nat} {cs : Array Value} (hc : ∀ j v, cs[j]? = some v → w.cell? ⟨b, o + j, none⟩ = some v) (hn : cs.size = n) :
    (Instr.loadAt t (.pointer (some ⟨b, o, none⟩))).run P w = .ok (.agg cs) w := by
  have := run_loadAt_mid (P := P) w b o t cs.toList d (fun j v hv => hc j v (by simpa using hv)) hu hd (by rw [hi]; simp [hn])
  simpa using this
omit hu hd in
theorem store_row {w : World} {g : Nat} {old cs : Array Value} {e : TypeId} (hg : w.heap[g]? = some (.cells old e (0, 0))) (ho : old.size = n) (hn : cs.size = n) (h1 : cs.all (·.oneCell') = true) :
    ∃ w', (Instr.storeAt t (.pointer (some ⟨g, 0, none⟩)) (.agg cs)).run P w = .ok () w' ∧ w'.heap[g]? = some (.cells cs e (0, 0)) ∧ Keep [g] w w' := by
  refine ⟨w.setRow g cs, ?_, ?_, ?_⟩
  · have := run_storeVar_row (P := P) w g e t old cs hg (by rw [hi, hn]) (by omega) h1
    simp only [Instr.storeAt, Instr.sureAddr, Sem.run_bind, Sem.run_pure, Result.andThen_ok, this]
  · exact setRow_heap w g old cs e (0, 0) hg
  · refine ⟨rfl, rfl, rfl, by simp [World.setRow], fun k _ hk => ?_⟩
    have hne : g ≠ k := fun e => hk (by simp [e])
    show (w.heap.modify g _)[k]? = _
    rw [Array.getElem?_modify, if_neg hne]
end

/-! ### the operations, by an equation on their run -/
section
variable {P : Program} {ops : Array Oper} {rest : List Oper} {o : Oper} {a : Act} {w w' : World} {Q : Exit → Act → World → Prop}
theorem wpList_load_eq (hg : Region.wanted o (yielded ops a.tmps) = true) (ty : TypeId) (x : Operand) (ho : o.op = .load ty x) {v : Value} (hr : (Instr.loadAt ty (a.eval x)).run P w = .ok v w')
    (h : wpList P ops Q rest (a.put o.dst v) w') : wpList P ops Q (o :: rest) a w := by
  refine wpList_step fun K hK => ?_
  rw [if_pos hg]
  unfold Oper.wp execOp
  simp only [ho, hr, Sem.run_bind, Sem.run_pure, Result.andThen_ok]
  exact hK _ _ h
theorem wpList_store_eq (hg : Region.wanted o (yielded ops a.tmps) = true) (ty : TypeId) (x y : Operand) (ho : o.op = .store ty x y) (hr : (Instr.storeAt ty (a.eval x) (a.eval y)).run P w = .ok () w')
    (h : wpList P ops Q rest (a.put o.dst undef) w') : wpList P ops Q (o :: rest) a w := by
  refine wpList_step fun K hK => ?_
  rw [if_pos hg]
  unfold Oper.wp execOp
  simp only [ho, hr, Sem.run_bind, Sem.run_pure, Result.andThen_ok]
  exact hK _ _ h
/-- The walk is stopped ahead of a load through slot x. -/
theorem park_load (x : Nat) (ty : TypeId) (ho : o.op = .load ty (.tmp x)) (h : Hid (wpList P ops Q (o :: rest) a w)) : wpList P ops Q (o :: rest) a w := h
theorem park_store (x y : Nat) (ty : TypeId) (ho : o.op = .store ty (.tmp x) (.tmp y)) (h : Hid (wpList P ops Q (o :: rest) a w)) : wpList P ops Q (o :: rest) a w := h
theorem park_loadQ {C : World → Prop} {L : Act → Prop} (x : Nat) (ty : TypeId) (ho : o.op = .load ty (.tmp x)) (h : Hid (wpQuiet P ops C L (o :: rest) a)) : wpQuiet P ops C L (o :: rest) a := h
/-- An operation that its guard leaves out. (Keep the guard's value a variable: else Lean opens all that is left of the region.) -/
theorem wpQuiet_skip {C : World → Prop} {L : Act → Prop} (hg : Region.wanted o (yielded ops a.tmps) = false) (h : wpQuiet P ops C L rest (a.put o.dst undef)) : wpQuiet P ops C L (o :: rest) a := by
  refine wpQuiet_step fun K hK => ?_
  rw [if_neg (by rw [hg]; decide)]
  exact hK _ h
theorem wpQuiet_load {C : World → Prop} {L : Act → Prop} (hg : Region.wanted o (yielded ops a.tmps) = true) (ty : TypeId) (x : Operand) (ho : o.op = .load ty x) {v : Value} (hr : ∀ w, C w → (Instr.loadAt ty (a.eval x)).run P w = .ok v w)
    (h : wpQuiet P ops C L rest (a.put o.dst v)) : wpQuiet P ops C L (o :: rest) a := by
  refine wpQuiet_step fun K hK => ?_
  rw [if_pos hg]
  refine ⟨v, fun w hw => ?_, hK _ h⟩
  unfold Oper.quietAt execOp
  simp only [ho, hr w hw, Sem.run_bind, Sem.run_pure, Result.andThen_ok, Oper.quietUpon]
  exact ⟨trivial, trivial⟩
end
end Go.Proofs.YtbidppjhenfjdaaGreatDoor
