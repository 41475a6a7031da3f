/-
  Two cells and 'Keep' through a drawn region.
-/
import Derived.Test.YtddbjclpmkelaaaKeep
namespace Go.Proofs.Ytddbjclpmkelaaa
set_option linter.unusedVariables false

theorem heldK {w W W' : World} {p q : Addr} {u v : Value} (k : Keep [] W W') (h : W.cell? p = some u ∧ W.cell? q = some v ∧ Keep [] w W) :
    W'.cell? p = some u ∧ W'.cell? q = some v ∧ Keep [] w W' :=
  ⟨k.cellv h.1 (by simp), k.cellv h.2.1 (by simp), h.2.2.trans0 k⟩
theorem heldD {w W : World} {p q : Addr} {u v : Value} (h : W.cell? p = some u ∧ W.cell? q = some v ∧ Keep [] w W) :
    W.drew.cell? p = some u ∧ W.drew.cell? q = some v ∧ Keep [] w W.drew := heldK (Keep.refl [] W).drew h
theorem heldS {w W : World} {p q : Addr} {u v : Value} (o : Obj) (h : W.cell? p = some u ∧ W.cell? q = some v ∧ Keep [] w W) :
    (W.alloc o).drew.cell? p = some u ∧ (W.alloc o).drew.cell? q = some v ∧ Keep [] w (W.alloc o).drew := heldK ((Keep.refl [] W).alloc o).drew h
end Go.Proofs.Ytddbjclpmkelaaa
