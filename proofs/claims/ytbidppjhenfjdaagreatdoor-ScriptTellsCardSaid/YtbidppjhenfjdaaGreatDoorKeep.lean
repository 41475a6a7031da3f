/-
  What a call keeps: every block that was there before it, but for those of a list, is as it was.
-/
import Derived.WalkKit
import Derived.WalkSpells
import Derived.WalkLawsBesides
import Derived.Lib.Hide
import Derived.Deep.QuietTactic
import Derived.BigQuiet
namespace Go.Proofs.YtbidppjhenfjdaaGreatDoor
open Go.RowKit
set_option linter.unusedVariables false

/-- From w to w': the streams are as they were, no block has gone, and of the blocks of w only those of L may have turned. -/
structure Keep (L : List Nat) (w w' : World) : Prop where
  os : w'.os = w.os
  tape : w'.tape = w.tape
  output : w'.output = w.output
  size : w.heap.size ≤ w'.heap.size
  block : ∀ k, k < w.heap.size → k ∉ L → w'.heap[k]? = w.heap[k]?

namespace Keep
variable {L L' : List Nat} {a w w' c : World}
theorem refl (L : List Nat) (w : World) : Keep L w w := ⟨rfl, rfl, rfl, Nat.le_refl _, fun _ _ _ => rfl⟩
theorem trans (h : Keep L a w) (k : Keep L' w c) (hL : ∀ x ∈ L', x ∈ L ∨ a.heap.size ≤ x) : Keep L a c :=
  ⟨k.os.trans h.os, k.tape.trans h.tape, k.output.trans h.output, Nat.le_trans h.size k.size, fun i hi hn =>
    (k.block i (Nat.lt_of_lt_of_le hi h.size) (fun hm => by rcases hL i hm with h' | h'; exact hn h'; omega)).trans (h.block i hi hn)⟩
theorem trans' (h : Keep L a w) (k : Keep L w c) : Keep L a c := h.trans k (fun _ hx => .inl hx)
theorem trans0 (h : Keep L a w) (k : Keep [] w c) : Keep L a c := h.trans k (fun _ hx => by cases hx)
theorem mono (h : Keep L a w) (hL : ∀ x ∈ L, x ∈ L' ∨ a.heap.size ≤ x) : Keep L' a w := (refl L' a).trans h hL
theorem drew (h : Keep L a w) : Keep L a w.drew := ⟨h.os, h.tape, h.output, h.size, h.block⟩
theorem drewN (h : Keep L a w) (n : Nat) : Keep L a (w.drewN n) := ⟨h.os, h.tape, h.output, h.size, h.block⟩
theorem alloc (h : Keep L a w) (o : Obj) : Keep L a (w.alloc o) :=
  h.trans0 ⟨rfl, rfl, rfl, by simp, fun k hk _ => Below.heap_alloc _ _ _ hk⟩
theorem setCell (h : Keep L a w) {p : Addr} (hp : p.block ∈ L ∨ a.heap.size ≤ p.block) (u : Value) : Keep L a (w.setCell p u) :=
  h.trans (L' := [p.block]) ⟨rfl, rfl, rfl, by simp [World.setCell], fun k _ hk => Below.heap_setCell _ _ _ _ (by simpa using hk)⟩ (fun x hx => by simp at hx; subst hx; exact hp)
theorem grown (h : Keep L a w) {row : Option Nat} (hg : w.grownBy w' row) (hr : ∀ k, row = some k → k ∈ L ∨ a.heap.size ≤ k) : Keep L a w' :=
  ⟨hg.os.trans h.os, hg.tape.trans h.tape, hg.output.trans h.output, Nat.le_trans h.size hg.size, fun i hi hn =>
    (hg.block i (Nat.lt_of_lt_of_le hi h.size) (fun e => by rcases hr i e.symm with h' | h'; exact hn h'; omega)).trans (h.block i hi hn)⟩
theorem below (h : Keep [] a w) : Below a.heap.size a w := ⟨h.os, h.tape, h.output, h.size, fun k hk => h.block k hk (by simp)⟩
theorem of_below {B : Nat} (h : Below B a w) (hB : a.heap.size ≤ B) : Keep L a w := ⟨h.os, h.tape, h.output, h.size, fun k hk _ => h.block k (by omega)⟩
theorem at_ (h : Keep L a w) {b : Nat} {o : Obj} (ho : a.heap[b]? = some o) (hb : b ∉ L) : w.heap[b]? = some o :=
  (h.block b (lt_of_block ho) hb).trans ho
theorem cell (h : Keep L a w) {p : Addr} (hp : p.block < a.heap.size) (hb : p.block ∉ L) : w.cell? p = a.cell? p := World.cell?_of_block (w := a) (h.block p.block hp hb)
theorem cellv (h : Keep L a w) {p : Addr} {v : Value} (hc : a.cell? p = some v) (hb : p.block ∉ L) : w.cell? p = some v := (h.cell (World.block_lt_of_cell? _ _ hc) hb).trans hc
theorem frozen (h : Keep L a w) {p : Addr} (hp : p.block < a.heap.size) (hb : p.block ∉ L) : w.frozen? p = a.frozen? p := World.frozen?_of_block (w := a) (h.block p.block hp hb)
theorem owns (h : Keep L a w) {base : Nat} {e : TypeId} {size : Nat} {v : Value} {n : Nat} {xs : List Value} (ho : a.ownsRow base e size v n xs)
    (hv : ∀ g, v.ownBlock = some g → g ∉ L) : w.ownsRow base e size v n xs := by
  refine ⟨ho.1, ?_⟩
  rcases ho.2 with hn | ⟨g, cap, cur, rfl, hb, hgg, rest⟩
  · exact .inl hn
  · exact .inr ⟨g, cap, cur, rfl, hb, h.at_ hgg (hv g rfl), rest⟩
end Keep

theorem heap_drewN (w : World) (n : Nat) : (w.drewN n).heap = w.heap := rfl

theorem cell_of_block {w : World} {b : Nat} {c : Array Value} {t : TypeId} {f : Nat × Nat} (h : w.heap[b]? = some (.cells c t f)) (i : Nat) : w.cell? ⟨b, i, none⟩ = c[i]? := by simp [World.cell?, h]
theorem free_of_block {w : World} {b : Nat} {c : Array Value} {t : TypeId} (h : w.heap[b]? = some (.cells c t (0, 0))) (i : Nat) : w.frozen? ⟨b, i, none⟩ = false := by simp [World.frozen?, h]
theorem block_setCell {w : World} {b : Nat} {c : Array Value} {t : TypeId} {f : Nat × Nat} (h : w.heap[b]? = some (.cells c t f)) (i : Nat) (u : Value) :
    (w.setCell ⟨b, i, none⟩ u).heap[b]? = some (.cells (c.setIfInBounds i u) t f) := by
  have hlt := lt_of_block h
  have h' : w.heap[b] = .cells c t f := by simpa [Array.getElem?_eq_getElem hlt] using h
  show (w.heap.modify b _)[b]? = _
  rw [Array.getElem?_eq_getElem (by simpa using hlt), Array.getElem_modify_self, h']
  rfl
theorem block_setCell_other {w : World} {b : Nat} {a : Addr} (u : Value) (h : b ≠ a.block) : (w.setCell a u).heap[b]? = w.heap[b]? := Below.heap_setCell _ _ _ _ h
end Go.Proofs.YtbidppjhenfjdaaGreatDoor
