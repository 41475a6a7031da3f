/-
  Walk of the reference's Quote.
-/
import Derived.Test.YtbidppjhenfjdaaDoorQuoE
import Derived.Test.YtbidppjhenfjdaaDoorQuoF
import Derived.Test.YtbidppjhenfjdaaDoorStillIn
namespace Go.Proofs.YtbidppjhenfjdaaDoor
open Go.RowKit
set_option linter.unusedVariables false
set_option linter.unusedSimpArgs false

theorem lss_yes {a b : Int} (h : a < b) (W : World) : (binOp .lss 21 (.int .i32 a) (.int .i32 b)).run Tryd.prog W = .ok (.bool true) W := by
  have hu := Tryd.underlying21
  have hd : decide (a < b) = true := by simpa using h
  simp [go_sem, hu, hd]
theorem small_rune {s : ByteArray} {p : Nat} (hp : p < s.size) (hw : wid s p ≠ 0) (h : (dec s p).1 < 128) : byt s p = (dec s p).1 := by
  obtain ⟨_, h'⟩ := rune_of_wid hp hw
  omega
theorem lett_0 {r : Nat} (h : lett r = 0) : r ≠ 34 ∧ r ≠ 92 ∧ r ≠ 10 ∧ r ≠ 13 ∧ r ≠ 9 := by
  unfold lett at h
  (repeat' split at h) <;> omega
theorem lett_1 {r : Nat} (h : lett r ≠ 0) : r = 34 ∨ r = 92 ∨ r = 10 ∨ r = 13 ∨ r = 9 := by
  unfold lett at h
  (repeat' split at h) <;> omega
theorem eql_yes {a b : Int} (h : a = b) (W : World) : (binOp .eql 21 (.int .i32 a) (.int .i32 b)).run Tryd.prog W = .ok (.bool true) W := by
  have hu := Tryd.underlying21
  have hd : (a == b) = true := by simpa using h
  simp [go_sem, hu, hd]
theorem conv_i32_u8 {ri : Int} {c : Nat} (h : ri = (c : Nat) ∧ c < 256) (W : World) : (convert 21 5 (.int .i32 ri)).run Tryd.prog W = .ok (.int .u8 (c : Nat)) W := by
  obtain ⟨rfl, h⟩ := h
  have hu := Tryd.underlying5
  have hv := Tryd.underlying21
  have hw : IntKind.u8.wrap (c : Int) = (c : Int) := by rw [IntKind.wrap_u8]; omega
  simp [go_sem, hu, hv, hw]
theorem slice_str {s : ByteArray} {p n : Nat} (h : p + n ≤ s.size) (W : World) : (Instr.slice 9 (.string s) (some (.int .i64 (p : Nat))) (some (.int .i64 ((p : Int) + (n : Int)))) none).run Tryd.prog W = .ok (.string (s.extract p (p + n))) W := by
  have hu := Tryd.underlying9
  have h1 : (p : Int) + (n : Int) ≤ (s.size : Int) := by omega
  have h2 : ((p : Int) + (n : Int)).toNat = p + n := by omega
  simp [go_sem, hu, h1, h2]
  rw [if_pos (by omega), if_pos (by omega)]
/-- The text so far. -/
def qso (s : ByteArray) (k : Nat) : ByteArray := one 34 ++ qcat s ((cut s 0).take k)
theorem qso_succ {s : ByteArray} {k p : Nat} (h : (cut s 0)[k]? = some p) : qso s (k + 1) = qso s k ++ qp s p := by
  unfold qso
  rw [List.take_add_one, h, ByteArray.append_assoc]
  simp only [Option.toList]
  rw [qcat_snoc]
theorem qso_size {s : ByteArray} (k : Nat) (hz : s.size ≤ 100000000) : (qso s k).size ≤ 1000000001 := by
  unfold qso
  have h1 := cut_len_le s 0 (Nat.zero_le _)
  have h2 := qcat_size (s := s) (l := (cut s 0).take k) (fun i hi => by
    obtain ⟨j, hj, rfl⟩ := List.getElem_of_mem (List.mem_of_mem_take hi)
    exact (at_get s j hj).2)
  rw [List.length_take] at h2
  rw [ByteArray.size_append, one_size]
  omega
theorem qso_all (s : ByteArray) : qso s (cut s 0).length ++ one 34 = quo s := by
  unfold qso quo
  rw [List.take_of_length_le (Nat.le_refl _)]
/-- A row of bytes that grows. -/
theorem row_next {B : Nat} {w1 wr w2 w3 : World} {v v' : Value} {x y : ByteArray} {news : List Value} (h1 : wr.ownsRow w1.heap.size 5 1 v x.size (Lib.strCells x)) (hk : Keep [] w1 wr) (hk2 : Keep [] wr w2) (hn : news = Lib.strCells y)
    (ha : AppPost w2 w1.heap.size 5 1 v x.size (Lib.strCells x) y.size news v' w3) : w3.ownsRow w1.heap.size 5 1 v' (x ++ y).size (Lib.strCells (x ++ y)) ∧ Keep [] w1 w3 := by
  obtain ⟨a1, a2, a3, a4⟩ := ha
  refine ⟨?_, (hk.trans0 hk2).trans a2 (fun b hb => by simp at hb; exact .inr (h1.lt b hb).1)⟩
  rw [ByteArray.size_append, strCells_append, ← hn]
  exact a1
theorem row_str {w1 wr w3 : World} {v v' : Value} {x y : ByteArray} (h1 : wr.ownsRow w1.heap.size 5 1 v x.size (Lib.strCells x)) (hk : Keep [] w1 wr)
    (ho : w3.ownsRow w1.heap.size 5 1 v' (x.size + y.size) (Lib.strCells x ++ Lib.strCells y)) (hg : wr.grownBy w3 v.ownBlock) : w3.ownsRow w1.heap.size 5 1 v' (x ++ y).size (Lib.strCells (x ++ y)) ∧ Keep [] w1 w3 := by
  refine ⟨?_, hk.trans (keep_of_grown hg) (fun b hb => by simp at hb; exact .inr (h1.lt b hb).1)⟩
  rw [ByteArray.size_append, strCells_append]
  exact ho

end Go.Proofs.YtbidppjhenfjdaaDoor
