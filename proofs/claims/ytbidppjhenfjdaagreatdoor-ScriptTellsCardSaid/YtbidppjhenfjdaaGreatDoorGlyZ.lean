/-
  Walks of the reference's Text, Mend, Cut.
-/
import Derived.Test.YtbidppjhenfjdaaGreatDoorGlyY
import Derived.Lib.AppendStr
namespace Go.Proofs.YtbidppjhenfjdaaGreatDoor
open Go.RowKit
set_option linter.unusedVariables false
set_option linter.unusedSimpArgs false

theorem strCells_append (a b : ByteArray) : Lib.strCells (a ++ b) = Lib.strCells a ++ Lib.strCells b := by
  simp [Lib.strCells, ByteArray.data_append]
set_option maxRecDepth 100000 in
theorem conv_nil (w : World) : (convert 38 9 (.slice none 0 0)).run Tryz.prog w = .ok (.string ByteArray.empty) w := by
  rw [run_convert_bytes_string w _ _ _ _ _ _ Tryz.underlying38 Tryz.underlying5 Tryz.underlying9]
  rfl
theorem conv_own {w : World} {base : Nat} {v : Value} {s : ByteArray} (h : w.ownsRow base 5 1 v s.size (Lib.strCells s)) : (convert 38 9 v).run Tryz.prog w = .ok (.string s) w := by
  obtain ⟨hl, h⟩ := h
  rcases h with ⟨rfl, h0⟩ | ⟨g, cap, cur, rfl, _, hg, h1, h2, h3, h4⟩
  · have : s = ByteArray.empty := ext_byt h0 (fun i hi => by omega)
    rw [this]; exact conv_nil w
  · have := run_convert_bytes_back (P := Tryz.prog) w 38 9 5 ⟨g, 0, none⟩ cap s.data.toList Tryz.underlying38 Tryz.underlying5 Tryz.underlying9 (fun j hj => by
      rw [addr0_add, cell_of_block hg]
      have hs : (Lib.strCells s)[j]? = some (.int .u8 (s.data.toList[j].toNat : Int)) := by
        simp [Lib.strCells, List.getElem?_eq_getElem hj]
      rw [← h4, List.getElem?_take] at hs
      split at hs
      · simpa using hs
      · cases hs)
    have e : s.data.toList.length = s.size := by rw [Array.length_toList]; rfl
    rw [e] at this
    exact this

theorem info_u8 : (Tryz.prog.info? 5).map (fun i => (i.zero, i.size, i.bytes)) = some (some (.int .u8 0), 1, 1) := by kernel_rfl

theorem txt_take {l : List Int} {k : Nat} (h : k < l.length) : txt (l.take (k + 1)) = txt (l.take k) ++ Utf8.encode l[k] := by
  rw [List.take_succ_eq_append_getElem h, txt_snoc]

theorem own_next_str {e : TypeId} {sz n : Nat} {cs : List Value} {w wr w2 : World} {v : Value} (h1 : wr.ownsRow w.heap.size e sz v n cs) (h2 : Keep [] w wr) (hg : wr.grownBy w2 v.ownBlock) : Keep [] w w2 :=
  h2.trans (keep_of_grown hg) (fun b hb => by simp at hb; exact .inr (h1.lt b hb).1)

/-- Where a text is cut that is cut behind n runes. -/
def cutAt (s : ByteArray) (n : Int) : Nat := ((cut s 0)[n.toNat]?).getD s.size
def cutV (s : ByteArray) (n : Int) : Value := .tuple #[.string (s.extract 0 (cutAt s n)), .string (s.extract (cutAt s n) s.size)]
theorem ext_end (s : ByteArray) : s.extract s.size s.size = ByteArray.empty := ext_byt (by rw [size_ext _ _ _ (Nat.le_refl _)]; simp) (fun i hi => by rw [size_ext _ _ _ (Nat.le_refl _)] at hi; omega)
theorem cutV_end {s : ByteArray} {n : Int} (h : (cut s 0).length ≤ n.toNat) : cutV s n = .tuple #[.string s, .string ByteArray.empty] := by
  unfold cutV cutAt
  rw [List.getElem?_eq_none h, Option.getD_none, ext_all, ext_end]
theorem cutV_in {s : ByteArray} {n : Int} {i : Nat} (h : (cut s 0)[n.toNat]? = some i) : cutV s n = .tuple #[.string (s.extract 0 i), .string (s.extract i s.size)] := by
  unfold cutV cutAt
  rw [h, Option.getD_some]
theorem cutV_neg {s : ByteArray} {n : Int} (h : n < 0) : cutV s n = cutV s 0 := by
  unfold cutV cutAt
  rw [show n.toNat = (0 : Int).toNat by omega]

end Go.Proofs.YtbidppjhenfjdaaGreatDoor
