/-
  Walks of the reference's Pieces.
-/
import Derived.Test.YtbidppjhenfjdaaGreatDoorGlyU
import Derived.Test.YtbidppjhenfjdaaGreatDoorGlyW
import Derived.Test.YtbidppjhenfjdaaGreatDoorAppend
namespace Go.Proofs.YtbidppjhenfjdaaGreatDoor
open Go.RowKit
set_option linter.unusedVariables false
set_option linter.unusedSimpArgs false

theorem cell_new_row (w : World) (cs : List Value) (t : TypeId) (j : Nat) (u : Value) (h : cs[j]? = some u) : (w.alloc (.cells cs.toArray t)).cell? ((⟨w.heap.size, 0, none⟩ : Addr).add j) = some u := by
  rw [addr0_add, cell_of_block (heap_alloc_new w (.cells cs.toArray t))]
  simpa using h

/-- What a call leaves that answers a new slice of n elements, with the cells cs. -/
def NewSl (e : TypeId) (sz n : Nat) (cs : List Value) (w : World) (r : Ending) (w' : World) : Prop :=
  ∃ v, r = .returned v ∧ w'.ownsRow w.heap.size e sz v n cs ∧ Keep [] w w' ∧ (v = .slice none 0 0 ↔ n = 0)

/-- A piece in memory. -/
def pieceCells (s : ByteArray) (i : Nat) : List Value := [.int .i64 i, .int .i32 (dec s i).1, .int .i64 (dec s i).2, .bool (isB s i)]
def piecesCells (s : ByteArray) (l : List Nat) : List Value := l.flatMap (pieceCells s)
theorem piecesCells_snoc (s : ByteArray) (l : List Nat) (i : Nat) : piecesCells s (l ++ [i]) = piecesCells s l ++ pieceCells s i := by simp [piecesCells]
theorem flat4 (s : ByteArray) : ∀ (l : List Nat) (k i j : Nat), l[k]? = some i → j < 4 → (piecesCells s l)[k * 4 + j]? = (pieceCells s i)[j]? := by
  intro l
  induction l with
  | nil => intro k i j h; simp at h
  | cons a l ih =>
    intro k i j h hj
    have e : piecesCells s (a :: l) = pieceCells s a ++ piecesCells s l := by simp [piecesCells]
    rw [e]
    cases k with
    | zero =>
      simp at h; subst h
      rw [List.getElem?_append_left (by simp [pieceCells]; omega)]
      simp
    | succ k =>
      rw [List.getElem?_append_right (by simp [pieceCells]; omega)]
      have : (k + 1) * 4 + j - (pieceCells s a).length = k * 4 + j := by simp [pieceCells]; omega
      rw [this]
      exact ih k i j (by simpa using h) hj

theorem info_piece : (Tryz.prog.info? 145).map (fun i => (i.zero, i.size, i.bytes)) = some (some (.agg #[.int .i64 0, .int .i32 0, .int .i64 0, .bool false]), 4, 32) := by kernel_rfl

theorem own_next {e : TypeId} {sz n m : Nat} {cs news : List Value} {w wr w1 w2 : World} {v v' : Value} (h1 : wr.ownsRow w.heap.size e sz v n cs) (h2 : Keep [] w wr) (hw1 : Keep [] wr w1) (ha : AppPost w1 w.heap.size e sz v n cs m news v' w2) (hm : 0 < m) :
    w2.ownsRow w.heap.size e sz v' (n + m) (cs ++ news) ∧ Keep [] w w2 ∧ (v' = .slice none 0 0 ↔ n + m = 0) := by
  obtain ⟨a1, a2, a3, a4⟩ := ha
  refine ⟨a1, (h2.trans0 hw1).trans a2 (fun b hb => by simp at hb; exact .inr (h1.lt b hb).1), ?_⟩
  rw [a4]; omega

set_option maxHeartbeats 8000000 in
theorem pieces_any (s : ByteArray) (w : World) (hz : s.size ≤ 4294967296) :
    Calls Tryz.prog 66 #[.string s] w (NewSl 145 4 (cut s 0).length (piecesCells s (cut s 0)) w) := by
  obtain ⟨i0, hi, hz0, hz1, hz2⟩ := info_parts info_piece
  have HI := Lib.hid hi; have HZ0 := Lib.hid hz0; have HZ1 := Lib.hid hz1; have HZ2 := Lib.hid hz2
  clear hi hz0 hz1 hz2
  go_enter Tryz.func66, Tryz.ntmps66
  go_wp2
  go_loopw [3, 4] (fun v i wr => ∃ (l : List Nat) (p : Nat), At s l p ∧ i = .int .i64 p ∧ wr.ownsRow w.heap.size 145 4 v l.length (piecesCells s l) ∧ Keep [] w wr ∧ (v = .slice none 0 0 ↔ l.length = 0)) (fun _ i _ => s.size - (intOf i).toNat)
  case atStart => exact ⟨[], 0, .zero, rfl, World.ownsRow_nil _ _ _ _, Keep.refl _ _, by simp⟩
  case round =>
    obtain ⟨l, p, hat, rfl, hown, hk, hnil⟩ := hrel
    have hp := hat.le
    have hll := hat.len
    have HA := Lib.hid hat; have HO := Lib.hid hown; have HK := Lib.hid hk; have HN := Lib.hid hnil
    clear hat hown hk hnil
    by_cases hlt : p < s.size
    · have hltd : decide (p < s.size) = true := by simpa using hlt
      have hn := dec_n hlt
      go_wp2_with fail
      refine (rdecode_in s p _ (by omega) hlt).mono ?_
      rintro r w1 ⟨rfl, hk1⟩
      have HO1 := Lib.hid (hk1.owns HO.out (by simp)); have HK1 := Lib.hid (HK.out.trans0 hk1); clear hk1
      have hsz := HK1.out.size
      have HST := Lib.hid (HA.out.step hlt)
      have HD : Hid (decV s p = .tuple #[.int .i32 (dec s p).1, .int .i64 (dec s p).2, .bool (isB s p)]) := by show decV s p = _; rfl
      have HPC : Hid (pieceCells s p = [.int .i64 p, .int .i32 (dec s p).1, .int .i64 (dec s p).2, .bool (isB s p)]) := by show pieceCells s p = _; rfl
      rw [HD.out]
      clear HD
      have HCS := Lib.hid (piecesCells_snoc s l p)
      rw [HPC.out] at HCS
      clear HPC
      generalize (dec s p).1 = r1 at *
      generalize (dec s p).2 = n1 at *
      generalize isB s p = b1 at *
      go_wp2_with (at_builtin; refine wpList_append_mine _ rfl (.tmp 19) (.tmp 25) 142 rfl w.heap.size 145 i0 (.agg #[.int .i64 0, .int .i32 0, .int .i64 0, .bool false]) 4 32 Tryz.underlying142 HI.out HZ0.out HZ1.out HZ2.out rfl (by decide) _ _ _ rfl (HO1.out.alloc _) ⟨w1.heap.size, 0, none⟩ 1 1 [.int .i64 p, .int .i32 r1, .int .i64 n1, .bool b1] rfl rfl (cell_new_row _ _ _) (by simp [Value.oneCell']) (by unfold maxLen; omega) (by omega) (by simp; omega) ?_; intro v' W2 hp2; have hfin := Lib.hid (own_next HO1.out HK1.out ((Keep.refl _ _).alloc _) hp2 (by omega)); clear hp2)
      go_roundw
      case rel => exact ⟨l ++ [p], p + n1, HST.out, by go_num, by rw [HCS.out, List.length_append]; exact hfin.out.1, hfin.out.2.1, by rw [List.length_append]; exact hfin.out.2.2⟩
      case measure => simp [intOf]; omega
    · have hltd : decide (p < s.size) = false := by simpa using hlt
      obtain ⟨rfl, rfl⟩ := HA.out.done hlt
      go_wp2_with fail
      go_ret
      exact ⟨_, rfl, HO.out, HK.out, HN.out⟩
end Go.Proofs.YtbidppjhenfjdaaGreatDoor
