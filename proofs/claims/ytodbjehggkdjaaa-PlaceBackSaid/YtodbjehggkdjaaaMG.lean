/-
  Walks of Encode, Text, Runes, Count, BadAt.
-/
import Derived.Test.YtodbjehggkdjaaaMF
import Derived.Test.YtodbjehggkdjaaaAppend
import Derived.Lib.AppendStr
import Derived.Test.YtodbjehggkdjaaaMC
import Derived.Lib.OthersKept
namespace Go.Proofs.Ytodbjehggkdjaaa
open Go.RowKit
set_option linter.unusedVariables false
set_option linter.unusedSimpArgs false

theorem cell_new_row (w : World) (cs : List Value) (t : TypeId) (j : Nat) (u : Value) (h : cs[j]? = some u) : (w.alloc (.cells cs.toArray t)).cell? ((⟨w.heap.size, 0, none⟩ : Addr).add j) = some u := by
  rw [addr0_add, cell_of_block (heap_alloc_new w (.cells cs.toArray t))]
  simpa using h

/-- What a call leaves that answers a new slice of n elements, with the cells cs. -/
def NewSl (e : TypeId) (sz n : Nat) (cs : List Value) (w : World) (r : Ending) (w' : World) : Prop :=
  ∃ v, r = .returned v ∧ w'.ownsRow w.heap.size e sz v n cs ∧ Keep [] w w' ∧ (v = .slice none 0 0 ↔ n = 0)

/-- A piece in memory. -/
def pieceCells (s : ByteArray) (i : Nat) : List Value := [.int .i64 i, .int .i32 (dec s i).1, .int .i64 (dec s i).2, .bool (isB s i)]
def piecesCells (s : ByteArray) (l : List Nat) : List Value := l.flatMap (pieceCells s)
theorem piecesCells_snoc (s : ByteArray) (l : List Nat) (i : Nat) : piecesCells s (l ++ [i]) = piecesCells s l ++ pieceCells s i := by simp [piecesCells]
theorem flat4 (s : ByteArray) : ∀ (l : List Nat) (k i j : Nat), l[k]? = some i → j < 4 → (piecesCells s l)[k * 4 + j]? = (pieceCells s i)[j]? := by
  intro l
  induction l with
  | nil => intro k i j h; simp at h
  | cons a l ih =>
    intro k i j h hj
    have e : piecesCells s (a :: l) = pieceCells s a ++ piecesCells s l := by simp [piecesCells]
    rw [e]
    cases k with
    | zero =>
      simp at h; subst h
      rw [List.getElem?_append_left (by simp [pieceCells]; omega)]
      simp
    | succ k =>
      rw [List.getElem?_append_right (by simp [pieceCells]; omega)]
      have : (k + 1) * 4 + j - (pieceCells s a).length = k * 4 + j := by simp [pieceCells]; omega
      rw [this]
      exact ih k i j (by simpa using h) hj

theorem info_piece : (Try.prog.info? 66).map (fun i => (i.zero, i.size, i.bytes)) = some (some (.agg #[.int .i64 0, .int .i32 0, .int .i64 0, .bool false]), 4, 32) := by kernel_rfl

theorem own_next {e : TypeId} {sz n m : Nat} {cs news : List Value} {w wr w1 w2 : World} {v v' : Value} (h1 : wr.ownsRow w.heap.size e sz v n cs) (h2 : Keep [] w wr) (hw1 : Keep [] wr w1) (ha : AppPost w1 w.heap.size e sz v n cs m news v' w2) (hm : 0 < m) :
    w2.ownsRow w.heap.size e sz v' (n + m) (cs ++ news) ∧ Keep [] w w2 ∧ (v' = .slice none 0 0 ↔ n + m = 0) := by
  obtain ⟨a1, a2, a3, a4⟩ := ha
  refine ⟨a1, (h2.trans0 hw1).trans a2 (fun b hb => by simp at hb; exact .inr (h1.lt b hb).1), ?_⟩
  rw [a4]; omega

set_option maxHeartbeats 8000000 in
theorem pieces_any (s : ByteArray) (w : World) (hz : s.size ≤ 4294967296) :
    Calls Try.prog 27 #[.string s] w (NewSl 66 4 (cut s 0).length (piecesCells s (cut s 0)) w) := by
  obtain ⟨i0, hi, hz0, hz1, hz2⟩ := info_parts info_piece
  have HI := Lib.hid hi; have HZ0 := Lib.hid hz0; have HZ1 := Lib.hid hz1; have HZ2 := Lib.hid hz2
  clear hi hz0 hz1 hz2
  go_enter Try.func27, Try.ntmps27
  go_wp2
  go_loopw [3, 4] (fun v i wr => ∃ (l : List Nat) (p : Nat), At s l p ∧ i = .int .i64 p ∧ wr.ownsRow w.heap.size 66 4 v l.length (piecesCells s l) ∧ Keep [] w wr ∧ (v = .slice none 0 0 ↔ l.length = 0)) (fun _ i _ => s.size - (intOf i).toNat)
  case atStart => exact ⟨[], 0, .zero, rfl, World.ownsRow_nil _ _ _ _, Keep.refl _ _, by simp⟩
  case round =>
    obtain ⟨l, p, hat, rfl, hown, hk, hnil⟩ := hrel
    have hp := hat.le
    have hll := hat.len
    have HA := Lib.hid hat; have HO := Lib.hid hown; have HK := Lib.hid hk; have HN := Lib.hid hnil
    clear hat hown hk hnil
    by_cases hlt : p < s.size
    · have hltd : decide (p < s.size) = true := by simpa using hlt
      have hn := dec_n hlt
      go_wp2_with fail
      refine (rdecode_in s p _ (by omega) hlt).mono ?_
      rintro r w1 ⟨rfl, hk1⟩
      have HO1 := Lib.hid (hk1.owns HO.out (by simp)); have HK1 := Lib.hid (HK.out.trans0 hk1); clear hk1
      have hsz := HK1.out.size
      have HST := Lib.hid (HA.out.step hlt)
      have HD : Hid (decV s p = .tuple #[.int .i32 (dec s p).1, .int .i64 (dec s p).2, .bool (isB s p)]) := by show decV s p = _; rfl
      have HPC : Hid (pieceCells s p = [.int .i64 p, .int .i32 (dec s p).1, .int .i64 (dec s p).2, .bool (isB s p)]) := by show pieceCells s p = _; rfl
      rw [HD.out]
      clear HD
      have HCS := Lib.hid (piecesCells_snoc s l p)
      rw [HPC.out] at HCS
      clear HPC
      generalize (dec s p).1 = r1 at *
      generalize (dec s p).2 = n1 at *
      generalize isB s p = b1 at *
      go_wp2_with (at_builtin; refine wpList_append_mine _ rfl (.tmp 19) (.tmp 25) 63 rfl w.heap.size 66 i0 (.agg #[.int .i64 0, .int .i32 0, .int .i64 0, .bool false]) 4 32 Try.underlying63 HI.out HZ0.out HZ1.out HZ2.out rfl (by decide) _ _ _ rfl (HO1.out.alloc _) ⟨w1.heap.size, 0, none⟩ 1 1 [.int .i64 p, .int .i32 r1, .int .i64 n1, .bool b1] rfl rfl (cell_new_row _ _ _) (by simp [Value.oneCell']) (by unfold maxLen; omega) (by omega) (by simp; omega) ?_; intro v' W2 hp2; have hfin := Lib.hid (own_next HO1.out HK1.out ((Keep.refl _ _).alloc _) hp2 (by omega)); clear hp2)
      go_roundw
      case rel => exact ⟨l ++ [p], p + n1, HST.out, by go_num, by rw [HCS.out, List.length_append]; exact hfin.out.1, hfin.out.2.1, by rw [List.length_append]; exact hfin.out.2.2⟩
      case measure => simp [intOf]; omega
    · have hltd : decide (p < s.size) = false := by simpa using hlt
      obtain ⟨rfl, rfl⟩ := HA.out.done hlt
      go_wp2_with fail
      go_ret
      exact ⟨_, rfl, HO.out, HK.out, HN.out⟩
end Go.Proofs.Ytodbjehggkdjaaa
namespace Go.Proofs.Ytodbjehggkdjaaa
open Go.RowKit
set_option linter.unusedVariables false
set_option linter.unusedSimpArgs false

theorem owns_mono {w : World} {b b' : Nat} {e : TypeId} {sz n : Nat} {v : Value} {xs : List Value} (h : w.ownsRow b e sz v n xs) (hb : b' ≤ b) : w.ownsRow b' e sz v n xs := by
  refine ⟨h.1, ?_⟩
  rcases h.2 with h | ⟨g, cap, cur, h1, h2, h3⟩
  · exact .inl h
  · exact .inr ⟨g, cap, cur, h1, Nat.le_trans hb h2, h3⟩
/-- Pieces in memory, read. -/
def PcAt (w : World) (v : Value) (s : ByteArray) (l : List Nat) : Prop :=
  ∃ ad cap, v = .slice ad l.length cap ∧ (l.length ≠ 0 → ∃ b off, ad = some ⟨b, off, none⟩ ∧ ∀ (k i : Nat), l[k]? = some i → w.cell? ⟨b, off + k * 4, none⟩ = some (.int .i64 i) ∧ w.cell? ⟨b, off + k * 4 + 1, none⟩ = some (.int .i32 (dec s i).1) ∧ w.cell? ⟨b, off + k * 4 + 2, none⟩ = some (.int .i64 (dec s i).2) ∧ w.cell? ⟨b, off + k * 4 + 3, none⟩ = some (.bool (isB s i)))
theorem PcAt.of_owns {w : World} {base : Nat} {e : TypeId} {v : Value} {s : ByteArray} {l : List Nat} (h : w.ownsRow base e 4 v l.length (piecesCells s l)) : PcAt w v s l := by
  obtain ⟨ad, cap, rfl, _, h1⟩ := SlAt.of_owns h
  refine ⟨ad, cap, rfl, fun h0 => ?_⟩
  obtain ⟨b, off, rfl, hc⟩ := h1 h0
  refine ⟨b, off, rfl, fun k i hk => ?_⟩
  have f := fun j u (hj : j < 4) (hu : (pieceCells s i)[j]? = some u) => hc (k * 4 + j) u ((flat4 s l k i j hk hj).trans hu)
  exact ⟨f 0 _ (by decide) rfl, f 1 _ (by decide) rfl, f 2 _ (by decide) rfl, f 3 _ (by decide) rfl⟩
theorem PcAt.keep0 {w w' : World} {v : Value} {s : ByteArray} {l : List Nat} (h : PcAt w v s l) (hk : Keep [] w w') : PcAt w' v s l := by
  obtain ⟨ad, cap, rfl, h1⟩ := h
  refine ⟨ad, cap, rfl, fun h0 => ?_⟩
  obtain ⟨b, off, rfl, hc⟩ := h1 h0
  refine ⟨b, off, rfl, fun k i hi => ?_⟩
  obtain ⟨a, b, c, d⟩ := hc k i hi
  exact ⟨hk.cellv a (by simp), hk.cellv b (by simp), hk.cellv c (by simp), hk.cellv d (by simp)⟩

/-- The first byte that begins no rune. -/
def badAt (s : ByteArray) : Int := match (cut s 0).find? (fun j => wid s j == 0) with | some j => j | none => -1
theorem badAt_some {s : ByteArray} {l : List Nat} {i : Nat} (h : At s l i) (hi : i < s.size) (hg : ∀ j ∈ l, wid s j ≠ 0) (hw : wid s i = 0) : badAt s = i := by
  unfold badAt
  rw [h.cut, cut_step hi, List.find?_append, List.find?_eq_none.2 (by simpa using hg)]
  simp [hw]
theorem badAt_none {s : ByteArray} (hg : ∀ j ∈ cut s 0, wid s j ≠ 0) : badAt s = -1 := by
  unfold badAt
  rw [List.find?_eq_none.2 (by simpa using hg)]
theorem mem_take_succ {l : List Nat} {k i : Nat} (h : l[k]? = some i) {P : Nat → Prop} (h1 : ∀ j ∈ l.take k, P j) (h2 : P i) : ∀ j ∈ l.take (k + 1), P j := by
  intro j hj
  rw [List.take_add_one, h] at hj
  rcases List.mem_append.1 hj with hj | hj
  · exact h1 j hj
  · simp at hj; subst hj; exact h2

theorem info_rune : (Try.prog.info? 21).map (fun i => (i.zero, i.size, i.bytes)) = some (some (.int .i32 0), 1, 4) := by kernel_rfl
/-- The runes of the first pieces, in memory. -/
def runeCs (s : ByteArray) (l : List Nat) : List Value := l.map fun i => .int .i32 (dec s i).1
theorem runeCs_take {s : ByteArray} {l : List Nat} {k i : Nat} (h : l[k]? = some i) : runeCs s (l.take (k + 1)) = runeCs s (l.take k) ++ [.int .i32 (dec s i).1] := by
  unfold runeCs
  rw [List.take_add_one, h]
  simp
theorem runeCs_runs (s : ByteArray) : runeCs s (cut s 0) = (runs s 0).map (Value.int .i32) := by unfold runeCs runs; simp

end Go.Proofs.Ytodbjehggkdjaaa
namespace Go.Proofs.Ytodbjehggkdjaaa
open Go.RowKit
set_option linter.unusedVariables false
set_option linter.unusedSimpArgs false

theorem strCells_append (a b : ByteArray) : Lib.strCells (a ++ b) = Lib.strCells a ++ Lib.strCells b := by
  simp [Lib.strCells, ByteArray.data_append]
theorem info_u8 : (Try.prog.info? 5).map (fun i => (i.zero, i.size, i.bytes)) = some (some (.int .u8 0), 1, 1) := by kernel_rfl

theorem txt_take {l : List Int} {k : Nat} (h : k < l.length) : txt (l.take (k + 1)) = txt (l.take k) ++ Utf8.encode l[k] := by
  rw [List.take_succ_eq_append_getElem h, txt_snoc]

theorem own_next_str {e : TypeId} {sz n : Nat} {cs : List Value} {w wr w2 : World} {v : Value} (h1 : wr.ownsRow w.heap.size e sz v n cs) (h2 : Keep [] w wr) (hg : wr.grownBy w2 v.ownBlock) : Keep [] w w2 :=
  h2.trans (keep_of_grown hg) (fun b hb => by simp at hb; exact .inr (h1.lt b hb).1)

/-- Where a text is cut that is cut behind n runes. -/
def cutAt (s : ByteArray) (n : Int) : Nat := ((cut s 0)[n.toNat]?).getD s.size
def cutV (s : ByteArray) (n : Int) : Value := .tuple #[.string (s.extract 0 (cutAt s n)), .string (s.extract (cutAt s n) s.size)]
theorem ext_end (s : ByteArray) : s.extract s.size s.size = ByteArray.empty := ext_byt (by rw [size_ext _ _ _ (Nat.le_refl _)]; simp) (fun i hi => by rw [size_ext _ _ _ (Nat.le_refl _)] at hi; omega)
theorem cutV_end {s : ByteArray} {n : Int} (h : (cut s 0).length ≤ n.toNat) : cutV s n = .tuple #[.string s, .string ByteArray.empty] := by
  unfold cutV cutAt
  rw [List.getElem?_eq_none h, Option.getD_none, ext_all, ext_end]
theorem cutV_in {s : ByteArray} {n : Int} {i : Nat} (h : (cut s 0)[n.toNat]? = some i) : cutV s n = .tuple #[.string (s.extract 0 i), .string (s.extract i s.size)] := by
  unfold cutV cutAt
  rw [h, Option.getD_some]
theorem cutV_neg {s : ByteArray} {n : Int} (h : n < 0) : cutV s n = cutV s 0 := by
  unfold cutV cutAt
  rw [show n.toNat = (0 : Int).toNat by omega]

end Go.Proofs.Ytodbjehggkdjaaa
namespace Go.Proofs.Ytodbjehggkdjaaa
open Go.RowKit
set_option linter.unusedVariables false
set_option linter.unusedSimpArgs false

theorem conv_text {w : World} {v : Value} {l : List Int} (h : SlAt w v l.length (l.map (Value.int .i32))) : (convert 96 9 v).run Try.prog w = .ok (.string (txt l)) w := by
  obtain ⟨ad, cap, rfl, ⟨_, hnil⟩, hc⟩ := h
  by_cases h0 : l.length = 0
  · have : l = [] := List.eq_nil_of_length_eq_zero h0
    subst this
    cases ad with
    | none =>
      rw [run_convert_runes_nil w _ _ _ _ _ Try.underlying96 Try.underlying21 Try.underlying9]
      rfl
    | some a =>
      have := run_convert_runes (P := Try.prog) w 96 9 21 a 0 cap [] (Nat.le_refl _) Try.underlying96 Try.underlying21 Try.underlying9 (fun j hj => by simp at hj)
      exact this
  · obtain ⟨b, off, rfl, hcs⟩ := hc h0
    have := run_convert_runes (P := Try.prog) w 96 9 21 ⟨b, off, none⟩ l.length cap l (Nat.le_refl _) Try.underlying96 Try.underlying21 Try.underlying9 (fun j hj => by
      have := hcs j (.int .i32 l[j]) (by rw [List.getElem?_map, List.getElem?_eq_getElem hj]; rfl)
      rw [show (⟨b, off, none⟩ : Addr).add j = ⟨b, off + j, none⟩ by simp only [Addr.add]; split <;> simp_all]
      rw [this]
      simp [List.getElem?_eq_getElem hj])
    rw [this, List.take_length, runesBytes_txt]
/-- What Runes answers: new memory, no room behind. -/
def RunesPost (s : ByteArray) (w : World) (r : Ending) (w' : World) : Prop :=
  ∃ cur, r = .returned (.slice (some ⟨w.heap.size, 0, none⟩) (runs s 0).length (runs s 0).length) ∧ w'.heap[w.heap.size]? = some (.cells cur 21 (0, 0)) ∧ cur.toList.take (runs s 0).length = (runs s 0).map (Value.int .i32) ∧ Keep [] w w'

/-! ### ranges over a text -/
theorem keep_iterAt {w wr : World} {k : Nat} (h : Keep [] w wr) (hk : w.heap.size ≤ k) (s : ByteArray) (p : Nat) : Keep [] w (wr.iterAt k s p) :=
  h.trans (L' := [k]) ⟨rfl, rfl, rfl, by rw [Lib.iterAt_size]; exact Nat.le_refl _, fun i _ hi => Lib.iterAt_other wr k i s p (by simpa using hi)⟩ (by intro x hx; simp at hx; subst hx; exact .inr hk)
theorem next_in {P : Program} {w : World} {k : Nat} {s : ByteArray} {p : Nat} (h : w.heap[k]? = some (.stringIter s p)) (hp : p < s.size) (ty : TypeId) :
    (Instr.next (.pointer (some ⟨k, 0, none⟩)) true ty).run P w = .ok (.tuple #[.bool true, .int .i64 p, .int .i32 (dec s p).1]) (w.iterAt k s (p + (dec s p).2)) := by
  rw [Lib.run_next_any_at w k s p ty h hp, dec_eq]

set_option maxHeartbeats 8000000 in
theorem count_any (s : ByteArray) (w : World) (hz : s.size ≤ 1073741824) : Calls Try.prog 17 #[.string s] w fun e w' => e = .returned (.int .i64 (cut s 0).length) ∧ Keep [] w w' := by
  go_enter Try.func17, Try.ntmps17
  go_wp2
  go_loopw [3] (fun n wr => ∃ (l : List Nat) (p : Nat), At s l p ∧ n = .int .i64 l.length ∧ wr.heap[w.heap.size]? = some (.stringIter s p) ∧ Keep [] w wr) (fun _ wr => s.size - wr.iterPos w.heap.size)
  case atStart => exact ⟨[], 0, .zero, rfl, World.iter_heap w s 0, (Keep.refl _ _).alloc _⟩
  case round =>
    obtain ⟨l, p, hat, rfl, hit, hk⟩ := hrel
    have hll := hat.len
    have hple := hat.le
    have HA := Lib.hid hat; have HK := Lib.hid hk; clear hat hk
    by_cases hp : p < s.size
    · have hn := dec_n hp
      have hnx : ∀ ty, _ := fun ty => next_in (P := Try.prog) hit hp ty
      have hit2 := Lib.iterAt_heap wr w.heap.size s p (p + (dec s p).2) hit
      have HST := Lib.hid (HA.out.step hp)
      have HK2 := Lib.hid (keep_iterAt HK.out (Nat.le_refl _) s (p + (dec s p).2))
      generalize (dec s p).1 = r1 at *
      generalize (dec s p).2 = n1 at *
      go_wp2
      go_roundw
      case rel => exact ⟨l ++ [p], p + n1, HST.out, by rw [List.length_append]; go_num, hit2, HK2.out⟩
      case measure => simp only [World.iterPos, hit, hit2]; omega
    · have hnx : ∀ ty, _ := fun ty => Lib.run_next_end_at (P := Try.prog) wr w.heap.size s p ty hit hp
      obtain ⟨rfl, rfl⟩ := HA.out.done hp
      go_wp2
      go_ret
      exact ⟨rfl, HK.out⟩

end Go.Proofs.Ytodbjehggkdjaaa
