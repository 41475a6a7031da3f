/-
  The reference's Make: what it answers; walk of its head.
-/
import Derived.Test.YtddbjclpmkelaaaDifI
import Derived.Test.YtddbjclpmkelaaaDifA
import Derived.Test.YtddbjclpmkelaaaGlyZ
import Derived.Deep.RegionWith
import Derived.Deep.DeepCutAuto
import Derived.BigQuiet
namespace Go.Proofs.Ytddbjclpmkelaaa
open Go.RowKit
set_option linter.unusedVariables false
set_option linter.unusedSimpArgs false

/-- An Edit in memory. -/
def edCell (e : Ed) : List Value := [.int .i64 e.keep, .int .i64 e.drop, .string (txt e.text)]
def edCells (l : List Ed) : List Value := l.flatMap edCell
theorem edCells_snoc (l : List Ed) (e : Ed) : edCells (l ++ [e]) = edCells l ++ edCell e := by simp [edCells]
theorem edCells_append (l m : List Ed) : edCells (l ++ m) = edCells l ++ edCells m := by simp [edCells]
theorem edCells_length (l : List Ed) : (edCells l).length = l.length * 3 := by
  induction l with
  | nil => rfl
  | cons e l ih => simp only [edCells, List.flatMap_cons, List.length_append] at *; rw [ih]; simp [edCell]; omega
theorem info_edit : (Try.prog.info? 32).map (fun i => (i.zero, i.size, i.bytes)) = some (some (.agg #[.int .i64 0, .int .i64 0, .string ByteArray.empty]), 3, 32) := by kernel_rfl

/-- The Edit in its box. -/
def EdBox (W : World) (E : Nat) (e : Ed) : Prop := W.heap[E]? = some (.cells #[.int .i64 e.keep, .int .i64 e.drop, .string (txt e.text)] 32 (0, 0))

/-- What Make answers: the error's number, and the script. -/
def mkOut (a b : ByteArray) : Int × List Ed :=
  if badAt a < 0 ∧ badAt b < 0 then (if (runs a 0).length ≤ 400 ∧ (runs b 0).length ≤ 400 then (0, mkD (runs a 0) (runs b 0)) else (7, [])) else (2, [])

/-- What a call leaves that answers a new script and a number. -/
def NewEds (k : IntKind) (c : Int) (l : List Ed) (w : World) (r : Ending) (w' : World) : Prop :=
  ∃ v, r = .returned (.tuple #[v, .int k c]) ∧ w'.ownsRow w.heap.size 32 3 v l.length (edCells l) ∧ Keep [] w w' ∧ (v = .slice none 0 0 ↔ l.length = 0)

theorem own_next2 {e : TypeId} {sz n m base : Nat} {cs news : List Value} {w wr w1 w2 : World} {v v' : Value} (hb : w.heap.size ≤ base) (h1 : wr.ownsRow base e sz v n cs) (h2 : Keep [] w wr) (hw1 : Keep [] wr w1) (ha : AppPost w1 base e sz v n cs m news v' w2) (hm : 0 < m) :
    w2.ownsRow base e sz v' (n + m) (cs ++ news) ∧ Keep [] w w2 ∧ (v' = .slice none 0 0 ↔ n + m = 0) ∧ ∀ k, k < base → k < wr.heap.size → w2.heap[k]? = wr.heap[k]? := by
  obtain ⟨a1, a2, a3, a4⟩ := ha
  refine ⟨a1, (h2.trans0 hw1).trans a2 (fun b hb' => by simp at hb'; exact .inr (Nat.le_trans hb (h1.lt b hb').1)), ?_, fun k hk hkw => ?_⟩
  · rw [a4]; omega
  · have hk1 : k < w1.heap.size := Nat.lt_of_lt_of_le hkw hw1.size
    rw [a2.block k hk1 (fun h => by simp at h; have := (h1.lt k h).1; omega), hw1.block k hkw (by simp)]

theorem txt_full {l : List Int} (h : l ≠ []) : (txt l).toList.isEmpty = false := by
  cases l with
  | nil => exact absurd rfl h
  | cons n l =>
    rw [ByteArray.toList_eq]
    have h1 := (enc_size n).1
    have h2 : 0 < (txt (n :: l)).size := by show 0 < (Utf8.encode n ++ txt l).size; rw [ByteArray.size_append]; omega
    generalize txt (n :: l) = t at *
    have : t.data.toList.length = t.size := by rw [Array.length_toList]; rfl
    cases hd : t.data.toList with
    | nil => rw [hd] at this; simp at this; omega
    | cons => rfl

/-- What holds between two steps of Make: the Edit in its box E, the script so far in a row of the call's own. -/
structure EdInv (w0 W : World) (E : Nat) (v : Value) (pre : List Ed) (e : Ed) : Prop where
  box : EdBox W E e
  row : W.ownsRow (E + 1) 32 3 v pre.length (edCells pre)
  nil : v = .slice none 0 0 ↔ pre.length = 0
  keep : Keep [] w0 W
  le : w0.heap.size ≤ E
namespace EdInv
variable {w0 W W' : World} {E : Nat} {v : Value} {pre : List Ed} {e : Ed}
theorem drewN (h : EdInv w0 W E v pre e) (n : Nat) : EdInv w0 (W.drewN n) E v pre e := ⟨h.box, h.row, h.nil, h.keep.drewN n, h.le⟩
theorem drew (h : EdInv w0 W E v pre e) : EdInv w0 W.drew E v pre e := ⟨h.box, h.row, h.nil, h.keep.drew, h.le⟩
theorem next (h : EdInv w0 W E v pre e) (k : Keep [] W W') : EdInv w0 W' E v pre e := ⟨k.at_ h.box (by simp), k.owns h.row (by simp), h.nil, h.keep.trans0 k, h.le⟩
theorem set (h : EdInv w0 W E v pre e) (i : Nat) (u : Value) (e' : Ed)
    (hc : (#[.int .i64 e.keep, .int .i64 e.drop, .string (txt e.text)] : Array Value).setIfInBounds i u = #[.int .i64 e'.keep, .int .i64 e'.drop, .string (txt e'.text)]) :
    EdInv w0 (W.setCell ⟨E, i, none⟩ u) E v pre e' := by
  refine ⟨?_, ownsRow_setCell_other h.row (fun hb => ?_) _, h.nil, h.keep.setCell (.inr h.le) _, h.le⟩
  · have := block_setCell h.box i u
    rw [hc] at this
    exact this
  · have := (h.row.lt _ hb).1
    simp at this; omega
theorem grow {w1 : World} {v' : Value} (h : EdInv w0 W E v pre e) (hw1 : Keep [] W w1) (ha : AppPost w1 (E + 1) 32 3 v pre.length (edCells pre) 1 (edCell e) v' W') : EdInv w0 W' E v' (pre ++ [e]) e := by
  obtain ⟨a1, a2, a3, a4⟩ := own_next2 (w := w0) (Nat.le_trans h.le (Nat.le_succ _)) h.row h.keep hw1 ha (by omega)
  refine ⟨(a4 E (by omega) (lt_of_block h.box)).trans h.box, ?_, ?_, a2, h.le⟩
  · rw [List.length_append, edCells_snoc]; exact a1
  · rw [List.length_append]; exact a3
theorem c0 (h : EdInv w0 W E v pre e) : W.cell? ⟨E, 0, none⟩ = some (.int .i64 e.keep) := by rw [cell_of_block h.box]; rfl
theorem c1 (h : EdInv w0 W E v pre e) : W.cell? ⟨E, 1, none⟩ = some (.int .i64 e.drop) := by rw [cell_of_block h.box]; rfl
theorem c2 (h : EdInv w0 W E v pre e) : W.cell? ⟨E, 2, none⟩ = some (.string (txt e.text)) := by rw [cell_of_block h.box]; rfl
theorem free (h : EdInv w0 W E v pre e) (i : Nat) : W.frozen? ⟨E, i, none⟩ = false := free_of_block h.box i
theorem lt (h : EdInv w0 W E v pre e) : E < W.heap.size := lt_of_block h.box
end EdInv
theorem lay_drew {w0 W : World} {E : Nat} {so : Value} {pre : List Ed} {e : Ed} {p q : Addr} {u v : Value} (h : W.cell? p = some u ∧ W.cell? q = some v ∧ W.frozen? p = false ∧ EdInv w0 W E so pre e) :
    W.drew.cell? p = some u ∧ W.drew.cell? q = some v ∧ W.drew.frozen? p = false ∧ EdInv w0 W.drew E so pre e := ⟨h.1, h.2.1, h.2.2.1, h.2.2.2.drew⟩
theorem lay_keep {w0 W W' : World} {E : Nat} {so : Value} {pre : List Ed} {e : Ed} {q : Addr} {u v : Value} (k : Keep [] W W') (h : W.cell? ⟨E, 2, none⟩ = some u ∧ W.cell? q = some v ∧ W.frozen? ⟨E, 2, none⟩ = false ∧ EdInv w0 W E so pre e) :
    W'.cell? ⟨E, 2, none⟩ = some u ∧ W'.cell? q = some v ∧ W'.frozen? ⟨E, 2, none⟩ = false ∧ EdInv w0 W' E so pre e := ⟨k.cellv h.1 (by simp), k.cellv h.2.1 (by simp), (h.2.2.2.next k).free 2, h.2.2.2.next k⟩

set_option maxRecDepth 100000 in
set_option maxHeartbeats 16000000 in
theorem rmake_any (a b : ByteArray) (w : World) (ha : a.size ≤ 1000000) (hb : b.size ≤ 1000000) :
    Calls Try.prog 12 #[.string a, .string b] w (NewEds .i64 (mkOut a b).1 (mkOut a b).2 w) := by
  obtain ⟨i0, hi, hz0, hz1, hz2⟩ := info_parts info_edit
  have HI := Lib.hid hi; have HZ0 := Lib.hid hz0; have HZ1 := Lib.hid hz1; have HZ2 := Lib.hid hz2
  clear hi hz0 hz1 hz2
  go_enter Try.func12, Try.ntmps12
  go_wp2_with fail
  refine (rgood_any a _ (by omega)).mono ?_
  rintro q w1 ⟨rfl, hk1⟩
  have HK1 := Lib.hid hk1; clear hk1
  by_cases hga : badAt a < 0
  · rw [decide_eq_true hga]
    go_wp2_with fail
    refine (rgood_any b _ (by omega)).mono ?_
    rintro q w2 ⟨rfl, hk2⟩
    have HK2 := Lib.hid (HK1.out.trans0 hk2); clear hk2
    by_cases hgb : badAt b < 0
    · rw [decide_eq_true hgb]
      have HM : Hid (mkOut a b = if (runs a 0).length ≤ 400 ∧ (runs b 0).length ≤ 400 then (0, mkD (runs a 0) (runs b 0)) else (7, [])) := by show _ = _; unfold mkOut; rw [if_pos ⟨hga, hgb⟩]
      go_wp2_with fail
      refine (rrunes_any a _ (by omega)).mono ?_
      rintro r w3 ⟨va, rfl, ho3, hk3, _⟩
      have HO3 := Lib.hid (SlAt.of_owns ho3); have HK3 := Lib.hid (HK2.out.trans0 hk3); clear ho3 hk3
      obtain ⟨ada, ca, rfl, _⟩ := HO3.out
      go_wp2_with fail
      refine (rrunes_any b _ (by omega)).mono ?_
      rintro r w4 ⟨vb, rfl, ho4, hk4, _⟩
      have HX := Lib.hid (HO3.out.keep0 hk4); have HY := Lib.hid (SlAt.of_owns ho4); have HK4 := Lib.hid (HK3.out.trans0 hk4); clear ho4 hk4 HO3
      obtain ⟨adb, cb, rfl, _⟩ := HY.out
      generalize runs a 0 = x at *
      generalize runs b 0 = y at *
      obtain ⟨n, hn⟩ : ∃ n, n = x.length := ⟨_, rfl⟩
      obtain ⟨m, hm⟩ : ∃ m, m = y.length := ⟨_, rfl⟩
      rw [← hn, ← hm]
      by_cases hnl : n ≤ 400
      · by_cases hml : m ≤ 400
        · rw [if_pos ⟨by omega, by omega⟩] at HM
          rw [HM.out]
          have h1 : ¬ ((400 : Int) < (n : Int)) := by omega
          have h2 : ¬ ((400 : Int) < (m : Int)) := by omega
          have HN := Lib.hid hn; have HMM := Lib.hid hm; clear hn hm
          go_wp2_with fail
          --MARK
          refine (left_any _ _ x y _ (by rw [HN.out]; exact HX.out) (by rw [HMM.out]; exact HY.out) (by rw [← HN.out]; omega) (by rw [← HMM.out]; omega)).mono ?_
          rintro r w5 ⟨vt, rfl, ⟨T, rfl, hL⟩, hk5⟩
          have HK5 := Lib.hid (HK4.out.trans0 hk5)
          have HX5 := Lib.hid (HX.out.keep0 hk5); have HY5 := Lib.hid (HY.out.keep0 hk5)
          clear hk5 HX HY HK1 HK2 HK3 HK4 h1 h2
          rw [← HN.out] at HX5; rw [← HMM.out] at HY5
          rw [← HN.out, ← HMM.out] at hL ⊢
          obtain ⟨c, hc⟩ : ∃ c, c = (n + 1) * (m + 1) := ⟨_, rfl⟩
          rw [← hc]
          have HC := Lib.hid hc; have HL := Lib.hid hL; clear hc hL
          go_wp2
          have hE1 : (w5.alloc (.cells #[.int .i64 0, .int .i64 0, .string ByteArray.empty] 32)).heap[w5.heap.size]? = some (.cells #[.int .i64 0, .int .i64 0, .string ByteArray.empty] 32 (0, 0)) := heap_alloc_new _ _
          have HE1 := Lib.hid hE1; clear hE1
          go_loopw [10, 12, 13] (fun so si sj wr => ∃ (i j : Nat) (e : Ed) (pre : List Ed), i ≤ n ∧ j ≤ m ∧ si = .int .i64 i ∧ sj = .int .i64 j ∧ mkD x y = pre ++ mk x y i j e ∧ e.keep ≤ i ∧ e.drop ≤ i ∧ e.text.length ≤ j ∧ pre.length ≤ i ∧
            EdInv w5 wr w5.heap.size so pre e) (fun _ si sj _ => (n - (intOf si).toNat) + (m - (intOf sj).toNat))
          case atStart => exact ⟨0, 0, ⟨0, 0, []⟩, [], by omega, by omega, rfl, rfl, rfl, by simp, by simp, by simp, by simp, HE1.out, World.ownsRow_nil _ _ _ _, by simp, (Keep.refl _ _).alloc _, Nat.le_refl _⟩
          case round =>
            obtain ⟨i, j, e, pre, hin, hjm, rfl, rfl, hmk, hb1, hb2, hb3, hb4, hinv⟩ := hrel
            have HMK := Lib.hid hmk; have HIN := Lib.hid hinv
            clear hmk hinv
            by_cases hin2 : i = n
            · by_cases hjm2 : j = m
              · subst hin2; subst hjm2
                have hnd1 : decide (i < i) = false := by simp
                rw [HN.out, HMM.out, mk_end] at HMK
                have c0 := HIN.out.c0
                have c1 := HIN.out.c1
                have c2 := HIN.out.c2
                have f0 := HIN.out.free 0
                have f1 := HIN.out.free 1
                have f2 := HIN.out.free 2
                have hElt := HIN.out.lt
                by_cases hful : e.full
                · by_cases hd0 : 0 < e.drop
                  · have hdi : ((0 : Int) < (e.drop : Int)) := by omega
                    obtain ⟨tx, htx⟩ : ∃ tx, tx = txt e.text := ⟨_, rfl⟩
                    rw [← htx] at c2
                    have HTX : Hid ([Value.int .i64 e.keep, .int .i64 e.drop, .string tx] = edCell e) := by show _ = _; rw [htx]; rfl
                    have HFU := Lib.hid hful; clear hful htx
                    go_wp2_with (with_reducible refine park_append 149 151 _ rfl ?_)
                    refine wpList_append_mine _ rfl (.tmp 149) (.tmp 151) 23 rfl (w5.heap.size + 1) 32 i0 (.agg #[.int .i64 0, .int .i64 0, .string ByteArray.empty]) 3 32 Try.underlying23 HI.out HZ0.out HZ1.out HZ2.out rfl (by decide) _ _ _ rfl (HIN.out.row.alloc _) ⟨wr.heap.size, 0, none⟩ 1 1 [.int .i64 e.keep, .int .i64 e.drop, .string tx] rfl rfl (cell_new_row _ _ _) (by simp [Value.oneCell']) (by unfold maxLen; omega) (by omega) (by simp; omega) ?_
                    intro v' W2 hp2
                    rw [HTX.out] at hp2
                    have hin2 := HIN.out.grow ((Keep.refl _ _).alloc _) hp2
                    have HIN2 := Lib.hid hin2
                    clear hp2 hin2
                    go_wp2_with fail
                    go_ret2
                    rw [HM.out]
                    have hfl : pre ++ e.flush = pre ++ [e] := by unfold Ed.flush; rw [if_pos HFU.out]
                    rw [hfl] at HMK
                    rw [HMK.out]
                    exact ⟨_, rfl, owns_mono HIN2.out.row (by have := HK5.out.size; omega), HK5.out.trans0 HIN2.out.keep, HIN2.out.nil⟩
                  · have hd1 : e.drop = 0 := by omega
                    have ht0 : e.text ≠ [] := by rcases hful with h | h; omega; exact h
                    have hte := txt_full ht0
                    rw [hd1] at c1
                    obtain ⟨tx, htx⟩ : ∃ tx, tx = txt e.text := ⟨_, rfl⟩
                    rw [← htx] at c2 hte
                    have HTX : Hid ([Value.int .i64 e.keep, .int .i64 (0 : Nat), .string tx] = edCell e) := by show _ = _; rw [htx, ← hd1]; rfl
                    have HFU := Lib.hid hful; clear hful htx ht0
                    go_wp2_with (with_reducible refine park_append 149 151 _ rfl ?_)
                    refine wpList_append_mine _ rfl (.tmp 149) (.tmp 151) 23 rfl (w5.heap.size + 1) 32 i0 (.agg #[.int .i64 0, .int .i64 0, .string ByteArray.empty]) 3 32 Try.underlying23 HI.out HZ0.out HZ1.out HZ2.out rfl (by decide) _ _ _ rfl (HIN.out.row.alloc _) ⟨wr.heap.size, 0, none⟩ 1 1 [.int .i64 e.keep, .int .i64 (0 : Nat), .string tx] rfl rfl (cell_new_row _ _ _) (by simp [Value.oneCell']) (by unfold maxLen; omega) (by omega) (by simp; omega) ?_
                    intro v' W2 hp2
                    rw [HTX.out] at hp2
                    have hin2 := HIN.out.grow ((Keep.refl _ _).alloc _) hp2
                    have HIN2 := Lib.hid hin2
                    clear hp2 hin2
                    go_wp2_with fail
                    go_ret2
                    rw [HM.out]
                    have hfl : pre ++ e.flush = pre ++ [e] := by unfold Ed.flush; rw [if_pos HFU.out]
                    rw [hfl] at HMK
                    rw [HMK.out]
                    exact ⟨_, rfl, owns_mono HIN2.out.row (by have := HK5.out.size; omega), HK5.out.trans0 HIN2.out.keep, HIN2.out.nil⟩
                · obtain ⟨q1, q2⟩ := e.not_full hful
                  rw [q1] at c1
                  rw [q2, show txt [] = ByteArray.empty from rfl] at c2
                  have HFU := Lib.hid hful; clear hful
                  go_wp2_with fail
                  go_ret2
                  rw [HM.out]
                  have hfl : pre ++ e.flush = pre := by unfold Ed.flush; rw [if_neg HFU.out, List.append_nil]
                  rw [hfl] at HMK
                  rw [HMK.out]
                  exact ⟨_, rfl, owns_mono HIN.out.row (by have := HK5.out.size; omega), HK5.out.trans0 HIN.out.keep, HIN.out.nil⟩
              · subst hin2
                have hjlt : j < m := by omega
                have hnd1 : decide (i < i) = false := by simp
                have hjm3 : ((j : Int) < (m : Int)) := by omega
                have hnj : ((j : Int) == (m : Int)) = false := by rw [beq_eq_false_iff_ne]; omega
                have hjy : j < y.length := by rw [← HMM.out]; exact hjlt
                obtain ⟨bb, ob, ccb, hvb, hcb⟩ := HY5.out.at_ (by omega)
                cases hvb
                have eyj := HIN.out.keep.cellv (hcb j (.int .i32 y[j]) (by rw [List.getElem?_map, List.getElem?_eq_getElem hjy]; rfl)) (by simp)
                have hmk2 : mk x y i j e = mk x y i (j + 1) (e.lay y[j]) := by rw [HN.out]; exact mk_lay0 hjy e
                rw [hmk2] at HMK
                have hye : (y.map (Value.int .i32))[j]? = some (.int .i32 y[j]) := by rw [List.getElem?_map, List.getElem?_eq_getElem hjy]; rfl
                have HCB := Lib.hid hcb
                clear hcb hmk2
                generalize y[j] = yj at *
                have HYE := Lib.hid hye; clear hye
                go_wp2_with fail
                go_quiet (fail)
                generalize hwq : wr.drewN nq = wq
                have HINq := Lib.hid (HIN.out.drewN nq)
                rw [hwq] at HINq
                replace HIN := HINq
                clear HINq hwq
                go_wp2_with fail
                go_quiet (fail)
                generalize hwq2 : wq.drewN nq = wq2
                have HINq := Lib.hid (HIN.out.drewN nq)
                rw [hwq2] at HINq
                replace HIN := HINq
                clear HINq hwq2
                clear eyj
                go_wp2_with fail
                have hts := txt_size e.text
                have hes := (enc_size yj).2
                have eyj := HIN.out.keep.cellv (HCB.out j (.int .i32 yj) HYE.out) (by simp)
                have c2 := HIN.out.c2
                have f2 := HIN.out.free 2
                have hElt := HIN.out.lt
                obtain ⟨tx, htx⟩ : ∃ tx, tx = txt e.text := ⟨_, rfl⟩
                rw [← htx] at c2 hts
                have HTX := Lib.hid htx
                clear htx
                go_region_with (go_at_call 32; refine (rencode_any yj _).mono ?_; rintro q w1' ⟨rfl, hk1'⟩; have hin1 := HIN.out.drew.next hk1'; have d2 := hin1.c2; have g2 := hin1.free 2; rw [← HTX.out] at d2; have HIN1 := Lib.hid hin1; clear hk1' hin1)
                all_goals
                  go_wp2_with fail
                  exact ⟨⟨i, j + 1, e.lay yj, pre, by omega, by omega, rfl, by go_num, HMK.out, hb1, hb2, by show (e.text ++ [yj]).length ≤ j + 1; simp; omega, hb4,
                    HIN1.out.set 2 (.string (tx ++ Utf8.encode yj)) (e.lay yj) (by show _ = #[_, _, Value.string (txt (e.text ++ [yj]))]; rw [txt_snoc, ← HTX.out]; rfl)⟩, by simp [intOf]; omega⟩
            · have hlt : i < n := by omega
              have hin3 : ((i : Int) < (n : Int)) := by omega
              have hix : i < x.length := by rw [← HN.out]; exact hlt
              obtain ⟨ba, oa, cca, hva, hca⟩ := HX5.out.at_ (by omega)
              cases hva
              have exi := HIN.out.keep.cellv (hca i (.int .i32 x[i]) (by rw [List.getElem?_map, List.getElem?_eq_getElem hix]; rfl)) (by simp)
              by_cases hjm2 : j = m
              · subst hjm2
                have hmk2 : mk x y i j e = mk x y (i + 1) j e.more := by rw [HMM.out]; exact mk_more0 hix e
                rw [hmk2] at HMK
                clear hmk2
                go_wp2_with fail
                go_quiet (fail)
                generalize hwq : wr.drewN nq = wq
                have HINq := Lib.hid (HIN.out.drewN nq)
                rw [hwq] at HINq
                replace HIN := HINq
                clear HINq hwq
                clear exi
                go_wp2_with fail
                go_quiet (fail)
                generalize hwq2 : wq.drewN nq = wq2
                have HINq := Lib.hid (HIN.out.drewN nq)
                rw [hwq2] at HINq
                replace HIN := HINq
                clear HINq hwq2
                have c1 := HIN.out.c1
                have f1 := HIN.out.free 1
                have hElt := HIN.out.lt

                go_wp2_with fail
                exact ⟨⟨i + 1, j, e.more, pre, by omega, by omega, by go_num, by go_num, HMK.out, by show e.keep ≤ i + 1; omega, by show e.drop + 1 ≤ i + 1; omega, hb3, by omega,
                  HIN.out.set 1 (.int .i64 ((e.drop : Int) + 1)) e.more rfl⟩, by simp [intOf]; omega⟩
              · have hjlt : j < m := by omega
                have hjm3 : ((j : Int) < (m : Int)) := by omega
                have hjy : j < y.length := by rw [← HMM.out]; exact hjlt
                obtain ⟨bb, ob, ccb, hvb, hcb⟩ := HY5.out.at_ (by omega)
                cases hvb
                have eyj := HIN.out.keep.cellv (hcb j (.int .i32 y[j]) (by rw [List.getElem?_map, List.getElem?_eq_getElem hjy]; rfl)) (by simp)
                have hsame : x[i] = y[j] → Hid (mk x y i j e = e.flush ++ mk x y (i + 1) (j + 1) e.nxt) := fun h => mk_same hix hjy h e
                have hye : (y.map (Value.int .i32))[j]? = some (.int .i32 y[j]) := by rw [List.getElem?_map, List.getElem?_eq_getElem hjy]; rfl
                have HCA := Lib.hid hca; have HCB := Lib.hid hcb; have HSA := Lib.hid hsame
                clear hca hcb hsame
                generalize hxi : x[i] = xi at *
                generalize hyj : y[j] = yj at *
                have HYE := Lib.hid hye; clear hye
                have HXI := Lib.hid hxi; have HYJ := Lib.hid hyj; clear hxi hyj
                by_cases hxy : xi = yj
                · subst hxy
                  rw [(HSA.out rfl).out] at HMK
                  go_wp2_with fail
                  go_quiet (fail)
                  generalize hwq : wr.drewN nq = wq
                  have HINq := Lib.hid (HIN.out.drewN nq)
                  rw [hwq] at HINq
                  replace HIN := HINq
                  clear HINq
                  clear hwq exi eyj
                  have c0 := HIN.out.c0
                  have c1 := HIN.out.c1
                  have c2 := HIN.out.c2
                  have f0 := HIN.out.free 0
                  have f1 := HIN.out.free 1
                  have f2 := HIN.out.free 2
                  have hElt := HIN.out.lt
                  by_cases hful : e.full
                  · by_cases hd0 : 0 < e.drop
                    · have hdi : ((0 : Int) < (e.drop : Int)) := by omega
                      obtain ⟨tx, htx⟩ : ∃ tx, tx = txt e.text := ⟨_, rfl⟩
                      rw [← htx] at c2
                      have HTX : Hid ([Value.int .i64 e.keep, .int .i64 e.drop, .string tx] = edCell e) := by show _ = _; rw [htx]; rfl
                      have HFU := Lib.hid hful; clear hful htx
                      go_wp2_with (with_reducible refine park_append 91 93 _ rfl ?_)
                      refine wpList_append_mine _ rfl (.tmp 91) (.tmp 93) 23 rfl (w5.heap.size + 1) 32 i0 (.agg #[.int .i64 0, .int .i64 0, .string ByteArray.empty]) 3 32 Try.underlying23 HI.out HZ0.out HZ1.out HZ2.out rfl (by decide) _ _ _ rfl (HIN.out.row.alloc _) ⟨wq.heap.size, 0, none⟩ 1 1 [.int .i64 e.keep, .int .i64 e.drop, .string tx] rfl rfl (cell_new_row _ _ _) (by simp [Value.oneCell']) (by unfold maxLen; omega) (by omega) (by simp; omega) ?_
                      intro v' W2 hp2
                      rw [HTX.out] at hp2
                      have hin2 := HIN.out.grow ((Keep.refl _ _).alloc _) hp2
                      have g0 := hin2.c0; have g1 := hin2.c1; have g2 := hin2.c2; have g3 := hin2.free 0; have g4 := hin2.free 1; have g5 := hin2.free 2; have g6 := hin2.lt
                      have HIN2 := Lib.hid hin2
                      clear hp2 hin2
                      go_wp2_with fail
                      have hnx : e.nxt = ⟨1, 0, []⟩ := by unfold Ed.nxt; rw [if_pos HFU.out]
                      have hfl : e.flush = [e] := by unfold Ed.flush; rw [if_pos HFU.out]
                      rw [hnx, hfl] at HMK
                      exact ⟨⟨i + 1, j + 1, ⟨1, 0, []⟩, pre ++ [e], by omega, by omega, by go_num, by go_num, by rw [HMK.out, List.append_assoc], by simp, by simp, by simp, by simp; omega,
                        (((HIN2.out.set 0 (.int .i64 0) ⟨0, e.drop, e.text⟩ rfl).set 1 (.int .i64 0) ⟨0, 0, e.text⟩ rfl).set 2 (.string ⟨#[]⟩) ⟨0, 0, []⟩ rfl).set 0 (.int .i64 1) ⟨1, 0, []⟩ rfl⟩, by simp [intOf]; omega⟩
                    · have hd1 : e.drop = 0 := by omega
                      have ht0 : e.text ≠ [] := by rcases hful with h | h; omega; exact h
                      have hte := txt_full ht0
                      rw [hd1] at c1
                      obtain ⟨tx, htx⟩ : ∃ tx, tx = txt e.text := ⟨_, rfl⟩
                      rw [← htx] at c2 hte
                      have HTX : Hid ([Value.int .i64 e.keep, .int .i64 (0 : Nat), .string tx] = edCell e) := by show _ = _; rw [htx, ← hd1]; rfl
                      have HFU := Lib.hid hful; clear hful htx ht0
                      go_wp2_with (with_reducible refine park_append 91 93 _ rfl ?_)
                      refine wpList_append_mine _ rfl (.tmp 91) (.tmp 93) 23 rfl (w5.heap.size + 1) 32 i0 (.agg #[.int .i64 0, .int .i64 0, .string ByteArray.empty]) 3 32 Try.underlying23 HI.out HZ0.out HZ1.out HZ2.out rfl (by decide) _ _ _ rfl (HIN.out.row.alloc _) ⟨wq.heap.size, 0, none⟩ 1 1 [.int .i64 e.keep, .int .i64 (0 : Nat), .string tx] rfl rfl (cell_new_row _ _ _) (by simp [Value.oneCell']) (by unfold maxLen; omega) (by omega) (by simp; omega) ?_
                      intro v' W2 hp2
                      rw [HTX.out] at hp2
                      have hin2 := HIN.out.grow ((Keep.refl _ _).alloc _) hp2
                      have g0 := hin2.c0; have g1 := hin2.c1; have g2 := hin2.c2; have g3 := hin2.free 0; have g4 := hin2.free 1; have g5 := hin2.free 2; have g6 := hin2.lt
                      have HIN2 := Lib.hid hin2
                      clear hp2 hin2
                      go_wp2_with fail
                      have hnx : e.nxt = ⟨1, 0, []⟩ := by unfold Ed.nxt; rw [if_pos HFU.out]
                      have hfl : e.flush = [e] := by unfold Ed.flush; rw [if_pos HFU.out]
                      rw [hnx, hfl] at HMK
                      exact ⟨⟨i + 1, j + 1, ⟨1, 0, []⟩, pre ++ [e], by omega, by omega, by go_num, by go_num, by rw [HMK.out, List.append_assoc], by simp, by simp, by simp, by simp; omega,
                        (((HIN2.out.set 0 (.int .i64 0) ⟨0, e.drop, e.text⟩ rfl).set 1 (.int .i64 0) ⟨0, 0, e.text⟩ rfl).set 2 (.string ⟨#[]⟩) ⟨0, 0, []⟩ rfl).set 0 (.int .i64 1) ⟨1, 0, []⟩ rfl⟩, by simp [intOf]; omega⟩
                  · obtain ⟨q1, q2⟩ := e.not_full hful
                    rw [q1] at c1
                    rw [q2, show txt [] = ByteArray.empty from rfl] at c2
                    have HFU := Lib.hid hful; clear hful
                    go_wp2_with fail
                    have hnx : e.nxt = ⟨e.keep + 1, 0, []⟩ := by unfold Ed.nxt; rw [if_neg HFU.out]
                    have hfl : e.flush = [] := by unfold Ed.flush; rw [if_neg HFU.out]
                    rw [hnx, hfl, List.nil_append] at HMK
                    exact ⟨⟨i + 1, j + 1, ⟨e.keep + 1, 0, []⟩, pre, by omega, by omega, by go_num, by go_num, HMK.out, by simp; omega, by simp, by simp, by omega,
                      HIN.out.set 0 (.int .i64 ((e.keep : Int) + 1)) ⟨e.keep + 1, 0, []⟩ (by rw [q1, q2]; rfl)⟩, by simp [intOf]; omega⟩
                · have hdxy : decide (xi = yj) = false := by simpa using hxy
                  have hne : x[i] ≠ y[j] := by rw [HXI.out, HYJ.out]; exact hxy
                  have hnj : ((j : Int) == (m : Int)) = false := by rw [beq_eq_false_iff_ne]; omega
                  obtain ⟨p, hp⟩ : ∃ p, p = i * (m + 1) := ⟨_, rfl⟩
                  have hpi : (i : Int) * ((m : Int) + 1) = (p : Int) := by rw [hp]; push_cast; rfl
                  have hp2 : (i + 1) * (m + 1) = p + (m + 1) := by rw [Nat.succ_mul, hp]
                  have hpi2 : ((i : Int) + 1) * ((m : Int) + 1) = (p : Int) + ((m : Int) + 1) := by rw [Int.add_mul, hpi]; omega
                  have hpc2 : p + (m + 1) + (m + 1) ≤ c := by
                    have : (i + 1 + 1) * (m + 1) ≤ (n + 1) * (m + 1) := Nat.mul_le_mul_right _ (by omega)
                    rw [Nat.succ_mul, hp2] at this; rw [HC.out]; exact this
                  have hcl : c ≤ 160801 := by rw [HC.out]; exact Nat.mul_le_mul (show n + 1 ≤ 401 by omega) (show m + 1 ≤ 401 by omega)
                  have e00 := HIN.out.keep.cellv (HL.out i j (by omega) (by omega)) (by simp)
                  have e10 := HIN.out.keep.cellv (HL.out (i + 1) j (by omega) (by omega)) (by simp)
                  rw [show rw_ m i j = p + j by unfold rw_; rw [hp]] at e00
                  rw [show rw_ m (i + 1) j = p + (m + 1) + j by unfold rw_; rw [hp2]] at e10
                  have hq1 : ((p : Int) + ((m : Int) + 1) + (j : Int) < (c : Int)) := by omega
                  have hq2 : ((p : Int) + (j : Int) < (c : Int)) := by omega
                  have hr1 : ((0 : Int) ≤ (p : Int) + ((m : Int) + 1) + (j : Int)) := by omega
                  have hr2 : ((0 : Int) ≤ (p : Int) + (j : Int)) := by omega
                  have ht1 : ((p : Int) + ((m : Int) + 1) + (j : Int)).toNat = p + (m + 1) + j := by omega
                  have ht2 : ((p : Int) + (j : Int)).toNat = p + j := by omega
                  have hM := Lib.hid (fun hl => mk_more hix hjy hne hl e)
                  have hL' := Lib.hid (fun hl => mk_lay hix hjy hne hl e)
                  rw [HYJ.out] at hL'
                  clear hp hp2 hne
                  generalize hv10 : lf x y (i + 1) j = v10 at *
                  generalize hv00 : lf x y i j = v00 at *
                  have HV10 := Lib.hid hv10; have HV00 := Lib.hid hv00; clear hv10 hv00
                  go_wp2_with fail
                  go_quiet (fail)
                  have e00' : (wr.drewN nq).cell? _ = _ := e00
                  have e10' : (wr.drewN nq).cell? _ = _ := e10
                  have eyj' : (wr.drewN nq).cell? _ = _ := eyj
                  generalize hwq : wr.drewN nq = wq
                  have HINq := Lib.hid (HIN.out.drewN nq)
                  rw [hwq] at HINq
                  replace HIN := HINq
                  rw [hwq] at e00' e10' eyj'
                  clear HINq hwq e00 e10 eyj
                  clear exi
                  by_cases hl : v10 < v00
                  · have hdl : decide (v10 < v00) = true := by simpa using hl
                    rw [hM.out hl] at HMK
                    go_wp2_with fail
                    go_quiet (fail)
                    generalize hwq2 : wq.drewN nq = wq2
                    have HINq := Lib.hid (HIN.out.drewN nq)
                    rw [hwq2] at HINq
                    replace HIN := HINq
                    clear HINq hwq2
                    clear e00' e10' eyj'
                    have c1 := HIN.out.c1
                    have f1 := HIN.out.free 1
                    have hElt := HIN.out.lt

                    go_wp2_with fail
                    exact ⟨⟨i + 1, j, e.more, pre, by omega, by omega, by go_num, by go_num, HMK.out, by show e.keep ≤ i + 1; omega, by show e.drop + 1 ≤ i + 1; omega, hb3, by omega,
                      HIN.out.set 1 (.int .i64 ((e.drop : Int) + 1)) e.more rfl⟩, by simp [intOf]; omega⟩
                  · have hdl : decide (v10 < v00) = false := by simpa using hl
                    rw [hL'.out hl] at HMK
                    go_wp2_with fail
                    go_quiet (fail)
                    have eyj : (wq.drewN nq).cell? _ = _ := eyj'
                    generalize hwq2 : wq.drewN nq = wq2
                    have HINq := Lib.hid (HIN.out.drewN nq)
                    rw [hwq2] at HINq
                    replace HIN := HINq
                    rw [hwq2] at eyj
                    clear HINq hwq2
                    clear e00' e10' eyj' eyj
                    go_wp2_with fail
                    have hts := txt_size e.text
                    have hes := (enc_size yj).2
                    have eyj := HIN.out.keep.cellv (HCB.out j (.int .i32 yj) HYE.out) (by simp)
                    have c2 := HIN.out.c2
                    have f2 := HIN.out.free 2
                    have hElt := HIN.out.lt
                    obtain ⟨tx, htx⟩ : ∃ tx, tx = txt e.text := ⟨_, rfl⟩
                    rw [← htx] at c2 hts
                    have HTX := Lib.hid htx
                    clear htx
                    go_region_with (go_at_call 32; refine (rencode_any yj _).mono ?_; rintro q w1' ⟨rfl, hk1'⟩; have hin1 := HIN.out.drew.next hk1'; have d2 := hin1.c2; have g2 := hin1.free 2; rw [← HTX.out] at d2; have HIN1 := Lib.hid hin1; clear hk1' hin1)
                    all_goals
                      go_wp2_with fail
                      exact ⟨⟨i, j + 1, e.lay yj, pre, by omega, by omega, rfl, by go_num, HMK.out, hb1, hb2, by show (e.text ++ [yj]).length ≤ j + 1; simp; omega, hb4,
                        HIN1.out.set 2 (.string (tx ++ Utf8.encode yj)) (e.lay yj) (by show _ = #[_, _, Value.string (txt (e.text ++ [yj]))]; rw [txt_snoc, ← HTX.out]; rfl)⟩, by simp [intOf]; omega⟩
        · rw [if_neg (by omega)] at HM
          have h1 : ¬ ((400 : Int) < (n : Int)) := by omega
          have h2 : ((400 : Int) < (m : Int)) := by omega
          go_wp2_with fail
          go_ret2
          rw [HM.out]
          exact ⟨_, rfl, World.ownsRow_nil _ _ _ _, HK4.out, by simp⟩
      · rw [if_neg (by omega)] at HM
        have h1 : ((400 : Int) < (n : Int)) := by omega
        go_wp2_with fail
        go_ret2
        rw [HM.out]
        exact ⟨_, rfl, World.ownsRow_nil _ _ _ _, HK4.out, by simp⟩
    · rw [decide_eq_false hgb]
      have HM : Hid (mkOut a b = (2, [])) := by show _ = _; unfold mkOut; rw [if_neg (fun h => hgb h.2)]
      go_wp2_with fail
      go_ret2
      rw [HM.out]
      exact ⟨_, rfl, World.ownsRow_nil _ _ _ _, HK2.out, by simp⟩
  · rw [decide_eq_false hga]
    have HM : Hid (mkOut a b = (2, [])) := by show _ = _; unfold mkOut; rw [if_neg (fun h => hga h.1)]
    go_wp2_with fail
    go_ret2
    rw [HM.out]
    exact ⟨_, rfl, World.ownsRow_nil _ _ _ _, HK1.out, by simp⟩
end Go.Proofs.Ytddbjclpmkelaaa
