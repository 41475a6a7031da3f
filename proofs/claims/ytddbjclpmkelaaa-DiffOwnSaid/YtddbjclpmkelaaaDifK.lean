/-
  Make: its closure.
-/
import Derived.Test.YtddbjclpmkelaaaDifJ
import Derived.Test.YtddbjclpmkelaaaDifH
namespace Go.Proofs.Ytddbjclpmkelaaa
open Go.RowKit
set_option linter.unusedVariables false
set_option linter.unusedSimpArgs false

theorem slice_mid (g m lo hi : Nat) (h1 : lo ≤ hi) (h2 : hi ≤ m) (W : World) :
    (Instr.slice 44 (.slice (some ⟨g, 0, none⟩) m m) (some (.int .i64 (lo : Int))) (some (.int .i64 (hi : Int))) (some (.int .i64 (hi : Int)))).run Try.prog W = .ok (sliced (some ⟨g, 0, none⟩) lo hi hi 1) W := by
  have hs : (sizeOf (Try.prog.elem 44)).run Try.prog W = .ok 1 W := by kernel_rfl
  rw [run_slice_any (P := Try.prog) W 44 (some ⟨g, 0, none⟩) m m (by kernel_rfl)]
  have hb : (Instr.sliceBounds true m m (some (.int .i64 (lo : Int))) (some (.int .i64 (hi : Int))) (some (.int .i64 (hi : Int)))).run Try.prog W = .ok (lo, hi, hi) W := by
    simp [Instr.sliceBounds, run_sliceBound, h1, h2]
  rw [hb]
  simp only [Result.andThen, hs]
/-- A middle piece of a row of runes. -/
theorem mid_at {W : World} {g m lo hi : Nat} {y : List Int} (hm : m = y.length) (h1 : lo ≤ hi) (h2 : hi ≤ m) (hc : ∀ (j : Nat) (u : Value), (y.map (Value.int .i32))[j]? = some u → W.cell? ⟨g, j, none⟩ = some u) :
    SlAt W (sliced (some ⟨g, 0, none⟩) lo hi hi 1) ((y.drop lo).take (hi - lo)).length (((y.drop lo).take (hi - lo)).map (Value.int .i32)) := by
  have hl : ((y.drop lo).take (hi - lo)).length = hi - lo := by simp; omega
  rw [hl]
  unfold sliced
  refine ⟨_, _, rfl, ⟨fun h0 => ?_, fun h0 => ?_⟩, fun hn => ?_⟩
  · rw [h0]; simp
  · exfalso; revert h0; split <;> simp
  · rw [if_neg (by omega)]
    refine ⟨g, lo, ?_, fun i u hu => ?_⟩
    · rw [Nat.mul_one, Option.map_some, addr0_add]
    · refine hc (lo + i) u ?_
      rw [List.getElem?_map, List.getElem?_take] at hu
      split at hu
      · rw [List.getElem?_drop] at hu
        rw [List.getElem?_map]; exact hu
      · simp at hu

/-- What Make's variables hold between two steps; w0: the world ahead of them. -/
structure MkSt (w0 W : World) (v : Value) (pre : List Ed) (kept drop fr k : Nat) : Prop where
  bl : W.heap[w0.heap.size]? = some (.cells #[v] 23 (0, 0))
  bk : W.heap[w0.heap.size + 1]? = some (.cells #[.int .i64 k] 3 (0, 0))
  bp : W.heap[w0.heap.size + 2]? = some (.cells #[.int .i64 kept] 3 (0, 0))
  bf : W.heap[w0.heap.size + 3]? = some (.cells #[.int .i64 fr] 3 (0, 0))
  be : ∃ a b, W.heap[w0.heap.size + 4]? = some (.cells #[a, .int .i64 drop, b] 32 (0, 0))
  row : W.ownsRow (w0.heap.size + 5) 32 3 v pre.length (edCells pre)
  nil : v = .slice none 0 0 ↔ pre.length = 0
  keep : Keep [] w0 W

/-- What is kept behind it. -/
def Ed.kp (e : Ed) : Nat := if e.full then 0 else e.keep
namespace MkSt
variable {w0 W : World} {v : Value} {pre : List Ed} {kept drop fr k : Nat}
theorem setE0 (h : MkSt w0 W v pre kept drop fr k) (u : Value) : MkSt w0 (W.setCell ⟨w0.heap.size + 4, 0, none⟩ u) v pre kept drop fr k := by
  exact ⟨(block_setCell_other _ (by simp)).trans h.bl, (block_setCell_other _ (by simp)).trans h.bk, (block_setCell_other _ (by simp)).trans h.bp, (block_setCell_other _ (by simp)).trans h.bf, (by obtain ⟨a, b, h⟩ := h.be; exact ⟨u, b, by have := block_setCell h 0 u; exact this⟩), (ownsRow_setCell_other h.row (fun hb => by have := (h.row.lt _ hb).1; simp at this; try omega) _), h.nil, (h.keep.setCell (.inr (by simp)) _)⟩
theorem setE2 (h : MkSt w0 W v pre kept drop fr k) (u : Value) : MkSt w0 (W.setCell ⟨w0.heap.size + 4, 2, none⟩ u) v pre kept drop fr k := by
  exact ⟨(block_setCell_other _ (by simp)).trans h.bl, (block_setCell_other _ (by simp)).trans h.bk, (block_setCell_other _ (by simp)).trans h.bp, (block_setCell_other _ (by simp)).trans h.bf, (by obtain ⟨a, b, h⟩ := h.be; exact ⟨a, u, by have := block_setCell h 2 u; exact this⟩), (ownsRow_setCell_other h.row (fun hb => by have := (h.row.lt _ hb).1; simp at this; try omega) _), h.nil, (h.keep.setCell (.inr (by simp)) _)⟩
theorem setE1 (h : MkSt w0 W v pre kept drop fr k) (d : Nat) : MkSt w0 (W.setCell ⟨w0.heap.size + 4, 1, none⟩ (.int .i64 d)) v pre kept d fr k := by
  exact ⟨(block_setCell_other _ (by simp)).trans h.bl, (block_setCell_other _ (by simp)).trans h.bk, (block_setCell_other _ (by simp)).trans h.bp, (block_setCell_other _ (by simp)).trans h.bf, (by obtain ⟨a, b, h⟩ := h.be; exact ⟨a, b, by have := block_setCell h 1 (.int .i64 d); exact this⟩), (ownsRow_setCell_other h.row (fun hb => by have := (h.row.lt _ hb).1; simp at this; try omega) _), h.nil, (h.keep.setCell (.inr (by simp)) _)⟩
theorem setP (h : MkSt w0 W v pre kept drop fr k) (d : Nat) : MkSt w0 (W.setCell ⟨w0.heap.size + 2, 0, none⟩ (.int .i64 d)) v pre d drop fr k := by
  exact ⟨(block_setCell_other _ (by simp)).trans h.bl, (block_setCell_other _ (by simp)).trans h.bk, (one_setCell h.bp), (block_setCell_other _ (by simp)).trans h.bf, (by obtain ⟨a, b, h⟩ := h.be; exact ⟨a, b, (block_setCell_other _ (by simp)).trans h⟩), (ownsRow_setCell_other h.row (fun hb => by have := (h.row.lt _ hb).1; simp at this; try omega) _), h.nil, (h.keep.setCell (.inr (by simp)) _)⟩
theorem setF (h : MkSt w0 W v pre kept drop fr k) (d : Nat) : MkSt w0 (W.setCell ⟨w0.heap.size + 3, 0, none⟩ (.int .i64 d)) v pre kept drop d k := by
  exact ⟨(block_setCell_other _ (by simp)).trans h.bl, (block_setCell_other _ (by simp)).trans h.bk, (block_setCell_other _ (by simp)).trans h.bp, (one_setCell h.bf), (by obtain ⟨a, b, h⟩ := h.be; exact ⟨a, b, (block_setCell_other _ (by simp)).trans h⟩), (ownsRow_setCell_other h.row (fun hb => by have := (h.row.lt _ hb).1; simp at this; try omega) _), h.nil, (h.keep.setCell (.inr (by simp)) _)⟩
theorem setK (h : MkSt w0 W v pre kept drop fr k) (d : Nat) : MkSt w0 (W.setCell ⟨w0.heap.size + 1, 0, none⟩ (.int .i64 d)) v pre kept drop fr d := by
  exact ⟨(block_setCell_other _ (by simp)).trans h.bl, (one_setCell h.bk), (block_setCell_other _ (by simp)).trans h.bp, (block_setCell_other _ (by simp)).trans h.bf, (by obtain ⟨a, b, h⟩ := h.be; exact ⟨a, b, (block_setCell_other _ (by simp)).trans h⟩), (ownsRow_setCell_other h.row (fun hb => by have := (h.row.lt _ hb).1; simp at this; try omega) _), h.nil, (h.keep.setCell (.inr (by simp)) _)⟩
theorem drew (h : MkSt w0 W v pre kept drop fr k) : MkSt w0 W.drew v pre kept drop fr k := ⟨h.bl, h.bk, h.bp, h.bf, h.be, h.row, h.nil, h.keep.drew⟩
theorem drewN (h : MkSt w0 W v pre kept drop fr k) (n : Nat) : MkSt w0 (W.drewN n) v pre kept drop fr k := ⟨h.bl, h.bk, h.bp, h.bf, h.be, h.row, h.nil, h.keep.drewN n⟩
theorem lt (h : MkSt w0 W v pre kept drop fr k) : w0.heap.size + 4 < W.heap.size := by obtain ⟨a, b, h⟩ := h.be; exact lt_of_block h
theorem grow {W1 W2 : World} {v' : Value} {e : Ed} (h : MkSt w0 W v pre kept drop fr k) (hw1 : Keep [] W W1) (ha : AppPost W1 (w0.heap.size + 5) 32 3 v pre.length (edCells pre) 1 (edCell e) v' W2) :
    (∀ b, b < w0.heap.size + 5 → W2.heap[b]? = W.heap[b]?) ∧ MkSt w0 (W2.setCell ⟨w0.heap.size, 0, none⟩ v') v' (pre ++ [e]) kept drop fr k := by
  obtain ⟨a1, a2, a3, a4⟩ := own_next2 (w := w0) (by omega) h.row h.keep hw1 ha (by omega)
  have hlt := h.lt
  have hb : ∀ b, b < w0.heap.size + 5 → W2.heap[b]? = W.heap[b]? := fun b hb => a4 b hb (by omega)
  refine ⟨hb, one_setCell ((hb _ (by omega)).trans h.bl), ?_, ?_, ?_, ?_, ?_, ?_, a2.setCell (.inr (by simp)) _⟩
  · exact (block_setCell_other _ (by simp)).trans ((hb _ (by omega)).trans h.bk)
  · exact (block_setCell_other _ (by simp)).trans ((hb _ (by omega)).trans h.bp)
  · exact (block_setCell_other _ (by simp)).trans ((hb _ (by omega)).trans h.bf)
  · obtain ⟨a, b, h4⟩ := h.be; exact ⟨a, b, (block_setCell_other _ (by simp)).trans ((hb _ (by omega)).trans h4)⟩
  · rw [List.length_append, edCells_snoc]; exact ownsRow_setCell_other a1 (fun hb => by have := (a1.lt _ hb).1; simp at this; omega) _
  · rw [List.length_append]; exact a3
end MkSt

/-- The text that is gathered. -/
def mid (y : List Int) (fr k : Nat) : List Int := (y.drop fr).take (k - fr)
theorem mid_len {y : List Int} {fr k : Nat} (h1 : fr ≤ k) (h2 : k ≤ y.length) : (mid y fr k).length = k - fr := by unfold mid; simp; omega

set_option maxRecDepth 100000 in
set_option maxHeartbeats 16000000 in
theorem done_any (w0 w : World) (v : Value) (pre : List Ed) (kept drop fr k Y g m : Nat) (y : List Int) (h : MkSt w0 w v pre kept drop fr k)
    (hY : w0.heap[Y]? = some (.cells #[.slice (some ⟨g, 0, none⟩) m m] 44 (0, 0))) (hm : m = y.length) (hc : ∀ (j : Nat) (u : Value), (y.map (Value.int .i32))[j]? = some u → w0.cell? ⟨g, j, none⟩ = some u)
    (hm2 : m ≤ 1000) (h1 : fr ≤ k) (h2 : k ≤ m) (h3 : kept ≤ 1000) (h4 : drop ≤ 1000) (h5 : pre.length ≤ 1000) :
    Calls Try.prog 27 #[.pointer (some ⟨w0.heap.size + 4, 0, none⟩), .pointer (some ⟨w0.heap.size + 1, 0, none⟩), .pointer (some ⟨w0.heap.size + 3, 0, none⟩), .pointer (some ⟨w0.heap.size + 2, 0, none⟩), .pointer (some ⟨Y, 0, none⟩), .pointer (some ⟨w0.heap.size, 0, none⟩)] w
      fun e w' => e = .returned (.tuple #[]) ∧ ∃ v', MkSt w0 w' v' (pre ++ (Ed.mk kept drop (mid y fr k)).flush) (Ed.mk kept drop (mid y fr k)).kp 0 fr k := by
  obtain ⟨i0, hi, hz0, hz1, hz2⟩ := info_parts info_edit
  have HI := Lib.hid hi; have HZ0 := Lib.hid hz0; have HZ1 := Lib.hid hz1; have HZ2 := Lib.hid hz2
  clear hi hz0 hz1 hz2
  obtain ⟨ea, eb, hbe⟩ := h.be
  have cK : w.cell? ⟨w0.heap.size + 1, 0, none⟩ = some (.int .i64 k) := cell_of_one h.bk
  have cF : w.cell? ⟨w0.heap.size + 3, 0, none⟩ = some (.int .i64 fr) := cell_of_one h.bf
  have cP : w.cell? ⟨w0.heap.size + 2, 0, none⟩ = some (.int .i64 kept) := cell_of_one h.bp
  have cL : w.cell? ⟨w0.heap.size, 0, none⟩ = some v := cell_of_one h.bl
  have cY : w.cell? ⟨Y, 0, none⟩ = some (.slice (some ⟨g, 0, none⟩) m m) := h.keep.cellv (cell_of_one hY) (by simp)
  have e0 : w.cell? ⟨w0.heap.size + 4, 0, none⟩ = some ea := by rw [cell_of_block hbe]; rfl
  have e1 : w.cell? ⟨w0.heap.size + 4, 1, none⟩ = some (.int .i64 drop) := by rw [cell_of_block hbe]; rfl
  have e2 : w.cell? ⟨w0.heap.size + 4, 2, none⟩ = some eb := by rw [cell_of_block hbe]; rfl
  have f0 := free_of_block hbe 0
  have f1 := free_of_block hbe 1
  have f2 := free_of_block hbe 2
  have fL := free_of_one h.bl
  have fP := free_of_one h.bp
  have hlen : (mid y fr k).length = k - fr := mid_len h1 (by omega)
  have HS := Lib.hid h; have HBE := Lib.hid hbe; have HYY := Lib.hid hY; have HC := Lib.hid hc; have HM := Lib.hid hm; have HLN := Lib.hid hlen
  clear h hbe hY hc hm hlen
  go_enter Try.func27, Try.ntmps27
  by_cases hd0 : 0 < drop
  · have hdi : ((0 : Int) < (drop : Int)) := by omega
    have HFU : Hid ((Ed.mk kept drop (mid y fr k)).full) := Lib.hid (.inl hd0)
    have hsl := slice_mid g m fr k h1 h2
    obtain ⟨sv, hsv⟩ : ∃ sv, sv = sliced (some ⟨g, 0, none⟩) fr k k 1 := ⟨_, rfl⟩
    rw [← hsv] at hsl
    have HT : Hid (∀ W, Keep [] w0 W → Calls Try.prog 28 #[sv] W fun e w' => e = .returned (.string (txt (mid y fr k))) ∧ w' = W) := by
      show ∀ W, _
      intro W hk
      refine (text_any sv (mid y fr k) W ?_).mono (fun e w' hh => ⟨hh.1, hh.2.symm⟩)
      rw [hsv]
      exact mid_at HM.out h1 h2 (fun j u hu => hk.cellv (HC.out j u hu) (by simp))
    obtain ⟨tx, htx⟩ : ∃ tx, tx = txt (mid y fr k) := ⟨_, rfl⟩
    rw [← htx] at HT
    have HTX := Lib.hid htx; clear htx hsv
    go_wp2_with fail
    refine wp_still_tail_drew 8 (by kernel_rfl) (by kernel_rfl) ?_
    simp only [List.take_succ_cons, List.take_zero, List.drop_succ_cons, List.drop_zero]
    repeat still_step
    still_call (HT.out _ HS.out.keep.drew)
    repeat still_step
    refine wpStill_nil ?_
    go_wp2_with (with_reducible refine park_append 23 25 _ rfl ?_)
    obtain ⟨W3, hW3⟩ : ∃ W3, W3 = (w.setCell ⟨w0.heap.size + 4, 0, none⟩ (.int .i64 kept)).setCell ⟨w0.heap.size + 4, 2, none⟩ (.string tx) := ⟨_, rfl⟩
    have hm3 : MkSt w0 W3 v pre kept drop fr k := by rw [hW3]; exact (HS.out.setE0 _).setE2 _
    have hs3 : W3.heap.size = w.heap.size := by rw [hW3]; simp [World.setCell]
    rw [← hW3]
    have HM3 := Lib.hid hm3; have HS3 := Lib.hid hs3
    have hlt3 := hm3.lt
    clear hW3 hm3 hs3
    refine wpList_append_mine _ rfl (.tmp 23) (.tmp 25) 23 rfl (w0.heap.size + 5) 32 i0 (.agg #[.int .i64 0, .int .i64 0, .string ByteArray.empty]) 3 32 Try.underlying23 HI.out HZ0.out HZ1.out HZ2.out rfl (by decide) _ _ _ rfl (HM3.out.row.alloc _).drew ⟨w.heap.size, 0, none⟩ 1 1 [.int .i64 kept, .int .i64 drop, .string tx] rfl rfl (fun j u hu => by have := cell_new_row W3 _ 32 j u hu; rw [HS3.out] at this; exact this) (by simp [Value.oneCell']) (by unfold maxLen; omega) (by omega) (by show _ ≤ (W3.alloc _).heap.size; simp; omega) ?_
    intro v' W4 hp4
    have hce : [Value.int .i64 kept, .int .i64 drop, .string tx] = edCell ⟨kept, drop, mid y fr k⟩ := by rw [HTX.out]; rfl
    rw [hce] at hp4
    obtain ⟨hb4, hm4⟩ := HM3.out.grow ((Keep.refl _ _).alloc _).drew hp4
    obtain ⟨adv, cpv, hv', _⟩ := SlAt.of_owns hm4.row
    rw [List.length_append, List.length_singleton] at hv'
    subst hv'
    obtain ⟨a4, b4, hbe4⟩ := HM3.out.be
    have k0 := (hb4 _ (by omega)).trans hbe4
    have kl := (hb4 _ (by omega)).trans HM3.out.bl
    have kp := (hb4 _ (by omega)).trans HM3.out.bp
    have g0 : W4.cell? ⟨w0.heap.size + 4, 0, none⟩ = some a4 := by rw [cell_of_block k0]; rfl
    have g1 : W4.cell? ⟨w0.heap.size + 4, 1, none⟩ = some (.int .i64 drop) := by rw [cell_of_block k0]; rfl
    have g2 : W4.cell? ⟨w0.heap.size + 4, 2, none⟩ = some b4 := by rw [cell_of_block k0]; rfl
    have g3 := free_of_block k0 0
    have g4 := free_of_block k0 1
    have g5 := free_of_block k0 2
    have g6 : W4.cell? ⟨w0.heap.size, 0, none⟩ = some v := cell_of_one kl
    have g7 := free_of_one kl
    have g8 : W4.cell? ⟨w0.heap.size + 2, 0, none⟩ = some (.int .i64 kept) := cell_of_one kp
    have g9 := free_of_one kp
    have HM4 := Lib.hid hm4; clear hp4 hb4 hm4 k0 kl kp hbe4 hce
    go_wp2_with fail
    go_end0
    have hfu : (Ed.mk kept drop (mid y fr k)).full := HFU.out
    rw [show (Ed.mk kept drop (mid y fr k)).kp = 0 by unfold Ed.kp; rw [if_pos hfu], show (Ed.mk kept drop (mid y fr k)).flush = [Ed.mk kept drop (mid y fr k)] by unfold Ed.flush; rw [if_pos hfu]]
    exact ⟨rfl, _, ((((HM4.out.setE0 (.int .i64 0)).setE1 0).setE2 (.string ⟨#[]⟩)).setP 0)⟩
  · have hd1 : drop = 0 := by omega
    subst hd1
    by_cases hkf : fr < k
    · have hdi : ((fr : Int) < (k : Int)) := by omega
      have HFU : Hid ((Ed.mk kept 0 (mid y fr k)).full) := Lib.hid (.inr (fun h => by have h' : mid y fr k = [] := h; have := HLN.out; rw [h'] at this; simp at this; omega))
      have hsl := slice_mid g m fr k h1 h2
      obtain ⟨sv, hsv⟩ : ∃ sv, sv = sliced (some ⟨g, 0, none⟩) fr k k 1 := ⟨_, rfl⟩
      rw [← hsv] at hsl
      have HT : Hid (∀ W, Keep [] w0 W → Calls Try.prog 28 #[sv] W fun e w' => e = .returned (.string (txt (mid y fr k))) ∧ w' = W) := by
        show ∀ W, _
        intro W hk
        refine (text_any sv (mid y fr k) W ?_).mono (fun e w' hh => ⟨hh.1, hh.2.symm⟩)
        rw [hsv]
        exact mid_at HM.out h1 h2 (fun j u hu => hk.cellv (HC.out j u hu) (by simp))
      obtain ⟨tx, htx⟩ : ∃ tx, tx = txt (mid y fr k) := ⟨_, rfl⟩
      rw [← htx] at HT
      have HTX := Lib.hid htx; clear htx hsv
      go_wp2_with fail
      refine wp_still_tail_drew 8 (by kernel_rfl) (by kernel_rfl) ?_
      simp only [List.take_succ_cons, List.take_zero, List.drop_succ_cons, List.drop_zero]
      repeat still_step
      still_call (HT.out _ HS.out.keep.drew)
      repeat still_step
      refine wpStill_nil ?_
      go_wp2_with (with_reducible refine park_append 23 25 _ rfl ?_)
      obtain ⟨W3, hW3⟩ : ∃ W3, W3 = (w.setCell ⟨w0.heap.size + 4, 0, none⟩ (.int .i64 kept)).setCell ⟨w0.heap.size + 4, 2, none⟩ (.string tx) := ⟨_, rfl⟩
      have hm3 : MkSt w0 W3 v pre kept 0 fr k := by rw [hW3]; exact (HS.out.setE0 _).setE2 _
      have hs3 : W3.heap.size = w.heap.size := by rw [hW3]; simp [World.setCell]
      rw [← hW3]
      have HM3 := Lib.hid hm3; have HS3 := Lib.hid hs3
      have hlt3 := hm3.lt
      clear hW3 hm3 hs3
      refine wpList_append_mine _ rfl (.tmp 23) (.tmp 25) 23 rfl (w0.heap.size + 5) 32 i0 (.agg #[.int .i64 0, .int .i64 0, .string ByteArray.empty]) 3 32 Try.underlying23 HI.out HZ0.out HZ1.out HZ2.out rfl (by decide) _ _ _ rfl (HM3.out.row.alloc _).drew ⟨w.heap.size, 0, none⟩ 1 1 [.int .i64 kept, .int .i64 (0 : Nat), .string tx] rfl rfl (fun j u hu => by have := cell_new_row W3 _ 32 j u hu; rw [HS3.out] at this; exact this) (by simp [Value.oneCell']) (by unfold maxLen; omega) (by omega) (by show _ ≤ (W3.alloc _).heap.size; simp; omega) ?_
      intro v' W4 hp4
      have hce : [Value.int .i64 kept, .int .i64 (0 : Nat), .string tx] = edCell ⟨kept, 0, mid y fr k⟩ := by rw [HTX.out]; rfl
      rw [hce] at hp4
      obtain ⟨hb4, hm4⟩ := HM3.out.grow ((Keep.refl _ _).alloc _).drew hp4
      obtain ⟨adv, cpv, hv', _⟩ := SlAt.of_owns hm4.row
      rw [List.length_append, List.length_singleton] at hv'
      subst hv'
      obtain ⟨a4, b4, hbe4⟩ := HM3.out.be
      have k0 := (hb4 _ (by omega)).trans hbe4
      have kl := (hb4 _ (by omega)).trans HM3.out.bl
      have kp := (hb4 _ (by omega)).trans HM3.out.bp
      have g0 : W4.cell? ⟨w0.heap.size + 4, 0, none⟩ = some a4 := by rw [cell_of_block k0]; rfl
      have g1 : W4.cell? ⟨w0.heap.size + 4, 1, none⟩ = some (.int .i64 (0 : Nat)) := by rw [cell_of_block k0]; rfl
      have g2 : W4.cell? ⟨w0.heap.size + 4, 2, none⟩ = some b4 := by rw [cell_of_block k0]; rfl
      have g3 := free_of_block k0 0
      have g4 := free_of_block k0 1
      have g5 := free_of_block k0 2
      have g6 : W4.cell? ⟨w0.heap.size, 0, none⟩ = some v := cell_of_one kl
      have g7 := free_of_one kl
      have g8 : W4.cell? ⟨w0.heap.size + 2, 0, none⟩ = some (.int .i64 kept) := cell_of_one kp
      have g9 := free_of_one kp
      have HM4 := Lib.hid hm4; clear hp4 hb4 hm4 k0 kl kp hbe4 hce
      go_wp2_with fail
      go_end0
      have hfu : (Ed.mk kept 0 (mid y fr k)).full := HFU.out
      rw [show (Ed.mk kept 0 (mid y fr k)).kp = 0 by unfold Ed.kp; rw [if_pos hfu], show (Ed.mk kept 0 (mid y fr k)).flush = [Ed.mk kept 0 (mid y fr k)] by unfold Ed.flush; rw [if_pos hfu]]
      exact ⟨rfl, _, ((((HM4.out.setE0 (.int .i64 0)).setE1 0).setE2 (.string ⟨#[]⟩)).setP 0)⟩
    · have hkf2 : ¬ ((fr : Int) < (k : Int)) := by omega
      have hnf : ¬ (Ed.mk kept 0 (mid y fr k)).full := by
        unfold Ed.full
        rintro (h | h)
        · simp at h
        · exact h (List.eq_nil_of_length_eq_zero (by rw [HLN.out]; omega))
      have HNF := Lib.hid hnf; clear hnf
      go_wp2_with fail
      go_end0
      rw [show (Ed.mk kept 0 (mid y fr k)).kp = kept by unfold Ed.kp; rw [if_neg HNF.out], show (Ed.mk kept 0 (mid y fr k)).flush = [] by unfold Ed.flush; rw [if_neg HNF.out], List.append_nil]
      exact ⟨rfl, v, HS.out⟩
end Go.Proofs.Ytddbjclpmkelaaa
