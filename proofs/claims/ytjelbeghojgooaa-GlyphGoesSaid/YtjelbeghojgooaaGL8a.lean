/-
  Walks of turned, goes.
-/
import Derived.Test.YtjelbeghojgooaaGlyI
import Derived.Test.YtjelbeghojgooaaGlyY
namespace Go.Proofs.Ytjelbeghojgooaa
open Go.RowKit Go.Shelf
set_option linter.unusedVariables false
set_option linter.unusedSimpArgs false

set_option maxHeartbeats 8000000 in
theorem turned_any (vp : Value) (s : ByteArray) (l : List Nat) (w : World) (hp : PcAt w vp s l) (hl : l.length ≤ 1073741824) :
    Calls Try.prog 35 #[vp] w (NewSl 50 4 l.reverse.length (piecesCells s l.reverse) w) := by
  obtain ⟨i0, hi, hz0, hz1, hz2⟩ := info_parts info_piece
  have HI := Lib.hid hi; have HZ0 := Lib.hid hz0; have HZ1 := Lib.hid hz1; have HZ2 := Lib.hid hz2
  clear hi hz0 hz1 hz2
  obtain ⟨ad, cap, rfl, hc⟩ := hp
  have HC := Lib.hid hc; clear hc
  obtain ⟨n, hn⟩ : ∃ n, n = l.length := ⟨_, rfl⟩
  have hlr : l.reverse.length = n := by rw [List.length_reverse, hn]
  have HLR := Lib.hid hlr; clear hlr
  rw [← hn] at hl ⊢
  have HNN := Lib.hid hn; clear hn
  go_enter Try.func35, Try.ntmps35
  go_wp2
  go_loopw [3, 4] (fun v i wr => Keep [] w wr ∧ ((∃ k : Nat, k < n ∧ i = .int .i64 k ∧ wr.ownsRow w.heap.size 50 4 v (n - (k + 1)) (piecesCells s (l.reverse.take (n - (k + 1)))) ∧ (v = .slice none 0 0 ↔ n - (k + 1) = 0)) ∨ (i = .int .i64 (-1) ∧ wr.ownsRow w.heap.size 50 4 v n (piecesCells s l.reverse) ∧ (v = .slice none 0 0 ↔ n = 0)))) (fun _ i _ => (intOf i + 1).toNat)
  case atStart =>
    refine ⟨Keep.refl _ _, ?_⟩
    rcases Nat.eq_zero_or_pos n with h | h
    · right
      have : l = [] := List.eq_nil_of_length_eq_zero (by rw [← HNN.out]; exact h)
      subst this
      rw [h]
      exact ⟨rfl, World.ownsRow_nil _ _ _ _, by simp⟩
    · left
      refine ⟨n - 1, by omega, by congr 1; omega, ?_, ?_⟩
      · rw [show n - (n - 1 + 1) = 0 by omega]; exact World.ownsRow_nil _ _ _ _
      · rw [show n - (n - 1 + 1) = 0 by omega]; simp
  case round =>
    obtain ⟨hk, ⟨k, hkn, rfl, ho, hnil⟩ | ⟨rfl, ho, hnil⟩⟩ := hrel
    · have hge : decide ((0 : Int) ≤ (k : Int)) = true := by simp
      have hkl : k < l.length := by rw [← HNN.out]; exact hkn
      obtain ⟨b, off, rfl, hcs⟩ := HC.out (by rw [← HNN.out]; omega)
      have hke := List.getElem?_eq_getElem hkl
      obtain ⟨c0, c1, c2, c3⟩ := hcs k _ hke
      have d0 := hk.cellv c0 (by simp)
      have d1 := hk.cellv c1 (by simp)
      have d2 := hk.cellv c2 (by simp)
      have d3 := hk.cellv c3 (by simp)
      have hsz := hk.size
      have htk : l.reverse.take (n - (k + 1) + 1) = l.reverse.take (n - (k + 1)) ++ [l[k]] := by
        have hx : l.reverse[n - (k + 1)]? = some l[k] := by
          have h1 := HNN.out
          rw [List.getElem?_reverse (by omega), show l.length - 1 - (n - (k + 1)) = k by omega]; exact hke
        rw [List.take_add_one, hx]; rfl
      have hpc : piecesCells s (l.reverse.take (n - (k + 1) + 1)) = piecesCells s (l.reverse.take (n - (k + 1))) ++ [.int .i64 l[k], .int .i32 (dec s l[k]).1, .int .i64 (dec s l[k]).2, .bool (isB s l[k])] := by
        rw [htk, piecesCells_snoc]; rfl
      have HPC := Lib.hid hpc; have HO := Lib.hid ho; have HK := Lib.hid hk; have HN := Lib.hid hnil; have HCS := Lib.hid hcs
      clear hpc htk ho hk hnil hcs hke c0 c1 c2 c3
      generalize (dec s l[k]).1 = r1 at *
      generalize (dec s l[k]).2 = n1 at *
      generalize isB s l[k] = b1 at *
      generalize l[k] = x at *
      go_wp2_with (at_builtin; refine wpList_append_mine _ rfl (.tmp 12) (.tmp 17) 45 rfl w.heap.size 50 i0 (.agg #[.int .i64 0, .int .i32 0, .int .i64 0, .bool false]) 4 32 Try.underlying45 HI.out HZ0.out HZ1.out HZ2.out rfl (by decide) _ _ _ rfl (HO.out.alloc _) ⟨wr.heap.size, 0, none⟩ 1 1 [.int .i64 x, .int .i32 r1, .int .i64 n1, .bool b1] rfl rfl (cell_new_row _ _ _) (by simp [Value.oneCell']) (by unfold maxLen; omega) (by omega) (by simp; omega) ?_; intro v' W2 hp2; have hfin := Lib.hid (own_next HO.out HK.out ((Keep.refl _ _).alloc _) hp2 (by omega)); clear hp2)
      go_roundw
      case rel =>
        obtain ⟨f1, f2, f3⟩ := hfin.out
        rw [← HPC.out] at f1
        refine ⟨f2, ?_⟩
        rcases Nat.eq_zero_or_pos k with h | h
        · right
          subst h
          rw [show n - (0 + 1) + 1 = n by omega] at f1 f3
          rw [List.take_of_length_le (by rw [HLR.out]; exact Nat.le_refl _)] at f1
          exact ⟨rfl, f1, f3⟩
        · left
          rw [show n - (k + 1) + 1 = n - (k - 1 + 1) by omega] at f1 f3
          exact ⟨k - 1, by omega, by congr 1; omega, f1, f3⟩
      case measure => simp [intOf]
    · have HO := Lib.hid ho; have HK := Lib.hid hk; have HN := Lib.hid hnil
      clear ho hk hnil
      have hge : decide ((0 : Int) ≤ -1) = false := by decide
      go_wp2
      go_ret
      exact ⟨_, rfl, by rw [HLR.out]; exact HO.out, HK.out, by rw [HLR.out]; exact HN.out⟩

/-- What goes' closure finds between two rounds. -/
def GInv (B : Nat) (vp : Value) (s : ByteArray) (l : List Nat) (stop : Int) (w : World) (k : Nat) (fp : List Nat) (W : World) : Prop :=
  W.heap[B]? = some (.cells #[vp] 45 (0, 0)) ∧ W.heap[B + 1]? = some (.cells #[.int .i64 stop] 3 (0, 0)) ∧ W.heap[B + 2]? = some (.cells #[.int .i64 k] 3 (0, 0)) ∧
  W.heap[B + 3]? = some (.cells #[.bool true] 4 (0, 0)) ∧ W.heap[B + 4]? = some (.cells #[.bool false] 4 (0, 0)) ∧ PcAt W vp s l ∧ (stop ≤ 0 ∨ (k : Int) < stop) ∧ k ≤ l.length ∧ fp = [B, B + 1, B + 2, B + 3, B + 4] ∧ Keep [] w W
/-- .. and where it has been told to stop. -/
def GStop (B : Nat) (vp : Value) (s : ByteArray) (l : List Nat) (stop : Int) (w : World) (k : Nat) (fp : List Nat) (W : World) : Prop :=
  W.heap[B]? = some (.cells #[vp] 45 (0, 0)) ∧ W.heap[B + 1]? = some (.cells #[.int .i64 stop] 3 (0, 0)) ∧ W.heap[B + 2]? = some (.cells #[.int .i64 stop] 3 (0, 0)) ∧
  W.heap[B + 3]? = some (.cells #[.bool true] 4 (0, 0)) ∧ 0 < stop ∧ fp = [B, B + 1, B + 2, B + 3, B + 4] ∧ Keep [] w W
theorem PcAt.keep {w w' : World} {v : Value} {s : ByteArray} {l : List Nat} {L : List Nat} (h : PcAt w v s l) (hk : Keep L w w') (hv : ∀ g, v.ownBlock = some g → g ∉ L) : PcAt w' v s l := by
  obtain ⟨ad, cap, rfl, h1⟩ := h
  refine ⟨ad, cap, rfl, fun h0 => ?_⟩
  obtain ⟨b, off, rfl, hc⟩ := h1 h0
  refine ⟨b, off, rfl, fun k i hi => ?_⟩
  obtain ⟨a, b, c, d⟩ := hc k i hi
  have hb := hv _ rfl
  exact ⟨hk.cellv a hb, hk.cellv b hb, hk.cellv c hb, hk.cellv d hb⟩

set_option maxHeartbeats 8000000 in
/-- One round of goes' closure. -/
theorem goes1_any (B : Nat) (vp : Value) (s : ByteArray) (l : List Nat) (stop : Int) (w W : World) (k : Nat) (hk : k < l.length) (hl : l.length ≤ 1073741824) (hs0 : -9223372036854775808 ≤ stop) (hs1 : stop ≤ 9223372036854775807)
    (hB : w.heap.size ≤ B) (hvp : ∀ g, vp.ownBlock = some g → g < B) (h : GInv B vp s l stop w k [B, B + 1, B + 2, B + 3, B + 4] W) :
    Calls Try.prog 48 #[.int .i64 l[k], .int .i32 (dec s l[k]).1, .pointer (some ⟨B + 3, 0, none⟩), .pointer (some ⟨B + 4, 0, none⟩), .pointer (some ⟨B + 2, 0, none⟩), .pointer (some ⟨B, 0, none⟩), .pointer (some ⟨B + 1, 0, none⟩)] W
      (RoundPost (GInv B vp s l stop w) (GStop B vp s l stop w) k [B, B + 1, B + 2, B + 3, B + 4] W) := by
  obtain ⟨h0, h1, h2, h3, h4, hpc, hst, hkl, -, hkeep⟩ := h
  have c0 := cell_of_one h0
  have c1 := cell_of_one h1
  have c2 := cell_of_one h2
  have c3 := cell_of_one h3
  have c4 := cell_of_one h4
  have f2 := free_of_one h2
  have f3 := free_of_one h3
  have f4 := free_of_one h4
  have hpcc := hpc
  obtain ⟨ad, cap, rfl, hcs⟩ := hpcc
  obtain ⟨b, off, rfl, hcs2⟩ := hcs (by omega)
  obtain ⟨d0, d1, _, _⟩ := hcs2 k _ (List.getElem?_eq_getElem hk)
  have hbB : b < B := hvp b rfl
  have hfin : ∀ (o : Bool), Hid (((((W.setCell ⟨B + 3, 0, none⟩ (.bool true)).setCell ⟨B + 2, 0, none⟩ (.int .i64 ((k : Int) + 1))).setCell ⟨B + 4, 0, none⟩ (.bool o)).heap[B]? = some (.cells #[.slice (some ⟨b, off, none⟩) l.length cap] 45 (0, 0)) ∧
      (((W.setCell ⟨B + 3, 0, none⟩ (.bool true)).setCell ⟨B + 2, 0, none⟩ (.int .i64 ((k : Int) + 1))).setCell ⟨B + 4, 0, none⟩ (.bool o)).heap[B + 1]? = some (.cells #[.int .i64 stop] 3 (0, 0)) ∧
      (((W.setCell ⟨B + 3, 0, none⟩ (.bool true)).setCell ⟨B + 2, 0, none⟩ (.int .i64 ((k : Int) + 1))).setCell ⟨B + 4, 0, none⟩ (.bool o)).heap[B + 2]? = some (.cells #[.int .i64 ((k : Int) + 1)] 3 (0, 0)) ∧
      (((W.setCell ⟨B + 3, 0, none⟩ (.bool true)).setCell ⟨B + 2, 0, none⟩ (.int .i64 ((k : Int) + 1))).setCell ⟨B + 4, 0, none⟩ (.bool o)).heap[B + 3]? = some (.cells #[.bool true] 4 (0, 0)) ∧
      (((W.setCell ⟨B + 3, 0, none⟩ (.bool true)).setCell ⟨B + 2, 0, none⟩ (.int .i64 ((k : Int) + 1))).setCell ⟨B + 4, 0, none⟩ (.bool o)).heap[B + 4]? = some (.cells #[.bool o] 4 (0, 0))) ∧
      Keep [B, B + 1, B + 2, B + 3, B + 4] W (((W.setCell ⟨B + 3, 0, none⟩ (.bool true)).setCell ⟨B + 2, 0, none⟩ (.int .i64 ((k : Int) + 1))).setCell ⟨B + 4, 0, none⟩ (.bool o))) := fun o => by
    refine Lib.hid ⟨⟨?_, ?_, ?_, ?_, ?_⟩, (((Keep.refl _ _).setCell (by simp) _).setCell (by simp) _).setCell (by simp) _⟩
    · exact (block_setCell_other _ (by simp)).trans ((block_setCell_other _ (by simp)).trans ((block_setCell_other _ (by simp)).trans h0))
    · exact (block_setCell_other _ (by simp)).trans ((block_setCell_other _ (by simp)).trans ((block_setCell_other _ (by simp)).trans h1))
    · exact (block_setCell_other _ (by simp)).trans (one_setCell ((block_setCell_other _ (by simp)).trans h2))
    · exact (block_setCell_other _ (by simp)).trans ((block_setCell_other _ (by simp)).trans (one_setCell h3))
    · exact one_setCell ((block_setCell_other _ (by simp)).trans ((block_setCell_other _ (by simp)).trans h4))
  have HPC := Lib.hid hpc; have HKP := Lib.hid hkeep; have HV := Lib.hid hvp
  have HC2 := Lib.hid hcs2
  clear hcs hcs2 hpc hkeep hvp h0 h1 h2 h3 h4
  have HF1 := hfin true; have HF0 := hfin false; clear hfin
  generalize (dec s l[k]).1 = r1 at *
  generalize hlk : l[k] = x at *
  have HLK := Lib.hid hlk; clear hlk
  have hkl' : decide ((k : Int) < (l.length : Int)) = true := by simp; omega
  have hkn' : decide (k < l.length) = true := by simp; omega
  by_cases hs : stop = (k : Int) + 1
  · have hse : (((k : Int) + 1) == stop) = true := by simp; omega
    have HSE := Lib.hid hs
    clear hs
    go_enter Try.func48, Try.ntmps48
    go_wp2
    go_ret
    obtain ⟨⟨q0, q1, q2, q3, q4⟩, hkk⟩ := HF1.out
    have hst2 := HSE.out
    right
    exact ⟨rfl, _, ⟨q0, q1, by rw [hst2]; exact q2, q3, by omega, rfl, HKP.out.trans hkk (by intro y hy; simp at hy; omega)⟩, hkk, FromNew.refl _ _⟩
  · have hse : (((k : Int) + 1) == stop) = false := by simp; omega
    go_enter Try.func48, Try.ntmps48
    go_wp2
    go_ret
    obtain ⟨⟨q0, q1, q2, q3, q4⟩, hkk⟩ := HF0.out
    left
    refine ⟨rfl, _, ⟨q0, q1, q2, q3, q4, HPC.out.keep hkk (by intro g hg; have := HV.out g hg; simp; omega), by omega, by omega, rfl, HKP.out.trans hkk (by intro y hy; simp at hy; omega)⟩, hkk, FromNew.refl _ _⟩

theorem GInv.steady {B : Nat} {vp : Value} {s : ByteArray} {l : List Nat} {stop : Int} {w W : World} (hw : w.heap.size ≤ B) (hW : B + 4 < W.heap.size) (hvp : ∀ g, vp.ownBlock = some g → g < B) (k : Nat) : Steady [] W (GInv B vp s l stop w k) := by
  rintro fp W1 W2 S ⟨h0, h1, h2, h3, h4, h5, h6, h7, rfl, h8⟩ hk hS
  have hge : ∀ x ∈ S, W.heap.size ≤ x := fun x hx => by
    rcases (hS x hx).2 with h | h
    · cases h
    · exact h
  refine ⟨hk.at_ h0 (fun h => (hS _ h).1 (by simp)), hk.at_ h1 (fun h => (hS _ h).1 (by simp)), hk.at_ h2 (fun h => (hS _ h).1 (by simp)), hk.at_ h3 (fun h => (hS _ h).1 (by simp)), hk.at_ h4 (fun h => (hS _ h).1 (by simp)),
    h5.keep hk (fun g hg hm => by have := hvp g hg; have := hge g hm; omega), h6, h7, rfl, h8.trans hk (fun x hx => .inr (by have := hge x hx; omega))⟩
theorem GStop.steady {B : Nat} {vp : Value} {s : ByteArray} {l : List Nat} {stop : Int} {w W : World} (hw : w.heap.size ≤ B) (hW : B + 4 < W.heap.size) (k : Nat) : Steady [] W (GStop B vp s l stop w k) := by
  rintro fp W1 W2 S ⟨h0, h1, h2, h3, h4, rfl, h8⟩ hk hS
  have hge : ∀ x ∈ S, W.heap.size ≤ x := fun x hx => by
    rcases (hS x hx).2 with h | h
    · cases h
    · exact h
  exact ⟨hk.at_ h0 (fun h => (hS _ h).1 (by simp)), hk.at_ h1 (fun h => (hS _ h).1 (by simp)), hk.at_ h2 (fun h => (hS _ h).1 (by simp)), hk.at_ h3 (fun h => (hS _ h).1 (by simp)), h4, rfl, h8.trans hk (fun x hx => .inr (by have := hge x hx; omega))⟩

/-- The closure as a function value. -/
theorem enters_goes1 (args : Array Value) (w : World) : (callFunc 48 args).run Try.prog w = .ok (.enter 48 args) w := enters_of Try.func48 (by kernel_rfl) rfl args w

set_option maxHeartbeats 8000000 in
theorem goes_true (g : Nat) (lb : Array Value) (rd : List Nat) (Need : World → Prop) (vp : Value) (s : ByteArray) (l : List Nat) (stop : Int) (w : World) (eg : ∀ args w, (callFunc g args).run Try.prog w = .ok (.enter g args) w)
    (hit : Iters Try.prog g lb (l.map (pieceArgs s)) [] rd Need) (hneed : ∀ W, Keep [] w W → Need W) (hrd : ∀ b ∈ rd, b < w.heap.size) (hpc : PcAt w vp s l) (hvp : ∀ g, vp.ownBlock = some g → g < w.heap.size)
    (hl : l.length ≤ 1073741824) (hs0 : -9223372036854775808 ≤ stop) (hs1 : stop ≤ 9223372036854775807) :
    Calls Try.prog 37 #[.func (.func g) #[] lb, vp, .int .i64 stop] w fun e w' => e = .returned (.bool true) ∧ Keep [] w w' := by
  have hpc0 := hpc
  obtain ⟨ad, cap, rfl, _⟩ := hpc
  have HPC := Lib.hid hpc0; have HV := Lib.hid hvp; have HRD := Lib.hid hrd; have HIT := Lib.hid hit; have HND := Lib.hid hneed
  clear hpc0 hvp hrd hit hneed
  go_enter Try.func37, Try.ntmps37
  go_wp2_with fail
  generalize hW0 : ((((w.alloc (.cells #[.slice ad l.length cap] 45)).alloc (.cells #[.int .i64 stop] 3)).alloc (.cells #[.int .i64 0] 3)).alloc (.cells #[.bool true] 4)).alloc (.cells #[.bool false] 4) = W0
  have hk0 : Keep [] w W0 := by rw [← hW0]; exact (((((Keep.refl _ _).alloc _).alloc _).alloc _).alloc _).alloc _
  have hs0' : W0.heap.size = w.heap.size + 5 := by rw [← hW0]; simp
  have b0 : W0.heap[w.heap.size]? = some (.cells #[.slice ad l.length cap] 45 (0, 0)) := by
    rw [← hW0, Below.heap_alloc _ _ _ (by simp <;> omega), Below.heap_alloc _ _ _ (by simp <;> omega), Below.heap_alloc _ _ _ (by simp <;> omega), Below.heap_alloc _ _ _ (by simp)]; exact World.alloc_heap_new w _
  have b1 : W0.heap[w.heap.size + 1]? = some (.cells #[.int .i64 stop] 3 (0, 0)) := by
    rw [← hW0, Below.heap_alloc _ _ _ (by simp <;> omega), Below.heap_alloc _ _ _ (by simp <;> omega), Below.heap_alloc _ _ _ (by simp)]
    have := World.alloc_heap_new (w.alloc (.cells #[.slice ad l.length cap] 45)) (.cells #[.int .i64 stop] 3); rwa [World.size_alloc] at this
  have b2 : W0.heap[w.heap.size + 2]? = some (.cells #[.int .i64 0] 3 (0, 0)) := by
    rw [← hW0, Below.heap_alloc _ _ _ (by simp <;> omega), Below.heap_alloc _ _ _ (by simp)]
    have := World.alloc_heap_new ((w.alloc (.cells #[.slice ad l.length cap] 45)).alloc (.cells #[.int .i64 stop] 3)) (.cells #[.int .i64 0] 3); rwa [World.size_alloc, World.size_alloc] at this
  have b3 : W0.heap[w.heap.size + 3]? = some (.cells #[.bool true] 4 (0, 0)) := by
    rw [← hW0, Below.heap_alloc _ _ _ (by simp)]
    have := World.alloc_heap_new (((w.alloc (.cells #[.slice ad l.length cap] 45)).alloc (.cells #[.int .i64 stop] 3)).alloc (.cells #[.int .i64 0] 3)) (.cells #[.bool true] 4); rwa [World.size_alloc, World.size_alloc, World.size_alloc] at this
  have b4 : W0.heap[w.heap.size + 4]? = some (.cells #[.bool false] 4 (0, 0)) := by
    rw [← hW0]
    have := World.alloc_heap_new ((((w.alloc (.cells #[.slice ad l.length cap] 45)).alloc (.cells #[.int .i64 stop] 3)).alloc (.cells #[.int .i64 0] 3)).alloc (.cells #[.bool true] 4)) (.cells #[.bool false] 4); rwa [World.size_alloc, World.size_alloc, World.size_alloc, World.size_alloc] at this
  obtain ⟨B, hB⟩ : ∃ B, B = w.heap.size := ⟨_, rfl⟩
  have hBle : w.heap.size ≤ B := by omega
  have HBE := Lib.hid hB
  rw [← hB] at b0 b1 b2 b3 b4 hs0' ⊢
  have HVB : Hid (∀ g, (Value.slice ad l.length cap).ownBlock = some g → g < B) := by show ∀ g, _ → _; rw [hB]; exact HV.out
  have HB0 := Lib.hid b0; have HB1 := Lib.hid b1; have HB2 := Lib.hid b2; have HB3 := Lib.hid b3; have HB4 := Lib.hid b4; have HK0 := Lib.hid hk0; have HS0 := Lib.hid hs0'
  clear b0 b1 b2 b3 b4 hk0 hs0' hW0
  refine (HIT.out (.func (.func 48) #[] #[.pointer (some ⟨B + 3, 0, none⟩), .pointer (some ⟨B + 4, 0, none⟩), .pointer (some ⟨B + 2, 0, none⟩), .pointer (some ⟨B, 0, none⟩), .pointer (some ⟨B + 1, 0, none⟩)])
    (GInv B (.slice ad l.length cap) s l stop w) (GStop B (.slice ad l.length cap) s l stop w) [B, B + 1, B + 2, B + 3, B + 4] W0 (HND.out W0 HK0.out) (fun b hb => by cases hb)
    (fun b hb => by have h1 := HRD.out b hb; have := HS0.out; simp; omega) (GInv.steady hBle (by have := HS0.out; omega) HVB.out) (GStop.steady hBle (by have := HS0.out; omega)) ?_ (fun b hb => by have := HS0.out; simp at hb; omega) ?_).mono ?_
  · intro k hk fp W1 hj
    rw [List.length_map] at hk
    have hfp := hj.2.2.2.2.2.2.2.2.1
    subst hfp
    rw [List.getElem_map]
    exact .inr ⟨_, _, rfl, enters_goes1, goes1_any B _ s l stop w W1 k hk hl hs0 hs1 hBle HVB.out hj⟩
  · refine ⟨HB0.out, HB1.out, HB2.out, HB3.out, HB4.out, HPC.out.keep0 HK0.out, ?_, Nat.zero_le _, rfl, HK0.out⟩
    simp only [Int.natCast_zero]; omega
  · rintro e W' ⟨rfl, ⟨fp, h0, h1, h2, h3, _, _, h6, _, _, h9⟩ | ⟨k, fp, hk, h0, h1, h2, h3, h4, _, h9⟩⟩
    · rw [List.length_map] at h2 h6
      have c0 : W'.cell? ⟨w.heap.size, 0, none⟩ = some (.slice ad l.length cap) := by rw [← HBE.out]; exact cell_of_one h0
      have c1 : W'.cell? ⟨w.heap.size + 1, 0, none⟩ = some (.int .i64 stop) := by rw [← HBE.out]; exact cell_of_one h1
      have c2 : W'.cell? ⟨w.heap.size + 1 + 1, 0, none⟩ = some (.int .i64 l.length) := by rw [← HBE.out]; exact cell_of_one h2
      have c3 : W'.cell? ⟨w.heap.size + 1 + 1 + 1, 0, none⟩ = some (.bool true) := by rw [← HBE.out]; exact cell_of_one h3
      have H9 := Lib.hid h9
      clear h0 h1 h2 h3 h9
      by_cases hs : stop = (l.length : Int)
      · have hse : ((l.length : Int) == stop) = true := by simp; omega
        have hle : decide (0 < stop) = false := by simp; omega
        have hll : ((l.length : Int) == (l.length : Int)) = true := by simp
        clear hs h6
        go_wp2
        go_ret
        exact ⟨rfl, H9.out⟩
      · have hse : ((l.length : Int) == stop) = false := by simp; omega
        have hll : ((l.length : Int) == (l.length : Int)) = true := by simp
        go_wp2
        go_ret
        exact ⟨rfl, H9.out⟩
    · have c1 : W'.cell? ⟨w.heap.size + 1, 0, none⟩ = some (.int .i64 stop) := by rw [← HBE.out]; exact cell_of_one h1
      have c2 : W'.cell? ⟨w.heap.size + 1 + 1, 0, none⟩ = some (.int .i64 stop) := by rw [← HBE.out]; exact cell_of_one h2
      have c3 : W'.cell? ⟨w.heap.size + 1 + 1 + 1, 0, none⟩ = some (.bool true) := by rw [← HBE.out]; exact cell_of_one h3
      have H9 := Lib.hid h9
      clear h0 h1 h2 h3 h9
      have hse : (stop == stop) = true := by simp
      have hle : decide (0 < stop) = true := by simp; omega
      go_wp2
      go_ret
      exact ⟨rfl, H9.out⟩
end Go.Proofs.Ytjelbeghojgooaa
