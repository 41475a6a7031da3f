/-
  Ahead of New: a spot, a line's start, appended.
-/
import Derived.Test.YtodbjehggkdjaaaMR
import Derived.Test.YtodbjehggkdjaaaML
import Derived.Test.YtodbjehggkdjaaaIntMap
import Derived.Deep.RegionLaw
namespace Go.Proofs.Ytodbjehggkdjaaa
open Go.RowKit
set_option linter.unusedVariables false
set_option linter.unusedSimpArgs false

/-- A map that was filled by numbers. -/
def fil (f : Nat → Int) (g : Nat → Value) : Nat → List (Int × Value)
  | 0 => []
  | n + 1 => fil f g n ++ [(f n, g n)]
theorem fil_none {f : Nat → Int} {g : Nat → Value} {x : Int} : ∀ {n : Nat}, (∀ i, i < n → f i ≠ x) → (fil f g n).find? (fun p => p.1 == x) = none
  | 0, _ => rfl
  | n + 1, h => by
    unfold fil
    rw [List.find?_append, fil_none (fun i hi => h i (by omega))]
    have := h n (by omega)
    simp [List.find?_cons, this]
theorem fil_some {f : Nat → Int} {g : Nat → Value} {x : Int} {i : Nat} : ∀ {n : Nat}, i < n → f i = x → (∀ j, j < n → f j = x → j = i) → (fil f g n).find? (fun p => p.1 == x) = some (x, g i)
  | 0, h, _, _ => by omega
  | n + 1, h, hx, hu => by
    unfold fil
    rw [List.find?_append]
    by_cases e : i = n
    · subst e
      rw [fil_none (fun j hj he => by have := hu j (by omega) he; omega)]
      simp [hx]
    · rw [fil_some (i := i) (n := n) (by omega) hx (fun j hj he => hu j (by omega) he)]
      rfl
theorem fil_mem {f : Nat → Int} {g : Nat → Value} : ∀ {n : Nat} {p : Int × Value}, p ∈ fil f g n → ∃ i, i < n ∧ p = (f i, g i)
  | 0, p, h => by simp [fil] at h
  | n + 1, p, h => by
    unfold fil at h
    rcases List.mem_append.1 h with h | h
    · obtain ⟨i, hi, e⟩ := fil_mem h
      exact ⟨i, by omega, e⟩
    · simp at h
      exact ⟨n, by omega, h⟩

/-- Where clump i ends. -/
def ce (s : ByteArray) (i : Nat) : Nat := ((clumps s)[i]?.getD (0, 0)).2
theorem filt_sorted : ∀ (t : List Nat) (_ : t.Pairwise (· < ·)) (i b : Nat), t[i]? = some b → (t.filter fun c => decide (c ≤ b)).length = i + 1
  | [], _, i, b, h => by simp at h
  | x :: t, hs, i, b, h => by
    obtain ⟨h1, h2⟩ := List.pairwise_cons.1 hs
    cases i with
    | zero =>
      simp at h; subst h
      rw [List.filter_cons, if_pos (by simp), List.filter_eq_nil_iff.2 (fun y hy => by have := h1 y hy; simp; omega)]
      rfl
    | succ i =>
      have h' : t[i]? = some b := by simpa using h
      have := h1 b (List.mem_of_getElem? h')
      rw [List.filter_cons, if_pos (by simp; omega), List.length_cons, filt_sorted t h2 i b h']
theorem bl_get {s : ByteArray} (h : s.size ≠ 0) : bl s = brk s := by unfold bl; rw [if_neg h]
theorem ce_at {s : ByteArray} {i : Nat} (h : i < (clumps s).length) : s.size ≠ 0 ∧ (brk s)[i + 1]? = some (ce s i) ∧ ∃ a, (clumps s)[i]? = some (a, ce s i) ∧ a < ce s i ∧ ce s i ≤ s.size := by
  have hl := bl_clumps (s := s)
  have h0 : s.size ≠ 0 := fun e => by unfold bl at hl; rw [if_pos e] at hl; simp at hl; simp [hl] at h
  have h1 : (bl s)[i]? = some (bl s)[i] := List.getElem?_eq_getElem (by omega)
  have h2 : (bl s)[i + 1]? = some (bl s)[i + 1] := List.getElem?_eq_getElem (by omega)
  have h3 := bl_pair h1 h2
  have h4 := bl_rise h1 h2
  have e : ce s i = (bl s)[i + 1] := by unfold ce; rw [h3]; rfl
  rw [← e] at h2 h3 h4
  rw [bl_get h0] at h2
  exact ⟨h0, h2, _, h3, h4⟩
theorem ce_inj {s : ByteArray} {i j : Nat} (hi : i < (clumps s).length) (hj : j < (clumps s).length) (h : ce s i = ce s j) : i = j := by
  have h1 := filt_sorted _ (brk_sorted s) _ _ (ce_at hi).2.1
  have h2 := filt_sorted _ (brk_sorted s) _ _ (ce_at hj).2.1
  rw [h] at h1; omega
theorem ce_count {s : ByteArray} {i : Nat} (hi : i < (clumps s).length) : clE s (ce s i) = i + 1 := by
  obtain ⟨h0, h1, a, h2, h3, h4⟩ := ce_at hi
  unfold clE
  rw [if_pos ⟨by omega, List.mem_of_getElem? h1⟩]
  obtain ⟨l, hl⟩ := brk_head s
  have hs := brk_sorted s
  rw [hl] at h1 hs ⊢
  obtain ⟨g1, g2⟩ := List.pairwise_cons.1 hs
  have := filt_sorted l g2 i _ (by simpa using h1)
  rw [List.filter_cons, if_neg (by simp), ← this]
  congr 1
  refine List.filter_congr fun c hc => ?_
  have := g1 c hc
  simp [this]
/-- The map. -/
def bmap (s : ByteArray) (n : Nat) : List (Int × Value) := fil (fun i => ((ce s i : Nat) : Int)) (fun i => .int .i64 ((i + 1 : Nat) : Int)) n
theorem bmap_succ (s : ByteArray) (n : Nat) : bmap s (n + 1) = bmap s n ++ [(((ce s n : Nat) : Int), Value.int .i64 ((n + 1 : Nat) : Int))] := rfl
theorem bmap_new {s : ByteArray} {n : Nat} (h : n < (clumps s).length) : ∀ p ∈ bmap s n, p.1 ≠ ((ce s n : Nat) : Int) := by
  intro p hp e
  obtain ⟨i, hi, rfl⟩ := fil_mem hp
  have := ce_inj (s := s) (i := i) (j := n) (by omega) h (by simp at e; omega)
  omega
theorem bmap_look (s : ByteArray) (p : Nat) : imV (bmap s (clumps s).length) (p : Nat) (.int .i64 0) = .int .i64 (clE s p : Nat) := by
  unfold imV bmap
  by_cases h : ∃ i, i < (clumps s).length ∧ ce s i = p
  · obtain ⟨i, hi, rfl⟩ := h
    rw [fil_some (f := fun i => ((ce s i : Nat) : Int)) (i := i) hi rfl (fun j hj he => ce_inj hj hi (Int.ofNat_inj.1 he)), ce_count hi]
    rfl
  · rw [fil_none (f := fun i => ((ce s i : Nat) : Int)) (fun i hi e => h ⟨i, hi, Int.ofNat_inj.1 e⟩)]
    have : clE s p = 0 := by
      unfold clE
      refine if_neg fun ⟨h0, hb⟩ => h ?_
      by_cases hs : s.size = 0
      · have := brk_le hb; omega
      · obtain ⟨j, hj⟩ := List.mem_iff_getElem?.1 hb
        obtain ⟨l, hl⟩ := brk_head s
        cases j with
        | zero => rw [hl] at hj; simp at hj; omega
        | succ j =>
          have hlt := (List.getElem?_eq_some_iff.1 hj).1
          have hc := bl_clumps (s := s)
          rw [bl_get hs] at hc
          have hi : j < (clumps s).length := by omega
          refine ⟨j, hi, ?_⟩
          have := (ce_at hi).2.1
          rw [hj] at this
          exact (Option.some.inj this).symm
    rw [this]; rfl
end Go.Proofs.Ytodbjehggkdjaaa
namespace Go.Proofs.Ytodbjehggkdjaaa
open Go.RowKit
set_option linter.unusedVariables false
set_option linter.unusedSimpArgs false

/-- An append in a region that draws its order, by the equation on its run (for go_region_law, go_region_held_law). -/
theorem step_append_eq {P : Program} {ops : Array Oper} {o : Oper} {a : Act} {w w' : World} {K : Act → World → Prop} {Q : Exit → Act → World → Prop} {E : Prop}
    (hg : o.guard = none) (s x : Operand) (t : TypeId) (hop : o.op = Op.call { callee := Callee.builtin Builtin.append, args := #[s, x], argTypes := #[t, t] })
    {v xv v' : Value} (hs : a.eval s = v) (hx : a.eval x = xv) (hrun : (Builtin.append_ #[t, t] o.type #[v, xv]).run P w = .ok v' w') (hK : K (a.put o.dst v') w') :
    if Region.wanted o (yielded ops a.tmps) = true then Oper.wp P o a w K Q else E := by
  have hw : Region.wanted o (yielded ops a.tmps) = true := by simp [Region.wanted, hg]
  rw [if_pos hw]
  unfold Oper.wp
  simp [execOp, hop, resolve, invoke, builtin, hs, hx, hrun, Result.andThen]
  exact hK
theorem spCells_succ (s : ByteArray) (k : Nat) : spCells s (k + 1) = spCells s k ++ (spV s k).toList := rfl
/-- 'append(m.spots, here)', behind the new element's block. -/
theorem spot_append {W : World} {base : Nat} {vs : Value} {s : ByteArray} {k : Nat} (hown : W.ownsRow base 29 6 vs k (spCells s k)) (hb : base ≤ W.heap.size) (hk : k ≤ 1000000) :
    ∃ v' w', (Builtin.append_ #[36, 36] 36 #[vs, .slice (some ⟨W.heap.size, 0, none⟩) 1 1]).run Try.prog (W.alloc (.cells (spV s k) 29)) = .ok v' w' ∧
      AppPost (W.alloc (.cells (spV s k) 29)) base 29 6 vs k (spCells s k) 1 (spV s k).toList v' w' := by
  obtain ⟨i0, hi⟩ : ∃ i, Try.prog.info? 29 = some i := ⟨_, rfl⟩
  have hz0 : i0.zero = some (.agg noSp) := by cases hi; rfl
  have hz1 : i0.size = 6 := by cases hi; rfl
  have hz2 : i0.bytes = 48 := by cases hi; rfl
  refine run_append_mine (P := Try.prog) _ base 36 36 29 i0 (.agg noSp) 6 48 Try.underlying36 hi hz0 hz1 hz2 rfl (by decide) vs k _ (hown.alloc _) ⟨W.heap.size, 0, none⟩ 1 1 (spV s k).toList rfl ?_ (by simp [spV, Value.oneCell']) (by unfold maxLen; omega) (by omega) (by simp; omega)
  exact cell_new_row W (spV s k).toList 29
theorem spot_append_drew {W : World} {base : Nat} {vs : Value} {s : ByteArray} {k : Nat} (hown : W.ownsRow base 29 6 vs k (spCells s k)) (hb : base ≤ W.heap.size) (hk : k ≤ 1000000) :
    ∃ v' w', (Builtin.append_ #[36, 36] 36 #[vs, .slice (some ⟨W.heap.size, 0, none⟩) 1 1]).run Try.prog (W.alloc (.cells (spV s k) 29)).drew = .ok v' w' ∧
      AppPost (W.alloc (.cells (spV s k) 29)).drew base 29 6 vs k (spCells s k) 1 (spV s k).toList v' w' := spot_append (W := W.drew) hown hb hk
/-- 'append(m.lines, here.Rune)'. -/
theorem line_append {W : World} {base : Nat} {vl : Value} {n : Nat} {xs : List Value} (x : Int) (hown : W.ownsRow base 3 1 vl n xs) (hb : base ≤ W.heap.size) (hk : n ≤ 1000001) :
    ∃ v' w', (Builtin.append_ #[37, 37] 37 #[vl, .slice (some ⟨W.heap.size, 0, none⟩) 1 1]).run Try.prog (W.alloc (.cells #[.int .i64 x] 3)) = .ok v' w' ∧
      AppPost (W.alloc (.cells #[.int .i64 x] 3)) base 3 1 vl n xs 1 [.int .i64 x] v' w' := by
  obtain ⟨i0, hi⟩ : ∃ i, Try.prog.info? 3 = some i := ⟨_, rfl⟩
  have hz0 : i0.zero = some (.int .i64 0) := by cases hi; rfl
  have hz1 : i0.size = 1 := by cases hi; rfl
  have hz2 : i0.bytes = 8 := by cases hi; rfl
  exact run_append_mine (P := Try.prog) _ base 37 37 3 i0 (.int .i64 0) 1 8 Try.underlying37 hi hz0 hz1 hz2 rfl (by decide) vl n _ (hown.alloc _) ⟨W.heap.size, 0, none⟩ 1 1 [.int .i64 x] rfl (cell_new_row _ _ _) (by simp [Value.oneCell']) (by unfold maxLen; omega) (by omega) (by simp; omega)
theorem line_append_drew {W : World} {base : Nat} {vl : Value} {n : Nat} {xs : List Value} (x : Int) (hown : W.ownsRow base 3 1 vl n xs) (hb : base ≤ W.heap.size) (hk : n ≤ 1000001) :
    ∃ v' w', (Builtin.append_ #[37, 37] 37 #[vl, .slice (some ⟨W.heap.size, 0, none⟩) 1 1]).run Try.prog (W.alloc (.cells #[.int .i64 x] 3)).drew = .ok v' w' ∧
      AppPost (W.alloc (.cells #[.int .i64 x] 3)).drew base 3 1 vl n xs 1 [.int .i64 x] v' w' := line_append (W := W.drew) x hown hb hk
end Go.Proofs.Ytodbjehggkdjaaa
