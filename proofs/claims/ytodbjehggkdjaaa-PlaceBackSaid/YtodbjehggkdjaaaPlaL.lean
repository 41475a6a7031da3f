/-
  New.
-/
import Derived.Test.YtodbjehggkdjaaaMS
import Derived.Test.YtodbjehggkdjaaaMH
import Derived.Test.YtodbjehggkdjaaaMJ
import Derived.Test.YtodbjehggkdjaaaMR
import Derived.Test.YtodbjehggkdjaaaRegFix
import Derived.Sort.CutIn
import Derived.Deep.RegionHeldLaw
namespace Go.Proofs.Ytodbjehggkdjaaa
open Go.RowKit Go.Shelf
set_option linter.unusedVariables false
set_option linter.unusedSimpArgs false
attribute [local go_sem] Oper.semAt_some

/-- Between the rounds over the clumps. -/
def NewI (w1 : World) (bm bn : Nat) (s : ByteArray) (k : Nat) (fp : List Nat) (W : World) : Prop :=
  fp = [bm, bn] ∧ W.heap[bn]? = some (.cells #[.int .i64 k] 3 (0, 0)) ∧ IM W bm .i64 (bmap s k) ∧ Keep [bm, bn] w1 W
theorem NewI.steady {w1 : World} {bm bn : Nat} {s : ByteArray} (k : Nat) : Steady [] w1 (NewI w1 bm bn s k) := by
  rintro fp W1 W2 S ⟨rfl, h1, h2, h3⟩ hk hS
  refine ⟨rfl, hk.at_ h1 (fun h => (hS _ h).1 (by simp)), h2.keep hk (fun h => (hS _ h).1 (by simp)), h3.trans hk (fun x hx => .inr ?_)⟩
  rcases (hS x hx).2 with h | h
  · cases h
  · exact h
/-- Between the rounds over the pieces. -/
def PNew (w2 : World) (base bh mb bl : Nat) (s : ByteArray) (k : Nat) (fp : List Nat) (W : World) : Prop :=
  ∃ vs vl, W.heap[bh]? = some (.cells (spV s k) 29 (0, 0)) ∧ W.heap[mb]? = some (.cells #[.string s, vs, vl] 39 (0, 0)) ∧
    W.ownsRow base 29 6 vs k (spCells s k) ∧ W.ownsRow base 3 1 vl (ln s k) (ints (sts s k)) ∧ bh ∈ fp ∧ mb ∈ fp ∧
    (∀ g, vs.ownBlock = some g → g ∈ fp ∧ w2.heap.size ≤ g) ∧ (∀ g, vl.ownBlock = some g → g ∈ fp ∧ (g = bl ∨ w2.heap.size ≤ g)) ∧
    (∀ g ∈ fp, g = bh ∨ g = mb ∨ g = bl ∨ w2.heap.size ≤ g) ∧ Keep [bh, mb, bl] w2 W
theorem PNew.steady {w2 : World} {base bh mb bl : Nat} {s : ByteArray} (k : Nat) : Steady [] w2 (PNew w2 base bh mb bl s k) := by
  rintro fp W1 W2 S ⟨vs, vl, h1, h2, h3, h4, h5, h6, h7, h8, h9, h10⟩ hk hS
  refine ⟨vs, vl, hk.at_ h1 (fun h => (hS _ h).1 h5), hk.at_ h2 (fun h => (hS _ h).1 h6), hk.owns h3 (fun g hg h => (hS _ h).1 (h7 g hg).1), hk.owns h4 (fun g hg h => (hS _ h).1 (h8 g hg).1), h5, h6, h7, h8, h9, h10.trans hk (fun x hx => .inr ?_)⟩
  rcases (hS x hx).2 with h | h
  · cases h
  · exact h
theorem spV_zero (s : ByteArray) : spV s 0 = #[.int .i64 0, .int .i64 0, .int .i64 0, .int .i64 0, .int .i64 1, .int .i64 1] := by
  unfold spV
  rw [pos_zero, cl_zero]
  rfl
theorem PNew.start {w2 : World} {base bh mb bl : Nat} {s : ByteArray} (h1 : w2.heap[bh]? = some (.cells (spV s 0) 29 (0, 0)))
    (h2 : w2.heap[mb]? = some (.cells #[.string s, .slice none 0 0, .slice (some ⟨bl, 0, none⟩) 1 1] 39 (0, 0))) (h3 : w2.heap[bl]? = some (.cells #[.int .i64 0] 3 (0, 0))) (hb : base ≤ bl) :
    PNew w2 base bh mb bl s 0 [bh, mb, bl] w2 := by
  refine ⟨_, _, h1, h2, ⟨rfl, .inl ⟨rfl, rfl⟩⟩, ⟨rfl, .inr ⟨bl, 1, #[.int .i64 0], rfl, hb, h3, Nat.le_refl _, by unfold maxLen; omega, rfl, rfl⟩⟩, by simp, by simp, fun g hg => by simp [Value.ownBlock] at hg, fun g hg => ?_, fun g hg => ?_, Keep.refl _ _⟩
  · simp [Value.ownBlock] at hg; subst hg; simp
  · simp at hg; omega
theorem clumps_le (s : ByteArray) : (clumps s).length ≤ s.size := by
  have h1 := bl_len_le s
  have h2 := bl_clumps (s := s)
  omega
theorem new_blk {W : World} {o : Obj} {i : Nat} (h : i = W.heap.size) : (W.alloc o).heap[i]? = some o := by subst h; exact World.alloc_heap_new W o
theorem old_blk {W : World} {o x : Obj} {i : Nat} (h : W.heap[i]? = some x) : (W.alloc o).heap[i]? = some x := ((Keep.refl [] W).alloc o).at_ h (by simp)

/-- A region that ends in the ordinary way: its panics need no act. -/
def onlyN (R : Act → World → Prop) (e : Exit) (a : Act) (w : World) : Prop := match e with | .normal => R a w | _ => False
theorem wpIn_normal {P : Program} {F : Fence} {n : Nat} {c : Code} {Q : Exit → Act → World → Prop} {a : Act} {w : World} (h : c.wpIn F n P (onlyN (Q .normal)) a w) : c.wpIn F n P Q a w := by
  refine Code.wpIn_mono ?_ h
  intro e a' w' h'
  cases e <;> first | exact h' | exact h'.elim

/-- What New leaves: the last spot appended, both loops' marks taken. -/
theorem new_end {w w2 W3 W4 : World} {bh mb bl D D2 n cap : Nat} {ad : Option Addr} {s : ByteArray} {vs vl : Value}
    (hb1 : w.heap.size ≤ bl) (hb2 : bl < mb) (hb3 : mb < D) (hb4 : D < bh) (hb5 : bh < w2.heap.size) (hb6 : w2.heap.size ≤ D2) (k2 : Keep [] w w2)
    (j2 : W3.heap[mb]? = some (.cells #[.string s, vs, vl] 39 (0, 0))) (j3 : W3.ownsRow w.heap.size 29 6 vs (np s) (spCells s (np s))) (j4 : W3.ownsRow w.heap.size 3 1 vl (ln s (np s)) (ints (sts s (np s))))
    (j7 : ∀ g, vs.ownBlock = some g → g ≠ D2 ∧ w2.heap.size ≤ g) (j8 : ∀ g, vl.ownBlock = some g → g ≠ D2 ∧ (g = bl ∨ w2.heap.size ≤ g)) (j10 : Keep [bh, mb, bl] w2 W3)
    (hD2 : W3.heap[D2]? = some (.deferred (some []))) (hD : w2.heap[D]? = some (.deferred (some [])))
    (hp : AppPost (W3.alloc (.cells (spV s (np s)) 29)).drew w.heap.size 29 6 vs (np s) (spCells s (np s)) 1 (spV s (np s)).toList (.slice ad n cap) W4) :
    ∃ W5 W6, (Instr.takeDeferred D2).run Try.prog (W4.setCell ⟨mb, 1, none⟩ (.slice ad n cap)) = .ok [] W5 ∧ (Instr.takeDeferred D).run Try.prog W5 = .ok [] W6 ∧ MapAt W6 mb s ∧ Keep [] w W6 := by
  have ksz := k2.size
  have hlt := lt_of_block hD2
  have k4 : Keep vs.ownBlock.toList W3 W4 := (((Keep.refl _ _).alloc _).drew).trans' hp.2.1
  have hmv : mb ∉ vs.ownBlock.toList := fun h => by simp at h; have := (j7 _ h).2; omega
  have m4 := k4.at_ j2 hmv
  obtain ⟨W5, hW5⟩ : ∃ W5, W4.setCell ⟨mb, 1, none⟩ (.slice ad n cap) = W5 := ⟨_, rfl⟩
  have k5 : Keep [mb] W4 W5 := by rw [← hW5]; exact (Keep.refl _ _).setCell (.inl (by simp)) _
  have m5 : W5.heap[mb]? = some (.cells #[.string s, .slice ad n cap, vl] 39 (0, 0)) := by rw [← hW5, block_setCell m4]; rfl
  have d2 := k5.at_ (k4.at_ hD2 (fun h => by simp at h; exact (j7 _ h).1 rfl)) (by simp; omega)
  have k6 : Keep [D2] W5 (W5.putObj D2 (.deferred none)) := keep_putObj _ _ _
  have dd := k6.at_ (k5.at_ (k4.at_ (j10.at_ hD (by simp; omega)) (fun h => by simp at h; have := (j7 _ h).2; omega)) (by simp; omega)) (by simp; omega)
  have k7 : Keep [D] (W5.putObj D2 (.deferred none)) ((W5.putObj D2 (.deferred none)).putObj D (.deferred none)) := keep_putObj _ _ _
  have m7 := k7.at_ (k6.at_ m5 (by simp; omega)) (by simp; omega)
  have hv : ∀ g, (Value.slice ad n cap).ownBlock = some g → g ≠ mb ∧ g ≠ D ∧ g ≠ D2 := fun g hg => by
    rcases hp.2.2.1 g hg with h | h
    · have := j7 g h; omega
    · have h' : (W3.alloc (.cells (spV s (np s)) 29)).heap.size ≤ g := h
      rw [World.size_alloc] at h'
      have := j10.size
      omega
  have hl : ∀ g, vl.ownBlock = some g → g ≠ mb ∧ g ≠ D ∧ g ≠ D2 ∧ vs.ownBlock ≠ some g := fun g hg => by
    have h1 := j8 g hg
    refine ⟨by omega, by omega, h1.1, fun hs => ?_⟩
    obtain ⟨_, c1, h3⟩ := j3.2.resolve_left (fun h => by rw [h.1] at hs; simp [Value.ownBlock] at hs)
    obtain ⟨_, c2, h4⟩ := j4.2.resolve_left (fun h => by rw [h.1] at hg; simp [Value.ownBlock] at hg)
    obtain ⟨u1, rfl, _, e1, _⟩ := h3
    obtain ⟨u2, rfl, _, e2, _⟩ := h4
    simp [Value.ownBlock] at hs hg
    subst hs; subst hg
    rw [e1] at e2
    simp at e2
  have r7 := k7.owns (k6.owns (k5.owns hp.1 (fun g hg => by simp; exact (hv g hg).1)) (fun g hg => by simp; exact (hv g hg).2.2)) (fun g hg => by simp; exact (hv g hg).2.1)
  have l7 := k7.owns (k6.owns (k5.owns (k4.owns j4 (fun g hg => by simp; exact (hl g hg).2.2.2)) (fun g hg => by simp; exact (hl g hg).1)) (fun g hg => by simp; exact (hl g hg).2.2.1)) (fun g hg => by simp; exact (hl g hg).2.1)
  refine ⟨_, _, by rw [hW5]; exact run_takeDeferred d2, run_takeDeferred dd, ⟨_, _, m7, .inr ⟨?_, SlAt.of_owns l7⟩⟩, ?_⟩
  · exact SlAt.of_owns r7
  · have a1 : Keep [] w W3 := k2.trans j10 (fun x hx => .inr (by simp at hx; omega))
    have a2 : Keep [] w W4 := a1.trans k4 (fun x hx => .inr (by simp at hx; have := (j7 _ hx).2; omega))
    have a3 : Keep [] w W5 := a2.trans k5 (fun x hx => .inr (by simp at hx; omega))
    exact (a3.trans k6 (fun x hx => .inr (by simp at hx; omega))).trans k7 (fun x hx => .inr (by simp at hx; omega))

/-- A world under a letter. -/
theorem wpIn_cut {P : Program} {F : Fence} {n : Nat} {c : Code} {Q : Exit → Act → World → Prop} {a : Act} {w : World} (R : World → Prop) (h : R w) (hw : ∀ W, R W → c.wpIn F n P Q a W) : c.wpIn F n P Q a w := hw w h

/-- Within a round, behind the spot's append. -/
def PMid (w2 : World) (base bh mb bl : Nat) (s : ByteArray) (k : Nat) (fp : List Nat) (W3 : World) (vs vl : Value) (fp' : List Nat) (W : World) : Prop :=
  W.heap[mb]? = some (.cells #[.string s, vs, vl] 39 (0, 0)) ∧ W.ownsRow base 29 6 vs (k + 1) (spCells s (k + 1)) ∧ W.ownsRow base 3 1 vl (ln s k) (ints (sts s k)) ∧
    bh ∈ fp ∧ mb ∈ fp ∧ (∀ g, vs.ownBlock = some g → g ∈ fp' ∧ w2.heap.size ≤ g) ∧ (∀ g, vl.ownBlock = some g → g ∈ fp' ∧ (g = bl ∨ w2.heap.size ≤ g)) ∧ (∀ g ∈ fp', g = bh ∨ g = mb ∨ g = bl ∨ w2.heap.size ≤ g) ∧
    Keep [bh, mb, bl] w2 W ∧ (∀ g ∈ fp, g ∈ fp') ∧ Keep fp W3 W ∧ FromNew fp fp' W3 ∧ w2.heap.size ≤ W3.heap.size
theorem rows_apart {W : World} {base : Nat} {s : ByteArray} {vs vl : Value} {n m : Nat} {xs ys : List Value} (h1 : W.ownsRow base 29 6 vs n xs) (h2 : W.ownsRow base 3 1 vl m ys) : ∀ g, vl.ownBlock = some g → vs.ownBlock ≠ some g := fun g hg hs => by
  obtain ⟨_, c1, h3⟩ := h1.2.resolve_left (fun h => by rw [h.1] at hs; simp [Value.ownBlock] at hs)
  obtain ⟨_, c2, h4⟩ := h2.2.resolve_left (fun h => by rw [h.1] at hg; simp [Value.ownBlock] at hg)
  obtain ⟨u1, rfl, _, e1, _⟩ := h3
  obtain ⟨u2, rfl, _, e2, _⟩ := h4
  simp [Value.ownBlock] at hs hg
  subst hs; subst hg
  rw [e1] at e2
  simp at e2
theorem PMid.of {w2 W3 W4 W5 : World} {base bh mb bl k n cap : Nat} {ad : Option Addr} {s : ByteArray} {fp : List Nat} {vs vl : Value} (hbs : mb < w2.heap.size ∧ bl < w2.heap.size ∧ bl ≠ mb)
    (j2 : W3.heap[mb]? = some (.cells #[.string s, vs, vl] 39 (0, 0))) (j3 : W3.ownsRow base 29 6 vs k (spCells s k)) (j4 : W3.ownsRow base 3 1 vl (ln s k) (ints (sts s k))) (j5 : bh ∈ fp) (j6 : mb ∈ fp)
    (j7 : ∀ g, vs.ownBlock = some g → g ∈ fp ∧ w2.heap.size ≤ g) (j8 : ∀ g, vl.ownBlock = some g → g ∈ fp ∧ (g = bl ∨ w2.heap.size ≤ g)) (j9 : ∀ g ∈ fp, g = bh ∨ g = mb ∨ g = bl ∨ w2.heap.size ≤ g) (j10 : Keep [bh, mb, bl] w2 W3)
    (hp : AppPost (W3.alloc (.cells (spV s k) 29)).drew base 29 6 vs k (spCells s k) 1 (spV s k).toList (.slice ad n cap) W4) (h5 : W4.setCell ⟨mb, 1, none⟩ (.slice ad n cap) = W5) :
    ∃ fp', PMid w2 base bh mb bl s k fp W3 (.slice ad n cap) vl fp' W5 := by
  have k4 : Keep vs.ownBlock.toList W3 W4 := ((((Keep.refl [] _).alloc _).drew).mono (by simp)).trans' hp.2.1
  have hnv : ∀ b, b < w2.heap.size → b ∉ vs.ownBlock.toList := fun b hb h => by simp at h; have := (j7 _ h).2; omega
  have m4 := k4.at_ j2 (hnv _ hbs.1)
  have k5 : Keep [mb] W4 W5 := by rw [← h5]; exact (Keep.refl _ _).setCell (.inl (by simp)) _
  have m5 : W5.heap[mb]? = some (.cells #[.string s, .slice ad n cap, vl] 39 (0, 0)) := by rw [← h5, block_setCell m4]; rfl
  have hsz := j10.size
  have hv : ∀ g, (Value.slice ad n cap).ownBlock = some g → (g ∈ fp ∧ w2.heap.size ≤ g) ∨ W3.heap.size ≤ g := fun g hg => by
    rcases hp.2.2.1 g hg with h | h
    · exact .inl (j7 g h)
    · have h' : (W3.alloc (.cells (spV s k) 29)).heap.size ≤ g := h
      rw [World.size_alloc] at h'
      exact .inr (by omega)
  have hap := rows_apart (s := s) j3 j4
  refine ⟨(Value.slice ad n cap).ownBlock.toList ++ fp, m5, k5.owns hp.1 (fun g hg => ?_), k5.owns (k4.owns j4 (fun g hg => by simp; exact hap g hg)) (fun g hg => ?_), j5, j6, fun g hg => ⟨by simp [hg], ?_⟩, fun g hg => ⟨by simp [(j8 g hg).1], (j8 g hg).2⟩, fun g hg => ?_, ?_, fun g hg => by simp [hg], ?_, fun g hg => ?_, hsz⟩
  · rcases hv g hg with h | h <;> (simp; omega)
  · have := (j8 g hg).2; simp; omega
  · rcases hv g hg with h | h <;> omega
  · rcases List.mem_append.1 hg with h | h
    · simp at h
      rcases hv g h with h | h <;> omega
    · exact j9 g h
  · exact (j10.trans k4 (fun x hx => .inr (by simp at hx; exact (j7 _ hx).2))).trans k5 (fun x hx => by simp at hx; simp [hx])
  · exact (k4.mono (fun x hx => .inl (by simp at hx; exact (j7 _ hx).1))).trans k5 (fun x hx => by simp at hx; subst hx; exact .inl j6)
  · rcases List.mem_append.1 hg with h | h
    · simp at h
      rcases hv g h with h | h
      · exact .inl h.1
      · exact .inr h
    · exact .inl h
theorem PMid.keep {w2 W3 W W' : World} {base bh mb bl k : Nat} {s : ByteArray} {fp fp' : List Nat} {vs vl : Value} (hbs : bh < w2.heap.size ∧ bl ≠ bh ∧ mb ≠ bh) (h : PMid w2 base bh mb bl s k fp W3 vs vl fp' W) (hk : Keep [bh] W W') : PMid w2 base bh mb bl s k fp W3 vs vl fp' W' := by
  obtain ⟨h1, h2, h3, h4, h5, h6, h7, h8, h9, h10, h11, h12, h13⟩ := h
  refine ⟨hk.at_ h1 (by simp; omega), hk.owns h2 (fun g hg => by have := (h6 g hg).2; simp; omega), hk.owns h3 (fun g hg => by have := (h7 g hg).2; simp; omega), h4, h5, h6, h7, h8, h9.trans hk (fun x hx => by simp at hx; simp [hx]), h10, h11.trans hk (fun x hx => by simp at hx; subst hx; exact .inl h4), h12, h13⟩
/-- No line's end. -/
theorem PMid.next0 {w2 W3 W : World} {base bh mb bl k : Nat} {s : ByteArray} {fp fp' : List Nat} {vs vl : Value} (h : PMid w2 base bh mb bl s k fp W3 vs vl fp' W) (he : endP s k = false) (hb : W.heap[bh]? = some (.cells (spV s (k + 1)) 29 (0, 0))) :
    ∃ fp', PNew w2 base bh mb bl s (k + 1) fp' W ∧ Keep fp W3 W ∧ FromNew fp fp' W3 := by
  obtain ⟨h1, h2, h3, h4, h5, h6, h7, h8, h9, h10, h11, h12, h13⟩ := h
  refine ⟨fp', ⟨_, _, hb, h1, h2, ?_, h10 _ h4, h10 _ h5, h6, h7, h8, h9⟩, h11, h12⟩
  rw [show ln s (k + 1) = ln s k by show (if endP s k = true then _ else _) = _; rw [he]; rfl, show sts s (k + 1) = sts s k by show (if endP s k = true then _ else _) = _; rw [he]; rfl]
  exact h3
/-- A line's end: its start appended. -/
theorem PMid.next1 {w2 W3 W W4 W5 : World} {base bh mb bl k n cap : Nat} {ad : Option Addr} {s : ByteArray} {fp fp' : List Nat} {vs vl : Value} (hbs : mb < w2.heap.size ∧ bh < w2.heap.size ∧ bl ≠ mb ∧ mb ≠ bh ∧ bl ≠ bh) (h : PMid w2 base bh mb bl s k fp W3 vs vl fp' W) (he : endP s k = true) (hb : W.heap[bh]? = some (.cells (spV s (k + 1)) 29 (0, 0)))
    (hp : AppPost (W.alloc (.cells #[.int .i64 ((k : Int) + 1)] 3)).drew base 3 1 vl (ln s k) (ints (sts s k)) 1 [.int .i64 ((k : Int) + 1)] (.slice ad n cap) W4) (h5 : W4.setCell ⟨mb, 2, none⟩ (.slice ad n cap) = W5) :
    ∃ fp', PNew w2 base bh mb bl s (k + 1) fp' W5 ∧ Keep fp W3 W5 ∧ FromNew fp fp' W3 := by
  obtain ⟨g1, g2, g3, g4, g5, g6, g7, g8, g9, g10, g11, g12, g13⟩ := h
  have k4 : Keep vl.ownBlock.toList W W4 := ((((Keep.refl [] _).alloc _).drew).mono (by simp)).trans' hp.2.1
  have hnl : ∀ b, b < w2.heap.size → b ≠ bl → b ∉ vl.ownBlock.toList := fun b hb hne h => by simp at h; have := (g7 _ h).2; omega
  have m4 := k4.at_ g1 (hnl _ hbs.1 (by omega))
  have b4 := k4.at_ hb (hnl _ hbs.2.1 (by omega))
  have k5 : Keep [mb] W4 W5 := by rw [← h5]; exact (Keep.refl _ _).setCell (.inl (by simp)) _
  have m5 : W5.heap[mb]? = some (.cells #[.string s, vs, .slice ad n cap] 39 (0, 0)) := by rw [← h5, block_setCell m4]; rfl
  have hsz := g11.size
  have hv : ∀ g, (Value.slice ad n cap).ownBlock = some g → (g ∈ fp' ∧ (g = bl ∨ w2.heap.size ≤ g)) ∨ W.heap.size ≤ g := fun g hg => by
    rcases hp.2.2.1 g hg with h | h
    · exact .inl (g7 g h)
    · have h' : (W.alloc (.cells #[.int .i64 ((k : Int) + 1)] 3)).heap.size ≤ g := h
      rw [World.size_alloc] at h'
      exact .inr (by omega)
  have hap := rows_apart (s := s) g2 g3
  have hmW := lt_of_block g1
  have hin : ∀ x ∈ vl.ownBlock.toList, x ∈ fp ∨ W3.heap.size ≤ x := fun x hx => by simp at hx; exact g12 _ (g7 _ hx).1
  have hl1 : ln s (k + 1) = ln s k + 1 := by show (if endP s k = true then _ else _) = _; rw [he]; rfl
  have hs1 : ints (sts s (k + 1)) = ints (sts s k) ++ [.int .i64 ((k + 1 : Nat) : Int)] := by
    have : sts s (k + 1) = sts s k ++ [k + 1] := by show (if endP s k = true then _ else _) = _; rw [he]; rfl
    rw [this]; simp [ints]
  refine ⟨(Value.slice ad n cap).ownBlock.toList ++ fp', ⟨_, _, k5.at_ b4 (by simp; omega), m5, k5.owns (k4.owns g2 (fun g hg => ?_)) (fun g hg => ?_), ?_, ?_, ?_, fun g hg => ⟨by simp [(g6 g hg).1], (g6 g hg).2⟩, fun g hg => ⟨by simp [hg], ?_⟩, fun g hg => ?_, ?_⟩, ?_, fun g hg => ?_⟩
  · simp; intro h; exact hap g h hg
  · have := (g6 g hg).2; simp; omega
  · rw [hl1, hs1]
    refine k5.owns hp.1 (fun g hg => ?_)
    rcases hv g hg with h | h <;> (simp; omega)
  · simp [g10 _ g4]
  · simp [g10 _ g5]
  · rcases hv g hg with h | h <;> omega
  · rcases List.mem_append.1 hg with h | h
    · simp at h
      rcases hv g h with h | h <;> omega
    · exact g8 g h
  · refine (g9.trans k4 (fun x hx => ?_)).trans k5 (fun x hx => by simp at hx; simp [hx])
    simp at hx
    rcases (g7 _ hx).2 with h | h
    · simp [h]
    · exact .inr h
  · exact (g11.trans k4 hin).trans k5 (fun x hx => by simp at hx; subst hx; exact .inl g5)
  · rcases List.mem_append.1 hg with h | h
    · simp at h
      rcases hv g h with h | h
      · exact g12 g h.1
      · exact .inr (by omega)
    · exact g12 g h
theorem spV_step (s : ByteArray) (k : Nat) : (endP s k = false → spV s (k + 1) = #[.int .i64 (pos s (k + 1) : Nat), .int .i64 ((k : Int) + 1), .int .i64 (un s (k + 1) : Nat), .int .i64 (cl s (k + 1) : Nat), .int .i64 (ln s k : Nat), .int .i64 ((co s k : Int) + 1)]) ∧
    (endP s k = true → spV s (k + 1) = #[.int .i64 (pos s (k + 1) : Nat), .int .i64 ((k : Int) + 1), .int .i64 (un s (k + 1) : Nat), .int .i64 (cl s (k + 1) : Nat), .int .i64 ((ln s k : Int) + 1), .int .i64 1]) := by
  have hc := co_step s k
  have hl : ln s (k + 1) = if endP s k = true then ln s k + 1 else ln s k := rfl
  constructor
  · intro h
    rw [h, if_neg (by decide)] at hc hl
    unfold spV
    rw [hc, hl]
    rfl
  · intro h
    rw [h, if_pos rfl] at hc hl
    unfold spV
    rw [hc, hl]
    rfl
/-- A piece's line end, by bytes. -/
theorem endP_byte {s : ByteArray} {k : Nat} (hk : k < np s) : endP s k = (decide (byt s (pos s k) = 10) || (decide (byt s (pos s k) = 13) && (decide (pos s k + 1 = s.size) || decide (byt s (pos s k + 1) ≠ 10)))) := by
  have h10 := rn_byte hk (c := 10) (by decide)
  have h13 := rn_byte hk (c := 13) (by decide)
  unfold endP
  rw [show decide (rn s k = 10) = decide (byt s (pos s k) = 10) by simp only [h10], show decide (rn s k = 13) = decide (byt s (pos s k) = 13) by simp only [h13]]
  by_cases hc : rn s k = 13
  · have hw := dec_w1 hk (by omega)
    have e1 : (k + 1 = np s) ↔ (pos s k + 1 = s.size) := by
      rw [← hw]
      constructor
      · intro h; rw [h]; exact pos_np s
      · intro h
        refine Classical.byContradiction fun hn => ?_
        have := pos_lt (s := s) (k := k + 1) (by omega)
        omega
    rw [show decide (k + 1 = np s) = decide (pos s k + 1 = s.size) by simp only [e1]]
    by_cases hl : pos s k + 1 = s.size
    · simp [hl]
    · have hk1 : k + 1 < np s := Classical.byContradiction fun hn => hl (e1.1 (by omega))
      have := rn_byte hk1 (c := 10) (by decide)
      rw [hw] at this
      rw [show decide (rn s (k + 1) ≠ 10) = decide (byt s (pos s k + 1) ≠ 10) by simp only [ne_eq, this]]
  · rw [show decide (byt s (pos s k) = 13) = false by simp only [← h13, hc, decide_false]]
    rfl

set_option maxRecDepth 100000 in
set_option maxHeartbeats 8000000 in
theorem new_any (s : ByteArray) (w : World) (hz : s.size ≤ 1000000) :
    Calls Try.prog 8 #[.string s] w fun e w' => ∃ mb, e = .returned (.pointer (some ⟨mb, 0, none⟩)) ∧ w.heap.size ≤ mb ∧ MapAt w' mb s ∧ Keep [] w w' := by
  have hcn := clumps_le s
  have hmm := @run_makeMap Try.prog
  refine (callsIn_wide (n := 0)).1 ?_
  refine callsIn_of_wp_marks Try.func8 rfl trivial ?_
  simp only [Try.ntmps8, List.size_toArray, List.length_cons, List.length_nil, Nat.reduceAdd, Nat.reduceSub, Array.replicate_succ, Array.replicate_zero, List.push_toArray, List.append_toArray, List.nil_append, List.cons_append]
  gi_wp2_with fail
  refine ⟨trivial, rfl, ?_⟩
  refine (callsIn_wide.2 (call_any s _)).mono ?_
  rintro e w1 ⟨rfl, hw1⟩
  have hs1 : w1.heap.size = w.heap.size + 8 := by rw [hw1]; simp
  have hk1 : Keep [] w w1 := by rw [hw1]; exact ((((((((Keep.refl _ _).alloc _).alloc _).alloc _).alloc _).alloc _).alloc _).alloc _).alloc _
  have x0 : w1.heap[w.heap.size]? = some (.cells #[.string s] 9 (0, 0)) := by
    rw [hw1]; repeat (first | (refine new_blk ?_; simp; done) | refine old_blk ?_)
  have x1 : w1.heap[w.heap.size + 1]? = some (.cells #[.int .i64 0] 3 (0, 0)) := by
    rw [hw1]; repeat (first | (refine new_blk ?_; simp; done) | refine old_blk ?_)
  have x2 : w1.heap[w.heap.size + 1 + 1]? = some (.cells #[.string s, .slice none 0 0, .slice (some ⟨w.heap.size + 1, 0, none⟩) 1 1] 39 (0, 0)) := by
    rw [hw1]; repeat (first | (refine new_blk ?_; simp; done) | refine old_blk ?_)
  have x3 : w1.heap[w.heap.size + 1 + 1 + 1]? = some (.cells #[.pointer (some ⟨w.heap.size + 1 + 1, 0, none⟩)] 23 (0, 0)) := by
    rw [hw1]; repeat (first | (refine new_blk ?_; simp; done) | refine old_blk ?_)
  have x4 : w1.heap[w.heap.size + 1 + 1 + 1 + 1]? = some (.map #[] 0) := by
    rw [hw1]; repeat (first | (refine new_blk ?_; simp; done) | refine old_blk ?_)
  have x5 : w1.heap[w.heap.size + 1 + 1 + 1 + 1 + 1]? = some (.cells #[.map (some (w.heap.size + 1 + 1 + 1 + 1))] 46 (0, 0)) := by
    rw [hw1]; repeat (first | (refine new_blk ?_; simp; done) | refine old_blk ?_)
  have x6 : w1.heap[w.heap.size + 1 + 1 + 1 + 1 + 1 + 1]? = some (.cells #[.int .i64 0] 3 (0, 0)) := by
    rw [hw1]; repeat (first | (refine new_blk ?_; simp; done) | refine old_blk ?_)
  have x7 : w1.heap[w.heap.size + 1 + 1 + 1 + 1 + 1 + 1 + 1]? = some (.cells #[.string s] 9 (0, 0)) := by
    rw [hw1]; repeat (first | (refine new_blk ?_; simp; done) | refine old_blk ?_)
  simp only [World.size_alloc]
  clear hw1
  obtain ⟨bx, hbx⟩ : ∃ x, x = w.heap.size := ⟨_, rfl⟩
  rw [← hbx] at x0 x1 x2 x3 x4 x5 x6 x7 ⊢
  obtain ⟨bl, hbl⟩ : ∃ x, x = bx + 1 := ⟨_, rfl⟩
  rw [← hbl] at x1 x2 x3 x4 x5 x6 x7 ⊢
  obtain ⟨mb, hmb⟩ : ∃ x, x = bl + 1 := ⟨_, rfl⟩
  rw [← hmb] at x2 x3 x4 x5 x6 x7 ⊢
  obtain ⟨bp, hbp⟩ : ∃ x, x = mb + 1 := ⟨_, rfl⟩
  rw [← hbp] at x3 x4 x5 x6 x7 ⊢
  obtain ⟨bm, hbm⟩ : ∃ x, x = bp + 1 := ⟨_, rfl⟩
  rw [← hbm] at x4 x5 x6 x7 ⊢
  obtain ⟨bv, hbv⟩ : ∃ x, x = bm + 1 := ⟨_, rfl⟩
  rw [← hbv] at x5 x6 x7 ⊢
  obtain ⟨bn, hbn⟩ : ∃ x, x = bv + 1 := ⟨_, rfl⟩
  rw [← hbn] at x6 x7 ⊢
  obtain ⟨bt, hbt⟩ : ∃ x, x = bn + 1 := ⟨_, rfl⟩
  rw [← hbt] at x7 ⊢
  have HB := Lib.hid (show bx = w.heap.size ∧ bl = bx + 1 ∧ mb = bl + 1 ∧ bp = mb + 1 ∧ bm = bp + 1 ∧ bv = bm + 1 ∧ bn = bv + 1 ∧ bt = bn + 1 from ⟨hbx, hbl, hmb, hbp, hbm, hbv, hbn, hbt⟩)
  clear hbx hbl hmb hbp hbm hbv hbn hbt
  have X0 := Lib.hid x0; have X1 := Lib.hid x1; have X2 := Lib.hid x2; have X3 := Lib.hid x3; have X4 := Lib.hid x4; have X5 := Lib.hid x5; have X6 := Lib.hid x6; have X7 := Lib.hid x7
  have S1 := Lib.hid hs1; have K1 := Lib.hid hk1
  clear x0 x1 x2 x3 x4 x5 x6 x7 hs1 hk1
  gi_wp2_with fail
  refine wpIn_rangeD (gf := 34) (lb := #[.pointer (some ⟨bt, 0, none⟩)]) rfl (enters_of Try.func34 (by kernel_rfl) rfl)
    (clu1_iters bt s (by omega)) (fun W hk => TxtNeed.keep X7.out hk (by simp)) (by intro x hx; obtain ⟨q, _, rfl⟩ := List.mem_map.1 hx; rfl) [bm, bn]
    (fun b hb => by cases hb) (fun b hb => by simp at hb; subst hb; have := S1.out; have := HB.out; simp; omega) (fun b hb => by have := S1.out; have := HB.out; simp at hb; omega)
    (NewI w1 bm bn s) (fun _ _ _ _ => False) NewI.steady (fun _ _ _ _ _ _ h => h.elim)
    ⟨rfl, X6.out, ⟨#[], 0, X4.out, rfl⟩, Keep.refl _ _⟩
    (fun k => { tmps := #[.string s, .pointer (some ⟨bx, 0, none⟩), .pointer none, .pointer (some ⟨bp, 0, none⟩), .pointer (some ⟨bv, 0, none⟩), .pointer (some ⟨bn, 0, none⟩), .int .i64 ((clumps s)[k]?.getD (0, 0)).1, .string (s.extract ((clumps s)[k]?.getD (0, 0)).1 ((clumps s)[k]?.getD (0, 0)).2), undef, undef, undef, undef, undef, undef, .string s, .slice (some ⟨bl, 0, none⟩) 1 1, .agg #[.string s, .slice none 0 0, .slice (some ⟨bl, 0, none⟩) 1 1], .pointer (some ⟨mb, 0, none⟩), .map (some bm), .string s, .func (.func 34) #[] #[.pointer (some ⟨bt, 0, none⟩)], .int .i64 ((clumps s)[k]?.getD (0, 0)).1, .string (s.extract ((clumps s)[k]?.getD (0, 0)).1 ((clumps s)[k]?.getD (0, 0)).2), undef, undef, undef, undef, undef, undef, undef, undef, undef, undef, undef, undef, undef, undef, undef, undef, undef, undef, undef, undef, undef, undef, undef, undef, undef, undef, undef, undef, undef, undef, undef, undef, undef, undef, undef, undef, undef, undef, undef, undef, undef, undef, undef, undef, undef, undef, undef, undef, undef, undef, undef, undef, undef, undef, undef, undef, undef, undef, undef, undef, undef, undef, undef, undef, undef, undef, undef, undef, undef, undef, undef, undef, undef, undef, undef, undef, undef, undef, undef, undef, undef, undef, undef, undef, undef, undef, undef, undef, undef, undef, undef, undef, undef, undef, undef, undef, undef, undef, undef, undef, undef, undef, undef, undef, undef, undef, undef, undef, undef, undef, undef, undef], defers := [] }) ?assign ?body ?done ?stop
  case assign =>
    intro l k hk W K hK
    rw [List.length_map] at hk
    have hk2 := List.getElem?_eq_getElem hk
    rw [List.getElem_map, show (clumps s)[k] = (clumps s)[k]?.getD (0, 0) by rw [hk2]; rfl]
    clear hk2
    have hpa : ∀ q, cluArgs s q = #[.int .i64 q.1, .string (s.extract q.1 q.2)] := fun _ => rfl
    rw [hpa]
    clear hpa
    generalize (clumps s)[k]?.getD (0, 0) = q at hK ⊢
    gi_wp2
    exact hK
  case body =>
    rintro l k hk fp W ⟨rfl, h1, h2, h3⟩
    rw [List.length_map] at hk
    obtain ⟨h0, hbk, a, hca, hlt, hle⟩ := ce_at hk
    have hnew := bmap_new hk
    rw [hca]
    have hsz : (s.extract a (ce s k)).size = ce s k - a := by simp; omega
    have c1 := cell_of_one h1
    have f1 := free_of_one h1
    have h5 := h3.at_ X5.out (by have := HB.out; simp; omega)
    have c5 := cell_of_one h5
    have hfin := one_setCell (u := .int .i64 ((k : Int) + 1)) h1
    have kfin : Keep [bn] W (W.setCell ⟨bn, 0, none⟩ (.int .i64 ((k : Int) + 1))) := (Keep.refl _ _).setCell (.inl (by simp)) _
    obtain ⟨W3, hr, him, hk3⟩ := im_update (P := Try.prog) Try.underlying46 Try.underlying3 (h2.keep kfin (by have := HB.out; simp; omega)) ((ce s k : Nat) : Int) (.int .i64 ((k : Int) + 1)) hnew
    have HF := Lib.hid (show ∃ fp', NewI w1 bm bn s (k + 1) fp' W3 ∧ Keep [bm, bn] W W3 ∧ FromNew [bm, bn] fp' W from by
      have kk : Keep [bm, bn] W W3 := (kfin.mono (by intro x hx; simp at hx; simp [hx])).trans hk3 (fun x hx => by simp at hx; simp [hx])
      refine ⟨_, ⟨rfl, hk3.at_ hfin (by have := HB.out; simp; omega), ?_, h3.trans kk (fun x hx => .inl hx)⟩, kk, FromNew.refl _ _⟩
      rw [bmap_succ]; exact him)
    have hw1 : IntKind.i64.wrap ((a : Int) + ((s.extract a (ce s k)).size : Nat)) = ((ce s k : Nat) : Int) := by rw [IntKind.wrap_i64, hsz]; omega
    have hw2 : IntKind.i64.wrap ((k : Int) + 1) = (k : Int) + 1 := by rw [IntKind.wrap_i64]; omega
    have cfin := cell_of_one hfin
    have c5f := cell_of_one (kfin.at_ h5 (by have := HB.out; simp; omega))
    simp only [Option.getD_some]
    clear h1 h2 h3 h5 hfin kfin him hk3 hbk hca hnew hsz hmm
    generalize s.extract a (ce s k) = px at *
    generalize ce s k = cb at *
    gi_wp2
    exact HF.out
  case done =>
    rintro D fp W hD ⟨rfl, h1, h2, h3⟩ hK hDf
    rw [List.length_map] at h1 h2
    have hlk : ∀ p : Nat, imV (bmap s (clumps s).length) (p : Nat) (.int .i64 0) = .int .i64 (clE s p : Nat) := bmap_look s
    have y0 := h3.at_ X0.out (by have := HB.out; simp; omega)
    have y2 := h3.at_ X2.out (by have := HB.out; simp; omega)
    have y1 := h3.at_ X1.out (by have := HB.out; simp; omega)
    have y3 := h3.at_ X3.out (by have := HB.out; simp; omega)
    have y5 := h3.at_ X5.out (by have := HB.out; simp; omega)
    have c0 := cell_of_one y0
    have l0 := lt_of_block y0
    have hsW : w.heap.size + 8 ≤ W.heap.size := by have := h3.size; have := S1.out; omega
    have kW : Keep [] w W := K1.out.trans h3 (fun x hx => by have := HB.out; simp at hx; omega)
    have H2 := Lib.hid h2; have HK := Lib.hid hK; have KW := Lib.hid kW
    have Y0 := Lib.hid y0; have Y1 := Lib.hid y1; have Y2 := Lib.hid y2; have Y3 := Lib.hid y3; have Y5 := Lib.hid y5
    clear h1 h2 h3 hK y0 y1 y2 y3 y5 kW
    gi_wp2_with fail
    refine ⟨trivial, rfl, ?_⟩
    refine (callsIn_wide.2 (all_any s _)).mono ?_
    rintro e w2 ⟨rfl, hw2⟩
    obtain ⟨bh, hbh⟩ : ∃ x, x = W.heap.size := ⟨_, rfl⟩
    obtain ⟨bg, hbg⟩ : ∃ x, x = bh + 1 := ⟨_, rfl⟩
    have hk2 : Keep [] W w2 := by rw [hw2]; exact ((Keep.refl _ _).alloc _).alloc _
    have hs2 : w2.heap.size = bh + 2 := by rw [hw2]; simp; omega
    have zh : w2.heap[bh]? = some (.cells (spV s 0) 29 (0, 0)) := by
      rw [hw2, hbh, spV_zero]; exact old_blk (new_blk rfl)
    have zg : w2.heap[bg]? = some (.cells #[.string s] 9 (0, 0)) := by
      rw [hw2, hbg, hbh]; exact new_blk (by simp)
    simp only [World.size_alloc]
    rw [← hbh, ← hbg]
    have HBH := Lib.hid (show bh = W.heap.size ∧ bg = bh + 1 from ⟨hbh, hbg⟩)
    have ZH := Lib.hid zh; have ZG := Lib.hid zg; have K2 := Lib.hid hk2; have S2 := Lib.hid hs2
    clear hw2 hbh hbg zh zg hk2 hs2
    gi_wp2_with fail
    refine wpIn_rangeD (gf := 36) (lb := #[.pointer (some ⟨bg, 0, none⟩)]) rfl (enters_of Try.func36 (by kernel_rfl) rfl)
      (all1_iters bg s (by omega)).f (fun W hk => TxtNeed.keep ZG.out hk (by simp)) (by simp [pieceArgs]) [bh, mb, bl]
      (fun b hb => by cases hb) (fun b hb => by simp at hb; subst hb; have := S2.out; have := HBH.out; have := HB.out; simp; omega) (fun b hb => by have := S2.out; have := HBH.out; have := HB.out; simp at hb; omega)
      (PNew w2 w.heap.size bh mb bl s) (fun _ _ _ _ => False) PNew.steady (fun _ _ _ _ _ _ h => h.elim)
      (PNew.start ZH.out (K2.out.at_ Y2.out (by simp)) (K2.out.at_ Y1.out (by simp)) (by have := HB.out; omega))
      (fun k => { tmps := #[.string s, .pointer (some ⟨bx, 0, none⟩), .pointer none, .pointer (some ⟨bp, 0, none⟩), .pointer (some ⟨bv, 0, none⟩), .pointer (some ⟨bn, 0, none⟩), undef, undef, .pointer (some ⟨bh, 0, none⟩), .int .i64 (((cut s 0)[k]?.getD 0) : Nat), .int .i32 (dec s ((cut s 0)[k]?.getD 0)).1, undef, undef, undef, .string s, .slice (some ⟨bl, 0, none⟩) 1 1, .agg #[.string s, .slice none 0 0, .slice (some ⟨bl, 0, none⟩) 1 1], .pointer (some ⟨mb, 0, none⟩), .map (some bm), .string s, .func (.func 34) #[] #[.pointer (some ⟨bt, 0, none⟩)], undef, undef, undef, undef, undef, undef, undef, undef, undef, undef, .agg #[.int .i64 0, .int .i64 0, .int .i64 0, .int .i64 0, .int .i64 1, .int .i64 1], .string s, .func (.func 36) #[] #[.pointer (some ⟨bg, 0, none⟩)], .int .i64 (((cut s 0)[k]?.getD 0) : Nat), .int .i32 (dec s ((cut s 0)[k]?.getD 0)).1, undef, undef, undef, undef, undef, undef, undef, undef, undef, undef, undef, undef, undef, undef, undef, undef, undef, undef, undef, undef, undef, undef, undef, undef, undef, undef, undef, undef, undef, undef, undef, undef, undef, undef, undef, undef, undef, undef, undef, undef, undef, undef, undef, undef, undef, undef, undef, undef, undef, undef, undef, undef, undef, undef, undef, undef, undef, undef, undef, undef, undef, undef, undef, undef, undef, undef, undef, undef, undef, undef, undef, undef, undef, undef, undef, undef, undef, undef, undef, undef, undef, undef, undef, undef, undef, undef, undef, undef, undef, undef, undef, undef, undef, undef, undef, undef, undef, undef, undef], defers := [] }) ?assign2 ?body2 ?done2 ?stop2
    case assign2 =>
      intro l k hk W K hK
      rw [List.length_map] at hk
      have hk2 := List.getElem?_eq_getElem hk
      rw [List.getElem_map, show (cut s 0)[k] = (cut s 0)[k]?.getD 0 by rw [hk2]; rfl]
      clear hk2
      have hpa : ∀ i, pieceArgs s i = #[.int .i64 i, .int .i32 (dec s i).1] := fun _ => rfl
      rw [hpa]
      clear hpa
      generalize (cut s 0)[k]?.getD 0 = q at hK ⊢
      gi_wp2
      exact hK
    case body2 =>
      rintro l k hk fp W3 ⟨vs, vl, j1, j2, j3, j4, j5, j6, j7, j8, j9, j10⟩
      rw [List.length_map] at hk
      have hkn : k < np s := hk
      rw [pos_get hk]
      simp only [Option.getD_some]
      clear hk
      have hnp := np_le s
      have hbs : bh < w2.heap.size ∧ bl < w2.heap.size ∧ mb < w2.heap.size ∧ bp < w2.heap.size ∧ bx < w2.heap.size ∧ bv < w2.heap.size ∧ bm < w2.heap.size ∧ w.heap.size ≤ bl ∧ bl ≠ mb ∧ bl ≠ bh ∧ mb ≠ bh ∧ w.heap.size ≤ mb ∧ w.heap.size ≤ bh := by
        have := S2.out; have := HBH.out; have := HB.out; have := lt_of_block Y3.out; have := lt_of_block Y0.out; have := lt_of_block Y5.out; have := H2.out.lt; omega
      have kx : ∀ {x : World} {b : Nat} {o : Obj}, W.heap[b]? = some o → b ≠ bh → b ≠ mb → b ≠ bl → W3.heap[b]? = some o := fun ho h1 h2 h3 => j10.at_ (K2.out.at_ ho (by simp)) (by simp; exact ⟨h1, h2, h3⟩)
      have z3 : W3.heap[bp]? = _ := kx (x := W) Y3.out (by have := HBH.out; have := HB.out; have := lt_of_block Y3.out; omega) (by have := HB.out; omega) (by have := HB.out; omega)
      have z0 : W3.heap[bx]? = _ := kx (x := W) Y0.out (by have := HBH.out; have := HB.out; have := lt_of_block Y0.out; omega) (by have := HB.out; omega) (by have := HB.out; omega)
      have z5 : W3.heap[bv]? = _ := kx (x := W) Y5.out (by have := HBH.out; have := HB.out; have := lt_of_block Y5.out; omega) (by have := HB.out; omega) (by have := HB.out; omega)
      have him3 : IM W3 bm .i64 (bmap s (clumps s).length) := (H2.out.keep K2.out (by simp)).keep j10 (by have := HBH.out; have := HB.out; have := H2.out.lt; simp; omega)
      clear kx
      have c3 := cell_of_one z3
      have l3 := lt_of_block z3
      have lm := lt_of_block j2
      have lh := lt_of_block j1
      gi_upto_region 13 with (fail)
      obtain ⟨v', W4, hap, hpost⟩ := spot_append_drew (k := k) j3 (by have := j10.size; omega) (by omega)
      obtain ⟨ad4, cap4, hv4⟩ := (SlAt.of_owns hpost.1).empty
      subst hv4
      have k3d : Keep [] W3 W3.drew := (Keep.refl _ _).drew
      have k3a : Keep [] W3 (W3.alloc (.cells (spV s k) 29)).drew := ((Keep.refl _ _).alloc _).drew
      have hk4 : Keep vs.ownBlock.toList W3 W4 := (k3a.mono (by simp)).trans' hpost.2.1
      have hnv : ∀ b, b < w2.heap.size → b ∉ vs.ownBlock.toList := fun b hb h => by simp at h; have := (j7 _ h).2; omega
      unfold spV at hap
      refine wpIn_fix (.inr ⟨_, rfl⟩) 8 [6, 7] (fun q => if q = 0 then W3.drew else if q = 1 then (W3.alloc (.cells (spV s k) 29)).drew else W4)
        (fun w' => w'.cell? ⟨bp, 0, none⟩ = some (.pointer (some ⟨mb, 0, none⟩)) ∧ w'.cell? ⟨mb, 1, none⟩ = some vs ∧ w'.cell? ⟨bh, 0, none⟩ = some (.int .i64 (pos s k : Nat)) ∧ w'.cell? ⟨bh, 1, none⟩ = some (.int .i64 (k : Nat)) ∧ w'.cell? ⟨bh, 2, none⟩ = some (.int .i64 (un s k : Nat)) ∧ w'.cell? ⟨bh, 3, none⟩ = some (.int .i64 (cl s k : Nat)) ∧ w'.cell? ⟨bh, 4, none⟩ = some (.int .i64 (ln s k : Nat)) ∧ w'.cell? ⟨bh, 5, none⟩ = some (.int .i64 (co s k : Nat)))
        [.pointer (some ⟨mb, 0, none⟩), .pointer (some ⟨mb, 0, none⟩), .pointer (some ⟨mb, 0, none⟩), .pointer (some ⟨mb, 1, none⟩), vs, .agg #[.int .i64 (pos s k : Nat), .int .i64 (k : Nat), .int .i64 (un s k : Nat), .int .i64 (cl s k : Nat), .int .i64 (ln s k : Nat), .int .i64 (co s k : Nat)], .slice (some ⟨W3.heap.size, 0, none⟩) 1 1, .slice ad4 (k + 1) cap4]
        (by kernel_rfl) (by kernel_rfl) rfl rfl (show _ = W4 from rfl) ?hC13 ?rest13
      case hC13 =>
        intro q hq
        have hfin : ∀ x : World, Keep vs.ownBlock.toList W3 x → x.cell? ⟨bp, 0, none⟩ = some (.pointer (some ⟨mb, 0, none⟩)) ∧ x.cell? ⟨mb, 1, none⟩ = some vs ∧ x.cell? ⟨bh, 0, none⟩ = some (.int .i64 (pos s k : Nat)) ∧ x.cell? ⟨bh, 1, none⟩ = some (.int .i64 (k : Nat)) ∧ x.cell? ⟨bh, 2, none⟩ = some (.int .i64 (un s k : Nat)) ∧ x.cell? ⟨bh, 3, none⟩ = some (.int .i64 (cl s k : Nat)) ∧ x.cell? ⟨bh, 4, none⟩ = some (.int .i64 (ln s k : Nat)) ∧ x.cell? ⟨bh, 5, none⟩ = some (.int .i64 (co s k : Nat)) := fun x hx => by
          have h1 := cell_of_one (hx.at_ z3 (hnv _ hbs.2.2.2.1))
          have h2 := cell_of_block (hx.at_ j2 (hnv _ hbs.2.2.1)) 1
          have h3 := hx.at_ j1 (hnv _ hbs.1)
          exact ⟨h1, h2, cell_of_block h3 0, cell_of_block h3 1, cell_of_block h3 2, cell_of_block h3 3, cell_of_block h3 4, cell_of_block h3 5⟩
        rcases q with _ | _ | q
        · exact hfin _ (k3d.mono (by simp))
        · exact hfin _ (k3a.mono (by simp))
        · exact hfin _ hk4
      case rest13 =>
        intro A hA
        simp only [putVals, List.take, Act.put, List.setIfInBounds_toArray, List.set_cons_succ, List.set_cons_zero] at hA
        subst hA
        refine ⟨?_, fixWrites_cons rfl rfl ?_ (fixWrites_cons rfl rfl ?_ fixWrites_nil), ?_⟩
        · iterate 6
            refine fixReads_cons rfl ?_ ?_
            · intro w1 hw1 K Q hK
              obtain ⟨q1, q2, q3, q4, q5, q6, q7, q8⟩ := hw1
              go_simp
              exact hK
          exact fixReads_skip (by rfl) (fixReads_skip (by rfl) fixReads_nil)
        · intro K Q hK
          go_simp
          exact hK
        · exact fun K Q hK => wp_append_eq _ _ _ rfl rfl rfl hap hK
        · have m4 := hk4.at_ j2 (hnv _ hbs.2.2.1)
          have f4 : W4.frozen? ⟨mb, 1, none⟩ = false := free_of_block m4 1
          have c4 : W4.cell? ⟨mb, 1, none⟩ = some vs := by rw [cell_of_block m4]; rfl
          have lm4 := lt_of_block m4
          obtain ⟨W5, hW5⟩ : ∃ W5, W4.setCell ⟨mb, 1, none⟩ (.slice ad4 (k + 1) cap4) = W5 := ⟨_, rfl⟩
          have k5 : Keep [mb] W4 W5 := by rw [← hW5]; exact (Keep.refl _ _).setCell (.inl (by simp)) _
          have m5 : W5.heap[mb]? = some (.cells #[.string s, .slice ad4 (k + 1) cap4, vl] 39 (0, 0)) := by rw [← hW5, block_setCell m4]; rfl
          have hx0 := k5.at_ (hk4.at_ z0 (hnv _ hbs.2.2.2.2.1)) (by have := HB.out; simp; omega)
          have hx5 := k5.at_ (hk4.at_ z5 (hnv _ hbs.2.2.2.2.2.1)) (by have := HB.out; simp; omega)
          have hx3 := k5.at_ (hk4.at_ z3 (hnv _ hbs.2.2.2.1)) (by have := HB.out; simp; omega)
          have hxh := k5.at_ (hk4.at_ j1 (hnv _ hbs.1)) (by have := hbs; simp; omega)
          have him5 := (him3.keep hk4 (hnv _ hbs.2.2.2.2.2.2.1)).keep k5 (by have := HB.out; simp; omega)
          have HP := Lib.hid (PMid.of ⟨hbs.2.2.1, hbs.2.1, hbs.2.2.2.2.2.2.2.2.1⟩ j2 j3 j4 j5 j6 j7 j8 j9 j10 hpost hW5)
          clear hpost hk4 k5 m4 j1 j2 j3 j4 j5 j6 j7 j8 j9 j10 hap k3d k3a hlk z0 z3 z5 him3 hnv
          simp only [List.drop]
          gi_upto_region 14 with (fail)
          obtain ⟨fp1, hmid⟩ := HP.out
          clear HP f4 c4 lm4 c3 l3 lm lh
          have hpl := pos_lt hkn
          have hle := pos_le s (k + 1)
          have hps := pos_step hkn
          have hdn := dec_n hpl
          have hun := un_le s (k + 1) (by omega)
          have hcl := cl_le (s := s) k (by omega)
          have hco : co s k ≤ k + 1 := by unfold co; omega
          have hlnk := ln_le s k
          have hx0 := cell_of_one hx0
          have hx3 := cell_of_one hx3
          have hx5 := cell_of_one hx5
          have u0 := cell_of_block hxh 0
          have u1 := cell_of_block hxh 1
          have u2 := cell_of_block hxh 2
          have u3 := cell_of_block hxh 3
          have u4 := cell_of_block hxh 4
          have u5 := cell_of_block hxh 5
          simp [spV] at u0 u1 u2 u3 u4 u5
          have fh := free_of_block hxh
          have lh5 := lt_of_block hxh
          have e1 : bx ≠ bh := by have := HB.out; have := HBH.out; have := lt_of_block Y0.out; omega
          have e2 : bv ≠ bh := by have := HB.out; have := HBH.out; have := lt_of_block Y5.out; omega
          have e3 : bp ≠ bh := by have := HB.out; have := HBH.out; have := lt_of_block Y3.out; omega
          have e4 : bm ≠ bh := by have := HBH.out; have := H2.out.lt; omega
          unfold spV at hxh
          have C0 := Lib.hid hx0; have C3 := Lib.hid hx3; have C5 := Lib.hid hx5
          have M := Lib.hid hmid; have IMW := Lib.hid him5; have XH := Lib.hid hxh; have M5 := Lib.hid m5
          clear hmid him5 hxh m5 hW5
          have HU := Lib.hid (show un s (k + 1) = un s k + (if 65536 ≤ rn s k then 2 else 1) from rfl)
          have HCM := Lib.hid (cl_max hkn)
          gi_wp2_with fail
          refine ⟨trivial, rfl, ?_⟩
          refine ((callsIn_wide.2 (decode_in s _ _ (by omega) hpl)).inRound l).mono ?_
          rintro e W6 ⟨rfl, rfl⟩
          unfold decV
          have hrn : (dec s (pos s k)).1 = rn s k := rfl
          rw [hrn]
          generalize (dec s (pos s k)).2 = wd at *
          have hw0 : IntKind.i64.wrap ((pos s k : Int) + (wd : Int)) = ((pos s (k + 1) : Nat) : Int) := by rw [IntKind.wrap_i64]; omega
          have hw1 : IntKind.i64.wrap ((k : Int) + 1) = ((k : Int) + 1) := by rw [IntKind.wrap_i64]; omega
          have hw2 : IntKind.i64.wrap ((un s k : Int) + 1) = ((un s k : Int) + 1) := by rw [IntKind.wrap_i64]; have := un_succ s k; omega
          have hw3 : IntKind.i64.wrap ((co s k : Int) + 1) = ((co s k : Int) + 1) := by rw [IntKind.wrap_i64]; omega
          have HPS := Lib.hid hps
          have HUB := Lib.hid (show un s k + 2 ≤ 1000005 by have := un_le s k (by omega); have := pos_le s k; omega)
          have HCL := Lib.hid hcl; have HLN := Lib.hid hlnk; have HPL := Lib.hid hpl; have HPE := Lib.hid hle; have HKN := Lib.hid hkn; have HNP := Lib.hid hnp; have HBS := Lib.hid hbs
          have HEND := Lib.hid (endP_byte hkn)
          have HSPV := Lib.hid (show (endP s k = false → spV s (k + 1) = #[.int .i64 (pos s (k + 1) : Nat), .int .i64 ((k : Int) + 1), .int .i64 (un s (k + 1) : Nat), .int .i64 (cl s (k + 1) : Nat), .int .i64 (ln s k : Nat), .int .i64 ((co s k : Int) + 1)]) ∧
              (endP s k = true → spV s (k + 1) = #[.int .i64 (pos s (k + 1) : Nat), .int .i64 ((k : Int) + 1), .int .i64 (un s (k + 1) : Nat), .int .i64 (cl s (k + 1) : Nat), .int .i64 ((ln s k : Int) + 1), .int .i64 1]) from spV_step s k)
          clear hrn hps hun hcl hco hlnk hdn hle hpl hkn hnp hcn hmm hbs
          generalize pos s k = p0 at *
          generalize pos s (k + 1) = p1 at *
          obtain ⟨ri, hri⟩ : ∃ ri : Int, ((rn s k : Nat) : Int) = ri := ⟨_, rfl⟩
          rw [hri]
          have HRI := Lib.hid hri; clear hri
          generalize un s k = uu at *
          generalize cl s k = cc at *
          generalize co s k = oo at *
          have fh0 := fh 0; have fh1 := fh 1; have fh2 := fh 2; have fh3 := fh 3; have fh4 := fh 4; have fh5 := fh 5
          clear fh
          gi_upto_region 16 with (fail)
          refine wpIn_cut (fun x => Keep [bh] W5 x ∧ x.heap[bh]? = some (.cells #[.int .i64 (p1 : Nat), .int .i64 ((k : Int) + 1), .int .i64 ((uu : Int) + 1), .int .i64 (cc : Nat), .int .i64 (ln s k : Nat), .int .i64 ((oo : Int) + 1)] 29 (0, 0))) ⟨?_, ?_⟩ ?_
          · exact ((((Keep.refl _ _).setCell (.inl (by simp)) _).setCell (.inl (by simp)) _).setCell (.inl (by simp)) _).setCell (.inl (by simp)) _
          · have := block_setCell (block_setCell (block_setCell (block_setCell XH.out 0 (.int .i64 (p1 : Nat))) 1 (.int .i64 ((k : Int) + 1))) 2 (.int .i64 ((uu : Int) + 1))) 5 (.int .i64 ((oo : Int) + 1))
            exact this
          rintro W6 ⟨k6, b6⟩
          have hx0 := k6.cellv hx0 (by simpa using e1)
          have hx3 := k6.cellv hx3 (by simpa using e3)
          have hx5 := k6.cellv hx5 (by simpa using e2)
          clear u0 u1 u2 u3 u4 u5 fh0 fh1 fh2 fh3 fh4 fh5 lh5 XH
          have u2 := cell_of_block b6 2
          simp at u2
          have fh2 := free_of_block b6 2
          have lh5 := lt_of_block b6
          have K6 := Lib.hid k6; have B6 := Lib.hid b6
          clear k6 b6
          have hall : ∃ b : Bool, decide (65536 ≤ ri) = b := ⟨_, rfl⟩
          obtain ⟨big, tb⟩ := hall
          have hU : un s (k + 1) = if big = true then uu + 2 else uu + 1 := by
            rw [HU.out, ← tb, ← HRI.out]; by_cases h : 65536 ≤ rn s k
            · have h' : (65536 : Int) ≤ ((rn s k : Nat) : Int) := by omega
              rw [if_pos h, decide_eq_true h', if_pos rfl]
            · have h' : ¬ (65536 : Int) ≤ ((rn s k : Nat) : Int) := by omega
              rw [if_neg h, decide_eq_false h', if_neg (by decide)]
          have HU2 := Lib.hid hU
          have hwu : IntKind.i64.wrap ((uu : Int) + 1 + 1) = ((uu : Int) + 1 + 1) := by rw [IntKind.wrap_i64]; have := HUB.out; omega
          clear hU
          cases big
          all_goals
            gi_upto_region 18 with (fail)
            refine wpIn_cut (fun x => Keep [bh] W5 x ∧ x.heap[bh]? = some (.cells #[.int .i64 (p1 : Nat), .int .i64 ((k : Int) + 1), .int .i64 (un s (k + 1) : Nat), .int .i64 (cc : Nat), .int .i64 (ln s k : Nat), .int .i64 ((oo : Int) + 1)] 29 (0, 0))) ?_ ?_
            · first
                | exact ⟨K6.out, by rw [HU2.out]; exact B6.out⟩
                | exact ⟨K6.out.setCell (.inl (by simp)) _, by rw [HU2.out]; exact block_setCell B6.out 2 (.int .i64 ((uu : Int) + 1 + 1))⟩
            rintro W7 ⟨k7, b7⟩
            clear tb u2 fh2 lh5 hx0 hx3 hx5 hw0 hw1 hw2 hw3 hwu
            have him7 := (IMW.out).keep k7 (by simpa using e4)
            have hx5 := k7.cellv C5.out (by simpa using e2)
            have u3 := cell_of_block b7 3
            simp at u3
            have fh3 := free_of_block b7 3
            have lh7 := lt_of_block b7
            have hw0 : IntKind.i64.wrap ((p0 : Int) + (wd : Int)) = ((p1 : Nat) : Int) := by rw [IntKind.wrap_i64]; have := HPS.out; have := HPE.out; omega
            have hlk := im_lookup (P := Try.prog) Try.underlying46 Try.underlying3 him7 ((p1 : Nat) : Int) false (z := .int .i64 0) rfl
            rw [if_neg (by decide), bmap_look] at hlk
            have hmax : ∀ (ts : Array TypeId) (t : TypeId) (W : World), (Builtin.max_ ts t #[.int .i64 (cc : Nat), .int .i64 (clE s p1 : Nat)]).run Try.prog W = .ok (.int .i64 (cl s (k + 1) : Nat)) W := fun ts t W => by
              rw [run_max_int2 (P := Try.prog) W ts t .i64 .i64, HCM.out]
              congr 2
              split <;> omega
            have K7 := Lib.hid k7; have B7 := Lib.hid b7
            clear k7 b7 him7
            generalize clE s p1 = ce1 at *
            generalize cl s (k + 1) = cc1 at *
            generalize un s (k + 1) = uu1 at *
            gi_upto_region 19 with (fail)
            refine wpIn_cut (fun x => Keep [bh] W5 x ∧ x.heap[bh]? = some (.cells #[.int .i64 (p1 : Nat), .int .i64 ((k : Int) + 1), .int .i64 (uu1 : Nat), .int .i64 (cc1 : Nat), .int .i64 (ln s k : Nat), .int .i64 ((oo : Int) + 1)] 29 (0, 0))) ?_ ?_
            · exact ⟨K7.out.setCell (.inl (by simp)) _, block_setCell B7.out 3 (.int .i64 (cc1 : Nat))⟩
            rintro W8 ⟨k8, b8⟩
            clear hx5 u3 fh3 lh7 hw0 hlk hmax K7 B7
            have hx0 := k8.cellv C0.out (by simpa using e1)
            have hix0 : ∀ W : World, (Instr.index 9 (.string s) (.int .i64 (p0 : Nat))).run Try.prog W = .ok (.int .u8 (byt s p0 : Nat)) W := fun W => index_byte HPL.out W
            obtain ⟨yi, hyi⟩ : ∃ yi : Int, ((byt s p0 : Nat) : Int) = yi := ⟨_, rfl⟩
            rw [hyi] at hix0
            obtain ⟨qi, hqi⟩ : ∃ qi : Int, IntKind.i64.wrap ((p0 : Int) + 1) = qi := ⟨_, rfl⟩
            have hqv : qi = ((p0 + 1 : Nat) : Int) := by rw [← hqi, IntKind.wrap_i64]; have := HPE.out; have := HPL.out; omega
            have K8 := Lib.hid k8; have B8 := Lib.hid b8; have HQV := Lib.hid hqv; have HYI := Lib.hid hyi
            clear k8 b8 hqv hyi
            by_cases hend : endP s k = true
            · -- a line's end
              have hcases : (yi = 10) ∨ (yi ≠ 10 ∧ yi = 13 ∧ qi = (s.size : Int)) ∨ (yi ≠ 10 ∧ yi = 13 ∧ qi ≠ (s.size : Int) ∧ byt s (p0 + 1) ≠ 10 ∧ p0 + 1 < s.size) := by
                rw [HEND.out] at hend
                have := HYI.out; have := HQV.out; have := HPL.out
                by_cases h1 : byt s p0 = 10
                · exact .inl (by omega)
                · simp [h1] at hend
                  by_cases h2 : p0 + 1 = s.size
                  · exact .inr (.inl (by omega))
                  · exact .inr (.inr ⟨by omega, by omega, by omega, by omega, by omega⟩)
              have hix1 : p0 + 1 < s.size → ∀ W : World, (Instr.index 9 (.string s) (.int .i64 qi)).run Try.prog W = .ok (.int .u8 (byt s (p0 + 1) : Nat)) W := fun h5 W => by
                have := index_byte h5 W; rw [HQV.out]; exact this
              obtain ⟨zi, hzi⟩ : ∃ zi : Int, ((byt s (p0 + 1) : Nat) : Int) = zi := ⟨_, rfl⟩
              rw [hzi] at hix1
              have HZ := Lib.hid (show byt s (p0 + 1) ≠ 10 → zi ≠ 10 from fun h => by omega)
              have v4 := cell_of_block B8.out 4
              have v5 := cell_of_block B8.out 5
              simp at v4 v5
              have g4 := free_of_block B8.out 4
              have g5 := free_of_block B8.out 5
              have lh8 := lt_of_block B8.out
              have hwl : IntKind.i64.wrap ((ln s k : Int) + 1) = ((ln s k : Int) + 1) := by rw [IntKind.wrap_i64]; have := HLN.out; have := HKN.out; have := HNP.out; omega
              have HE := Lib.hid hend
              clear hend hzi
              rcases hcases with h1 | ⟨h1, h2, h3⟩ | ⟨h1, h2, h3, h4, h5⟩
              case' inl =>
                have t1 : (yi == 10) = true := by simpa using h1
                clear hix1 h1
              case' inr.inl =>
                have t1 : (yi == 10) = false := by simpa using h1
                have t2 : (yi == 13) = true := by simpa using h2
                have t3 : (qi == (s.size : Int)) = true := by simpa using h3
                clear hix1 h1 h2 h3
              case' inr.inr =>
                have t1 : (yi == 10) = false := by simpa using h1
                have t2 : (yi == 13) = true := by simpa using h2
                have t3 : (qi == (s.size : Int)) = false := by simpa using h3
                have t4 : (zi != 10) = true := by simpa using HZ.out h4
                have hix1 := hix1 h5
                clear h1 h2 h3 h4 h5
              all_goals
                gi_upto_region 22 with (fail)
                refine wpIn_cut (fun x => Keep [bh] W5 x ∧ x.heap[bh]? = some (.cells (spV s (k + 1)) 29 (0, 0)) ∧ x.cell? ⟨bh, 1, none⟩ = some (.int .i64 ((k : Int) + 1))) ?_ ?_
                · have hb := block_setCell (block_setCell B8.out 4 (.int .i64 ((ln s k : Int) + 1))) 5 (.int .i64 1)
                  refine ⟨(K8.out.setCell (.inl (by simp)) _).setCell (.inl (by simp)) _, ?_, cell_of_block hb 1⟩
                  rw [HSPV.out.2 HE.out]
                  exact hb
                rintro W9 ⟨k9, b9, v1⟩
                clear v4 v5 g4 g5 lh8 hwl hqi hx0 hix0
                try clear t1
                try clear t2
                try clear t3
                try clear t4
                have hpm := M.out.keep ⟨HBS.out.1, HBS.out.2.2.2.2.2.2.2.2.2.1, HBS.out.2.2.2.2.2.2.2.2.2.2.1⟩ k9
                have hpm' := hpm
                obtain ⟨n1, n2, n3, n4, n5, n6, n7, n8, n9, n10, n11, n12, n13⟩ := hpm'
                obtain ⟨vl', W10, hap, hpost⟩ := line_append_drew ((k : Int) + 1) n3 (by have := n9.size; have := HBS.out; omega) (by have := HLN.out; have := HKN.out; have := HNP.out; omega)
                obtain ⟨ad10, cap10, hv10⟩ := (SlAt.of_owns hpost.1).empty
                subst hv10
                have z3 := k9.cellv C3.out (by simpa using e3)
                have k9d : Keep [] W9 W9.drew := (Keep.refl _ _).drew
                have k9a : Keep [] W9 (W9.alloc (.cells #[.int .i64 ((k : Int) + 1)] 3)).drew := ((Keep.refl _ _).alloc _).drew
                have hk10 : Keep vl.ownBlock.toList W9 W10 := (k9a.mono (by simp)).trans' hpost.2.1
                have hnv : ∀ b, b < w2.heap.size → b ≠ bl → b ∉ vl.ownBlock.toList := fun b hb hne h => by simp at h; have := (n7 _ h).2; omega
                have lpp : bp < w2.heap.size ∧ bp ≠ bl := by have h1 := HBS.out.2.2.2.1; have h2 := HB.out; omega
                refine wpIn_fix (.inr ⟨_, rfl⟩) 9 [7, 8] (fun q => if q = 0 then W9.drew else if q = 1 then (W9.alloc (.cells #[.int .i64 ((k : Int) + 1)] 3)).drew else W10)
                  (fun w' => w'.cell? ⟨bp, 0, none⟩ = some (.pointer (some ⟨mb, 0, none⟩)) ∧ w'.cell? ⟨mb, 2, none⟩ = some vl ∧ w'.cell? ⟨bh, 1, none⟩ = some (.int .i64 ((k : Int) + 1)))
                  [.pointer (some ⟨mb, 0, none⟩), .pointer (some ⟨mb, 0, none⟩), .pointer (some ⟨mb, 0, none⟩), .pointer (some ⟨mb, 2, none⟩), vl, .pointer (some ⟨bh, 1, none⟩), .int .i64 ((k : Int) + 1), .slice (some ⟨W9.heap.size, 0, none⟩) 1 1, .slice ad10 (ln s k + 1) cap10]
                  (by kernel_rfl) (by kernel_rfl) rfl rfl (show _ = W10 from rfl) ?hC22 ?rest22
                case hC22 =>
                  intro q hq
                  have hfin : ∀ x : World, Keep vl.ownBlock.toList W9 x → x.cell? ⟨bp, 0, none⟩ = some (.pointer (some ⟨mb, 0, none⟩)) ∧ x.cell? ⟨mb, 2, none⟩ = some vl ∧ x.cell? ⟨bh, 1, none⟩ = some (.int .i64 ((k : Int) + 1)) := fun x hx =>
                    ⟨hx.cellv z3 (hnv _ lpp.1 lpp.2), cell_of_block (hx.at_ n1 (hnv _ HBS.out.2.2.1 (by have := HBS.out; omega))) 2, hx.cellv v1 (hnv bh HBS.out.1 (by have := HBS.out; omega))⟩
                  rcases q with _ | _ | q
                  · exact hfin _ (k9d.mono (by simp))
                  · exact hfin _ (k9a.mono (by simp))
                  · exact hfin _ hk10
                case rest22 =>
                  intro A hA
                  simp only [putVals, List.take, Act.put, List.setIfInBounds_toArray, List.set_cons_succ, List.set_cons_zero] at hA
                  subst hA
                  refine ⟨?_, fixWrites_cons rfl rfl ?_ (fixWrites_cons rfl rfl ?_ fixWrites_nil), ?_⟩
                  · iterate 7
                      refine fixReads_cons rfl ?_ ?_
                      · intro w1 hw1 K Q hK
                        obtain ⟨q1, q2, q3⟩ := hw1
                        go_simp
                        exact hK
                    exact fixReads_skip (by rfl) (fixReads_skip (by rfl) fixReads_nil)
                  · intro K Q hK
                    go_simp
                    exact hK
                  · exact fun K Q hK => wp_append_eq _ _ _ rfl rfl rfl hap hK
                  · have m10 := hk10.at_ n1 (hnv _ HBS.out.2.2.1 (by have := HBS.out; omega))
                    have f10 : W10.frozen? ⟨mb, 2, none⟩ = false := free_of_block m10 2
                    have c10 : W10.cell? ⟨mb, 2, none⟩ = some vl := by rw [cell_of_block m10]; rfl
                    have lm10 := lt_of_block m10
                    have HF := Lib.hid (hpm.next1 ⟨HBS.out.2.2.1, HBS.out.1, by have := HBS.out; omega, by have := HBS.out; omega, by have := HBS.out; omega⟩ HE.out b9 hpost rfl)
                    clear hpm n1 n2 n3 n4 n5 n6 n7 n8 n9 n10 n11 n12 n13 hap hpost hk10 k9d k9a k9 b9 hnv
                    simp only [List.drop]
                    gi_wp2
                    exact HF.out
            · have hcases : (yi ≠ 10 ∧ yi ≠ 13) ∨ (yi ≠ 10 ∧ yi = 13 ∧ qi ≠ (s.size : Int) ∧ byt s (p0 + 1) = 10 ∧ p0 + 1 < s.size) := by
                rw [HEND.out] at hend
                have := HYI.out; have := HQV.out; have := HPL.out
                simp at hend
                by_cases h2 : byt s p0 = 13
                · have h3 := hend.2 h2
                  exact .inr ⟨by omega, by omega, by omega, by omega, by omega⟩
                · exact .inl ⟨by omega, by omega⟩
              have hend' : endP s k = false := by simpa using hend
              have HF := Lib.hid (show ∃ fp', PNew w2 w.heap.size bh mb bl s (k + 1) fp' W8 ∧ Keep fp W3 W8 ∧ FromNew fp fp' W3 from by
                refine PMid.next0 (M.out.keep ⟨HBS.out.1, HBS.out.2.2.2.2.2.2.2.2.2.1, HBS.out.2.2.2.2.2.2.2.2.2.2.1⟩ K8.out) hend' ?_
                rw [HSPV.out.1 hend']
                exact B8.out)
              rcases hcases with ⟨h1, h2⟩ | ⟨h1, h2, h3, h4, h5⟩
              · have t1 : (yi == 10) = false := by simpa using h1
                have t2 : (yi == 13) = false := by simpa using h2
                clear hend hend' h1 h2
                gi_wp2
                exact HF.out
              · have t1 : (yi == 10) = false := by simpa using h1
                have t2 : (yi == 13) = true := by simpa using h2
                have t3 : (qi == (s.size : Int)) = false := by simpa using h3
                have hix1 : ∀ W : World, (Instr.index 9 (.string s) (.int .i64 qi)).run Try.prog W = .ok (.int .u8 10) W := fun W => by
                  have := index_byte h5 W; rw [h4] at this; rw [HQV.out]; exact this
                clear hend hend' h1 h2 h3 h4 h5
                gi_wp2
                exact HF.out
    case done2 =>
      rintro D2 fp W3 hD2 ⟨vs, vl, j1, j2, j3, j4, j5, j6, j7, j8, j9, j10⟩ hK2 hDf2
      rw [List.length_map, show (cut s 0).length = np s from rfl] at j1 j3 j4
      have hbs : bh < w2.heap.size ∧ bl < w2.heap.size ∧ mb < w2.heap.size ∧ w.heap.size ≤ bl ∧ bl ≠ mb ∧ bl ≠ bh ∧ mb ≠ bh ∧ w.heap.size ≤ mb ∧ w.heap.size ≤ bh := by have := S2.out; have := HBH.out; have := HB.out; omega
      have z3 := j10.at_ (K2.out.at_ Y3.out (by simp)) (by have := HBH.out; have := HB.out; have := lt_of_block Y3.out; simp; omega)
      have c3 := cell_of_one z3
      have l3 := lt_of_block z3
      have cm1 : W3.cell? ⟨mb, 1, none⟩ = some vs := by rw [cell_of_block j2]; rfl
      have fm1 : W3.frozen? ⟨mb, 1, none⟩ = false := free_of_block j2 1
      have lm := lt_of_block j2
      have lh := lt_of_block j1
      gi_upto_region 23 with (fail)
      have hnp := np_le s
      obtain ⟨v', W4, hap, hpost⟩ := spot_append_drew (k := np s) j3 (by have := hbs.2.2.2.2.2.2.2; have := j10.size; omega) (by omega)
      obtain ⟨ad4, cap4, hv4⟩ := (SlAt.of_owns hpost.1).empty
      subst hv4
      have k3d : Keep [] W3 W3.drew := (Keep.refl _ _).drew
      have k3a : Keep [] W3 (W3.alloc (.cells (spV s (np s)) 29)).drew := ((Keep.refl _ _).alloc _).drew
      have hk4 : Keep vs.ownBlock.toList W3 W4 := (k3a.mono (by simp)).trans' hpost.2.1
      have z3' := z3
      unfold spV at hap
      refine wpIn_fix (.inl rfl) 8 [6, 7] (fun k => if k = 0 then W3.drew else if k = 1 then (W3.alloc (.cells (spV s (np s)) 29)).drew else W4)
        (fun w' => w'.cell? ⟨bp, 0, none⟩ = some (.pointer (some ⟨mb, 0, none⟩)) ∧ w'.cell? ⟨mb, 1, none⟩ = some vs ∧ w'.cell? ⟨bh, 0, none⟩ = some (.int .i64 (pos s (np s) : Nat)) ∧ w'.cell? ⟨bh, 1, none⟩ = some (.int .i64 (np s : Nat)) ∧ w'.cell? ⟨bh, 2, none⟩ = some (.int .i64 (un s (np s) : Nat)) ∧ w'.cell? ⟨bh, 3, none⟩ = some (.int .i64 (cl s (np s) : Nat)) ∧ w'.cell? ⟨bh, 4, none⟩ = some (.int .i64 (ln s (np s) : Nat)) ∧ w'.cell? ⟨bh, 5, none⟩ = some (.int .i64 (co s (np s) : Nat)))
        [.pointer (some ⟨mb, 0, none⟩), .pointer (some ⟨mb, 0, none⟩), .pointer (some ⟨mb, 0, none⟩), .pointer (some ⟨mb, 1, none⟩), vs, .agg #[.int .i64 (pos s (np s) : Nat), .int .i64 (np s : Nat), .int .i64 (un s (np s) : Nat), .int .i64 (cl s (np s) : Nat), .int .i64 (ln s (np s) : Nat), .int .i64 (co s (np s) : Nat)], .slice (some ⟨W3.heap.size, 0, none⟩) 1 1, .slice ad4 (np s + 1) cap4]
        (by kernel_rfl) (by kernel_rfl) rfl rfl (show _ = W4 from rfl) ?hC ?rest
      case hC =>
        intro k hk
        have hkeep : ∀ x : World, Keep vs.ownBlock.toList W3 x → x.cell? ⟨bp, 0, none⟩ = some (.pointer (some ⟨mb, 0, none⟩)) ∧ x.cell? ⟨mb, 1, none⟩ = some vs ∧ x.heap[bh]? = some (.cells (spV s (np s)) 29 (0, 0)) := fun x hx => by
          refine ⟨cell_of_one (hx.at_ z3 ?_), ?_, hx.at_ j1 ?_⟩
          · intro h; simp at h; have := (j7 _ h).2; have := K2.out.size; have := lt_of_block Y3.out; omega
          · rw [cell_of_block (hx.at_ j2 (by intro h; simp at h; have := (j7 _ h).2; omega))]; rfl
          · intro h; simp at h; have := (j7 _ h).2; omega
        have hfin : ∀ x : World, Keep vs.ownBlock.toList W3 x → x.cell? ⟨bp, 0, none⟩ = some (.pointer (some ⟨mb, 0, none⟩)) ∧ x.cell? ⟨mb, 1, none⟩ = some vs ∧ x.cell? ⟨bh, 0, none⟩ = some (.int .i64 (pos s (np s) : Nat)) ∧ x.cell? ⟨bh, 1, none⟩ = some (.int .i64 (np s : Nat)) ∧ x.cell? ⟨bh, 2, none⟩ = some (.int .i64 (un s (np s) : Nat)) ∧ x.cell? ⟨bh, 3, none⟩ = some (.int .i64 (cl s (np s) : Nat)) ∧ x.cell? ⟨bh, 4, none⟩ = some (.int .i64 (ln s (np s) : Nat)) ∧ x.cell? ⟨bh, 5, none⟩ = some (.int .i64 (co s (np s) : Nat)) := fun x hx => by
          obtain ⟨h1, h2, h3⟩ := hkeep x hx
          exact ⟨h1, h2, cell_of_block h3 0, cell_of_block h3 1, cell_of_block h3 2, cell_of_block h3 3, cell_of_block h3 4, cell_of_block h3 5⟩
        rcases k with _ | _ | k
        · exact hfin _ (k3d.mono (by simp))
        · exact hfin _ (k3a.mono (by simp))
        · exact hfin _ hk4
      case rest =>
        intro A hA
        simp only [putVals, List.take, Act.put, List.setIfInBounds_toArray, List.set_cons_succ, List.set_cons_zero] at hA
        subst hA
        refine ⟨?_, fixWrites_cons rfl rfl ?_ (fixWrites_cons rfl rfl ?_ fixWrites_nil), ?_⟩
        · iterate 6
            refine fixReads_cons rfl ?_ ?_
            · intro w1 hw1 K Q hK
              obtain ⟨q1, q2, q3, q4, q5, q6, q7, q8⟩ := hw1
              go_simp
              exact hK
          exact fixReads_skip (by rfl) (fixReads_skip (by rfl) fixReads_nil)
        · intro K Q hK
          go_simp
          exact hK
        · exact fun K Q hK => wp_append_eq _ _ _ rfl rfl rfl hap hK
        · have m4 := hk4.at_ j2 (by intro h; simp at h; have := (j7 _ h).2; omega)
          have f4 : W4.frozen? ⟨mb, 1, none⟩ = false := free_of_block m4 1
          have c4 : W4.cell? ⟨mb, 1, none⟩ = some vs := by rw [cell_of_block m4]; rfl
          have lm4 := lt_of_block m4
          have c4p := cell_of_one (hk4.at_ z3 (by intro h; simp at h; have := (j7 _ h).2; have := K2.out.size; have := lt_of_block Y3.out; omega))
          have c5p := ((Keep.refl [mb] W4).setCell (p := ⟨mb, 1, none⟩) (.inl (by simp)) (.slice ad4 (np s + 1) cap4)).cellv c4p (by have := HB.out; simp; omega)
          have HP := Lib.hid (new_end (D := D) (D2 := D2) (w := w) (bl := bl) (bh := bh) (by have := HB.out; omega) (by have := HB.out; omega) (by have := HB.out; have := S1.out; omega) (by have := HBH.out; have := lt_of_block HK.out; omega) hbs.1 hD2 (KW.out.trans0 K2.out) j2 j3 j4
            (fun g hg => ⟨fun e => hDf2 (e ▸ (j7 g hg).1), (j7 g hg).2⟩) (fun g hg => ⟨fun e => hDf2 (e ▸ (j8 g hg).1), (j8 g hg).2⟩) j10 hK2 (K2.out.at_ HK.out (by simp)) hpost)
          clear hpost hk4 m4 j1 j2 j3 j4 j5 j6 j7 j8 j9 j10 hap k3d k3a hlk
          simp only [List.drop]
          gi_wp2
          obtain ⟨W5, W6, h1, h2, h3, h4⟩ := HP.out
          refine ⟨by simp, .inl ⟨_, _, rfl, h1, by simp, .inl ⟨_, _, rfl, h2, ?_⟩⟩⟩
          exact ⟨_, results_tmp rfl _ _ _, mb, rfl, by have := HB.out; omega, h3, h4⟩
    case stop2 => exact fun _ _ _ _ _ _ _ h => h.elim
  case stop => exact fun _ _ _ _ _ _ _ h => h.elim
end Go.Proofs.Ytodbjehggkdjaaa
