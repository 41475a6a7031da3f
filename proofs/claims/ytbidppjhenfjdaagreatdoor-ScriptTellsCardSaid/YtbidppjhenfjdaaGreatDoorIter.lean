/-
  Iterators (a range over a function, or a function value handed as yield): one contract for both, and the law of the statement.
-/
import Derived.Test.YtbidppjhenfjdaaGreatDoorKeep
import Derived.RangeFuncNested
import Derived.RangeFuncBound
import Derived.RangeFuncCalls
import Derived.RangeFuncLeaves
import Derived.OwnWalkIn
import Derived.TacticsInMore
import Derived.LoopNIn
import Derived.LoopIn
namespace Go.Proofs.YtbidppjhenfjdaaGreatDoor
open Go.RowKit
set_option linter.unusedVariables false

/-- A call of a function value: the yield of a range over a function, or a closure. -/
def CallV (P : Program) (y : Value) (args : Array Value) (W : World) (R : Ending → World → Prop) : Prop :=
  (∃ l, y = .func (.yield l) #[] #[] ∧ YieldAt Fence.wide 0 P l args W R) ∨
  (∃ g lb, y = .func (.func g) #[] lb ∧ (∀ a w, (callFunc g a).run P w = .ok (.enter g a) w) ∧ Calls P g (args ++ lb) W R)

theorem CallV.mono {P : Program} {y : Value} {args : Array Value} {W : World} {R R' : Ending → World → Prop} (h : CallV P y args W R) (hr : ∀ e w, R e w → R' e w) : CallV P y args W R' := by
  rcases h with ⟨l, hl, h⟩ | ⟨g, lb, hg, he, h⟩
  · exact .inl ⟨l, hl, h.mono hr⟩
  · exact .inr ⟨g, lb, hg, he, h.mono hr⟩

/-- What came to be in fp' lay in fp, or was not there yet. -/
def FromNew (fp fp' : List Nat) (W : World) : Prop := ∀ b ∈ fp', b ∈ fp ∨ W.heap.size ≤ b
theorem FromNew.refl (fp : List Nat) (W : World) : FromNew fp fp W := fun _ h => .inl h

/-- What holds between two rounds abides the iterator's own steps, from W on: it writes to its own blocks and to new ones. -/
def Steady (own : List Nat) (W : World) (J : List Nat → World → Prop) : Prop :=
  ∀ fp W1 W2 S, J fp W1 → Keep S W1 W2 → (∀ b ∈ S, b ∉ fp ∧ (b ∈ own ∨ W.heap.size ≤ b)) → J fp W2

theorem Steady.later {own : List Nat} {W W' : World} {J : List Nat → World → Prop} (h : Steady own W J) (hs : W.heap.size ≤ W'.heap.size) : Steady own W' J :=
  fun fp W1 W2 S hj hk hS => h fp W1 W2 S hj hk (fun b hb => ⟨(hS b hb).1, (hS b hb).2.imp id (fun h => Nat.le_trans hs h)⟩)

/-- One round: yield says go on, and k + 1 have come; or it says no more. The blocks that the round may write: fp, and new ones. -/
def RoundPost (J : Nat → List Nat → World → Prop) (Jx : Nat → List Nat → World → Prop) (k : Nat) (fp : List Nat) (W : World) (e : Ending) (W' : World) : Prop :=
  (e = .returned (.bool true) ∧ ∃ fp', J (k + 1) fp' W' ∧ Keep fp W W' ∧ FromNew fp fp' W) ∨
  (e = .returned (.bool false) ∧ ∃ fp', Jx k fp' W' ∧ Keep fp W W' ∧ FromNew fp fp' W)

/-- What an iterator ends in. -/
def IterPost (n : Nat) (J : Nat → List Nat → World → Prop) (Jx : Nat → List Nat → World → Prop) (e : Ending) (W' : World) : Prop :=
  e = .returned (.tuple #[]) ∧ ((∃ fp', J n fp' W') ∨ (∃ k fp', k < n ∧ Jx k fp' W'))

/-- AN ITERATOR's CONTRACT: function g with what it has captured hands xs on, one by one. -/
def Iters (P : Program) (g : Nat) (lb : Array Value) (xs : List (Array Value)) (own rd : List Nat) (Need : World → Prop) : Prop :=
  ∀ (y : Value) (J Jx : Nat → List Nat → World → Prop) (fp : List Nat) (W : World), Need W → (∀ b ∈ own, b < W.heap.size ∧ b ∉ fp) → (∀ b ∈ rd, b < W.heap.size ∧ b ∉ fp) →
    (∀ k, Steady own W (J k)) → (∀ k, Steady own W (Jx k)) →
    (∀ k (hk : k < xs.length) fp W1, J k fp W1 → CallV P y xs[k] W1 (RoundPost J Jx k fp W1)) →
    (∀ b ∈ fp, b < W.heap.size) → J 0 fp W → Calls P g (#[y] ++ lb) W (IterPost xs.length J Jx)

/-- How the body of a round may be left. -/
def BodyPost (I : Nat → List Nat → World → Prop) (Ix : Code → Nat → List Nat → World → Prop) (k : Nat) (fp : List Nat) (W : World) : Exit → Act → World → Prop
  | .normal, _, W' => ∃ fp', I (k + 1) fp' W' ∧ Keep fp W W' ∧ FromNew fp fp' W
  | .ret, _, W' => ∃ fp', Ix .ret k fp' W' ∧ Keep fp W W' ∧ FromNew fp fp' W
  | .exit id, _, W' => ∃ fp', Ix (.exit id) k fp' W' ∧ Keep fp W W' ∧ FromNew fp fp' W
  | .goto t, _, W' => ∃ fp', Ix (.goto t) k fp' W' ∧ Keep fp W W' ∧ FromNew fp fp' W
  | .panic _, _, _ => False
  | .outgrown, _, _ => False

theorem keep_putObj (W : World) (l : Nat) (o : Obj) : Keep [l] W (W.putObj l o) :=
  ⟨rfl, rfl, rfl, by simp, fun k _ hk => World.putObj_heap_other (by simpa using hk)⟩

variable {P : Program} {n : Nat}

/-- THE STATEMENT 'for .. := range seq { body }'. -/
theorem wpIn_range {g : Operand} {ps : Array Tmp} {assign body : Code} {Q : Exit → Act → World → Prop} {a : Act} {w : World}
    {gf : Nat} {lb : Array Value} (hg : a.eval g = .func (.func gf) #[] lb) (eg : ∀ args w, (callFunc gf args).run P w = .ok (.enter gf args) w)
    {xs : List (Array Value)} {own rd : List Nat} {Need : World → Prop} (hseq : Iters P gf lb xs own rd Need) (hneed : ∀ W, Keep [] w W → Need W)
    (hps : ∀ x ∈ xs, x.size = ps.size) (fp : List Nat) (hown : ∀ b ∈ own, b < w.heap.size ∧ b ∉ fp) (hrd : ∀ b ∈ rd, b < w.heap.size ∧ b ∉ fp) (hfp : ∀ b ∈ fp, b < w.heap.size)
    (I : Nat → List Nat → World → Prop) (Ix : Code → Nat → List Nat → World → Prop) (hI : ∀ k, Steady own w (I k)) (hIx : ∀ c k, Steady own w (Ix c k)) (h0 : I 0 fp w)
    (a₁ : Nat → Act)
    (hassign : ∀ (l k : Nat) (hk : k < xs.length) (W : World) (K : Act → World → Prop), K (a₁ k) W →
      assign.wpIn (Fence.wide.inRound l) 0 P (Exit.then K (fun _ _ _ => False)) { tmps := (ps.zip xs[k]).foldl (fun t (p, v) => t.setIfInBounds p v) a.tmps, defers := [] } W)
    (hbody : ∀ (l k : Nat) (hk : k < xs.length) (fp : List Nat) (W : World), I k fp W → body.wpIn (Fence.wide.inRound l) 0 P (BodyPost I Ix k fp W) (a₁ k) W)
    (hdone : ∀ (D : Nat) (fp : List Nat) (W : World), w.heap.size ≤ D → I xs.length fp W → W.heap[D]? = some (.deferred (some [])) → Q .normal { a with defers := { target := .collected D, args := #[] } :: a.defers } W)
    (hstop : ∀ (D : Nat) (c : Code) (k : Nat) (fp : List Nat) (W : World), w.heap.size ≤ D → k < xs.length → Ix c k fp W → W.heap[D]? = some (.deferred (some [])) → c.wpIn Fence.wide n P Q { a with defers := { target := .collected D, args := #[] } :: a.defers } W) :
    (Code.rangeFunc g ps assign body).wpIn Fence.wide n P Q a w := by
  refine wpIn_rangeFunc ?_
  intro fn hfn
  rw [show Fence.wide.round = none from rfl]
  obtain ⟨rec, hrec⟩ : ∃ rec : LoopState → Option Code → Loop, rec = fun st pe => { state := st, pending := pe, fn, tmps := a.tmps, params := ps, assign, body, defers := w.heap.size } := ⟨_, rfl⟩
  obtain ⟨W1, hW1⟩ : ∃ W1, (w.alloc (.deferred (some []))).alloc (.loop (rec .ready none)) = W1 := ⟨_, rfl⟩
  have hL1 : W1.heap[w.heap.size + 1]? = some (.loop (rec .ready none)) := by
    rw [← hW1]; have := World.alloc_heap_new (w.alloc (.deferred (some []))) (.loop (rec .ready none)); rwa [World.size_alloc] at this
  have hK1 : W1.heap[w.heap.size]? = some (.deferred (some [])) := by
    rw [← hW1]; exact (Below.heap_alloc _ _ _ (by simp)).trans (World.alloc_heap_new w _)
  have hk1 : Keep [] w W1 := by rw [← hW1]; exact ((Keep.refl [] w).alloc _).alloc _
  have hsz1 : W1.heap.size = w.heap.size + 2 := by rw [← hW1]; simp
  have hI1 : I 0 fp W1 := hI 0 fp w W1 [] h0 hk1 (fun b hb => by cases hb)
  refine ⟨w.heap.size + 1, [{ target := .collected w.heap.size, args := #[] }], W1, { target := .fn (.func gf) lb, args := #[.func (.yield (w.heap.size + 1)) #[] #[]] }, W1, gf,
    #[.func (.yield (w.heap.size + 1)) #[] #[]] ++ lb, W1, ?_, ?_, ?_, ?_, fun h => by simp [Fence.wide] at h, ?_⟩
  · rw [← hW1, hrec]; exact run_enterLoop_outer _ _ _ _ _
  · simp only [resolve, hg]
    simp [go_sem]
  · intro f' hf'; trivial
  · simp [invoke, go_sem, eg]
  · obtain ⟨l, hl⟩ : ∃ l, l = w.heap.size + 1 := ⟨_, rfl⟩
    obtain ⟨D, hD⟩ : ∃ D, D = w.heap.size := ⟨_, rfl⟩
    rw [← hl] at hL1 ⊢
    rw [← hD] at hK1
    refine callsIn_wide.2 ((hseq (.func (.yield l) #[] #[])
      (fun k fx W => ∃ fp, fx = l :: fp ∧ I k fp W ∧ W.heap[l]? = some (.loop (rec .ready none)) ∧ W.heap[D]? = some (.deferred (some [])) ∧ D ∉ fp ∧ l ∉ fp)
      (fun k fx W => ∃ fp, fx = l :: fp ∧ ∃ c, Ix c k fp W ∧ W.heap[l]? = some (.loop (rec .done (some c))) ∧ W.heap[D]? = some (.deferred (some [])) ∧ D ∉ fp ∧ l ∉ fp)
      (l :: fp) W1 (hneed W1 hk1) (fun b hb => ⟨by have := (hown b hb).1; omega, fun h => by rcases List.mem_cons.1 h with h | h; have := (hown b hb).1; omega; exact (hown b hb).2 h⟩) (fun b hb => ⟨by have := (hrd b hb).1; omega, fun h => by rcases List.mem_cons.1 h with h | h; have := (hrd b hb).1; omega; exact (hrd b hb).2 h⟩) ?_ ?_ ?_ (fun b hb => by rcases List.mem_cons.1 hb with h | h; omega; have := hfp b h; omega)
      ⟨fp, rfl, hI1, hL1, hK1, fun h => absurd (hfp _ h) (by omega), fun h => absurd (hfp _ h) (by omega)⟩).mono ?_)
    · rintro k fx W2 W3 S ⟨fp, rfl, hi, h1, hd, hn1, hn2⟩ hkeep hS
      have hS' : ∀ b ∈ S, b ∉ fp ∧ (b ∈ own ∨ w.heap.size ≤ b) := fun b hb => ⟨fun h => (hS b hb).1 (List.mem_cons_of_mem _ h), (hS b hb).2.imp id (fun h => by omega)⟩
      have hout : ∀ m, m = D ∨ m = l → m ∉ S := fun m hm hb => by
        rcases (hS m hb).2 with h | h
        · have := (hown m h).1; omega
        · omega
      exact ⟨fp, rfl, hI k fp W2 W3 S hi hkeep hS', hkeep.at_ h1 (hout _ (.inr rfl)), hkeep.at_ hd (hout _ (.inl rfl)), hn1, hn2⟩
    · rintro k fx W2 W3 S ⟨fp, rfl, c, hi, h1, hd, hn1, hn2⟩ hkeep hS
      have hS' : ∀ b ∈ S, b ∉ fp ∧ (b ∈ own ∨ w.heap.size ≤ b) := fun b hb => ⟨fun h => (hS b hb).1 (List.mem_cons_of_mem _ h), (hS b hb).2.imp id (fun h => by omega)⟩
      have hout : ∀ m, m = D ∨ m = l → m ∉ S := fun m hm hb => by
        rcases (hS m hb).2 with h | h
        · have := (hown m h).1; omega
        · omega
      exact ⟨fp, rfl, c, hIx c k fp W2 W3 S hi hkeep hS', hkeep.at_ h1 (hout _ (.inr rfl)), hkeep.at_ hd (hout _ (.inl rfl)), hn1, hn2⟩
    · rintro k hk fx W ⟨fp, rfl, hi, h1, hd, hn1, hn2⟩
      refine .inl ⟨l, rfl, ?_⟩
      have hlt : l < W.heap.size := (Array.getElem?_eq_some_iff.1 h1).1
      have hy := run_yield (P := P) (args := xs[k]) h1 (by rw [hrec]; exact hps _ (List.getElem_mem hk))
      rw [hrec] at hy
      refine ⟨fn, _, assign, body, hy, roundIn_of_wpIn trivial ?_⟩
      refine hassign l k hk W _ ⟨_, run_beginRound h1 (by rw [hrec]), ?_⟩
      have hkb : Keep [l] W (W.putObj l (.loop { rec .ready none with state := .busy })) := keep_putObj _ _ _
      have hib := hI k fp W _ [l] hi hkb (fun b hb => by simp at hb; subst hb; exact ⟨hn2, .inr (by omega)⟩)
      have hl2 : (W.putObj l (.loop { rec .ready none with state := .busy })).heap[l]? = some (.loop { rec .ready none with state := .busy }) := World.putObj_heap_same hlt
      have hd2 : (W.putObj l (.loop { rec .ready none with state := .busy })).heap[D]? = some (.deferred (some [])) := (World.putObj_heap_other (by omega)).trans hd
      have hszb : (W.putObj l (.loop { rec .ready none with state := .busy })).heap.size = W.heap.size := by simp
      refine Code.wpIn_mono ?_ (hbody l k hk fp _ hib)
      have fin : ∀ (jump : Option Code) (fp' : List Nat) (W3 : World), Keep fp (W.putObj l (.loop { rec .ready none with state := .busy })) W3 → FromNew fp fp' (W.putObj l (.loop { rec .ready none with state := .busy })) →
          ∃ W4, (Instr.endRound l jump).run P W3 = .ok (.bool jump.isNone) W4 ∧ Keep [l] W3 W4 ∧
          W4.heap[l]? = some (.loop (rec (if jump.isNone then .ready else .done) jump)) ∧ W4.heap[D]? = some (.deferred (some [])) ∧
          D ∉ fp' ∧ l ∉ fp' ∧ Keep (l :: fp) W W4 ∧ FromNew (l :: fp) (l :: fp') W := fun jump fp' W3 hk3 hf3 => by
        have hl3 := hk3.at_ hl2 hn2
        have := run_endRound (P := P) jump hl3
        rw [hrec] at this
        have hK4 : Keep [l] W3 (W3.putObj l (.loop { state := if jump.isNone = true then .ready else .done, pending := jump, fn := fn, tmps := a.tmps, params := ps, assign := assign, body := body, defers := w.heap.size })) := keep_putObj _ _ _
        have hlt3 : W.heap.size ≤ W3.heap.size := by have := hk3.size; rwa [hszb] at this
        refine ⟨_, this, hK4, ?_, (World.putObj_heap_other (by omega)).trans (hk3.at_ hd2 hn1), ?_, ?_, ?_, ?_⟩
        · rw [hrec]; exact World.putObj_heap_same (by omega)
        · intro h; rcases hf3 _ h with h' | h'; exact hn1 h'; rw [hszb] at h'; omega
        · intro h; rcases hf3 _ h with h' | h'; exact hn2 h'; rw [hszb] at h'; omega
        · exact ((hkb.mono (L' := l :: fp) (by simp)).trans hk3 (by intro x hx; simp [hx])).trans hK4 (by simp)
        · intro b hb
          rcases List.mem_cons.1 hb with h | h
          · subst h; simp
          · rcases hf3 b h with h' | h'
            · simp [h']
            · rw [hszb] at h'; exact .inr h'
      have abide : ∀ {J : List Nat → World → Prop} {fp' : List Nat} {W3 W4 : World}, Steady own w J → J fp' W3 → Keep [l] W3 W4 → l ∉ fp' → J fp' W4 := fun hJ hj hk hn =>
        hJ _ _ _ [l] hj hk (fun b hb => by simp at hb; subst hb; exact ⟨hn, .inr (by omega)⟩)
      rintro e a3 W3 hp
      cases e with
      | normal =>
        obtain ⟨fp', hi3, hk3, hf3⟩ := hp
        obtain ⟨W4, hr, hk4, h4, h4d, n1, n2, hkk, hff⟩ := fin none fp' W3 hk3 hf3
        exact ⟨_, _, hr, .inl ⟨rfl, l :: fp', ⟨fp', rfl, abide (hI _) hi3 hk4 n2, h4, h4d, n1, n2⟩, hkk, hff⟩⟩
      | ret =>
        obtain ⟨fp', hi3, hk3, hf3⟩ := hp
        obtain ⟨W4, hr, hk4, h4, h4d, n1, n2, hkk, hff⟩ := fin (some .ret) fp' W3 hk3 hf3
        exact ⟨_, _, hr, .inr ⟨rfl, l :: fp', ⟨fp', rfl, .ret, abide (hIx _ _) hi3 hk4 n2, h4, h4d, n1, n2⟩, hkk, hff⟩⟩
      | exit id =>
        obtain ⟨fp', hi3, hk3, hf3⟩ := hp
        obtain ⟨W4, hr, hk4, h4, h4d, n1, n2, hkk, hff⟩ := fin (some (.exit id)) fp' W3 hk3 hf3
        exact ⟨_, _, hr, .inr ⟨rfl, l :: fp', ⟨fp', rfl, .exit id, abide (hIx _ _) hi3 hk4 n2, h4, h4d, n1, n2⟩, hkk, hff⟩⟩
      | goto t =>
        obtain ⟨fp', hi3, hk3, hf3⟩ := hp
        obtain ⟨W4, hr, hk4, h4, h4d, n1, n2, hkk, hff⟩ := fin (some (.goto t)) fp' W3 hk3 hf3
        exact ⟨_, _, hr, .inr ⟨rfl, l :: fp', ⟨fp', rfl, .goto t, abide (hIx _ _) hi3 hk4 n2, h4, h4d, n1, n2⟩, hkk, hff⟩⟩
      | panic ch => exact hp.elim
      | outgrown => exact hp.elim
    · have abide : ∀ {J : List Nat → World → Prop} {fp' : List Nat} {W3 W4 : World}, Steady own w J → J fp' W3 → Keep [l] W3 W4 → l ∉ fp' → J fp' W4 := fun hJ hj hk hn =>
        hJ _ _ _ [l] hj hk (fun b hb => by simp at hb; subst hb; exact ⟨hn, .inr (by omega)⟩)
      rintro e W2 ⟨rfl, ⟨fx, fp', rfl, hi, h1, hd, n1, n2⟩ | ⟨k, fx, hk, fp', rfl, c, hi, h1, hd, n1, n2⟩⟩
      · exact ⟨none, _, by have := run_endLoop (P := P) h1 (by rw [hrec]; simp); rw [hrec] at this; exact this,
          by rw [← hD]; exact hdone D fp' _ (by omega) (abide (hI _) hi (keep_putObj _ _ _) n2) ((World.putObj_heap_other (by omega)).trans hd)⟩
      · exact ⟨some c, _, by have := run_endLoop (P := P) h1 (by rw [hrec]; simp); rw [hrec] at this; exact this,
          by rw [← hD]; exact hstop D c k fp' _ (by omega) hk (abide (hIx _ _) hi (keep_putObj _ _ _) n2) ((World.putObj_heap_other (by omega)).trans hd)⟩

/-- The walk is stopped ahead of a call of the value in slot t. -/
theorem park_call {F : Fence} {ops : Array Oper} {rest : List Oper} {o : Oper} {a : Act} {w : World} {Q : Exit → Act → World → Prop} (t : Nat) (args : Array Operand) (tys : Array TypeId)
    (ho : o.op = .call { callee := .value (.tmp t), args := args, argTypes := tys }) (h : Hid (wpListIn F n P ops Q (o :: rest) a w)) : wpListIn F n P ops Q (o :: rest) a w := h

/-- A CALL OF A FUNCTION VALUE, in a fenced walk at the wide fence (in a round of it too). -/
theorem wpListIn_callV {F : Fence} (hF : F = Fence.wide ∨ ∃ l, F = Fence.wide.inRound l) {ops : Array Oper} {rest : List Oper} {o : Oper} {a : Act} {w : World} {Q : Exit → Act → World → Prop}
    (hw : Region.wanted o (yielded ops a.tmps) = true) (f : Operand) (args : List Operand) (tys : Array TypeId) (ho : o.op = .call { callee := .value f, args := args.toArray, argTypes := tys })
    (y : Value) (hy : a.eval f = y) (avs : List Value) (hav : args.map a.eval = avs) (R : Ending → World → Prop) (h : CallV P y avs.toArray w R)
    (hR : ∀ e w', R e w' → ∃ v, e = .returned v ∧ wpListIn F n P ops Q rest (a.put o.dst v) w') : wpListIn F n P ops Q (o :: rest) a w := by
  have hfn : ∀ f, F.fn f := by rcases hF with rfl | ⟨l, rfl⟩ <;> exact fun _ => trivial
  have hdep : F.depth.isSome = true → 1 ≤ n := by rcases hF with rfl | ⟨l, rfl⟩ <;> (intro h; simp [Fence.wide] at h)
  have hround : ∀ {l fn tmps assign body W R}, RoundIn Fence.wide 0 P l fn tmps assign body W R → RoundIn F (n - 1) P l fn tmps assign body W R := by
    intro l fn tmps assign body W R hr
    refine ⟨hfn _, fun c cs _ => ?_⟩
    have := hr.2 c cs (room_wide _)
    rcases hF with rfl | ⟨l', rfl⟩ <;> exact this
  have hcalls : ∀ {g args W R}, Calls P g args W R → CallsIn F (n - 1) P g args W R := by
    intro g args W R hc
    have := (callsIn_wide (n := n - 1)).2 hc
    rcases hF with rfl | ⟨l', rfl⟩ <;> exact this
  unfold wpListIn
  rw [if_pos hw]
  refine ⟨fun f _ => hfn f, ?_⟩
  rw [Oper.semAt_eq _ _ _ (by rw [ho]; intro c hc; cases hc)]
  subst hav
  rcases h with ⟨l, rfl, fn, tmps, assign, body, hy', hr⟩ | ⟨g, lb, rfl, he, hc⟩
  · have hex : (execOp a.eval o).run P w = .ok (.round l fn tmps assign body) w := by
      unfold execOp
      simp only [ho, resolve, hy]
      simpa [go_sem, invoke] using hy'
    rw [hex]
    refine ⟨hdep, (hround hr).mono ?_⟩
    intro e w' hRe
    obtain ⟨v, rfl, hk⟩ := hR e w' hRe
    exact hk
  · have hex : (execOp a.eval o).run P w = .ok (.enter g ((args.map a.eval).toArray ++ lb)) w := by
      unfold execOp
      simp only [ho, resolve, hy]
      simp [go_sem, invoke, he]
    rw [hex]
    refine ⟨hdep, (hcalls hc).mono ?_⟩
    intro e w' hRe
    obtain ⟨v, rfl, hk⟩ := hR e w' hRe
    exact hk
end Go.Proofs.YtbidppjhenfjdaaGreatDoor
