/-
  The words of a line read as a step: the loop over the table.
-/
import Derived.Test.YtbidppjhenfjdaaGreatDoorKeep
import Derived.RangeFuncRecord
import Derived.Test.YtbidppjhenfjdaaGreatDoorIter
import Derived.RangeFuncNested
import Derived.Test.YtbidppjhenfjdaaGreatDoorProg
import Derived.WalkKit
import Derived.Shelf.Abstract
import Derived.WalkSpells
import Derived.Test.YtbidppjhenfjdaaGreatDoorSl
import Derived.Laws.EntriesVeiled
import Derived.Deep.CutRange
import Derived.Test.YtbidppjhenfjdaaGreatDoorGlyP
import Derived.Test.YtbidppjhenfjdaaGreatDoorRow
import Derived.Test.YtbidppjhenfjdaaGreatDoorAppend
import Derived.Test.YtbidppjhenfjdaaGreatDoorRegFix
import Derived.LoopIn
import Derived.Sort.CutIn
namespace Go.Proofs.YtbidppjhenfjdaaGreatDoor
open Go.RowKit
set_option linter.unusedVariables false

def allocs (w : World) (os : List Obj) : World := os.foldl (fun u o => u.alloc o) w
theorem allocs_keep : ∀ (os : List Obj) (w : World), Keep [] w (allocs w os) := by
  intro os
  induction os with
  | nil => intro w; exact Keep.refl _ _
  | cons o os ih => intro w; exact ((Keep.refl [] w).alloc o).trans (ih (w.alloc o)) (fun x hx => by cases hx)
theorem allocs_size : ∀ (os : List Obj) (w : World), (allocs w os).heap.size = w.heap.size + os.length := by
  intro os
  induction os with
  | nil => intro w; rfl
  | cons o os ih =>
    intro w
    have := ih (w.alloc o)
    rw [World.size_alloc] at this
    rw [List.length_cons]
    have e : allocs w (o :: os) = allocs (w.alloc o) os := rfl
    rw [e, this]
    omega
theorem allocs_at : ∀ (os : List Obj) (w : World) (i : Nat) (o : Obj), os[i]? = some o → (allocs w os).heap[w.heap.size + i]? = some o := by
  intro os
  induction os with
  | nil => intro w i o h; cases h
  | cons p os ih =>
    intro w i o h
    have e : allocs w (p :: os) = allocs (w.alloc p) os := rfl
    rw [e]
    cases i with
    | zero =>
      have hp : p = o := by simpa using h
      subst hp
      exact (allocs_keep os (w.alloc p)).at_ (World.alloc_heap_new w p) (by simp)
    | succ i =>
      have := ih (w.alloc p) i o (by simpa using h)
      rw [World.size_alloc] at this
      rwa [show w.heap.size + (i + 1) = w.heap.size + 1 + i by omega]
end Go.Proofs.YtbidppjhenfjdaaGreatDoor
namespace Go.Proofs.YtbidppjhenfjdaaGreatDoor
open Go.RowKit
set_option linter.unusedVariables false

/-- As Iters; the iterator may ask, ahead of each round, what holds between the rounds (Rd). -/
def ItersR (P : Program) (g : Nat) (lb : Array Value) (xs : List (Array Value)) (own rd : List Nat) (Need : World → Prop) (Rd : Nat → World → Prop) : Prop :=
  ∀ (y : Value) (J Jx : Nat → List Nat → World → Prop) (fp : List Nat) (W : World), Need W → (∀ b ∈ own, b < W.heap.size ∧ b ∉ fp) → (∀ b ∈ rd, b < W.heap.size ∧ b ∉ fp) →
    (∀ k, Steady own W (J k)) → (∀ k, Steady own W (Jx k)) → (∀ k, k < xs.length → ∀ fp W1, J k fp W1 → Rd k W1) →
    (∀ k (hk : k < xs.length) fp W1, J k fp W1 → CallV P y xs[k] W1 (RoundPost J Jx k fp W1)) →
    (∀ b ∈ fp, b < W.heap.size) → J 0 fp W → Calls P g (#[y] ++ lb) W (IterPost xs.length J Jx)

variable {P : Program} {n : Nat}

/-- THE STATEMENT 'for .. := range seq { body }' whose variable lies in a box: each round lays it anew. -/
theorem wpIn_rangeB {g : Operand} {ps : Array Tmp} {assign body : Code} {Q : Exit → Act → World → Prop} {a : Act} {w : World}
    {gf : Nat} {lb : Array Value} (hg : a.eval g = .func (.func gf) #[] lb) (eg : ∀ args w, (callFunc gf args).run P w = .ok (.enter gf args) w)
    {xs : List (Array Value)} {own rd : List Nat} {Need : World → Prop} {Rd : Nat → World → Prop} (hseq : ItersR P gf lb xs own rd Need Rd) (hneed : ∀ W, Keep [] w W → Need W)
    (hps : ∀ x ∈ xs, x.size = ps.size) (fp : List Nat) (hown : ∀ b ∈ own, b < w.heap.size ∧ b ∉ fp) (hrd : ∀ b ∈ rd, b < w.heap.size ∧ b ∉ fp) (hfp : ∀ b ∈ fp, b < w.heap.size)
    (I : Nat → List Nat → World → Prop) (hRd : ∀ k, k < xs.length → ∀ fp W, I k fp W → Rd k W) (Ix : Code → Nat → List Nat → World → Prop) (hI : ∀ k, Steady own w (I k)) (hIx : ∀ c k, Steady own w (Ix c k)) (h0 : I 0 fp w)
    (hIlt : ∀ k fp W, I k fp W → ∀ b ∈ fp, b < W.heap.size) (o : Nat → Obj) (a₁ : Nat → Nat → Act)
    (hassign : ∀ (l k : Nat) (hk : k < xs.length) (W : World) (K : Act → World → Prop), K (a₁ k W.heap.size) (W.alloc (o k)) →
      assign.wpIn (Fence.wide.inRound l) 0 P (Exit.then K (fun _ _ _ => False)) { tmps := (ps.zip xs[k]).foldl (fun t (p, v) => t.setIfInBounds p v) a.tmps, defers := [] } W)
    (hbody : ∀ (l k : Nat) (hk : k < xs.length) (fp : List Nat) (B : Nat) (W : World), I k fp W → W.heap[B]? = some (o k) → B ∉ fp → w.heap.size ≤ B → (∃ r, W.heap[l]? = some (.loop r)) → l ∉ fp → w.heap.size ≤ l → body.wpIn (Fence.wide.inRound l) 0 P (BodyPost I Ix k fp W) (a₁ k B) W)
    (hdone : ∀ (D : Nat) (fp : List Nat) (W : World), w.heap.size ≤ D → I xs.length fp W → W.heap[D]? = some (.deferred (some [])) → Q .normal { a with defers := { target := .collected D, args := #[] } :: a.defers } W)
    (hstop : ∀ (D : Nat) (c : Code) (k : Nat) (fp : List Nat) (W : World), w.heap.size ≤ D → k < xs.length → Ix c k fp W → W.heap[D]? = some (.deferred (some [])) → c.wpIn Fence.wide n P Q { a with defers := { target := .collected D, args := #[] } :: a.defers } W) :
    (Code.rangeFunc g ps assign body).wpIn Fence.wide n P Q a w := by
  refine wpIn_rangeFunc ?_
  intro fn hfn
  rw [show Fence.wide.round = none from rfl]
  obtain ⟨rec, hrec⟩ : ∃ rec : LoopState → Option Code → Loop, rec = fun st pe => { state := st, pending := pe, fn, tmps := a.tmps, params := ps, assign, body, defers := w.heap.size } := ⟨_, rfl⟩
  obtain ⟨W1, hW1⟩ : ∃ W1, (w.alloc (.deferred (some []))).alloc (.loop (rec .ready none)) = W1 := ⟨_, rfl⟩
  have hL1 : W1.heap[w.heap.size + 1]? = some (.loop (rec .ready none)) := by
    rw [← hW1]; have := World.alloc_heap_new (w.alloc (.deferred (some []))) (.loop (rec .ready none)); rwa [World.size_alloc] at this
  have hK1 : W1.heap[w.heap.size]? = some (.deferred (some [])) := by
    rw [← hW1]; exact (Below.heap_alloc _ _ _ (by simp)).trans (World.alloc_heap_new w _)
  have hk1 : Keep [] w W1 := by rw [← hW1]; exact ((Keep.refl [] w).alloc _).alloc _
  have hsz1 : W1.heap.size = w.heap.size + 2 := by rw [← hW1]; simp
  have hI1 : I 0 fp W1 := hI 0 fp w W1 [] h0 hk1 (fun b hb => by cases hb)
  refine ⟨w.heap.size + 1, [{ target := .collected w.heap.size, args := #[] }], W1, { target := .fn (.func gf) lb, args := #[.func (.yield (w.heap.size + 1)) #[] #[]] }, W1, gf,
    #[.func (.yield (w.heap.size + 1)) #[] #[]] ++ lb, W1, ?_, ?_, ?_, ?_, fun h => by simp [Fence.wide] at h, ?_⟩
  · rw [← hW1, hrec]; exact run_enterLoop_outer _ _ _ _ _
  · simp only [resolve, hg]
    simp [go_sem]
  · intro f' hf'; trivial
  · simp [invoke, go_sem, eg]
  · obtain ⟨l, hl⟩ : ∃ l, l = w.heap.size + 1 := ⟨_, rfl⟩
    obtain ⟨D, hD⟩ : ∃ D, D = w.heap.size := ⟨_, rfl⟩
    rw [← hl] at hL1 ⊢
    rw [← hD] at hK1
    refine callsIn_wide.2 ((hseq (.func (.yield l) #[] #[])
      (fun k fx W => ∃ fp, fx = l :: fp ∧ I k fp W ∧ W.heap[l]? = some (.loop (rec .ready none)) ∧ W.heap[D]? = some (.deferred (some [])) ∧ D ∉ fp ∧ l ∉ fp)
      (fun k fx W => ∃ fp, fx = l :: fp ∧ ∃ c, Ix c k fp W ∧ W.heap[l]? = some (.loop (rec .done (some c))) ∧ W.heap[D]? = some (.deferred (some [])) ∧ D ∉ fp ∧ l ∉ fp)
      (l :: fp) W1 (hneed W1 hk1) (fun b hb => ⟨by have := (hown b hb).1; omega, fun h => by rcases List.mem_cons.1 h with h | h; have := (hown b hb).1; omega; exact (hown b hb).2 h⟩) (fun b hb => ⟨by have := (hrd b hb).1; omega, fun h => by rcases List.mem_cons.1 h with h | h; have := (hrd b hb).1; omega; exact (hrd b hb).2 h⟩) ?_ ?_ ?_ ?_ (fun b hb => by rcases List.mem_cons.1 hb with h | h; omega; have := hfp b h; omega)
      ⟨fp, rfl, hI1, hL1, hK1, fun h => absurd (hfp _ h) (by omega), fun h => absurd (hfp _ h) (by omega)⟩).mono ?_)
    · rintro k fx W2 W3 S ⟨fp, rfl, hi, h1, hd, hn1, hn2⟩ hkeep hS
      have hS' : ∀ b ∈ S, b ∉ fp ∧ (b ∈ own ∨ w.heap.size ≤ b) := fun b hb => ⟨fun h => (hS b hb).1 (List.mem_cons_of_mem _ h), (hS b hb).2.imp id (fun h => by omega)⟩
      have hout : ∀ m, m = D ∨ m = l → m ∉ S := fun m hm hb => by
        rcases (hS m hb).2 with h | h
        · have := (hown m h).1; omega
        · omega
      exact ⟨fp, rfl, hI k fp W2 W3 S hi hkeep hS', hkeep.at_ h1 (hout _ (.inr rfl)), hkeep.at_ hd (hout _ (.inl rfl)), hn1, hn2⟩
    · rintro k fx W2 W3 S ⟨fp, rfl, c, hi, h1, hd, hn1, hn2⟩ hkeep hS
      have hS' : ∀ b ∈ S, b ∉ fp ∧ (b ∈ own ∨ w.heap.size ≤ b) := fun b hb => ⟨fun h => (hS b hb).1 (List.mem_cons_of_mem _ h), (hS b hb).2.imp id (fun h => by omega)⟩
      have hout : ∀ m, m = D ∨ m = l → m ∉ S := fun m hm hb => by
        rcases (hS m hb).2 with h | h
        · have := (hown m h).1; omega
        · omega
      exact ⟨fp, rfl, c, hIx c k fp W2 W3 S hi hkeep hS', hkeep.at_ h1 (hout _ (.inr rfl)), hkeep.at_ hd (hout _ (.inl rfl)), hn1, hn2⟩
    · rintro k hk fx W ⟨fp, rfl, hi, h1, hd, hn1, hn2⟩
      exact hRd k hk fp W hi
    · rintro k hk fx W ⟨fp, rfl, hi, h1, hd, hn1, hn2⟩
      refine .inl ⟨l, rfl, ?_⟩
      have hlt : l < W.heap.size := (Array.getElem?_eq_some_iff.1 h1).1
      have hy := run_yield (P := P) (args := xs[k]) h1 (by rw [hrec]; exact hps _ (List.getElem_mem hk))
      rw [hrec] at hy
      refine ⟨fn, _, assign, body, hy, roundIn_of_wpIn trivial ?_⟩
      refine hassign l k hk W _ ?_
      have hka : Keep [] W (W.alloc (o k)) := (Keep.refl _ _).alloc _
      have hBn : (W.alloc (o k)).heap[W.heap.size]? = some (o k) := World.alloc_heap_new W (o k)
      have hBf : W.heap.size ∉ fp := fun h => by have := hIlt _ _ _ hi _ h; omega
      have hBl : W.heap.size ≠ l := by omega
      have hwW : w.heap.size ≤ W.heap.size := by omega
      replace hi := hI k fp W _ [] hi hka (fun b hb => by cases hb)
      replace h1 := hka.at_ h1 (by simp)
      replace hd := hka.at_ hd (by simp)
      replace hlt : l < (W.alloc (o k)).heap.size := by have := hka.size; omega
      clear hy
      revert hka hBn hBf hBl hwW
      generalize hWB : W.heap.size = B
      generalize hWo : W.alloc (o k) = Wo at *
      intro hka hBn hBf hBl hwB
      refine ⟨_, run_beginRound h1 (by rw [hrec]), ?_⟩
      have hkb : Keep [l] Wo (Wo.putObj l (.loop { rec .ready none with state := .busy })) := keep_putObj _ _ _
      have hib := hI k fp Wo _ [l] hi hkb (fun b hb => by simp at hb; subst hb; exact ⟨hn2, .inr (by omega)⟩)
      have hl2 : (Wo.putObj l (.loop { rec .ready none with state := .busy })).heap[l]? = some (.loop { rec .ready none with state := .busy }) := World.putObj_heap_same hlt
      have hd2 : (Wo.putObj l (.loop { rec .ready none with state := .busy })).heap[D]? = some (.deferred (some [])) := (World.putObj_heap_other (by omega)).trans hd
      have hszb : (Wo.putObj l (.loop { rec .ready none with state := .busy })).heap.size = Wo.heap.size := by simp
      have hB2 : (Wo.putObj l (.loop { rec .ready none with state := .busy })).heap[B]? = some (o k) := (World.putObj_heap_other hBl).trans hBn
      refine Code.wpIn_mono ?_ (hbody l k hk fp B _ hib hB2 hBf hwB ⟨_, hl2⟩ hn2 (by omega))
      have fin : ∀ (jump : Option Code) (fp' : List Nat) (W3 : World), Keep fp (Wo.putObj l (.loop { rec .ready none with state := .busy })) W3 → FromNew fp fp' (Wo.putObj l (.loop { rec .ready none with state := .busy })) →
          ∃ W4, (Instr.endRound l jump).run P W3 = .ok (.bool jump.isNone) W4 ∧ Keep [l] W3 W4 ∧
          W4.heap[l]? = some (.loop (rec (if jump.isNone then .ready else .done) jump)) ∧ W4.heap[D]? = some (.deferred (some [])) ∧
          D ∉ fp' ∧ l ∉ fp' ∧ Keep (l :: fp) W W4 ∧ FromNew (l :: fp) (l :: fp') W := fun jump fp' W3 hk3 hf3 => by
        have hl3 := hk3.at_ hl2 hn2
        have := run_endRound (P := P) jump hl3
        rw [hrec] at this
        have hK4 : Keep [l] W3 (W3.putObj l (.loop { state := if jump.isNone = true then .ready else .done, pending := jump, fn := fn, tmps := a.tmps, params := ps, assign := assign, body := body, defers := w.heap.size })) := keep_putObj _ _ _
        have hlt3 : Wo.heap.size ≤ W3.heap.size := by have := hk3.size; rwa [hszb] at this
        have hWWo := hka.size
        refine ⟨_, this, hK4, ?_, (World.putObj_heap_other (by omega)).trans (hk3.at_ hd2 hn1), ?_, ?_, ?_, ?_⟩
        · rw [hrec]; exact World.putObj_heap_same (by omega)
        · intro h; rcases hf3 _ h with h' | h'; exact hn1 h'; rw [hszb] at h'; omega
        · intro h; rcases hf3 _ h with h' | h'; exact hn2 h'; rw [hszb] at h'; omega
        · exact (hka.mono (L' := l :: fp) (by simp)).trans (((hkb.mono (L' := l :: fp) (by simp)).trans hk3 (by intro x hx; simp [hx])).trans hK4 (by simp)) (by intro x hx; exact .inl hx)
        · intro b hb
          rcases List.mem_cons.1 hb with h | h
          · subst h; simp
          · rcases hf3 b h with h' | h'
            · simp [h']
            · rw [hszb] at h'; exact .inr (by omega)
      have abide : ∀ {J : List Nat → World → Prop} {fp' : List Nat} {W3 W4 : World}, Steady own w J → J fp' W3 → Keep [l] W3 W4 → l ∉ fp' → J fp' W4 := fun hJ hj hk hn =>
        hJ _ _ _ [l] hj hk (fun b hb => by simp at hb; subst hb; exact ⟨hn, .inr (by omega)⟩)
      rintro e a3 W3 hp
      cases e with
      | normal =>
        obtain ⟨fp', hi3, hk3, hf3⟩ := hp
        obtain ⟨W4, hr, hk4, h4, h4d, n1, n2, hkk, hff⟩ := fin none fp' W3 hk3 hf3
        exact ⟨_, _, hr, .inl ⟨rfl, l :: fp', ⟨fp', rfl, abide (hI _) hi3 hk4 n2, h4, h4d, n1, n2⟩, hkk, hff⟩⟩
      | ret =>
        obtain ⟨fp', hi3, hk3, hf3⟩ := hp
        obtain ⟨W4, hr, hk4, h4, h4d, n1, n2, hkk, hff⟩ := fin (some .ret) fp' W3 hk3 hf3
        exact ⟨_, _, hr, .inr ⟨rfl, l :: fp', ⟨fp', rfl, .ret, abide (hIx _ _) hi3 hk4 n2, h4, h4d, n1, n2⟩, hkk, hff⟩⟩
      | exit id =>
        obtain ⟨fp', hi3, hk3, hf3⟩ := hp
        obtain ⟨W4, hr, hk4, h4, h4d, n1, n2, hkk, hff⟩ := fin (some (.exit id)) fp' W3 hk3 hf3
        exact ⟨_, _, hr, .inr ⟨rfl, l :: fp', ⟨fp', rfl, .exit id, abide (hIx _ _) hi3 hk4 n2, h4, h4d, n1, n2⟩, hkk, hff⟩⟩
      | goto t =>
        obtain ⟨fp', hi3, hk3, hf3⟩ := hp
        obtain ⟨W4, hr, hk4, h4, h4d, n1, n2, hkk, hff⟩ := fin (some (.goto t)) fp' W3 hk3 hf3
        exact ⟨_, _, hr, .inr ⟨rfl, l :: fp', ⟨fp', rfl, .goto t, abide (hIx _ _) hi3 hk4 n2, h4, h4d, n1, n2⟩, hkk, hff⟩⟩
      | panic ch => exact hp.elim
      | outgrown => exact hp.elim
    · have abide : ∀ {J : List Nat → World → Prop} {fp' : List Nat} {W3 W4 : World}, Steady own w J → J fp' W3 → Keep [l] W3 W4 → l ∉ fp' → J fp' W4 := fun hJ hj hk hn =>
        hJ _ _ _ [l] hj hk (fun b hb => by simp at hb; subst hb; exact ⟨hn, .inr (by omega)⟩)
      rintro e W2 ⟨rfl, ⟨fx, fp', rfl, hi, h1, hd, n1, n2⟩ | ⟨k, fx, hk, fp', rfl, c, hi, h1, hd, n1, n2⟩⟩
      · exact ⟨none, _, by have := run_endLoop (P := P) h1 (by rw [hrec]; simp); rw [hrec] at this; exact this,
          by rw [← hD]; exact hdone D fp' _ (by omega) (abide (hI _) hi (keep_putObj _ _ _) n2) ((World.putObj_heap_other (by omega)).trans hd)⟩
      · exact ⟨some c, _, by have := run_endLoop (P := P) h1 (by rw [hrec]; simp); rw [hrec] at this; exact this,
          by rw [← hD]; exact hstop D c k fp' _ (by omega) hk (abide (hIx _ _) hi (keep_putObj _ _ _) n2) ((World.putObj_heap_other (by omega)).trans hd)⟩

end Go.Proofs.YtbidppjhenfjdaaGreatDoor
namespace Go.Proofs.YtbidppjhenfjdaaGreatDoor
open Go.RowKit
set_option linter.unusedVariables false
set_option linter.unusedSimpArgs false

theorem fsite_any (b : Nat) (w : World) : Calls Tryz.prog 74 #[.pointer (some ⟨b, 0, none⟩)] w fun e w' => e = .returned (.iface 124 (.pointer (some ⟨b, 1, none⟩))) ∧ w = w' := by
  go_enter Tryz.func74, Tryz.ntmps74
  go_wp2
  go_ret
  exact ⟨rfl, rfl⟩
theorem fpeer_any (b : Nat) (w : World) : Calls Tryz.prog 78 #[.pointer (some ⟨b, 0, none⟩)] w fun e w' => e = .returned (.iface 124 (.pointer (some ⟨b, 2, none⟩))) ∧ w = w' := by
  go_enter Tryz.func78, Tryz.ntmps78
  go_wp2
  go_ret
  exact ⟨rfl, rfl⟩
theorem fat_any (b : Nat) (w : World) : Calls Tryz.prog 75 #[.pointer (some ⟨b, 0, none⟩)] w fun e w' => e = .returned (.iface 124 (.pointer (some ⟨b, 4, none⟩))) ∧ w = w' := by
  go_enter Tryz.func75, Tryz.ntmps75
  go_wp2
  go_ret
  exact ⟨rfl, rfl⟩
theorem fnum_any (b : Nat) (w : World) : Calls Tryz.prog 77 #[.pointer (some ⟨b, 0, none⟩)] w fun e w' => e = .returned (.iface 124 (.pointer (some ⟨b, 5, none⟩))) ∧ w = w' := by
  go_enter Tryz.func77, Tryz.ntmps77
  go_wp2
  go_ret
  exact ⟨rfl, rfl⟩
theorem ftext_any (b : Nat) (w : World) : Calls Tryz.prog 76 #[.pointer (some ⟨b, 0, none⟩)] w fun e w' => e = .returned (.iface 125 (.pointer (some ⟨b, 6, none⟩))) ∧ w = w' := by
  go_enter Tryz.func76, Tryz.ntmps76
  go_wp2
  go_ret
  exact ⟨rfl, rfl⟩
theorem fdata_any (b : Nat) (w : World) : Calls Tryz.prog 80 #[.pointer (some ⟨b, 0, none⟩)] w fun e w' => e = .returned (.iface 126 (.pointer (some ⟨b, 8, none⟩))) ∧ w = w' := by
  go_enter Tryz.func80, Tryz.ntmps80
  go_wp2
  go_ret
  exact ⟨rfl, rfl⟩
theorem fdraws_any (b : Nat) (w : World) : Calls Tryz.prog 79 #[.pointer (some ⟨b, 0, none⟩)] w fun e w' => e = .returned (.pointer (some ⟨b, 7, none⟩)) ∧ w = w' := by
  go_enter Tryz.func79, Tryz.ntmps79
  go_wp2
  go_ret
  exact ⟨rfl, rfl⟩

/-- The lists of fields of the table, and the table. -/
def shObjs (B : Nat) : List Obj := [Obj.cells #[.func (.func 74) #[] #[], .func (.func 75) #[] #[], .func (.func 76) #[] #[]] 114,
  Obj.cells #[.func (.func 74) #[] #[], .func (.func 75) #[] #[], .func (.func 77) #[] #[]] 114,
  Obj.cells #[.func (.func 74) #[] #[], .func (.func 78) #[] #[]] 114,
  Obj.cells #[.func (.func 74) #[] #[]] 114,
  Obj.cells #[.func (.func 74) #[] #[]] 114,
  Obj.cells #[.func (.func 77) #[] #[]] 114,
  Obj.cells #[.func (.func 77) #[] #[]] 114,
  Obj.cells #[.func (.func 77) #[] #[]] 114,
  Obj.cells #[.func (.func 77) #[] #[], .func (.func 75) #[] #[], .func (.func 80) #[] #[]] 114,
  Obj.cells #[.func (.func 77) #[] #[], .func (.func 75) #[] #[]] 114,
  Obj.cells #[.func (.func 74) #[] #[]] 114,
  Obj.cells #[.func (.func 74) #[] #[]] 114,
  Obj.cells #[.int .i64 1, .string ⟨#[105, 110, 115, 101, 114, 116]⟩, .slice (some ⟨B + 0, 0, none⟩) 3 3, .nilFunc,
    .int .i64 2, .string ⟨#[100, 101, 108, 101, 116, 101]⟩, .slice (some ⟨B + 1, 0, none⟩) 3 3, .nilFunc,
    .int .i64 3, .string ⟨#[106, 111, 105, 110]⟩, .slice (some ⟨B + 2, 0, none⟩) 2 2, .nilFunc,
    .int .i64 4, .string ⟨#[108, 101, 97, 118, 101]⟩, .slice (some ⟨B + 3, 0, none⟩) 1 1, .nilFunc,
    .int .i64 5, .string ⟨#[115, 116, 111, 112]⟩, .slice (some ⟨B + 4, 0, none⟩) 1 1, .nilFunc,
    .int .i64 6, .string ⟨#[116, 105, 99, 107]⟩, .slice none 0 0, .func (.func 79) #[] #[],
    .int .i64 7, .string ⟨#[100, 101, 108, 105, 118, 101, 114]⟩, .slice (some ⟨B + 5, 0, none⟩) 1 1, .nilFunc,
    .int .i64 8, .string ⟨#[100, 114, 111, 112]⟩, .slice (some ⟨B + 6, 0, none⟩) 1 1, .nilFunc,
    .int .i64 9, .string ⟨#[100, 111, 117, 98, 108, 101]⟩, .slice (some ⟨B + 7, 0, none⟩) 1 1, .nilFunc,
    .int .i64 10, .string ⟨#[97, 108, 116, 101, 114]⟩, .slice (some ⟨B + 8, 0, none⟩) 3 3, .nilFunc,
    .int .i64 11, .string ⟨#[99, 117, 116]⟩, .slice (some ⟨B + 9, 0, none⟩) 2 2, .nilFunc,
    .int .i64 12, .string ⟨#[116, 101, 120, 116]⟩, .slice (some ⟨B + 10, 0, none⟩) 1 1, .nilFunc,
    .int .i64 13, .string ⟨#[115, 105, 103, 104, 116]⟩, .slice (some ⟨B + 11, 0, none⟩) 1 1, .nilFunc,
    .int .i64 14, .string ⟨#[99, 111, 112, 105, 101, 115]⟩, .slice none 0 0, .nilFunc] 113]
/-- The table lies at B and behind. -/
def Shp (B : Nat) (W : World) : Prop := ∀ i o, (shObjs B)[i]? = some o → ∃ cs t, o = .cells cs t (0, 0) ∧ W.heap[B + i]? = some o
theorem Shp.keep {B : Nat} {W W' : World} {L : List Nat} (h : Shp B W) (k : Keep L W W') (hL : ∀ i, i < 13 → B + i ∉ L) : Shp B W' := by
  intro i o ho
  obtain ⟨cs, t, rfl, h1⟩ := h i o ho
  have hi : i < 13 := by have := (List.getElem?_eq_some_iff.1 ho).1; simpa [shObjs] using this
  exact ⟨cs, t, rfl, k.at_ h1 (hL i hi)⟩
set_option maxHeartbeats 16000000 in
set_option maxRecDepth 100000 in
theorem shapes_any (w : World) : Calls Tryz.prog 48 #[] w fun e w' => e = .returned (.slice (some ⟨w.heap.size + 12, 0, none⟩) 14 14) ∧ Keep [] w w' ∧ Shp w.heap.size w' ∧ w'.heap.size = w.heap.size + 13 := by
  go_enter Tryz.func48, Tryz.ntmps48
  go_wp2
  go_ret
  refine ⟨rfl, allocs_keep (shObjs w.heap.size) w, ?_, allocs_size (shObjs w.heap.size) w⟩
  intro i o ho
  have hi : i < 13 := by have := (List.getElem?_eq_some_iff.1 ho).1; simpa [shObjs] using this
  have h1 := allocs_at (shObjs w.heap.size) w i o ho
  have h2 : o ∈ shObjs w.heap.size := List.mem_of_getElem? ho
  have h3 : ∀ o ∈ shObjs w.heap.size, ∃ cs t, o = .cells cs t (0, 0) := by
    intro o ho
    simp only [shObjs, List.mem_cons, List.not_mem_nil, or_false] at ho
    rcases ho with rfl | rfl | rfl | rfl | rfl | rfl | rfl | rfl | rfl | rfl | rfl | rfl | rfl <;> exact ⟨_, _, rfl⟩
  obtain ⟨cs, t, e⟩ := h3 o h2
  exact ⟨cs, t, e, h1⟩
end Go.Proofs.YtbidppjhenfjdaaGreatDoor
namespace Go.Proofs.YtbidppjhenfjdaaGreatDoor
open Go.RowKit
set_option linter.unusedVariables false
set_option linter.unusedSimpArgs false

theorem ta_ii (v : Value) (W : World) : (Instr.typeAssert (.iface 124 v) 20 124 true).run Tryz.prog W = .ok (.tuple #[v, .bool true]) W := by kernel_rfl
theorem ta_si (v : Value) (W : World) : (Instr.typeAssert (.iface 125 v) 20 124 true).run Tryz.prog W = .ok (.tuple #[.pointer none, .bool false]) W := by kernel_rfl
theorem ta_ss (v : Value) (W : World) : (Instr.typeAssert (.iface 125 v) 20 125 true).run Tryz.prog W = .ok (.tuple #[v, .bool true]) W := by kernel_rfl
theorem ta_di (v : Value) (W : World) : (Instr.typeAssert (.iface 126 v) 20 124 true).run Tryz.prog W = .ok (.tuple #[.pointer none, .bool false]) W := by kernel_rfl
theorem ta_ds (v : Value) (W : World) : (Instr.typeAssert (.iface 126 v) 20 125 true).run Tryz.prog W = .ok (.tuple #[.pointer none, .bool false]) W := by kernel_rfl
theorem ta_dd (v : Value) (W : World) : (Instr.typeAssert (.iface 126 v) 20 126 true).run Tryz.prog W = .ok (.tuple #[v, .bool true]) W := by kernel_rfl
/-- A word as a value. -/
def wArg (k : Nat) (t : ByteArray) (n : Int) (a l : Nat) : Value := .agg #[.int .i64 (k : Nat), .string t, .int .i64 n, .int .i64 (a : Nat), .int .i64 (l : Nat)]
set_option maxHeartbeats 4000000 in
set_option maxRecDepth 100000 in
theorem fill_int (b o : Nat) (z : Int) (cs : Array Value) (ty : TypeId) (k : Nat) (t : ByteArray) (n : Int) (a l : Nat) (W : World) (hb : W.heap[b]? = some (.cells cs ty (0, 0))) (ho : cs[o]? = some (.int .i64 z)) :
    Calls Tryz.prog 49 #[.iface 124 (.pointer (some ⟨b, o, none⟩)), wArg k t n a l] W fun e W' => e = .returned (.bool (k == 3)) ∧ Keep [b] W W' ∧ W'.heap[b]? = some (.cells (cs.setIfInBounds o (.int .i64 n)) ty (0, 0)) := by
  have hk : Keep [] W (W.alloc (.cells #[.int .i64 (k : Nat), .string t, .int .i64 n, .int .i64 (a : Nat), .int .i64 (l : Nat)] 67)) := (Keep.refl _ _).alloc _
  have hD : (W.alloc (.cells #[.int .i64 (k : Nat), .string t, .int .i64 n, .int .i64 (a : Nat), .int .i64 (l : Nat)] 67)).heap[W.heap.size]? = some (.cells #[.int .i64 (k : Nat), .string t, .int .i64 n, .int .i64 (a : Nat), .int .i64 (l : Nat)] 67 (0, 0)) := World.alloc_heap_new W _
  obtain ⟨D, hDD⟩ : ∃ D, D = W.heap.size := ⟨_, rfl⟩
  obtain ⟨w0, hw0⟩ : ∃ w0, w0 = W.alloc (.cells #[.int .i64 (k : Nat), .string t, .int .i64 n, .int .i64 (a : Nat), .int .i64 (l : Nat)] 67) := ⟨_, rfl⟩
  have hbD : b < D := by rw [hDD]; exact (Array.getElem?_eq_some_iff.1 hb).1
  rw [← hw0] at hk hD
  rw [← hDD] at hD
  have HB := Lib.hid (hk.at_ hb (by simp))
  have p0 := cell_of_block HB.out o
  have y0 := free_of_block HB.out o
  rw [ho] at p0
  have d0 := cell_of_block hD 0
  have d1 := cell_of_block hD 1
  have d2 := cell_of_block hD 2
  have d3 := cell_of_block hD 3
  have d4 := cell_of_block hD 4
  simp at d0 d1 d2 d3 d4
  have HD := Lib.hid hD
  have HK := Lib.hid hk
  have HBD := Lib.hid (show D ≠ b by omega)
  clear hb ho hk hD hbD
  unfold wArg
  have t1 := ta_ii
  go_enter Tryz.func49, Tryz.ntmps49
  go_upto_region 1 with (fail)
  rw [← hw0, ← hDD]
  clear hw0 hDD
  go_upto_region 5 with (fail)
  have hK2 := ((HK.out.mono (L' := [b]) (by simp)).setCell (p := ⟨b, o, none⟩) (.inl (by simp)) (.int .i64 n))
  have hB2 := block_setCell HB.out o (.int .i64 n)
  have hD2 := ((Keep.refl [b] w0).setCell (p := ⟨b, o, none⟩) (.inl (by simp)) (.int .i64 n)).at_ HD.out (by simp; exact HBD.out)
  obtain ⟨w1, hw1⟩ : ∃ w1, w1 = w0.setCell ⟨b, o, none⟩ (.int .i64 n) := ⟨_, rfl⟩
  rw [← hw1] at hK2 hB2 hD2 ⊢
  have HK2 := Lib.hid hK2
  have HB2 := Lib.hid hB2
  clear hw1 hK2 hB2 d0 d1 d2 d3 d4 p0 y0
  have d0 := cell_of_block hD2 0
  simp at d0
  clear hD2
  have hk3 : ((k : Int) == 3) = (k == 3) := by
    by_cases h : k = 3
    · subst h; rfl
    · rw [show (k == 3) = false by simpa using h]; simp; omega
  go_wp2
  go_ret
  exact ⟨by simp [hk3], HK2.out, HB2.out⟩
set_option maxHeartbeats 4000000 in
set_option maxRecDepth 100000 in
theorem fill_text (b o : Nat) (z : ByteArray) (cs : Array Value) (ty : TypeId) (k : Nat) (t : ByteArray) (n : Int) (a l : Nat) (W : World) (hb : W.heap[b]? = some (.cells cs ty (0, 0))) (ho : cs[o]? = some (.string z)) :
    Calls Tryz.prog 49 #[.iface 125 (.pointer (some ⟨b, o, none⟩)), wArg k t n a l] W fun e W' => e = .returned (.bool (k == 2)) ∧ Keep [b] W W' ∧ W'.heap[b]? = some (.cells (cs.setIfInBounds o (.string t)) ty (0, 0)) := by
  have hk : Keep [] W (W.alloc (.cells #[.int .i64 (k : Nat), .string t, .int .i64 n, .int .i64 (a : Nat), .int .i64 (l : Nat)] 67)) := (Keep.refl _ _).alloc _
  have hD : (W.alloc (.cells #[.int .i64 (k : Nat), .string t, .int .i64 n, .int .i64 (a : Nat), .int .i64 (l : Nat)] 67)).heap[W.heap.size]? = some (.cells #[.int .i64 (k : Nat), .string t, .int .i64 n, .int .i64 (a : Nat), .int .i64 (l : Nat)] 67 (0, 0)) := World.alloc_heap_new W _
  obtain ⟨D, hDD⟩ : ∃ D, D = W.heap.size := ⟨_, rfl⟩
  obtain ⟨w0, hw0⟩ : ∃ w0, w0 = W.alloc (.cells #[.int .i64 (k : Nat), .string t, .int .i64 n, .int .i64 (a : Nat), .int .i64 (l : Nat)] 67) := ⟨_, rfl⟩
  have hbD : b < D := by rw [hDD]; exact (Array.getElem?_eq_some_iff.1 hb).1
  rw [← hw0] at hk hD
  rw [← hDD] at hD
  have HB := Lib.hid (hk.at_ hb (by simp))
  have p0 := cell_of_block HB.out o
  have y0 := free_of_block HB.out o
  rw [ho] at p0
  have d0 := cell_of_block hD 0
  have d1 := cell_of_block hD 1
  have d2 := cell_of_block hD 2
  have d3 := cell_of_block hD 3
  have d4 := cell_of_block hD 4
  simp at d0 d1 d2 d3 d4
  have HD := Lib.hid hD
  have HK := Lib.hid hk
  have HBD := Lib.hid (show D ≠ b by omega)
  clear hb ho hk hD hbD
  unfold wArg
  have t1 := ta_si
  have t2 := ta_ss
  go_enter Tryz.func49, Tryz.ntmps49
  go_upto_region 1 with (fail)
  rw [← hw0, ← hDD]
  clear hw0 hDD
  go_upto_region 12 with (fail)
  have hK2 := ((HK.out.mono (L' := [b]) (by simp)).setCell (p := ⟨b, o, none⟩) (.inl (by simp)) (.string t))
  have hB2 := block_setCell HB.out o (.string t)
  have hD2 := ((Keep.refl [b] w0).setCell (p := ⟨b, o, none⟩) (.inl (by simp)) (.string t)).at_ HD.out (by simp; exact HBD.out)
  obtain ⟨w1, hw1⟩ : ∃ w1, w1 = w0.setCell ⟨b, o, none⟩ (.string t) := ⟨_, rfl⟩
  rw [← hw1] at hK2 hB2 hD2 ⊢
  have HK2 := Lib.hid hK2
  have HB2 := Lib.hid hB2
  clear hw1 hK2 hB2 d0 d1 d2 d3 d4 p0 y0
  have d0 := cell_of_block hD2 0
  simp at d0
  clear hD2
  have hk3 : ((k : Int) == 2) = (k == 2) := by
    by_cases h : k = 2
    · subst h; rfl
    · rw [show (k == 2) = false by simpa using h]; simp; omega
  go_wp2
  go_ret
  exact ⟨by simp [hk3], HK2.out, HB2.out⟩
end Go.Proofs.YtbidppjhenfjdaaGreatDoor
namespace Go.Proofs.YtbidppjhenfjdaaGreatDoor
open Go.RowKit
set_option linter.unusedVariables false
set_option linter.unusedSimpArgs false

/-- []byte(q): a row that holds the text's bytes. -/
def BytesB (W : World) (g : Nat) (q : ByteArray) (cap : Nat) : Prop := ∃ (c : Array Value) (m : Nat), W.heap[g]? = some (.cells c 5 (m, m + 1)) ∧ q.size ≤ m ∧ (m = c.size ∧ cap ≤ m) ∧ ∀ j, j < q.size → c[j]? = some (.int .u8 (byt q j : Nat))
theorem BytesB.cell {W : World} {g cap : Nat} {q : ByteArray} (h : BytesB W g q cap) {j : Nat} (hj : j < q.size) : W.cell? ⟨g, j, none⟩ = some (.int .u8 (byt q j : Nat)) ∧ W.frozen? ⟨g, j, none⟩ = false := by
  obtain ⟨c, m, hb, hm, _, hc⟩ := h
  refine ⟨by rw [cell_of_block hb]; exact hc j hj, ?_⟩
  have h1 : ¬ m ≤ j := by omega
  simp [World.frozen?, hb, h1]
theorem conv_sb (q : ByteArray) (W : World) : ∃ cap W', (convert 9 38 (.string q)).run Tryz.prog W = .ok (.slice (some ⟨W.heap.size, 0, none⟩) q.size cap) W' ∧ Keep [] W W' ∧ BytesB W' W.heap.size q cap := by
  refine ⟨_, _, Go.run_bytes_of_string (P := Tryz.prog) W 9 38 5 q Tryz.underlying9 Tryz.underlying38 Tryz.underlying5, ((Keep.refl [] W).drew).alloc _, _, _, World.alloc_heap_new W.drew _, ?_, ⟨rfl, ?_⟩, fun j hj => ?_⟩
  · unfold bytesRow
    have h0 : q.data.size = q.size := rfl
    rw [Array.size_append, Array.size_map]
    omega
  · unfold bytesRow
    have h0 : q.data.size = q.size := rfl
    rw [Array.size_append, Array.size_map, Array.size_replicate]
    omega
  · unfold bytesRow
    rw [Array.getElem?_append_left (by simp; exact hj)]
    have hj' : j < q.data.size := hj
    simp [byt, hj, hj']
    try rfl
set_option maxHeartbeats 4000000 in
set_option maxRecDepth 100000 in
theorem fill_data (b o : Nat) (z : Value) (cs : Array Value) (ty : TypeId) (k : Nat) (t : ByteArray) (n : Int) (a l : Nat) (W : World) (hb : W.heap[b]? = some (.cells cs ty (0, 0))) (ho : cs[o]? = some z) :
    Calls Tryz.prog 49 #[.iface 126 (.pointer (some ⟨b, o, none⟩)), wArg k t n a l] W fun e W' => e = .returned (.bool (k == 2)) ∧ Keep [b] W W' ∧ ∃ g cap, W'.heap[b]? = some (.cells (cs.setIfInBounds o (.slice (some ⟨g, 0, none⟩) t.size cap)) ty (0, 0)) ∧ BytesB W' g t cap ∧ W.heap.size ≤ g := by
  have hk : Keep [] W (W.alloc (.cells #[.int .i64 (k : Nat), .string t, .int .i64 n, .int .i64 (a : Nat), .int .i64 (l : Nat)] 67)) := (Keep.refl _ _).alloc _
  have hD : (W.alloc (.cells #[.int .i64 (k : Nat), .string t, .int .i64 n, .int .i64 (a : Nat), .int .i64 (l : Nat)] 67)).heap[W.heap.size]? = some (.cells #[.int .i64 (k : Nat), .string t, .int .i64 n, .int .i64 (a : Nat), .int .i64 (l : Nat)] 67 (0, 0)) := World.alloc_heap_new W _
  obtain ⟨D, hDD⟩ : ∃ D, D = W.heap.size := ⟨_, rfl⟩
  obtain ⟨w0, hw0⟩ : ∃ w0, w0 = W.alloc (.cells #[.int .i64 (k : Nat), .string t, .int .i64 n, .int .i64 (a : Nat), .int .i64 (l : Nat)] 67) := ⟨_, rfl⟩
  have hbD : b < D := by rw [hDD]; exact (Array.getElem?_eq_some_iff.1 hb).1
  rw [← hw0] at hk hD
  rw [← hDD] at hD
  have HB := Lib.hid (hk.at_ hb (by simp))
  have p0 := cell_of_block HB.out o
  have y0 := free_of_block HB.out o
  rw [ho] at p0
  have d0 := cell_of_block hD 0
  have d1 := cell_of_block hD 1
  have d2 := cell_of_block hD 2
  have d3 := cell_of_block hD 3
  have d4 := cell_of_block hD 4
  simp at d0 d1 d2 d3 d4
  have HD := Lib.hid hD
  have HK := Lib.hid hk
  have HBD := Lib.hid (show D ≠ b by omega)
  clear hb ho hk hD hbD
  unfold wArg
  have t1 := ta_di
  have t2 := ta_ds
  have t3 := ta_dd
  obtain ⟨cap, wc, hcv, hkc, hbc⟩ := conv_sb t w0
  have p1 := hkc.cellv p0 (by simp)
  have y1 : wc.frozen? ⟨b, o, none⟩ = false := free_of_block (hkc.at_ HB.out (by simp)) o
  have HKC := Lib.hid hkc
  have HBC := Lib.hid hbc
  clear hkc hbc
  go_enter Tryz.func49, Tryz.ntmps49
  go_upto_region 1 with (fail)
  rw [← hw0, ← hDD]
  clear hw0 hDD
  go_upto_region 12 with (fail)
  have hne : w0.heap.size ≠ b := by have := lt_of_block HB.out; omega
  have hK2 := (((HK.out.trans0 HKC.out).mono (L' := [b]) (by simp)).setCell (p := ⟨b, o, none⟩) (.inl (by simp)) (.slice (some ⟨w0.heap.size, 0, none⟩) t.size cap))
  have hB2 := block_setCell (HKC.out.at_ HB.out (by simp)) o (.slice (some ⟨w0.heap.size, 0, none⟩) t.size cap)
  have hks : Keep [b] wc (wc.setCell ⟨b, o, none⟩ (.slice (some ⟨w0.heap.size, 0, none⟩) t.size cap)) := (Keep.refl [b] wc).setCell (p := ⟨b, o, none⟩) (.inl (by simp)) _
  have hD2 := hks.at_ (HKC.out.at_ HD.out (by simp)) (by simp; exact HBD.out)
  have hC2 : BytesB (wc.setCell ⟨b, o, none⟩ (.slice (some ⟨w0.heap.size, 0, none⟩) t.size cap)) w0.heap.size t cap := by
    obtain ⟨c, m, h1, h2, h3⟩ := HBC.out
    exact ⟨c, m, hks.at_ h1 (by simp; exact hne), h2, h3⟩
  obtain ⟨w1, hw1⟩ : ∃ w1, w1 = wc.setCell ⟨b, o, none⟩ (.slice (some ⟨w0.heap.size, 0, none⟩) t.size cap) := ⟨_, rfl⟩
  rw [← hw1] at hK2 hB2 hD2 hC2 ⊢
  have HK2 := Lib.hid hK2
  have HB2 := Lib.hid hB2
  have HC2 := Lib.hid hC2
  clear hw1 hK2 hB2 hC2 hks hne d0 d1 d2 d3 d4 p0 y0 p1 y1 hcv
  have d0 := cell_of_block hD2 0
  simp at d0
  clear hD2
  have hk3 : ((k : Int) == 2) = (k == 2) := by
    by_cases h : k = 2
    · subst h; rfl
    · rw [show (k == 2) = false by simpa using h]; simp; omega
  go_wp2
  go_ret
  exact ⟨by simp [hk3], HK2.out, _, cap, HB2.out, HC2.out, HK.out.size⟩
end Go.Proofs.YtbidppjhenfjdaaGreatDoor
namespace Go.Proofs.YtbidppjhenfjdaaGreatDoor
open Go.RowKit
set_option linter.unusedVariables false
set_option linter.unusedSimpArgs false

/-- A field of a step. -/
inductive Fld where
  | site
  | peer
  | at
  | num
  | text
  | data
/-- A step. -/
structure Stp where
  kind : Int
  site : Int
  peer : Int
  unit : Int
  at_ : Int
  n : Int
  text : ByteArray
  draws : List Int
  data : ByteArray
def Stp.zero (k : Int) : Stp := ⟨k, 0, 0, 0, 0, 0, ByteArray.empty, [], ByteArray.empty⟩
/-- A kind's word. -/
def tabW : Nat → ByteArray
  | 1 => ⟨#[105, 110, 115, 101, 114, 116]⟩
  | 2 => ⟨#[100, 101, 108, 101, 116, 101]⟩
  | 3 => ⟨#[106, 111, 105, 110]⟩
  | 4 => ⟨#[108, 101, 97, 118, 101]⟩
  | 5 => ⟨#[115, 116, 111, 112]⟩
  | 6 => ⟨#[116, 105, 99, 107]⟩
  | 7 => ⟨#[100, 101, 108, 105, 118, 101, 114]⟩
  | 8 => ⟨#[100, 114, 111, 112]⟩
  | 9 => ⟨#[100, 111, 117, 98, 108, 101]⟩
  | 10 => ⟨#[97, 108, 116, 101, 114]⟩
  | 11 => ⟨#[99, 117, 116]⟩
  | 12 => ⟨#[116, 101, 120, 116]⟩
  | 13 => ⟨#[115, 105, 103, 104, 116]⟩
  | 14 => ⟨#[99, 111, 112, 105, 101, 115]⟩
  | _ => ByteArray.empty
/-- A kind's fields. -/
def tabF : Nat → List Fld
  | 1 => [.site, .at, .text]
  | 2 => [.site, .at, .num]
  | 3 => [.site, .peer]
  | 4 => [.site]
  | 5 => [.site]
  | 7 => [.num]
  | 8 => [.num]
  | 9 => [.num]
  | 10 => [.num, .at, .data]
  | 11 => [.num, .at]
  | 12 => [.site]
  | 13 => [.site]
  | _ => []
/-- The function of a field. -/
def fldV : Fld → Value
  | .site => .func (.func 74) #[] #[]
  | .peer => .func (.func 78) #[] #[]
  | .at => .func (.func 75) #[] #[]
  | .num => .func (.func 77) #[] #[]
  | .text => .func (.func 76) #[] #[]
  | .data => .func (.func 80) #[] #[]
/-- Where the list of a kind's fields lies. -/
def tabB : Nat → Nat
  | 1 => 0
  | 2 => 1
  | 3 => 2
  | 4 => 3
  | 5 => 4
  | 7 => 5
  | 8 => 6
  | 9 => 7
  | 10 => 8
  | 11 => 9
  | 12 => 10
  | 13 => 11
  | _ => 0
/-- A kind's list of fields, as a value. -/
def tabS (B k : Nat) : Value := if (tabF k).length = 0 then .slice none 0 0 else .slice (some ⟨B + tabB k, 0, none⟩) (tabF k).length (tabF k).length
def tabR (k : Nat) : Value := if k = 6 then .func (.func 79) #[] #[] else .nilFunc
/-- A row of the table. -/
theorem Shp.row {B : Nat} {W : World} (h : Shp B W) (i : Nat) (hi : i < 14) : W.cell? ⟨B + 12, i * 4, none⟩ = some (.int .i64 ((i + 1 : Nat) : Nat)) ∧ W.cell? ⟨B + 12, i * 4 + 1, none⟩ = some (.string (tabW (i + 1))) ∧ W.cell? ⟨B + 12, i * 4 + 2, none⟩ = some (tabS B (i + 1)) ∧ W.cell? ⟨B + 12, i * 4 + 3, none⟩ = some (tabR (i + 1)) := by
  obtain ⟨cs, t, e, hb⟩ := h 12 _ rfl
  have hc := fun j => cell_of_block hb j
  refine ⟨?_, ?_, ?_, ?_⟩
  all_goals
    rw [hc]
    match i, hi with
    | 0, _ => rfl
    | 1, _ => rfl
    | 2, _ => rfl
    | 3, _ => rfl
    | 4, _ => rfl
    | 5, _ => rfl
    | 6, _ => rfl
    | 7, _ => rfl
    | 8, _ => rfl
    | 9, _ => rfl
    | 10, _ => rfl
    | 11, _ => rfl
    | 12, _ => rfl
    | 13, _ => rfl
/-- A field of a kind. -/
theorem Shp.fld {B : Nat} {W : World} (h : Shp B W) (k j : Nat) (hj : j < (tabF k).length) : W.cell? ⟨B + tabB k, j, none⟩ = some (fldV ((tabF k)[j])) := by
  match k, hj with
  | 1, hj =>
    obtain ⟨cs, t, e, hb⟩ := h 0 _ rfl
    have hc := cell_of_block hb j
    refine hc.trans ?_
    match j, hj with
    | 0, _ => rfl
    | 1, _ => rfl
    | 2, _ => rfl
  | 2, hj =>
    obtain ⟨cs, t, e, hb⟩ := h 1 _ rfl
    have hc := cell_of_block hb j
    refine hc.trans ?_
    match j, hj with
    | 0, _ => rfl
    | 1, _ => rfl
    | 2, _ => rfl
  | 3, hj =>
    obtain ⟨cs, t, e, hb⟩ := h 2 _ rfl
    have hc := cell_of_block hb j
    refine hc.trans ?_
    match j, hj with
    | 0, _ => rfl
    | 1, _ => rfl
  | 4, hj =>
    obtain ⟨cs, t, e, hb⟩ := h 3 _ rfl
    have hc := cell_of_block hb j
    refine hc.trans ?_
    match j, hj with
    | 0, _ => rfl
  | 5, hj =>
    obtain ⟨cs, t, e, hb⟩ := h 4 _ rfl
    have hc := cell_of_block hb j
    refine hc.trans ?_
    match j, hj with
    | 0, _ => rfl
  | 7, hj =>
    obtain ⟨cs, t, e, hb⟩ := h 5 _ rfl
    have hc := cell_of_block hb j
    refine hc.trans ?_
    match j, hj with
    | 0, _ => rfl
  | 8, hj =>
    obtain ⟨cs, t, e, hb⟩ := h 6 _ rfl
    have hc := cell_of_block hb j
    refine hc.trans ?_
    match j, hj with
    | 0, _ => rfl
  | 9, hj =>
    obtain ⟨cs, t, e, hb⟩ := h 7 _ rfl
    have hc := cell_of_block hb j
    refine hc.trans ?_
    match j, hj with
    | 0, _ => rfl
  | 10, hj =>
    obtain ⟨cs, t, e, hb⟩ := h 8 _ rfl
    have hc := cell_of_block hb j
    refine hc.trans ?_
    match j, hj with
    | 0, _ => rfl
    | 1, _ => rfl
    | 2, _ => rfl
  | 11, hj =>
    obtain ⟨cs, t, e, hb⟩ := h 9 _ rfl
    have hc := cell_of_block hb j
    refine hc.trans ?_
    match j, hj with
    | 0, _ => rfl
    | 1, _ => rfl
  | 12, hj =>
    obtain ⟨cs, t, e, hb⟩ := h 10 _ rfl
    have hc := cell_of_block hb j
    refine hc.trans ?_
    match j, hj with
    | 0, _ => rfl
  | 13, hj =>
    obtain ⟨cs, t, e, hb⟩ := h 11 _ rfl
    have hc := cell_of_block hb j
    refine hc.trans ?_
    match j, hj with
    | 0, _ => rfl
end Go.Proofs.YtbidppjhenfjdaaGreatDoor
namespace Go.Proofs.YtbidppjhenfjdaaGreatDoor
open Go.RowKit
set_option linter.unusedVariables false
set_option linter.unusedSimpArgs false

/-- Where a field lies in a step, and the type of a pointer to it. -/
def fldO : Fld → Nat
  | .site => 1
  | .peer => 2
  | .at => 4
  | .num => 5
  | .text => 6
  | .data => 8
def fldT : Fld → TypeId
  | .site => 124
  | .peer => 124
  | .at => 124
  | .num => 124
  | .text => 125
  | .data => 126
def fldF : Fld → Nat
  | .site => 74
  | .peer => 78
  | .at => 75
  | .num => 77
  | .text => 76
  | .data => 80
/-- A field's function. -/
theorem fld_any (f : Fld) (b : Nat) (w : World) : Calls Tryz.prog (fldF f) #[.pointer (some ⟨b, 0, none⟩)] w fun e w' => e = .returned (.iface (fldT f) (.pointer (some ⟨b, fldO f, none⟩))) ∧ w = w' := by
  cases f
  · exact fsite_any b w
  · exact fpeer_any b w
  · exact fat_any b w
  · exact fnum_any b w
  · exact ftext_any b w
  · exact fdata_any b w
/-- A step with a word in the place of a field. -/
def setF (f : Fld) (k : Nat) (t : ByteArray) (n : Int) (s : Stp) : Stp × Bool :=
  match f with
  | .site => ({ s with site := n }, k == 3)
  | .peer => ({ s with peer := n }, k == 3)
  | .at => ({ s with at_ := n }, k == 3)
  | .num => ({ s with n := n }, k == 3)
  | .text => ({ s with text := t }, k == 2)
  | .data => ({ s with data := t }, k == 2)
/-- A step's cells. -/
def stV (s : Stp) (dv bv : Value) : Array Value := #[.int .i64 s.kind, .int .i64 s.site, .int .i64 s.peer, .int .i64 s.unit, .int .i64 s.at_, .int .i64 s.n, .string s.text, dv, bv]
def StB (b : Nat) (s : Stp) (dv bv : Value) (W : World) : Prop := W.heap[b]? = some (.cells (stV s dv bv) 40 (0, 0))
/-- A step's bytes. -/
def DatB (W : World) (bv : Value) (d : ByteArray) : Prop := (bv = .slice none 0 0 ∧ d = ByteArray.empty) ∨ ∃ g cap, bv = .slice (some ⟨g, 0, none⟩) d.size cap ∧ BytesB W g d cap
theorem BytesB.keep {W W' : World} {g cap : Nat} {q : ByteArray} {L : List Nat} (h : BytesB W g q cap) (k : Keep L W W') (hg : g ∉ L) : BytesB W' g q cap := by
  obtain ⟨c, m, h1, h2, h3⟩ := h
  exact ⟨c, m, k.at_ h1 hg, h2, h3⟩
theorem DatB.keep {W W' : World} {bv : Value} {d : ByteArray} {L : List Nat} (h : DatB W bv d) (k : Keep L W W') (hg : ∀ g, bv.ownBlock = some g → g ∉ L) : DatB W' bv d := by
  rcases h with h | ⟨g, cap, rfl, h⟩
  · exact .inl h
  · exact .inr ⟨g, cap, rfl, h.keep k (hg g rfl)⟩
/-- A word is laid into a field. -/
theorem fill_fld (f : Fld) (b : Nat) (s : Stp) (dv bv : Value) (k : Nat) (t : ByteArray) (n : Int) (a l : Nat) (W : World) (h : StB b s dv bv W) (hd : DatB W bv s.data) (hn : ∀ g, bv.ownBlock = some g → g ≠ b) :
    Calls Tryz.prog 49 #[.iface (fldT f) (.pointer (some ⟨b, fldO f, none⟩)), wArg k t n a l] W fun e W' =>
      e = .returned (.bool (setF f k t n s).2) ∧ Keep [b] W W' ∧ ∃ bv', StB b (setF f k t n s).1 dv bv' W' ∧ DatB W' bv' (setF f k t n s).1.data ∧ (∀ g, bv'.ownBlock = some g → bv.ownBlock = some g ∨ W.heap.size ≤ g) := by
  cases f with
  | site =>
    refine (fill_int b 1 _ _ _ k t n a l W h rfl).mono ?_
    rintro e W' ⟨rfl, h1, h2⟩
    exact ⟨rfl, h1, bv, h2, hd.keep h1 (fun g hg => by simpa using hn g hg), fun g hg => .inl hg⟩
  | peer =>
    refine (fill_int b 2 _ _ _ k t n a l W h rfl).mono ?_
    rintro e W' ⟨rfl, h1, h2⟩
    exact ⟨rfl, h1, bv, h2, hd.keep h1 (fun g hg => by simpa using hn g hg), fun g hg => .inl hg⟩
  | «at» =>
    refine (fill_int b 4 _ _ _ k t n a l W h rfl).mono ?_
    rintro e W' ⟨rfl, h1, h2⟩
    exact ⟨rfl, h1, bv, h2, hd.keep h1 (fun g hg => by simpa using hn g hg), fun g hg => .inl hg⟩
  | num =>
    refine (fill_int b 5 _ _ _ k t n a l W h rfl).mono ?_
    rintro e W' ⟨rfl, h1, h2⟩
    exact ⟨rfl, h1, bv, h2, hd.keep h1 (fun g hg => by simpa using hn g hg), fun g hg => .inl hg⟩
  | text =>
    refine (fill_text b 6 _ _ _ k t n a l W h rfl).mono ?_
    rintro e W' ⟨rfl, h1, h2⟩
    exact ⟨rfl, h1, bv, h2, hd.keep h1 (fun g hg => by simpa using hn g hg), fun g hg => .inl hg⟩
  | data =>
    refine (fill_data b 8 _ _ _ k t n a l W h rfl).mono ?_
    rintro e W' ⟨rfl, h1, g, cap, h2, h3, h4⟩
    exact ⟨rfl, h1, _, h2, .inr ⟨g, cap, rfl, h3⟩, fun g' hg => by simp [Value.ownBlock] at hg; subst hg; exact .inr h4⟩
end Go.Proofs.YtbidppjhenfjdaaGreatDoor
namespace Go.Proofs.YtbidppjhenfjdaaGreatDoor
open Go.RowKit
set_option linter.unusedVariables false
set_option linter.unusedSimpArgs false

theorem sizeWord (W : World) : (sizeOf (Tryz.prog.elem 62)).run Tryz.prog W = .ok 5 W := by kernel_rfl
theorem elemWord : Tryz.prog.underlying 62 = some (.slice (Tryz.prog.elem 62)) := by kernel_rfl
/-- l[k:]. -/
theorem wd_tail {lb lo n cap k : Nat} (hk : k ≤ n) (hc : n ≤ cap) {i : Int} (hi : i = k) : ∃ lo', (∀ W', (Instr.slice 62 (.slice (some ⟨lb, lo, none⟩) n cap) (some (.int .i64 i)) none none).run Tryz.prog W' = .ok (.slice (some ⟨lb, lo', none⟩) (n - k) (cap - k)) W') ∧ (k < n → lo' = lo + k * 5) := by
  subst hi
  refine ⟨if cap = k then lo else lo + k * 5, fun W' => ?_, fun h => by rw [if_neg (by omega)]⟩
  rw [run_slice_any (P := Tryz.prog) (w := W') 62 (some ⟨lb, lo, none⟩) n cap elemWord]
  have hb : (Instr.sliceBounds true n cap (some (.int .i64 (k : Int))) none none).run Tryz.prog W' = .ok (k, n, cap) W' := by simp [Instr.sliceBounds, run_sliceBound, hk]
  rw [hb]
  simp only [Result.andThen, sizeWord, sliced]
  by_cases h : cap = k
  · simp [h]
  · simp [h, Addr.add]
end Go.Proofs.YtbidppjhenfjdaaGreatDoor
namespace Go.Proofs.YtbidppjhenfjdaaGreatDoor
open Go.RowKit
set_option linter.unusedVariables false
set_option linter.unusedSimpArgs false

theorem step_info : (Tryz.prog.info? 40).map (·.size) = some 9 := by kernel_rfl
/-- No step. -/
def noStep : Array Value := stV (Stp.zero 0) (.slice none 0 0) (.slice none 0 0)
/-- A step is stored into a step's variable, and may be read there. -/
theorem put_step (br : Nat) (cs cs' : Array Value) (W : World) (h : W.heap[br]? = some (.cells cs 40 (0, 0))) (hz : cs.size = 9) (hz' : cs'.size = 9) (h1 : cs'.all (·.oneCell') = true) :
    ∃ W', (Instr.storeAt 40 (.pointer (some ⟨br, 0, none⟩)) (.agg cs')).run Tryz.prog W = .ok () W' ∧ W'.heap[br]? = some (.cells cs' 40 (0, 0)) ∧
      (loadVar 40 ⟨br, 0, none⟩).run Tryz.prog W' = .ok (.agg cs') W' ∧ Keep [br] W W' := by
  obtain ⟨W', a, b, c⟩ := store_row (P := Tryz.prog) step_info h hz hz' h1
  exact ⟨W', a, b, load_var (P := Tryz.prog) Tryz.underlying40 rfl step_info b hz', c⟩
theorem noStep_one : noStep.all (·.oneCell') = true := by simp [noStep, stV, Value.oneCell']
theorem results_step {P : Program} {fn : Func} {p q : Tmp} {ty : TypeId} (h : fn.results = #[.cell p ty, .tmp q]) (tmps : Array Value) (w : World) (b : Nat) (v u : Value)
    (hp : tmps.getD p undef = .pointer (some ⟨b, 0, none⟩)) (hq : tmps.getD q undef = u) (hl : (loadVar ty ⟨b, 0, none⟩).run P w = .ok v w) : (results fn tmps).run P w = .ok (.tuple #[v, u]) w := by
  have hp' : tmps[p]?.getD undef = .pointer (some ⟨b, 0, none⟩) := by simpa using hp
  have hq' : tmps[q]?.getD undef = u := by simpa using hq
  simp [results, h, hp', hq', asAddr, hl]
/-- What words say, from the fields on. -/
def fillL : List Fld → List (Nat × ByteArray × Int × Nat × Nat) → Stp → Option Stp
  | [], _, s => some s
  | f :: fs, w :: ws, s => if (setF f w.1 w.2.1 w.2.2.1 s).2 = true then fillL fs ws (setF f w.1 w.2.1 w.2.2.1 s).1 else none
  | _ :: _, [], _ => none
def drawL : List (Nat × ByteArray × Int × Nat × Nat) → Option (List Int)
  | [] => some []
  | w :: ws => if w.1 = 3 then (drawL ws).map (w.2.2.1 :: ·) else none
/-- The kind that a word names, among the rows from i on. -/
def kindF (w : Nat × ByteArray × Int × Nat × Nat) : Nat → Nat → Option Nat
  | 0, _ => none
  | m + 1, i => if w.1 = 1 ∧ w.2.1.data = (tabW (i + 1)).data then some (i + 1) else kindF w m (i + 1)
/-- The step that a line's words say. -/
def rd : List (Nat × ByteArray × Int × Nat × Nat) → Option Stp
  | [] => none
  | w :: ws => match kindF w 14 0 with
    | none => none
    | some k => if k = 6 then (drawL ws).map (fun d => { Stp.zero 6 with draws := d }) else if ws.length = (tabF k).length then fillL (tabF k) ws (Stp.zero k) else none
end Go.Proofs.YtbidppjhenfjdaaGreatDoor
namespace Go.Proofs.YtbidppjhenfjdaaGreatDoor
open Go.RowKit
set_option linter.unusedVariables false
set_option linter.unusedSimpArgs false

/-- A row of the call's own is no block of another type. -/
theorem own_not_ty {w : World} {base sz : Nat} {e t : TypeId} {v : Value} {n : Nat} {xs : List Value} {i : Nat} {c : Array Value} {f : Nat × Nat} (h : w.ownsRow base e sz v n xs) (hi : w.heap[i]? = some (.cells c t f)) (ht : t ≠ e) : i ∉ v.ownBlock.toList := by
  intro hm
  simp at hm
  rcases h.2 with ⟨rfl, _⟩ | ⟨g, cap, cur, rfl, _, hg, _⟩
  · simp [Value.ownBlock] at hm
  · simp [Value.ownBlock] at hm
    subst hm
    rw [hg] at hi
    injection hi with hi
    injection hi with _ h2 _
    exact ht h2.symm
theorem info_draws : (Tryz.prog.info? 3).map (fun i => (i.zero, i.size, i.bytes)) = some (some (.int .i64 0), 1, 8) := by kernel_rfl
theorem d_append {W : World} {base j : Nat} {v : Value} {xs : List Value} (x : Int) (hown : W.ownsRow base 3 1 v j xs) (hb : base ≤ W.heap.size) (hk : j ≤ 1000000000) :
    ∃ v' w', (Builtin.append_ #[37, 37] 37 #[v, .slice (some ⟨W.heap.size, 0, none⟩) 1 1]).run Tryz.prog (W.alloc (.cells #[.int .i64 x] 3)) = .ok v' w' ∧
      AppPost (W.alloc (.cells #[.int .i64 x] 3)) base 3 1 v j xs 1 [.int .i64 x] v' w' := by
  obtain ⟨i0, hi, hz0, hz1, hz2⟩ : ∃ i, Tryz.prog.info? 3 = some i ∧ i.zero = some (.int .i64 0) ∧ i.size = 1 ∧ i.bytes = 8 := by
    have h := info_draws
    cases he : Tryz.prog.info? 3 with
    | none => rw [he] at h; cases h
    | some i =>
      rw [he] at h
      simp at h
      exact ⟨i, rfl, h.1, h.2.1, h.2.2⟩
  refine run_append_mine (P := Tryz.prog) _ base 37 37 3 i0 (.int .i64 0) 1 8 Tryz.underlying37 hi hz0 hz1 hz2 rfl (by decide) v j _ (hown.alloc _) ⟨W.heap.size, 0, none⟩ 1 1 [.int .i64 x] rfl
    (fun j u hu => ?_) (by simp [Value.oneCell']) (by unfold maxLen; omega) (by omega) (by simp; omega)
  have hj : j = 0 := by have := (List.getElem?_eq_some_iff.1 hu).1; simpa using this
  subst hj
  have h := cell_of_block (World.alloc_heap_new W (.cells #[.int .i64 x] 3)) 0
  simp at hu
  subst hu
  exact h
theorem d_append_drew {W : World} {base j : Nat} {v : Value} {xs : List Value} (x : Int) (hown : W.ownsRow base 3 1 v j xs) (hb : base ≤ W.heap.size) (hk : j ≤ 1000000000) :
    ∃ v' w', (Builtin.append_ #[37, 37] 37 #[v, .slice (some ⟨W.heap.size, 0, none⟩) 1 1]).run Tryz.prog (W.alloc (.cells #[.int .i64 x] 3)).drew = .ok v' w' ∧
      AppPost (W.alloc (.cells #[.int .i64 x] 3)).drew base 3 1 v j xs 1 [.int .i64 x] v' w' := d_append (W := W.drew) x hown hb hk
end Go.Proofs.YtbidppjhenfjdaaGreatDoor
namespace Go.Proofs.YtbidppjhenfjdaaGreatDoor
open Go.RowKit
set_option linter.unusedVariables false
set_option linter.unusedSimpArgs false

theorem dec_lt_t {a b : Int} (h : a < b) : decide (a < b) = true := by simpa using h
theorem dec_lt_f {a b : Int} (h : ¬ a < b) : decide (a < b) = false := by simpa using h
theorem dec_ltn_t {a b : Nat} (h : a < b) : decide (a < b) = true := by simpa using h
theorem dec_ltn_f {a b : Nat} (h : ¬ a < b) : decide (a < b) = false := by simpa using h
theorem str_ne {a b : ByteArray} (h : a ≠ b) : (a.toList == b.toList) = false := by
  rw [beq_eq_false_iff_ne, ByteArray.toList_eq, ByteArray.toList_eq]
  intro e
  exact h (ByteArray.ext (Array.toList_inj.1 e))
/-- The words of a line, where they lie. -/
def WdAt (W : World) (lb lo : Nat) (L : List (Nat × ByteArray × Int × Nat × Nat)) : Prop := ∀ j (hj : j < L.length),
  W.cell? ⟨lb, lo + j * 5, none⟩ = some (.int .i64 (L[j].1 : Nat)) ∧ W.cell? ⟨lb, lo + j * 5 + 1, none⟩ = some (.string L[j].2.1) ∧ W.cell? ⟨lb, lo + j * 5 + 2, none⟩ = some (.int .i64 L[j].2.2.1) ∧ W.cell? ⟨lb, lo + j * 5 + 3, none⟩ = some (.int .i64 (L[j].2.2.2.1 : Nat)) ∧ W.cell? ⟨lb, lo + j * 5 + 4, none⟩ = some (.int .i64 (L[j].2.2.2.2 : Nat))
theorem WdAt.keep {W W' : World} {lb lo : Nat} {L : List (Nat × ByteArray × Int × Nat × Nat)} {K : List Nat} (h : WdAt W lb lo L) (k : Keep K W W') (hn : lb ∉ K) : WdAt W' lb lo L := fun j hj => by
  obtain ⟨h0, h1, h2, h3, h4⟩ := h j hj
  exact ⟨k.cellv h0 hn, k.cellv h1 hn, k.cellv h2 hn, k.cellv h3 hn, k.cellv h4 hn⟩

theorem shape_info : (Tryz.prog.info? 113).map (·.size) = some 4 := by kernel_rfl
theorem tabS_one (B k : Nat) : (tabS B k).oneCell' = true := by unfold tabS; split <;> rfl
theorem tabR_one (k : Nat) : (tabR k).oneCell' = true := by unfold tabR; split <;> rfl
/-- A row of the table. -/
def rowV (B i : Nat) : Array Value := #[.int .i64 ((i + 1 : Nat) : Nat), .string (tabW (i + 1)), tabS B (i + 1), tabR (i + 1)]
theorem load_shape {B : Nat} {W : World} (h : Shp B W) (i : Nat) (hi : i < 14) : (Instr.loadAt 113 (.pointer (some ⟨B + 12, i * 4, none⟩))).run Tryz.prog W = .ok (.agg (rowV B i)) W := by
  obtain ⟨r0, r1, r2, r3⟩ := h.row i hi
  refine load_mid (P := Tryz.prog) Tryz.underlying113 rfl shape_info (fun j v hv => ?_) rfl
  have hj : j < 4 := (Array.getElem?_eq_some_iff.1 hv).1
  match j, hj with
  | 0, _ => exact r0.trans hv
  | 1, _ => exact r1.trans hv
  | 2, _ => exact r2.trans hv
  | 3, _ => exact r3.trans hv
theorem new_shape (w : World) (B i : Nat) :
    ∃ w', (Instr.storeAt 113 (.pointer (some ⟨w.heap.size, 0, none⟩)) (.agg (rowV B i))).run Tryz.prog (w.alloc (.cells #[.int .i64 0, .string ⟨#[]⟩, .slice none 0 0, .nilFunc] 113)) = .ok () w' ∧ w'.heap[w.heap.size]? = some (.cells (rowV B i) 113 (0, 0)) ∧ Keep [] w w' := by
  obtain ⟨w', h1, h2, h3⟩ := store_row (P := Tryz.prog) shape_info (World.alloc_heap_new w (.cells #[.int .i64 0, .string ⟨#[]⟩, .slice none 0 0, .nilFunc] 113)) rfl (cs := rowV B i) rfl (by simp [rowV, tabS_one, tabR_one]; simp [Value.oneCell'])
  exact ⟨w', h1, h2, ((Keep.refl [] w).alloc _).trans h3 (fun b hb => by simp at hb; exact .inr (by omega))⟩
/-- A kind's list of fields, whatever the kind. -/
theorem tabS_slice (B k : Nat) : ∃ ad, tabS B k = .slice ad (tabF k).length (tabF k).length ∧ ((tabF k).length ≠ 0 → ad = some ⟨B + tabB k, 0, none⟩) := by
  unfold tabS
  split
  · rename_i h; exact ⟨none, by rw [h], fun h2 => absurd h h2⟩
  · exact ⟨_, rfl, fun _ => rfl⟩
/-- The result's variable. -/
def Res (br : Nat) (W : World) : Prop := StB br (Stp.zero 0) (.slice none 0 0) (.slice none 0 0) W
theorem Res.keep {br : Nat} {W W' : World} {L : List Nat} (h : Res br W) (k : Keep L W W') (hn : br ∉ L) : Res br W' := k.at_ h hn
theorem kindF_at {w0 : Nat × ByteArray × Int × Nat × Nat} {i : Nat} (hi : i < 14) (hno : ∀ k, k < i → ¬ (w0.1 = 1 ∧ w0.2.1 = tabW (k + 1))) (h1 : w0.1 = 1) (h2 : w0.2.1 = tabW (i + 1)) : kindF w0 14 0 = some (i + 1) := by
  have key : ∀ (m j : Nat), j + m = 14 → j ≤ i → kindF w0 m j = some (i + 1) := by
    intro m
    induction m with
    | zero => intro j h hj; omega
    | succ m ih =>
      intro j h hj
      unfold kindF
      by_cases e : j = i
      · subst e; rw [if_pos ⟨h1, by rw [h2]⟩]
      · rw [if_neg (fun h => hno j (by omega) ⟨h.1, ByteArray.ext h.2⟩)]
        exact ih (j + 1) (by omega) (by omega)
  exact key 14 0 rfl (Nat.zero_le _)
theorem rd_len {w0 : Nat × ByteArray × Int × Nat × Nat} {L : List (Nat × ByteArray × Int × Nat × Nat)} {k : Nat} (h : kindF w0 14 0 = some k) (h6 : k ≠ 6) (hl : L.length ≠ (tabF k).length) : rd (w0 :: L) = none := by
  unfold rd
  simp only [h]
  rw [if_neg h6, if_neg hl]
/-- What read says. -/
def RdPost (W : World) (o : Option Stp) (e : Ending) (W' : World) : Prop := Keep [] W W' ∧
  ((o = none ∧ e = .returned (.tuple #[.agg noStep, .bool false])) ∨
   (∃ s dv bv, o = some s ∧ e = .returned (.tuple #[.agg (stV s dv bv), .bool true]) ∧ DatB W' bv s.data ∧ (∀ g, bv.ownBlock = some g → W.heap.size ≤ g) ∧ W'.ownsRow W.heap.size 3 1 dv s.draws.length (s.draws.map fun x => Value.int .i64 x)))
/-- No row ahead has the word. -/
def noRow (w0 : Nat × ByteArray × Int × Nat × Nat) (i : Nat) : Prop := ∀ k, k < i → ¬ (w0.1 = 1 ∧ w0.2.1 = tabW (k + 1))

set_option maxHeartbeats 16000000 in
set_option maxRecDepth 100000 in
theorem read_any (lb lo cap : Nat) (w0 : Nat × ByteArray × Int × Nat × Nat) (L : List (Nat × ByteArray × Int × Nat × Nat)) (W : World) (n : Nat) (hn : n = L.length + 1) (hL : n ≤ 100000000) (hcp : n ≤ cap) (h : WdAt W lb lo (w0 :: L)) :
    Calls Tryz.prog 20 #[.slice (some ⟨lb, lo, none⟩) n cap] W (RdPost W (rd (w0 :: L))) := by
  have HW := Lib.hid h
  have HN := Lib.hid hn
  have i3 : (0 : Int) < (n : Int) := by omega
  have i4 : 0 < n := by omega
  have i5 := dec_lt_t i3
  have i6 := dec_ltn_t i4
  clear h hn
  go_enter Tryz.func20, Tryz.ntmps20
  go_wp2_with fail
  refine (shapes_any _).mono ?_
  rintro e w1 ⟨rfl, hk1, hsh, hz⟩
  have hres : Res W.heap.size w1 := hk1.at_ (World.alloc_heap_new W _) (by simp)
  obtain ⟨B, hB⟩ : ∃ B, B = W.heap.size + 1 := ⟨_, rfl⟩
  rw [World.size_alloc, ← hB] at hsh hz ⊢
  obtain ⟨br, hbr⟩ : ∃ br, br = W.heap.size := ⟨_, rfl⟩
  rw [← hbr] at hres ⊢
  have HRES := Lib.hid hres
  have HBR := Lib.hid (show br = W.heap.size ∧ B = br + 1 by omega)
  clear hbr hres
  have HSH := Lib.hid hsh
  have HK1 := Lib.hid (((Keep.refl [] W).alloc _).trans0 hk1)
  clear hk1 hsh hz hB
  go_upto_region 2 with (fail)
  go_loopw [0, 13] (fun lv iv wr => ∃ i : Nat, lv = .slice (some ⟨lb, lo, none⟩) n cap ∧ iv = .int .i64 i ∧ i ≤ 14 ∧ noRow w0 i ∧ Keep [] W wr ∧ Shp B wr ∧ Res br wr) (fun _ iv _ => 14 - (intOf iv).toNat)
  case atStart => exact ⟨0, rfl, rfl, by omega, fun k hk => absurd hk (Nat.not_lt_zero _), HK1.out, HSH.out, HRES.out⟩
  case round =>
    obtain ⟨i, rfl, rfl, hi, hno, hkr, hsr, hrs⟩ := hrel
    have HNO := Lib.hid hno
    have HKR := Lib.hid hkr
    have HSR := Lib.hid hsr
    have HRS := Lib.hid hrs
    clear hno hkr hsr hrs HSH HK1 HRES
    by_cases hlt : i < 14
    · have g1 := dec_lt_t (show (i : Int) < 14 by omega)
      have g2 := dec_ltn_t hlt
      have hld := load_shape HSR.out i hlt
      obtain ⟨w2, hst, hb2, hk2⟩ := new_shape wr B i
      go_upto_region 3 with (fail)
      go_wp2_with (with_reducible refine park_load 15 _ rfl ?_)
      refine wpList_load_eq rfl _ (.tmp 15) rfl hld ?_
      go_wp2_with (with_reducible refine park_store 5 16 _ rfl ?_)
      refine wpList_store_eq rfl _ (.tmp 5) (.tmp 16) rfl hst ?_
      obtain ⟨bh, hbh⟩ : ∃ bh, bh = wr.heap.size := ⟨_, rfl⟩
      rw [← hbh] at hb2 ⊢
      have HB2 := Lib.hid hb2
      have HK2 := Lib.hid (HKR.out.trans0 hk2)
      have HS2 := Lib.hid (HSR.out.keep hk2 (fun _ _ => by simp))
      have HR2 := Lib.hid (HRS.out.keep hk2 (by simp))
      have q0 := ((HW.out.keep HK2.out (by simp)) 0 (by simp)).1
      have q1 := ((HW.out.keep HK2.out (by simp)) 0 (by simp)).2.1
      have q2 := cell_of_block hb2 1
      simp at q0 q1
      have q3 : w2.cell? ⟨bh, 1, none⟩ = some (.string (tabW (i + 1))) := q2
      clear q2 hb2 hk2 hld hst hbh
      obtain ⟨wk, wt, wn, wa, wl⟩ := w0
      simp only at q0 q1
      obtain ⟨tw, htw⟩ : ∃ tw, tw = tabW (i + 1) := ⟨_, rfl⟩
      rw [← htw] at q3
      have HTW := Lib.hid htw
      clear htw
      by_cases hk1 : wk = 1
      · subst hk1
        by_cases hwt : wt = tw
        · -- the row
          subst hwt
          obtain ⟨lo1, hsl, hlo⟩ := wd_tail (lb := lb) (lo := lo) (n := n) (cap := cap) (k := 1) (by omega) hcp (i := 1) rfl
          have r0 : w2.cell? ⟨bh, 0, none⟩ = some (.int .i64 ((i + 1 : Nat) : Nat)) := cell_of_block HB2.out 0
          have r2 : w2.cell? ⟨bh, 2, none⟩ = some (tabS B (i + 1)) := cell_of_block HB2.out 2
          have r3 : w2.cell? ⟨bh, 3, none⟩ = some (tabR (i + 1)) := cell_of_block HB2.out 3
          go_upto_region 4 with (fail)
          refine (wpIn_wide (n := 0)).1 ?_
          refine wpIn_fix (.inl rfl) 13 [] (fun _ => w2.drew) (fun w' => w'.cell? ⟨lb, lo, none⟩ = some (.int .i64 1) ∧ w'.cell? ⟨lb, lo + 1, none⟩ = some (.string wt) ∧ w'.cell? ⟨bh, 1, none⟩ = some (.string wt))
            [.slice (some ⟨lb, lo, none⟩) n cap, .pointer (some ⟨lb, lo, none⟩), .pointer (some ⟨lb, lo, none⟩), .int .i64 1, .bool false, .bool false, .slice (some ⟨lb, lo, none⟩) n cap, .pointer (some ⟨lb, lo, none⟩), .pointer (some ⟨lb, lo + 1, none⟩), .string wt, .pointer (some ⟨bh, 1, none⟩), .string wt, .bool false]
            (by kernel_rfl) (by kernel_rfl) rfl rfl rfl (fun _ _ => ⟨q0, q1, q3⟩) ?rest4
          case rest4 =>
            intro A hA
            simp only [putVals, List.take, Act.put, List.setIfInBounds_toArray, List.set_cons_succ, List.set_cons_zero] at hA
            subst hA
            refine ⟨?_, fixWrites_nil, ?_⟩
            · iterate 13
                refine fixReads_on rfl ?_ ?_
                · intro w1 hw1 K Q hK
                  obtain ⟨x1, x2, x3⟩ := hw1
                  go_simp
                  exact hK
              exact fixReads_nil
            · simp only [List.drop]
              gi_upto_region 5 with (fail)
              go_upto_region 7 with (fail)
              obtain ⟨bt, hbt⟩ : ∃ bt, bt = w2.heap.size := ⟨_, rfl⟩
              obtain ⟨w3, hw3⟩ : ∃ w3, w3 = (w2.alloc (.cells #[.int .i64 ((i : Int) + 1), .int .i64 0, .int .i64 0, .int .i64 0, .int .i64 0, .int .i64 0, .string ⟨#[]⟩, .slice none 0 0, .slice none 0 0] 40)).drew := ⟨_, rfl⟩
              have hk3 : Keep [] w2 w3 := by rw [hw3]; exact ((Keep.refl _ _).alloc _).drew
              have hst3 : StB bt (Stp.zero ((i : Int) + 1)) (.slice none 0 0) (.slice none 0 0) w3 := by rw [hw3, hbt]; exact World.alloc_heap_new w2 _
              rw [← hw3, ← hbt]
              have HBT := Lib.hid (show W.heap.size ≤ bt ∧ br < bt ∧ B + 12 < bt ∧ bh < bt by
                have h1 := HK2.out.size
                have h2 := lt_of_block HR2.out
                have h3 := World.block_lt_of_cell? _ _ (HS2.out.row 0 (by decide)).1
                have h4 := lt_of_block HB2.out
                simp only at h3
                rw [hbt]
                exact ⟨h1, h2, h3, h4⟩)
              have HK3 := Lib.hid (HK2.out.trans0 hk3)
              have HST3 := Lib.hid hst3
              have HB3 := Lib.hid (hk3.at_ HB2.out (by simp))
              have HR3 := Lib.hid (HR2.out.keep hk3 (by simp))
              have HSH3 := Lib.hid (HS2.out.keep hk3 (fun _ _ => by simp))
              obtain ⟨ad, hts, had⟩ := tabS_slice B (i + 1)
              obtain ⟨fl, hfl⟩ : ∃ fl, fl = (tabF (i + 1)).length := ⟨_, rfl⟩
              rw [← hfl] at hts had
              have HTS := Lib.hid hts
              have HAD := Lib.hid had
              have HFL := Lib.hid hfl
              clear hw3 hbt hk3 hst3 r0 r2 r3 q0 q1 q3 hsl
              have r2 : w3.cell? ⟨bh, 2, none⟩ = some (.slice ad fl fl) := by rw [← HTS.out]; exact cell_of_block HB3.out 2
              have r3 : w3.cell? ⟨bh, 3, none⟩ = some (tabR (i + 1)) := cell_of_block HB3.out 3
              clear hts had hfl
              have HKF := Lib.hid (kindF_at hlt HNO.out rfl HTW.out)
              obtain ⟨m, hm⟩ : ∃ m, m = n - 1 := ⟨_, rfl⟩
              have HM := Lib.hid (show m = L.length by have := HN.out; omega)
              rw [← hm]
              clear hm
              by_cases hsh : m < fl
              · have g7 := dec_lt_t (show (m : Int) < (fl : Int) by omega)
                have g8 := dec_ltn_t hsh
                have HRD := Lib.hid (show rd ((1, wt, wn, wa, wl) :: L) = none from rd_len HKF.out (fun h6 => by
                  have := HFL.out
                  rw [h6] at this
                  have h0 : (tabF 6).length = 0 := rfl
                  omega) (by have := HFL.out; have := HM.out; omega))
                obtain ⟨W9, hs9, hb9, hl9, hk9⟩ := put_step br _ noStep w3 HR3.out rfl rfl noStep_one
                have HL9 := Lib.hid hl9
                have HK9 := Lib.hid (HK3.out.trans hk9 (fun x hx => by simp at hx; subst hx; exact .inr (by have := HBR.out; omega)))
                unfold noStep stV Stp.zero at hs9
                clear hl9 hk9 hb9 hsh
                go_wp2_with (with_reducible refine park_store 2 55 _ rfl ?_)
                refine wpList_store_eq rfl _ (.tmp 2) (.tmp 55) rfl hs9 ?_
                clear hs9
                go_wp2
                exact bodyPost_ret (results_step rfl _ _ br _ _ rfl rfl HL9.out) rfl ⟨HK9.out, .inl ⟨HRD.out, rfl⟩⟩
              · have g7 := dec_lt_f (show ¬ (m : Int) < (fl : Int) by omega)
                have g8 := dec_ltn_f hsh
                by_cases h6 : i + 1 = 6
                · -- numbers may follow
                  obtain rfl : i = 5 := by omega
                  have r3b : w3.cell? ⟨bh, 3, none⟩ = some (.func (.func 79) #[] #[]) := r3
                  clear r3
                  have nn : ∀ w, (binOp .eql 111 (.func (.func 79) #[] #[]) .nilFunc).run Tryz.prog w = .ok (.bool false) w := fun _ => by kernel_rfl
                  have hfl0 : fl = 0 := HFL.out
                  subst hfl0
                  have hrdk : rd ((1, wt, wn, wa, wl) :: L) = (drawL L).map (fun d => { Stp.zero 6 with draws := d }) := by
                    unfold rd
                    simp only [HKF.out]
                    exact if_pos trivial
                  have HRD := Lib.hid hrdk
                  clear hrdk hsh h6
                  by_cases hgt : 0 < m
                  · have g9 := dec_lt_t (show ((0 : Nat) : Int) < (m : Int) by omega)
                    have g10 := dec_ltn_t hgt
                    go_upto_region 10 with (fail)
                    clear r2 r3b nn g7 g8 g9 g10
                    go_loopw [59] (fun iv wy => iv = .int .i64 0 ∧ wy = w3) (fun _ _ => 1)
                    case atStart => exact ⟨rfl, rfl⟩
                    case round =>
                      obtain ⟨rfl, hwy⟩ := hrel
                      subst hwy
                      rename World => wy
                      have hlo1 : lo1 = lo + 5 := hlo (by have := HN.out; have := HM.out; omega)
                      subst hlo1
                      obtain ⟨lo2, hsl2, hlo2⟩ := wd_tail (lb := lb) (lo := lo + 5) (n := m) (cap := cap - 1) (k := 0) (Nat.zero_le _) (by have := HM.out; have := HN.out; omega) (i := ((0 : Nat) : Int)) rfl
                      rw [Nat.sub_zero] at hsl2
                      obtain rfl : lo2 = lo + 5 := hlo2 hgt
                      have q2 : wy.cell? ⟨bh, 2, none⟩ = some (.slice ad 0 0) := by rw [← HTS.out]; exact cell_of_block HB3.out 2
                      clear hlo2
                      go_upto_region 16 with (fail)
                      go_loopw [80] (fun jv wx => ∃ (j : Nat) (d : List Int) (dv : Value), jv = .int .i64 j ∧ j ≤ m ∧ drawL L = (drawL (L.drop j)).map (d ++ ·) ∧ d.length = j ∧ StB bt { Stp.zero 6 with draws := d } dv (.slice none 0 0) wx ∧
                        wx.ownsRow W.heap.size 3 1 dv j (d.map fun x => Value.int .i64 x) ∧ Keep [] W wx ∧ Res br wx ∧ wx.heap[bh]? = some (.cells (rowV B 5) 113 (0, 0))) (fun jv _ => m - (intOf jv).toNat)
                      case atStart => exact ⟨0, [], _, rfl, Nat.zero_le _, (by simp), rfl, HST3.out, World.ownsRow_nil _ _ _ _, HK3.out, HR3.out, HB3.out⟩
                      case round =>
                        rename World => wx
                        obtain ⟨j, d, dv, rfl, hj, hdl, hdj, hst, hown, hkx, hrx, hbx⟩ := hrel
                        have HDL := Lib.hid hdl
                        have HDJ := Lib.hid hdj
                        have HST := Lib.hid hst
                        have HOWN := Lib.hid hown
                        have HKX := Lib.hid hkx
                        have HRX := Lib.hid hrx
                        have HBX := Lib.hid hbx
                        clear hdl hdj hst hown hkx hrx hbx q2
                        by_cases hlt2 : j < m
                        · have HJM := Lib.hid hlt2
                          have hjz : j ≤ 100000000 := by have := HM.out; have := HN.out; omega
                          have g1 := dec_lt_t (show (j : Int) < (m : Int) by omega)
                          have g2 := dec_ltn_t hlt2
                          have hjL : j < L.length := by rw [← HM.out]; exact hlt2
                          have hdl := List.drop_eq_getElem_cons hjL
                          have hw := (HW.out.keep HKX.out (by simp)) (j + 1) (by simp; omega)
                          simp only [List.getElem_cons_succ] at hw
                          rw [show lo + (j + 1) * 5 = lo + 5 + j * 5 by omega] at hw
                          generalize L[j] = wj at hdl hw
                          obtain ⟨vk, vt, vn, va, vl⟩ := wj
                          obtain ⟨c0, c1, c2, c3, c4⟩ := hw
                          simp only at c0 c1 c2 c3 c4
                          have HDD := Lib.hid (show drawL (L.drop j) = (if vk = 3 then (drawL (L.drop (j + 1))).map (vn :: ·) else none) by
                            rw [hdl]; rfl)
                          clear hdl
                          go_upto_region 18 with (fail)
                          obtain ⟨bw, hbw⟩ : ∃ bw, bw = wx.heap.size := ⟨_, rfl⟩
                          obtain ⟨w5, hw5⟩ : ∃ w5, w5 = wx.alloc (.cells #[.int .i64 (vk : Nat), .string vt, .int .i64 vn, .int .i64 (va : Nat), .int .i64 (vl : Nat)] 67) := ⟨_, rfl⟩
                          have hk5 : Keep [] wx w5 := by rw [hw5]; exact (Keep.refl _ _).alloc _
                          have hb5 : w5.heap[bw]? = some (.cells #[.int .i64 (vk : Nat), .string vt, .int .i64 vn, .int .i64 (va : Nat), .int .i64 (vl : Nat)] 67 (0, 0)) := by rw [hw5, hbw]; exact World.alloc_heap_new wx _
                          rw [← hw5, ← hbw]
                          have HB5 := Lib.hid hb5
                          have HK5 := Lib.hid (HKX.out.trans0 hk5)
                          have HST5 := Lib.hid (hk5.at_ HST.out (by simp))
                          have HOWN5 := Lib.hid (hk5.owns HOWN.out (by simp))
                          have HR5 := Lib.hid (HRX.out.keep hk5 (by simp))
                          have HBX5 := Lib.hid (hk5.at_ HBX.out (by simp))
                          have e0 : w5.cell? ⟨bw, 0, none⟩ = some (.int .i64 (vk : Nat)) := cell_of_block hb5 0
                          clear hw5 hbw hk5 hb5 c0 c1 c2 c3 c4 HST HOWN HRX HBX HKX
                          by_cases hk3 : vk = 3
                          · subst hk3
                            obtain ⟨ad2, cap2, hdv⟩ := (SlAt.of_owns HOWN5.out).empty
                            subst hdv
                            obtain ⟨v2, W10, hap, hpost⟩ := d_append_drew vn HOWN5.out HK5.out.size (by omega)
                            have hn1 := own_not_ty HOWN5.out HST5.out (by decide)
                            have hn2 := own_not_ty HOWN5.out HBX5.out (by decide)
                            have hn3 := own_not_ty HOWN5.out HR5.out (by decide)
                            have k5a : Keep [] w5 (w5.alloc (.cells #[.int .i64 vn] 3)).drew := ((Keep.refl _ _).alloc _).drew
                            have k5b := hpost.2.1
                            have HSTa := Lib.hid (k5a.at_ HST5.out (by simp))
                            have HBXa := Lib.hid (k5a.at_ HBX5.out (by simp))
                            have HBa := Lib.hid (k5a.at_ HB5.out (by simp))
                            have hn4 := own_not_ty HOWN5.out HB5.out (by decide)
                            have HSTb := Lib.hid (k5b.at_ HSTa.out hn1)
                            have HBXb := Lib.hid (k5b.at_ HBXa.out hn2)
                            have HBb := Lib.hid (k5b.at_ HBa.out hn4)
                            have HRb := Lib.hid ((HR5.out.keep k5a (by simp)).keep k5b hn3)
                            have HKb := Lib.hid ((HK5.out.trans0 k5a).trans k5b (fun x hx => by simp at hx; exact .inr (HOWN5.out.lt x hx).1))
                            obtain ⟨ad3, cap3, hv3⟩ := (SlAt.of_owns hpost.1).empty
                            subst hv3
                            have HOWNb := Lib.hid hpost.1
                            have hn5 := own_not_ty HOWNb.out HSTb.out (by decide)
                            have hk11 : Keep [bt] W10 (W10.setCell ⟨bt, 7, none⟩ (.slice ad3 (j + 1) cap3)) := (Keep.refl _ _).setCell (.inl (by simp)) _
                            have HST11 := Lib.hid (show StB bt { Stp.zero 6 with draws := d ++ [vn] } (.slice ad3 (j + 1) cap3) (.slice none 0 0) (W10.setCell ⟨bt, 7, none⟩ (.slice ad3 (j + 1) cap3)) from block_setCell HSTb.out 7 _)
                            have HOWN11 := Lib.hid (hk11.owns HOWNb.out (fun g hg hm => by simp at hm; subst hm; exact hn5 (by simp [hg])))
                            have HK11 := Lib.hid (HKb.out.trans hk11 (fun x hx => by simp at hx; subst hx; exact .inr HBT.out.1))
                            have HR11 := Lib.hid (HRb.out.keep hk11 (by have := HBT.out; simp; omega))
                            have HBX11 := Lib.hid (hk11.at_ HBXb.out (by have := HBT.out; simp; omega))
                            have qb : W10.cell? ⟨bt, 7, none⟩ = some (.slice ad2 j cap2) := cell_of_block HSTb.out 7
                            have zb : W10.frozen? ⟨bt, 7, none⟩ = false := free_of_block HSTb.out 7
                            have hCC : ∀ w' : World, w'.heap[bt]? = some (.cells (stV { Stp.zero 6 with draws := d } (.slice ad2 j cap2) (.slice none 0 0)) 40 (0, 0)) → w'.heap[bh]? = some (.cells (rowV B 5) 113 (0, 0)) → w'.heap[bw]? = some (.cells #[.int .i64 ((3 : Nat) : Nat), .string vt, .int .i64 vn, .int .i64 (va : Nat), .int .i64 (vl : Nat)] 67 (0, 0)) →
                                w'.cell? ⟨bt, 7, none⟩ = some (.slice ad2 j cap2) ∧ w'.cell? ⟨bh, 3, none⟩ = some (.func (.func 79) #[] #[]) ∧ w'.cell? ⟨bw, 2, none⟩ = some (.int .i64 vn) := fun w' h1 h2 h3 => ⟨cell_of_block h1 7, cell_of_block h2 3, cell_of_block h3 2⟩
                            have HCL := Lib.hid (And.intro (hCC w5.drew HST5.out HBX5.out HB5.out) (And.intro (hCC _ HSTa.out HBXa.out HBa.out) (hCC _ HSTb.out HBXb.out HBb.out)))
                            have HDL11 := Lib.hid (show drawL L = (drawL (L.drop (j + 1))).map ((d ++ [vn]) ++ ·) by
                              rw [HDL.out, HDD.out, if_pos rfl, Option.map_map]
                              congr 1
                              funext x
                              simp)
                            clear hCC hn1 hn2 hn3 hn4 hn5 k5a k5b hpost hk11
                            go_upto_region 20 with (fail)
                            refine (wpIn_wide (n := 0)).1 ?_
                            refine wpIn_fix (.inl rfl) 12 [10, 11] (fun k => if k = 0 then w5.drew else if k = 1 then (w5.alloc (.cells #[.int .i64 vn] 3)).drew else W10) (fun w' => w'.cell? ⟨bt, 7, none⟩ = some (.slice ad2 j cap2) ∧ w'.cell? ⟨bh, 3, none⟩ = some (.func (.func 79) #[] #[]) ∧ w'.cell? ⟨bw, 2, none⟩ = some (.int .i64 vn))
                              [.pointer (some ⟨bh, 3, none⟩), .func (.func 79) #[] #[], .pointer (some ⟨bt, 7, none⟩), .pointer (some ⟨bh, 3, none⟩), .func (.func 79) #[] #[], .pointer (some ⟨bt, 7, none⟩), .pointer (some ⟨bt, 7, none⟩), .slice ad2 j cap2, .pointer (some ⟨bw, 2, none⟩), .int .i64 vn, .slice (some ⟨w5.heap.size, 0, none⟩) 1 1, .slice ad3 (j + 1) cap3]
                              (by kernel_rfl) (by kernel_rfl) rfl rfl (show _ = W10 from rfl) ?hC ?rest20
                            case hC =>
                              intro k hk
                              rcases k with _ | _ | k
                              · exact HCL.out.1
                              · exact HCL.out.2.1
                              · exact HCL.out.2.2
                            case rest20 =>
                              intro A hA
                              simp only [putVals, List.take, Act.put, List.setIfInBounds_toArray, List.set_cons_succ, List.set_cons_zero] at hA
                              subst hA
                              refine ⟨?_, fixWrites_cons rfl rfl ?_ (fixWrites_cons rfl rfl ?_ fixWrites_nil), ?_⟩
                              · iterate 10
                                  refine fixReads_cons rfl ?_ ?_
                                  · intro w1 hw1 K Q hK
                                    obtain ⟨x0, x1, x2⟩ := hw1
                                    go_simp
                                    first
                                      | exact hK
                                      | (refine (fdraws_any bt _).mono ?_; rintro e w' ⟨rfl, rfl⟩; exact hK)
                                exact fixReads_skip (by rfl) (fixReads_skip (by rfl) fixReads_nil)
                              · intro K Q hK
                                go_simp
                                exact hK
                              · exact fun K Q hK => wp_append_eq _ _ _ rfl rfl rfl hap hK
                              · simp only [List.drop]
                                gi_upto_region 21 with (fail)
                                clear qb zb hap
                                go_wp2
                                go_roundw
                                case rel => exact ⟨j + 1, d ++ [vn], _, by go_num, by have := HJM.out; omega, HDL11.out, by simp [HDJ.out], HST11.out, by rw [List.map_append]; exact HOWN11.out, HK11.out, HR11.out, HBX11.out⟩
                                case measure => have := HJM.out; simp [intOf]; omega
                          · have g9 : ((vk : Int) != 3) = true := by simp; omega
                            have g10 : (vk != 3) = true := by simp; omega
                            have HRD9 := Lib.hid (show rd ((1, wt, wn, wa, wl) :: L) = none by
                              rw [HRD.out, HDL.out, HDD.out, if_neg hk3]
                              rfl)
                            obtain ⟨W9, hs9, hb9, hl9, hk9⟩ := put_step br _ noStep w5 HR5.out rfl rfl noStep_one
                            have HL9 := Lib.hid hl9
                            have HK9 := Lib.hid (HK5.out.trans hk9 (fun x hx => by simp at hx; subst hx; exact .inr (by have := HBR.out; omega)))
                            unfold noStep stV Stp.zero at hs9
                            clear hl9 hk9 hb9 hk3
                            go_wp2_with (with_reducible refine park_store 2 87 _ rfl ?_)
                            refine wpList_store_eq rfl _ (.tmp 2) (.tmp 87) rfl hs9 ?_
                            clear hs9
                            go_wp2
                            exact bodyPost_ret (results_step rfl _ _ br _ _ rfl rfl HL9.out) rfl ⟨HK9.out, .inl ⟨HRD9.out, rfl⟩⟩
                        · obtain rfl : j = m := by omega
                          have g1 := dec_lt_f (show ¬ (j : Int) < (j : Int) by omega)
                          have g2 := dec_ltn_f hlt2
                          have HRD9 := Lib.hid (show rd ((1, wt, wn, wa, wl) :: L) = some { Stp.zero 6 with draws := d } by
                            rw [HRD.out, HDL.out, List.drop_of_length_le (by rw [← HM.out]; omega)]
                            simp [drawL])
                          have hld : (Instr.loadAt 40 (.pointer (some ⟨bt, 0, none⟩))).run Tryz.prog wx = .ok (.agg (stV { Stp.zero 6 with draws := d } dv (.slice none 0 0))) wx := load_row (P := Tryz.prog) Tryz.underlying40 rfl step_info HST.out rfl
                          obtain ⟨ad2, cap2, hdv⟩ := (SlAt.of_owns HOWN.out).empty
                          subst hdv
                          obtain ⟨W9, hs9, hb9, hl9, hk9⟩ := put_step br _ (stV { Stp.zero 6 with draws := d } (.slice ad2 j cap2) (.slice none 0 0)) wx HRX.out rfl rfl (by simp [stV, Value.oneCell'])
                          have HL9 := Lib.hid hl9
                          have HK9 := Lib.hid (HKX.out.trans hk9 (fun x hx => by simp at hx; subst hx; exact .inr (by have := HBR.out; omega)))
                          have hn9 := own_not_ty HOWN.out HRX.out (by decide)
                          have HOWN9 := Lib.hid (hk9.owns HOWN.out (fun g hg hm => by simp at hm; subst hm; exact hn9 (by simp [hg])))
                          clear hl9 hk9 hb9 hn9 hlt2
                          go_wp2_with (with_reducible refine park_load 6 _ rfl ?_)
                          refine wpList_load_eq rfl _ (.tmp 6) rfl hld ?_
                          unfold stV Stp.zero at hs9
                          go_wp2_with (with_reducible refine park_store 2 102 _ rfl ?_)
                          refine wpList_store_eq rfl _ (.tmp 2) (.tmp 102) rfl hs9 ?_
                          clear hs9
                          go_wp2
                          refine bodyPost_ret (results_step rfl _ _ br _ _ rfl rfl HL9.out) rfl ⟨HK9.out, .inr ⟨{ Stp.zero 6 with draws := d }, .slice ad2 j cap2, .slice none 0 0, HRD9.out, rfl, .inl ⟨rfl, rfl⟩, fun g hg => by simp [Value.ownBlock] at hg, ?_⟩⟩
                          have h := HOWN9.out
                          rw [← HDJ.out] at h ⊢
                          exact h
                  · obtain rfl : m = 0 := by omega
                    have g9 := dec_lt_f (show ¬ ((0 : Nat) : Int) < ((0 : Nat) : Int) by omega)
                    have HRD9 := Lib.hid (show rd ((1, wt, wn, wa, wl) :: L) = some (Stp.zero 6) by
                      rw [HRD.out, List.eq_nil_of_length_eq_zero HM.out.symm]
                      rfl)
                    go_upto_region 10 with (fail)
                    clear r2 r3b nn g7 g8 g9
                    go_loopw [59] (fun iv wy => iv = .int .i64 0 ∧ wy = w3) (fun _ _ => 1)
                    case atStart => exact ⟨rfl, rfl⟩
                    case round =>
                      obtain ⟨rfl, hwy⟩ := hrel
                      subst hwy
                      rename World => wx
                      obtain ⟨lo2, hsl2, hlo2⟩ := wd_tail (lb := lb) (lo := lo1) (n := 0) (cap := cap - 1) (k := 0) (Nat.zero_le _) (Nat.zero_le _) (i := ((0 : Nat) : Int)) rfl
                      rw [Nat.sub_zero] at hsl2
                      have q2 : wx.cell? ⟨bh, 2, none⟩ = some (.slice ad 0 0) := by rw [← HTS.out]; exact cell_of_block HB3.out 2
                      clear hlo2
                      go_upto_region 16 with (fail)
                      clear q2
                      go_loopw [80] (fun iv wz => iv = .int .i64 0 ∧ wz = wx) (fun _ _ => 1)
                      case atStart => exact ⟨rfl, rfl⟩
                      case round =>
                        obtain ⟨rfl, hwz⟩ := hrel
                        subst hwz
                        rename World => wu
                        have hld : (Instr.loadAt 40 (.pointer (some ⟨bt, 0, none⟩))).run Tryz.prog wu = .ok (.agg (stV (Stp.zero 6) (.slice none 0 0) (.slice none 0 0))) wu := load_row (P := Tryz.prog) Tryz.underlying40 rfl step_info HST3.out rfl
                        obtain ⟨W9, hs9, hb9, hl9, hk9⟩ := put_step br _ (stV (Stp.zero 6) (.slice none 0 0) (.slice none 0 0)) wu HR3.out rfl rfl (by simp [stV, Value.oneCell'])
                        have HL9 := Lib.hid hl9
                        have HK9 := Lib.hid (HK3.out.trans hk9 (fun x hx => by simp at hx; subst hx; exact .inr (by have := HBR.out; omega)))
                        clear hl9 hk9 hb9
                        go_wp2_with (with_reducible refine park_load 6 _ rfl ?_)
                        refine wpList_load_eq rfl _ (.tmp 6) rfl hld ?_
                        unfold stV Stp.zero at hs9
                        go_wp2_with (with_reducible refine park_store 2 102 _ rfl ?_)
                        refine wpList_store_eq rfl _ (.tmp 2) (.tmp 102) rfl hs9 ?_
                        clear hs9
                        go_wp2
                        exact bodyPost_ret (results_step rfl _ _ br _ _ rfl rfl HL9.out) rfl ⟨HK9.out, .inr ⟨Stp.zero 6, .slice none 0 0, .slice none 0 0, HRD9.out, rfl, .inl ⟨rfl, rfl⟩, fun g hg => by simp [Value.ownBlock] at hg, World.ownsRow_nil _ _ _ _⟩⟩
                · have r3b : w3.cell? ⟨bh, 3, none⟩ = some .nilFunc := by rw [r3]; unfold tabR; rw [if_neg h6]
                  clear r3
                  have nn : ∀ w, (binOp .eql 111 .nilFunc .nilFunc).run Tryz.prog w = .ok (.bool true) w := fun _ => by kernel_rfl
                  by_cases hgt : fl < m
                  · -- too many words
                    have g9 := dec_lt_t (show (fl : Int) < (m : Int) by omega)
                    have g10 := dec_ltn_t hgt
                    have HRD := Lib.hid (show rd ((1, wt, wn, wa, wl) :: L) = none from rd_len HKF.out h6 (by have := HFL.out; have := HM.out; omega))
                    obtain ⟨W9, hs9, hb9, hl9, hk9⟩ := put_step br _ noStep w3 HR3.out rfl rfl noStep_one
                    have HL9 := Lib.hid hl9
                    have HK9 := Lib.hid (HK3.out.trans hk9 (fun x hx => by simp at hx; subst hx; exact .inr (by have := HBR.out; omega)))
                    unfold noStep stV Stp.zero at hs9
                    clear hl9 hk9 hb9 hsh hgt h6
                    go_wp2_with (with_reducible refine park_store 2 55 _ rfl ?_)
                    refine wpList_store_eq rfl _ (.tmp 2) (.tmp 55) rfl hs9 ?_
                    clear hs9
                    go_wp2
                    exact bodyPost_ret (results_step rfl _ _ br _ _ rfl rfl HL9.out) rfl ⟨HK9.out, .inl ⟨HRD.out, rfl⟩⟩
                  · -- as many as there are fields
                    have g9 := dec_lt_f (show ¬ (fl : Int) < (m : Int) by omega)
                    have g10 := dec_ltn_f hgt
                    have hmf : m = fl := by omega
                    subst hmf
                    have hrdk : rd ((1, wt, wn, wa, wl) :: L) = fillL (tabF (i + 1)) L (Stp.zero ((i : Int) + 1)) := by
                      unfold rd
                      simp only [HKF.out]
                      rw [if_neg h6, if_pos (by have := HFL.out; have := HM.out; omega)]
                      rfl
                    have HRD := Lib.hid hrdk
                    clear hrdk hsh hgt h6
                    go_upto_region 10 with (fail)
                    clear r2 r3b nn g7 g8 g9 g10
                    go_loopw [59] (fun jv wx => ∃ (j : Nat) (s : Stp) (bv : Value), jv = .int .i64 j ∧ j ≤ m ∧ fillL (tabF (i + 1)) L (Stp.zero ((i : Int) + 1)) = fillL ((tabF (i + 1)).drop j) (L.drop j) s ∧ s.draws = [] ∧
                      StB bt s (.slice none 0 0) bv wx ∧ DatB wx bv s.data ∧ (∀ g, bv.ownBlock = some g → g ≠ bt ∧ W.heap.size ≤ g) ∧ Keep [] W wx ∧ Res br wx ∧ Shp B wx ∧ wx.heap[bh]? = some (.cells (rowV B i) 113 (0, 0))) (fun jv _ => m - (intOf jv).toNat)
                    case atStart => exact ⟨0, _, _, rfl, Nat.zero_le _, rfl, rfl, HST3.out, .inl ⟨rfl, rfl⟩, fun g hg => (by simp [Value.ownBlock] at hg), HK3.out, HR3.out, HSH3.out, HB3.out⟩
                    case round =>
                      rename World => wx
                      obtain ⟨j, s, bv, rfl, hj, hfi, hdr, hst, hdt, hown, hkx, hrx, hshx, hbx⟩ := hrel
                      have HFI := Lib.hid hfi
                      have HDR := Lib.hid hdr
                      have HST := Lib.hid hst
                      have HDT := Lib.hid hdt
                      have HOWN := Lib.hid hown
                      have HKX := Lib.hid hkx
                      have HRX := Lib.hid hrx
                      have HSX := Lib.hid hshx
                      have HBX := Lib.hid hbx
                      clear hfi hdr hst hdt hown hkx hrx hshx hbx
                      by_cases hlt2 : j < m
                      · have HJM := Lib.hid hlt2
                        have hjz : j ≤ 100000000 := by have := HM.out; have := HN.out; omega
                        have g1 := dec_lt_t (show (j : Int) < (m : Int) by omega)
                        have g2 := dec_ltn_t hlt2
                        have hjf : j < (tabF (i + 1)).length := by rw [← HFL.out]; exact hlt2
                        have hjL : j < L.length := by rw [← HM.out]; exact hlt2
                        have had2 := HAD.out (by omega)
                        have hfc := HSX.out.fld (i + 1) j hjf
                        have hdf := List.drop_eq_getElem_cons hjf
                        have hdl := List.drop_eq_getElem_cons hjL
                        have hw := (HW.out.keep HKX.out (by simp)) (j + 1) (by simp; omega)
                        simp only [List.getElem_cons_succ] at hw
                        have hlo1 : lo1 = lo + 5 := hlo (by have := HN.out; have := HM.out; omega)
                        subst hlo1
                        rw [show lo + (j + 1) * 5 = lo + 5 + j * 5 by omega] at hw
                        generalize (tabF (i + 1))[j] = f at hfc hdf
                        generalize L[j] = wj at hdl hw
                        obtain ⟨vk, vt, vn, va, vl⟩ := wj
                        obtain ⟨c0, c1, c2, c3, c4⟩ := hw
                        simp only at c0 c1 c2 c3 c4
                        obtain ⟨s', hs'⟩ : ∃ s', s' = (setF f vk vt vn s).1 := ⟨_, rfl⟩
                        obtain ⟨ok, hok⟩ : ∃ ok, ok = (setF f vk vt vn s).2 := ⟨_, rfl⟩
                        have HFI2 := Lib.hid (show fillL ((tabF (i + 1)).drop j) (L.drop j) s = (if ok = true then fillL ((tabF (i + 1)).drop (j + 1)) (L.drop (j + 1)) s' else none) by
                          rw [hdf, hdl, hs', hok]; rfl)
                        have HDR2 := Lib.hid (show s'.draws = [] by rw [hs']; cases f <;> exact HDR.out)
                        have HS2 := Lib.hid (And.intro hs' hok)
                        clear hdf hdl hs' hok
                        subst had2
                        cases f
                        case site =>
                          simp only [fldV] at hfc
                          go_upto_region 12 with (fail)
                          refine (wpIn_wide (n := 0)).1 ?_
                          refine wpIn_fix (.inl rfl) 6 [] (fun _ => wx.drew) (fun w' => w'.cell? ⟨lb, lo + 5 + j * 5, none⟩ = some (.int .i64 (vk : Nat)) ∧ w'.cell? ⟨lb, lo + 5 + j * 5 + 1, none⟩ = some (.string vt) ∧ w'.cell? ⟨lb, lo + 5 + j * 5 + 2, none⟩ = some (.int .i64 vn) ∧ w'.cell? ⟨lb, lo + 5 + j * 5 + 3, none⟩ = some (.int .i64 (va : Nat)) ∧ w'.cell? ⟨lb, lo + 5 + j * 5 + 4, none⟩ = some (.int .i64 (vl : Nat)))
                            [.func (.func 74) #[] #[], .iface 124 (.pointer (some ⟨bt, 1, none⟩)), .slice (some ⟨lb, lo + 5, none⟩) m (cap - 1), .int .i64 (j : Nat), .pointer (some ⟨lb, lo + 5 + j * 5, none⟩), wArg vk vt vn va vl]
                            (by kernel_rfl) (by kernel_rfl) rfl rfl rfl (fun _ _ => ⟨c0, c1, c2, c3, c4⟩) ?rest12
                          case rest12 =>
                            intro A hA
                            simp only [putVals, List.take, Act.put, List.setIfInBounds_toArray, List.set_cons_succ, List.set_cons_zero] at hA
                            subst hA
                            refine ⟨?_, fixWrites_nil, ?_⟩
                            · iterate 6
                                refine fixReads_cons rfl ?_ ?_
                                · intro w1 hw1 K Q hK
                                  obtain ⟨x0, x1, x2, x3, x4⟩ := hw1
                                  go_simp
                                  first
                                    | exact hK
                                    | (refine (fld_any (.site) bt _).mono ?_; rintro e w' ⟨rfl, rfl⟩; exact hK)
                              exact fixReads_nil
                            · simp only [List.drop]
                              clear c0 c1 c2 c3 c4
                              gi_wp2_with fail
                              rename_i K hK
                              refine ⟨trivial, rfl, callsIn_wide.2 ((fill_fld (.site) bt s (.slice none 0 0) bv vk vt vn va vl wx.drew HST.out HDT.out (fun g hg => (HOWN.out g hg).1)).mono ?_)⟩
                              rintro e w' ⟨rfl, hk9, bv', hst', hdt', hown'⟩
                              rw [← HS2.out.1] at hst' hdt'
                              rw [← HS2.out.2]
                              have hk9 : Keep [bt] wx w' := ((Keep.refl [bt] wx).drew).trans' hk9
                              have HK9 := Lib.hid (HKX.out.trans hk9 (fun x hx => by simp at hx; subst hx; exact .inr HBT.out.1))
                              have HST9 := Lib.hid hst'
                              have HDT9 := Lib.hid hdt'
                              have HOWN9 := Lib.hid (show ∀ g, bv'.ownBlock = some g → g ≠ bt ∧ W.heap.size ≤ g from fun g hg => by
                                rcases hown' g hg with h | h
                                · exact HOWN.out g h
                                · have h1 := lt_of_block HST.out
                                  have h2 : wx.heap.size ≤ g := h
                                  have h3 := HBT.out.1
                                  omega)
                              have HR9 := Lib.hid (HRX.out.keep hk9 (by have := HBT.out; simp; omega))
                              have HS9 := Lib.hid (HSX.out.keep hk9 (fun _ _ => by have := HBT.out; simp; omega))
                              have HB9 := Lib.hid (hk9.at_ HBX.out (by have := HBT.out; simp; omega))
                              clear hk9 hst' hdt' hown'
                              refine hK _ _ ?_
                              cases ok
                              · have hfn := HFI2.out
                                simp only [Bool.false_eq_true, if_false] at hfn
                                have HRD9 := Lib.hid (HRD.out.trans (HFI.out.trans hfn))
                                obtain ⟨W9, hs9, hb9, hl9, hk9⟩ := put_step br _ noStep w' HR9.out rfl rfl noStep_one
                                have HL9 := Lib.hid hl9
                                have HK9' := Lib.hid (HK9.out.trans hk9 (fun x hx => by simp at hx; subst hx; exact .inr (by have := HBR.out; omega)))
                                unfold noStep stV Stp.zero at hs9
                                clear hl9 hk9 hb9 hfn
                                gi_upto_region 13 with (fail)
                                go_wp2_with (with_reducible refine park_store 2 72 _ rfl ?_)
                                refine wpList_store_eq rfl _ (.tmp 2) (.tmp 72) rfl hs9 ?_
                                clear hs9
                                go_wp2
                                exact bodyPost_ret (results_step rfl _ _ br _ _ rfl rfl HL9.out) rfl ⟨HK9'.out, .inl ⟨HRD9.out, rfl⟩⟩
                              · have hfn := HFI2.out
                                simp only [if_true] at hfn
                                have HFI9 := Lib.hid (HFI.out.trans hfn)
                                clear hfn
                                gi_wp2
                                go_wp2
                                go_roundw
                                case rel => exact ⟨j + 1, s', bv', by go_num, by have := HJM.out; omega, HFI9.out, HDR2.out, HST9.out, HDT9.out, HOWN9.out, HK9.out, HR9.out, HS9.out, HB9.out⟩
                                case measure => have := HJM.out; simp [intOf]; omega
                        case peer =>
                          simp only [fldV] at hfc
                          go_upto_region 12 with (fail)
                          refine (wpIn_wide (n := 0)).1 ?_
                          refine wpIn_fix (.inl rfl) 6 [] (fun _ => wx.drew) (fun w' => w'.cell? ⟨lb, lo + 5 + j * 5, none⟩ = some (.int .i64 (vk : Nat)) ∧ w'.cell? ⟨lb, lo + 5 + j * 5 + 1, none⟩ = some (.string vt) ∧ w'.cell? ⟨lb, lo + 5 + j * 5 + 2, none⟩ = some (.int .i64 vn) ∧ w'.cell? ⟨lb, lo + 5 + j * 5 + 3, none⟩ = some (.int .i64 (va : Nat)) ∧ w'.cell? ⟨lb, lo + 5 + j * 5 + 4, none⟩ = some (.int .i64 (vl : Nat)))
                            [.func (.func 78) #[] #[], .iface 124 (.pointer (some ⟨bt, 2, none⟩)), .slice (some ⟨lb, lo + 5, none⟩) m (cap - 1), .int .i64 (j : Nat), .pointer (some ⟨lb, lo + 5 + j * 5, none⟩), wArg vk vt vn va vl]
                            (by kernel_rfl) (by kernel_rfl) rfl rfl rfl (fun _ _ => ⟨c0, c1, c2, c3, c4⟩) ?rest12
                          case rest12 =>
                            intro A hA
                            simp only [putVals, List.take, Act.put, List.setIfInBounds_toArray, List.set_cons_succ, List.set_cons_zero] at hA
                            subst hA
                            refine ⟨?_, fixWrites_nil, ?_⟩
                            · iterate 6
                                refine fixReads_cons rfl ?_ ?_
                                · intro w1 hw1 K Q hK
                                  obtain ⟨x0, x1, x2, x3, x4⟩ := hw1
                                  go_simp
                                  first
                                    | exact hK
                                    | (refine (fld_any (.peer) bt _).mono ?_; rintro e w' ⟨rfl, rfl⟩; exact hK)
                              exact fixReads_nil
                            · simp only [List.drop]
                              clear c0 c1 c2 c3 c4
                              gi_wp2_with fail
                              rename_i K hK
                              refine ⟨trivial, rfl, callsIn_wide.2 ((fill_fld (.peer) bt s (.slice none 0 0) bv vk vt vn va vl wx.drew HST.out HDT.out (fun g hg => (HOWN.out g hg).1)).mono ?_)⟩
                              rintro e w' ⟨rfl, hk9, bv', hst', hdt', hown'⟩
                              rw [← HS2.out.1] at hst' hdt'
                              rw [← HS2.out.2]
                              have hk9 : Keep [bt] wx w' := ((Keep.refl [bt] wx).drew).trans' hk9
                              have HK9 := Lib.hid (HKX.out.trans hk9 (fun x hx => by simp at hx; subst hx; exact .inr HBT.out.1))
                              have HST9 := Lib.hid hst'
                              have HDT9 := Lib.hid hdt'
                              have HOWN9 := Lib.hid (show ∀ g, bv'.ownBlock = some g → g ≠ bt ∧ W.heap.size ≤ g from fun g hg => by
                                rcases hown' g hg with h | h
                                · exact HOWN.out g h
                                · have h1 := lt_of_block HST.out
                                  have h2 : wx.heap.size ≤ g := h
                                  have h3 := HBT.out.1
                                  omega)
                              have HR9 := Lib.hid (HRX.out.keep hk9 (by have := HBT.out; simp; omega))
                              have HS9 := Lib.hid (HSX.out.keep hk9 (fun _ _ => by have := HBT.out; simp; omega))
                              have HB9 := Lib.hid (hk9.at_ HBX.out (by have := HBT.out; simp; omega))
                              clear hk9 hst' hdt' hown'
                              refine hK _ _ ?_
                              cases ok
                              · have hfn := HFI2.out
                                simp only [Bool.false_eq_true, if_false] at hfn
                                have HRD9 := Lib.hid (HRD.out.trans (HFI.out.trans hfn))
                                obtain ⟨W9, hs9, hb9, hl9, hk9⟩ := put_step br _ noStep w' HR9.out rfl rfl noStep_one
                                have HL9 := Lib.hid hl9
                                have HK9' := Lib.hid (HK9.out.trans hk9 (fun x hx => by simp at hx; subst hx; exact .inr (by have := HBR.out; omega)))
                                unfold noStep stV Stp.zero at hs9
                                clear hl9 hk9 hb9 hfn
                                gi_upto_region 13 with (fail)
                                go_wp2_with (with_reducible refine park_store 2 72 _ rfl ?_)
                                refine wpList_store_eq rfl _ (.tmp 2) (.tmp 72) rfl hs9 ?_
                                clear hs9
                                go_wp2
                                exact bodyPost_ret (results_step rfl _ _ br _ _ rfl rfl HL9.out) rfl ⟨HK9'.out, .inl ⟨HRD9.out, rfl⟩⟩
                              · have hfn := HFI2.out
                                simp only [if_true] at hfn
                                have HFI9 := Lib.hid (HFI.out.trans hfn)
                                clear hfn
                                gi_wp2
                                go_wp2
                                go_roundw
                                case rel => exact ⟨j + 1, s', bv', by go_num, by have := HJM.out; omega, HFI9.out, HDR2.out, HST9.out, HDT9.out, HOWN9.out, HK9.out, HR9.out, HS9.out, HB9.out⟩
                                case measure => have := HJM.out; simp [intOf]; omega
                        case «at» =>
                          simp only [fldV] at hfc
                          go_upto_region 12 with (fail)
                          refine (wpIn_wide (n := 0)).1 ?_
                          refine wpIn_fix (.inl rfl) 6 [] (fun _ => wx.drew) (fun w' => w'.cell? ⟨lb, lo + 5 + j * 5, none⟩ = some (.int .i64 (vk : Nat)) ∧ w'.cell? ⟨lb, lo + 5 + j * 5 + 1, none⟩ = some (.string vt) ∧ w'.cell? ⟨lb, lo + 5 + j * 5 + 2, none⟩ = some (.int .i64 vn) ∧ w'.cell? ⟨lb, lo + 5 + j * 5 + 3, none⟩ = some (.int .i64 (va : Nat)) ∧ w'.cell? ⟨lb, lo + 5 + j * 5 + 4, none⟩ = some (.int .i64 (vl : Nat)))
                            [.func (.func 75) #[] #[], .iface 124 (.pointer (some ⟨bt, 4, none⟩)), .slice (some ⟨lb, lo + 5, none⟩) m (cap - 1), .int .i64 (j : Nat), .pointer (some ⟨lb, lo + 5 + j * 5, none⟩), wArg vk vt vn va vl]
                            (by kernel_rfl) (by kernel_rfl) rfl rfl rfl (fun _ _ => ⟨c0, c1, c2, c3, c4⟩) ?rest12
                          case rest12 =>
                            intro A hA
                            simp only [putVals, List.take, Act.put, List.setIfInBounds_toArray, List.set_cons_succ, List.set_cons_zero] at hA
                            subst hA
                            refine ⟨?_, fixWrites_nil, ?_⟩
                            · iterate 6
                                refine fixReads_cons rfl ?_ ?_
                                · intro w1 hw1 K Q hK
                                  obtain ⟨x0, x1, x2, x3, x4⟩ := hw1
                                  go_simp
                                  first
                                    | exact hK
                                    | (refine (fld_any (.«at») bt _).mono ?_; rintro e w' ⟨rfl, rfl⟩; exact hK)
                              exact fixReads_nil
                            · simp only [List.drop]
                              clear c0 c1 c2 c3 c4
                              gi_wp2_with fail
                              rename_i K hK
                              refine ⟨trivial, rfl, callsIn_wide.2 ((fill_fld (.«at») bt s (.slice none 0 0) bv vk vt vn va vl wx.drew HST.out HDT.out (fun g hg => (HOWN.out g hg).1)).mono ?_)⟩
                              rintro e w' ⟨rfl, hk9, bv', hst', hdt', hown'⟩
                              rw [← HS2.out.1] at hst' hdt'
                              rw [← HS2.out.2]
                              have hk9 : Keep [bt] wx w' := ((Keep.refl [bt] wx).drew).trans' hk9
                              have HK9 := Lib.hid (HKX.out.trans hk9 (fun x hx => by simp at hx; subst hx; exact .inr HBT.out.1))
                              have HST9 := Lib.hid hst'
                              have HDT9 := Lib.hid hdt'
                              have HOWN9 := Lib.hid (show ∀ g, bv'.ownBlock = some g → g ≠ bt ∧ W.heap.size ≤ g from fun g hg => by
                                rcases hown' g hg with h | h
                                · exact HOWN.out g h
                                · have h1 := lt_of_block HST.out
                                  have h2 : wx.heap.size ≤ g := h
                                  have h3 := HBT.out.1
                                  omega)
                              have HR9 := Lib.hid (HRX.out.keep hk9 (by have := HBT.out; simp; omega))
                              have HS9 := Lib.hid (HSX.out.keep hk9 (fun _ _ => by have := HBT.out; simp; omega))
                              have HB9 := Lib.hid (hk9.at_ HBX.out (by have := HBT.out; simp; omega))
                              clear hk9 hst' hdt' hown'
                              refine hK _ _ ?_
                              cases ok
                              · have hfn := HFI2.out
                                simp only [Bool.false_eq_true, if_false] at hfn
                                have HRD9 := Lib.hid (HRD.out.trans (HFI.out.trans hfn))
                                obtain ⟨W9, hs9, hb9, hl9, hk9⟩ := put_step br _ noStep w' HR9.out rfl rfl noStep_one
                                have HL9 := Lib.hid hl9
                                have HK9' := Lib.hid (HK9.out.trans hk9 (fun x hx => by simp at hx; subst hx; exact .inr (by have := HBR.out; omega)))
                                unfold noStep stV Stp.zero at hs9
                                clear hl9 hk9 hb9 hfn
                                gi_upto_region 13 with (fail)
                                go_wp2_with (with_reducible refine park_store 2 72 _ rfl ?_)
                                refine wpList_store_eq rfl _ (.tmp 2) (.tmp 72) rfl hs9 ?_
                                clear hs9
                                go_wp2
                                exact bodyPost_ret (results_step rfl _ _ br _ _ rfl rfl HL9.out) rfl ⟨HK9'.out, .inl ⟨HRD9.out, rfl⟩⟩
                              · have hfn := HFI2.out
                                simp only [if_true] at hfn
                                have HFI9 := Lib.hid (HFI.out.trans hfn)
                                clear hfn
                                gi_wp2
                                go_wp2
                                go_roundw
                                case rel => exact ⟨j + 1, s', bv', by go_num, by have := HJM.out; omega, HFI9.out, HDR2.out, HST9.out, HDT9.out, HOWN9.out, HK9.out, HR9.out, HS9.out, HB9.out⟩
                                case measure => have := HJM.out; simp [intOf]; omega
                        case num =>
                          simp only [fldV] at hfc
                          go_upto_region 12 with (fail)
                          refine (wpIn_wide (n := 0)).1 ?_
                          refine wpIn_fix (.inl rfl) 6 [] (fun _ => wx.drew) (fun w' => w'.cell? ⟨lb, lo + 5 + j * 5, none⟩ = some (.int .i64 (vk : Nat)) ∧ w'.cell? ⟨lb, lo + 5 + j * 5 + 1, none⟩ = some (.string vt) ∧ w'.cell? ⟨lb, lo + 5 + j * 5 + 2, none⟩ = some (.int .i64 vn) ∧ w'.cell? ⟨lb, lo + 5 + j * 5 + 3, none⟩ = some (.int .i64 (va : Nat)) ∧ w'.cell? ⟨lb, lo + 5 + j * 5 + 4, none⟩ = some (.int .i64 (vl : Nat)))
                            [.func (.func 77) #[] #[], .iface 124 (.pointer (some ⟨bt, 5, none⟩)), .slice (some ⟨lb, lo + 5, none⟩) m (cap - 1), .int .i64 (j : Nat), .pointer (some ⟨lb, lo + 5 + j * 5, none⟩), wArg vk vt vn va vl]
                            (by kernel_rfl) (by kernel_rfl) rfl rfl rfl (fun _ _ => ⟨c0, c1, c2, c3, c4⟩) ?rest12
                          case rest12 =>
                            intro A hA
                            simp only [putVals, List.take, Act.put, List.setIfInBounds_toArray, List.set_cons_succ, List.set_cons_zero] at hA
                            subst hA
                            refine ⟨?_, fixWrites_nil, ?_⟩
                            · iterate 6
                                refine fixReads_cons rfl ?_ ?_
                                · intro w1 hw1 K Q hK
                                  obtain ⟨x0, x1, x2, x3, x4⟩ := hw1
                                  go_simp
                                  first
                                    | exact hK
                                    | (refine (fld_any (.num) bt _).mono ?_; rintro e w' ⟨rfl, rfl⟩; exact hK)
                              exact fixReads_nil
                            · simp only [List.drop]
                              clear c0 c1 c2 c3 c4
                              gi_wp2_with fail
                              rename_i K hK
                              refine ⟨trivial, rfl, callsIn_wide.2 ((fill_fld (.num) bt s (.slice none 0 0) bv vk vt vn va vl wx.drew HST.out HDT.out (fun g hg => (HOWN.out g hg).1)).mono ?_)⟩
                              rintro e w' ⟨rfl, hk9, bv', hst', hdt', hown'⟩
                              rw [← HS2.out.1] at hst' hdt'
                              rw [← HS2.out.2]
                              have hk9 : Keep [bt] wx w' := ((Keep.refl [bt] wx).drew).trans' hk9
                              have HK9 := Lib.hid (HKX.out.trans hk9 (fun x hx => by simp at hx; subst hx; exact .inr HBT.out.1))
                              have HST9 := Lib.hid hst'
                              have HDT9 := Lib.hid hdt'
                              have HOWN9 := Lib.hid (show ∀ g, bv'.ownBlock = some g → g ≠ bt ∧ W.heap.size ≤ g from fun g hg => by
                                rcases hown' g hg with h | h
                                · exact HOWN.out g h
                                · have h1 := lt_of_block HST.out
                                  have h2 : wx.heap.size ≤ g := h
                                  have h3 := HBT.out.1
                                  omega)
                              have HR9 := Lib.hid (HRX.out.keep hk9 (by have := HBT.out; simp; omega))
                              have HS9 := Lib.hid (HSX.out.keep hk9 (fun _ _ => by have := HBT.out; simp; omega))
                              have HB9 := Lib.hid (hk9.at_ HBX.out (by have := HBT.out; simp; omega))
                              clear hk9 hst' hdt' hown'
                              refine hK _ _ ?_
                              cases ok
                              · have hfn := HFI2.out
                                simp only [Bool.false_eq_true, if_false] at hfn
                                have HRD9 := Lib.hid (HRD.out.trans (HFI.out.trans hfn))
                                obtain ⟨W9, hs9, hb9, hl9, hk9⟩ := put_step br _ noStep w' HR9.out rfl rfl noStep_one
                                have HL9 := Lib.hid hl9
                                have HK9' := Lib.hid (HK9.out.trans hk9 (fun x hx => by simp at hx; subst hx; exact .inr (by have := HBR.out; omega)))
                                unfold noStep stV Stp.zero at hs9
                                clear hl9 hk9 hb9 hfn
                                gi_upto_region 13 with (fail)
                                go_wp2_with (with_reducible refine park_store 2 72 _ rfl ?_)
                                refine wpList_store_eq rfl _ (.tmp 2) (.tmp 72) rfl hs9 ?_
                                clear hs9
                                go_wp2
                                exact bodyPost_ret (results_step rfl _ _ br _ _ rfl rfl HL9.out) rfl ⟨HK9'.out, .inl ⟨HRD9.out, rfl⟩⟩
                              · have hfn := HFI2.out
                                simp only [if_true] at hfn
                                have HFI9 := Lib.hid (HFI.out.trans hfn)
                                clear hfn
                                gi_wp2
                                go_wp2
                                go_roundw
                                case rel => exact ⟨j + 1, s', bv', by go_num, by have := HJM.out; omega, HFI9.out, HDR2.out, HST9.out, HDT9.out, HOWN9.out, HK9.out, HR9.out, HS9.out, HB9.out⟩
                                case measure => have := HJM.out; simp [intOf]; omega
                        case text =>
                          simp only [fldV] at hfc
                          go_upto_region 12 with (fail)
                          refine (wpIn_wide (n := 0)).1 ?_
                          refine wpIn_fix (.inl rfl) 6 [] (fun _ => wx.drew) (fun w' => w'.cell? ⟨lb, lo + 5 + j * 5, none⟩ = some (.int .i64 (vk : Nat)) ∧ w'.cell? ⟨lb, lo + 5 + j * 5 + 1, none⟩ = some (.string vt) ∧ w'.cell? ⟨lb, lo + 5 + j * 5 + 2, none⟩ = some (.int .i64 vn) ∧ w'.cell? ⟨lb, lo + 5 + j * 5 + 3, none⟩ = some (.int .i64 (va : Nat)) ∧ w'.cell? ⟨lb, lo + 5 + j * 5 + 4, none⟩ = some (.int .i64 (vl : Nat)))
                            [.func (.func 76) #[] #[], .iface 125 (.pointer (some ⟨bt, 6, none⟩)), .slice (some ⟨lb, lo + 5, none⟩) m (cap - 1), .int .i64 (j : Nat), .pointer (some ⟨lb, lo + 5 + j * 5, none⟩), wArg vk vt vn va vl]
                            (by kernel_rfl) (by kernel_rfl) rfl rfl rfl (fun _ _ => ⟨c0, c1, c2, c3, c4⟩) ?rest12
                          case rest12 =>
                            intro A hA
                            simp only [putVals, List.take, Act.put, List.setIfInBounds_toArray, List.set_cons_succ, List.set_cons_zero] at hA
                            subst hA
                            refine ⟨?_, fixWrites_nil, ?_⟩
                            · iterate 6
                                refine fixReads_cons rfl ?_ ?_
                                · intro w1 hw1 K Q hK
                                  obtain ⟨x0, x1, x2, x3, x4⟩ := hw1
                                  go_simp
                                  first
                                    | exact hK
                                    | (refine (fld_any (.text) bt _).mono ?_; rintro e w' ⟨rfl, rfl⟩; exact hK)
                              exact fixReads_nil
                            · simp only [List.drop]
                              clear c0 c1 c2 c3 c4
                              gi_wp2_with fail
                              rename_i K hK
                              refine ⟨trivial, rfl, callsIn_wide.2 ((fill_fld (.text) bt s (.slice none 0 0) bv vk vt vn va vl wx.drew HST.out HDT.out (fun g hg => (HOWN.out g hg).1)).mono ?_)⟩
                              rintro e w' ⟨rfl, hk9, bv', hst', hdt', hown'⟩
                              rw [← HS2.out.1] at hst' hdt'
                              rw [← HS2.out.2]
                              have hk9 : Keep [bt] wx w' := ((Keep.refl [bt] wx).drew).trans' hk9
                              have HK9 := Lib.hid (HKX.out.trans hk9 (fun x hx => by simp at hx; subst hx; exact .inr HBT.out.1))
                              have HST9 := Lib.hid hst'
                              have HDT9 := Lib.hid hdt'
                              have HOWN9 := Lib.hid (show ∀ g, bv'.ownBlock = some g → g ≠ bt ∧ W.heap.size ≤ g from fun g hg => by
                                rcases hown' g hg with h | h
                                · exact HOWN.out g h
                                · have h1 := lt_of_block HST.out
                                  have h2 : wx.heap.size ≤ g := h
                                  have h3 := HBT.out.1
                                  omega)
                              have HR9 := Lib.hid (HRX.out.keep hk9 (by have := HBT.out; simp; omega))
                              have HS9 := Lib.hid (HSX.out.keep hk9 (fun _ _ => by have := HBT.out; simp; omega))
                              have HB9 := Lib.hid (hk9.at_ HBX.out (by have := HBT.out; simp; omega))
                              clear hk9 hst' hdt' hown'
                              refine hK _ _ ?_
                              cases ok
                              · have hfn := HFI2.out
                                simp only [Bool.false_eq_true, if_false] at hfn
                                have HRD9 := Lib.hid (HRD.out.trans (HFI.out.trans hfn))
                                obtain ⟨W9, hs9, hb9, hl9, hk9⟩ := put_step br _ noStep w' HR9.out rfl rfl noStep_one
                                have HL9 := Lib.hid hl9
                                have HK9' := Lib.hid (HK9.out.trans hk9 (fun x hx => by simp at hx; subst hx; exact .inr (by have := HBR.out; omega)))
                                unfold noStep stV Stp.zero at hs9
                                clear hl9 hk9 hb9 hfn
                                gi_upto_region 13 with (fail)
                                go_wp2_with (with_reducible refine park_store 2 72 _ rfl ?_)
                                refine wpList_store_eq rfl _ (.tmp 2) (.tmp 72) rfl hs9 ?_
                                clear hs9
                                go_wp2
                                exact bodyPost_ret (results_step rfl _ _ br _ _ rfl rfl HL9.out) rfl ⟨HK9'.out, .inl ⟨HRD9.out, rfl⟩⟩
                              · have hfn := HFI2.out
                                simp only [if_true] at hfn
                                have HFI9 := Lib.hid (HFI.out.trans hfn)
                                clear hfn
                                gi_wp2
                                go_wp2
                                go_roundw
                                case rel => exact ⟨j + 1, s', bv', by go_num, by have := HJM.out; omega, HFI9.out, HDR2.out, HST9.out, HDT9.out, HOWN9.out, HK9.out, HR9.out, HS9.out, HB9.out⟩
                                case measure => have := HJM.out; simp [intOf]; omega
                        case data =>
                          simp only [fldV] at hfc
                          go_upto_region 12 with (fail)
                          refine (wpIn_wide (n := 0)).1 ?_
                          refine wpIn_fix (.inl rfl) 6 [] (fun _ => wx.drew) (fun w' => w'.cell? ⟨lb, lo + 5 + j * 5, none⟩ = some (.int .i64 (vk : Nat)) ∧ w'.cell? ⟨lb, lo + 5 + j * 5 + 1, none⟩ = some (.string vt) ∧ w'.cell? ⟨lb, lo + 5 + j * 5 + 2, none⟩ = some (.int .i64 vn) ∧ w'.cell? ⟨lb, lo + 5 + j * 5 + 3, none⟩ = some (.int .i64 (va : Nat)) ∧ w'.cell? ⟨lb, lo + 5 + j * 5 + 4, none⟩ = some (.int .i64 (vl : Nat)))
                            [.func (.func 80) #[] #[], .iface 126 (.pointer (some ⟨bt, 8, none⟩)), .slice (some ⟨lb, lo + 5, none⟩) m (cap - 1), .int .i64 (j : Nat), .pointer (some ⟨lb, lo + 5 + j * 5, none⟩), wArg vk vt vn va vl]
                            (by kernel_rfl) (by kernel_rfl) rfl rfl rfl (fun _ _ => ⟨c0, c1, c2, c3, c4⟩) ?rest12
                          case rest12 =>
                            intro A hA
                            simp only [putVals, List.take, Act.put, List.setIfInBounds_toArray, List.set_cons_succ, List.set_cons_zero] at hA
                            subst hA
                            refine ⟨?_, fixWrites_nil, ?_⟩
                            · iterate 6
                                refine fixReads_cons rfl ?_ ?_
                                · intro w1 hw1 K Q hK
                                  obtain ⟨x0, x1, x2, x3, x4⟩ := hw1
                                  go_simp
                                  first
                                    | exact hK
                                    | (refine (fld_any (.data) bt _).mono ?_; rintro e w' ⟨rfl, rfl⟩; exact hK)
                              exact fixReads_nil
                            · simp only [List.drop]
                              clear c0 c1 c2 c3 c4
                              gi_wp2_with fail
                              rename_i K hK
                              refine ⟨trivial, rfl, callsIn_wide.2 ((fill_fld (.data) bt s (.slice none 0 0) bv vk vt vn va vl wx.drew HST.out HDT.out (fun g hg => (HOWN.out g hg).1)).mono ?_)⟩
                              rintro e w' ⟨rfl, hk9, bv', hst', hdt', hown'⟩
                              rw [← HS2.out.1] at hst' hdt'
                              rw [← HS2.out.2]
                              have hk9 : Keep [bt] wx w' := ((Keep.refl [bt] wx).drew).trans' hk9
                              have HK9 := Lib.hid (HKX.out.trans hk9 (fun x hx => by simp at hx; subst hx; exact .inr HBT.out.1))
                              have HST9 := Lib.hid hst'
                              have HDT9 := Lib.hid hdt'
                              have HOWN9 := Lib.hid (show ∀ g, bv'.ownBlock = some g → g ≠ bt ∧ W.heap.size ≤ g from fun g hg => by
                                rcases hown' g hg with h | h
                                · exact HOWN.out g h
                                · have h1 := lt_of_block HST.out
                                  have h2 : wx.heap.size ≤ g := h
                                  have h3 := HBT.out.1
                                  omega)
                              have HR9 := Lib.hid (HRX.out.keep hk9 (by have := HBT.out; simp; omega))
                              have HS9 := Lib.hid (HSX.out.keep hk9 (fun _ _ => by have := HBT.out; simp; omega))
                              have HB9 := Lib.hid (hk9.at_ HBX.out (by have := HBT.out; simp; omega))
                              clear hk9 hst' hdt' hown'
                              refine hK _ _ ?_
                              cases ok
                              · have hfn := HFI2.out
                                simp only [Bool.false_eq_true, if_false] at hfn
                                have HRD9 := Lib.hid (HRD.out.trans (HFI.out.trans hfn))
                                obtain ⟨W9, hs9, hb9, hl9, hk9⟩ := put_step br _ noStep w' HR9.out rfl rfl noStep_one
                                have HL9 := Lib.hid hl9
                                have HK9' := Lib.hid (HK9.out.trans hk9 (fun x hx => by simp at hx; subst hx; exact .inr (by have := HBR.out; omega)))
                                unfold noStep stV Stp.zero at hs9
                                clear hl9 hk9 hb9 hfn
                                gi_upto_region 13 with (fail)
                                go_wp2_with (with_reducible refine park_store 2 72 _ rfl ?_)
                                refine wpList_store_eq rfl _ (.tmp 2) (.tmp 72) rfl hs9 ?_
                                clear hs9
                                go_wp2
                                exact bodyPost_ret (results_step rfl _ _ br _ _ rfl rfl HL9.out) rfl ⟨HK9'.out, .inl ⟨HRD9.out, rfl⟩⟩
                              · have hfn := HFI2.out
                                simp only [if_true] at hfn
                                have HFI9 := Lib.hid (HFI.out.trans hfn)
                                clear hfn
                                gi_wp2
                                go_wp2
                                go_roundw
                                case rel => exact ⟨j + 1, s', bv', by go_num, by have := HJM.out; omega, HFI9.out, HDR2.out, HST9.out, HDT9.out, HOWN9.out, HK9.out, HR9.out, HS9.out, HB9.out⟩
                                case measure => have := HJM.out; simp [intOf]; omega
                      · obtain rfl : j = m := by omega
                        have g1 := dec_lt_f (show ¬ (j : Int) < (j : Int) by omega)
                        have g2 := dec_ltn_f hlt2
                        have HRD9 := Lib.hid (show rd ((1, wt, wn, wa, wl) :: L) = some s by
                          rw [HRD.out, HFI.out, List.drop_of_length_le (by rw [← HFL.out]; omega)]
                          rfl)
                        have hld : (Instr.loadAt 40 (.pointer (some ⟨bt, 0, none⟩))).run Tryz.prog wx = .ok (.agg (stV s (.slice none 0 0) bv)) wx := load_row (P := Tryz.prog) Tryz.underlying40 rfl step_info HST.out rfl
                        obtain ⟨lo2, hsl2, _⟩ := wd_tail (lb := lb) (lo := lo1) (n := j) (cap := cap - 1) (k := j) (Nat.le_refl _) (by have := HM.out; have := HN.out; omega) (i := (j : Int)) rfl
                        rw [Nat.sub_self] at hsl2
                        have q2 : wx.cell? ⟨bh, 2, none⟩ = some (.slice ad j j) := by rw [← HTS.out]; exact cell_of_block HBX.out 2
                        obtain ⟨W9, hs9, hb9, hl9, hk9⟩ := put_step br _ (stV s (.slice none 0 0) bv) wx HRX.out rfl rfl (by
                          rcases HDT.out with ⟨h, _⟩ | ⟨g, c, h, _⟩ <;> rw [h] <;> simp [stV, Value.oneCell'])
                        have HL9 := Lib.hid hl9
                        have HK9 := Lib.hid (HKX.out.trans hk9 (fun x hx => by simp at hx; subst hx; exact .inr (by have := HBR.out; omega)))
                        have HDT9 := Lib.hid (HDT.out.keep hk9 (fun g hg => by
                          rcases HDT.out with ⟨h, _⟩ | ⟨g2, c, h, hB⟩
                          · rw [h] at hg; simp [Value.ownBlock] at hg
                          · rw [h] at hg
                            simp [Value.ownBlock] at hg
                            subst hg
                            intro hm
                            simp at hm
                            subst hm
                            obtain ⟨c1, m1, hb1, _⟩ := hB
                            have := Option.some.inj (hb1.symm.trans HRX.out)
                            injection this with _ ht _
                            exact absurd ht (by decide)))
                        clear hl9 hk9 hb9
                        go_upto_region 16 with (fail)
                        go_loopw [80] (fun iv wy => iv = .int .i64 0 ∧ wy = wx) (fun _ _ => 1)
                        case atStart => exact ⟨rfl, rfl⟩
                        case round =>
                          obtain ⟨rfl, hwy⟩ := hrel
                          subst hwy
                          go_wp2_with (with_reducible refine park_load 6 _ rfl ?_)
                          refine wpList_load_eq rfl _ (.tmp 6) rfl hld ?_
                          unfold stV at hs9
                          go_wp2_with (with_reducible refine park_store 2 102 _ rfl ?_)
                          refine wpList_store_eq rfl _ (.tmp 2) (.tmp 102) rfl hs9 ?_
                          clear hs9
                          go_wp2
                          refine bodyPost_ret (results_step rfl _ _ br _ _ rfl rfl HL9.out) rfl ⟨HK9.out, .inr ⟨s, .slice none 0 0, bv, HRD9.out, rfl, HDT9.out, fun g hg => (HOWN.out g hg).2, ?_⟩⟩
                          rw [HDR.out]
                          exact World.ownsRow_nil _ _ _ _
        · have hnx := Lib.hid (show noRow (1, wt, wn, wa, wl) (i + 1) from fun k hk => by
            by_cases hki : k < i
            · exact HNO.out k hki
            · obtain rfl : k = i := by omega
              exact fun h => hwt (h.2.trans HTW.out.symm))
          have g8 : (wt.toList == tw.toList) = false := str_ne hwt
          clear hwt
          go_upto_region 4 with (fail)
          refine (wpIn_wide (n := 0)).1 ?_
          refine wpIn_fix (.inl rfl) 13 [] (fun _ => w2.drew) (fun w' => w'.cell? ⟨lb, lo, none⟩ = some (.int .i64 1) ∧ w'.cell? ⟨lb, lo + 1, none⟩ = some (.string wt) ∧ w'.cell? ⟨bh, 1, none⟩ = some (.string tw))
            [.slice (some ⟨lb, lo, none⟩) n cap, .pointer (some ⟨lb, lo, none⟩), .pointer (some ⟨lb, lo, none⟩), .int .i64 1, .bool false, .bool false, .slice (some ⟨lb, lo, none⟩) n cap, .pointer (some ⟨lb, lo, none⟩), .pointer (some ⟨lb, lo + 1, none⟩), .string wt, .pointer (some ⟨bh, 1, none⟩), .string tw, .bool true]
            (by kernel_rfl) (by kernel_rfl) rfl rfl rfl (fun _ _ => ⟨q0, q1, q3⟩) ?rest4
          case rest4 =>
            intro A hA
            simp only [putVals, List.take, Act.put, List.setIfInBounds_toArray, List.set_cons_succ, List.set_cons_zero] at hA
            subst hA
            refine ⟨?_, fixWrites_nil, ?_⟩
            · iterate 13
                refine fixReads_on rfl ?_ ?_
                · intro w1 hw1 K Q hK
                  obtain ⟨x1, x2, x3⟩ := hw1
                  go_simp
                  exact hK
              exact fixReads_nil
            · simp only [List.drop]
              gi_wp2
              go_wp2
              go_roundw
              case rel => exact ⟨i + 1, rfl, by go_num, by omega, hnx.out, HK2.out.drew, HS2.out, HR2.out⟩
              case measure => simp [intOf]; omega
      · have hnx := Lib.hid (show noRow (wk, wt, wn, wa, wl) (i + 1) from fun k hk => by
          by_cases hki : k < i
          · exact HNO.out k hki
          · exact fun h => hk1 h.1)
        have g8 : ((wk : Int) != 1) = true := by simp; omega
        have g9 : (wk != 1) = true := by simp; omega
        clear hk1
        go_upto_region 4 with (fail)
        refine (wpIn_wide (n := 0)).1 ?_
        refine wpIn_fix (.inl rfl) 13 [] (fun _ => w2.drew) (fun w' => w'.cell? ⟨lb, lo, none⟩ = some (.int .i64 (wk : Nat)))
          [.slice (some ⟨lb, lo, none⟩) n cap, .pointer (some ⟨lb, lo, none⟩), .pointer (some ⟨lb, lo, none⟩), .int .i64 (wk : Nat), .bool true, .bool true, undef, undef, undef, undef, undef, undef, undef]
          (by kernel_rfl) (by kernel_rfl) rfl rfl rfl (fun _ _ => q0) ?rest4
        case rest4 =>
          intro A hA
          simp only [putVals, List.take, Act.put, List.setIfInBounds_toArray, List.set_cons_succ, List.set_cons_zero] at hA
          subst hA
          refine ⟨?_, fixWrites_nil, ?_⟩
          · iterate 6
              refine fixReads_on rfl ?_ ?_
              · intro w1 hw1 K Q hK
                go_simp
                exact hK
            iterate 7
              refine fixReads_out rfl rfl ?_
            exact fixReads_nil
          · simp only [List.drop]
            gi_wp2
            go_wp2
            go_roundw
            case rel => exact ⟨i + 1, rfl, by go_num, by omega, hnx.out, HK2.out.drew, HS2.out, HR2.out⟩
            case measure => simp [intOf]; omega
    · have g1 := dec_lt_f (show ¬ (i : Int) < 14 by omega)
      have g2 := dec_ltn_f hlt
      have hrd : rd (w0 :: L) = none := by
        have key : ∀ (m j : Nat), j + m = 14 → kindF w0 m j = none := by
          intro m
          induction m with
          | zero => intro j _; rfl
          | succ m ih =>
            intro j hj
            unfold kindF
            rw [if_neg (fun h => HNO.out j (by omega) ⟨h.1, ByteArray.ext h.2⟩)]
            exact ih (j + 1) (by omega)
        unfold rd
        simp only [key 14 0 rfl]
      have HRD := Lib.hid hrd
      obtain ⟨W9, hs9, hb9, hl9, hk9⟩ := put_step br _ noStep wr HRS.out rfl rfl noStep_one
      have HL9 := Lib.hid hl9
      have HK9 := Lib.hid (HKR.out.trans hk9 (fun x hx => by simp at hx; subst hx; exact .inr (by have := HBR.out; omega)))
      unfold noStep stV Stp.zero at hs9
      clear hrd hl9 hk9 hb9 hlt
      go_wp2_with (with_reducible refine park_store 2 104 _ rfl ?_)
      refine wpList_store_eq rfl _ (.tmp 2) (.tmp 104) rfl hs9 ?_
      clear hs9
      go_wp2
      exact bodyPost_ret (results_step rfl _ _ br _ _ rfl rfl HL9.out) rfl ⟨HK9.out, .inl ⟨HRD.out, rfl⟩⟩
end Go.Proofs.YtbidppjhenfjdaaGreatDoor
