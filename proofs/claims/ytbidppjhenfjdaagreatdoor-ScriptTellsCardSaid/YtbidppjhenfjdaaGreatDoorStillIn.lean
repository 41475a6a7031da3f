/-
  A drawn region within a round of a range over a function: its head only reads, its tail is forced.
-/
import Derived.Test.YtbidppjhenfjdaaGreatDoorIter
import Derived.StillTailTactics
import Derived.OrdersIn
namespace Go.Proofs.YtbidppjhenfjdaaGreatDoor
open Go.RowKit
set_option linter.unusedVariables false

section
variable {P : Program} {ops : Array Oper} {md : Region.Mode} {w : World} {l₀ m : Nat}

theorem round_of_still {o : Oper} {a : Act} {K : Act → Prop} {K' : Act → World → Prop} {Q' : Exit → Act → World → Prop} (h : ∀ a, K a → K' a w) (hh : o.still P a w K) : o.wpIn (Fence.wide.inRound l₀) m P a w K' Q' := by
  unfold Oper.still at hh
  refine ⟨fun f _ => trivial, ?_⟩
  have hd : ∀ c, o.op ≠ .defer c := by
    intro c hc
    unfold execOp at hh
    simp only [hc] at hh
    rw [Sem.run_bind] at hh
    generalize (resolve a.eval c o.type).run P w = r at hh
    cases r <;> simp [Result.andThen, Sem.run_pure, Oper.stillUpon] at hh
  rw [Oper.semAt_eq _ _ _ hd]
  generalize (execOp a.eval o).run P w = r at *
  cases r with
  | ok n w' =>
    cases n <;> simp only [Oper.stillUpon] at hh
    case value v => obtain ⟨rfl, hn⟩ := hh; exact h _ hn
    case skip => obtain ⟨rfl, hn⟩ := hh; exact h _ hn
    case enter f args =>
      obtain ⟨rfl, v, hc, hn⟩ := hh
      refine ⟨fun hx => by simp [Fence.wide, Fence.inRound] at hx, ?_⟩
      have := (callsIn_wide (n := m - 1)).2 hc
      have h2 : CallsIn (Fence.wide.inRound l₀) (m - 1) P f args w' (fun e w'' => e = .returned v ∧ w'' = w') := this
      exact h2.mono fun e w'' ⟨he, hw⟩ => by subst he; subst hw; exact h _ hn
  | halt x w' => simp only [Oper.stillUpon] at hh

theorem roundOp_of_stOp {i : Nat} {a : Act} {K : Act → Prop} {K' : Act → World → Prop} {Q' : Exit → Act → World → Prop} (h : ∀ a, K a → K' a w) (hh : stOp P ops w i K a) : wpOpIn (Fence.wide.inRound l₀) m P ops Q' i K' a w := by
  unfold stOp at hh
  unfold wpOpIn
  split
  · rename_i ho; simp only [ho] at hh; exact h _ hh
  · rename_i o ho
    simp only [ho] at hh
    split
    · rename_i hw; simp only [hw, if_true] at hh; exact round_of_still h hh
    · rename_i hw; simp only [hw] at hh; exact ⟨fun f _ => trivial, h _ hh⟩

theorem roundAny_of_head {n g : Nat} {L : Array Bool → Act → Prop} {Q' : Exit → Act → World → Prop} (hL : ∀ listed a, L listed a → wpAnyIn (Fence.wide.inRound l₀) m P md ops Q' g listed a w) :
    ∀ (f : Nat) (listed : Array Bool) (a : Act), wpAnyL P md ops w n L f listed a → wpAnyIn (Fence.wide.inRound l₀) m P md ops Q' (f + g) listed a w
  | 0, listed, a, h => by rw [Nat.zero_add]; exact hL _ _ h
  | f + 1, listed, a, h => by
    rw [show f + 1 + g = (f + g) + 1 by omega]
    exact ⟨fun h0 => absurd h0 h.1, fun i hi => roundOp_of_stOp (fun a' h' => roundAny_of_head hL f _ a' h') (h.2 i hi).2⟩

theorem roundAny_of_seq {Q' : Exit → Act → World → Prop} : ∀ (l : List Oper) (k : Nat) (listed : Array Bool) (a : Act) (w : World), (∀ j, l[j]? = ops[k + j]?) →
    Region.seqB md ops l.length k listed = true → wpListIn (Fence.wide.inRound l₀) m P ops Q' l a w → wpAnyIn (Fence.wide.inRound l₀) m P md ops Q' l.length listed a w
  | [], _, _, _, _, _, hB, h => ⟨by simpa [Region.seqB] using hB, h⟩
  | o :: l, k, listed, a, w, hl, hB, h => by
    have h0 : ops[k]? = some o := by simpa using (hl 0).symm
    simp only [List.length_cons, Region.seqB, Bool.and_eq_true, decide_eq_true_eq] at hB
    refine ⟨fun h1 => (by rw [hB.1] at h1; cases h1), fun i hi => ?_⟩
    rw [hB.1] at hi
    have hik : i = k := by simpa using hi
    subst hik
    have hw : wpOpIn (Fence.wide.inRound l₀) m P ops Q' i (wpListIn (Fence.wide.inRound l₀) m P ops Q' l) a w := by unfold wpOpIn; simp only [h0]; exact h
    refine wpOpIn_mono (fun a' w' h' => roundAny_of_seq l (i + 1) _ a' w' (fun j => by have := hl (j + 1); simpa [Nat.add_assoc, Nat.add_comm 1 j] using this) hB.2 h') hw

/-- A REGION IN A ROUND: n operations that only read, in whatever order, then a forced tail. -/
theorem wpIn_round_still_tail {id : Nat} {Q : Exit → Act → World → Prop} {a : Act} {w : World} {l : List Oper} (n : Nat) (hm : P.follows .mixedOrders = true) (hB : Region.lexTailB .any l.toArray n = true)
    (h : wpStill P l.toArray w.drew (fun a' => wpListIn (Fence.wide.inRound l₀) m P l.toArray Q (l.drop n) a' w.drew) (l.take n) a) : (Code.region id l.toArray true).wpIn (Fence.wide.inRound l₀) m P Q a w := by
  simp only [Region.lexTailB, Bool.and_eq_true, decide_eq_true_eq] at hB
  obtain ⟨⟨⟨⟨hsel, hn⟩, hs⟩, hc⟩, hlex⟩ := hB
  have hn' : n < l.length := by simpa using hn
  have htl : (l.take n).length = n := by simp; omega
  have hdl : (l.drop n).length = l.toArray.size - n := by simp
  have inv0 : HeadInv .any l.toArray n (Array.replicate l.toArray.size false) :=
    ⟨by simp, fun j oj _ hl => (by rw [getD_replicate_false] at hl; cases hl), fun t _ ht => getD_in (by simpa using ht) (getD_replicate_false _ _)⟩
  have H := wpAnyL_lex (md := .any) (g := l.toArray.size - n) hsel hs hc hn (l.take n) 0 _ a (fun j hj => by
    have hj' : j < n := by rw [htl] at hj; exact hj
    simp [hj']) (by simpa using htl) inv0 (by rw [htl]; exact hlex) h
  refine wpIn_region_any hm ?_
  have := roundAny_of_head (l₀ := l₀) (m := m) (Q' := Q) (g := l.toArray.size - n) (fun listed a' hL => by
    have := roundAny_of_seq (l₀ := l₀) (m := m) (md := .any) (Q' := Q) (l.drop n) n listed a' w.drew (fun j => by simp [List.getElem?_drop]) (by rw [hdl]; exact hL.1) hL.2
    rwa [hdl] at this) _ _ _ H
  rw [htl, show n + (l.toArray.size - n) = l.toArray.size by omega] at this
  exact this
/-- The same out of a round, with the draw's world in its own words. -/
theorem wp_still_tail_drew {id : Nat} {Q : Exit → Act → World → Prop} {a : Act} {w : World} {l : List Oper} (n : Nat) (hm : P.follows .mixedOrders = true) (hB : Region.lexTailB .any l.toArray n = true)
    (h : wpStill P l.toArray w.drew (fun a' => wpList P l.toArray Q (l.drop n) a' w.drew) (l.take n) a) : (Code.region id l.toArray true).wp P Q a w := wp_region_still_tail n hm hB h
/-- All orders come to one end. -/
theorem wpIn_one {F : Fence} {n : Nat} {c : Code} {Q : Exit → Act → World → Prop} {a : Act} {w : World} (h : ∃ A W, c.wpIn F n P (fun e a' w' => e = .normal ∧ a' = A ∧ w' = W) a w ∧ Q .normal A W) : c.wpIn F n P Q a w := by
  obtain ⟨A, W, h1, h2⟩ := h
  refine Code.wpIn_mono ?_ h1
  rintro e a' w' ⟨rfl, rfl, rfl⟩
  exact h2
end
end Go.Proofs.YtbidppjhenfjdaaGreatDoor
