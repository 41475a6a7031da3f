/-
  A drawn region each of whose operations yields one value in whatever order: reads, some writers that come one behind the other, then a forced tail.
-/
import Derived.Test.YtbidppjhenfjdaaGreatDoorStillIn
namespace Go.Proofs.YtbidppjhenfjdaaGreatDoor
open Go.RowKit
set_option linter.unusedVariables false
set_option linter.unusedSimpArgs false

section
variable {P : Program} {ops : Array Oper} {md : Region.Mode}

theorem getD_set_self {listed : Array Bool} {i : Nat} (h : i < listed.size) (d : Bool) : (listed.setIfInBounds i true).getD i d = true := by simp [h]

/-- The slots' values when the operations of L have been taken. -/
structure Slots (ops : Array Oper) (vals : Nat → Value) (a0 : Act) (L : Nat → Prop) (a : Act) : Prop where
  defers : a.defers = a0.defers
  size : a.tmps.size = a0.tmps.size
  done : ∀ j o d, L j → ops[j]? = some o → o.dst = some d → d < a0.tmps.size → a.tmps[d]? = some (vals j)
  rest : ∀ d, (∀ j o, L j → ops[j]? = some o → o.dst ≠ some d) → a.tmps[d]? = a0.tmps[d]?

def dstB (ops : Array Oper) : Bool := (List.range ops.size).all fun i => (List.range ops.size).all fun j => i == j || (match ops[i]?, ops[j]? with | some x, some y => x.dst.isNone || x.dst != y.dst | _, _ => true)
theorem dstB_spec (h : dstB ops = true) {i j d : Nat} {x y : Oper} (hi : ops[i]? = some x) (hj : ops[j]? = some y) (hx : x.dst = some d) (hy : y.dst = some d) : i = j := by
  have h1 := List.all_eq_true.1 h i (List.mem_range.2 (Array.getElem?_eq_some_iff.1 hi).1)
  have h2 := List.all_eq_true.1 h1 j (List.mem_range.2 (Array.getElem?_eq_some_iff.1 hj).1)
  simp only [hi, hj] at h2
  simpa [hx, hy] using h2

theorem Slots.step {vals : Nat → Value} {a0 a : Act} {L L' : Nat → Prop} (hd : dstB ops = true) {i : Nat} {o : Oper} (hi : ops[i]? = some o) (hL : ∀ j, L' j ↔ L j ∨ j = i) (h : Slots ops vals a0 L a) : Slots ops vals a0 L' (a.put o.dst (vals i)) := by
  cases hdst : o.dst with
  | none =>
    refine ⟨h.defers, h.size, fun j oj d hj hoj hdj hlt => ?_, fun d hr => h.rest d fun j oj hj hoj => hr j oj ((hL j).2 (.inl hj)) hoj⟩
    rcases (hL j).1 hj with hj | rfl
    · exact h.done j oj d hj hoj hdj hlt
    · rw [hi] at hoj; cases hoj; rw [hdst] at hdj; cases hdj
  | some e =>
    refine ⟨h.defers, by simp [Act.put, h.size], fun j oj d hj hoj hdj hlt => ?_, fun d hr => ?_⟩
    · by_cases hed : e = d
      · subst hed
        have : i = j := dstB_spec hd hi hoj hdst hdj
        subst this
        show (a.tmps.setIfInBounds e (vals i))[e]? = _
        rw [Array.getElem?_setIfInBounds_self_of_lt (by rw [h.size]; exact hlt)]
      · rcases (hL j).1 hj with hj | rfl
        · show (a.tmps.setIfInBounds e (vals i))[d]? = _
          rw [Array.getElem?_setIfInBounds_ne hed]
          exact h.done j oj d hj hoj hdj hlt
        · rw [hi] at hoj; cases hoj; rw [hdst] at hdj; simp at hdj; exact absurd hdj hed
    · have hed : e ≠ d := fun e' => hr i o ((hL i).2 (.inr rfl)) hi (by rw [hdst, e'])
      show (a.tmps.setIfInBounds e (vals i))[d]? = _
      rw [Array.getElem?_setIfInBounds_ne hed]
      exact h.rest d fun j oj hj hoj => hr j oj ((hL j).2 (.inl hj)) hoj

theorem Slots.one {vals : Nat → Value} {a0 a b : Act} {L : Nat → Prop} (ha : Slots ops vals a0 L a) (hb : Slots ops vals a0 L b) : a = b := by
  obtain ⟨ta, da⟩ := a
  obtain ⟨tb, db⟩ := b
  have h1 : da = db := ha.defers.trans hb.defers.symm
  have h2 : ta = tb := by
    refine Array.ext_getElem? fun d => ?_
    by_cases hex : ∃ j o, L j ∧ ops[j]? = some o ∧ o.dst = some d
    · obtain ⟨j, o, hj, ho, hd⟩ := hex
      rcases Nat.lt_or_ge d a0.tmps.size with hlt | hge
      · exact (ha.done j o d hj ho hd hlt).trans (hb.done j o d hj ho hd hlt).symm
      · have e1 := ha.size
        have e2 := hb.size
        simp only at e1 e2
        rw [Array.getElem?_eq_none (by omega), Array.getElem?_eq_none (by omega)]
    · have hno : ∀ j o, L j → ops[j]? = some o → o.dst ≠ some d := fun j o hj ho hd => hex ⟨j, o, hj, ho, hd⟩
      exact (ha.rest d hno).trans (hb.rest d hno).symm
  rw [h1, h2]

/-- One behind the other. -/
def putVals : Act → List Oper → List Value → Act
  | a, o :: l, v :: vs => putVals (a.put o.dst v) l vs
  | a, _, _ => a

theorem putVals_slots (hd : dstB ops = true) {a0 : Act} : ∀ (l : List Oper) (vs : List Value) (k : Nat) (vals : Nat → Value) (a : Act) (n : Nat), (∀ j, j < l.length → l[j]? = ops[k + j]?) → k + l.length = n → vs.length = l.length → (∀ j v, vs[j]? = some v → vals (k + j) = v) → n ≤ ops.size →
    Slots ops vals a0 (fun j => j < k) a → Slots ops vals a0 (fun j => j < n) (putVals a l vs)
  | [], vs, k, vals, a, n, _, hk, hv, _, _, h => by
    have : k = n := by simpa using hk
    subst this
    cases vs with
    | nil => exact h
    | cons v vs => simp at hv
  | o :: l, vs, k, vals, a, n, hl, hk, hv, hvs, hn, h => by
    cases vs with
    | nil => simp at hv
    | cons v vs =>
      have h0 : ops[k]? = some o := by simpa using (hl 0 (by simp)).symm
      have hv0 : vals k = v := by simpa using hvs 0 v rfl
      have hs := h.step (L' := fun j => j < k + 1) hd h0 (fun j => by omega)
      rw [hv0] at hs
      exact putVals_slots hd l vs (k + 1) vals _ n (fun j hj => by have := hl (j + 1) (by simp; omega); simpa [Nat.add_assoc, Nat.add_comm 1 j] using this) (by simp only [List.length_cons] at hk; omega) (by simpa using hv) (fun j u hu => by
        have := hvs (j + 1) u hu
        rwa [show k + 1 + j = k + (j + 1) by omega]) hn hs

/-- What an operation looks at has been brought forth by one for which it waits, or lies without the region. -/
def srcB (md : Region.Mode) (ops : Array Oper) : Bool := (List.range ops.size).all fun i => match ops[i]? with
  | some o => (o.looksAt ops).all fun t => (List.range ops.size).all fun j => match ops[j]? with | some x => x.dst != some t || Region.waitsFor md ops i j | none => true
  | none => true
theorem srcB_spec (h : srcB md ops = true) {i j t : Nat} {o x : Oper} (hi : ops[i]? = some o) (ht : t ∈ o.looksAt ops) (hj : ops[j]? = some x) (hx : x.dst = some t) : Region.waitsFor md ops i j = true := by
  have h1 := List.all_eq_true.1 h i (List.mem_range.2 (Array.getElem?_eq_some_iff.1 hi).1)
  simp only [hi] at h1
  have h2 := List.all_eq_true.1 (List.all_eq_true.1 h1 t ht) j (List.mem_range.2 (Array.getElem?_eq_some_iff.1 hj).1)
  simp only [hj] at h2
  simpa [hx] using h2

/-- Each operation waits only for ones that stand ahead of it. -/
def backB (md : Region.Mode) (ops : Array Oper) : Bool := (List.range ops.size).all fun i => match ops[i]? with | some o => o.after.all fun e => !Region.binds md e || decide (e.on < i) | none => true
theorem ready_some (hb : backB md ops = true) {listed : Array Bool} (hsz : listed.size = ops.size) : ∀ (i : Nat), i < ops.size → listed.getD i true = false → Region.ready md ops listed ≠ [] := by
  intro i
  induction i using Nat.strongRecOn with
  | _ i ih =>
    intro hi hun hr
    by_cases hall : ∀ e ∈ (ops[i]).after, Region.binds md e = true → listed.getD e.on false = true
    · have : i ∈ Region.ready md ops listed := mem_ready.2 ⟨hun, ops[i], Array.getElem?_eq_getElem hi, hall⟩
      rw [hr] at this
      cases this
    · obtain ⟨e, hn⟩ := Classical.not_forall.1 hall
      obtain ⟨he, hn⟩ := Classical.not_imp.1 hn
      obtain ⟨hbi, hn⟩ := Classical.not_imp.1 hn
      have h1 := List.all_eq_true.1 hb i (List.mem_range.2 hi)
      simp only [Array.getElem?_eq_getElem hi] at h1
      have h2 := Array.all_eq_true_iff_forall_mem.1 h1 e he
      simp only [hbi, Bool.not_true, Bool.false_or, decide_eq_true_eq] at h2
      exact ih e.on h2 (by omega) (getD_in (by omega) (by simpa using hn)) hr

/-- How many of the writers have been taken. -/
def phase (listed : Array Bool) : List Nat → Nat
  | [] => 0
  | i :: ws => if listed.getD i false = true then phase listed ws + 1 else 0
def chainWB (md : Region.Mode) (ops : Array Oper) : List Nat → Bool
  | i :: j :: ws => Region.waitsFor md ops j i && chainWB md ops (j :: ws)
  | _ => true

theorem phase_ne {listed : Array Bool} {i : Nat} : ∀ {ws : List Nat}, i ∉ ws → phase (listed.setIfInBounds i true) ws = phase listed ws
  | [], _ => rfl
  | j :: ws, h => by
    simp only [List.mem_cons, not_or] at h
    unfold phase
    rw [getD_set_ne false h.1, phase_ne h.2]
theorem phase_all {listed : Array Bool} : ∀ {ws : List Nat}, (∀ i ∈ ws, listed.getD i false = true) → phase listed ws = ws.length
  | [], _ => rfl
  | j :: ws, h => by
    unfold phase
    rw [if_pos (h j (by simp)), phase_all (fun i hi => h i (by simp [hi]))]
    rfl
theorem phase_le (listed : Array Bool) : ∀ ws : List Nat, phase listed ws ≤ ws.length
  | [] => Nat.le_refl _
  | j :: ws => by
    have := phase_le listed ws
    unfold phase
    rw [List.length_cons]
    split <;> omega
theorem waits_listed {listed : Array Bool} {i j : Nat} {oj : Oper} (hj : ops[j]? = some oj) (hw : Region.waitsFor md ops j i = true) (hall : ∀ e ∈ oj.after, Region.binds md e = true → listed.getD e.on false = true) : listed.getD i false = true := by
  obtain ⟨o', ho', e, he, hb, hon⟩ := Region.waitsFor_spec hw
  rw [hj] at ho'
  cases ho'
  rw [← hon]
  exact hall e he hb
/-- A writer that may come next: all ahead of it have come, and none behind. -/
theorem phase_at {n : Nat} {listed : Array Bool} (inv : HeadInv md ops n listed) {i : Nat} {oi : Oper} (hi : ops[i]? = some oi) (hr : i ∈ Region.ready md ops listed) : ∀ (m : Nat) (ws : List Nat), chainWB md ops ws = true → ws.Nodup → ws[m]? = some i →
    phase listed ws = m ∧ phase (listed.setIfInBounds i true) ws = m + 1 ∧ ∀ x, ws[0]? = some x → m ≠ 0 → listed.getD x false = true
  | m, [], _, _, h => by simp at h
  | 0, [x], _, _, h => by
    simp at h
    subst h
    have hun := (mem_ready.1 hr).1
    have hlt : x < listed.size := by rw [inv.size]; exact (Array.getElem?_eq_some_iff.1 hi).1
    refine ⟨by unfold phase; rw [if_neg (by rw [getD_both hun]; decide)], by unfold phase; rw [if_pos (getD_set_self hlt _)]; rfl, fun _ _ h => absurd rfl h⟩
  | m + 1, [x], _, _, h => by simp at h
  | 0, x :: y :: ws, hc, hnd, h => by
    simp at h
    subst h
    simp only [chainWB, Bool.and_eq_true] at hc
    obtain ⟨h1, _, hall⟩ := mem_ready.1 hr
    have hlt : x < listed.size := by rw [inv.size]; exact (Array.getElem?_eq_some_iff.1 hi).1
    refine ⟨by unfold phase; rw [if_neg (by rw [getD_both h1]; decide)], ?_, fun _ _ h => absurd rfl h⟩
    have hxy : x ≠ y := by simp at hnd; exact hnd.1.1
    have hy : listed.getD y false = false := by
      refine Bool.eq_false_iff.2 fun hy => ?_
      obtain ⟨oy, hoy, e, he, hb, hon⟩ := Region.waitsFor_spec hc.1
      have := inv.closed y oy hoy hy e he hb
      rw [hon, getD_both h1] at this
      cases this
    unfold phase
    rw [if_pos (getD_set_self hlt _)]
    unfold phase
    rw [getD_set_ne false hxy, if_neg (by rw [hy]; decide)]
  | m + 1, x :: y :: ws, hc, hnd, h => by
    simp only [chainWB, Bool.and_eq_true] at hc
    have hnd' := List.nodup_cons.1 hnd
    simp only [List.getElem?_cons_succ] at h
    obtain ⟨h1, h2, h3⟩ := phase_at inv hi hr m (y :: ws) hc.2 hnd'.2 h
    have hx : listed.getD x false = true := by
      by_cases hm : m = 0
      · subst hm
        simp at h
        subst h
        obtain ⟨_, o, ho, hall⟩ := mem_ready.1 hr
        exact waits_listed ho hc.1 hall
      · have hy := h3 y rfl hm
        obtain ⟨oy, hoy, _⟩ := Region.waitsFor_spec hc.1
        exact waits_listed hoy hc.1 (fun e he hb => inv.closed y oy hoy hy e he hb)
    have hne : i ≠ x := fun e => by
      subst e
      exact hnd'.1 (List.mem_of_getElem? h)
    refine ⟨?_, ?_, fun z hz _ => by simp at hz; subst hz; exact hx⟩
    · unfold phase; rw [if_pos hx, h1]
    · unfold phase; rw [getD_set_ne false hne, if_pos hx, h2]

theorem anyIn_of_seq {F : Fence} {m : Nat} {Q' : Exit → Act → World → Prop} : ∀ (l : List Oper) (k : Nat) (listed : Array Bool) (a : Act) (w : World), (∀ j, l[j]? = ops[k + j]?) →
    Region.seqB md ops l.length k listed = true → wpListIn F m P ops Q' l a w → wpAnyIn F m P md ops Q' l.length listed a w
  | [], _, _, _, _, _, hB, h => ⟨by simpa [Region.seqB] using hB, h⟩
  | o :: l, k, listed, a, w, hl, hB, h => by
    have h0 : ops[k]? = some o := by simpa using (hl 0).symm
    simp only [List.length_cons, Region.seqB, Bool.and_eq_true, decide_eq_true_eq] at hB
    refine ⟨fun h1 => (by rw [hB.1] at h1; cases h1), fun i hi => ?_⟩
    rw [hB.1] at hi
    have hik : i = k := by simpa using hi
    subst hik
    have hw : wpOpIn F m P ops Q' i (wpListIn F m P ops Q' l) a w := by unfold wpOpIn; simp only [h0]; exact h
    refine wpOpIn_mono (fun a' w' h' => anyIn_of_seq l (i + 1) _ a' w' (fun j => by have := hl (j + 1); simpa [Nat.add_assoc, Nat.add_comm 1 j] using this) hB.2 h') hw

def WideF (F : Fence) : Prop := F = Fence.wide ∨ ∃ l, F = Fence.wide.inRound l

/-- An operation that ends in the act A, in the world w'. -/
def Ends (P : Program) (ops : Array Oper) (o : Oper) (A : Act) (w w' : World) : Prop :=
  if Region.wanted o (yielded ops A.tmps) = true then o.wp P A w (fun a1 w1 => a1 = A ∧ w1 = w') (fun _ _ _ => False) else A.put o.dst undef = A ∧ w' = w

theorem put_same {A a : Act} {dst : Option Tmp} {u v : Value} (h : A.put dst u = A) (hv : ∀ d, dst = some d → d < A.tmps.size → A.tmps[d]? = some v) (hs : a.tmps.size = A.tmps.size) : a.put dst u = a.put dst v := by
  cases dst with
  | none => rfl
  | some d =>
    rcases Nat.lt_or_ge d A.tmps.size with hlt | hge
    · have h1 := hv d rfl hlt
      rw [← h] at h1
      simp only [Act.put] at h1
      rw [Array.getElem?_setIfInBounds_self_of_lt hlt] at h1
      cases h1
      rfl
    · simp only [Act.put]
      rw [Array.setIfInBounds_eq_of_size_le (by omega), Array.setIfInBounds_eq_of_size_le (by omega)]

theorem opIn_of_ends {F : Fence} {m : Nat} {Q' : Exit → Act → World → Prop} (hF : WideF F) {i : Nat} {o : Oper} (hi : ops[i]? = some o) (hns : ∀ cs b, o.op ≠ .select cs b) {A a : Act} {w w' : World} {v : Value} {K : Act → World → Prop}
    (hE : Ends P ops o A w w') (hl : ∀ t ∈ o.looksAt ops, a.tmps[t]? = A.tmps[t]?) (hs : a.tmps.size = A.tmps.size) (hv : ∀ d, o.dst = some d → d < A.tmps.size → A.tmps[d]? = some v) (hK : K (a.put o.dst v) w') : wpOpIn F m P ops Q' i K a w := by
  have hfn : ∀ f, F.fn f := by rcases hF with rfl | ⟨l, rfl⟩ <;> exact fun _ => trivial
  have hdep : F.depth.isSome = true → 1 ≤ m := by rcases hF with rfl | ⟨l, rfl⟩ <;> (intro h; simp [Fence.wide] at h)
  have hcalls : ∀ {g args W R}, Calls P g args W R → CallsIn F (m - 1) P g args W R := by
    intro g args W R hc
    have := (callsIn_wide (n := m - 1)).2 hc
    rcases hF with rfl | ⟨l', rfl⟩ <;> exact this
  have hx : execOp a.eval o = execOp A.eval o := execOp_congr o hns fun x hx => by
    cases x with
    | tmp t =>
      have := hl t (by unfold Oper.looksAt; exact List.mem_append_left _ (List.mem_filterMap.2 ⟨.tmp t, by simpa using hx, rfl⟩))
      simp [Act.eval, this]
    | _ => rfl
  have hwant : Region.wanted o (yielded ops a.tmps) = Region.wanted o (yielded ops A.tmps) := by
    unfold Region.wanted
    cases hg : o.guard with
    | none => rfl
    | some gw =>
      obtain ⟨g, want⟩ := gw
      have hy : yielded ops a.tmps g = yielded ops A.tmps g := by
        unfold yielded
        cases ht : (ops[g]?).bind (·.dst) with
        | none => rfl
        | some t =>
          have := hl t (by simp [Oper.looksAt, hg, ht])
          simp [this]
      simp only [hy]
  have hput : ∀ u, A.put o.dst u = A → K (a.put o.dst u) w' := fun u hu => by rw [put_same hu hv hs]; exact hK
  unfold wpOpIn
  simp only [hi]
  unfold Ends at hE
  rw [hwant]
  split
  · rename_i hw
    rw [if_pos hw] at hE
    refine ⟨fun f _ => hfn f, ?_⟩
    unfold Oper.wp at hE
    have hd : ∀ c, o.op ≠ .defer c := by
      intro c hc
      unfold execOp at hE
      simp only [hc] at hE
      rw [Sem.run_bind] at hE
      generalize (resolve A.eval c o.type).run P w = r at hE
      cases r with
      | ok d w1 =>
        simp only [Result.andThen, Sem.run_pure, Oper.upon] at hE
        obtain ⟨h1, _⟩ := hE
        have h2 := congrArg (fun a => a.defers.length) h1
        cases hdst : o.dst <;> simp [hdst, Act.put] at h2
      | halt x w1 =>
        simp only [Result.andThen] at hE
        cases x <;> simp only [Oper.upon] at hE
    rw [Oper.semAt_eq _ _ _ hd, hx]
    generalize (execOp A.eval o).run P w = r at *
    cases r with
    | ok x w1 =>
      cases x <;> simp only [Oper.upon] at hE
      case value u => obtain ⟨h1, rfl⟩ := hE; exact hput u h1
      case skip => obtain ⟨h1, rfl⟩ := hE; exact hput _ h1
      case defer d =>
        obtain ⟨h1, _⟩ := hE
        have h2 := congrArg (fun a => a.defers.length) h1
        cases hdst : o.dst <;> simp [hdst, Act.put] at h2
      case enter f args =>
        refine ⟨hdep, (hcalls hE).mono ?_⟩
        intro e w2 he
        cases e with
        | returned u => obtain ⟨h1, rfl⟩ := he; exact hput u h1
        | panicked c => exact he.elim
        | outgrown => obtain ⟨_, _, h⟩ := he; exact h.elim
      case row row args =>
        have hr : RowsIn Fence.wide (m - 1) P row args w1 fun u w2 => K (a.put o.dst u) w2 := fun c cs _ =>
          let ⟨u, w2, r, s⟩ := hE c cs
          ⟨u, w2, by obtain ⟨h1, rfl⟩ := r; exact hput u h1, stepsIn_wide.2 s⟩
        rcases hF with rfl | ⟨l', rfl⟩ <;> exact ⟨hdep, hr⟩
    | halt x w1 => cases x <;> simp only [Oper.upon] at hE
  · rename_i hw
    rw [if_neg hw] at hE
    obtain ⟨h1, rfl⟩ := hE
    exact ⟨fun f _ => hfn f, hput _ h1⟩

/-- What the reading operations give, in each world of a class. -/
def fixReads (P : Program) (ops : Array Oper) (A : Act) (C : World → Prop) (ws : List Nat) : List Oper → Nat → Prop
  | [], _ => True
  | o :: l, i => (if ws.contains i = true then True else ∀ w, C w → Ends P ops o A w w) ∧ fixReads P ops A C ws l (i + 1)
theorem fixReads_at {A : Act} {C : World → Prop} {ws : List Nat} : ∀ {l : List Oper} {k i : Nat} {o : Oper}, fixReads P ops A C ws l k → l[i]? = some o → k + i ∉ ws → ∀ w, C w → Ends P ops o A w w
  | [], _, _, _, _, h, _ => by simp at h
  | x :: l, k, 0, o, h, ho, hw => by
    simp at ho
    subst ho
    have := h.1
    rwa [if_neg (by simpa using hw)] at this
  | x :: l, k, i + 1, o, h, ho, hw => fixReads_at h.2 (by simpa using ho) (by rwa [show k + 1 + i = k + (i + 1) by omega])
theorem fixReads_skip {A : Act} {C : World → Prop} {ws : List Nat} {o : Oper} {l : List Oper} {i : Nat} (h : ws.contains i = true) (hr : fixReads P ops A C ws l (i + 1)) : fixReads P ops A C ws (o :: l) i := ⟨by rw [if_pos h]; trivial, hr⟩
theorem fixReads_cons {A : Act} {C : World → Prop} {ws : List Nat} {o : Oper} {l : List Oper} {i : Nat} (hg : o.guard = none) (h : ∀ w, C w → ∀ (K : Act → World → Prop) (Q : Exit → Act → World → Prop), K A w → o.wp P A w K Q) (hr : fixReads P ops A C ws l (i + 1)) : fixReads P ops A C ws (o :: l) i := by
  refine ⟨?_, hr⟩
  split
  · trivial
  · intro w hw
    unfold Ends
    rw [if_pos (by simp [Region.wanted, hg])]
    exact h w hw _ _ ⟨rfl, rfl⟩
theorem fixReads_out {A : Act} {C : World → Prop} {ws : List Nat} {o : Oper} {l : List Oper} {i : Nat} (h : Region.wanted o (yielded ops A.tmps) = false) (hp : A.put o.dst undef = A) (hr : fixReads P ops A C ws l (i + 1)) : fixReads P ops A C ws (o :: l) i := by
  refine ⟨?_, hr⟩
  split
  · trivial
  · intro w hw
    unfold Ends
    rw [if_neg (by rw [h]; decide)]
    exact ⟨hp, rfl⟩
theorem fixReads_on {A : Act} {C : World → Prop} {ws : List Nat} {o : Oper} {l : List Oper} {i : Nat} (hg : Region.wanted o (yielded ops A.tmps) = true) (h : ∀ w, C w → ∀ (K : Act → World → Prop) (Q : Exit → Act → World → Prop), K A w → o.wp P A w K Q) (hr : fixReads P ops A C ws l (i + 1)) : fixReads P ops A C ws (o :: l) i := by
  refine ⟨?_, hr⟩
  split
  · trivial
  · intro w hw
    unfold Ends
    rw [if_pos hg]
    exact h w hw _ _ ⟨rfl, rfl⟩
theorem fixReads_nil {A : Act} {C : World → Prop} {ws : List Nat} {i : Nat} : fixReads P ops A C ws [] i := trivial
/-- What the writing ones do, one behind the other. -/
def fixWrites (P : Program) (ops : Array Oper) (A : Act) (W : Nat → World) : List Nat → Nat → Prop
  | [], _ => True
  | i :: ws, m => (∀ o, ops[i]? = some o → Ends P ops o A (W m) (W (m + 1))) ∧ fixWrites P ops A W ws (m + 1)
theorem fixWrites_cons {A : Act} {W : Nat → World} {i m : Nat} {ws : List Nat} {o : Oper} (ho : ops[i]? = some o) (hg : o.guard = none) (h : ∀ (K : Act → World → Prop) (Q : Exit → Act → World → Prop), K A (W (m + 1)) → o.wp P A (W m) K Q) (hr : fixWrites P ops A W ws (m + 1)) : fixWrites P ops A W (i :: ws) m := by
  refine ⟨fun o' ho' => ?_, hr⟩
  rw [ho] at ho'
  cases ho'
  unfold Ends
  rw [if_pos (by simp [Region.wanted, hg])]
  exact h _ _ ⟨rfl, rfl⟩
theorem fixWrites_nil {A : Act} {W : Nat → World} {m : Nat} : fixWrites P ops A W [] m := trivial
theorem fixWrites_at {A : Act} {W : Nat → World} : ∀ {ws : List Nat} {m k i : Nat} {o : Oper}, fixWrites P ops A W ws m → ws[k]? = some i → ops[i]? = some o → Ends P ops o A (W (m + k)) (W (m + k + 1))
  | [], _, _, _, _, _, h, _ => by simp at h
  | x :: ws, m, 0, i, o, h, hi, ho => by
    simp at hi
    subst hi
    exact h.1 o ho
  | x :: ws, m, k + 1, i, o, h, hi, ho => by
    have := fixWrites_at (k := k) h.2 (by simpa using hi) ho
    rwa [show m + 1 + k = m + (k + 1) by omega] at this

def fixB (md : Region.Mode) (ops : Array Oper) (n : Nat) (ws : List Nat) : Bool :=
  Region.noSelect ops && decide (n < ops.size) && Region.sinkB md ops n && Region.chainB md ops n && dstB ops && srcB md ops && backB md ops && chainWB md ops ws && decide ws.Nodup && (ws.all fun i => decide (i < n)) &&
    Region.seqB md ops (ops.size - n) n (((List.replicate n true) ++ (List.replicate (ops.size - n) false)).toArray)

/-- How many of the first n have not been taken. -/
def left (listed : Array Bool) : Nat → Nat
  | 0 => 0
  | n + 1 => left listed n + (if listed.getD n false = true then 0 else 1)
theorem left_zero {listed : Array Bool} : ∀ {n : Nat}, left listed n = 0 → ∀ i, i < n → listed.getD i false = true
  | 0, _, i, h => by omega
  | n + 1, h, i, hi => by
    unfold left at h
    by_cases e : i = n
    · subst e
      refine Classical.byContradiction fun hn => ?_
      rw [if_neg hn] at h
      omega
    · exact left_zero (n := n) (by omega) i (by omega)
theorem left_some {listed : Array Bool} : ∀ {n : Nat}, left listed n ≠ 0 → ∃ i, i < n ∧ listed.getD i false = false
  | 0, h => absurd rfl h
  | n + 1, h => by
    unfold left at h
    by_cases e : listed.getD n false = true
    · rw [if_pos e] at h
      obtain ⟨i, h1, h2⟩ := left_some (n := n) (by omega)
      exact ⟨i, by omega, h2⟩
    · exact ⟨n, by omega, by simpa using e⟩
theorem left_set {listed : Array Bool} {i : Nat} (hi : i < listed.size) (hu : listed.getD i false = false) : ∀ {n : Nat}, left listed n = left (listed.setIfInBounds i true) n + (if i < n then 1 else 0)
  | 0 => by simp [left]
  | n + 1 => by
    have ih := left_set hi hu (n := n)
    unfold left
    by_cases e : i = n
    · subst e
      rw [getD_set_self hi, hu, if_neg (by decide), if_pos rfl, if_pos (by omega)]
      rw [if_neg (by omega)] at ih
      omega
    · rw [getD_set_ne false e]
      split <;> split <;> (rename_i h1 h2; split at ih <;> omega)

/-- append, by the equation on its run. -/
theorem wp_append_eq {o : Oper} {a : Act} {w w' : World} {K : Act → World → Prop} {Q : Exit → Act → World → Prop} (s x : Operand) (t : TypeId) (hop : o.op = Op.call { callee := Callee.builtin Builtin.append, args := #[s, x], argTypes := #[t, t] })
    {v xv v' : Value} (hs : a.eval s = v) (hx : a.eval x = xv) (hrun : (Builtin.append_ #[t, t] o.type #[v, xv]).run P w = .ok v' w') (hK : K (a.put o.dst v') w') : o.wp P a w K Q := by
  unfold Oper.wp
  simp [execOp, hop, resolve, invoke, builtin, hs, hx, hrun, Result.andThen]
  exact hK

/-- A REGION THAT DRAWS, each of whose operations yields its own value in whatever order: n of them, of which those of ws write, one behind the other; then a forced tail. -/
theorem wpIn_fix {F : Fence} {m id : Nat} {Q : Exit → Act → World → Prop} {a : Act} {w : World} {l : List Oper} (hF : WideF F) (n : Nat) (ws : List Nat) (W : Nat → World) (C : World → Prop) (vals : List Value) (hm : P.follows .mixedOrders = true) (hB : fixB .any l.toArray n ws = true) (hvl : vals.length = n)
    (h0 : W 0 = w.drew) {Wn : World} (hWn : W ws.length = Wn) (hC : ∀ k, k ≤ ws.length → C (W k))
    (h : ∀ A, putVals a (l.take n) vals = A → fixReads P l.toArray A C ws (l.take n) 0 ∧ fixWrites P l.toArray A W ws 0 ∧ wpListIn F m P l.toArray Q (l.drop n) A Wn) : (Code.region id l.toArray true).wpIn F m P Q a w := by
  subst hWn
  obtain ⟨A, hA0⟩ : ∃ A, putVals a (l.take n) vals = A := ⟨_, rfl⟩
  obtain ⟨hreads, hwrites, htail⟩ := h A hA0
  simp only [fixB, Bool.and_eq_true, decide_eq_true_eq] at hB
  obtain ⟨⟨⟨⟨⟨⟨⟨⟨⟨⟨hsel, hn⟩, hs⟩, hc⟩, hdst⟩, hsrc⟩, hback⟩, hcw⟩, hnd⟩, hwn⟩, hseq⟩ := hB
  have hwn : ∀ i ∈ ws, i < n := fun i hi => by simpa using List.all_eq_true.1 hwn i hi
  have hn' : n < l.length := by simpa using hn
  have htl : (l.take n).length = n := by simp; omega
  have hsz : l.toArray.size = l.length := by simp
  have hdl : (l.drop n).length = l.toArray.size - n := by simp
  have hA : Slots l.toArray (fun j => vals.getD j undef) a (fun j => j < n) (putVals a (l.take n) vals) := by
    refine putVals_slots hdst (l.take n) vals 0 _ a n (fun j hj => ?_) (by rw [htl]; omega) (by rw [htl, hvl]) (fun j v hv => ?_) (by omega) ⟨rfl, rfl, fun _ _ _ h => absurd h (Nat.not_lt_zero _), fun _ _ => rfl⟩
    · rw [htl] at hj
      simp [hj]
    · simp [List.getD, hv]
  rw [hA0] at hA
  have main : ∀ (u : Nat) (listed : Array Bool) (b : Act), left listed n = u → HeadInv .any l.toArray n listed → Slots l.toArray (fun j => vals.getD j undef) a (fun j => listed.getD j false = true) b →
      wpAnyIn F m P .any l.toArray Q (u + (l.drop n).length) listed b (W (phase listed ws)) := by
    intro u
    induction u with
    | zero =>
      intro listed b hu inv hb
      have hall := left_zero hu
      rw [phase_all (fun i hi => hall i (hwn i hi)), Nat.zero_add]
      have hlist : listed = ((List.replicate n true) ++ (List.replicate (l.toArray.size - n) false)).toArray := by
        refine Array.ext (by simp [inv.size]; omega) fun i h1 h2 => ?_
        have h1' := inv.size
        rcases Nat.lt_or_ge i n with hi | hi
        · have := hall i hi
          simp only [Array.getD_eq_getD_getElem?, Array.getElem?_eq_getElem h1, Option.getD_some] at this
          simp [List.getElem_append, hi, this]
        · have := inv.tail i hi (by omega)
          simp only [Array.getD_eq_getD_getElem?, Array.getElem?_eq_getElem h1, Option.getD_some] at this
          simp [List.getElem_append, this, show ¬ i < n by omega]
      have hba : b = A := by
        refine Slots.one (L := fun j => j < n) ?_ hA
        refine ⟨hb.defers, hb.size, fun j o d hj => hb.done j o d (hall j hj), fun d hr => hb.rest d fun j o hj ho => hr j o ?_ ho⟩
        refine Classical.byContradiction fun hge => ?_
        have := inv.tail j (by omega) (Array.getElem?_eq_some_iff.1 ho).1
        have h3 := getD_both this
        rw [hj] at h3
        cases h3
      subst hba
      refine anyIn_of_seq (l.drop n) n listed b _ (fun j => by simp [List.getElem?_drop]) ?_ htail
      rw [hdl, hlist]
      exact hseq
    | succ u ih =>
      intro listed b hu inv hb
      rw [show u + 1 + (l.drop n).length = (u + (l.drop n).length) + 1 by omega]
      obtain ⟨x, hx, hxu⟩ := left_some (listed := listed) (n := n) (by omega)
      have hxu' := getD_in (by rw [inv.size]; omega) hxu
      refine ⟨fun hr => absurd hr (ready_some hback inv.size x (by omega) hxu'), fun i hi => ?_⟩
      obtain ⟨hiu, o, ho, hall⟩ := mem_ready.1 hi
      have hin : i < n := Classical.byContradiction fun hge => tail_waits hs hc hn inv _ x rfl hx hxu' i (by omega) hi
      have hlo : l[i]? = some o := by simpa using ho
      have hto : (l.take n)[i]? = some o := by simp [hin, hlo]
      have hsz' : i < listed.size := by rw [inv.size]; exact (Array.getElem?_eq_some_iff.1 ho).1
      have hleft : left (listed.setIfInBounds i true) n = u := by
        have := left_set hsz' (getD_both hiu) (n := n)
        rw [if_pos hin] at this
        omega
      have hstep : Slots l.toArray (fun j => vals.getD j undef) a (fun j => (listed.setIfInBounds i true).getD j false = true) (b.put o.dst (vals.getD i undef)) := by
        refine hb.step hdst ho fun j => ?_
        by_cases e : i = j
        · subst e; simp [hsz']
        · rw [getD_set_ne false e]
          exact ⟨fun h => .inl h, fun h => h.resolve_right (fun h => e h.symm)⟩
      have hsame : ∀ t ∈ o.looksAt l.toArray, b.tmps[t]? = A.tmps[t]? := by
        intro t ht
        by_cases hex : ∃ (j : Nat) (x : Oper), l.toArray[j]? = some x ∧ x.dst = some t
        · obtain ⟨j, x, hj, hxd⟩ := hex
          have hw := srcB_spec hsrc ho ht hj hxd
          have hjl := waits_listed ho hw hall
          have hjn : j < n := by
            refine Classical.byContradiction fun hge => ?_
            have h3 := getD_both (inv.tail j (by omega) (Array.getElem?_eq_some_iff.1 hj).1)
            rw [hjl] at h3
            cases h3
          rcases Nat.lt_or_ge t a.tmps.size with hlt | hge
          · exact (hb.done j x t hjl hj hxd hlt).trans (hA.done j x t hjn hj hxd hlt).symm
          · rw [Array.getElem?_eq_none (by rw [hb.size]; exact hge), Array.getElem?_eq_none (by rw [hA.size]; exact hge)]
        · exact (hb.rest t fun j x _ hj hd => hex ⟨j, x, hj, hd⟩).trans (hA.rest t fun j x _ hj hd => hex ⟨j, x, hj, hd⟩).symm
      have hval : ∀ d, o.dst = some d → d < A.tmps.size → A.tmps[d]? = some (vals.getD i undef) := fun d hd hlt => hA.done i o d hin ho hd (by rw [← hA.size]; exact hlt)
      by_cases hiw : i ∈ ws
      · obtain ⟨k, hk, hke⟩ := List.mem_iff_getElem.1 hiw
        have hke' : ws[k]? = some i := by rw [List.getElem?_eq_getElem hk, hke]
        obtain ⟨p1, p2, _⟩ := phase_at inv ho hi k ws hcw hnd hke'
        have hE := fixWrites_at hwrites hke' ho
        rw [Nat.zero_add] at hE
        rw [p1]
        refine opIn_of_ends hF ho (fun cs bb => Region.noSelect_spec hsel i o cs bb ho) hE hsame (hb.size.trans hA.size.symm) hval ?_
        have := ih (listed.setIfInBounds i true) _ hleft (inv.set hi hin) hstep
        rwa [p2] at this
      · have hE := fixReads_at hreads hto (by rwa [Nat.zero_add]) (W (phase listed ws)) (hC _ (phase_le listed ws))
        refine opIn_of_ends hF ho (fun cs bb => Region.noSelect_spec hsel i o cs bb ho) hE hsame (hb.size.trans hA.size.symm) hval ?_
        have := ih (listed.setIfInBounds i true) _ hleft (inv.set hi hin) hstep
        rwa [phase_ne hiw] at this
  refine wpIn_region_any hm ?_
  have inv0 : HeadInv .any l.toArray n (Array.replicate l.toArray.size false) :=
    ⟨by simp, fun j oj _ hl => (by rw [getD_replicate_false] at hl; cases hl), fun t _ ht => getD_in (by simpa using ht) (getD_replicate_false _ _)⟩
  have hl0 : ∀ k, left (Array.replicate l.toArray.size false) k = k := by
    intro k
    induction k with
    | zero => rfl
    | succ k ih => unfold left; rw [ih, getD_replicate_false, if_neg (by decide)]
  have hp0 : phase (Array.replicate l.toArray.size false) ws = 0 := by
    cases ws with
    | nil => rfl
    | cons x ws => unfold phase; rw [getD_replicate_false, if_neg (by decide)]
  have := main n (Array.replicate l.toArray.size false) a (hl0 n) inv0 ⟨rfl, rfl, fun j o d hj => (by rw [getD_replicate_false] at hj; cases hj), fun _ _ => rfl⟩
  rw [hp0, h0, hdl, show n + (l.toArray.size - n) = l.toArray.size by omega] at this
  exact this
end
end Go.Proofs.YtbidppjhenfjdaaGreatDoor
