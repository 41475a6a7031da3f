/-
  An operation as words.
-/
import Derived.Test.YtbidppjhenfjdaaGreatDoorSMB
import Derived.Test.YtbidppjhenfjdaaGreatDoorSMA
import Derived.Test.YtbidppjhenfjdaaGreatDoorSMS
import Derived.Test.YtbidppjhenfjdaaGreatDoorQuoG
import Derived.Test.YtbidppjhenfjdaaGreatDoorSl
import Derived.Deep.Slices
import Derived.ChangeSame
import Derived.OpenShut
import Derived.ChangeSlices
import Derived.Deep.DeepHandedRow
namespace Go.Proofs.YtbidppjhenfjdaaGreatDoor
open Go.RowKit
set_option linter.unusedVariables false
set_option linter.unusedSimpArgs false

/-- A field's letter, and a kind's shape. -/
def fldL : Fld → Nat
  | .site => 115
  | .peer => 112
  | .at => 97
  | .num => 110
  | .text => 116
  | .data => 100
def shB (k : Nat) : ByteArray := ⟨((tabF k).map fun f => UInt8.ofNat (fldL f)).toArray⟩
theorem shB_size (k : Nat) : (shB k).size = (tabF k).length := by
  show (((tabF k).map fun f => UInt8.ofNat (fldL f)).toArray).size = _
  simp
def nameB (k : Int) : ByteArray := if 1 ≤ k ∧ k ≤ 14 then tabW k.toNat else ByteArray.empty
set_option maxHeartbeats 4000000 in
set_option maxRecDepth 100000 in
theorem rname_any (k : Int) (W : World) : Calls Tryz.prog 27 #[.int .i64 k] W fun e W' => e = .returned (.string (nameB k)) ∧ Keep [] W W' := by
  go_enter Tryz.func27, Tryz.ntmps27
  go_upto_region 2 with (fail)
  obtain ⟨w1, hw1⟩ : ∃ w1, w1 = W.alloc (.cells #[.string ⟨#[]⟩, .string ⟨#[105, 110, 115, 101, 114, 116]⟩, .string ⟨#[100, 101, 108, 101, 116, 101]⟩, .string ⟨#[106, 111, 105, 110]⟩, .string ⟨#[108, 101, 97, 118, 101]⟩, .string ⟨#[115, 116, 111, 112]⟩, .string ⟨#[116, 105, 99, 107]⟩, .string ⟨#[100, 101, 108, 105, 118, 101, 114]⟩, .string ⟨#[100, 114, 111, 112]⟩, .string ⟨#[100, 111, 117, 98, 108, 101]⟩, .string ⟨#[97, 108, 116, 101, 114]⟩, .string ⟨#[99, 117, 116]⟩, .string ⟨#[116, 101, 120, 116]⟩, .string ⟨#[115, 105, 103, 104, 116]⟩, .string ⟨#[99, 111, 112, 105, 101, 115]⟩] 9) := ⟨_, rfl⟩
  have hk1 : Keep [] W w1 := by rw [hw1]; exact (Keep.refl _ _).alloc _
  have hb1 : w1.heap[W.heap.size]? = some (.cells #[.string ⟨#[]⟩, .string ⟨#[105, 110, 115, 101, 114, 116]⟩, .string ⟨#[100, 101, 108, 101, 116, 101]⟩, .string ⟨#[106, 111, 105, 110]⟩, .string ⟨#[108, 101, 97, 118, 101]⟩, .string ⟨#[115, 116, 111, 112]⟩, .string ⟨#[116, 105, 99, 107]⟩, .string ⟨#[100, 101, 108, 105, 118, 101, 114]⟩, .string ⟨#[100, 114, 111, 112]⟩, .string ⟨#[100, 111, 117, 98, 108, 101]⟩, .string ⟨#[97, 108, 116, 101, 114]⟩, .string ⟨#[99, 117, 116]⟩, .string ⟨#[116, 101, 120, 116]⟩, .string ⟨#[115, 105, 103, 104, 116]⟩, .string ⟨#[99, 111, 112, 105, 101, 115]⟩] 9 (0, 0)) := by rw [hw1]; exact World.alloc_heap_new W _
  rw [← hw1]
  obtain ⟨g, hg⟩ : ∃ g, g = W.heap.size := ⟨_, rfl⟩
  rw [← hg] at hb1 ⊢
  have HK1 := Lib.hid hk1
  have HB1 := Lib.hid hb1
  clear hw1 hk1 hb1 hg
  by_cases h1 : k < 1
  · have HN := Lib.hid (show nameB k = ByteArray.empty from if_neg (by omega))
    have g1 := dec_lt_t h1
    clear h1
    go_wp2
    go_ret
    exact ⟨by rw [HN.out]; rfl, HK1.out⟩
  · by_cases h2 : 15 ≤ k
    · have HN := Lib.hid (show nameB k = ByteArray.empty from if_neg (by omega))
      have g1 := dec_lt_f h1
      have g2 : decide ((15 : Int) ≤ k) = true := decide_eq_true h2
      clear h1 h2
      go_wp2
      go_ret
      exact ⟨by rw [HN.out]; rfl, HK1.out⟩
    · obtain ⟨i, rfl⟩ : ∃ i : Nat, k = i := ⟨k.toNat, by omega⟩
      have hi1 : 1 ≤ i := by omega
      have hi2 : i < 15 := by omega
      have g1 := dec_lt_f h1
      have g2 : decide ((15 : Int) ≤ (i : Int)) = false := decide_eq_false h2
      have hc : w1.cell? ⟨g, i, none⟩ = some (.string (tabW i)) := by
        rw [cell_of_block HB1.out]
        match i, hi1, hi2 with
        | 1, _, _ => rfl
        | 2, _, _ => rfl
        | 3, _, _ => rfl
        | 4, _, _ => rfl
        | 5, _, _ => rfl
        | 6, _, _ => rfl
        | 7, _, _ => rfl
        | 8, _, _ => rfl
        | 9, _, _ => rfl
        | 10, _, _ => rfl
        | 11, _, _ => rfl
        | 12, _, _ => rfl
        | 13, _, _ => rfl
        | 14, _, _ => rfl
      have HN := Lib.hid (show nameB (i : Int) = tabW i by
        unfold nameB
        rw [if_pos (by omega)]
        rfl)
      clear h1 h2 hi1
      generalize tabW i = x at hc HN
      go_wp2
      go_ret
      exact ⟨by rw [HN.out]; rfl, HK1.out⟩
set_option maxHeartbeats 16000000 in
set_option maxRecDepth 100000 in
theorem rshape_any (k : Nat) (W : World) (h1 : 1 ≤ k) (h2 : k ≤ 14) : Calls Tryz.prog 53 #[.int .i64 (k : Nat)] W fun e W' => e = .returned (.string (shB k)) ∧ Keep [] W W' := by
  have hc : k = 1 ∨ k = 2 ∨ k = 3 ∨ k = 4 ∨ k = 5 ∨ k = 6 ∨ k = 7 ∨ k = 8 ∨ k = 9 ∨ k = 10 ∨ k = 11 ∨ k = 12 ∨ k = 13 ∨ k = 14 := by omega
  clear h1 h2
  rcases hc with rfl | rfl | rfl | rfl | rfl | rfl | rfl | rfl | rfl | rfl | rfl | rfl | rfl | rfl
  all_goals
    go_enter Tryz.func53, Tryz.ntmps53
    go_wp2
    go_ret
    exact ⟨rfl, Keep.refl _ _⟩
end Go.Proofs.YtbidppjhenfjdaaGreatDoor
namespace Go.Proofs.YtbidppjhenfjdaaGreatDoor
open Go.RowKit
set_option linter.unusedVariables false
set_option linter.unusedSimpArgs false

inductive Plan where
  | done
  | take (i : Nat) (p : Plan)
  | force (i : Nat) (p : Plan)
  | fork (i j : Nat) (p q : Plan)
section
variable {P : Program} {ops : Array Oper} {md : Region.Mode} {C : World → Prop} {Q : Exit → Act → World → Prop}
def Plan.len : Plan → Nat
  | .done => 0
  | .take _ p => p.len + 1
  | .force _ p => p.len + 1
  | .fork _ _ p _ => p.len + 1
def planB (md : Region.Mode) (ops : Array Oper) : Plan → Array Bool → Bool
  | .done, listed => decide (Region.ready md ops listed = [])
  | .take i p, listed => Region.free md ops listed i && (Region.ready md ops listed).contains i && planB md ops p (listed.setIfInBounds i true)
  | .force i p, listed => decide (Region.ready md ops listed = [i]) && planB md ops p (listed.setIfInBounds i true)
  | .fork i j p q, listed => decide (Region.ready md ops listed = [i, j]) && decide (p.len = q.len) && planB md ops p (listed.setIfInBounds i true) && planB md ops q (listed.setIfInBounds j true)
def wpPlan (P : Program) (ops : Array Oper) (C : World → Prop) (Q : Exit → Act → World → Prop) : Plan → Act → World → Prop
  | .done, a, w => Q .normal a w
  | .take i p, a, w => ∃ o v, ops[i]? = some o ∧ YieldsC P ops C o v a ∧ wpPlan P ops C Q p (a.put o.dst v) w
  | .force i p, a, w => Go.wpOp P ops Q i (fun a' w' => C w' ∧ wpPlan P ops C Q p a' w') a w
  | .fork i j p q, a, w => Go.wpOp P ops Q i (fun a' w' => C w' ∧ wpPlan P ops C Q p a' w') a w ∧ Go.wpOp P ops Q j (fun a' w' => C w' ∧ wpPlan P ops C Q q a' w') a w
theorem wpAnyC_of_plan (hs : Region.noSelect ops = true) (hQ : ∀ c a w, ¬ Q (.panic c) a w) : ∀ (p : Plan) (listed : Array Bool) (a : Act) (w : World), planB md ops p listed = true → C w → wpPlan P ops C Q p a w → wpAnyC P md ops C Q p.len listed a w
  | .done, listed, a, w, hB, hC, h => ⟨by simpa [planB] using hB, h⟩
  | .take i p, listed, a, w, hB, hC, h => by
    simp only [planB, Bool.and_eq_true] at hB
    obtain ⟨o, v, hi, hy, hr⟩ := h
    exact wpAnyC_take hi hs hQ _ listed a w (Region.free_spec hi hB.1.1) (by simpa using hB.1.2) hy hC (wpAnyC_of_plan hs hQ p _ _ w hB.2 hC hr)
  | .force i p, listed, a, w, hB, hC, h => by
    simp only [planB, Bool.and_eq_true, decide_eq_true_eq] at hB
    refine ⟨fun h1 => (by rw [hB.1] at h1; cases h1), fun j hj => ?_⟩
    rw [hB.1] at hj
    obtain rfl : j = i := by simpa using hj
    exact wpOp_mono (fun a' w' hh => ⟨hh.1, wpAnyC_of_plan hs hQ p _ a' w' hB.2 hh.1 hh.2⟩) h
  | .fork i j p q, listed, a, w, hB, hC, h => by
    simp only [planB, Bool.and_eq_true, decide_eq_true_eq] at hB
    obtain ⟨⟨⟨hr, hl⟩, hp⟩, hq⟩ := hB
    refine ⟨fun h1 => (by rw [hr] at h1; cases h1), fun k hk => ?_⟩
    rw [hr] at hk
    rcases List.mem_cons.1 hk with rfl | hk
    · exact wpOp_mono (fun a' w' hh => ⟨hh.1, wpAnyC_of_plan hs hQ p _ a' w' hp hh.1 hh.2⟩) h.1
    · obtain rfl : k = j := by simpa using hk
      refine wpOp_mono (fun a' w' hh => ⟨hh.1, ?_⟩) h.2
      have := wpAnyC_of_plan hs hQ q _ a' w' hq hh.1 hh.2
      rwa [← hl] at this
/-- A REGION THAT DRAWS, by a plan. -/
theorem wp_plan {id : Nat} {a : Act} {w : World} {l : List Oper} (C : World → Prop) (p : Plan) (hm : P.follows .mixedOrders = true) (hB : (Region.noSelect l.toArray && decide (p.len = l.length) && planB .any l.toArray p (Array.replicate l.toArray.size false)) = true)
    (hC : C w.drew) (h : ∀ Q0 : Exit → Act → World → Prop, (∀ a' w', Q .normal a' w' → Q0 .normal a' w') → wpPlan P l.toArray C Q0 p a w.drew) : (Code.region id l.toArray true).wp P Q a w := by
  simp only [Bool.and_eq_true, decide_eq_true_eq] at hB
  obtain ⟨⟨hs, hl⟩, hB⟩ := hB
  refine Code.wp_mono (Q := fun e a' w' => e = .normal ∧ Q .normal a' w') ?_ ?_
  · rintro e a' w' ⟨rfl, h⟩
    exact h
  · refine wp_region_any hm ?_
    have := wpAnyC_of_plan (P := P) (ops := l.toArray) (md := .any) (C := C) (Q := fun e a' w' => e = .normal ∧ Q .normal a' w') hs (fun c a w hh => by cases hh.1) p _ a w.drew hB hC (h _ (fun a' w' hh => ⟨rfl, hh⟩))
    rw [hl] at this
    exact wpAny_of_C _ _ _ _ this
theorem plan_take {a : Act} {w : World} {i : Nat} {p : Plan} {o : Oper} (hi : ops[i]? = some o) (hg : Region.wanted o (yielded ops a.tmps) = true) (v : Value) (hv : ∀ w, C w → ∀ (K : Act → World → Prop) (Q : Exit → Act → World → Prop), K (a.put o.dst v) w → o.wp P a w K Q) (hr : wpPlan P ops C Q p (a.put o.dst v) w) : wpPlan P ops C Q (.take i p) a w :=
  ⟨o, v, hi, ⟨hg, fun w hC => hv w hC _ _ ⟨rfl, rfl⟩⟩, hr⟩
theorem plan_force {a : Act} {w : World} {i : Nat} {p : Plan} {o : Oper} (hi : ops[i]? = some o) (hg : Region.wanted o (yielded ops a.tmps) = true) (h : ∀ K : Act → World → Prop, (∀ a' w', C w' → wpPlan P ops C Q p a' w' → K a' w') → o.wp P a w K Q) : wpPlan P ops C Q (.force i p) a w := by
  show Go.wpOp P ops Q i _ a w
  unfold Go.wpOp
  simp only [hi]
  rw [if_pos hg]
  exact .inl (h _ fun a' w' h1 h2 => ⟨h1, h2⟩)
theorem plan_fork {a : Act} {w : World} {i j : Nat} {p q : Plan} (h1 : wpPlan P ops C Q (.force i p) a w) (h2 : wpPlan P ops C Q (.force j q) a w) : wpPlan P ops C Q (.fork i j p q) a w := ⟨h1, h2⟩
theorem plan_takeL {l : List Oper} {a : Act} {w : World} {i : Nat} {p : Plan} {o : Oper} (hi : l[i]? = some o) (hg : Region.wanted o (yielded l.toArray a.tmps) = true) (v : Value) (hv : ∀ w, C w → ∀ (K : Act → World → Prop) (Q : Exit → Act → World → Prop), K (a.put o.dst v) w → o.wp P a w K Q) (hr : wpPlan P l.toArray C Q p (a.put o.dst v) w) : wpPlan P l.toArray C Q (.take i p) a w :=
  plan_take (by simpa using hi) hg v hv hr
theorem plan_forceL {l : List Oper} {a : Act} {w : World} {i : Nat} {p : Plan} {o : Oper} (hi : l[i]? = some o) (hg : Region.wanted o (yielded l.toArray a.tmps) = true) (h : ∀ K : Act → World → Prop, (∀ a' w', C w' → wpPlan P l.toArray C Q p a' w' → K a' w') → o.wp P a w K Q) : wpPlan P l.toArray C Q (.force i p) a w :=
  plan_force (by simpa using hi) hg h
end
end Go.Proofs.YtbidppjhenfjdaaGreatDoor
namespace Go.Proofs.YtbidppjhenfjdaaGreatDoor
open Go.RowKit
set_option linter.unusedVariables false
set_option linter.unusedSimpArgs false

theorem tabW_inj {i j : Nat} (h1 : 1 ≤ i) (h2 : i ≤ 14) (h3 : 1 ≤ j) (h4 : j ≤ 14) (h : tabW i = tabW j) : i = j := by
  have key : ∀ a b : Fin 15, 1 ≤ a.val → 1 ≤ b.val → tabW a.val = tabW b.val → a = b := by decide +kernel
  have := key ⟨i, by omega⟩ ⟨j, by omega⟩ h1 h3 h
  exact congrArg Fin.val this
/-- The kind found among those below k. -/
def FoundK (w0 : Nat × ByteArray × Int × Nat × Nat) (k fk : Nat) : Prop := (fk = 0 ∧ ∀ j, 1 ≤ j → j < k → ¬ (w0.1 = 1 ∧ w0.2.1 = tabW j)) ∨ (1 ≤ fk ∧ fk < k ∧ w0.1 = 1 ∧ w0.2.1 = tabW fk)
theorem FoundK.next {w0 : Nat × ByteArray × Int × Nat × Nat} {k fk : Nat} (h : FoundK w0 k fk) (hn : ¬ (w0.1 = 1 ∧ w0.2.1 = tabW k)) : FoundK w0 (k + 1) fk := by
  rcases h with ⟨h1, h2⟩ | ⟨h1, h2, h3, h4⟩
  · refine .inl ⟨h1, fun j hj hk => ?_⟩
    by_cases e : j = k
    · subst e; exact hn
    · exact h2 j hj (by omega)
  · exact .inr ⟨h1, by omega, h3, h4⟩
theorem FoundK.hit {w0 : Nat × ByteArray × Int × Nat × Nat} {k : Nat} (hk : 1 ≤ k) (h1 : w0.1 = 1) (h2 : w0.2.1 = tabW k) : FoundK w0 (k + 1) k := .inr ⟨hk, by omega, h1, h2⟩
theorem FoundK.some {w0 : Nat × ByteArray × Int × Nat × Nat} {fk : Nat} (h : FoundK w0 15 fk) (h0 : fk ≠ 0) : 1 ≤ fk ∧ fk ≤ 14 ∧ kindF w0 14 0 = some fk := by
  rcases h with ⟨h1, _⟩ | ⟨h1, h2, h3, h4⟩
  · exact absurd h1 h0
  · have := kindF_at (w0 := w0) (i := fk - 1) (by omega) (fun k hk hh => by
      have := tabW_inj (by omega) (by omega) (by omega) (by omega) (hh.2.symm.trans h4)
      omega) h3 (by rw [h4]; congr 1; omega)
    exact ⟨h1, by omega, by rw [this]; congr 1; omega⟩
theorem shB_byt {k j : Nat} (h : j < (tabF k).length) : byt (shB k) j = fldL (tabF k)[j] := by
  have hf : ∀ f : Fld, fldL f < 256 := fun f => by cases f <;> decide
  have hlt := hf (tabF k)[j]
  have e : (shB k).data[j]? = some (UInt8.ofNat (fldL (tabF k)[j])) := by
    show ((((tabF k).map fun f => UInt8.ofNat (fldL f)).toArray))[j]? = _
    simp [h]
  obtain ⟨h1, h2⟩ := Array.getElem?_eq_some_iff.1 e
  have hs : j < (shB k).size := by rw [shB_size]; exact h
  rw [← byt_at hs]
  show ((shB k).data[j]).toNat = _
  rw [h2]
  simp only [UInt8.toNat_ofNat']
  omega
end Go.Proofs.YtbidppjhenfjdaaGreatDoor
namespace Go.Proofs.YtbidppjhenfjdaaGreatDoor
open Go.RowKit
set_option linter.unusedVariables false
set_option linter.unusedSimpArgs false

section
variable {P : Program} {ops : Array Oper} {md : Region.Mode} {C : World → Prop} {Q : Exit → Act → World → Prop} {s : Nat}
/-- Operation s waits for every other one. -/
def lastB (md : Region.Mode) (ops : Array Oper) (s : Nat) : Bool :=
  match ops[s]? with
  | none => false
  | some o => (List.range ops.size).all fun k => k == s || o.after.any fun e => Region.binds md e && e.on == k
theorem lastB_spec (h : lastB md ops s = true) {listed : Array Bool} (hs : s ∈ Region.ready md ops listed) {i : Nat} (hi : i < ops.size) (hne : i ≠ s) : listed.getD i false = true := by
  obtain ⟨_, o, ho, hall⟩ := mem_ready.1 hs
  unfold lastB at h
  rw [ho] at h
  have h1 := List.all_eq_true.1 h i (List.mem_range.2 hi)
  simp only [Bool.or_eq_true, beq_iff_eq, hne, false_or, Array.any_eq_true, Bool.and_eq_true] at h1
  obtain ⟨k, hk, hb, he⟩ := h1
  have := hall _ (Array.getElem_mem hk) hb
  rwa [he] at this
end
end Go.Proofs.YtbidppjhenfjdaaGreatDoor
namespace Go.Proofs.YtbidppjhenfjdaaGreatDoor
open Go.RowKit
set_option linter.unusedVariables false
set_option linter.unusedSimpArgs false

def dgB (m : Nat) : ByteArray := ⟨(Lib.decDigits m).toArray⟩
theorem conv_b1 (W : World) (x : Nat) (hx : x < 256) : (convert 38 9 (.slice (some ⟨W.heap.size, 0, none⟩) 1 1)).run Tryz.prog (W.alloc (.cells #[.int .u8 (x : Int)] 5)) = .ok (.string ⟨#[UInt8.ofNat x]⟩) (W.alloc (.cells #[.int .u8 (x : Int)] 5)) := by
  have hb := World.alloc_heap_new W (.cells #[.int .u8 (x : Int)] 5)
  have hc := cell_of_block hb 0
  have := conv_bsl (W := W.alloc (.cells #[.int .u8 (x : Int)] 5)) (v := .slice (some ⟨W.heap.size, 0, none⟩) 1 1) (d := ⟨#[UInt8.ofNat x]⟩) ⟨some ⟨W.heap.size, 0, none⟩, 1, rfl, by simp [bytV], fun _ => ⟨W.heap.size, 0, rfl, fun i u hu => by
    have hi : i < 1 := (List.getElem?_eq_some_iff.1 hu).1
    obtain rfl : i = 0 := by omega
    have : byt ⟨#[UInt8.ofNat x]⟩ 0 = x := by
      show (UInt8.ofNat x).toNat = x
      simp only [UInt8.toNat_ofNat']
      omega
    rw [bytV_at (show 0 < (⟨#[UInt8.ofNat x]⟩ : ByteArray).size from Nat.zero_lt_one), this] at hu
    cases hu
    exact hc⟩⟩
  exact this
theorem dec_step (m : Nat) : Lib.decDigits m = (if m / 10 = 0 then [] else Lib.decDigits (m / 10)) ++ [UInt8.ofNat (48 + m % 10)] := by
  rw [Lib.decDigits]
  by_cases h : m < 10
  · rw [dif_pos h, if_pos (by omega), Nat.mod_eq_of_lt h]; rfl
  · rw [dif_neg h, if_neg (by omega)]
theorem conv_dg (W : World) (m : Nat) : (convert 38 9 (.slice (some ⟨W.heap.size, 0, none⟩) 1 1)).run Tryz.prog (W.alloc (.cells #[.int .u8 (48 + (m : Int) % 10)] 5)) = .ok (.string ⟨#[UInt8.ofNat (48 + m % 10)]⟩) (W.alloc (.cells #[.int .u8 (48 + (m : Int) % 10)] 5)) := by
  obtain ⟨y, hy⟩ : ∃ y, y = 48 + m % 10 := ⟨_, rfl⟩
  have e : 48 + (m : Int) % 10 = (y : Nat) := by omega
  rw [← hy, e]
  exact conv_b1 W y (by omega)
set_option maxHeartbeats 400000 in
set_option maxRecDepth 100000 in
theorem digits_any (m : Nat) (W : World) (hm : m ≤ 9223372036854775808) :
    Calls Tryz.prog 90 #[.int .i64 (-(m : Int))] W fun e W' => e = .returned (.string (dgB m)) ∧ Keep [] W W' := by
  have hd1 : (-(m : Int)).tmod 10 = -((m % 10 : Nat) : Int) := by rw [Int.neg_tmod]; rfl
  have hd2 : (-(m : Int)).tdiv 10 = -((m / 10 : Nat) : Int) := by rw [Int.neg_tdiv]; rfl
  have hcv := conv_dg W m
  have hk1 : Keep [] W (W.alloc (.cells #[.int .u8 (48 + (m : Int) % 10)] 5)) := (Keep.refl _ _).alloc _
  obtain ⟨x, hx⟩ : ∃ x : ByteArray, x = ⟨#[UInt8.ofNat (48 + m % 10)]⟩ := ⟨_, rfl⟩
  rw [← hx] at hcv
  have HI := Lib.hid (show Lib.decDigits m = (if m / 10 = 0 then [] else Lib.decDigits (m / 10)) ++ x.data.toList by rw [hx]; exact dec_step m)
  have HX := Lib.hid (show x.size = 1 by rw [hx]; rfl)
  have HK := Lib.hid hk1
  have HM := Lib.hid hm
  clear hk1 hx
  go_enter Tryz.func90, Tryz.ntmps90
  go_upto_region 2 with (fail)
  obtain ⟨w1, hw1⟩ : ∃ w1, w1 = W.alloc (.cells #[.int .u8 (48 + (m : Int) % 10)] 5) := ⟨_, rfl⟩
  rw [← hw1] at HK ⊢
  clear hcv hw1
  go_upto_region 3 with (fail)
  go_loopw [0, 3] (fun nv sv wr => ∃ (k : Nat) (t : ByteArray), nv = .int .i64 (-(k : Int)) ∧ sv = .string t ∧ k ≤ m ∧ Lib.decDigits m = (if k = 0 then [] else Lib.decDigits k) ++ t.data.toList ∧ Keep [] W wr) (fun nv _ _ => (intOf nv).natAbs)
  case atStart => exact ⟨m / 10, x, by go_num, rfl, by omega, HI.out, HK.out⟩
  case round =>
    rename World => wr
    obtain ⟨k, t, rfl, rfl, hk, heq, hkr⟩ := hrel
    have hts : t.size ≤ 20 := by
      have h1 := congrArg List.length heq
      rw [List.length_append] at h1
      have h2 := dec_len_lt (u := m) (by omega)
      have h3 : t.data.toList.length = t.size := Array.length_toList
      omega
    have HEQ := Lib.hid heq
    have HKR := Lib.hid hkr
    clear heq hkr HK HI HX
    by_cases h0 : k = 0
    · subst h0
      have HFIN := Lib.hid (show dgB m = t by
        unfold dgB
        rw [HEQ.out, if_pos rfl]
        apply ByteArray.ext
        simp)
      go_wp2
      go_ret
      exact ⟨by rw [HFIN.out]; rfl, HKR.out⟩
    · have hcv := conv_dg wr k
      obtain ⟨y, hy⟩ : ∃ y : ByteArray, y = ⟨#[UInt8.ofNat (48 + k % 10)]⟩ := ⟨_, rfl⟩
      rw [← hy] at hcv
      have g1 : decide (-(k : Int) < 0) = true := by simp; omega
      have hdk1 : (-(k : Int)).tmod 10 = -((k % 10 : Nat) : Int) := by rw [Int.neg_tmod]; rfl
      have hdk2 : (-(k : Int)).tdiv 10 = -((k / 10 : Nat) : Int) := by rw [Int.neg_tdiv]; rfl
      have HE2 := Lib.hid (show Lib.decDigits m = (if k / 10 = 0 then [] else Lib.decDigits (k / 10)) ++ (y ++ t).data.toList by
        rw [HEQ.out, if_neg h0, dec_step k, hy, ByteArray.data_append]
        simp)
      have HKA := Lib.hid (show Keep [] W (wr.alloc (.cells #[.int .u8 (48 + (k : Int) % 10)] 5)) from HKR.out.alloc _)
      have hys : y.size = 1 := by rw [hy]; rfl
      have hys2 : (y ++ t).size ≤ 21 := by rw [ByteArray.size_append]; omega
      have hkm : k / 10 ≤ m := by omega
      clear hy
      go_wp2
      go_roundw
      case rel => exact ⟨k / 10, _, by go_num, rfl, hkm, HE2.out, HKA.out⟩
      case measure => simp [intOf]; omega
theorem itB_pos {n : Int} (h : 0 ≤ n) : itB n = dgB n.toNat := by unfold itB dgB Lib.itoa; rw [if_neg (by omega)]
theorem itB_neg {n : Int} (h : n < 0) : itB n = ⟨#[45]⟩ ++ dgB n.natAbs := by
  unfold itB dgB Lib.itoa
  rw [if_pos h]
  apply ByteArray.ext
  rw [ByteArray.data_append]
  simp
set_option maxHeartbeats 400000 in
set_option maxRecDepth 100000 in
theorem refnum_any (n : Int) (W : World) (hn : I64 n) :
    Calls Tryz.prog 65 #[.int .i64 n] W fun e W' => e = .returned (.string (itB n)) ∧ Keep [] W W' := by
  have HN := Lib.hid hn
  clear hn
  by_cases h0 : 0 ≤ n
  · have g1 : decide (n ≥ 0) = true := by simpa using h0
    have g2 : decide (0 ≤ n) = true := by simpa using h0
    have HP := Lib.hid (itB_pos h0)
    obtain ⟨m, hm⟩ : ∃ m : Nat, n = (m : Int) := ⟨n.toNat, by omega⟩
    subst hm
    have hm2 : m < 9223372036854775808 := by have := HN.out.2; omega
    have HD := Lib.hid (fun w => digits_any m w (by omega))
    clear h0
    go_enter Tryz.func65, Tryz.ntmps65
    go_wp2_with fail
    refine (HD.out W).mono ?_
    rintro e w1 ⟨rfl, hk⟩
    go_wp2
    go_ret
    exact ⟨by rw [HP.out]; rfl, hk⟩
  · have g1 : decide (n ≥ 0) = false := by simpa using h0
    have g2 : decide (0 ≤ n) = false := by simpa using h0
    have HP := Lib.hid (itB_neg (by omega : n < 0))
    obtain ⟨m, hm⟩ : ∃ m : Nat, n = -(m : Int) := ⟨n.natAbs, by omega⟩
    subst hm
    have hm2 : m ≤ 9223372036854775808 := by have := HN.out.1; omega
    have HD := Lib.hid (fun w => digits_any m w hm2)
    have hsz : (dgB m).size ≤ 20 := by
      have h2 := dec_len_lt (u := m) (by omega)
      have : (dgB m).size = (Lib.decDigits m).length := by show (Lib.decDigits m).toArray.size = _; simp
      omega
    have HE := Lib.hid (show itB (-(m : Int)) = ⟨#[45]⟩ ++ dgB m by rw [HP.out]; congr 2; omega)
    obtain ⟨z, hz⟩ : ∃ z, z = dgB m := ⟨_, rfl⟩
    rw [← hz] at HE HD hsz
    have g3 : decide (m = 0) = false := by simp; omega
    clear h0 HP hz
    go_enter Tryz.func65, Tryz.ntmps65
    go_wp2_with fail
    refine (HD.out W).mono ?_
    rintro e w1 ⟨rfl, hk⟩
    go_wp2
    go_ret
    exact ⟨by rw [HE.out]; rfl, hk⟩
/-- Numbers, each with a blank ahead. -/
def sdB : List Int → ByteArray
  | [] => ByteArray.empty
  | n :: l => ⟨#[32]⟩ ++ itB n ++ sdB l
theorem sdB_app (a b : List Int) : sdB (a ++ b) = sdB a ++ sdB b := by
  induction a with
  | nil => simp [sdB]
  | cons n a ih => simp [sdB, ih, ByteArray.append_assoc]
theorem sdB_size : ∀ {l : List Int}, (∀ x ∈ l, I64 x) → (sdB l).size ≤ l.length * 22 := by
  intro l
  induction l with
  | nil => intro _; simp [sdB]
  | cons n l ih =>
    intro h
    have h1 := ih (fun x hx => h x (by simp [hx]))
    have h2 := itB_size (h n (by simp))
    have h3 : (⟨#[32]⟩ : ByteArray).size = 1 := rfl
    simp only [sdB, ByteArray.size_append, List.length_cons]
    omega
set_option maxHeartbeats 400000 in
set_option maxRecDepth 100000 in
theorem said_any (L : List Int) (v : Value) (W : World) (h : SlAt W v L.length (intsV L)) (hi : ∀ x ∈ L, I64 x) (hn : L.length ≤ 1000000) :
    Calls Tryz.prog 36 #[v] W fun e W' => e = .returned (.string (sdB L)) ∧ Keep [] W W' := by
  have HS := Lib.hid h
  have HI := Lib.hid hi
  obtain ⟨ad, cap, hv⟩ := h.empty
  subst hv
  clear h hi
  obtain ⟨n, hnl⟩ : ∃ n, n = L.length := ⟨_, rfl⟩
  rw [← hnl] at HS hn ⊢
  have HN := Lib.hid hnl
  clear hnl
  go_enter Tryz.func36, Tryz.ntmps36
  go_upto_region 3 with (fail)
  go_loopw [3, 4] (fun sv iv wr => ∃ k : Nat, sv = .string (sdB (L.take k)) ∧ iv = .int .i64 k ∧ k ≤ n ∧ Keep [] W wr) (fun _ iv _ => n - (intOf iv).toNat)
  case atStart => exact ⟨0, rfl, rfl, Nat.zero_le _, Keep.refl _ _⟩
  case round =>
    rename World => wr
    obtain ⟨k, rfl, rfl, hk, hkr⟩ := hrel
    have HKR := Lib.hid hkr
    clear hkr
    by_cases hlt : k < n
    · have g1 := dec_lt_t (show (k : Int) < (n : Int) by omega)
      have hkL : k < L.length := by rw [← HN.out]; exact hlt
      obtain ⟨b, off, cp, e, hc⟩ := (HS.out.keep0 HKR.out).at_ (by omega)
      injection e with e1 e2 e3
      subst e1
      clear e2 e3
      have hx := hc k (.int .i64 L[k]) (by simp [intsV, hkL])
      have hi1 := HI.out _ (List.getElem_mem hkL)
      have ht : sdB (L.take (k + 1)) = sdB (L.take k) ++ ⟨#[32]⟩ ++ itB L[k] := by
        rw [List.take_succ_eq_append_getElem hkL, sdB_app]
        simp [sdB, ByteArray.append_assoc]
      have hz := sdB_size (l := L.take (k + 1)) (fun x hx => HI.out x (List.mem_of_mem_take hx))
      generalize L[k] = y at hx hi1 ht
      have HT := Lib.hid ht
      have HY := Lib.hid (fun w => refnum_any y w hi1)
      obtain ⟨s0, hs0⟩ : ∃ s0, s0 = sdB (L.take k) := ⟨_, rfl⟩
      have hz1 : s0.size ≤ 22000000 := by
        have h := sdB_size (l := L.take k) (fun x hx => HI.out x (List.mem_of_mem_take hx))
        rw [List.length_take] at h
        rw [hs0]
        omega
      have hz2 : (itB y).size ≤ 21 := itB_size hi1
      obtain ⟨z, hzz⟩ : ∃ z, z = itB y := ⟨_, rfl⟩
      rw [← hzz] at hz2 HT HY
      have HS0 := Lib.hid hs0
      rw [← hs0]
      clear hc hi1 ht hz hs0 hzz
      go_wp2_with fail
      refine (HY.out _).mono ?_
      rintro e w2 ⟨rfl, hk2⟩
      go_wp2
      go_roundw
      case rel => exact ⟨k + 1, by rw [HT.out, ← HS0.out], by go_num, by omega, HKR.out.trans0 hk2⟩
      case measure => simp [intOf]; omega
    · have g1 := dec_lt_f (show ¬ (k : Int) < (n : Int) by omega)
      have HFIN := Lib.hid (show sdB (L.take k) = sdB L by rw [List.take_of_length_le (by have := HN.out; omega)])
      go_wp2
      go_ret
      exact ⟨by rw [← HFIN.out]; rfl, HKR.out⟩
end Go.Proofs.YtbidppjhenfjdaaGreatDoor
namespace Go.Proofs.YtbidppjhenfjdaaGreatDoor
open Go.RowKit
set_option linter.unusedVariables false
set_option linter.unusedSimpArgs false

theorem rshape_no (k : Int) (W : World) (h : ¬ (1 ≤ k ∧ k ≤ 14)) : Calls Tryz.prog 53 #[.int .i64 k] W fun e W' => e = .returned (.string ByteArray.empty) ∧ Keep [] W W' := by
  have g1 : (k == 1) = false := by simp; omega
  have g2 : (k == 2) = false := by simp; omega
  have g3 : (k == 3) = false := by simp; omega
  have g4 : (k == 4) = false := by simp; omega
  have g5 : (k == 5) = false := by simp; omega
  have g6 : (k == 6) = false := by simp; omega
  have g7 : (k == 7) = false := by simp; omega
  have g8 : (k == 8) = false := by simp; omega
  have g9 : (k == 9) = false := by simp; omega
  have g10 : (k == 10) = false := by simp; omega
  have g11 : (k == 11) = false := by simp; omega
  have g12 : (k == 12) = false := by simp; omega
  have g13 : (k == 13) = false := by simp; omega
  have g14 : (k == 14) = false := by simp; omega
  clear h
  go_enter Tryz.func53, Tryz.ntmps53
  go_wp2
  go_ret
  exact ⟨rfl, Keep.refl _ _⟩
theorem said_one {n : Int} (W : World) (hn : I64 n) : Calls Tryz.prog 36 #[.slice (some ⟨W.heap.size, 0, none⟩) 1 1] (W.alloc (.cells #[.int .i64 n] 3)) fun e W' => e = .returned (.string (⟨#[32]⟩ ++ itB n)) ∧ Keep [] (W.alloc (.cells #[.int .i64 n] 3)) W' := by
  have hb := World.alloc_heap_new W (.cells #[.int .i64 n] 3)
  have hc := cell_of_block hb 0
  have h := said_any [n] (.slice (some ⟨W.heap.size, 0, none⟩) 1 1) (W.alloc (.cells #[.int .i64 n] 3)) ⟨some ⟨W.heap.size, 0, none⟩, 1, rfl, by simp [intsV], fun _ => ⟨W.heap.size, 0, rfl, fun i u hu => by
    have hi : i < 1 := (List.getElem?_eq_some_iff.1 hu).1
    obtain rfl : i = 0 := by omega
    simp [intsV] at hu
    subst hu
    exact hc⟩⟩ (by simpa using hn) (by simp)
  have e : sdB [n] = ⟨#[32]⟩ ++ itB n := by simp [sdB]
  rwa [e] at h
def lineF (s : Stp) : List Fld → ByteArray
  | [] => ByteArray.empty
  | f :: r => ⟨#[32]⟩ ++ fW s f ++ lineF s r
theorem lineF_app (s : Stp) (a b : List Fld) : lineF s (a ++ b) = lineF s a ++ lineF s b := by
  induction a with
  | nil => simp [lineF]
  | cons n a ih => simp [lineF, ih, ByteArray.append_assoc]
theorem lineF_size {s : Stp} (h : StpOk s) (hs : StpSmall s) : ∀ (l : List Fld), (lineF s l).size ≤ l.length * 1000003 := by
  intro l
  induction l with
  | nil => simp [lineF]
  | cons f l ih =>
    have h2 := fW_size h hs f
    have h3 : (⟨#[32]⟩ : ByteArray).size = 1 := rfl
    simp only [lineF, ByteArray.size_append, List.length_cons]
    omega
/-- The reference's line. -/
def rlB (s : Stp) : ByteArray := if 1 ≤ s.kind ∧ s.kind ≤ 14 then tabW s.kind.toNat ++ (if s.kind = 6 then sdB s.draws else lineF s (tabF s.kind.toNat)) else ByteArray.empty
theorem tabF_three (k : Nat) : (tabF k).length ≤ 3 := by
  unfold tabF
  split <;> simp
theorem tabW_size (k : Nat) : (tabW k).size ≤ 10 := by
  unfold tabW
  split <;> decide

set_option maxHeartbeats 8000000 in
set_option maxRecDepth 100000 in
theorem rline_any (s : Stp) (dv bv : Value) (W : World) (h : StRd W s dv bv) (hok : StpOk s) (hsm : StpSmall s) :
    Calls Tryz.prog 28 #[.agg (stV s dv bv)] W fun e W' => e = .returned (.string (rlB s)) ∧ Keep [] W W' := by
  have HRD := Lib.hid h
  have HOK := Lib.hid hok
  have HSM := Lib.hid hsm
  obtain ⟨ad1, cap1, hdv⟩ := h.1.empty
  obtain ⟨ad2, cap2, hbv⟩ := h.2.empty
  subst hdv
  subst hbv
  clear h hok hsm
  obtain ⟨nd, hnd⟩ : ∃ nd, nd = s.draws.length := ⟨_, rfl⟩
  obtain ⟨nb, hnb⟩ : ∃ nb, nb = s.data.size := ⟨_, rfl⟩
  rw [← hnd, ← hnb] at HRD ⊢
  have HND := Lib.hid (And.intro hnd hnb)
  clear hnd hnb
  have HK0 := Lib.hid (show Keep [] W (W.alloc (.cells (stV s (.slice ad1 nd cap1) (.slice ad2 nb cap2)) 40)) from (Keep.refl _ _).alloc _)
  have HB0 := Lib.hid (World.alloc_heap_new W (.cells (stV s (.slice ad1 nd cap1) (.slice ad2 nb cap2)) 40))
  obtain ⟨w1, hw1⟩ : ∃ w1, w1 = W.alloc (.cells (stV s (.slice ad1 nd cap1) (.slice ad2 nb cap2)) 40) := ⟨_, rfl⟩
  obtain ⟨D, hD⟩ : ∃ D, D = W.heap.size := ⟨_, rfl⟩
  have hwS := hw1
  rw [← hw1] at HK0 HB0
  rw [← hD] at HB0
  have p0 := cell_of_block HB0.out 0
  simp [stV] at p0
  unfold stV at hwS ⊢
  go_enter Tryz.func28, Tryz.ntmps28
  go_upto_region 1 with (fail)
  rw [← hwS, ← hD]
  clear hw1 hwS hD
  go_wp2_with fail
  refine (rname_any s.kind w1).mono ?_
  rintro e w2 ⟨rfl, hk2⟩
  have HK2 := Lib.hid (HK0.out.trans0 hk2)
  have HB2 := Lib.hid (hk2.at_ HB0.out (by simp))
  have q0 := cell_of_block HB2.out 0
  have q7 := cell_of_block HB2.out 7
  simp [stV] at q0 q7
  clear HK0 HB0 p0 hk2
  by_cases h6 : s.kind = 6
  · have g1 : (s.kind == 6) = true := by simpa using h6
    have HFIN := Lib.hid (show rlB s = tabW 6 ++ sdB s.draws by unfold rlB; rw [if_pos (by omega), if_pos h6, h6]; rfl)
    have hn : nameB s.kind = tabW 6 := by rw [h6]; rfl
    have hz1 := tabW_size 6
    have hz2 := sdB_size (l := s.draws) HOK.out.2.2.2.2.2.2
    have hz3 := HSM.out.2.2
    have hz4 : (sdB s.draws).size ≤ 2200000 := by omega
    rw [hn]
    rw [h6] at q0
    obtain ⟨x, hx⟩ : ∃ x, x = tabW 6 := ⟨_, rfl⟩
    obtain ⟨y, hy⟩ : ∃ y, y = sdB s.draws := ⟨_, rfl⟩
    have HSD := Lib.hid (fun w' (k : Keep [] W w') => said_any s.draws (.slice ad1 nd cap1) w' (by have := HRD.out.1.keep0 k; rw [← HND.out.1] at this ⊢; exact this) HOK.out.2.2.2.2.2.2 (by omega))
    rw [← hx] at HFIN hz1 ⊢
    rw [← hy] at HFIN HSD hz4
    clear hn hz2 hz3 h6 g1 hx hy
    go_wp2_with fail
    refine (HSD.out w2 HK2.out).mono ?_
    rintro e w3 ⟨rfl, hk3⟩
    go_wp2
    go_ret
    exact ⟨by rw [HFIN.out]; rfl, HK2.out.trans0 hk3⟩
  · have g1 : (s.kind == 6) = false := by simpa using h6
    by_cases hkk : 1 ≤ s.kind ∧ s.kind ≤ 14
    · obtain ⟨k, hk⟩ : ∃ k : Nat, s.kind = (k : Int) := ⟨s.kind.toNat, by omega⟩
      have hk1 : 1 ≤ k := by omega
      have hk14 : k ≤ 14 := by omega
      have HFIN := Lib.hid (show rlB s = tabW k ++ lineF s (tabF k) by
        unfold rlB; rw [if_pos hkk, if_neg h6, hk]; rfl)
      have hn : nameB s.kind = tabW k := by unfold nameB; rw [if_pos hkk, hk]; rfl
      have HSH := Lib.hid (fun w => rshape_any k w hk1 hk14)
      have hz1 := tabW_size k
      have hl3 := tabF_three k
      rw [hn]
      rw [hk] at q0 g1
      obtain ⟨x, hx⟩ : ∃ x, x = tabW k := ⟨_, rfl⟩
      obtain ⟨y, hy⟩ : ∃ y, y = shB k := ⟨_, rfl⟩
      have hyz : y.size = (tabF k).length := by rw [hy]; exact shB_size k
      have HYB := Lib.hid (fun j (h : j < (tabF k).length) => show byt y j = fldL (tabF k)[j] by rw [hy]; exact shB_byt h)
      rw [← hx] at HFIN hz1 ⊢
      rw [← hy] at HSH
      have HX := Lib.hid hz1
      clear hn h6 hx hy hkk hk hz1
      go_upto_region 4 with (fail)
      go_wp2_with fail
      refine (HSH.out w2).mono ?_
      rintro e w3 ⟨rfl, hk3⟩
      have HK3 := Lib.hid (HK2.out.trans0 hk3)
      have HB3 := Lib.hid (hk3.at_ HB2.out (by simp))
      clear hk3 HK2 HB2 q0 q7 g1
      go_upto_region 6 with (fail)
      go_loopw [3, 5] (fun sv iv wr => ∃ j : Nat, sv = .string (x ++ lineF s ((tabF k).take j)) ∧ iv = .int .i64 j ∧ j ≤ y.size ∧ Keep [] W wr ∧ wr.heap[D]? = some (.cells (stV s (.slice ad1 nd cap1) (.slice ad2 nb cap2)) 40 (0, 0))) (fun _ iv _ => y.size - (intOf iv).toNat)
      case atStart => exact ⟨0, by simp [lineF], rfl, Nat.zero_le _, HK3.out, HB3.out⟩
      case round =>
        rename World => wr
        obtain ⟨j, rfl, rfl, hj, hkr, hbr⟩ := hrel
        have HKR := Lib.hid hkr
        have HBR := Lib.hid hbr
        clear hkr hbr HK3 HB3
        by_cases hlt : j < y.size
        · have f1 := dec_lt_t (show (j : Int) < (y.size : Int) by omega)
          have f2 := dec_ltn_t hlt
          have hjl : j < (tabF k).length := by omega
          have hix := fun W => byte_at (s := y) (i := j) hlt W
          rw [HYB.out j hjl] at hix
          have ht : lineF s ((tabF k).take (j + 1)) = lineF s ((tabF k).take j) ++ ⟨#[32]⟩ ++ fW s (tabF k)[j] := by
            rw [List.take_succ_eq_append_getElem hjl, lineF_app]
            simp [lineF, ByteArray.append_assoc]
          have hz := lineF_size HOK.out HSM.out ((tabF k).take j)
          have hzf := fW_size HOK.out HSM.out (tabF k)[j]
          rw [List.length_take] at hz
          have hz1 : (x ++ lineF s ((tabF k).take j)).size ≤ 4000000 := by
            have := HX.out
            rw [ByteArray.size_append]
            omega
          generalize (tabF k)[j] = f at hix ht hzf
          have ht2 : x ++ lineF s ((tabF k).take (j + 1)) = (x ++ lineF s ((tabF k).take j)) ++ ⟨#[32]⟩ ++ fW s f := by rw [ht]; simp [ByteArray.append_assoc]
          have HT := Lib.hid ht2
          obtain ⟨x0, hx0⟩ : ∃ x0, x0 = x ++ lineF s ((tabF k).take j) := ⟨_, rfl⟩
          rw [← hx0] at hz1 HT ⊢
          have hjn : j + 1 ≤ y.size := by omega
          have HJ := Lib.hid hjn
          clear ht ht2 hz hx0 hjl hjn
          have d1 := cell_of_block HBR.out 1
          have d2 := cell_of_block HBR.out 2
          have d4 := cell_of_block HBR.out 4
          have d5 := cell_of_block HBR.out 5
          have d6 := cell_of_block HBR.out 6
          have d8 := cell_of_block HBR.out 8
          simp [stV] at d1 d2 d4 d5 d6 d8
          have HIX := Lib.hid hix
          clear hix
          cases f
          · -- site
            have hix := HIX.out wr
            simp only [fldL] at hix
            have hi1 := HOK.out.2.1
            have HSD := Lib.hid (fun W' => said_one (n := s.site) W' hi1)
            have hzz : (⟨#[32]⟩ ++ itB (s.site)).size ≤ 22 := by
              have h1 := itB_size hi1
              have h2 : (⟨#[32]⟩ : ByteArray).size = 1 := rfl
              rw [ByteArray.size_append]
              omega
            have HT2 := Lib.hid (show x ++ lineF s ((tabF k).take (j + 1)) = x0 ++ (⟨#[32]⟩ ++ itB (s.site)) by rw [HT.out, ByteArray.append_assoc]; rfl)
            obtain ⟨z, hz⟩ : ∃ z : ByteArray, z = ⟨#[32]⟩ ++ itB (s.site) := ⟨_, rfl⟩
            rw [← hz] at HSD hzz HT2
            clear hz hi1 hzf HT
            go_wp2_with fail
            refine (HSD.out _).mono ?_
            rintro e w4 ⟨rfl, hk4⟩
            have HK4 := Lib.hid (HKR.out.trans0 (((Keep.refl [] wr).alloc _).trans0 hk4))
            have HB4 := Lib.hid ((((Keep.refl [] wr).alloc _).trans0 hk4).at_ HBR.out (by simp))
            clear hk4
            go_wp2
            go_roundw
            case rel => exact ⟨j + 1, by rw [HT2.out], by go_num, HJ.out, HK4.out, HB4.out⟩
            case measure => simp [intOf]; omega
          · -- peer
            have hix := HIX.out wr
            simp only [fldL] at hix
            have hi1 := HOK.out.2.2.1
            have HSD := Lib.hid (fun W' => said_one (n := s.peer) W' hi1)
            have hzz : (⟨#[32]⟩ ++ itB (s.peer)).size ≤ 22 := by
              have h1 := itB_size hi1
              have h2 : (⟨#[32]⟩ : ByteArray).size = 1 := rfl
              rw [ByteArray.size_append]
              omega
            have HT2 := Lib.hid (show x ++ lineF s ((tabF k).take (j + 1)) = x0 ++ (⟨#[32]⟩ ++ itB (s.peer)) by rw [HT.out, ByteArray.append_assoc]; rfl)
            obtain ⟨z, hz⟩ : ∃ z : ByteArray, z = ⟨#[32]⟩ ++ itB (s.peer) := ⟨_, rfl⟩
            rw [← hz] at HSD hzz HT2
            clear hz hi1 hzf HT
            go_wp2_with fail
            refine (HSD.out _).mono ?_
            rintro e w4 ⟨rfl, hk4⟩
            have HK4 := Lib.hid (HKR.out.trans0 (((Keep.refl [] wr).alloc _).trans0 hk4))
            have HB4 := Lib.hid ((((Keep.refl [] wr).alloc _).trans0 hk4).at_ HBR.out (by simp))
            clear hk4
            go_wp2
            go_roundw
            case rel => exact ⟨j + 1, by rw [HT2.out], by go_num, HJ.out, HK4.out, HB4.out⟩
            case measure => simp [intOf]; omega
          · -- at
            have hix := HIX.out wr
            simp only [fldL] at hix
            have hi1 := HOK.out.2.2.2.2.1
            have HSD := Lib.hid (fun W' => said_one (n := s.at_) W' hi1)
            have hzz : (⟨#[32]⟩ ++ itB (s.at_)).size ≤ 22 := by
              have h1 := itB_size hi1
              have h2 : (⟨#[32]⟩ : ByteArray).size = 1 := rfl
              rw [ByteArray.size_append]
              omega
            have HT2 := Lib.hid (show x ++ lineF s ((tabF k).take (j + 1)) = x0 ++ (⟨#[32]⟩ ++ itB (s.at_)) by rw [HT.out, ByteArray.append_assoc]; rfl)
            obtain ⟨z, hz⟩ : ∃ z : ByteArray, z = ⟨#[32]⟩ ++ itB (s.at_) := ⟨_, rfl⟩
            rw [← hz] at HSD hzz HT2
            clear hz hi1 hzf HT
            go_wp2_with fail
            refine (HSD.out _).mono ?_
            rintro e w4 ⟨rfl, hk4⟩
            have HK4 := Lib.hid (HKR.out.trans0 (((Keep.refl [] wr).alloc _).trans0 hk4))
            have HB4 := Lib.hid ((((Keep.refl [] wr).alloc _).trans0 hk4).at_ HBR.out (by simp))
            clear hk4
            go_wp2
            go_roundw
            case rel => exact ⟨j + 1, by rw [HT2.out], by go_num, HJ.out, HK4.out, HB4.out⟩
            case measure => simp [intOf]; omega
          · -- num
            have hix := HIX.out wr
            simp only [fldL] at hix
            have hi1 := HOK.out.2.2.2.2.2.1
            have HSD := Lib.hid (fun W' => said_one (n := s.n) W' hi1)
            have hzz : (⟨#[32]⟩ ++ itB (s.n)).size ≤ 22 := by
              have h1 := itB_size hi1
              have h2 : (⟨#[32]⟩ : ByteArray).size = 1 := rfl
              rw [ByteArray.size_append]
              omega
            have HT2 := Lib.hid (show x ++ lineF s ((tabF k).take (j + 1)) = x0 ++ (⟨#[32]⟩ ++ itB (s.n)) by rw [HT.out, ByteArray.append_assoc]; rfl)
            obtain ⟨z, hz⟩ : ∃ z : ByteArray, z = ⟨#[32]⟩ ++ itB (s.n) := ⟨_, rfl⟩
            rw [← hz] at HSD hzz HT2
            clear hz hi1 hzf HT
            go_wp2_with fail
            refine (HSD.out _).mono ?_
            rintro e w4 ⟨rfl, hk4⟩
            have HK4 := Lib.hid (HKR.out.trans0 (((Keep.refl [] wr).alloc _).trans0 hk4))
            have HB4 := Lib.hid ((((Keep.refl [] wr).alloc _).trans0 hk4).at_ HBR.out (by simp))
            clear hk4
            go_wp2
            go_roundw
            case rel => exact ⟨j + 1, by rw [HT2.out], by go_num, HJ.out, HK4.out, HB4.out⟩
            case measure => simp [intOf]; omega
          · -- text
            have hix := HIX.out wr
            simp only [fldL] at hix
            have hzz : (quo s.text).size ≤ 1000002 := hzf
            have hzs := HSM.out.1
            have HQ := Lib.hid (fun w' => rquote_any s.text w' (by omega))
            have HT2 := Lib.hid (show x ++ lineF s ((tabF k).take (j + 1)) = x0 ++ ⟨#[32]⟩ ++ quo s.text from HT.out)
            obtain ⟨z, hz⟩ : ∃ z : ByteArray, z = quo s.text := ⟨_, rfl⟩
            rw [← hz] at HQ hzz HT2
            clear hz hzf hzs HT
            go_wp2_with fail
            refine (HQ.out _).mono ?_
            rintro e w4 ⟨rfl, hk4⟩
            have HK4 := Lib.hid (HKR.out.trans0 hk4)
            have HB4 := Lib.hid (hk4.at_ HBR.out (by simp))
            clear hk4
            go_wp2
            go_roundw
            case rel => exact ⟨j + 1, by rw [HT2.out], by go_num, HJ.out, HK4.out, HB4.out⟩
            case measure => simp [intOf]; omega
          · -- data
            have hix := HIX.out wr
            simp only [fldL] at hix
            have hzz : (quo s.data).size ≤ 1000002 := hzf
            have hzs := HSM.out.2.1
            have HQ := Lib.hid (fun w' => rquote_any s.data w' (by omega))
            have HT2 := Lib.hid (show x ++ lineF s ((tabF k).take (j + 1)) = x0 ++ ⟨#[32]⟩ ++ quo s.data from HT.out)
            obtain ⟨z, hz⟩ : ∃ z : ByteArray, z = quo s.data := ⟨_, rfl⟩
            rw [← hz] at HQ hzz HT2
            have hcv := conv_bsl (by have := HRD.out.2.keep0 HKR.out; rw [← HND.out.2] at this ⊢; exact this)
            clear hz hzf hzs HT
            go_wp2_with fail
            refine (HQ.out _).mono ?_
            rintro e w4 ⟨rfl, hk4⟩
            have HK4 := Lib.hid (HKR.out.trans0 hk4)
            have HB4 := Lib.hid (hk4.at_ HBR.out (by simp))
            clear hk4
            go_wp2
            go_roundw
            case rel => exact ⟨j + 1, by rw [HT2.out], by go_num, HJ.out, HK4.out, HB4.out⟩
            case measure => simp [intOf]; omega
        · have f1 := dec_lt_f (show ¬ (j : Int) < (y.size : Int) by omega)
          have f2 := dec_ltn_f hlt
          have HF2 := Lib.hid (show rlB s = x ++ lineF s ((tabF k).take j) by rw [HFIN.out, List.take_of_length_le (by omega)])
          clear hyz hl3
          obtain ⟨z, hz⟩ : ∃ z, z = x ++ lineF s ((tabF k).take j) := ⟨_, rfl⟩
          rw [← hz] at HF2 ⊢
          clear hz
          go_wp2
          go_ret
          exact ⟨by rw [HF2.out]; rfl, HKR.out⟩
    · have hn : nameB s.kind = ByteArray.empty := if_neg hkk
      have HFIN := Lib.hid (show rlB s = ByteArray.empty from if_neg hkk)
      have HSH := Lib.hid (fun w => rshape_no s.kind w hkk)
      rw [hn]
      clear hn h6 hkk
      go_upto_region 4 with (fail)
      go_wp2_with fail
      refine (HSH.out w2).mono ?_
      rintro e w3 ⟨rfl, hk3⟩
      have HK3 := Lib.hid (HK2.out.trans0 hk3)
      clear hk3
      go_upto_region 6 with (fail)
      go_loopw [3, 5] (fun sv iv wr => sv = .string ByteArray.empty ∧ iv = .int .i64 0 ∧ Keep [] W wr) (fun _ iv _ => 0)
      case atStart => exact ⟨rfl, rfl, HK3.out⟩
      case round =>
        obtain ⟨rfl, rfl, hkr⟩ := hrel
        go_wp2
        go_ret
        exact ⟨by rw [HFIN.out]; rfl, hkr⟩
end Go.Proofs.YtbidppjhenfjdaaGreatDoor
namespace Go.Proofs.YtbidppjhenfjdaaGreatDoor
open Go.RowKit
set_option linter.unusedVariables false
set_option linter.unusedSimpArgs false

/-- Words, each with a blank ahead. -/
def blB : List ByteArray → ByteArray
  | [] => ByteArray.empty
  | x :: l => ⟨#[32]⟩ ++ x ++ blB l
theorem joinB_cons (l : List ByteArray) : ∀ a, joinB (a :: l) = a ++ blB l := by
  induction l with
  | nil =>
    intro a
    apply ByteArray.ext
    show (List.intercalate [32] [a.data.toList]).toArray = _
    simp [List.intercalate, blB]
  | cons b l ih =>
    intro a
    have h := ih b
    apply ByteArray.ext
    have h2 : (joinB (b :: l)).data = (b ++ blB l).data := by rw [h]
    have e1 : (joinB (a :: b :: l)).data.toList = a.data.toList ++ [32] ++ (joinB (b :: l)).data.toList := by
      show (List.intercalate [32] (a.data.toList :: b.data.toList :: l.map (·.data.toList))).toArray.toList = a.data.toList ++ [32] ++ (List.intercalate [32] (b.data.toList :: l.map (·.data.toList))).toArray.toList
      simp only [List.toList_toArray]
      rw [List.intercalate_cons_cons]
      try simp
    rw [h2] at e1
    apply Array.ext'
    rw [e1]
    simp [blB]
theorem blB_app (a b : List ByteArray) : blB (a ++ b) = blB a ++ blB b := by
  induction a with
  | nil => simp [blB]
  | cons n a ih => simp [blB, ih, ByteArray.append_assoc]
theorem lineF_bl (s : Stp) (fs : List Fld) : lineF s fs = blB (fs.map (fW s)) := by
  induction fs with
  | nil => rfl
  | cons f fs ih => simp [lineF, blB, ih]
theorem sdB_bl (l : List Int) : sdB l = blB (l.map itB) := by
  induction l with
  | nil => rfl
  | cons f fs ih => simp [sdB, blB, ih]
/-- The reference's line is what say says. -/
theorem rlB_say {s : Stp} (h : 1 ≤ s.kind ∧ s.kind ≤ 14) : sayO s = some (rlB s) := by
  unfold sayO rlB
  rw [if_pos h, if_pos h]
  congr 1
  unfold sayW
  rw [List.cons_append, joinB_cons, blB_app, lineF_bl, sdB_bl]
  by_cases h6 : s.kind = 6
  · rw [if_pos h6, if_pos (by omega), h6]
    simp [tabF, blB]
  · rw [if_neg h6, if_neg (by omega)]
    simp [blB]
end Go.Proofs.YtbidppjhenfjdaaGreatDoor
namespace Go.Proofs.YtbidppjhenfjdaaGreatDoor
open Go.RowKit
set_option linter.unusedVariables false
set_option linter.unusedSimpArgs false

/-- No list is longer than memory. -/
def StpFit (s : Stp) : Prop := s.text.size ≤ 140737488355327 ∧ s.data.size ≤ 140737488355327 ∧ s.draws.length ≤ 140737488355327
def StpFew (s : Stp) : Prop := s.text.size ≤ 30000 ∧ s.data.size ≤ 30000 ∧ s.draws.length ≤ 400
/-- How many bytes there are in all. -/
def tot : List Stp → Nat
  | [] => 0
  | s :: L => s.text.size + s.data.size + tot L
theorem tot_snoc (a : List Stp) (s : Stp) : tot (a ++ [s]) = tot a + s.text.size + s.data.size := by
  induction a with
  | nil => simp [tot]
  | cons x a ih => simp [tot, ih]; omega
theorem tot_take {L : List Stp} {k : Nat} (hk : k < L.length) : tot (L.take (k + 1)) = tot (L.take k) + L[k].text.size + L[k].data.size := by
  rw [List.take_succ_eq_append_getElem hk, tot_snoc]
def Few (L : List Stp) : Prop := L.length ≤ 200 ∧ (∀ s ∈ L, StpFew s) ∧ tot L ≤ 30000

set_option maxHeartbeats 8000000 in
set_option maxRecDepth 100000 in
theorem much_any (v : Value) (L : List Stp) (W : World) (h : Steps W v L) (hft : ∀ s ∈ L, StpFit s) :
    Calls Tryz.prog 10 #[v] W fun e W' => Keep [] W W' ∧ ∃ b, e = .returned (.bool b) ∧ (b = false → Few L) := by
  have HST := Lib.hid h
  have HFT := Lib.hid hft
  obtain ⟨ad, cap, hv⟩ := h.slice
  subst hv
  clear h hft
  obtain ⟨n, hnl⟩ : ∃ n, n = L.length := ⟨_, rfl⟩
  rw [← hnl] at HST ⊢
  have HN := Lib.hid hnl
  clear hnl
  by_cases hbig : n ≤ 200
  · have f1 := dec_lt_f (show ¬ (200 : Int) < (n : Int) by omega)
    have f2 := dec_ltn_f (show ¬ 200 < n by omega)
    go_enter Tryz.func10, Tryz.ntmps10
    go_upto_region 5 with (fail)
    clear f1 f2
    go_loopw [3, 4] (fun mv iv wr => ∃ k m : Nat, mv = .int .i64 m ∧ iv = .int .i64 k ∧ k ≤ n ∧ m ≤ 30000 ∧ (∀ j (hj : j < L.length), j < k → StpFew L[j]) ∧ tot (L.take k) = m ∧ Keep [] W wr) (fun _ iv _ => n - (intOf iv).toNat)
    case atStart => exact ⟨0, 0, rfl, rfl, Nat.zero_le _, Nat.zero_le _, fun j _ hj => absurd hj (Nat.not_lt_zero _), rfl, Keep.refl _ _⟩
    case round =>
      rename World => wr
      obtain ⟨k, m, rfl, rfl, hk, hm, hfew, htot, hkr⟩ := hrel
      have HTOT := Lib.hid htot
      clear htot
      have HFEW := Lib.hid hfew
      have HKR := Lib.hid hkr
      clear hfew hkr
      by_cases hlt : k < n
      · have HLT := Lib.hid hlt
        have g1 := dec_lt_t (show (k : Int) < (n : Int) by omega)
        have g2 := dec_ltn_t hlt
        have hkL : k < L.length := by rw [← HN.out]; exact hlt
        obtain ⟨gb, off, cp, e, hel⟩ := Steps.elem (by have := HST.out.keep0 HKR.out; exact this) (by omega)
        injection e with e1 e2 e3
        subst e1
        clear e2 e3
        obtain ⟨ad1, cap1, ad2, cap2, hrd, hcl⟩ := hel k hkL
        have hft := HFT.out _ (List.getElem_mem hkL)
        have HNX := Lib.hid (fun (hs : StpFew L[k]) => show ∀ j (hj : j < L.length), j < k + 1 → StpFew L[j] from fun j hj hjk => by
          by_cases e : j = k
          · subst e; exact hs
          · exact HFEW.out j hj (by omega))
        have HNT := Lib.hid (show tot (L.take (k + 1)) = m + L[k].text.size + L[k].data.size by rw [tot_take hkL, HTOT.out])
        generalize L[k] = s at hrd hcl hft HNX HNT
        have c6 : wr.cell? ⟨gb, off + k * 9 + 6, none⟩ = some (.string s.text) := hcl 6 _ rfl
        have c7 : wr.cell? ⟨gb, off + k * 9 + 7, none⟩ = some (.slice ad1 s.draws.length cap1) := hcl 7 _ rfl
        have c8 : wr.cell? ⟨gb, off + k * 9 + 8, none⟩ = some (.slice ad2 s.data.size cap2) := hcl 8 _ rfl
        obtain ⟨hf1, hf2, hf3⟩ := hft
        unfold StpFew at HNX
        clear hel hcl hrd hkL
        obtain ⟨nd, hnd⟩ : ∃ nd, nd = s.draws.length := ⟨_, rfl⟩
        obtain ⟨nb, hnb⟩ : ∃ nb, nb = s.data.size := ⟨_, rfl⟩
        obtain ⟨tx, htx⟩ : ∃ tx, tx = s.text := ⟨_, rfl⟩
        rw [← hnd] at c7 hf3 HNX
        rw [← hnb] at c8 hf2 HNX HNT
        rw [← htx] at c6 hf1 HNX HNT
        clear hnd hnb htx
        have hw1 : IntKind.i64.wrap ((m : Int) + (tx.size : Int)) = (m : Int) + (tx.size : Int) := by rw [IntKind.wrap_i64]; omega
        have hw2 : IntKind.i64.wrap ((m : Int) + (tx.size : Int) + (nb : Int)) = (m : Int) + (tx.size : Int) + (nb : Int) := by rw [IntKind.wrap_i64]; omega
        go_upto_region 7 with (fail)
        refine wp_plan (fun w' => w' = wr.drew) (.take 0 (.take 1 (.take 2 (.take 3 (.take 4 (.take 5 (.take 6 (.take 7 (.take 8 (.take 9 (.take 10 (.take 11 (.take 12 (.take 13 (.take 14 (.force 15 .done)))))))))))))))) (by kernel_rfl) (by kernel_rfl) rfl ?_
        intro Q0 hQ0
        refine plan_takeL rfl rfl (.int .i64 (m : Nat)) ?_ ?_
        · rintro w' rfl K Q hK
          go_simp
          exact hK
        try simp only [Act.put, List.setIfInBounds_toArray, List.set_cons_succ, List.set_cons_zero]
        refine plan_takeL rfl rfl (.slice (some ⟨gb, off, none⟩) n cap) ?_ ?_
        · rintro w' rfl K Q hK
          go_simp
          exact hK
        try simp only [Act.put, List.setIfInBounds_toArray, List.set_cons_succ, List.set_cons_zero]
        refine plan_takeL rfl rfl (.int .i64 (k : Nat)) ?_ ?_
        · rintro w' rfl K Q hK
          go_simp
          exact hK
        try simp only [Act.put, List.setIfInBounds_toArray, List.set_cons_succ, List.set_cons_zero]
        refine plan_takeL rfl rfl (.pointer (some ⟨gb, off + k * 9, none⟩)) ?_ ?_
        · rintro w' rfl K Q hK
          go_simp
          exact hK
        try simp only [Act.put, List.setIfInBounds_toArray, List.set_cons_succ, List.set_cons_zero]
        refine plan_takeL rfl rfl (.pointer (some ⟨gb, off + k * 9 + 6, none⟩)) ?_ ?_
        · rintro w' rfl K Q hK
          go_simp
          exact hK
        try simp only [Act.put, List.setIfInBounds_toArray, List.set_cons_succ, List.set_cons_zero]
        refine plan_takeL rfl rfl (.string tx) ?_ ?_
        · rintro w' rfl K Q hK
          go_simp
          exact hK
        try simp only [Act.put, List.setIfInBounds_toArray, List.set_cons_succ, List.set_cons_zero]
        refine plan_takeL rfl rfl (.int .i64 (tx.size : Nat)) ?_ ?_
        · rintro w' rfl K Q hK
          go_simp
          exact hK
        try simp only [Act.put, List.setIfInBounds_toArray, List.set_cons_succ, List.set_cons_zero]
        refine plan_takeL rfl rfl (.int .i64 ((m : Int) + (tx.size : Int))) ?_ ?_
        · rintro w' rfl K Q hK
          go_simp
          exact hK
        try simp only [Act.put, List.setIfInBounds_toArray, List.set_cons_succ, List.set_cons_zero]
        refine plan_takeL rfl rfl (.slice (some ⟨gb, off, none⟩) n cap) ?_ ?_
        · rintro w' rfl K Q hK
          go_simp
          exact hK
        try simp only [Act.put, List.setIfInBounds_toArray, List.set_cons_succ, List.set_cons_zero]
        refine plan_takeL rfl rfl (.int .i64 (k : Nat)) ?_ ?_
        · rintro w' rfl K Q hK
          go_simp
          exact hK
        try simp only [Act.put, List.setIfInBounds_toArray, List.set_cons_succ, List.set_cons_zero]
        refine plan_takeL rfl rfl (.pointer (some ⟨gb, off + k * 9, none⟩)) ?_ ?_
        · rintro w' rfl K Q hK
          go_simp
          exact hK
        try simp only [Act.put, List.setIfInBounds_toArray, List.set_cons_succ, List.set_cons_zero]
        refine plan_takeL rfl rfl (.pointer (some ⟨gb, off + k * 9 + 8, none⟩)) ?_ ?_
        · rintro w' rfl K Q hK
          go_simp
          exact hK
        try simp only [Act.put, List.setIfInBounds_toArray, List.set_cons_succ, List.set_cons_zero]
        refine plan_takeL rfl rfl (.slice ad2 nb cap2) ?_ ?_
        · rintro w' rfl K Q hK
          go_simp
          exact hK
        try simp only [Act.put, List.setIfInBounds_toArray, List.set_cons_succ, List.set_cons_zero]
        refine plan_takeL rfl rfl (.int .i64 (nb : Nat)) ?_ ?_
        · rintro w' rfl K Q hK
          go_simp
          exact hK
        try simp only [Act.put, List.setIfInBounds_toArray, List.set_cons_succ, List.set_cons_zero]
        refine plan_takeL rfl rfl (.int .i64 ((m : Int) + (tx.size : Int) + (nb : Int))) ?_ ?_
        · rintro w' rfl K Q hK
          go_simp
          exact hK
        try simp only [Act.put, List.setIfInBounds_toArray, List.set_cons_succ, List.set_cons_zero]
        refine plan_forceL rfl rfl fun K hK => ?_
        go_simp
        refine hK _ _ rfl ?_
        refine hQ0 _ _ ?_
        clear c6 c8 hK hw1 hw2 hlt
        by_cases h1 : nd ≤ 400
        · have g3 := dec_lt_f (show ¬ (400 : Int) < (nd : Int) by omega)
          have g4 := dec_ltn_f (show ¬ 400 < nd by omega)
          by_cases h2 : m + tx.size + nb ≤ 30000
          · have g5 := dec_lt_f (show ¬ (30000 : Int) < (m : Int) + (tx.size : Int) + (nb : Int) by omega)
            have HST9 := Lib.hid (HNX.out ⟨by omega, by omega, h1⟩)
            have HM9 := Lib.hid h2
            clear h1 h2 hf1 hf2 hf3 hm
            go_wp2
            go_roundw
            case rel => exact ⟨k + 1, m + tx.size + nb, by go_num, by go_num, by have := HLT.out; omega, HM9.out, HST9.out, HNT.out, HKR.out.drew⟩
            case measure => have := HLT.out; simp [intOf]; omega
          · have g5 := dec_lt_t (show (30000 : Int) < (m : Int) + (tx.size : Int) + (nb : Int) by omega)
            clear h1 h2 hm
            go_wp2
            go_ret
            exact ⟨HKR.out.drew, true, rfl, fun h => by cases h⟩
        · have g3 := dec_lt_t (show (400 : Int) < (nd : Int) by omega)
          have g4 := dec_ltn_t (show 400 < nd by omega)
          clear h1 hm
          go_wp2
          go_ret
          exact ⟨HKR.out.drew, true, rfl, fun h => by cases h⟩
      · obtain rfl : k = n := by omega
        have g1 := dec_lt_f (show ¬ (k : Int) < (k : Int) by omega)
        have g2 := dec_ltn_f hlt
        have HF := Lib.hid (show Few L from ⟨by have := HN.out; omega, fun s hs => by
          obtain ⟨j, hj, rfl⟩ := List.getElem_of_mem hs
          exact HFEW.out j hj (by have := HN.out; omega), by
          have h1 := HTOT.out
          rw [HN.out, List.take_length] at h1
          omega⟩)
        clear hlt
        go_wp2
        go_ret
        exact ⟨HKR.out, false, rfl, fun _ => HF.out⟩
  · have f1 := dec_lt_t (show (200 : Int) < (n : Int) by omega)
    have f2 := dec_ltn_t (show 200 < n by omega)
    go_enter Tryz.func10, Tryz.ntmps10
    go_wp2
    go_ret
    exact ⟨Keep.refl _ _, true, rfl, fun h => by cases h⟩
end Go.Proofs.YtbidppjhenfjdaaGreatDoor
namespace Go.Proofs.YtbidppjhenfjdaaGreatDoor
open Go.ChangeShapes Go.WideShapes Go.RowKit
set_option linter.unusedVariables false

/-- The slice value v has the elements xs, each of k cells, which are 'encs x'. -/
def ElemsAt {α : Type} (w : World) (v : Value) (k : Nat) (encs : α → List Value) (xs : List α) : Prop :=
  ∃ ad cap, v = .slice ad xs.length cap ∧ (xs.length ≠ 0 → ∃ b off, ad = some ⟨b, off, none⟩ ∧ ∀ (i : Nat) (x : α), xs[i]? = some x → ∀ j u, (encs x)[j]? = some u → w.cell? ⟨b, off + (i * k + j), none⟩ = some u) ∧ (ad = none → cap = 0) ∧ xs.length ≤ cap

theorem ElemsAt.keep0 {α : Type} {w w' : World} {v : Value} {k : Nat} {encs : α → List Value} {xs : List α} (h : ElemsAt w v k encs xs) (hk : Keep [] w w') : ElemsAt w' v k encs xs := by
  obtain ⟨ad, cap, rfl, h1, h2⟩ := h
  refine ⟨ad, cap, rfl, fun hn => ?_, h2⟩
  obtain ⟨b, off, rfl, hc⟩ := h1 hn
  exact ⟨b, off, rfl, fun i x hx j u hu => hk.cellv (hc i x hx j u hu) (by simp)⟩

theorem ElemsAt.sl {α : Type} {w : World} {v : Value} {f : α → Value} {xs : List α} (h : ElemsAt w v 1 (fun x => [f x]) xs) : SlAt w v xs.length (xs.map f) := by
  obtain ⟨ad, cap, rfl, h1, h2⟩ := h
  refine ⟨ad, cap, rfl, ⟨fun h0 => by simp [List.eq_nil_of_length_eq_zero h0], h2.1⟩, fun hn => ?_⟩
  obtain ⟨b, off, rfl, hc⟩ := h1 hn
  refine ⟨b, off, rfl, fun i u hu => ?_⟩
  rw [List.getElem?_map] at hu
  cases hx : xs[i]? with
  | none => rw [hx] at hu; cases hu
  | some x =>
    rw [hx] at hu
    have := hc i x hx 0 (f x) rfl
    simp at this hu
    rw [← hu]; exact this

theorem addr_plain {a : Addr} (h : a.spot = none) (n : Nat) : a.add n = ⟨a.block, a.off + n, none⟩ := by
  obtain ⟨b, off, spot⟩ := a
  simp at h; subst h
  exact add_plain b off n

section
variable {H : Type} {enc : TypeId × Value → H} {P : Program} {w : World}

end
end Go.Proofs.YtbidppjhenfjdaaGreatDoor
namespace Go.Proofs.YtbidppjhenfjdaaGreatDoor
open Go.ChangeShapes Go.WideShapes Go.RowKit
set_option linter.unusedVariables false
set_option linter.unusedSimpArgs false

theorem cellsStepA : Tryz.prog.cellsOf 40 = 9 := by kernel_rfl
theorem cellsIntA : Tryz.prog.cellsOf 3 = 1 := by kernel_rfl
theorem cellsStrA : Tryz.prog.cellsOf 9 = 1 := by kernel_rfl
theorem cellsIntsA : Tryz.prog.cellsOf 37 = 1 := by kernel_rfl
theorem cellsBytA : Tryz.prog.cellsOf 38 = 1 := by kernel_rfl
theorem cellsU8A : Tryz.prog.cellsOf 5 = 1 := by kernel_rfl
theorem bytesIntA : Tryz.prog.bytesOf 3 = 8 := by kernel_rfl
theorem bytesU8A : Tryz.prog.bytesOf 5 = 1 := by kernel_rfl
theorem i64_wf {n : Int} (h : (Lit.int .i64 n).wf = true) : I64 n := by
  simp only [Lit.wf, Bool.and_eq_true, decide_eq_true_eq] at h
  have h1 : -9223372036854775808 ≤ n := h.1
  have h2 : n ≤ 9223372036854775807 := h.2
  unfold I64
  omega
theorem u8_wf {n : Int} (h : (Lit.int .u8 n).wf = true) : 0 ≤ n ∧ n < 256 := by
  simp only [Lit.wf, Bool.and_eq_true, decide_eq_true_eq] at h
  have h1 : 0 ≤ n := h.1
  have h2 : n ≤ 255 := h.2
  omega
/-- Bytes out of numbers. -/
def byL (zs : List Int) : ByteArray := ⟨(zs.map fun z => UInt8.ofNat z.toNat).toArray⟩
theorem byL_size (zs : List Int) : (byL zs).size = zs.length := by simp [byL, ByteArray.size]
theorem byL_bytV {zs : List Int} (h : ∀ z ∈ zs, 0 ≤ z ∧ z < 256) : bytV (byL zs) = zs.map fun z => Value.int .u8 z := by
  apply List.ext_getElem
  · rw [bytV_len, byL_size, List.length_map]
  · intro j h1 h2
    rw [bytV_len, byL_size] at h1
    have h3 := bytV_at (d := byL zs) (j := j) (by rw [byL_size]; exact h1)
    rw [List.getElem?_eq_getElem (by rw [bytV_len, byL_size]; exact h1)] at h3
    injection h3 with h3
    rw [h3, List.getElem_map]
    have hz := h zs[j] (List.getElem_mem h1)
    have hb : byt (byL zs) j = zs[j].toNat := by
      unfold byL
      rw [mk_byt]
      rw [List.getElem?_map, List.getElem?_eq_getElem h1]
      simp
      omega
    rw [hb]
    congr 1
    omega
theorem addr_one {w : World} {a : Addr} {v : Value} (h : w.cell? (a.add 0) = some v) : a.spot = none := by
  have := World.cell?_spot h
  simpa [Addr.add] using this
theorem addr_is {a : Addr} (h : a.spot = none) : a = ⟨a.block, a.off, none⟩ := by
  obtain ⟨b, off, spot⟩ := a
  simp at h
  subst h
  rfl
section
variable {H : Type} {enc : TypeId × Value → H} {w : World}
/-- A list of numbers that an argument holds. -/
theorem ints_reads {k : IntKind} {t e : TypeId} {n : Nat} {cs : List Value} {y : DataW H × List MemPlace} (ht : Tryz.prog.underlying t = some (.slice e)) (he : Tryz.prog.underlying e = some (.int k)) (hc : Tryz.prog.cellsOf e = 1) (hb : 1 ≤ Tryz.prog.bytesOf e)
    (h : DataW.trod enc Tryz.prog w 0 (fun _ => true) true n t cs = some y) (hw : (y.1.weights Tryz.prog t).all (· ≤ reachBytes) = true) :
    ∃ (v : Value) (zs : List Int), cs = [v] ∧ SlAt w v zs.length (zs.map fun z => Value.int k z) ∧ (∀ z ∈ zs, (Lit.int k z).wf = true) ∧ zs.length ≤ 140737488351232 := by
  rcases open_ints ht he hc h with ⟨rfl, rfl⟩ | ⟨a, len, cap, zs, rfl, _, hl, hm, hlen, rfl, hat, hwf⟩
  · exact ⟨_, [], rfl, ⟨none, 0, rfl, ⟨fun _ => rfl, fun _ => rfl⟩, fun h => absurd rfl h⟩, fun z hz => (by cases hz), Nat.zero_le _⟩
  · simp at hlen
    have htl : (zs.take len).length = len := by rw [List.length_take]; omega
    refine ⟨_, zs.take len, rfl, ?_, fun z hz => hwf z (List.mem_of_mem_take hz), ?_⟩
    · rw [htl]
      refine ⟨some a, cap, rfl, ⟨fun h0 => by rw [h0]; simp, fun h => (by cases h)⟩, fun h0 => ?_⟩
      have hsp := addr_one (hat 0 (by omega))
      refine ⟨a.block, a.off, congrArg some (addr_is hsp), fun i u hu => ?_⟩
      have hi : i < len := by
        have := (List.getElem?_eq_some_iff.1 hu).1
        rw [List.length_map, htl] at this
        exact this
      have h1 := hat i (by omega)
      rw [addr_plain hsp] at h1
      rw [h1, ← hu, List.getElem?_map, List.getElem?_take_of_lt hi, List.getElem?_eq_getElem (by omega)]
      simp [List.getD, List.getElem?_eq_getElem (show i < zs.length by omega)]
    · rw [htl]
      simp only [DataW.weights, ht, List.all_cons, Bool.and_eq_true, decide_eq_true_eq] at hw
      have h1 := hw.1
      have h2 : (lits (H := H) k (zs.take len)).length = len := by simp [lits]; omega
      rw [h2] at h1
      have h3 : len * 1 ≤ (len + (lits (H := H) k (zs.drop len)).length) * Tryz.prog.bytesOf e := Nat.mul_le_mul (by omega) hb
      unfold reachBytes at h1
      omega
set_option maxRecDepth 100000 in
theorem step_reads {n : Nat} {cs : List Value} {y : DataW H × List MemPlace} (h : DataW.trod enc Tryz.prog w 0 (fun _ => true) true n 40 cs = some y) (hw : (y.1.weights Tryz.prog 40).all (· ≤ reachBytes) = true) :
    ∃ (s : Stp) (dv bv : Value), cs = (stV s dv bv).toList ∧ StRd w s dv bv ∧ StpOk s ∧ StpFit s := by
  obtain ⟨xs, m, _, rfl, hl, hlen, hf⟩ := DataW.trod_struct Tryz.underlying40 h
  rw [cellsStepA] at hl
  match xs, hlen, cs, hl with
  | [y0, y1, y2, y3, y4, y5, y6, y7, y8], _, [c0, c1, c2, c3, c4, c5, c6, c7, c8], _ =>
    have g0 := hf 0 _ rfl
    have g1 := hf 1 _ rfl
    have g2 := hf 2 _ rfl
    have g3 := hf 3 _ rfl
    have g4 := hf 4 _ rfl
    have g5 := hf 5 _ rfl
    have g6 := hf 6 _ rfl
    have g7 := hf 7 _ rfl
    have g8 := hf 8 _ rfl
    simp [cellsIntA, cellsStrA, cellsIntsA, cellsBytA] at g0 g1 g2 g3 g4 g5 g6 g7 g8
    simp only [DataW.weights, Tryz.underlying40, List.map_cons, List.map_nil, DataW.weightsEach, List.all_append, Bool.and_eq_true] at hw
    obtain ⟨w0, w1, w2, w3, w4, w5, w6, w7, w8, _⟩ := hw
    obtain ⟨n0, e0, _, k0⟩ := DataW.trod_int Tryz.underlying3 g0
    obtain ⟨n1, e1, _, k1⟩ := DataW.trod_int Tryz.underlying3 g1
    obtain ⟨n2, e2, _, k2⟩ := DataW.trod_int Tryz.underlying3 g2
    obtain ⟨n3, e3, _, k3⟩ := DataW.trod_int Tryz.underlying3 g3
    obtain ⟨n4, e4, _, k4⟩ := DataW.trod_int Tryz.underlying3 g4
    obtain ⟨n5, e5, _, k5⟩ := DataW.trod_int Tryz.underlying3 g5
    obtain ⟨s6, e6, rfl, k6⟩ := DataW.trod_string Tryz.underlying9 g6
    obtain ⟨v7, z7, e7, s7, k7, r7⟩ := ints_reads Tryz.underlying37 Tryz.underlying3 cellsIntA (by rw [bytesIntA]; decide) g7 w7
    obtain ⟨v8, z8, e8, s8, k8, r8⟩ := ints_reads Tryz.underlying38 Tryz.underlying5 cellsU8A (by rw [bytesU8A]; decide) g8 w8
    simp at e0 e1 e2 e3 e4 e5 e6 e7 e8
    subst e0; subst e1; subst e2; subst e3; subst e4; subst e5; subst e6; subst e7; subst e8
    have hb8 : ∀ z ∈ z8, 0 ≤ z ∧ z < 256 := fun z hz => u8_wf (k8 z hz)
    refine ⟨⟨n0, n1, n2, n3, n4, n5, s6, z7, byL z8⟩, c7, c8, rfl, ⟨s7, ?_⟩, ⟨i64_wf k0, i64_wf k1, i64_wf k2, i64_wf k3, i64_wf k4, i64_wf k5, fun z hz => i64_wf (k7 z hz)⟩, ?_, ?_, ?_⟩
    · show SlAt w c8 (byL z8).size (bytV (byL z8))
      rw [byL_size, byL_bytV hb8]
      exact s8
    · simp only [DataW.weights, List.all_cons, Bool.and_eq_true, decide_eq_true_eq] at w6
      have := w6.1
      unfold reachBytes at this
      have e : s6.data.toList.length = s6.size := by rw [Array.length_toList]; rfl
      show s6.size ≤ _
      omega
    · show (byL z8).size ≤ _
      rw [byL_size]
      omega
    · show z7.length ≤ _
      omega
end
end Go.Proofs.YtbidppjhenfjdaaGreatDoor
namespace Go.Proofs.YtbidppjhenfjdaaGreatDoor
open Go.RowKit
set_option linter.unusedVariables false
set_option linter.unusedSimpArgs false

theorem intsV_at {D : List Int} {i : Nat} (h : i < D.length) : (intsV D)[i]? = some (.int .i64 D[i]) := by
  unfold intsV
  rw [List.getElem?_map, List.getElem?_eq_getElem h]
  rfl
/-- Numbers as words. -/
def toksN (D : List Int) : List Tok := D.map Tok.num
/-- The reads of elements of c numbers each: one below the next. -/
def Grp (c : Nat) (W : World) (v : Value) (n : Nat) (D : List Int) : Prop := SlAt W v n (intsV D) ∧ D.length = n * c
theorem Grp.keep0 {c : Nat} {W W' : World} {v : Value} {n : Nat} {D : List Int} (h : Grp c W v n D) (k : Keep [] W W') : Grp c W' v n D := ⟨h.1.keep0 k, h.2⟩
/-- An append's keeping, from the world where the list was new. -/
theorem app_keep0 {W0 W W' : World} {v : Value} {xs : List Tok} (hk : Keep [] W0 W) (h : Toks W W0.heap.size v xs) (h2 : Keep v.ownBlock.toList W W') : Keep [] W0 W' := hk.trans h2 (fun x hx => .inr (h.lt x (by simpa using hx)).1)
theorem flagT_any {W0 : World} (v : Value) (xs : List Tok) (word : ByteArray) (is : Bool) (W : World) (hk : Keep [] W0 W) (h : Toks W W0.heap.size v xs) (hn : xs.length ≤ 1000000) :
    Calls Tryz.prog 35 #[v, .string word, .bool is] W fun e W' => ∃ v', e = .returned v' ∧ Toks W' W0.heap.size v' (xs ++ if is = true then [.str word] else []) ∧ Keep [] W0 W' := by
  refine (flag_any v xs word is _ W h hk.size hn).mono ?_
  rintro e W' ⟨v', rfl, h1, h2⟩
  exact ⟨v', rfl, h1, app_keep0 hk h h2⟩
set_option maxHeartbeats 4000000 in
set_option maxRecDepth 100000 in
theorem dots_any {W0 : World} (v dv : Value) (xs : List Tok) (n : Nat) (D : List Int) (W : World) (hk : Keep [] W0 W) (h : Toks W W0.heap.size v xs) (hd : Grp 2 W0 dv n D) (hn : xs.length + 2 * n ≤ 1000000) :
    Calls Tryz.prog 63 #[v, dv] W fun e W' => ∃ v', e = .returned v' ∧ Toks W' W0.heap.size v' (xs ++ toksN D) ∧ Keep [] W0 W' := by
  have H := Lib.hid h
  have HK := Lib.hid hk
  have HD := Lib.hid hd
  obtain ⟨add, capd, hdv⟩ := hd.1.empty
  subst hdv
  clear hd h hk
  obtain ⟨m, hm⟩ : ∃ m, m = xs.length := ⟨_, rfl⟩
  rw [← hm] at hn
  have HM := Lib.hid hm
  clear hm
  go_enter Tryz.func63, Tryz.ntmps63
  go_upto_region 2 with (fail)
  go_loopw [0, 9] (fun sv iv wr => ∃ k : Nat, iv = .int .i64 k ∧ k ≤ n ∧ Toks wr W0.heap.size sv (xs ++ toksN (D.take (k * 2))) ∧ Keep [] W0 wr) (fun _ iv _ => n - (intOf iv).toNat)
  case atStart => exact ⟨0, rfl, Nat.zero_le _, by simpa [toksN] using H.out, HK.out⟩
  case round =>
    rename World => wr
    obtain ⟨k, rfl, hk, htk, hkr⟩ := hrel
    have HTK := Lib.hid htk
    have HKR := Lib.hid hkr
    clear hkr
    by_cases hlt : k < n
    · have HLT := Lib.hid hlt
      have g1 := dec_lt_t (show (k : Int) < (n : Int) by omega)
      have g2 := dec_ltn_t hlt
      obtain ⟨b, off, cp, e, hc⟩ := (HD.out.1.keep0 HKR.out).at_ (by omega)
      injection e with e1 e2 e3
      subst e1
      clear e2 e3
      have hL := HD.out.2
      have u0 := hc (k * 2) _ (intsV_at (by omega))
      have u1 := hc (k * 2 + 1) _ (intsV_at (by omega))
      rw [← Nat.add_assoc] at u1
      have htk2 : D.take ((k + 1) * 2) = D.take (k * 2) ++ [D[k * 2]'(by omega), D[k * 2 + 1]'(by omega)] := by
        rw [show (k + 1) * 2 = k * 2 + 1 + 1 by omega, List.take_succ_eq_append_getElem (by omega), List.take_succ_eq_append_getElem (by omega), List.append_assoc]
        rfl
      generalize D[k * 2]'(by omega) = x at u0 htk2
      generalize D[k * 2 + 1]'(by omega) = y at u1 htk2
      have HT2 := Lib.hid (show toksN (D.take ((k + 1) * 2)) = toksN (D.take (k * 2)) ++ [.num x, .num y] by rw [htk2]; simp [toksN])
      obtain ⟨ad, cap, hv⟩ := htk.sl.empty
      obtain ⟨q, hq⟩ : ∃ q, q = (xs ++ toksN (D.take (k * 2))).length := ⟨_, rfl⟩
      have hql : q ≤ m + 2 * k := by
        rw [hq, List.length_append, ← HM.out]
        simp [toksN]
        omega
      rw [← hq] at hv
      have HQ := Lib.hid hq
      subst hv
      clear htk htk2 hc hL hq hlt
      obtain ⟨w5, hw5⟩ : ∃ w5, w5 = wr.alloc (.cells #[.int .i64 x, .int .i64 y] 42) := ⟨_, rfl⟩
      have hk5 : Keep [] wr w5 := by rw [hw5]; exact (Keep.refl _ _).alloc _
      have HT5 := Lib.hid (HTK.out.keep hk5 (by simp))
      have HK5 := Lib.hid (HKR.out.trans0 hk5)
      have hb5 : w5.heap[wr.heap.size]? = some (.cells #[.int .i64 x, .int .i64 y] 42 (0, 0)) := by rw [hw5]; exact World.alloc_heap_new wr _
      obtain ⟨v6, w6, hap, hpost⟩ := any_append (W := w5) [.num x, .num y] HT5.out HK5.out.size (by rw [← HQ.out]; simp; have := HLT.out; omega)
      have hap' : (Builtin.append_ #[89, 89] 89 #[.slice ad q cap, .slice (some ⟨w5.heap.size, 0, none⟩) 2 2]).run Tryz.prog (w5.alloc (.cells #[.iface 3 (.int .i64 x), .iface 3 (.int .i64 y)] 20)) = .ok v6 w6 := hap
      have HT6 := Lib.hid (show Toks w6 W0.heap.size v6 (xs ++ toksN (D.take ((k + 1) * 2))) by rw [HT2.out, ← List.append_assoc]; exact Toks.app hpost)
      have HK6 := Lib.hid (show Keep [] W0 w6 from app_keep0 (HK5.out.alloc _) (HT5.out.keep ((Keep.refl [] _).alloc _) (by simp)) hpost.2.1)
      have f0 := cell_of_block hb5 0
      have f1 := cell_of_block hb5 1
      simp at f0 f1
      obtain ⟨bb, hbb⟩ : ∃ bb, bb = wr.heap.size := ⟨_, rfl⟩
      rw [← hbb] at f0 f1
      clear hk5 hb5 hap hpost
      go_upto_region 4 with (fail)
      rw [← hw5, ← hbb]
      clear hw5 hbb u0 u1
      go_wp2_with (with_reducible refine park_append 13 20 _ rfl ?_)
      refine wpList_append_eq rfl (.tmp 13) (.tmp 20) 89 rfl rfl rfl hap' ?_
      go_wp2
      go_roundw
      case rel => exact ⟨k + 1, by go_num, by have := HLT.out; omega, HT6.out, HK6.out⟩
      case measure => have := HLT.out; simp [intOf]; omega
    · obtain rfl : k = n := by omega
      have g1 := dec_lt_f (show ¬ (k : Int) < (k : Int) by omega)
      have g2 := dec_ltn_f hlt
      have hfi : toksN (D.take (k * 2)) = toksN D := by rw [List.take_of_length_le (by have := HD.out.2; omega)]
      rw [hfi] at HTK
      obtain ⟨ad, cap, hv⟩ := HTK.out.sl.empty
      obtain ⟨q, hq⟩ : ∃ q, q = (xs ++ toksN D).length := ⟨_, rfl⟩
      rw [← hq] at hv
      clear hq hfi htk
      subst hv
      clear hlt
      go_wp2
      go_ret
      exact ⟨_, rfl, HTK.out, HKR.out⟩
set_option maxHeartbeats 4000000 in
set_option maxRecDepth 100000 in
theorem numbers_any {W0 : World} (v dv : Value) (xs : List Tok) (n : Nat) (D : List Int) (W : World) (hk : Keep [] W0 W) (h : Toks W W0.heap.size v xs) (hd : Grp 1 W0 dv n D) (hn : xs.length + n ≤ 1000000) :
    Calls Tryz.prog 64 #[v, dv] W fun e W' => ∃ v', e = .returned v' ∧ Toks W' W0.heap.size v' (xs ++ toksN D) ∧ Keep [] W0 W' := by
  have H := Lib.hid h
  have HK := Lib.hid hk
  have HD := Lib.hid hd
  obtain ⟨add, capd, hdv⟩ := hd.1.empty
  subst hdv
  clear hd h hk
  obtain ⟨m, hm⟩ : ∃ m, m = xs.length := ⟨_, rfl⟩
  rw [← hm] at hn
  have HM := Lib.hid hm
  clear hm
  go_enter Tryz.func64, Tryz.ntmps64
  go_upto_region 2 with (fail)
  go_loopw [0, 9] (fun sv iv wr => ∃ k : Nat, iv = .int .i64 k ∧ k ≤ n ∧ Toks wr W0.heap.size sv (xs ++ toksN (D.take k)) ∧ Keep [] W0 wr) (fun _ iv _ => n - (intOf iv).toNat)
  case atStart => exact ⟨0, rfl, Nat.zero_le _, by simpa [toksN] using H.out, HK.out⟩
  case round =>
    rename World => wr
    obtain ⟨k, rfl, hk, htk, hkr⟩ := hrel
    have HTK := Lib.hid htk
    have HKR := Lib.hid hkr
    clear hkr
    by_cases hlt : k < n
    · have HLT := Lib.hid hlt
      have g1 := dec_lt_t (show (k : Int) < (n : Int) by omega)
      have g2 := dec_ltn_t hlt
      obtain ⟨b, off, cp, e, hc⟩ := (HD.out.1.keep0 HKR.out).at_ (by omega)
      injection e with e1 e2 e3
      subst e1
      clear e2 e3
      have hL := HD.out.2
      have u0 := hc k _ (intsV_at (by omega))
      have htk2 : D.take (k + 1) = D.take k ++ [D[k]'(by omega)] := List.take_succ_eq_append_getElem (by omega)
      generalize D[k]'(by omega) = x at u0 htk2
      have HT2 := Lib.hid (show toksN (D.take (k + 1)) = toksN (D.take k) ++ [.num x] by rw [htk2]; simp [toksN])
      obtain ⟨ad, cap, hv⟩ := htk.sl.empty
      obtain ⟨q, hq⟩ : ∃ q, q = (xs ++ toksN (D.take k)).length := ⟨_, rfl⟩
      have hql : q ≤ m + k := by
        rw [hq, List.length_append, ← HM.out]
        simp [toksN]
        omega
      rw [← hq] at hv
      have HQ := Lib.hid hq
      subst hv
      clear htk htk2 hc hL hq hlt
      obtain ⟨v6, w6, hap, hpost⟩ := any_append (W := wr) [.num x] HTK.out HKR.out.size (by rw [← HQ.out]; simp; have := HLT.out; omega)
      have hap' : (Builtin.append_ #[89, 89] 89 #[.slice ad q cap, .slice (some ⟨wr.heap.size, 0, none⟩) 1 1]).run Tryz.prog (wr.alloc (.cells #[.iface 3 (.int .i64 x)] 20)) = .ok v6 w6 := hap
      have HT6 := Lib.hid (show Toks w6 W0.heap.size v6 (xs ++ toksN (D.take (k + 1))) by rw [HT2.out, ← List.append_assoc]; exact Toks.app hpost)
      have HK6 := Lib.hid (show Keep [] W0 w6 from app_keep0 (HKR.out.alloc _) (HTK.out.keep ((Keep.refl [] _).alloc _) (by simp)) hpost.2.1)
      clear hap hpost
      go_wp2_with (with_reducible refine park_append 13 16 _ rfl ?_)
      refine wpList_append_eq rfl (.tmp 13) (.tmp 16) 89 rfl rfl rfl hap' ?_
      go_wp2
      go_roundw
      case rel => exact ⟨k + 1, by go_num, by have := HLT.out; omega, HT6.out, HK6.out⟩
      case measure => have := HLT.out; simp [intOf]; omega
    · obtain rfl : k = n := by omega
      have g1 := dec_lt_f (show ¬ (k : Int) < (k : Int) by omega)
      have g2 := dec_ltn_f hlt
      have hfi : toksN (D.take k) = toksN D := by rw [List.take_of_length_le (by have := HD.out.2; omega)]
      rw [hfi] at HTK
      obtain ⟨ad, cap, hv⟩ := HTK.out.sl.empty
      obtain ⟨q, hq⟩ : ∃ q, q = (xs ++ toksN D).length := ⟨_, rfl⟩
      rw [← hq] at hv
      clear hq hfi htk
      subst hv
      clear hlt
      go_wp2
      go_ret
      exact ⟨_, rfl, HTK.out, HKR.out⟩
end Go.Proofs.YtbidppjhenfjdaaGreatDoor
namespace Go.Proofs.YtbidppjhenfjdaaGreatDoor
open Go.RowKit
set_option linter.unusedVariables false
set_option linter.unusedSimpArgs false

/-- An operation. -/
structure OpN where
  d1 : Int
  d2 : Int
  deps : List Int
  nd : Nat
  kind : Int
  i1 : Int
  i2 : Int
  r1 : Int
  r2 : Int
  text : ByteArray
  gone : List Int
  ng : Nat
  site : Int
def opV (o : OpN) (dv gv : Value) : Array Value := #[.int .i64 o.d1, .int .i64 o.d2, dv, .int .i64 o.kind, .int .i64 o.i1, .int .i64 o.i2, .int .i64 o.r1, .int .i64 o.r2, .string o.text, gv, .int .i64 o.site]
def OpRd (W : World) (o : OpN) (dv gv : Value) : Prop := Grp 2 W dv o.nd o.deps ∧ Grp 3 W gv o.ng o.gone
theorem OpRd.keep0 {W W' : World} {o : OpN} {dv gv : Value} (h : OpRd W o dv gv) (k : Keep [] W W') : OpRd W' o dv gv := ⟨h.1.keep0 k, h.2.keep0 k⟩
/-- An operation's words. -/
def opA (o : OpN) : List Tok := [.str in2, .str ⟨#[111, 112]⟩, .num o.d1, .num o.d2, .str ⟨#[97, 102, 116, 101, 114]⟩] ++ toksN o.deps
def opZ (o : OpN) : List Tok :=
  if o.kind = 1 then [.str ⟨#[105, 110, 115, 101, 114, 116]⟩, .num o.i1, .num o.i2, .str ⟨#[98, 101, 104, 105, 110, 100]⟩, .num o.r1, .num o.r2, .str (quo o.text)]
  else if o.kind = 2 then .str ⟨#[100, 101, 108, 101, 116, 101]⟩ :: toksN o.gone
  else if o.kind = 3 then [.str ⟨#[106, 111, 105, 110]⟩, .num o.site]
  else if o.kind = 4 then [.str ⟨#[108, 101, 97, 118, 101]⟩]
  else [.str ⟨#[107, 105, 110, 100]⟩, .num o.kind]
def opT (o : OpN) : List Tok := opA o ++ opZ o
def OpFew (o : OpN) : Prop := o.nd ≤ 10000 ∧ o.ng ≤ 10000 ∧ o.text.size ≤ 1000000
theorem Toks.low {W : World} {base base' : Nat} {v : Value} {xs : List Tok} (h : Toks W base v xs) (hb : base' ≤ base) : Toks W base' v xs := by
  refine ⟨h.1, ?_⟩
  rcases h.2 with h0 | ⟨g, cap, cur, e1, e2, e3⟩
  · exact .inl h0
  · exact .inr ⟨g, cap, cur, e1, Nat.le_trans hb e2, e3⟩
theorem toksN_len (D : List Int) : (toksN D).length = D.length := by simp [toksN]
set_option maxHeartbeats 16000000 in
set_option maxRecDepth 100000 in
theorem operation_any (o : OpN) (dv gv : Value) (W : World) (h : OpRd W o dv gv) (hf : OpFew o) (hT : TQ W) :
    Calls Tryz.prog 33 #[.agg (opV o dv gv)] W fun e W' => ∃ v', e = .returned v' ∧ Toks W' W.heap.size v' (opT o) ∧ Keep [] W W' := by
  have HR := Lib.hid h
  have HF := Lib.hid hf
  have HT := Lib.hid hT
  obtain ⟨add, capd, hdv⟩ := h.1.1.empty
  obtain ⟨adg, capg, hgv⟩ := h.2.1.empty
  subst hdv
  subst hgv
  have HO1 := Lib.hid (show opT o = opA o ++ opZ o from rfl)
  have HO2 := Lib.hid (show opA o = [.str in2, .str ⟨#[111, 112]⟩, .num o.d1, .num o.d2, .str ⟨#[97, 102, 116, 101, 114]⟩] ++ toksN o.deps from rfl)
  have HO3 := Lib.hid (show opZ o = (
  if o.kind = 1 then [.str ⟨#[105, 110, 115, 101, 114, 116]⟩, .num o.i1, .num o.i2, .str ⟨#[98, 101, 104, 105, 110, 100]⟩, .num o.r1, .num o.r2, .str (quo o.text)]
  else if o.kind = 2 then .str ⟨#[100, 101, 108, 101, 116, 101]⟩ :: toksN o.gone
  else if o.kind = 3 then [.str ⟨#[106, 111, 105, 110]⟩, .num o.site]
  else if o.kind = 4 then [.str ⟨#[108, 101, 97, 118, 101]⟩]
  else [.str ⟨#[107, 105, 110, 100]⟩, .num o.kind]) from rfl)
  have HAL := Lib.hid (show (opA o).length ≤ 20005 by
    have h1 := h.1.2
    have h2 := hf.1
    rw [HO2.out, List.length_append, toksN_len]
    simp
    omega)
  unfold opV
  obtain ⟨od, hod⟩ : ∃ od, od = opA o := ⟨_, rfl⟩
  obtain ⟨ot, hot⟩ : ∃ ot, ot = opT o := ⟨_, rfl⟩
  obtain ⟨oz, hoz⟩ : ∃ oz, oz = opZ o := ⟨_, rfl⟩
  rw [← hot, ← hod, ← hoz] at HO1
  rw [← hod] at HO2 HAL
  rw [← hoz] at HO3
  rw [← hot]
  clear hot hod hoz h hf hT
  obtain ⟨d1, d2, deps, nd, kd, i1, i2, r1, r2, tx, gone, ng, st⟩ := o
  simp only at HR HF HO1 HO2 HO3 HAL ⊢
  go_enter Tryz.func33, Tryz.ntmps33
  go_upto_region 1 with (fail)
  obtain ⟨w1, hw1⟩ : ∃ w1, w1 = W.alloc (.cells #[.int .i64 d1, .int .i64 d2, .slice add nd capd, .int .i64 kd, .int .i64 i1, .int .i64 i2, .int .i64 r1, .int .i64 r2, .string tx, .slice adg ng capg, .int .i64 st] 49) := ⟨_, rfl⟩
  have hk1 : Keep [] W w1 := by rw [hw1]; exact (Keep.refl _ _).alloc _
  have hb1 : w1.heap[W.heap.size]? = some (.cells #[.int .i64 d1, .int .i64 d2, .slice add nd capd, .int .i64 kd, .int .i64 i1, .int .i64 i2, .int .i64 r1, .int .i64 r2, .string tx, .slice adg ng capg, .int .i64 st] 49 (0, 0)) := by rw [hw1]; exact World.alloc_heap_new W _
  rw [← hw1]
  obtain ⟨bx, hbx⟩ : ∃ bx, bx = W.heap.size := ⟨_, rfl⟩
  rw [← hbx] at hb1 ⊢
  have HK1 := Lib.hid hk1
  have HB1 := Lib.hid hb1
  have HBX := Lib.hid hbx
  clear hw1 hk1 hbx
  have c0 := cell_of_block hb1 0
  have c1 := cell_of_block hb1 1
  have c2 := cell_of_block hb1 2
  simp at c0 c1 c2
  have hblt : bx < w1.heap.size := lt_of_block hb1
  clear hb1
  go_wp2_with fail
  obtain ⟨w2, hw2⟩ : ∃ w2, w2 = w1.alloc (.cells #[.iface 9 (.string ⟨#[32, 32]⟩), .iface 9 (.string ⟨#[111, 112]⟩), .iface 3 (.int .i64 d1), .iface 3 (.int .i64 d2), .iface 9 (.string ⟨#[97, 102, 116, 101, 114]⟩)] 20) := ⟨_, rfl⟩
  have hk2 : Keep [] w1 w2 := by rw [hw2]; exact (Keep.refl _ _).alloc _
  have ht2 : Toks w2 w1.heap.size (.slice (some ⟨w1.heap.size, 0, none⟩) 5 5) [.str in2, .str ⟨#[111, 112]⟩, .num d1, .num d2, .str ⟨#[97, 102, 116, 101, 114]⟩] := by rw [hw2]; exact toks_new [.str in2, .str ⟨#[111, 112]⟩, .num d1, .num d2, .str ⟨#[97, 102, 116, 101, 114]⟩] (Nat.le_refl _) (show 5 ≤ maxLen by decide)
  rw [← hw2]
  clear c2
  have c2 := cell_of_block (hk2.at_ HB1.out (by simp)) 2
  simp at c2
  go_wp2_with fail
  refine (dots_any _ _ [.str in2, .str ⟨#[111, 112]⟩, .num d1, .num d2, .str ⟨#[97, 102, 116, 101, 114]⟩] nd deps w2 hk2 ht2 (HR.out.1.keep0 HK1.out) (by have := HF.out.1; show 5 + 2 * nd ≤ _; simp only at this; omega)).mono ?_
  rintro e w3 ⟨v3, rfl, ht3, hk3⟩
  rw [← HO2.out] at ht3
  have HT3 := Lib.hid ht3
  have HK3 := Lib.hid hk3
  have HB3 := Lib.hid (hk3.at_ HB1.out (by simp))
  obtain ⟨ad3, cap3, hv3⟩ := ht3.sl.empty
  obtain ⟨n3, hn3⟩ : ∃ n3, n3 = od.length := ⟨_, rfl⟩
  rw [← hn3] at hv3 HAL
  have HN3 := Lib.hid hn3
  subst hv3
  clear c0 c1 c2 hblt hw2 hk2 ht2 ht3 hk3 hn3
  have c3 := cell_of_block HB3.out 3
  have c4 := cell_of_block HB3.out 4
  have c5 := cell_of_block HB3.out 5
  have c6 := cell_of_block HB3.out 6
  have c7 := cell_of_block HB3.out 7
  have c8 := cell_of_block HB3.out 8
  have c9 := cell_of_block HB3.out 9
  have c10 := cell_of_block HB3.out 10
  simp at c3 c4 c5 c6 c7 c8 c9 c10
  by_cases k1 : kd = 1
  · rw [if_pos k1] at HO3
    have g1 : (kd == 1) = true := by simpa using k1
    have HKD := Lib.hid k1
    clear k1
    go_upto_region 4 with (fail)
    clear c3 c4 c5 c6 c7 c8 c9 c10
    refine wp_plan (fun w' => Keep [] w1 w' ∧ w'.heap[bx]? = some (.cells #[.int .i64 d1, .int .i64 d2, .slice add nd capd, .int .i64 kd, .int .i64 i1, .int .i64 i2, .int .i64 r1, .int .i64 r2, .string tx, .slice adg ng capg, .int .i64 st] 49 (0, 0))) (.take 0 (.take 1 (.take 2 (.take 3 (.take 4 (.take 5 (.take 6 (.take 7 (.take 8 (.take 9 (.take 10 (.take 11 (.take 12 (.take 13 (.take 14 (.take 15 (.take 16 (.take 17 (.take 18 (.take 19 (.take 20 (.force 21 (.force 22 (.force 23 (.force 24 (.force 25 .done)))))))))))))))))))))))))) (by kernel_rfl) (by kernel_rfl) ⟨HK3.out.drew, HB3.out⟩ ?_
    intro Q0 hQ0
    refine plan_takeL rfl rfl (.slice ad3 n3 cap3) ?_ ?_
    · rintro w' ⟨y1, y2⟩ K Q hK
      have x4 := cell_of_block y2 4
      have x5 := cell_of_block y2 5
      have x6 := cell_of_block y2 6
      have x7 := cell_of_block y2 7
      have x8 := cell_of_block y2 8
      simp at x4 x5 x6 x7 x8
      go_simp
      exact hK
    try simp only [Act.put, List.setIfInBounds_toArray, List.set_cons_succ, List.set_cons_zero]
    refine plan_takeL rfl rfl (.iface 9 (.string ⟨#[105, 110, 115, 101, 114, 116]⟩)) ?_ ?_
    · rintro w' ⟨y1, y2⟩ K Q hK
      have x4 := cell_of_block y2 4
      have x5 := cell_of_block y2 5
      have x6 := cell_of_block y2 6
      have x7 := cell_of_block y2 7
      have x8 := cell_of_block y2 8
      simp at x4 x5 x6 x7 x8
      go_simp
      exact hK
    try simp only [Act.put, List.setIfInBounds_toArray, List.set_cons_succ, List.set_cons_zero]
    refine plan_takeL rfl rfl (.pointer (some ⟨bx, 4, none⟩)) ?_ ?_
    · rintro w' ⟨y1, y2⟩ K Q hK
      have x4 := cell_of_block y2 4
      have x5 := cell_of_block y2 5
      have x6 := cell_of_block y2 6
      have x7 := cell_of_block y2 7
      have x8 := cell_of_block y2 8
      simp at x4 x5 x6 x7 x8
      go_simp
      exact hK
    try simp only [Act.put, List.setIfInBounds_toArray, List.set_cons_succ, List.set_cons_zero]
    refine plan_takeL rfl rfl (.pointer (some ⟨bx, 4, none⟩)) ?_ ?_
    · rintro w' ⟨y1, y2⟩ K Q hK
      have x4 := cell_of_block y2 4
      have x5 := cell_of_block y2 5
      have x6 := cell_of_block y2 6
      have x7 := cell_of_block y2 7
      have x8 := cell_of_block y2 8
      simp at x4 x5 x6 x7 x8
      go_simp
      exact hK
    try simp only [Act.put, List.setIfInBounds_toArray, List.set_cons_succ, List.set_cons_zero]
    refine plan_takeL rfl rfl (.int .i64 i1) ?_ ?_
    · rintro w' ⟨y1, y2⟩ K Q hK
      have x4 := cell_of_block y2 4
      have x5 := cell_of_block y2 5
      have x6 := cell_of_block y2 6
      have x7 := cell_of_block y2 7
      have x8 := cell_of_block y2 8
      simp at x4 x5 x6 x7 x8
      go_simp
      exact hK
    try simp only [Act.put, List.setIfInBounds_toArray, List.set_cons_succ, List.set_cons_zero]
    refine plan_takeL rfl rfl (.iface 3 (.int .i64 i1)) ?_ ?_
    · rintro w' ⟨y1, y2⟩ K Q hK
      have x4 := cell_of_block y2 4
      have x5 := cell_of_block y2 5
      have x6 := cell_of_block y2 6
      have x7 := cell_of_block y2 7
      have x8 := cell_of_block y2 8
      simp at x4 x5 x6 x7 x8
      go_simp
      exact hK
    try simp only [Act.put, List.setIfInBounds_toArray, List.set_cons_succ, List.set_cons_zero]
    refine plan_takeL rfl rfl (.pointer (some ⟨bx, 4, none⟩)) ?_ ?_
    · rintro w' ⟨y1, y2⟩ K Q hK
      have x4 := cell_of_block y2 4
      have x5 := cell_of_block y2 5
      have x6 := cell_of_block y2 6
      have x7 := cell_of_block y2 7
      have x8 := cell_of_block y2 8
      simp at x4 x5 x6 x7 x8
      go_simp
      exact hK
    try simp only [Act.put, List.setIfInBounds_toArray, List.set_cons_succ, List.set_cons_zero]
    refine plan_takeL rfl rfl (.pointer (some ⟨bx, 5, none⟩)) ?_ ?_
    · rintro w' ⟨y1, y2⟩ K Q hK
      have x4 := cell_of_block y2 4
      have x5 := cell_of_block y2 5
      have x6 := cell_of_block y2 6
      have x7 := cell_of_block y2 7
      have x8 := cell_of_block y2 8
      simp at x4 x5 x6 x7 x8
      go_simp
      exact hK
    try simp only [Act.put, List.setIfInBounds_toArray, List.set_cons_succ, List.set_cons_zero]
    refine plan_takeL rfl rfl (.int .i64 i2) ?_ ?_
    · rintro w' ⟨y1, y2⟩ K Q hK
      have x4 := cell_of_block y2 4
      have x5 := cell_of_block y2 5
      have x6 := cell_of_block y2 6
      have x7 := cell_of_block y2 7
      have x8 := cell_of_block y2 8
      simp at x4 x5 x6 x7 x8
      go_simp
      exact hK
    try simp only [Act.put, List.setIfInBounds_toArray, List.set_cons_succ, List.set_cons_zero]
    refine plan_takeL rfl rfl (.iface 3 (.int .i64 i2)) ?_ ?_
    · rintro w' ⟨y1, y2⟩ K Q hK
      have x4 := cell_of_block y2 4
      have x5 := cell_of_block y2 5
      have x6 := cell_of_block y2 6
      have x7 := cell_of_block y2 7
      have x8 := cell_of_block y2 8
      simp at x4 x5 x6 x7 x8
      go_simp
      exact hK
    try simp only [Act.put, List.setIfInBounds_toArray, List.set_cons_succ, List.set_cons_zero]
    refine plan_takeL rfl rfl (.iface 9 (.string ⟨#[98, 101, 104, 105, 110, 100]⟩)) ?_ ?_
    · rintro w' ⟨y1, y2⟩ K Q hK
      have x4 := cell_of_block y2 4
      have x5 := cell_of_block y2 5
      have x6 := cell_of_block y2 6
      have x7 := cell_of_block y2 7
      have x8 := cell_of_block y2 8
      simp at x4 x5 x6 x7 x8
      go_simp
      exact hK
    try simp only [Act.put, List.setIfInBounds_toArray, List.set_cons_succ, List.set_cons_zero]
    refine plan_takeL rfl rfl (.pointer (some ⟨bx, 6, none⟩)) ?_ ?_
    · rintro w' ⟨y1, y2⟩ K Q hK
      have x4 := cell_of_block y2 4
      have x5 := cell_of_block y2 5
      have x6 := cell_of_block y2 6
      have x7 := cell_of_block y2 7
      have x8 := cell_of_block y2 8
      simp at x4 x5 x6 x7 x8
      go_simp
      exact hK
    try simp only [Act.put, List.setIfInBounds_toArray, List.set_cons_succ, List.set_cons_zero]
    refine plan_takeL rfl rfl (.pointer (some ⟨bx, 6, none⟩)) ?_ ?_
    · rintro w' ⟨y1, y2⟩ K Q hK
      have x4 := cell_of_block y2 4
      have x5 := cell_of_block y2 5
      have x6 := cell_of_block y2 6
      have x7 := cell_of_block y2 7
      have x8 := cell_of_block y2 8
      simp at x4 x5 x6 x7 x8
      go_simp
      exact hK
    try simp only [Act.put, List.setIfInBounds_toArray, List.set_cons_succ, List.set_cons_zero]
    refine plan_takeL rfl rfl (.int .i64 r1) ?_ ?_
    · rintro w' ⟨y1, y2⟩ K Q hK
      have x4 := cell_of_block y2 4
      have x5 := cell_of_block y2 5
      have x6 := cell_of_block y2 6
      have x7 := cell_of_block y2 7
      have x8 := cell_of_block y2 8
      simp at x4 x5 x6 x7 x8
      go_simp
      exact hK
    try simp only [Act.put, List.setIfInBounds_toArray, List.set_cons_succ, List.set_cons_zero]
    refine plan_takeL rfl rfl (.iface 3 (.int .i64 r1)) ?_ ?_
    · rintro w' ⟨y1, y2⟩ K Q hK
      have x4 := cell_of_block y2 4
      have x5 := cell_of_block y2 5
      have x6 := cell_of_block y2 6
      have x7 := cell_of_block y2 7
      have x8 := cell_of_block y2 8
      simp at x4 x5 x6 x7 x8
      go_simp
      exact hK
    try simp only [Act.put, List.setIfInBounds_toArray, List.set_cons_succ, List.set_cons_zero]
    refine plan_takeL rfl rfl (.pointer (some ⟨bx, 6, none⟩)) ?_ ?_
    · rintro w' ⟨y1, y2⟩ K Q hK
      have x4 := cell_of_block y2 4
      have x5 := cell_of_block y2 5
      have x6 := cell_of_block y2 6
      have x7 := cell_of_block y2 7
      have x8 := cell_of_block y2 8
      simp at x4 x5 x6 x7 x8
      go_simp
      exact hK
    try simp only [Act.put, List.setIfInBounds_toArray, List.set_cons_succ, List.set_cons_zero]
    refine plan_takeL rfl rfl (.pointer (some ⟨bx, 7, none⟩)) ?_ ?_
    · rintro w' ⟨y1, y2⟩ K Q hK
      have x4 := cell_of_block y2 4
      have x5 := cell_of_block y2 5
      have x6 := cell_of_block y2 6
      have x7 := cell_of_block y2 7
      have x8 := cell_of_block y2 8
      simp at x4 x5 x6 x7 x8
      go_simp
      exact hK
    try simp only [Act.put, List.setIfInBounds_toArray, List.set_cons_succ, List.set_cons_zero]
    refine plan_takeL rfl rfl (.int .i64 r2) ?_ ?_
    · rintro w' ⟨y1, y2⟩ K Q hK
      have x4 := cell_of_block y2 4
      have x5 := cell_of_block y2 5
      have x6 := cell_of_block y2 6
      have x7 := cell_of_block y2 7
      have x8 := cell_of_block y2 8
      simp at x4 x5 x6 x7 x8
      go_simp
      exact hK
    try simp only [Act.put, List.setIfInBounds_toArray, List.set_cons_succ, List.set_cons_zero]
    refine plan_takeL rfl rfl (.iface 3 (.int .i64 r2)) ?_ ?_
    · rintro w' ⟨y1, y2⟩ K Q hK
      have x4 := cell_of_block y2 4
      have x5 := cell_of_block y2 5
      have x6 := cell_of_block y2 6
      have x7 := cell_of_block y2 7
      have x8 := cell_of_block y2 8
      simp at x4 x5 x6 x7 x8
      go_simp
      exact hK
    try simp only [Act.put, List.setIfInBounds_toArray, List.set_cons_succ, List.set_cons_zero]
    refine plan_takeL rfl rfl (.pointer (some ⟨bx, 8, none⟩)) ?_ ?_
    · rintro w' ⟨y1, y2⟩ K Q hK
      have x4 := cell_of_block y2 4
      have x5 := cell_of_block y2 5
      have x6 := cell_of_block y2 6
      have x7 := cell_of_block y2 7
      have x8 := cell_of_block y2 8
      simp at x4 x5 x6 x7 x8
      go_simp
      exact hK
    try simp only [Act.put, List.setIfInBounds_toArray, List.set_cons_succ, List.set_cons_zero]
    refine plan_takeL rfl rfl (.string tx) ?_ ?_
    · rintro w' ⟨y1, y2⟩ K Q hK
      have x4 := cell_of_block y2 4
      have x5 := cell_of_block y2 5
      have x6 := cell_of_block y2 6
      have x7 := cell_of_block y2 7
      have x8 := cell_of_block y2 8
      simp at x4 x5 x6 x7 x8
      go_simp
      exact hK
    try simp only [Act.put, List.setIfInBounds_toArray, List.set_cons_succ, List.set_cons_zero]
    refine plan_forceL rfl rfl fun K hK => ?_
    go_simp
    refine (quote_any tx _ (by have := HF.out.2.2; simp only at this; omega) (HT.out.keep0 (HK1.out.trans0 HK3.out.drew)).1).mono ?_
    rintro e w4 ⟨rfl, hk4⟩
    have hk4' : Keep [] w3 w4 := ((Keep.refl [] w3).drew).trans0 hk4
    have HT4 := Lib.hid (HT3.out.keep hk4' (by simp))
    have HK4 := Lib.hid (HK3.out.trans0 hk4')
    have HB4 := Lib.hid (hk4'.at_ HB3.out (by simp))
    clear hk4 hk4'
    obtain ⟨q, hq⟩ : ∃ q, q = quo tx := ⟨_, rfl⟩
    rw [← hq] at HO3 ⊢
    clear hq
    refine hK _ _ ⟨HK4.out, HB4.out⟩ ?_
    try simp only [Act.put, List.setIfInBounds_toArray, List.set_cons_succ, List.set_cons_zero]
    clear hK K
    refine plan_forceL rfl rfl fun K hK => ?_
    go_simp
    refine hK _ _ ⟨HK4.out, HB4.out⟩ ?_
    try simp only [Act.put, List.setIfInBounds_toArray, List.set_cons_succ, List.set_cons_zero]
    clear hK K
    refine plan_forceL rfl rfl fun K hK => ?_
    go_simp
    have k5 : Keep [] w4 (w4.alloc (.cells #[.iface 9 (.string ⟨#[105, 110, 115, 101, 114, 116]⟩), .iface 3 (.int .i64 i1), .iface 3 (.int .i64 i2), .iface 9 (.string ⟨#[98, 101, 104, 105, 110, 100]⟩), .iface 3 (.int .i64 r1), .iface 3 (.int .i64 r2), .iface 9 (.string q)] 20)) := (Keep.refl _ _).alloc _
    obtain ⟨v9, w9, hap, hpost⟩ := any_append (W := w4) [.str ⟨#[105, 110, 115, 101, 114, 116]⟩, .num i1, .num i2, .str ⟨#[98, 101, 104, 105, 110, 100]⟩, .num r1, .num r2, .str q] HT4.out HK4.out.size (by have := HAL.out; rw [← HN3.out]; show n3 + 7 ≤ _; omega)
    rw [← HN3.out] at hpost
    have hap' : (Builtin.append_ #[89, 89] 89 #[.slice ad3 n3 cap3, .slice (some ⟨w4.heap.size, 0, none⟩) 7 7]).run Tryz.prog (w4.alloc (.cells #[.iface 9 (.string ⟨#[105, 110, 115, 101, 114, 116]⟩), .iface 3 (.int .i64 i1), .iface 3 (.int .i64 i2), .iface 9 (.string ⟨#[98, 101, 104, 105, 110, 100]⟩), .iface 3 (.int .i64 r1), .iface 3 (.int .i64 r2), .iface 9 (.string q)] 20)) = .ok v9 w9 := hap
    refine hK _ _ ⟨HK4.out.trans0 k5, k5.at_ HB4.out (by simp)⟩ ?_
    try simp only [Act.put, List.setIfInBounds_toArray, List.set_cons_succ, List.set_cons_zero]
    clear hK K
    have HK9 := Lib.hid (show Keep [] w1 w9 from app_keep0 (HK4.out.trans0 k5) (HT4.out.keep k5 (by simp)) hpost.2.1)
    have hb9 : w9.heap[bx]? = _ := hpost.2.1.at_ (k5.at_ HB4.out (by simp)) (own_not_ty HT4.out HB4.out (by decide))
    have HB9 := Lib.hid hb9
    have HT9 := Lib.hid (show Toks w9 w1.heap.size v9 ot by rw [HO1.out, HO3.out]; exact Toks.app (by rw [← HN3.out]; exact hpost))
    clear hpost hb9 k5 hap
    refine plan_forceL rfl rfl fun K hK => ?_
    refine wp_append_eq _ _ _ rfl rfl rfl hap' (hK _ _ ⟨HK9.out, HB9.out⟩ ?_)
    try simp only [Act.put, List.setIfInBounds_toArray, List.set_cons_succ, List.set_cons_zero]
    clear hK K hap'
    refine plan_forceL rfl rfl fun K hK => ?_
    go_simp
    refine hK _ _ ⟨HK9.out, HB9.out⟩ ?_
    try simp only [Act.put, List.setIfInBounds_toArray, List.set_cons_succ, List.set_cons_zero]
    clear hK K
    refine hQ0 _ _ ?_
    clear hQ0 Q0
    go_wp2
    go_ret
    exact ⟨_, rfl, HT9.out.low HK1.out.size, HK1.out.trans0 HK9.out⟩
  · rw [if_neg k1] at HO3
    have g1 : (kd == 1) = false := by simpa using k1
    clear k1
    by_cases k2 : kd = 2
    · rw [if_pos k2] at HO3
      have g2 : (kd == 2) = true := by simpa using k2
      clear k2
      obtain ⟨v9, w9, hap, hpost⟩ := any_append (W := w3) [.str ⟨#[100, 101, 108, 101, 116, 101]⟩] HT3.out HK3.out.size (by have := HAL.out; rw [← HN3.out]; show n3 + 1 ≤ _; omega)
      rw [← HN3.out] at hpost
      have hap' : (Builtin.append_ #[89, 89] 89 #[.slice ad3 n3 cap3, .slice (some ⟨w3.heap.size, 0, none⟩) 1 1]).run Tryz.prog (w3.alloc (.cells #[.iface 9 (.string ⟨#[100, 101, 108, 101, 116, 101]⟩)] 20)) = .ok v9 w9 := hap
      have HK9 := Lib.hid (show Keep [] w1 w9 from app_keep0 (HK3.out.alloc _) (HT3.out.keep ((Keep.refl [] _).alloc _) (by simp)) hpost.2.1)
      have HT9 := Lib.hid (show Toks w9 w1.heap.size v9 (od ++ [Tok.str ⟨#[100, 101, 108, 101, 116, 101]⟩]) from Toks.app (by rw [← HN3.out]; exact hpost))
      have HX9 := Lib.hid (show w9.heap[bx]? = some (.cells #[.int .i64 d1, .int .i64 d2, .slice add nd capd, .int .i64 kd, .int .i64 i1, .int .i64 i2, .int .i64 r1, .int .i64 r2, .string tx, .slice adg ng capg, .int .i64 st] 49 (0, 0)) from hpost.2.1.at_ (((Keep.refl [] w3).alloc _).at_ HB3.out (by simp)) (own_not_ty HT3.out HB3.out (by decide)))
      clear hpost hap
      go_wp2_with (with_reducible refine park_append 52 54 _ rfl ?_)
      refine wpList_append_eq rfl (.tmp 52) (.tmp 54) 89 rfl rfl rfl hap' ?_
      have hb9 : w9.heap[bx]? = _ := HX9.out
      have HB9 := Lib.hid hb9
      clear c3 c4 c5 c6 c7 c8 c9 c10
      have c9 := cell_of_block HB9.out 9
      simp at c9
      obtain ⟨ad9, cap9, hv9⟩ := HT9.out.sl.empty
      obtain ⟨n9, hn9⟩ : ∃ n9, n9 = (od ++ [Tok.str ⟨#[100, 101, 108, 101, 116, 101]⟩]).length := ⟨_, rfl⟩
      have hn9l : n9 ≤ 20006 := by
        have h1 := HAL.out
        have h2 := HN3.out
        rw [hn9, List.length_append]
        show od.length + 1 ≤ _
        omega
      rw [← hn9] at hv9
      have HN9 := Lib.hid hn9
      subst hv9
      clear hb9 hn9 hap' g1 g2
      go_upto_region 8 with (fail)
      go_loopw [3, 59] (fun sv iv wr => ∃ k : Nat, iv = .int .i64 k ∧ k ≤ ng ∧ Toks wr w1.heap.size sv ((od ++ [Tok.str ⟨#[100, 101, 108, 101, 116, 101]⟩]) ++ toksN (gone.take (k * 3))) ∧ Keep [] w1 wr) (fun _ iv _ => ng - (intOf iv).toNat)
      case atStart => exact ⟨0, rfl, Nat.zero_le _, by simpa [toksN] using HT9.out, HK9.out⟩
      case round =>
        rename World => wr
        obtain ⟨k, rfl, hk, htk, hkr⟩ := hrel
        have HTK := Lib.hid htk
        have HKR := Lib.hid hkr
        clear hkr c9
        have hng : ng ≤ 10000 := HF.out.2.1
        by_cases hlt : k < ng
        · have HLT := Lib.hid hlt
          have g1 := dec_lt_t (show (k : Int) < (ng : Int) by omega)
          have g2 := dec_ltn_t hlt
          obtain ⟨b, off, cp, e, hc⟩ := (HR.out.2.keep0 (HK1.out.trans0 HKR.out)).1.at_ (by simp only; omega)
          injection e with e1 e2 e3
          subst e1
          clear e2 e3
          have hL := HR.out.2.2
          simp only at hL hc
          have u0 := hc (k * 3) _ (intsV_at (by omega))
          have u1 := hc (k * 3 + 1) _ (intsV_at (by omega))
          have u2 := hc (k * 3 + 2) _ (intsV_at (by omega))
          rw [← Nat.add_assoc] at u1 u2
          have htk2 : gone.take ((k + 1) * 3) = gone.take (k * 3) ++ [gone[k * 3]'(by omega), gone[k * 3 + 1]'(by omega), gone[k * 3 + 2]'(by omega)] := by
            rw [show (k + 1) * 3 = k * 3 + 1 + 1 + 1 by omega, List.take_succ_eq_append_getElem (by omega), List.take_succ_eq_append_getElem (by omega), List.take_succ_eq_append_getElem (by omega), List.append_assoc, List.append_assoc]
            rfl
          generalize gone[k * 3]'(by omega) = x at u0 htk2
          generalize gone[k * 3 + 1]'(by omega) = y at u1 htk2
          generalize gone[k * 3 + 2]'(by omega) = z at u2 htk2
          have HT2 := Lib.hid (show toksN (gone.take ((k + 1) * 3)) = toksN (gone.take (k * 3)) ++ [.num x, .num y, .num z] by rw [htk2]; simp [toksN])
          obtain ⟨ad, cap, hv⟩ := htk.sl.empty
          obtain ⟨q, hq⟩ : ∃ q, q = ((od ++ [Tok.str ⟨#[100, 101, 108, 101, 116, 101]⟩]) ++ toksN (gone.take (k * 3))).length := ⟨_, rfl⟩
          have hql : q ≤ n9 + 3 * k := by
            rw [hq, List.length_append, ← HN9.out]
            simp [toksN]
            omega
          rw [← hq] at hv
          have HQ := Lib.hid hq
          subst hv
          clear htk htk2 hc hL hq hlt
          obtain ⟨w5, hw5⟩ : ∃ w5, w5 = wr.alloc (.cells #[.int .i64 x, .int .i64 y, .int .i64 z] 140) := ⟨_, rfl⟩
          have hk5 : Keep [] wr w5 := by rw [hw5]; exact (Keep.refl _ _).alloc _
          have HT5 := Lib.hid (HTK.out.keep hk5 (by simp))
          have HK5 := Lib.hid (HKR.out.trans0 hk5)
          have hb5 : w5.heap[wr.heap.size]? = some (.cells #[.int .i64 x, .int .i64 y, .int .i64 z] 140 (0, 0)) := by rw [hw5]; exact World.alloc_heap_new wr _
          obtain ⟨v6, w6, hap, hpost⟩ := any_append (W := w5) [.num x, .num y, .num z] HT5.out HK5.out.size (by rw [← HQ.out]; have := HLT.out; have := HF.out.2.1; simp only at this; show q + 3 ≤ _; omega)
          have hap' : (Builtin.append_ #[89, 89] 89 #[.slice ad q cap, .slice (some ⟨w5.heap.size, 0, none⟩) 3 3]).run Tryz.prog (w5.alloc (.cells #[.iface 3 (.int .i64 x), .iface 3 (.int .i64 y), .iface 3 (.int .i64 z)] 20)) = .ok v6 w6 := hap
          have HT6 := Lib.hid (show Toks w6 w1.heap.size v6 ((od ++ [Tok.str ⟨#[100, 101, 108, 101, 116, 101]⟩]) ++ toksN (gone.take ((k + 1) * 3))) by rw [HT2.out, ← List.append_assoc]; exact Toks.app (by rw [← HQ.out]; rw [← HQ.out] at hpost; exact hpost))
          have HK6 := Lib.hid (show Keep [] w1 w6 from app_keep0 (HK5.out.alloc _) (HT5.out.keep ((Keep.refl [] _).alloc _) (by simp)) hpost.2.1)
          have f0 := cell_of_block hb5 0
          have f1 := cell_of_block hb5 1
          have f2 := cell_of_block hb5 2
          simp at f0 f1 f2
          obtain ⟨bb, hbb⟩ : ∃ bb, bb = wr.heap.size := ⟨_, rfl⟩
          rw [← hbb] at f0 f1 f2
          clear hk5 hb5 hap hpost
          go_upto_region 10 with (fail)
          rw [← hw5, ← hbb]
          clear hw5 hbb u0 u1 u2
          go_wp2_with (with_reducible refine park_append 63 75 _ rfl ?_)
          refine wpList_append_eq rfl (.tmp 63) (.tmp 75) 89 rfl rfl rfl hap' ?_
          go_wp2
          go_roundw
          case rel => exact ⟨k + 1, by go_num, by have := HLT.out; omega, HT6.out, HK6.out⟩
          case measure => have := HLT.out; simp [intOf]; omega
        · obtain rfl : k = ng := by omega
          have g1 := dec_lt_f (show ¬ (k : Int) < (k : Int) by omega)
          have g2 := dec_ltn_f hlt
          have hfi : toksN (gone.take (k * 3)) = toksN gone := by rw [List.take_of_length_le (by have := HR.out.2.2; simp only at this; omega)]
          rw [hfi] at HTK
          obtain ⟨ad, cap, hv⟩ := HTK.out.sl.empty
          obtain ⟨q, hq⟩ : ∃ q, q = ((od ++ [Tok.str ⟨#[100, 101, 108, 101, 116, 101]⟩]) ++ toksN gone).length := ⟨_, rfl⟩
          rw [← hq] at hv
          clear hq hfi htk
          subst hv
          clear hlt
          go_wp2
          go_ret
          refine ⟨_, rfl, Toks.low (base := w1.heap.size) ?_ HK1.out.size, HK1.out.trans0 HKR.out⟩
          rw [HO1.out, HO3.out]
          have h := HTK.out
          rw [List.append_assoc] at h
          exact h
    · rw [if_neg k2] at HO3
      have g2 : (kd == 2) = false := by simpa using k2
      clear k2
      by_cases k3 : kd = 3
      · rw [if_pos k3] at HO3
        have g3 : (kd == 3) = true := by simpa using k3
        clear k3
        obtain ⟨v9, w9, hap, hpost⟩ := any_append (W := w3) [.str ⟨#[106, 111, 105, 110]⟩, .num st] HT3.out HK3.out.size (by have := HAL.out; rw [← HN3.out]; show n3 + 2 ≤ _; omega)
        rw [← HN3.out] at hpost
        have hap' : (Builtin.append_ #[89, 89] 89 #[.slice ad3 n3 cap3, .slice (some ⟨w3.heap.size, 0, none⟩) 2 2]).run Tryz.prog (w3.alloc (.cells #[.iface 9 (.string ⟨#[106, 111, 105, 110]⟩), .iface 3 (.int .i64 st)] 20)) = .ok v9 w9 := hap
        have HK9 := Lib.hid (show Keep [] w1 w9 from app_keep0 (HK3.out.alloc _) (HT3.out.keep ((Keep.refl [] _).alloc _) (by simp)) hpost.2.1)
        have HT9 := Lib.hid (show Toks w9 w1.heap.size v9 (od ++ [Tok.str ⟨#[106, 111, 105, 110]⟩, .num st]) from Toks.app (by rw [← HN3.out]; exact hpost))
        clear hpost hap
        go_wp2_with (with_reducible refine park_append 81 86 _ rfl ?_)
        refine wpList_append_eq rfl (.tmp 81) (.tmp 86) 89 rfl rfl rfl hap' ?_
        go_wp2
        go_ret
        refine ⟨_, rfl, Toks.low (base := w1.heap.size) ?_ HK1.out.size, HK1.out.trans0 HK9.out⟩
        rw [HO1.out, HO3.out]
        exact HT9.out
      · rw [if_neg k3] at HO3
        have g3 : (kd == 3) = false := by simpa using k3
        clear k3
        by_cases k4 : kd = 4
        · rw [if_pos k4] at HO3
          have g4 : (kd == 4) = true := by simpa using k4
          clear k4
          obtain ⟨v9, w9, hap, hpost⟩ := any_append (W := w3) [.str ⟨#[108, 101, 97, 118, 101]⟩] HT3.out HK3.out.size (by have := HAL.out; rw [← HN3.out]; show n3 + 1 ≤ _; omega)
          rw [← HN3.out] at hpost
          have hap' : (Builtin.append_ #[89, 89] 89 #[.slice ad3 n3 cap3, .slice (some ⟨w3.heap.size, 0, none⟩) 1 1]).run Tryz.prog (w3.alloc (.cells #[.iface 9 (.string ⟨#[108, 101, 97, 118, 101]⟩)] 20)) = .ok v9 w9 := hap
          have HK9 := Lib.hid (show Keep [] w1 w9 from app_keep0 (HK3.out.alloc _) (HT3.out.keep ((Keep.refl [] _).alloc _) (by simp)) hpost.2.1)
          have HT9 := Lib.hid (show Toks w9 w1.heap.size v9 (od ++ [Tok.str ⟨#[108, 101, 97, 118, 101]⟩]) from Toks.app (by rw [← HN3.out]; exact hpost))
          clear hpost hap
          go_wp2_with (with_reducible refine park_append 90 92 _ rfl ?_)
          refine wpList_append_eq rfl (.tmp 90) (.tmp 92) 89 rfl rfl rfl hap' ?_
          go_wp2
          go_ret
          refine ⟨_, rfl, Toks.low (base := w1.heap.size) ?_ HK1.out.size, HK1.out.trans0 HK9.out⟩
          rw [HO1.out, HO3.out]
          exact HT9.out
        · rw [if_neg k4] at HO3
          have g4 : (kd == 4) = false := by simpa using k4
          clear k4
          obtain ⟨v9, w9, hap, hpost⟩ := any_append (W := w3) [.str ⟨#[107, 105, 110, 100]⟩, .num kd] HT3.out HK3.out.size (by have := HAL.out; rw [← HN3.out]; show n3 + 2 ≤ _; omega)
          rw [← HN3.out] at hpost
          have hap' : (Builtin.append_ #[89, 89] 89 #[.slice ad3 n3 cap3, .slice (some ⟨w3.heap.size, 0, none⟩) 2 2]).run Tryz.prog (w3.alloc (.cells #[.iface 9 (.string ⟨#[107, 105, 110, 100]⟩), .iface 3 (.int .i64 kd)] 20)) = .ok v9 w9 := hap
          have HK9 := Lib.hid (show Keep [] w1 w9 from app_keep0 (HK3.out.alloc _) (HT3.out.keep ((Keep.refl [] _).alloc _) (by simp)) hpost.2.1)
          have HT9 := Lib.hid (show Toks w9 w1.heap.size v9 (od ++ [Tok.str ⟨#[107, 105, 110, 100]⟩, .num kd]) from Toks.app (by rw [← HN3.out]; exact hpost))
          clear hpost hap
          go_wp2_with (with_reducible refine park_append 94 99 _ rfl ?_)
          refine wpList_append_eq rfl (.tmp 94) (.tmp 99) 89 rfl rfl rfl hap' ?_
          go_wp2
          go_ret
          refine ⟨_, rfl, Toks.low (base := w1.heap.size) ?_ HK1.out.size, HK1.out.trans0 HK9.out⟩
          rw [HO1.out, HO3.out]
          exact HT9.out
end Go.Proofs.YtbidppjhenfjdaaGreatDoor
