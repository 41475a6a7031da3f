/-
  Walk of known.
-/
import Derived.Test.YtddbjclpmkelaaaDifT
namespace Go.Proofs.Ytddbjclpmkelaaa
open Go.RowKit
set_option linter.unusedVariables false
set_option linter.unusedSimpArgs false

theorem EdAt.form {W : World} {v : Value} {l : List EdV} (h : EdAt W v l) : ∃ ad c, v = .slice ad l.length c := by obtain ⟨ad, c, rfl, _⟩ := h; exact ⟨ad, c, rfl⟩
theorem EdAt.lit (w : World) (l : List EdV) (cs : Array Value) (t : TypeId) (n : Nat) (hn : n = l.length) (hc : cs = (edvCells l).toArray) : EdAt (w.alloc (.cells cs t)) (.slice (some ⟨w.heap.size, 0, none⟩) n n) l := by
  subst hc; subst hn
  refine ⟨_, _, rfl, fun _ => ⟨_, 0, rfl, fun i e he => ⟨?_, ?_, ?_⟩⟩⟩
  · rw [cell_of_block (heap_alloc_new _ _)]
    have := edv_flat l i 0 e he (by omega)
    simp only [Nat.zero_add, Nat.add_zero, List.getElem?_toArray] at this ⊢
    rw [this]; rfl
  · rw [cell_of_block (heap_alloc_new _ _)]
    have := edv_flat l i 1 e he (by omega)
    simp only [Nat.zero_add, List.getElem?_toArray] at this ⊢
    rw [this]; rfl
  · rw [cell_of_block (heap_alloc_new _ _)]
    have := edv_flat l i 2 e he (by omega)
    simp only [Nat.zero_add, List.getElem?_toArray] at this ⊢
    rw [this]; rfl

/-- What a call leaves that answers a script that may be read, and a number. -/
def EdsR (k : IntKind) (c : Int) (l : List EdV) (w : World) (r : Ending) (w' : World) : Prop :=
  ∃ ad cap, r = .returned (.tuple #[.slice ad l.length cap, .int k c]) ∧ EdAt w' (.slice ad l.length cap) l ∧ Keep [] w w'
theorem NewEds.r {k : IntKind} {c : Int} {l : List Ed} {w : World} {r : Ending} {w' : World} (h : NewEds k c l w r w') : EdsR k c (l.map edv) w r w' := by
  obtain ⟨v, rfl, ho, hk, _⟩ := h
  rw [edCells_edv] at ho
  have ho2 : w'.ownsRow w.heap.size 32 3 v (l.map edv).length (edvCells (l.map edv)) := by rw [List.length_map]; exact ho
  have he := EdAt.of_owns ho2
  obtain ⟨ad, cap, rfl⟩ := he.form
  exact ⟨ad, cap, rfl, he, hk⟩
theorem NewEdV.r {k : IntKind} {o : Int × List EdV} {w : World} {r : Ending} {w' : World} (h : NewEdV k o w r w') : EdsR k o.1 o.2 w r w' := by
  obtain ⟨v, rfl, ho, hk, _⟩ := h
  have he := EdAt.of_owns ho
  obtain ⟨ad, cap, rfl⟩ := he.form
  exact ⟨ad, cap, rfl, he, hk⟩

def kL : List EdV := [(0, 1, ⟨#[115]⟩), (3, 1, ⟨#[105]⟩), (1, 0, ⟨#[103]⟩)]
theorem kL_eq : ([⟨0, 1, [115]⟩, ⟨3, 1, [105]⟩, ⟨1, 0, [103]⟩] : List Ed).map edv = kL := by
  have h1 : txt [115] = ⟨#[115]⟩ := by kernel_rfl
  have h2 : txt [105] = ⟨#[105]⟩ := by kernel_rfl
  have h3 : txt [103] = ⟨#[103]⟩ := by kernel_rfl
  simp only [List.map_cons, List.map_nil, edv, h1, h2, h3, kL]
  rfl
theorem kn1 (w : World) : Calls Try.prog 11 #[.string ⟨#[107, 105, 116, 116, 101, 110]⟩, .string ⟨#[115, 105, 116, 116, 105, 110, 103]⟩] w fun r w' =>
    ∃ ad cap, r = .returned (.tuple #[.slice ad 3 cap, .int .i64 0]) ∧ Hid (EdAt w' (.slice ad 3 cap) kL ∧ Keep [] w w') := by
  refine (make_any ⟨#[107, 105, 116, 116, 101, 110]⟩ ⟨#[115, 105, 116, 116, 105, 110, 103]⟩ w (by decide) (by decide)).mono ?_
  intro r w' h
  have h := h.r
  rw [known_mk] at h
  simp only [kL_eq] at h
  obtain ⟨ad, cap, rfl, he, hk⟩ := h
  exact ⟨ad, cap, rfl, he, hk⟩
def kA : List EdV := [(1, 1, ⟨#[101, 120]⟩)]
theorem kA_b : ∀ e ∈ kA, -9223372036854775808 ≤ e.1 ∧ e.1 ≤ 9223372036854775807 ∧ -9223372036854775808 ≤ e.2.1 ∧ e.2.1 ≤ 9223372036854775807 ∧ e.2.2.size ≤ 10000 := by
  intro e he
  simp only [kA, List.mem_singleton] at he
  subst he
  exact ⟨by decide, by decide, by decide, by decide, by decide⟩
theorem kA_at (w : World) : EdAt (w.alloc (.cells #[.int .i64 1, .int .i64 1, .string ⟨#[101, 120]⟩] 32)) (.slice (some ⟨w.heap.size, 0, none⟩) 1 1) kA := EdAt.lit w kA _ _ 1 rfl rfl
theorem kn2 (w : World) : Calls Try.prog 15 #[.string ⟨#[104, 195, 169, 121]⟩, .slice (some ⟨w.heap.size, 0, none⟩) 1 1] (w.alloc (.cells #[.int .i64 1, .int .i64 1, .string ⟨#[101, 120]⟩] 32)) fun r w' =>
    r = .returned (.tuple #[.string ⟨#[104, 101, 120, 121]⟩, .int .i64 0]) ∧ Keep [] w w' := by
  refine (apply_any ⟨#[104, 195, 169, 121]⟩ _ kA _ (kA_at w) (by decide) (by decide) kA_b).mono ?_
  rintro r w' ⟨rfl, hk⟩
  refine ⟨?_, ((Keep.refl _ _).alloc _).trans0 hk⟩
  have h1 : txt [104, 101, 120, 121] = ⟨#[104, 101, 120, 121]⟩ := by kernel_rfl
  unfold kA
  rw [known_ap, h1]
theorem kn3 (w : World) : Calls Try.prog 17 #[.string ⟨#[104, 195, 169, 121]⟩, .slice (some ⟨w.heap.size, 0, none⟩) 1 1] (w.alloc (.cells #[.int .i64 1, .int .i64 1, .string ⟨#[101, 120]⟩] 32)) fun r w' =>
    ∃ ad cap, r = .returned (.tuple #[.slice ad 1 cap, .int .i64 0]) ∧ Hid (EdAt w' (.slice ad 1 cap) [(1, 2, ⟨#[195, 169]⟩)] ∧ Keep [] w w') := by
  refine (invert_any ⟨#[104, 195, 169, 121]⟩ _ kA _ (kA_at w) (by decide) (by decide) kA_b).mono ?_
  intro r w' h
  have h := h.r
  unfold kA at h
  rw [known_inv] at h
  obtain ⟨ad, cap, rfl, he, hk⟩ := h
  exact ⟨ad, cap, rfl, he, ((Keep.refl _ _).alloc _).trans0 hk⟩
theorem kn4 (w : World) : Calls Try.prog 11 #[.string ⟨#[255]⟩, .string ⟨#[97]⟩] w fun r w' => (∃ v, r = .returned (.tuple #[v, .int .i64 2])) ∧ Keep [] w w' := by
  refine (make_any ⟨#[255]⟩ ⟨#[97]⟩ w (by decide) (by decide)).mono ?_
  intro r w' h
  rw [known_bad] at h
  obtain ⟨v, rfl, _, hk, _⟩ := h
  exact ⟨⟨v, rfl⟩, hk⟩
theorem kn5 (w : World) (ad : Option Addr) (cap : Nat) (h : EdAt w (.slice ad 3 cap) kL) : Calls Try.prog 13 #[.slice ad 3 cap, .slice (some ⟨w.heap.size, 0, none⟩) 3 3]
    (w.alloc (.cells #[.int .i64 0, .int .i64 1, .string ⟨#[115]⟩, .int .i64 3, .int .i64 1, .string ⟨#[105]⟩, .int .i64 1, .int .i64 0, .string ⟨#[103]⟩] 32)) fun r w' => r = .returned (.bool true) ∧ Keep [] w w' := by
  refine (edits_true _ _ kL _ (h.keep0 ((Keep.refl _ _).alloc _)) (EdAt.lit w kL _ _ 3 rfl rfl) (by decide)).mono ?_
  rintro r w' ⟨rfl, hk⟩
  exact ⟨rfl, ((Keep.refl _ _).alloc _).trans0 hk⟩
theorem kn6 (w : World) (ad : Option Addr) (cap : Nat) (h : EdAt w (.slice ad 3 cap) kL) : Calls Try.prog 19 #[.slice ad 3 cap] w fun r w' => r = .returned (.int .i64 5) ∧ Keep [] w w' := by
  refine (weight_any _ kL _ h (by decide) (fun e he => ?_)).mono ?_
  · simp only [kL, List.mem_cons, List.not_mem_nil, or_false] at he
    rcases he with rfl | rfl | rfl <;> exact ⟨by decide, by decide, by decide⟩
  · rintro r w' ⟨rfl, hk⟩
    unfold kL
    rw [known_wt]
    exact ⟨rfl, hk⟩
theorem kn7 (w : World) (ad : Option Addr) (cap : Nat) (h : EdAt w (.slice ad 1 cap) [(1, 2, ⟨#[195, 169]⟩)]) : Calls Try.prog 13 #[.slice ad 1 cap, .slice (some ⟨w.heap.size, 0, none⟩) 1 1]
    (w.alloc (.cells #[.int .i64 1, .int .i64 2, .string ⟨#[195, 169]⟩] 32)) fun r w' => r = .returned (.bool true) ∧ Keep [] w w' := by
  refine (edits_true _ _ [(1, 2, ⟨#[195, 169]⟩)] _ (h.keep0 ((Keep.refl _ _).alloc _)) (EdAt.lit w [(1, 2, ⟨#[195, 169]⟩)] _ _ 1 rfl rfl) (by decide)).mono ?_
  rintro r w' ⟨rfl, hk⟩
  exact ⟨rfl, ((Keep.refl _ _).alloc _).trans0 hk⟩

set_option maxRecDepth 100000 in
set_option maxHeartbeats 8000000 in
theorem known_true (w : World) : Calls Try.prog 10 #[] w fun e w' => e = .returned (.bool true) ∧ Keep [] w w' := by
  go_enter Try.func10, Try.ntmps10
  go_wp2_with fail
  (with_reducible refine (kn1 _).mono ?_)
  rintro r w1 ⟨ad1, c1, rfl, h1⟩
  go_wp2_with fail
  (with_reducible refine (kn2 _).mono ?_)
  rintro r w2 ⟨rfl, k2⟩
  have K2 := Lib.hid (h1.out.2.trans0 k2); have E2 := Lib.hid (h1.out.1.keep0 k2); clear h1 k2
  go_wp2_with fail
  (with_reducible refine (kn3 _).mono ?_)
  rintro r w3 ⟨ad3, c3, rfl, h3⟩
  have K3 := Lib.hid (K2.out.trans0 h3.out.2); have E3 := Lib.hid (E2.out.keep0 h3.out.2); have F3 := Lib.hid h3.out.1; clear h3
  go_wp2_with fail
  (with_reducible refine (kn4 _).mono ?_)
  rintro r w4 ⟨⟨v4, rfl⟩, k4⟩
  have K4 := Lib.hid (K3.out.trans0 k4); have E4 := Lib.hid (E3.out.keep0 k4); have F4 := Lib.hid (F3.out.keep0 k4); clear k4
  go_wp2_with fail
  (with_reducible refine (kn5 _ _ _ E4.out).mono ?_)
  rintro r w5 ⟨rfl, k5⟩
  have K5 := Lib.hid (K4.out.trans0 k5); have E5 := Lib.hid (E4.out.keep0 k5); have F5 := Lib.hid (F4.out.keep0 k5); clear k5
  go_wp2_with fail
  (with_reducible refine (kn6 _ _ _ E5.out).mono ?_)
  rintro r w6 ⟨rfl, k6⟩
  have K6 := Lib.hid (K5.out.trans0 k6); have F6 := Lib.hid (F5.out.keep0 k6); clear k6
  go_wp2_with fail
  (with_reducible refine (kn7 _ _ _ F6.out).mono ?_)
  rintro r w7 ⟨rfl, k7⟩
  have K7 := Lib.hid (K6.out.trans0 k7); clear k7
  go_wp2_with fail
  go_ret
  exact ⟨rfl, K7.out⟩
end Go.Proofs.Ytddbjclpmkelaaa
