/-
  At, walked.
-/
import Derived.Test.YtodbjehggkdjaaaMP
namespace Go.Proofs.Ytodbjehggkdjaaa
open Go.RowKit
set_option linter.unusedVariables false
set_option linter.unusedSimpArgs false

theorem heap_drew' (w : World) : w.drew.heap = w.heap := rfl
theorem noSp_lit : noSp = #[.int .i64 0, .int .i64 0, .int .i64 0, .int .i64 0, .int .i64 0, .int .i64 0] := rfl
theorem held1S {W : World} {p : Addr} {u : Value} {g : Nat} {v0 v1 v2 v3 v4 v5 : Value} (h : W.cell? p = some u) (hg : p.block ≠ g) :
    ((((((W.setCell ⟨g, 0, none⟩ v0).setCell ⟨g, 1, none⟩ v1).setCell ⟨g, 2, none⟩ v2).setCell ⟨g, 3, none⟩ v3).setCell ⟨g, 4, none⟩ v4).setCell ⟨g, 5, none⟩ v5).cell? p = some u := by
  have k : Keep [g] W ((((((W.setCell ⟨g, 0, none⟩ v0).setCell ⟨g, 1, none⟩ v1).setCell ⟨g, 2, none⟩ v2).setCell ⟨g, 3, none⟩ v3).setCell ⟨g, 4, none⟩ v4).setCell ⟨g, 5, none⟩ v5) :=
    ((((((Keep.refl [g] W).setCell (by simp) _).setCell (by simp) _).setCell (by simp) _).setCell (by simp) _).setCell (by simp) _).setCell (by simp) _
  exact k.cellv h (by simpa using hg)
theorem held1SD {W : World} {p : Addr} {u : Value} {g : Nat} {v0 v1 v2 v3 v4 v5 : Value} (h : W.cell? p = some u) (hg : p.block ≠ g) :
    ((((((W.setCell ⟨g, 0, none⟩ v0).setCell ⟨g, 1, none⟩ v1).setCell ⟨g, 2, none⟩ v2).setCell ⟨g, 3, none⟩ v3).setCell ⟨g, 4, none⟩ v4).setCell ⟨g, 5, none⟩ v5).drew.cell? p = some u := by
  have k : Keep [g] W ((((((W.setCell ⟨g, 0, none⟩ v0).setCell ⟨g, 1, none⟩ v1).setCell ⟨g, 2, none⟩ v2).setCell ⟨g, 3, none⟩ v3).setCell ⟨g, 4, none⟩ v4).setCell ⟨g, 5, none⟩ v5).drew :=
    (((((((Keep.refl [g] W).setCell (by simp) _).setCell (by simp) _).setCell (by simp) _).setCell (by simp) _).setCell (by simp) _).setCell (by simp) _).drew
  exact k.cellv h (by simpa using hg)
theorem held7 {w W W' : World} {p p0 p1 p2 p3 p4 p5 : Addr} {u u0 u1 u2 u3 u4 u5 : Value} (k : Keep [] W W')
    (h : W.cell? p = some u ∧ W.cell? p0 = some u0 ∧ W.cell? p1 = some u1 ∧ W.cell? p2 = some u2 ∧ W.cell? p3 = some u3 ∧ W.cell? p4 = some u4 ∧ W.cell? p5 = some u5 ∧ Keep [] w W) :
    W'.cell? p = some u ∧ W'.cell? p0 = some u0 ∧ W'.cell? p1 = some u1 ∧ W'.cell? p2 = some u2 ∧ W'.cell? p3 = some u3 ∧ W'.cell? p4 = some u4 ∧ W'.cell? p5 = some u5 ∧ Keep [] w W' :=
  ⟨k.cellv h.1 (by simp), k.cellv h.2.1 (by simp), k.cellv h.2.2.1 (by simp), k.cellv h.2.2.2.1 (by simp), k.cellv h.2.2.2.2.1 (by simp), k.cellv h.2.2.2.2.2.1 (by simp), k.cellv h.2.2.2.2.2.2.1 (by simp), h.2.2.2.2.2.2.2.trans0 k⟩
theorem held7s {w W : World} {p p0 p1 p2 p3 p4 p5 : Addr} {u u0 u1 u2 u3 u4 u5 : Value} {g : Nat} {v0 v1 v2 v3 v4 v5 : Value} (hg : w.heap.size ≤ g) (hp : p.block < w.heap.size ∧ p0.block < w.heap.size ∧ p1.block < w.heap.size ∧ p2.block < w.heap.size ∧ p3.block < w.heap.size ∧ p4.block < w.heap.size ∧ p5.block < w.heap.size)
    (h : W.cell? p = some u ∧ W.cell? p0 = some u0 ∧ W.cell? p1 = some u1 ∧ W.cell? p2 = some u2 ∧ W.cell? p3 = some u3 ∧ W.cell? p4 = some u4 ∧ W.cell? p5 = some u5 ∧ Keep [] w W) :
    ((((((W.setCell ⟨g, 0, none⟩ v0).setCell ⟨g, 1, none⟩ v1).setCell ⟨g, 2, none⟩ v2).setCell ⟨g, 3, none⟩ v3).setCell ⟨g, 4, none⟩ v4).setCell ⟨g, 5, none⟩ v5).cell? p = some u ∧ ((((((W.setCell ⟨g, 0, none⟩ v0).setCell ⟨g, 1, none⟩ v1).setCell ⟨g, 2, none⟩ v2).setCell ⟨g, 3, none⟩ v3).setCell ⟨g, 4, none⟩ v4).setCell ⟨g, 5, none⟩ v5).cell? p0 = some u0 ∧ ((((((W.setCell ⟨g, 0, none⟩ v0).setCell ⟨g, 1, none⟩ v1).setCell ⟨g, 2, none⟩ v2).setCell ⟨g, 3, none⟩ v3).setCell ⟨g, 4, none⟩ v4).setCell ⟨g, 5, none⟩ v5).cell? p1 = some u1 ∧ ((((((W.setCell ⟨g, 0, none⟩ v0).setCell ⟨g, 1, none⟩ v1).setCell ⟨g, 2, none⟩ v2).setCell ⟨g, 3, none⟩ v3).setCell ⟨g, 4, none⟩ v4).setCell ⟨g, 5, none⟩ v5).cell? p2 = some u2 ∧ ((((((W.setCell ⟨g, 0, none⟩ v0).setCell ⟨g, 1, none⟩ v1).setCell ⟨g, 2, none⟩ v2).setCell ⟨g, 3, none⟩ v3).setCell ⟨g, 4, none⟩ v4).setCell ⟨g, 5, none⟩ v5).cell? p3 = some u3 ∧ ((((((W.setCell ⟨g, 0, none⟩ v0).setCell ⟨g, 1, none⟩ v1).setCell ⟨g, 2, none⟩ v2).setCell ⟨g, 3, none⟩ v3).setCell ⟨g, 4, none⟩ v4).setCell ⟨g, 5, none⟩ v5).cell? p4 = some u4 ∧ ((((((W.setCell ⟨g, 0, none⟩ v0).setCell ⟨g, 1, none⟩ v1).setCell ⟨g, 2, none⟩ v2).setCell ⟨g, 3, none⟩ v3).setCell ⟨g, 4, none⟩ v4).setCell ⟨g, 5, none⟩ v5).cell? p5 = some u5 ∧
      Keep [] w ((((((W.setCell ⟨g, 0, none⟩ v0).setCell ⟨g, 1, none⟩ v1).setCell ⟨g, 2, none⟩ v2).setCell ⟨g, 3, none⟩ v3).setCell ⟨g, 4, none⟩ v4).setCell ⟨g, 5, none⟩ v5) := by
  obtain ⟨h0, h1, h2, h3, h4, h5, h6, hk⟩ := h
  have k : Keep [g] W ((((((W.setCell ⟨g, 0, none⟩ v0).setCell ⟨g, 1, none⟩ v1).setCell ⟨g, 2, none⟩ v2).setCell ⟨g, 3, none⟩ v3).setCell ⟨g, 4, none⟩ v4).setCell ⟨g, 5, none⟩ v5) :=
    ((((((Keep.refl [g] W).setCell (by simp) _).setCell (by simp) _).setCell (by simp) _).setCell (by simp) _).setCell (by simp) _).setCell (by simp) _
  obtain ⟨b0, b1, b2, b3, b4, b5, b6⟩ := hp
  exact ⟨k.cellv h0 (by simp; omega), k.cellv h1 (by simp; omega), k.cellv h2 (by simp; omega), k.cellv h3 (by simp; omega), k.cellv h4 (by simp; omega), k.cellv h5 (by simp; omega), k.cellv h6 (by simp; omega), hk.trans k (fun x hx => by simp at hx; exact .inr (by omega))⟩
/-- A new variable behind a call: its cells are there. -/
theorem allocZ {W wA : World} (k : Keep [] (W.alloc (.cells #[.int .i64 0, .int .i64 0, .int .i64 0, .int .i64 0, .int .i64 0, .int .i64 0] 29)).drew wA) :
    (wA.cell? ⟨W.heap.size, 0, none⟩ = some (.int .i64 0) ∧ wA.cell? ⟨W.heap.size, 1, none⟩ = some (.int .i64 0) ∧ wA.cell? ⟨W.heap.size, 2, none⟩ = some (.int .i64 0) ∧ wA.cell? ⟨W.heap.size, 3, none⟩ = some (.int .i64 0) ∧ wA.cell? ⟨W.heap.size, 4, none⟩ = some (.int .i64 0) ∧ wA.cell? ⟨W.heap.size, 5, none⟩ = some (.int .i64 0)) ∧
    (wA.frozen? ⟨W.heap.size, 0, none⟩ = false ∧ wA.frozen? ⟨W.heap.size, 1, none⟩ = false ∧ wA.frozen? ⟨W.heap.size, 2, none⟩ = false ∧ wA.frozen? ⟨W.heap.size, 3, none⟩ = false ∧ wA.frozen? ⟨W.heap.size, 4, none⟩ = false ∧ wA.frozen? ⟨W.heap.size, 5, none⟩ = false) ∧
    Hid (wA.heap[W.heap.size]? = some (.cells #[.int .i64 0, .int .i64 0, .int .i64 0, .int .i64 0, .int .i64 0, .int .i64 0] 29 (0, 0))) := by
  have h := k.at_ (World.alloc_heap_new W (.cells #[.int .i64 0, .int .i64 0, .int .i64 0, .int .i64 0, .int .i64 0, .int .i64 0] 29)) (by simp)
  exact ⟨⟨cell_of_block h 0, cell_of_block h 1, cell_of_block h 2, cell_of_block h 3, cell_of_block h 4, cell_of_block h 5⟩, ⟨free_of_block h 0, free_of_block h 1, free_of_block h 2, free_of_block h 3, free_of_block h 4, free_of_block h 5⟩, h⟩
set_option maxRecDepth 100000 in
set_option maxHeartbeats 100000000 in
theorem at_core (mb : Nat) (s : ByteArray) (u x : Int) (fu : Nat) (eu : Int) (w : World) (h : MapAt w mb s) (hz : s.size ≤ 1000000) (hu : OfU s u fu) (hx0 : -9223372036854775808 ≤ x) (hx1 : x ≤ 9223372036854775807)
    (hlook : ∀ W b, IM W b .i64 unitL → (Instr.lookup 71 (.map (some b)) (.int .i64 u) true).run Try.prog W = .ok (.tuple #[.agg #[.func (.func fu) #[] #[], .int .i64 eu], .bool true]) W) :
    Calls Try.prog 13 #[.pointer (some ⟨mb, 0, none⟩), .int .i64 u, .int .i64 x] w fun e w' =>
      e = .returned (atVal s u x eu) ∧ Keep [] w w' := by
  obtain ⟨eg, hf⟩ := hu
  have HU : Hid (OfU s u fu) := Lib.hid ⟨eg, hf⟩
  have HF := Lib.hid hf; clear hf
  have HM := Lib.hid h; have HL := Lib.hid hlook
  clear h hlook
  have hnp := np_le s
  go_enter Try.func13, Try.ntmps13
  go_upto_region 3 with (fail)
  obtain ⟨W1, hW1⟩ : ∃ W1, W1 = (w.alloc (.cells #[.int .i64 x] 3)).alloc (.cells #[.int .i64 0, .int .i64 0, .int .i64 0, .int .i64 0, .int .i64 0, .int .i64 0] 29) := ⟨_, rfl⟩
  rw [← hW1]
  have hk1 : Keep [] w W1 := by rw [hW1]; exact ((Keep.refl _ _).alloc _).alloc _
  have x0 : W1.heap[w.heap.size]? = some (.cells #[.int .i64 x] 3 (0, 0)) := by
    rw [hW1, Below.heap_alloc _ _ _ (by simp)]; exact World.alloc_heap_new w _
  have x1 : W1.heap[w.heap.size + 1]? = some (.cells #[.int .i64 0, .int .i64 0, .int .i64 0, .int .i64 0, .int .i64 0, .int .i64 0] 29 (0, 0)) := by
    rw [hW1]
    have := World.alloc_heap_new (w.alloc (.cells #[.int .i64 x] 3)) (.cells #[.int .i64 0, .int .i64 0, .int .i64 0, .int .i64 0, .int .i64 0, .int .i64 0] 29); rwa [World.size_alloc] at this
  have X0 := Lib.hid x0; have X1 := Lib.hid x1; have K1 := Lib.hid hk1
  clear hW1 x0 x1 hk1
  obtain ⟨nb, hnb⟩ : ∃ nb, nb = w.heap.size := ⟨_, rfl⟩
  obtain ⟨rb, hrb⟩ : ∃ rb, rb = w.heap.size + 1 := ⟨_, rfl⟩
  rw [← hrb, ← hnb]
  rw [← hnb] at X0
  rw [← hrb] at X1
  have HNR := Lib.hid (show nb ≠ rb ∧ w.heap.size ≤ nb ∧ w.heap.size ≤ rb by omega)
  clear hnb hrb
  go_wp2_with fail
  refine (units_any _).mono ?_
  rintro e W2 ⟨tb, rfl, him, hk⟩
  have hl := HL.out W2 tb him
  have X0 := Lib.hid (hk.at_ X0.out (by simp)); have X1 := Lib.hid (hk.at_ X1.out (by simp)); have K2 := Lib.hid (K1.out.trans0 hk)
  clear him hk K1
  go_upto_region 6 with (fail)
  clear hl
  obtain ⟨W3, hW3⟩ : ∃ W3, W3 = W2.alloc (.cells #[.func (.func fu) #[] #[], .int .i64 eu] 69) := ⟨_, rfl⟩
  rw [← hW3]
  have hk3 : Keep [] W2 W3 := by rw [hW3]; exact (Keep.refl _ _).alloc _
  have x2 : W3.heap[W2.heap.size]? = some (.cells #[.func (.func fu) #[] #[], .int .i64 eu] 69 (0, 0)) := by rw [hW3]; exact World.alloc_heap_new W2 _
  have HUB := Lib.hid (show W2.heap.size ≠ rb by have := lt_of_block X1.out; omega)
  have X2 := Lib.hid x2; have X0 := Lib.hid (hk3.at_ X0.out (by simp)); have X1 := Lib.hid (hk3.at_ X1.out (by simp)); have K3 := Lib.hid (K2.out.trans0 hk3)
  clear hW3 hk3 x2 K2
  generalize W2.heap.size = ub at *
  go_wp2_with fail
  refine (mall_any mb s _ (HM.out.keep K3.out)).mono ?_
  rintro e W4 ⟨b, off, cap, rfl, hsp, hk⟩
  have X0 := Lib.hid (hk.at_ X0.out (by simp)); have X1 := Lib.hid (hk.at_ X1.out (by simp)); have X2 := Lib.hid (hk.at_ X2.out (by simp)); have K4 := Lib.hid (K3.out.trans0 hk); have SP := Lib.hid hsp
  clear hk K3 hsp
  go_upto_region 7 with (fail)
  obtain ⟨W5, hW5⟩ : ∃ W5, W5 = W4.alloc (.cells #[.slice (some ⟨b, off, none⟩) (np s + 1) cap] 36) := ⟨_, rfl⟩
  rw [← hW5]
  have hk5 : Keep [] W4 W5 := by rw [hW5]; exact (Keep.refl _ _).alloc _
  have x3 : W5.heap[W4.heap.size]? = some (.cells #[.slice (some ⟨b, off, none⟩) (np s + 1) cap] 36 (0, 0)) := by rw [hW5]; exact World.alloc_heap_new W4 _
  have HA : Hid (AtW s fu eu x ub W4.heap.size nb b off cap W5) := Lib.hid ⟨hk5.at_ X2.out (by simp), x3, hk5.at_ X0.out (by simp), SP.out.keep0 hk5⟩
  have X1 := Lib.hid (hk5.at_ X1.out (by simp)); have K5 := Lib.hid (K4.out.trans0 hk5)
  clear hW5 hk5 x3 K4 X0 X2 SP
  generalize W4.heap.size = lb at *
  obtain ⟨I, f, hf1, hf2⟩ := kept_class W5
  have q0 : ∀ i, (f i).cell? ⟨ub, 0, none⟩ = some (.func (.func fu) #[] #[]) := fun i => by rw [cell_of_block (HA.out.keep (hf1 i)).u]; rfl
  have q1 : ∀ i, (f i).cell? ⟨lb, 0, none⟩ = some (.slice (some ⟨b, off, none⟩) (np s + 1) cap) := fun i => by rw [cell_of_block (HA.out.keep (hf1 i)).l]; rfl
  have q2 : ∀ i, (f i).cell? ⟨nb, 0, none⟩ = some (.int .i64 x) := fun i => by rw [cell_of_block (HA.out.keep (hf1 i)).n]; rfl
  have q3 : ∀ i, (Instr.loadAt 29 (.pointer (some ⟨b, off + np s * 6, none⟩))).run Try.prog (f i) = .ok (.agg (spV s (np s))) (f i) := fun i => load_spot (HA.out.keep (hf1 i)).sp (by omega)
  obtain ⟨iw, hiw⟩ := hf2 W5.drew (Keep.refl _ _).drew
  haveI : Nonempty I := ⟨iw⟩
  have HF1 := Lib.hid hf1; have HF2 := Lib.hid hf2; have Q3 := Lib.hid q3
  have HCL := Lib.hid (cnt_le s u (Nat.le_refl (np s)))
  clear hf1 hf2 q3
  have hw1 : IntKind.i64.wrap ((np s : Int) + 1 - 1) = (np s : Int) := by rw [IntKind.wrap_i64]; omega
  have hw2 : IntKind.i64.wrap (np s : Int) = (np s : Int) := by rw [IntKind.wrap_i64]; omega
  have hn0 : (0 : Int) ≤ (np s : Int) := by omega
  have hn1 : (np s : Int) < (np s : Int) + 1 := by omega
  by_cases hneg : x < 0
  · obtain ⟨tb, htb⟩ : ∃ tb : Bool, tb = decide (x < 0) := ⟨_, rfl⟩
    have HTB := Lib.hid (show tb = true by rw [htb]; simpa using hneg)
    have hnd := htb.symm
    have HNEG := Lib.hid hneg
    clear htb hneg
    refine wp_quiet_tail 14 f ⟨iw, hiw⟩ (by kernel_rfl) (by kernel_rfl) ?_
    clear hiw iw
    simp only [List.take_succ_cons, List.take_zero, List.drop_succ_cons, List.drop_zero]
    quiet_step (fail)
    quiet_step (fail)
    quiet_step (fail)
    repeat (refine wpQuiet_step (fun K hK => ?_); rw [if_neg (by have h := HTB.out; subst h; exact Bool.false_ne_true)]; go_simp; refine hK _ ?_; clear hK K)
    refine wpQuiet_nil ?_
    intro i
    have hkq := Lib.hid (HF1.out i)
    clear HF1 HF2 Q3 q0 q1 q2
    generalize f i = W6 at *
    clear i f hw1 hw2
    obtain rfl := HTB.out
    obtain ⟨W7, hs7, hb7, hk7⟩ := store_row (P := Try.prog) (t := 29) (cs := noSp) spot_info (hkq.out.at_ X1.out (by simp)) rfl rfl noSp_one
    have HL7 := Lib.hid (load_var (P := Try.prog) Try.underlying29 rfl spot_info hb7 rfl)
    have K7 := Lib.hid ((K5.out.trans0 hkq.out).trans hk7 (fun b hb => by simp at hb; exact .inr (by have := HNR.out; omega)))
    clear hb7 hk7 hkq
    go_wp2_with (with_reducible refine park_store 6 41 _ rfl ?_)
    refine wpList_store_eq rfl _ (.tmp 6) (.tmp 41) rfl hs7 ?_
    clear hs7
    go_wp2
    rw [atVal_out (.inl HNEG.out)]
    exact bodyPost_ret (results_cell_two rfl _ _ rb _ _ rfl rfl HL7.out) rfl ⟨rfl, K7.out⟩
  · obtain ⟨tb, htb⟩ : ∃ tb : Bool, tb = decide (x < 0) := ⟨_, rfl⟩
    have HNEG := Lib.hid hneg
    have hnd : decide (x < 0) = false := by simpa using hneg
    clear hneg htb tb
    refine wp_quiet_tail 14 f ⟨iw, hiw⟩ (by kernel_rfl) (by kernel_rfl) ?_
    clear hiw iw
    simp only [List.take_succ_cons, List.take_zero, List.drop_succ_cons, List.drop_zero]
    repeat (first
      | ((with_reducible refine park_loadQ 36 _ rfl ?_); refine wpQuiet_load rfl 29 (.tmp 36) rfl (v := .agg (spV s (np s))) (fun w hw => by obtain ⟨i, rfl⟩ := hw; exact Q3.out i) ?_)
      | quiet_step (((with_reducible refine (HF.out (np s) _).mono ?_); rintro e w'' ⟨rfl, hk⟩; exact ⟨rfl, HF2.out _ ((HF1.out _).trans0 hk)⟩)))
    refine wpQuiet_nil ?_
    intro i
    have hkq := HF1.out i
    have HA6 := Lib.hid (HA.out.keep hkq); have X1 := Lib.hid (hkq.at_ X1.out (by simp)); have K6 := Lib.hid (K5.out.trans0 hkq)
    clear HF1 HF2 Q3 q0 q1 q2 hkq HA K5
    generalize f i = W6 at *
    clear i f hw1 hw2
    by_cases hbig : (cnt s u (np s) : Int) < x
    · have hbd : decide (((cnt s u (np s) : Nat) : Int) < x) = true := by simpa using hbig
      have HBIG := Lib.hid hbig; clear hbig
      obtain ⟨W7, hs7, hb7, hk7⟩ := store_row (P := Try.prog) (t := 29) (cs := noSp) spot_info X1.out rfl rfl noSp_one
      have HL7 := Lib.hid (load_var (P := Try.prog) Try.underlying29 rfl spot_info hb7 rfl)
      have K7 := Lib.hid (K6.out.trans hk7 (fun b hb => by simp at hb; exact .inr (by have := HNR.out; omega)))
      clear hb7 hk7
      go_wp2_with (with_reducible refine park_store 6 41 _ rfl ?_)
      refine wpList_store_eq rfl _ (.tmp 6) (.tmp 41) rfl hs7 ?_
      clear hs7
      go_wp2
      rw [atVal_out (.inr HBIG.out)]
      exact bodyPost_ret (results_cell_two rfl _ _ rb _ _ rfl rfl HL7.out) rfl ⟨rfl, K7.out⟩
    · have hbd : decide (((cnt s u (np s) : Nat) : Int) < x) = false := by simpa using hbig
      have HBIG := Lib.hid hbig; clear hbig
      go_upto_region 9 with (fail)
      clear hbd hnd
      have hfl := fst_le (cnt s u) x (np s)
      have HSE := Lib.hid (fun (W : World) (hk : Keep [] W6 W) => search_any (np s + 1) 30 #[.pointer (some ⟨ub, 0, none⟩), .pointer (some ⟨lb, 0, none⟩), .pointer (some ⟨nb, 0, none⟩)] (fun k => decide (x ≤ (cnt s u k : Nat))) W (by omega) enters_at1
        (fun i j hij hj hi => by have := cnt_mono s u i j hij (by omega); simp at hi ⊢; omega)
        (fun h hh W' hk' => at1_any s u fu eu x ub lb nb b off cap h W' HU.out ((HA6.out.keep hk).keep hk') hh (by omega)))
      have HFS := Lib.hid (fun i hi h1 h2 => at_fst (s := s) (u := u) (x := x) (by have := HBIG.out; omega) (i := i) hi h1 h2)
      have HVAL := Lib.hid (atVal_in (s := s) (u := u) (x := x) (eu := eu) HNEG.out HBIG.out)
      have hcl : W6.cell? ⟨lb, 0, none⟩ = some (.slice (some ⟨b, off, none⟩) (np s + 1) cap) := by rw [cell_of_block HA6.out.l]; rfl
      obtain ⟨b', off', cap', e, hsc⟩ := SpAt.cells HA6.out.sp (by omega)
      simp only [Value.slice.injEq, Option.some.injEq, Addr.mk.injEq] at e
      obtain ⟨⟨rfl, rfl, _⟩, _, _⟩ := e
      generalize fst (cnt s u) x (np s) = k at *
      obtain ⟨d0, d1, d2, d3, d4, d5⟩ := hsc k (by omega)
      have hS : W6.cell? ⟨lb, 0, none⟩ = some (.slice (some ⟨b, off, none⟩) (np s + 1) cap) ∧ W6.cell? ⟨b, off + k * 6, none⟩ = _ ∧ W6.cell? ⟨b, off + k * 6 + 1, none⟩ = _ ∧ W6.cell? ⟨b, off + k * 6 + 2, none⟩ = _ ∧ W6.cell? ⟨b, off + k * 6 + 3, none⟩ = _ ∧ W6.cell? ⟨b, off + k * 6 + 4, none⟩ = _ ∧ W6.cell? ⟨b, off + k * 6 + 5, none⟩ = _ ∧ Keep [] W6 W6 := ⟨hcl, d0, d1, d2, d3, d4, d5, Keep.refl _ _⟩
      have hk0 : (0 : Int) ≤ (k : Int) := by omega
      have hkn : (k : Int) < (np s : Int) + 1 := by omega
      have HBB := Lib.hid (show lb < W6.heap.size ∧ b < W6.heap.size ∧ b < W6.heap.size ∧ b < W6.heap.size ∧ b < W6.heap.size ∧ b < W6.heap.size ∧ b < W6.heap.size from by have h1 := World.block_lt_of_cell? _ _ d0; have h2 := World.block_lt_of_cell? _ _ hcl; exact ⟨h2, h1, h1, h1, h1, h1, h1⟩)
      clear hcl d0 d1 d2 d3 d4 d5 hsc
      have SPK := Lib.hid (show spV s k = #[.int .i64 (pos s k : Nat), .int .i64 (k : Nat), .int .i64 (un s k : Nat), .int .i64 (cl s k : Nat), .int .i64 (ln s k : Nat), .int .i64 (co s k : Nat)] from rfl)
      have HFK := Lib.hid (HF.out k)
      generalize pos s k = z0 at *
      generalize un s k = z2 at *
      generalize cl s k = z3 at *
      generalize ln s k = z4 at *
      generalize co s k = z5 at *
      go_region_held3 (fun w' => w'.cell? ⟨lb, 0, none⟩ = some (.slice (some ⟨b, off, none⟩) (np s + 1) cap) ∧ w'.cell? ⟨b, off + k * 6, none⟩ = some (.int .i64 (z0 : Nat)) ∧ w'.cell? ⟨b, off + k * 6 + 1, none⟩ = some (.int .i64 (k : Nat)) ∧ w'.cell? ⟨b, off + k * 6 + 2, none⟩ = some (.int .i64 (z2 : Nat)) ∧ w'.cell? ⟨b, off + k * 6 + 3, none⟩ = some (.int .i64 (z3 : Nat)) ∧ w'.cell? ⟨b, off + k * 6 + 4, none⟩ = some (.int .i64 (z4 : Nat)) ∧ w'.cell? ⟨b, off + k * 6 + 5, none⟩ = some (.int .i64 (z5 : Nat)) ∧ Keep [] W6 w')
        (first | (with_reducible assumption) | (with_reducible exact held7 (W := W6) ((Keep.refl [] W6).alloc _).drew hS) | (with_reducible exact held7 (W := W6) (Keep.refl [] W6).drew hS) | (with_reducible exact held7s (W := wA) (g := W6.heap.size) (Nat.le_refl _) HBB.out hSA) | (with_reducible exact held7 (W := wA) ((Keep.refl [] wA).alloc _) hSA))
        (first
          | (go_at_call 29; refine (HSE.out _ ?h1).mono ?_; (case h1 => first | exact Keep.refl _ _ | exact (Keep.refl [] _).drew | exact ((Keep.refl [] _).alloc _).drew | exact ((Keep.refl [] _).drew.alloc _)); rintro q wA ⟨i, rfl, hi1, hi2, hi3, hkA⟩; obtain rfl := HFS.out i hi1 hi2 hi3; clear hi1 hi2 hi3; have hSA := held7 hkA (by first | (with_reducible assumption) | (with_reducible exact held7 (W := W6) (Keep.refl [] W6).drew hS) | (with_reducible exact held7 (W := W6) ((Keep.refl [] W6).alloc _).drew hS)); (first | ((with_reducible have hZ := allocZ hkA); obtain ⟨⟨y0, y1, y2, y3, y4, y5⟩, ⟨v0, v1, v2, v3, v4, v5⟩, HYB⟩ := hZ) | skip)))
      all_goals
        have KA := Lib.hid (K6.out.trans0 hSA.2.2.2.2.2.2.2)
        have HSZ := Lib.hid (show W6.heap.size ≤ wA.heap.size from hSA.2.2.2.2.2.2.2.size)
        first
          | (obtain ⟨W9, hW9⟩ : ∃ W9, W9 = wA.alloc (.cells #[.int .i64 (z0 : Nat), .int .i64 (i : Nat), .int .i64 (z2 : Nat), .int .i64 (z3 : Nat), .int .i64 (z4 : Nat), .int .i64 (z5 : Nat)] 29) := ⟨_, rfl⟩
             rw [← hW9]
             have hb9 : W9.heap[wA.heap.size]? = some (.cells (spV s i) 29 (0, 0)) := by rw [hW9, SPK.out]; exact World.alloc_heap_new wA _
             have hk9 : Keep [] w W9 := by rw [hW9]; exact KA.out.alloc _
             have hx9 : W9.heap[rb]? = some (.cells #[.int .i64 0, .int .i64 0, .int .i64 0, .int .i64 0, .int .i64 0, .int .i64 0] 29 (0, 0)) := by rw [hW9]; exact ((Keep.refl [] wA).alloc _).at_ (hSA.2.2.2.2.2.2.2.at_ X1.out (by simp)) (by simp)
             have hu9 : W9.cell? ⟨ub, 0, none⟩ = some (.func (.func fu) #[] #[]) ∧ W9.cell? ⟨ub, 1, none⟩ = some (.int .i64 eu) ∧ W9.cell? ⟨nb, 0, none⟩ = some (.int .i64 x) := by
               rw [hW9]
               have hA := HA6.out.keep (hSA.2.2.2.2.2.2.2.alloc (.cells #[.int .i64 (z0 : Nat), .int .i64 (i : Nat), .int .i64 (z2 : Nat), .int .i64 (z3 : Nat), .int .i64 (z4 : Nat), .int .i64 (z5 : Nat)] 29))
               exact ⟨by rw [cell_of_block hA.u]; rfl, by rw [cell_of_block hA.u]; rfl, by rw [cell_of_block hA.n]; rfl⟩
             generalize wA.heap.size = pb at *
             clear hW9)
          | (obtain ⟨W9, hW9⟩ : ∃ W9, W9 = ((((((wA.setCell ⟨W6.heap.size, 0, none⟩ (.int .i64 (z0 : Nat))).setCell ⟨W6.heap.size, 1, none⟩ (.int .i64 (i : Nat))).setCell ⟨W6.heap.size, 2, none⟩ (.int .i64 (z2 : Nat))).setCell ⟨W6.heap.size, 3, none⟩ (.int .i64 (z3 : Nat))).setCell ⟨W6.heap.size, 4, none⟩ (.int .i64 (z4 : Nat))).setCell ⟨W6.heap.size, 5, none⟩ (.int .i64 (z5 : Nat))) := ⟨_, rfl⟩
             rw [← hW9]
             have hks : Keep [W6.heap.size] wA W9 := by rw [hW9]; exact ((((((Keep.refl [W6.heap.size] wA).setCell (by simp) _).setCell (by simp) _).setCell (by simp) _).setCell (by simp) _).setCell (by simp) _).setCell (by simp) _
             have hlt6 : rb < W6.heap.size := lt_of_block X1.out
             have hub6 : ub < W6.heap.size := lt_of_block HA6.out.u
             have hnb6 : nb < W6.heap.size := lt_of_block HA6.out.n
             have hb9 : W9.heap[W6.heap.size]? = some (.cells (spV s i) 29 (0, 0)) := by rw [hW9, SPK.out]; exact block_setCell (block_setCell (block_setCell (block_setCell (block_setCell (block_setCell HYB.out 0 _) 1 _) 2 _) 3 _) 4 _) 5 _
             have hk9 : Keep [] w W9 := KA.out.trans hks (fun y hy => by simp at hy; exact .inr (by have := K6.out.size; omega))
             have hx9 : W9.heap[rb]? = some (.cells #[.int .i64 0, .int .i64 0, .int .i64 0, .int .i64 0, .int .i64 0, .int .i64 0] 29 (0, 0)) := hks.at_ (hSA.2.2.2.2.2.2.2.at_ X1.out (by simp)) (by simp; omega)
             have hu9 : W9.cell? ⟨ub, 0, none⟩ = some (.func (.func fu) #[] #[]) ∧ W9.cell? ⟨ub, 1, none⟩ = some (.int .i64 eu) ∧ W9.cell? ⟨nb, 0, none⟩ = some (.int .i64 x) := by
               have hA := HA6.out.keep hSA.2.2.2.2.2.2.2
               exact ⟨hks.cellv (by rw [cell_of_block hA.u]; rfl) (by simp; omega), hks.cellv (by rw [cell_of_block hA.u]; rfl) (by simp; omega), hks.cellv (by rw [cell_of_block hA.n]; rfl) (by simp; omega)⟩
             obtain ⟨pb, hpb⟩ : ∃ pb, pb = W6.heap.size := ⟨_, rfl⟩
             rw [← hpb] at hb9 ⊢
             clear hW9 hks hlt6 hub6 hnb6 y0 y1 y2 y3 y4 y5 v0 v1 v2 v3 v4 v5 hpb)
        have K9 := Lib.hid hk9; have X9 := Lib.hid hx9; have B9 := Lib.hid hb9; have U9 := Lib.hid hu9
        clear hSA hkA hS hk9 hx9 hb9 hu9
      all_goals (try clear HYB)
      all_goals
        go_upto_region 10 with (fail)
        obtain ⟨I, f, hf1, hf2⟩ := kept_class W9
        have q0 : ∀ i, (f i).cell? ⟨ub, 0, none⟩ = some (.func (.func fu) #[] #[]) := fun i => (hf1 i).cellv U9.out.1 (by simp)
        have q2 : ∀ i, (f i).cell? ⟨nb, 0, none⟩ = some (.int .i64 x) := fun i => (hf1 i).cellv U9.out.2.2 (by simp)
        have Q3 := Lib.hid (fun j => load_sp ((hf1 j).at_ B9.out (by simp)) (spV_size s i))
        obtain ⟨iw, hiw⟩ := hf2 W9.drew (Keep.refl _ _).drew
        haveI : Nonempty I := ⟨iw⟩
        have HF1 := Lib.hid hf1; have HF2 := Lib.hid hf2
        clear hf1 hf2
        refine wp_quiet_tail 5 f ⟨iw, hiw⟩ (by kernel_rfl) (by kernel_rfl) ?_
        clear hiw iw
        simp only [List.take_succ_cons, List.take_zero, List.drop_succ_cons, List.drop_zero]
        repeat (first
          | ((with_reducible refine park_loadQ 11 _ rfl ?_); refine wpQuiet_load rfl 29 (.tmp 11) rfl (v := .agg (spV s i)) (fun w hw => by obtain ⟨j, rfl⟩ := hw; exact Q3.out j) ?_)
          | quiet_step (((with_reducible refine (HFK.out _).mono ?_); rintro e w'' ⟨rfl, hk⟩; exact ⟨rfl, HF2.out _ ((HF1.out _).trans0 hk)⟩)))
        refine wpQuiet_nil ?_
        intro j
        have hkq := HF1.out j
        have K10 := Lib.hid (K9.out.trans0 hkq); have X10 := Lib.hid (hkq.at_ X9.out (by simp)); have B10 := Lib.hid (hkq.at_ B9.out (by simp)); have U10 := Lib.hid (hkq.cellv U9.out.2.1 (by simp))
        clear HF1 HF2 Q3 q0 q2 hkq K9 X9 B9 U9
        generalize f j = W10 at *
        clear j f
        by_cases heq : (cnt s u i : Int) = x
        · have hne : (((cnt s u i : Nat) : Int) != x) = false := by simp [heq]
          have HEQ := Lib.hid (HVAL.out.1 heq); clear heq
          obtain ⟨W7, hs7, hb7, hk7⟩ := store_row (P := Try.prog) (t := 29) (cs := spV s i) spot_info X10.out rfl (spV_size s i) (spV_one s i)
          have HL7 := Lib.hid (load_var (P := Try.prog) Try.underlying29 rfl spot_info hb7 (spV_size s i))
          have K7 := Lib.hid (K10.out.trans hk7 (fun b hb => by simp at hb; exact .inr (by have := HNR.out; omega)))
          have hlb := load_sp B10.out (spV_size s i)
          clear hb7 hk7
          go_wp2_with (with_reducible refine park_load 11 _ rfl ?_)
          refine wpList_load_eq rfl _ (.tmp 11) rfl hlb ?_
          go_wp2_with (with_reducible refine park_store 6 58 _ rfl ?_)
          refine wpList_store_eq rfl _ (.tmp 6) (.tmp 58) rfl hs7 ?_
          clear hs7 hlb
          go_wp2
          rw [HEQ.out]
          exact bodyPost_ret (results_cell_two rfl _ _ rb _ _ rfl rfl HL7.out) rfl ⟨rfl, K7.out⟩
        · have hne : (((cnt s u i : Nat) : Int) != x) = true := by simpa using heq
          have HEQ := Lib.hid (HVAL.out.2 heq); clear heq
          go_upto_region 11 with (fail)
          have hS := U10.out
          have hS1 : W10.drew.cell? ⟨ub, 1, none⟩ = some (.int .i64 eu) := U10.out
          have y0 := cell_of_block X10.out 0
          have y1 := cell_of_block X10.out 1
          have y2 := cell_of_block X10.out 2
          have y3 := cell_of_block X10.out 3
          have y4 := cell_of_block X10.out 4
          have y5 := cell_of_block X10.out 5
          have v0 := free_of_block X10.out 0
          have v1 := free_of_block X10.out 1
          have v2 := free_of_block X10.out 2
          have v3 := free_of_block X10.out 3
          have v4 := free_of_block X10.out 4
          have v5 := free_of_block X10.out 5
          go_region_held3 (fun w' => w'.cell? ⟨ub, 1, none⟩ = some (.int .i64 eu)) (first | (with_reducible assumption) | (with_reducible exact held1S (W := W10.drew) (g := rb) hS1 HUB.out) | (with_reducible exact held1SD (W := W10) (g := rb) hS HUB.out) | (with_reducible exact held1S (W := W10) (g := rb) hS HUB.out)) (first | (fail))
          obtain ⟨W7, hW7⟩ : ∃ W7, W7 = ((((((W10.setCell ⟨rb, 0, none⟩ (.int .i64 0)).setCell ⟨rb, 1, none⟩ (.int .i64 0)).setCell ⟨rb, 2, none⟩ (.int .i64 0)).setCell ⟨rb, 3, none⟩ (.int .i64 0)).setCell ⟨rb, 4, none⟩ (.int .i64 0)).setCell ⟨rb, 5, none⟩ (.int .i64 0)).drew := ⟨_, rfl⟩
          rw [← hW7]
          have hb7 : W7.heap[rb]? = some (.cells noSp 29 (0, 0)) := by
            rw [hW7, heap_drew', noSp_lit]
            exact block_setCell (block_setCell (block_setCell (block_setCell (block_setCell (block_setCell X10.out 0 _) 1 _) 2 _) 3 _) 4 _) 5 _
          have HL7 := Lib.hid (load_var (P := Try.prog) Try.underlying29 rfl spot_info hb7 rfl)
          have hk7 : Keep [rb] W10 W7 := by rw [hW7]; exact (((((((Keep.refl [rb] W10).setCell (by simp) _).setCell (by simp) _).setCell (by simp) _).setCell (by simp) _).setCell (by simp) _).setCell (by simp) _).drew
          have K7 := Lib.hid (K10.out.trans hk7 (fun b hb => by simp at hb; exact .inr (by have := HNR.out; omega)))
          clear hW7 hb7 hk7 hS hS1 y0 y1 y2 y3 y4 y5 v0 v1 v2 v3 v4 v5
          go_wp2
          rw [HEQ.out]
          exact bodyPost_ret (results_cell_two rfl _ _ rb _ _ rfl rfl HL7.out) rfl ⟨rfl, K7.out⟩
end Go.Proofs.Ytodbjehggkdjaaa
