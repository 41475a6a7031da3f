/-
  Walk of Cut.
-/
import Derived.Test.YtddbjclpmkelaaaGlyI
import Derived.BigRegion
import Derived.TacticsInMore
import Derived.WalkMore
namespace Go.Proofs.Ytddbjclpmkelaaa
open Go.RowKit Go.Shelf
set_option linter.unusedVariables false
set_option linter.unusedSimpArgs false
attribute [local go_sem] Oper.semAt_some

/-- What Cut's loop keeps: the number, the place, the count. -/
def CutInv (s : ByteArray) (n : Int) (w : World) (k : Nat) (fp : List Nat) (W : World) : Prop :=
  W.heap[w.heap.size]? = some (.cells #[.int .i64 n] 3 (0, 0)) ∧ W.heap[w.heap.size + 1]? = some (.cells #[.int .i64 s.size] 3 (0, 0)) ∧ W.heap[w.heap.size + 2]? = some (.cells #[.int .i64 k] 3 (0, 0)) ∧
  k ≤ n.toNat ∧ fp = [w.heap.size, w.heap.size + 1, w.heap.size + 2] ∧ Keep [] w W
/-- .. and where it stops. -/
def CutStop (s : ByteArray) (n : Int) (w : World) (c : Code) (k : Nat) (fp : List Nat) (W : World) : Prop :=
  c = .exit 0 ∧ W.heap[w.heap.size]? = some (.cells #[.int .i64 n] 3 (0, 0)) ∧ W.heap[w.heap.size + 1]? = some (.cells #[.int .i64 ((cut s 0)[k]?.getD 0)] 3 (0, 0)) ∧
  k = n.toNat ∧ fp = [w.heap.size, w.heap.size + 1, w.heap.size + 2] ∧ Keep [] w W

theorem CutInv.steady {s : ByteArray} {n : Int} {w W : World} (hW : w.heap.size ≤ W.heap.size) (k : Nat) : Steady [] W (CutInv s n w k) := by
  rintro fp W1 W2 S ⟨h1, h2, h3, h4, rfl, h6⟩ hk hS
  refine ⟨hk.at_ h1 (fun h => (hS _ h).1 (by simp)), hk.at_ h2 (fun h => (hS _ h).1 (by simp)), hk.at_ h3 (fun h => (hS _ h).1 (by simp)), h4, rfl, h6.trans hk (fun x hx => .inr ?_)⟩
  rcases (hS x hx).2 with h | h
  · cases h
  · omega
theorem CutStop.steady {s : ByteArray} {n : Int} {w W : World} (hW : w.heap.size ≤ W.heap.size) (c : Code) (k : Nat) : Steady [] W (CutStop s n w c k) := by
  rintro fp W1 W2 S ⟨h1, h2, h3, h4, rfl, h6⟩ hk hS
  refine ⟨h1, hk.at_ h2 (fun h => (hS _ h).1 (by simp)), hk.at_ h3 (fun h => (hS _ h).1 (by simp)), h4, rfl, h6.trans hk (fun x hx => .inr ?_)⟩
  rcases (hS x hx).2 with h | h
  · cases h
  · omega

theorem keep_put {w W : World} {D : Nat} (o : Obj) (h : Keep [] w W) (hD : w.heap.size ≤ D) : Keep [] w (W.putObj D o) := h.trans (keep_putObj W D o) (fun b hb => by simp at hb; subst hb; exact .inr hD)
theorem cutV_zero {s : ByteArray} {n : Int} (h : n ≤ 0) : cutV s n = .tuple #[.string ByteArray.empty, .string s] := by
  have h0 : s.extract 0 0 = ByteArray.empty := ext_byt (by rw [size_ext _ _ _ (Nat.zero_le _)]; simp) (fun i hi => by rw [size_ext _ _ _ (Nat.zero_le _)] at hi; omega)
  have : cutAt s n = 0 := by
    unfold cutAt
    rw [show n.toNat = 0 by omega]
    by_cases h : 0 < s.size
    · rw [cut_step h]; rfl
    · rw [cut_end h]; show s.size = 0; omega
  unfold cutV
  rw [this, h0, ext_all]

set_option maxHeartbeats 8000000 in
theorem cut_any (s : ByteArray) (n : Int) (w : World) (hz : s.size ≤ 1073741824) (hn1 : -9223372036854775808 ≤ n) (hn2 : n ≤ 9223372036854775807) :
    Calls Try.prog 24 #[.string s, .int .i64 n] w fun e w' => e = .returned (cutV s n) ∧ Keep [] w w' := by
  refine (callsIn_wide (n := 0)).1 ?_
  refine callsIn_of_wp_marks Try.func24 rfl trivial ?_
  simp only [Try.ntmps24, List.size_toArray, List.length_cons, List.length_nil, Nat.reduceAdd, Nat.reduceSub, Array.replicate_succ, Array.replicate_zero, List.push_toArray, List.append_toArray, List.nil_append, List.cons_append]
  gi_wp2_with fail
  refine wpIn_wide.2 (wp_scope_straight ((wpIn_wide (n := 0)).1 ?_))
  gi_wp2_with fail
  refine wpIn_label ?_
  gi_wp2_with fail
  refine ⟨trivial, rfl, ?_⟩
  refine (callsIn_wide.2 (all_any s _)).mono ?_
  rintro e w1 ⟨rfl, hw1⟩
  have hk1 : Keep [] w w1 := by rw [hw1]; exact ((((Keep.refl _ _).alloc _).alloc _).alloc _).alloc _
  have hs1 : w1.heap.size = w.heap.size + 4 := by rw [hw1]; simp
  have hb0 : w1.heap[w.heap.size]? = some (.cells #[.int .i64 n] 3 (0, 0)) := by
    rw [hw1, Below.heap_alloc _ _ _ (by simp; omega), Below.heap_alloc _ _ _ (by simp; omega), Below.heap_alloc _ _ _ (by simp)]; exact World.alloc_heap_new w _
  have hb1 : w1.heap[w.heap.size + 1]? = some (.cells #[.int .i64 s.size] 3 (0, 0)) := by
    rw [hw1, Below.heap_alloc _ _ _ (by simp), Below.heap_alloc _ _ _ (by simp)]
    have := World.alloc_heap_new (w.alloc (.cells #[.int .i64 n] 3)) (.cells #[.int .i64 s.size] 3); rwa [World.size_alloc] at this
  have hb2 : w1.heap[w.heap.size + 2]? = some (.cells #[.int .i64 0] 3 (0, 0)) := by
    rw [hw1, Below.heap_alloc _ _ _ (by simp)]
    have := World.alloc_heap_new ((w.alloc (.cells #[.int .i64 n] 3)).alloc (.cells #[.int .i64 s.size] 3)) (.cells #[.int .i64 0] 3); rwa [World.size_alloc, World.size_alloc] at this
  have hb3 : w1.heap[w.heap.size + 3]? = some (.cells #[.string s] 9 (0, 0)) := by
    rw [hw1]
    have := World.alloc_heap_new (((w.alloc (.cells #[.int .i64 n] 3)).alloc (.cells #[.int .i64 s.size] 3)).alloc (.cells #[.int .i64 0] 3)) (.cells #[.string s] 9); rwa [World.size_alloc, World.size_alloc, World.size_alloc] at this
  rw [World.size_alloc, World.size_alloc, World.size_alloc]
  have HS1 := Lib.hid hs1; have HB0 := Lib.hid hb0; have HB1 := Lib.hid hb1; have HB2 := Lib.hid hb2; have HB3 := Lib.hid hb3; have HK1 := Lib.hid hk1
  clear hw1 hs1 hb0 hb1 hb2 hb3 hk1
  gi_wp2_with fail
  refine wpIn_range (gf := 49) (lb := #[.pointer (some ⟨w.heap.size + 3, 0, none⟩)]) rfl (enters_of Try.func49 (by kernel_rfl) rfl)
    (all1_iters (w.heap.size + 3) s hz) (fun W hk => TxtNeed.keep HB3.out hk (by simp)) (by simp [pieceArgs]) [w.heap.size, w.heap.size + 1, w.heap.size + 2]
    (fun b hb => by cases hb) (fun b hb => by simp at hb; subst hb; have := HS1.out; simp; omega) (fun b hb => by have := HS1.out; simp at hb; omega)
    (CutInv s n w) (CutStop s n w) (CutInv.steady (by have := HS1.out; omega)) (CutStop.steady (by have := HS1.out; omega))
    ⟨HB0.out, HB1.out, HB2.out, Nat.zero_le _, rfl, HK1.out⟩
    (fun k => { tmps := #[.string s, .int .i64 n, undef, .pointer (some ⟨w.heap.size, 0, none⟩), .string ⟨#[]⟩, .string ⟨#[]⟩, .pointer (some ⟨w.heap.size + 1, 0, none⟩), .pointer (some ⟨w.heap.size + 2, 0, none⟩), .int .i64 ((cut s 0)[k]?.getD 0 : Nat), .string s, .int .i64 s.size, .string s, .func (.func 49) #[] #[.pointer (some ⟨w.heap.size + 3, 0, none⟩)], .int .i64 ((cut s 0)[k]?.getD 0 : Nat), .int .i32 (dec s ((cut s 0)[k]?.getD 0)).1, undef, undef, undef, undef, undef, undef, undef, undef, undef, undef, undef, undef, undef, undef, undef], defers := [] }) ?assign ?body ?done ?stop
  case assign =>
    intro l k hk W K hK
    rw [List.length_map] at hk
    have hk2 := List.getElem?_eq_getElem hk
    rw [List.getElem_map, show (cut s 0)[k] = (cut s 0)[k]?.getD 0 by rw [hk2]; rfl]
    clear hk2
    have hpa : ∀ i, pieceArgs s i = #[.int .i64 i, .int .i32 (dec s i).1] := fun _ => rfl
    rw [hpa]
    clear hpa
    generalize (cut s 0)[k]?.getD 0 = q at hK ⊢
    gi_wp2
    exact hK
  case body =>
    rintro l k hk fp W ⟨h1, h2, h3, h4, rfl, h6⟩
    rw [List.length_map] at hk
    have c0 := cell_of_one h1
    have c1 := cell_of_one h2
    have c2 := cell_of_one h3
    have f1 := free_of_one h2
    have f2 := free_of_one h3
    have hcl := cut_len_le s 0 (Nat.zero_le _)
    have H1 := Lib.hid h1; have H2 := Lib.hid h2; have H3 := Lib.hid h3; have H6 := Lib.hid h6
    clear h1 h2 h3 h6
    have fin : ∀ q : Nat, Hid (∃ fp', CutStop s n w (.exit 0) k fp' (W.setCell ⟨w.heap.size + 1, 0, none⟩ (.int .i64 q)) ∧ Keep [w.heap.size, w.heap.size + 1, w.heap.size + 2] W (W.setCell ⟨w.heap.size + 1, 0, none⟩ (.int .i64 q)) ∧ FromNew [w.heap.size, w.heap.size + 1, w.heap.size + 2] fp' W) ∨ ¬ (q = (cut s 0)[k]?.getD 0 ∧ k = n.toNat) := fun q => by
      by_cases hq : q = (cut s 0)[k]?.getD 0 ∧ k = n.toNat
      · left
        refine ⟨_, ⟨rfl, ?_, ?_, hq.2, rfl, H6.out.setCell (.inr (by simp)) _⟩, (Keep.refl _ _).setCell (by simp) _, FromNew.refl _ _⟩
        · exact (block_setCell_other _ (by simp)).trans H1.out
        · rw [← hq.1]; exact one_setCell H2.out
      · exact .inr hq
    generalize hg : (cut s 0)[k]?.getD 0 = q at *
    have HG := Lib.hid hg; clear hg
    by_cases hn0 : n < 0
    · have hk0 : k = 0 := by omega
      subst hk0
      have hfin := (fin q).resolve_right (by simp; omega)
      clear fin
      have hn0' : ¬ 0 ≤ n := by omega
      gi_wp2
      exact hfin.out
    by_cases hkn : n = (k : Int)
    · have hfin := (fin q).resolve_right (by simp; omega)
      clear fin
      subst hkn
      gi_wp2
      exact hfin.out
    · clear fin
      have hlt : (k : Int) < n := by omega
      have hne : ((k : Int) == n) = false := by simp; omega
      gi_wp2
      refine ⟨_, ⟨(block_setCell_other _ (by simp)).trans H1.out, (block_setCell_other _ (by simp)).trans H2.out, ?_, by omega, rfl, H6.out.setCell (.inr (by simp)) _⟩, (Keep.refl _ _).setCell (by simp) _, FromNew.refl _ _⟩
      exact one_setCell H3.out
  case done =>
    rintro D fp W hD ⟨h1, h2, h3, h4, rfl, h6⟩ hK
    rw [List.length_map] at h4 h3
    have c0 := cell_of_one h1
    have c1 := cell_of_one h2
    have f1 := free_of_one h2
    have H2 := Lib.hid h2; have H6 := Lib.hid h6; have HK := Lib.hid hK
    have HDD := Lib.hid (show w.heap.size + 1 < D by have := HS1.out; omega)
    clear h1 h3 h6 h2 hK
    by_cases hn0 : n ≤ 0
    · have HV := Lib.hid (cutV_zero (s := s) hn0)
      have hc1 := Lib.hid (cell_of_one (one_setCell (u := .int .i64 0) H2.out))
      have hk2 := Lib.hid (H6.out.setCell (p := ⟨w.heap.size + 1, 0, none⟩) (.inr (by simp)) (.int .i64 0))
      have hKD := Lib.hid ((block_setCell_other (w := W) (a := ⟨w.heap.size + 1, 0, none⟩) (.int .i64 0) (b := D) (by have := HDD.out; simp; omega)).trans HK.out)
      gi_wp2
      generalize W.setCell ⟨w.heap.size + 1, 0, none⟩ (.int .i64 0) = W2 at *
      clear c0 c1 f1
      have c1 := hc1.out
      refine wpIn_wide.2 ?_
      go_quiet (fail)
      gi_wp2
      rw [Exit.noGoto_ret]
      refine ⟨by simp, .inl ⟨_, _, rfl, run_takeDeferred (w := W2.drewN nq) hKD.out, ?_⟩⟩
      exact ⟨_, results_tmp2 rfl _ _ _, by rw [HV.out]; rfl, keep_put _ (hk2.out.drewN _) (by have := HDD.out; omega)⟩
    · have HV := Lib.hid (cutV_end h4)
      have hn0' : ¬ n ≤ 0 := hn0
      gi_wp2
      refine wpIn_wide.2 ?_
      go_quiet (fail)
      gi_wp2
      rw [Exit.noGoto_ret]
      refine ⟨by simp, .inl ⟨_, _, rfl, run_takeDeferred (w := W.drewN nq) HK.out, ?_⟩⟩
      exact ⟨_, results_tmp2 rfl _ _ _, by rw [HV.out]; rfl, keep_put _ (H6.out.drewN _) (by have := HDD.out; omega)⟩
  case stop =>
    rintro D c k fp W hD hk ⟨rfl, h1, h2, h4, rfl, h6⟩ hK
    rw [List.length_map] at hk
    have hgk := List.getElem?_eq_getElem hk
    have his := (at_get s k hk).2
    rw [hgk, Option.getD_some] at h2
    have c0 := cell_of_one h1
    have c1 := cell_of_one h2
    have f1 := free_of_one h2
    have H2 := Lib.hid h2; have H6 := Lib.hid h6; have HK := Lib.hid hK
    have HDD := Lib.hid (show w.heap.size + 1 < D by have := HS1.out; omega)
    subst h4
    have HVI := Lib.hid (cutV_in hgk)
    clear h1 h6 h2 hK hgk
    refine wpIn_exit ?_
    by_cases hn0 : n ≤ 0
    · have HV := Lib.hid (cutV_zero (s := s) hn0)
      have hc1 := Lib.hid (cell_of_one (one_setCell (u := .int .i64 0) H2.out))
      have hk2 := Lib.hid (H6.out.setCell (p := ⟨w.heap.size + 1, 0, none⟩) (.inr (by simp)) (.int .i64 0))
      have hKD := Lib.hid ((block_setCell_other (w := W) (a := ⟨w.heap.size + 1, 0, none⟩) (.int .i64 0) (b := D) (by have := HDD.out; simp; omega)).trans HK.out)
      generalize (cut s 0)[n.toNat] = q at *
      gi_wp2
      generalize W.setCell ⟨w.heap.size + 1, 0, none⟩ (.int .i64 0) = W2 at *
      clear c0 c1 f1
      have c1 := hc1.out
      refine wpIn_wide.2 ?_
      go_quiet (fail)
      gi_wp2
      rw [Exit.noGoto_ret]
      refine ⟨by simp, .inl ⟨_, _, rfl, run_takeDeferred (w := W2.drewN nq) hKD.out, ?_⟩⟩
      exact ⟨_, results_tmp2 rfl _ _ _, by rw [HV.out]; rfl, keep_put _ (hk2.out.drewN _) (by have := HDD.out; omega)⟩
    · have hn0' : ¬ n ≤ 0 := hn0
      generalize (cut s 0)[n.toNat] = q at *
      gi_wp2
      refine wpIn_wide.2 ?_
      go_quiet (fail)
      gi_wp2
      rw [Exit.noGoto_ret]
      refine ⟨by simp, .inl ⟨_, _, rfl, run_takeDeferred (w := W.drewN nq) HK.out, ?_⟩⟩
      exact ⟨_, results_tmp2 rfl _ _ _, by rw [HVI.out]; rfl, keep_put _ (H6.out.drewN _) (by have := HDD.out; omega)⟩
end Go.Proofs.Ytddbjclpmkelaaa
