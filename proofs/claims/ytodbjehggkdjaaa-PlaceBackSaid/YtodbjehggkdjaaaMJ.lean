/-
  Walks of apart, edge, Break.
-/
import Derived.Test.YtodbjehggkdjaaaMH
import Derived.Test.YtodbjehggkdjaaaMI
import Derived.BigRegion
import Derived.TacticsInMore
import Derived.WalkMore
namespace Go.Proofs.Ytodbjehggkdjaaa
open Go.RowKit Go.Shelf
set_option linter.unusedVariables false
set_option linter.unusedSimpArgs false
attribute [local go_sem] Oper.semAt_some

theorem results_cell_one {P : Program} {fn : Func} {p : Tmp} {ty : TypeId} (h : fn.results = #[.cell p ty]) (tmps : Array Value) (w : World) (b : Nat) (v : Value)
    (hp : tmps.getD p undef = .pointer (some ⟨b, 0, none⟩)) (hl : (loadVar ty ⟨b, 0, none⟩).run P w = .ok v w) : (results fn tmps).run P w = .ok v w := by
  have hp' : tmps[p]?.getD undef = .pointer (some ⟨b, 0, none⟩) := by simpa using hp
  simp [results, h, hp', asAddr, hl]

theorem keep_putD {w W : World} {D : Nat} (o : Obj) (h : Keep [] w W) (hD : w.heap.size ≤ D) : Keep [] w (W.putObj D o) := h.trans (keep_putObj W D o) (fun b hb => by simp at hb; subst hb; exact .inr hD)
theorem load_bool {w : World} {b : Nat} {v : Bool} (h : w.heap[b]? = some (.cells #[.bool v] 4 (0, 0))) : (loadVar 4 ⟨b, 0, none⟩).run Try.prog w = .ok (.bool v) w := by
  have c := cell_of_one h
  have u := Try.underlying4
  simp [go_sem, loadVar, c, u]
/-- What pictured's loop keeps: marks alone. -/
def PicInv (s : ByteArray) (w : World) (k : Nat) (fp : List Nat) (W : World) : Prop :=
  W.heap[w.heap.size]? = some (.cells #[.bool false] 4 (0, 0)) ∧ pic (ctxA s) = pic ((ctxA s).drop k) ∧ fp = [w.heap.size] ∧ Keep [] w W
/-- .. and where it stops. -/
def PicStop (s : ByteArray) (w : World) (c : Code) (k : Nat) (fp : List Nat) (W : World) : Prop :=
  c = .ret ∧ W.heap[w.heap.size]? = some (.cells #[.bool (pic (ctxA s))] 4 (0, 0)) ∧ fp = [w.heap.size] ∧ Keep [] w W
theorem PicInv.steady {s : ByteArray} {w W : World} (hW : w.heap.size ≤ W.heap.size) (k : Nat) : Steady [] W (PicInv s w k) := by
  rintro fp W1 W2 S ⟨h1, h4, rfl, h6⟩ hk hS
  refine ⟨hk.at_ h1 (fun h => (hS _ h).1 (by simp)), h4, rfl, h6.trans hk (fun x hx => .inr ?_)⟩
  rcases (hS x hx).2 with h | h
  · cases h
  · omega
theorem PicStop.steady {s : ByteArray} {w W : World} (hW : w.heap.size ≤ W.heap.size) (c : Code) (k : Nat) : Steady [] W (PicStop s w c k) := by
  rintro fp W1 W2 S ⟨h1, h4, rfl, h6⟩ hk hS
  refine ⟨h1, hk.at_ h4 (fun h => (hS _ h).1 (by simp)), rfl, h6.trans hk (fun x hx => .inr ?_)⟩
  rcases (hS x hx).2 with h | h
  · cases h
  · omega
theorem ctxA_len (s : ByteArray) : (ctxA s).length = (cut s 0).length := by simp [ctxA, ctx]
theorem ctxA_get {s : ByteArray} {k i : Nat} (h : (cut s 0).reverse[k]? = some i) : (ctxA s)[k]? = some (clsAt s i) := by
  unfold ctxA ctx
  rw [← List.map_reverse, List.getElem?_map, h]; rfl
theorem ctxA_drop {s : ByteArray} {k i : Nat} (h : (cut s 0).reverse[k]? = some i) : (ctxA s).drop k = clsAt s i :: (ctxA s).drop (k + 1) := by
  have := ctxA_get h
  obtain ⟨hk, he⟩ := List.getElem?_eq_some_iff.1 this
  rw [List.drop_eq_getElem_cons hk, he]
theorem cls32 {s : ByteArray} {i : Nat} (hi : i < s.size) : -2147483648 ≤ (((dec s i).1 : Nat) : Int) ∧ (((dec s i).1 : Nat) : Int) ≤ 2147483647 := by
  have := dec_le hi; omega

set_option maxHeartbeats 8000000 in
theorem pictured_any (s : ByteArray) (w : World) (hz : s.size ≤ 1073741824) :
    Calls Try.prog 57 #[.string s] w fun e w' => e = .returned (.bool (pic (ctxA s))) ∧ Keep [] w w' := by
  refine (callsIn_wide (n := 0)).1 ?_
  refine callsIn_of_wp_marks Try.func57 rfl trivial ?_
  simp only [Try.ntmps57, List.size_toArray, List.length_cons, List.length_nil, Nat.reduceAdd, Nat.reduceSub, Array.replicate_succ, Array.replicate_zero, List.push_toArray, List.append_toArray, List.nil_append, List.cons_append]
  gi_wp2_with fail
  refine ⟨trivial, rfl, ?_⟩
  refine (callsIn_wide.2 (back_any s _)).mono ?_
  rintro e w1 ⟨rfl, hw1⟩
  have hk1 : Keep [] w w1 := by rw [hw1]; exact ((Keep.refl _ _).alloc _).alloc _
  have hs1 : w1.heap.size = w.heap.size + 2 := by rw [hw1]; simp
  have hb0 : w1.heap[w.heap.size]? = some (.cells #[.bool false] 4 (0, 0)) := by
    rw [hw1, Below.heap_alloc _ _ _ (by simp)]; exact World.alloc_heap_new w _
  have hb1 : w1.heap[w.heap.size + 1]? = some (.cells #[.string s] 9 (0, 0)) := by
    rw [hw1]
    have := World.alloc_heap_new (w.alloc (.cells #[.bool false] 4)) (.cells #[.string s] 9); rwa [World.size_alloc] at this
  rw [World.size_alloc]
  have HS1 := Lib.hid hs1; have HB0 := Lib.hid hb0; have HB1 := Lib.hid hb1; have HK1 := Lib.hid hk1
  clear hw1 hs1 hb0 hb1 hk1
  gi_wp2_with fail
  refine wpIn_range (gf := 67) (lb := #[.pointer (some ⟨w.heap.size + 1, 0, none⟩)]) rfl (enters_of Try.func67 (by kernel_rfl) rfl)
    (back1_iters (w.heap.size + 1) s hz) (fun W hk => TxtNeed.keep HB1.out hk (by simp)) (by simp [pieceArgs]) [w.heap.size]
    (fun b hb => by cases hb) (fun b hb => by simp at hb; subst hb; have := HS1.out; simp; omega) (fun b hb => by have := HS1.out; simp at hb; omega)
    (PicInv s w) (PicStop s w) (PicInv.steady (by have := HS1.out; omega)) (PicStop.steady (by have := HS1.out; omega))
    ⟨HB0.out, rfl, rfl, HK1.out⟩
    (fun k => { tmps := #[.string s, undef, .pointer (some ⟨w.heap.size, 0, none⟩), undef, .int .i32 (dec s ((cut s 0).reverse[k]?.getD 0)).1, undef, .string s, .func (.func 67) #[] #[.pointer (some ⟨w.heap.size + 1, 0, none⟩)], .int .i64 ((cut s 0).reverse[k]?.getD 0 : Nat), .int .i32 (dec s ((cut s 0).reverse[k]?.getD 0)).1, undef, undef, undef, undef, undef, undef], defers := [] }) ?assign ?body ?done ?stop
  case assign =>
    intro l k hk W K hK
    rw [List.length_map] at hk
    have hk2 := List.getElem?_eq_getElem hk
    rw [List.getElem_map, show (cut s 0).reverse[k] = (cut s 0).reverse[k]?.getD 0 by rw [hk2]; rfl]
    clear hk2
    have hpa : ∀ i, pieceArgs s i = #[.int .i64 i, .int .i32 (dec s i).1] := fun _ => rfl
    rw [hpa]
    clear hpa
    generalize (cut s 0).reverse[k]?.getD 0 = q at hK ⊢
    gi_wp2
    exact hK
  case body =>
    rintro l k hk fp W ⟨h1, h4, rfl, h6⟩
    rw [List.length_map] at hk
    have hk2 := List.getElem?_eq_getElem hk
    have hq : (cut s 0).reverse[k]?.getD 0 = (cut s 0).reverse[k] := by rw [hk2]; rfl
    have hm := List.getElem_mem hk
    rw [List.mem_reverse] at hm
    have hlt := (mem_cut.1 hm).2
    have hcx := ctxA_drop hk2
    rw [hq]
    clear hq hm hk2
    generalize (cut s 0).reverse[k] = i at *
    obtain ⟨hr0, hr1⟩ := cls32 hlt
    have HC := Lib.hid (show cls (dec s i).1 = clsAt s i from rfl)
    have H1 := Lib.hid h1; have H4 := Lib.hid h4; have H6 := Lib.hid h6; have HX := Lib.hid hcx
    clear h1 h4 h6 hcx
    gi_wp2_with fail
    refine ⟨trivial, rfl, ?_⟩
    refine (callsIn_wide.2 (class_any _ W hr0 hr1)).mono ?_
    rintro r w2 ⟨rfl, hk2⟩
    rw [HC.out]
    have g1 := hk2.at_ H1.out (by simp)
    have f1 := free_of_one g1
    have c1 := cell_of_one g1
    have HG1 := Lib.hid g1; have HK2 := Lib.hid hk2
    clear hk2 g1 HC
    generalize clsAt s i = c at *
    by_cases hc : c = 5
    · have hcd : (c == 5) = true := by simpa using hc
      have HP : Hid (pic (ctxA s) = pic ((ctxA s).drop (k + 1))) := Lib.hid (by rw [H4.out, HX.out, hc]; rfl)
      subst hc
      gi_wp2
      exact ⟨_, ⟨HG1.out, HP.out, rfl, H6.out.trans0 HK2.out⟩, HK2.out.mono (by simp), FromNew.refl _ _⟩
    · have hcd : (c == 5) = false := by simpa using hc
      have HP : Hid (pic (ctxA s) = (c == 12)) := Lib.hid (by
        rw [H4.out, HX.out]; unfold pic; rw [if_neg hc]
        by_cases h : c = 12
        · subst h; rfl
        · rw [decide_eq_false h]; simpa using h)
      have hfin : ∀ b : Bool, Hid (pic (ctxA s) = b → ∃ fp', PicStop s w .ret k fp' (w2.setCell ⟨w.heap.size, 0, none⟩ (.bool b)) ∧ Keep [w.heap.size] W (w2.setCell ⟨w.heap.size, 0, none⟩ (.bool b)) ∧ FromNew [w.heap.size] fp' W) := fun b => Lib.hid fun hb => by
        have hk3 := HK2.out.mono (L' := [w.heap.size]) (by simp)
        exact ⟨_, ⟨rfl, by rw [hb]; exact one_setCell HG1.out, rfl, (H6.out.trans0 HK2.out).setCell (.inr (by simp)) _⟩, hk3.setCell (.inl (by simp)) _, FromNew.refl _ _⟩
      by_cases h12 : c = 12
      · have h12d : (c == 12) = true := by simpa using h12
        have HF := hfin true
        rw [h12d] at HP
        clear hfin h12
        gi_wp2
        exact HF.out HP.out
      · have h12d : (c == 12) = false := by simpa using h12
        have HF := hfin false
        rw [h12d] at HP
        clear hfin h12
        gi_wp2
        exact HF.out HP.out
  case done =>
    rintro D fp W hD ⟨h1, h4, rfl, h6⟩ hK
    rw [List.length_map] at h4
    have c1 := cell_of_one h1
    have f1 := free_of_one h1
    have hp : pic (ctxA s) = false := by rw [h4, List.drop_eq_nil_of_le (by rw [ctxA_len, List.length_reverse]; exact Nat.le_refl _)]; rfl
    have HP := Lib.hid hp
    have HDD := Lib.hid (show w.heap.size < D by have := HS1.out; omega)
    have hg2 := one_setCell (u := .bool false) h1
    have hk2 := Lib.hid (h6.setCell (p := ⟨w.heap.size, 0, none⟩) (.inr (by simp)) (.bool false))
    have hKD := Lib.hid ((block_setCell_other (w := W) (a := ⟨w.heap.size, 0, none⟩) (.bool false) (b := D) (by have := HDD.out; simp; omega)).trans hK)
    have HG2 := Lib.hid hg2
    clear h1 h6 h4 hK hp hg2
    gi_wp2
    refine ⟨by simp, .inl ⟨_, _, rfl, run_takeDeferred hKD.out, ?_⟩⟩
    exact ⟨_, results_cell_one rfl _ _ w.heap.size (.bool false) rfl (load_bool ((World.putObj_heap_other (by have := HDD.out; omega)).trans HG2.out)), by rw [HP.out], keep_putD _ hk2.out (by have := HDD.out; omega)⟩
  case stop =>
    rintro D c k fp W hD hk ⟨rfl, h4, rfl, h6⟩ hK
    have HDD := Lib.hid (show w.heap.size < D by have := HS1.out; omega)
    gi_wp2
    refine ⟨by simp, .inl ⟨_, _, rfl, run_takeDeferred hK, ?_⟩⟩
    exact ⟨_, results_cell_one rfl _ _ w.heap.size (.bool (pic (ctxA s))) rfl (load_bool ((World.putObj_heap_other (by have := HDD.out; omega)).trans h4)), rfl, keep_putD _ h6 (by have := HDD.out; omega)⟩

theorem flg_6 (l : List Int) : flg (6 :: l) = flg l + 1 := rfl
/-- What flags' loop keeps: so many flag letters. -/
def FlgInv (s : ByteArray) (w : World) (k : Nat) (fp : List Nat) (W : World) : Prop :=
  W.heap[w.heap.size]? = some (.cells #[.int .i64 k] 3 (0, 0)) ∧ flg (ctxA s) = k + flg ((ctxA s).drop k) ∧ fp = [w.heap.size] ∧ Keep [] w W
/-- .. and where it stops. -/
def FlgStop (s : ByteArray) (w : World) (c : Code) (k : Nat) (fp : List Nat) (W : World) : Prop :=
  c = .exit 0 ∧ W.heap[w.heap.size]? = some (.cells #[.int .i64 (flg (ctxA s) : Nat)] 3 (0, 0)) ∧ fp = [w.heap.size] ∧ Keep [] w W
theorem FlgInv.steady {s : ByteArray} {w W : World} (hW : w.heap.size ≤ W.heap.size) (k : Nat) : Steady [] W (FlgInv s w k) := by
  rintro fp W1 W2 S ⟨h1, h4, rfl, h6⟩ hk hS
  refine ⟨hk.at_ h1 (fun h => (hS _ h).1 (by simp)), h4, rfl, h6.trans hk (fun x hx => .inr ?_)⟩
  rcases (hS x hx).2 with h | h
  · cases h
  · omega
theorem FlgStop.steady {s : ByteArray} {w W : World} (hW : w.heap.size ≤ W.heap.size) (c : Code) (k : Nat) : Steady [] W (FlgStop s w c k) := by
  rintro fp W1 W2 S ⟨h1, h4, rfl, h6⟩ hk hS
  refine ⟨h1, hk.at_ h4 (fun h => (hS _ h).1 (by simp)), rfl, h6.trans hk (fun x hx => .inr ?_)⟩
  rcases (hS x hx).2 with h | h
  · cases h
  · omega

set_option maxHeartbeats 8000000 in
theorem flags_any (s : ByteArray) (w : World) (hz : s.size ≤ 1073741824) :
    Calls Try.prog 58 #[.string s] w fun e w' => e = .returned (.int .i64 (flg (ctxA s) : Nat)) ∧ Keep [] w w' := by
  refine (callsIn_wide (n := 0)).1 ?_
  refine callsIn_of_wp_marks Try.func58 rfl trivial ?_
  simp only [Try.ntmps58, List.size_toArray, List.length_cons, List.length_nil, Nat.reduceAdd, Nat.reduceSub, Array.replicate_succ, Array.replicate_zero, List.push_toArray, List.append_toArray, List.nil_append, List.cons_append]
  have hcl := cut_len_le s 0 (Nat.zero_le _)
  gi_wp2_with fail
  refine ⟨trivial, rfl, ?_⟩
  refine (callsIn_wide.2 (back_any s _)).mono ?_
  rintro e w1 ⟨rfl, hw1⟩
  have hk1 : Keep [] w w1 := by rw [hw1]; exact ((Keep.refl _ _).alloc _).alloc _
  have hs1 : w1.heap.size = w.heap.size + 2 := by rw [hw1]; simp
  have hb0 : w1.heap[w.heap.size]? = some (.cells #[.int .i64 0] 3 (0, 0)) := by
    rw [hw1, Below.heap_alloc _ _ _ (by simp)]; exact World.alloc_heap_new w _
  have hb1 : w1.heap[w.heap.size + 1]? = some (.cells #[.string s] 9 (0, 0)) := by
    rw [hw1]
    have := World.alloc_heap_new (w.alloc (.cells #[.int .i64 0] 3)) (.cells #[.string s] 9); rwa [World.size_alloc] at this
  rw [World.size_alloc]
  have HS1 := Lib.hid hs1; have HB0 := Lib.hid hb0; have HB1 := Lib.hid hb1; have HK1 := Lib.hid hk1
  clear hw1 hs1 hb0 hb1 hk1
  gi_wp2_with fail
  refine wpIn_range (gf := 67) (lb := #[.pointer (some ⟨w.heap.size + 1, 0, none⟩)]) rfl (enters_of Try.func67 (by kernel_rfl) rfl)
    (back1_iters (w.heap.size + 1) s hz) (fun W hk => TxtNeed.keep HB1.out hk (by simp)) (by simp [pieceArgs]) [w.heap.size]
    (fun b hb => by cases hb) (fun b hb => by simp at hb; subst hb; have := HS1.out; simp; omega) (fun b hb => by have := HS1.out; simp at hb; omega)
    (FlgInv s w) (FlgStop s w) (FlgInv.steady (by have := HS1.out; omega)) (FlgStop.steady (by have := HS1.out; omega))
    ⟨HB0.out, by simp, rfl, HK1.out⟩
    (fun k => { tmps := #[.string s, undef, .int .i64 0, .pointer (some ⟨w.heap.size, 0, none⟩), undef, .int .i32 (dec s ((cut s 0).reverse[k]?.getD 0)).1, .string s, .func (.func 67) #[] #[.pointer (some ⟨w.heap.size + 1, 0, none⟩)], .int .i64 ((cut s 0).reverse[k]?.getD 0 : Nat), .int .i32 (dec s ((cut s 0).reverse[k]?.getD 0)).1, undef, undef, undef, undef, undef, undef], defers := [] }) ?assign ?body ?done ?stop
  case assign =>
    intro l k hk W K hK
    rw [List.length_map] at hk
    have hk2 := List.getElem?_eq_getElem hk
    rw [List.getElem_map, show (cut s 0).reverse[k] = (cut s 0).reverse[k]?.getD 0 by rw [hk2]; rfl]
    clear hk2
    have hpa : ∀ i, pieceArgs s i = #[.int .i64 i, .int .i32 (dec s i).1] := fun _ => rfl
    rw [hpa]
    clear hpa
    generalize (cut s 0).reverse[k]?.getD 0 = q at hK ⊢
    gi_wp2
    exact hK
  case body =>
    rintro l k hk fp W ⟨h1, h4, rfl, h6⟩
    rw [List.length_map] at hk
    have hkn : k ≤ s.size := by have := hk; rw [List.length_reverse] at this; omega
    have hk2 := List.getElem?_eq_getElem hk
    have hq : (cut s 0).reverse[k]?.getD 0 = (cut s 0).reverse[k] := by rw [hk2]; rfl
    have hm := List.getElem_mem hk
    rw [List.mem_reverse] at hm
    have hlt := (mem_cut.1 hm).2
    have hcx := ctxA_drop hk2
    rw [hq]
    clear hq hm hk2
    generalize (cut s 0).reverse[k] = i at *
    obtain ⟨hr0, hr1⟩ := cls32 hlt
    have HC := Lib.hid (show cls (dec s i).1 = clsAt s i from rfl)
    have H1 := Lib.hid h1; have H4 := Lib.hid h4; have H6 := Lib.hid h6; have HX := Lib.hid hcx
    clear h1 h4 h6 hcx
    gi_wp2_with fail
    refine ⟨trivial, rfl, ?_⟩
    refine (callsIn_wide.2 (class_any _ W hr0 hr1)).mono ?_
    rintro r w2 ⟨rfl, hk2⟩
    rw [HC.out]
    have g1 := hk2.at_ H1.out (by simp)
    have f1 := free_of_one g1
    have c1 := cell_of_one g1
    have HG1 := Lib.hid g1; have HK2 := Lib.hid hk2
    clear hk2 g1 HC
    generalize clsAt s i = c at *
    by_cases hc : c = 6
    · have hcd : (c == 6) = true := by simpa using hc
      have HP : Hid (flg (ctxA s) = (k + 1) + flg ((ctxA s).drop (k + 1))) := Lib.hid (by rw [H4.out, HX.out, hc, flg_6]; omega)
      subst hc
      have hfin := Lib.hid (one_setCell (u := .int .i64 ((k + 1 : Nat) : Int)) HG1.out)
      gi_wp2
      exact ⟨_, ⟨hfin.out, HP.out, rfl, (H6.out.trans0 HK2.out).setCell (.inr (by simp)) _⟩, (HK2.out.mono (by simp)).setCell (.inl (by simp)) _, FromNew.refl _ _⟩
    · have hcd : (c == 6) = false := by simpa using hc
      have hp : flg (ctxA s) = k := by rw [H4.out, HX.out]; unfold flg; rw [if_neg hc]; rfl
      have HP := Lib.hid hp
      clear hp hc
      gi_wp2
      exact ⟨_, ⟨rfl, by rw [HP.out]; exact HG1.out, rfl, H6.out.trans0 HK2.out⟩, HK2.out.mono (by simp), FromNew.refl _ _⟩
  case done =>
    rintro D fp W hD ⟨h1, h4, rfl, h6⟩ hK
    rw [List.length_map] at h4 h1
    have hp : flg (ctxA s) = (cut s 0).reverse.length := by rw [h4, List.drop_eq_nil_of_le (by rw [ctxA_len, List.length_reverse]; exact Nat.le_refl _)]; rfl
    rw [← hp] at h1
    have c1 := cell_of_one h1
    have HDD := Lib.hid (show w.heap.size < D by have := HS1.out; omega)
    have HK := Lib.hid hK; have H6 := Lib.hid h6
    clear h1 h6 h4 hK hp
    generalize hfn : flg (ctxA s) = n at *
    have HN := Lib.hid hfn; clear hfn
    gi_wp2
    refine ⟨by simp, .inl ⟨_, _, rfl, run_takeDeferred HK.out, ?_⟩⟩
    exact ⟨_, results_tmp rfl _ _ _, by rw [HN.out]; rfl, keep_putD _ H6.out (by have := HDD.out; omega)⟩
  case stop =>
    rintro D c k fp W hD hk ⟨rfl, h1, rfl, h6⟩ hK
    have c1 := cell_of_one h1
    have HDD := Lib.hid (show w.heap.size < D by have := HS1.out; omega)
    have HK := Lib.hid hK; have H6 := Lib.hid h6
    clear h1 h6 hK
    generalize hfn : flg (ctxA s) = n at *
    have HN := Lib.hid hfn; clear hfn
    refine wpIn_exit ?_
    gi_wp2
    refine ⟨by simp, .inl ⟨_, _, rfl, run_takeDeferred HK.out, ?_⟩⟩
    exact ⟨_, results_tmp rfl _ _ _, by rw [HN.out]; rfl, keep_putD _ H6.out (by have := HDD.out; omega)⟩
end Go.Proofs.Ytodbjehggkdjaaa
namespace Go.Proofs.Ytodbjehggkdjaaa
open Go.RowKit Go.Shelf
set_option linter.unusedVariables false
set_option linter.unusedSimpArgs false

set_option maxRecDepth 100000 in
set_option maxHeartbeats 64000000 in
theorem apart_any (s : ByteArray) (l : List Nat) (p : Nat) (w : World) (hz : s.size ≤ 1073741824) (h : At s l p) (h0 : 0 < p) (hp : p < s.size) :
    Calls Try.prog 50 #[.string s, .int .i64 p] w fun e w' => e = .returned (.bool (isb s p)) ∧ Keep [] w w' := by
  obtain ⟨l', i, rfl, hat, hi, hpe⟩ := h.inv h0
  have hib := isb_at h
  rw [ctx_snoc] at hib
  have hlast := (hat.last hi).2
  rw [← hpe] at hlast
  have hlv : lstV s p = .tuple #[.int .i32 (dec s i).1, .int .i64 (dec s i).2, .bool (decide (lstN s p ≠ 0))] := by unfold lstV; rw [hlast]
  have hdv : decV s p = .tuple #[.int .i32 (dec s p).1, .int .i64 (dec s p).2, .bool (isB s p)] := rfl
  have hcp : Hid (∀ W : World, Calls Try.prog 57 #[.string (s.extract 0 i)] W fun e w' => e = .returned (.bool (pic (ctx s l'))) ∧ Keep [] W w') := Lib.hid fun W => by
    have := pictured_any (s.extract 0 i) W (by rw [size_ext _ _ _ hat.le]; have := hat.le; omega)
    rwa [ctx_pre hat] at this
  have hcf : Hid (∀ W : World, Calls Try.prog 58 #[.string (s.extract 0 p)] W fun e w' => e = .returned (.int .i64 (flg (clsAt s i :: ctx s l') : Nat)) ∧ Keep [] W w') := Lib.hid fun W => by
    have := flags_any (s.extract 0 p) W (by rw [size_ext _ _ _ h.le]; have := h.le; omega)
    rwa [ctx_pre h, ctx_snoc] at this
  obtain ⟨ra0, ra1⟩ := cls32 hi
  obtain ⟨rb0, rb1⟩ := cls32 hp
  have HLV := Lib.hid hlv; have HDV := Lib.hid hdv; have HIB := Lib.hid hib
  have hin : (p : Int) - ((dec s i).2 : Int) = (i : Int) := by omega
  have his : i ≤ s.size := hat.le
  have HIN := Lib.hid hin
  have HCA := Lib.hid (show cls (dec s i).1 = clsAt s i from rfl)
  have HCB := Lib.hid (show cls (dec s p).1 = clsAt s p from rfl)
  have HA0 := Lib.hid (cls_range (dec s i).1); have HB0 := Lib.hid (cls_range (dec s p).1)
  rw [HCA.out] at HA0
  rw [HCB.out] at HB0
  clear hlv hdv hlast hib hin hat h hpe
  go_enter Try.func50, Try.ntmps50
  go_wp2_with fail
  refine (last_in s p w (by omega) (by omega) (by omega)).mono ?_
  rintro e w1 ⟨rfl, rfl⟩
  rw [HLV.out]
  clear HLV
  go_wp2_with fail
  refine (decode_in s p _ (by omega) (by omega)).mono ?_
  rintro e w1 ⟨rfl, rfl⟩
  rw [HDV.out]
  clear HDV
  generalize decide (lstN s p ≠ 0) = y0 at *
  generalize isB s p = y1 at *
  generalize (dec s p).2 = n2 at *
  go_wp2_with fail
  refine (class_any _ _ ra0 ra1).mono ?_
  rintro e w1 ⟨rfl, hk⟩
  rw [HCA.out]
  have K1 := Lib.hid hk; clear hk
  go_wp2_with fail
  refine (class_any _ _ rb0 rb1).mono ?_
  rintro e w2 ⟨rfl, hk⟩
  rw [HCB.out]
  have K2 := Lib.hid (K1.out.trans0 hk); clear hk K1 HCA HCB ra0 ra1 rb0 rb1
  generalize clsAt s i = a at *
  generalize clsAt s p = b at *
  generalize (dec s i).2 = n1 at *
  generalize (dec s i).1 = r1 at *
  generalize (dec s p).1 = r2 at *
  obtain ⟨ha0, ha1⟩ := HA0.out
  obtain ⟨hb0, hb1⟩ := HB0.out
  clear HA0 HB0
  generalize hcx : ctx s l' = cx at *
  generalize hres : isb s p = res at *
  have HRES := Lib.hid hres; clear hcx hres
  have hav : a = 0 ∨ a = 1 ∨ a = 2 ∨ a = 3 ∨ a = 4 ∨ a = 5 ∨ a = 6 ∨ a = 7 ∨ a = 8 ∨ a = 9 ∨ a = 10 ∨ a = 11 ∨ a = 12 := by omega
  clear ha0 ha1
  rcases hav with rfl | rfl | rfl | rfl | rfl | rfl | rfl | rfl | rfl | rfl | rfl | rfl | rfl
  · -- 0
    have hbv : (1 ≤ b ∧ b ≤ 3) ∨ b = 0 ∨ b = 4 ∨ b = 5 ∨ (6 ≤ b ∧ b ≠ 4 ∧ b ≠ 5) := by omega
    rcases hbv with hbb | rfl | rfl | rfl | hbb
    · obtain ⟨g1, g2⟩ := hbb
      have d1 : decide (1 ≤ b) = true := by simpa using g1
      have d2 : decide (b ≤ 3) = true := by simpa using g2
      have HR : Hid (res = true) := Lib.hid (by rw [HIB.out]; simp [bt, hardC] <;> omega)
      clear HIB hb0 hb1
      go_wp2
      go_ret
      exact ⟨by rw [HRES.out, HR.out]; rfl, K2.out⟩
    · -- 0
      have HR : Hid (res = true) := Lib.hid (by rw [HIB.out]; simp [bt, hardC] <;> omega)
      clear HIB hb0 hb1
      go_wp2
      go_ret
      exact ⟨by rw [HRES.out, HR.out]; rfl, K2.out⟩
    · -- 4
      have HR : Hid (res = false) := Lib.hid (by rw [HIB.out]; simp [bt, hardC] <;> omega)
      clear HIB hb0 hb1
      go_wp2
      go_ret
      exact ⟨by rw [HRES.out, HR.out]; rfl, K2.out⟩
    · -- 5
      have HR : Hid (res = false) := Lib.hid (by rw [HIB.out]; simp [bt, hardC] <;> omega)
      clear HIB hb0 hb1
      go_wp2
      go_ret
      exact ⟨by rw [HRES.out, HR.out]; rfl, K2.out⟩
    · obtain ⟨g1, q4, q5⟩ := hbb
      have d1 : decide (1 ≤ b) = true := by simp; omega
      have d2 : decide (b ≤ 3) = false := by simp; omega
      have e4 : (b == 4) = false := by simpa using q4
      have e5 : (b == 5) = false := by simpa using q5
      have HR : Hid (res = true) := Lib.hid (by rw [HIB.out]; simp [bt, hardC] <;> omega)
      clear HIB hb0 hb1
      go_wp2
      go_ret
      exact ⟨by rw [HRES.out, HR.out]; rfl, K2.out⟩
  · -- 1
    by_cases h : b = 2
    · subst h
      have HR : Hid (res = false) := Lib.hid (by rw [HIB.out]; simp [bt, hardC] <;> omega)
      clear HIB hb0 hb1
      go_wp2
      go_ret
      exact ⟨by rw [HRES.out, HR.out]; rfl, K2.out⟩
    · have hd : (b == 2) = false := by simpa using h
      have HR : Hid (res = true) := Lib.hid (by rw [HIB.out]; simp [bt, hardC] <;> omega)
      clear HIB hb0 hb1
      go_wp2
      go_ret
      exact ⟨by rw [HRES.out, HR.out]; rfl, K2.out⟩
  · -- 2
    have HR : Hid (res = true) := Lib.hid (by rw [HIB.out]; simp [bt, hardC] <;> omega)
    clear HIB hb0 hb1
    go_wp2
    go_ret
    exact ⟨by rw [HRES.out, HR.out]; rfl, K2.out⟩
  · -- 3
    have HR : Hid (res = true) := Lib.hid (by rw [HIB.out]; simp [bt, hardC] <;> omega)
    clear HIB hb0 hb1
    go_wp2
    go_ret
    exact ⟨by rw [HRES.out, HR.out]; rfl, K2.out⟩
  · -- 4
    have hbv : (1 ≤ b ∧ b ≤ 3) ∨ b = 0 ∨ b = 4 ∨ b = 5 ∨ b = 12 ∨ (6 ≤ b ∧ b ≠ 4 ∧ b ≠ 5 ∧ b ≠ 12) := by omega
    rcases hbv with hbb | rfl | rfl | rfl | rfl | hbb
    · obtain ⟨g1, g2⟩ := hbb
      have d1 : decide (1 ≤ b) = true := by simpa using g1
      have d2 : decide (b ≤ 3) = true := by simpa using g2
      have HR : Hid (res = true) := Lib.hid (by rw [HIB.out]; simp [bt, hardC] <;> omega)
      clear HIB hb0 hb1
      go_wp2
      go_ret
      exact ⟨by rw [HRES.out, HR.out]; rfl, K2.out⟩
    · -- 0
      have HR : Hid (res = true) := Lib.hid (by rw [HIB.out]; simp [bt, hardC] <;> omega)
      clear HIB hb0 hb1
      go_wp2
      go_ret
      exact ⟨by rw [HRES.out, HR.out]; rfl, K2.out⟩
    · -- 4
      have HR : Hid (res = false) := Lib.hid (by rw [HIB.out]; simp [bt, hardC] <;> omega)
      clear HIB hb0 hb1
      go_wp2
      go_ret
      exact ⟨by rw [HRES.out, HR.out]; rfl, K2.out⟩
    · -- 5
      have HR : Hid (res = false) := Lib.hid (by rw [HIB.out]; simp [bt, hardC] <;> omega)
      clear HIB hb0 hb1
      go_wp2
      go_ret
      exact ⟨by rw [HRES.out, HR.out]; rfl, K2.out⟩
    · -- 12
      have hin := HIN.out
      have hzz : decide (s.size < i) = false := by simp; omega
      clear HIN
      go_wp2_with fail
      refine (hcp.out _).mono ?_
      rintro e w3 ⟨rfl, hk⟩
      have K3 := Lib.hid (K2.out.trans0 hk); clear hk
      cases hpv : pic cx with
      | true =>
        have HR : Hid (res = false) := Lib.hid (by rw [HIB.out]; simp [bt, hardC, hpv])
        clear hpv
        go_wp2
        go_ret
        exact ⟨by rw [HRES.out, HR.out]; rfl, K3.out⟩
      | false =>
        have HR : Hid (res = true) := Lib.hid (by rw [HIB.out]; simp [bt, hardC, hpv])
        clear hpv
        go_wp2
        go_ret
        exact ⟨by rw [HRES.out, HR.out]; rfl, K3.out⟩
    · obtain ⟨g1, q4, q5, q12⟩ := hbb
      have d1 : decide (1 ≤ b) = true := by simp; omega
      have d2 : decide (b ≤ 3) = false := by simp; omega
      have e4 : (b == 4) = false := by simpa using q4
      have e5 : (b == 5) = false := by simpa using q5
      have e12 : (b == 12) = false := by simpa using q12
      have HR : Hid (res = true) := Lib.hid (by rw [HIB.out]; simp [bt, hardC] <;> omega)
      clear HIB hb0 hb1
      go_wp2
      go_ret
      exact ⟨by rw [HRES.out, HR.out]; rfl, K2.out⟩
  · -- 5
    have hbv : (1 ≤ b ∧ b ≤ 3) ∨ b = 0 ∨ b = 4 ∨ b = 5 ∨ (6 ≤ b ∧ b ≠ 4 ∧ b ≠ 5) := by omega
    rcases hbv with hbb | rfl | rfl | rfl | hbb
    · obtain ⟨g1, g2⟩ := hbb
      have d1 : decide (1 ≤ b) = true := by simpa using g1
      have d2 : decide (b ≤ 3) = true := by simpa using g2
      have HR : Hid (res = true) := Lib.hid (by rw [HIB.out]; simp [bt, hardC] <;> omega)
      clear HIB hb0 hb1
      go_wp2
      go_ret
      exact ⟨by rw [HRES.out, HR.out]; rfl, K2.out⟩
    · -- 0
      have HR : Hid (res = true) := Lib.hid (by rw [HIB.out]; simp [bt, hardC] <;> omega)
      clear HIB hb0 hb1
      go_wp2
      go_ret
      exact ⟨by rw [HRES.out, HR.out]; rfl, K2.out⟩
    · -- 4
      have HR : Hid (res = false) := Lib.hid (by rw [HIB.out]; simp [bt, hardC] <;> omega)
      clear HIB hb0 hb1
      go_wp2
      go_ret
      exact ⟨by rw [HRES.out, HR.out]; rfl, K2.out⟩
    · -- 5
      have HR : Hid (res = false) := Lib.hid (by rw [HIB.out]; simp [bt, hardC] <;> omega)
      clear HIB hb0 hb1
      go_wp2
      go_ret
      exact ⟨by rw [HRES.out, HR.out]; rfl, K2.out⟩
    · obtain ⟨g1, q4, q5⟩ := hbb
      have d1 : decide (1 ≤ b) = true := by simp; omega
      have d2 : decide (b ≤ 3) = false := by simp; omega
      have e4 : (b == 4) = false := by simpa using q4
      have e5 : (b == 5) = false := by simpa using q5
      have HR : Hid (res = true) := Lib.hid (by rw [HIB.out]; simp [bt, hardC] <;> omega)
      clear HIB hb0 hb1
      go_wp2
      go_ret
      exact ⟨by rw [HRES.out, HR.out]; rfl, K2.out⟩
  · -- 6
    have hbv : (1 ≤ b ∧ b ≤ 3) ∨ b = 0 ∨ b = 4 ∨ b = 5 ∨ b = 6 ∨ (6 ≤ b ∧ b ≠ 4 ∧ b ≠ 5 ∧ b ≠ 6) := by omega
    rcases hbv with hbb | rfl | rfl | rfl | rfl | hbb
    · obtain ⟨g1, g2⟩ := hbb
      have d1 : decide (1 ≤ b) = true := by simpa using g1
      have d2 : decide (b ≤ 3) = true := by simpa using g2
      have HR : Hid (res = true) := Lib.hid (by rw [HIB.out]; simp [bt, hardC] <;> omega)
      clear HIB hb0 hb1
      go_wp2
      go_ret
      exact ⟨by rw [HRES.out, HR.out]; rfl, K2.out⟩
    · -- 0
      have HR : Hid (res = true) := Lib.hid (by rw [HIB.out]; simp [bt, hardC] <;> omega)
      clear HIB hb0 hb1
      go_wp2
      go_ret
      exact ⟨by rw [HRES.out, HR.out]; rfl, K2.out⟩
    · -- 4
      have HR : Hid (res = false) := Lib.hid (by rw [HIB.out]; simp [bt, hardC] <;> omega)
      clear HIB hb0 hb1
      go_wp2
      go_ret
      exact ⟨by rw [HRES.out, HR.out]; rfl, K2.out⟩
    · -- 5
      have HR : Hid (res = false) := Lib.hid (by rw [HIB.out]; simp [bt, hardC] <;> omega)
      clear HIB hb0 hb1
      go_wp2
      go_ret
      exact ⟨by rw [HRES.out, HR.out]; rfl, K2.out⟩
    · -- 6
      have hzz : decide (s.size < p) = false := by simp; omega
      clear HIN
      go_wp2_with fail
      refine (hcf.out _).mono ?_
      rintro e w3 ⟨rfl, hk⟩
      have K3 := Lib.hid (K2.out.trans0 hk); clear hk
      generalize hfn : flg (6 :: cx) = fn at *
      have HR : Hid (res = (((fn : Int) % 2) == 0)) := Lib.hid (by
        rw [HIB.out]
        have : bt (6 :: cx) 6 = if fn % 2 = 1 then false else true := by simp [bt, hardC, hfn]
        rw [this]
        by_cases hq : fn % 2 = 1
        · rw [if_pos hq]; symm; simp; omega
        · rw [if_neg hq]; symm; simp; omega)
      clear hfn
      go_wp2
      go_ret
      exact ⟨by rw [HRES.out, HR.out]; rfl, K3.out⟩
    · obtain ⟨g1, q4, q5, q6⟩ := hbb
      have d1 : decide (1 ≤ b) = true := by simp; omega
      have d2 : decide (b ≤ 3) = false := by simp; omega
      have e4 : (b == 4) = false := by simpa using q4
      have e5 : (b == 5) = false := by simpa using q5
      have e6 : (b == 6) = false := by simpa using q6
      have HR : Hid (res = true) := Lib.hid (by rw [HIB.out]; simp [bt, hardC] <;> omega)
      clear HIB hb0 hb1
      go_wp2
      go_ret
      exact ⟨by rw [HRES.out, HR.out]; rfl, K2.out⟩
  · -- 7
    have hbv : (1 ≤ b ∧ b ≤ 3) ∨ b = 0 ∨ b = 4 ∨ b = 5 ∨ b = 7 ∨ b = 8 ∨ b = 10 ∨ b = 11 ∨ (6 ≤ b ∧ b ≠ 4 ∧ b ≠ 5 ∧ b ≠ 7 ∧ b ≠ 8 ∧ b ≠ 10 ∧ b ≠ 11) := by omega
    rcases hbv with hbb | rfl | rfl | rfl | rfl | rfl | rfl | rfl | hbb
    · obtain ⟨g1, g2⟩ := hbb
      have d1 : decide (1 ≤ b) = true := by simpa using g1
      have d2 : decide (b ≤ 3) = true := by simpa using g2
      have HR : Hid (res = true) := Lib.hid (by rw [HIB.out]; simp [bt, hardC] <;> omega)
      clear HIB hb0 hb1
      go_wp2
      go_ret
      exact ⟨by rw [HRES.out, HR.out]; rfl, K2.out⟩
    · -- 0
      have HR : Hid (res = true) := Lib.hid (by rw [HIB.out]; simp [bt, hardC] <;> omega)
      clear HIB hb0 hb1
      go_wp2
      go_ret
      exact ⟨by rw [HRES.out, HR.out]; rfl, K2.out⟩
    · -- 4
      have HR : Hid (res = false) := Lib.hid (by rw [HIB.out]; simp [bt, hardC] <;> omega)
      clear HIB hb0 hb1
      go_wp2
      go_ret
      exact ⟨by rw [HRES.out, HR.out]; rfl, K2.out⟩
    · -- 5
      have HR : Hid (res = false) := Lib.hid (by rw [HIB.out]; simp [bt, hardC] <;> omega)
      clear HIB hb0 hb1
      go_wp2
      go_ret
      exact ⟨by rw [HRES.out, HR.out]; rfl, K2.out⟩
    · -- 7
      have HR : Hid (res = false) := Lib.hid (by rw [HIB.out]; simp [bt, hardC] <;> omega)
      clear HIB hb0 hb1
      go_wp2
      go_ret
      exact ⟨by rw [HRES.out, HR.out]; rfl, K2.out⟩
    · -- 8
      have HR : Hid (res = false) := Lib.hid (by rw [HIB.out]; simp [bt, hardC] <;> omega)
      clear HIB hb0 hb1
      go_wp2
      go_ret
      exact ⟨by rw [HRES.out, HR.out]; rfl, K2.out⟩
    · -- 10
      have HR : Hid (res = false) := Lib.hid (by rw [HIB.out]; simp [bt, hardC] <;> omega)
      clear HIB hb0 hb1
      go_wp2
      go_ret
      exact ⟨by rw [HRES.out, HR.out]; rfl, K2.out⟩
    · -- 11
      have HR : Hid (res = false) := Lib.hid (by rw [HIB.out]; simp [bt, hardC] <;> omega)
      clear HIB hb0 hb1
      go_wp2
      go_ret
      exact ⟨by rw [HRES.out, HR.out]; rfl, K2.out⟩
    · obtain ⟨g1, q4, q5, q7, q8, q10, q11⟩ := hbb
      have d1 : decide (1 ≤ b) = true := by simp; omega
      have d2 : decide (b ≤ 3) = false := by simp; omega
      have e4 : (b == 4) = false := by simpa using q4
      have e5 : (b == 5) = false := by simpa using q5
      have e7 : (b == 7) = false := by simpa using q7
      have e8 : (b == 8) = false := by simpa using q8
      have e10 : (b == 10) = false := by simpa using q10
      have e11 : (b == 11) = false := by simpa using q11
      have HR : Hid (res = true) := Lib.hid (by rw [HIB.out]; simp [bt, hardC] <;> omega)
      clear HIB hb0 hb1
      go_wp2
      go_ret
      exact ⟨by rw [HRES.out, HR.out]; rfl, K2.out⟩
  · -- 8
    have hbv : (1 ≤ b ∧ b ≤ 3) ∨ b = 0 ∨ b = 4 ∨ b = 5 ∨ b = 8 ∨ b = 9 ∨ (6 ≤ b ∧ b ≠ 4 ∧ b ≠ 5 ∧ b ≠ 8 ∧ b ≠ 9) := by omega
    rcases hbv with hbb | rfl | rfl | rfl | rfl | rfl | hbb
    · obtain ⟨g1, g2⟩ := hbb
      have d1 : decide (1 ≤ b) = true := by simpa using g1
      have d2 : decide (b ≤ 3) = true := by simpa using g2
      have HR : Hid (res = true) := Lib.hid (by rw [HIB.out]; simp [bt, hardC] <;> omega)
      clear HIB hb0 hb1
      go_wp2
      go_ret
      exact ⟨by rw [HRES.out, HR.out]; rfl, K2.out⟩
    · -- 0
      have HR : Hid (res = true) := Lib.hid (by rw [HIB.out]; simp [bt, hardC] <;> omega)
      clear HIB hb0 hb1
      go_wp2
      go_ret
      exact ⟨by rw [HRES.out, HR.out]; rfl, K2.out⟩
    · -- 4
      have HR : Hid (res = false) := Lib.hid (by rw [HIB.out]; simp [bt, hardC] <;> omega)
      clear HIB hb0 hb1
      go_wp2
      go_ret
      exact ⟨by rw [HRES.out, HR.out]; rfl, K2.out⟩
    · -- 5
      have HR : Hid (res = false) := Lib.hid (by rw [HIB.out]; simp [bt, hardC] <;> omega)
      clear HIB hb0 hb1
      go_wp2
      go_ret
      exact ⟨by rw [HRES.out, HR.out]; rfl, K2.out⟩
    · -- 8
      have HR : Hid (res = false) := Lib.hid (by rw [HIB.out]; simp [bt, hardC] <;> omega)
      clear HIB hb0 hb1
      go_wp2
      go_ret
      exact ⟨by rw [HRES.out, HR.out]; rfl, K2.out⟩
    · -- 9
      have HR : Hid (res = false) := Lib.hid (by rw [HIB.out]; simp [bt, hardC] <;> omega)
      clear HIB hb0 hb1
      go_wp2
      go_ret
      exact ⟨by rw [HRES.out, HR.out]; rfl, K2.out⟩
    · obtain ⟨g1, q4, q5, q8, q9⟩ := hbb
      have d1 : decide (1 ≤ b) = true := by simp; omega
      have d2 : decide (b ≤ 3) = false := by simp; omega
      have e4 : (b == 4) = false := by simpa using q4
      have e5 : (b == 5) = false := by simpa using q5
      have e8 : (b == 8) = false := by simpa using q8
      have e9 : (b == 9) = false := by simpa using q9
      have HR : Hid (res = true) := Lib.hid (by rw [HIB.out]; simp [bt, hardC] <;> omega)
      clear HIB hb0 hb1
      go_wp2
      go_ret
      exact ⟨by rw [HRES.out, HR.out]; rfl, K2.out⟩
  · -- 9
    have hbv : (1 ≤ b ∧ b ≤ 3) ∨ b = 0 ∨ b = 4 ∨ b = 5 ∨ b = 9 ∨ (6 ≤ b ∧ b ≠ 4 ∧ b ≠ 5 ∧ b ≠ 9) := by omega
    rcases hbv with hbb | rfl | rfl | rfl | rfl | hbb
    · obtain ⟨g1, g2⟩ := hbb
      have d1 : decide (1 ≤ b) = true := by simpa using g1
      have d2 : decide (b ≤ 3) = true := by simpa using g2
      have HR : Hid (res = true) := Lib.hid (by rw [HIB.out]; simp [bt, hardC] <;> omega)
      clear HIB hb0 hb1
      go_wp2
      go_ret
      exact ⟨by rw [HRES.out, HR.out]; rfl, K2.out⟩
    · -- 0
      have HR : Hid (res = true) := Lib.hid (by rw [HIB.out]; simp [bt, hardC] <;> omega)
      clear HIB hb0 hb1
      go_wp2
      go_ret
      exact ⟨by rw [HRES.out, HR.out]; rfl, K2.out⟩
    · -- 4
      have HR : Hid (res = false) := Lib.hid (by rw [HIB.out]; simp [bt, hardC] <;> omega)
      clear HIB hb0 hb1
      go_wp2
      go_ret
      exact ⟨by rw [HRES.out, HR.out]; rfl, K2.out⟩
    · -- 5
      have HR : Hid (res = false) := Lib.hid (by rw [HIB.out]; simp [bt, hardC] <;> omega)
      clear HIB hb0 hb1
      go_wp2
      go_ret
      exact ⟨by rw [HRES.out, HR.out]; rfl, K2.out⟩
    · -- 9
      have HR : Hid (res = false) := Lib.hid (by rw [HIB.out]; simp [bt, hardC] <;> omega)
      clear HIB hb0 hb1
      go_wp2
      go_ret
      exact ⟨by rw [HRES.out, HR.out]; rfl, K2.out⟩
    · obtain ⟨g1, q4, q5, q9⟩ := hbb
      have d1 : decide (1 ≤ b) = true := by simp; omega
      have d2 : decide (b ≤ 3) = false := by simp; omega
      have e4 : (b == 4) = false := by simpa using q4
      have e5 : (b == 5) = false := by simpa using q5
      have e9 : (b == 9) = false := by simpa using q9
      have HR : Hid (res = true) := Lib.hid (by rw [HIB.out]; simp [bt, hardC] <;> omega)
      clear HIB hb0 hb1
      go_wp2
      go_ret
      exact ⟨by rw [HRES.out, HR.out]; rfl, K2.out⟩
  · -- 10
    have hbv : (1 ≤ b ∧ b ≤ 3) ∨ b = 0 ∨ b = 4 ∨ b = 5 ∨ b = 8 ∨ b = 9 ∨ (6 ≤ b ∧ b ≠ 4 ∧ b ≠ 5 ∧ b ≠ 8 ∧ b ≠ 9) := by omega
    rcases hbv with hbb | rfl | rfl | rfl | rfl | rfl | hbb
    · obtain ⟨g1, g2⟩ := hbb
      have d1 : decide (1 ≤ b) = true := by simpa using g1
      have d2 : decide (b ≤ 3) = true := by simpa using g2
      have HR : Hid (res = true) := Lib.hid (by rw [HIB.out]; simp [bt, hardC] <;> omega)
      clear HIB hb0 hb1
      go_wp2
      go_ret
      exact ⟨by rw [HRES.out, HR.out]; rfl, K2.out⟩
    · -- 0
      have HR : Hid (res = true) := Lib.hid (by rw [HIB.out]; simp [bt, hardC] <;> omega)
      clear HIB hb0 hb1
      go_wp2
      go_ret
      exact ⟨by rw [HRES.out, HR.out]; rfl, K2.out⟩
    · -- 4
      have HR : Hid (res = false) := Lib.hid (by rw [HIB.out]; simp [bt, hardC] <;> omega)
      clear HIB hb0 hb1
      go_wp2
      go_ret
      exact ⟨by rw [HRES.out, HR.out]; rfl, K2.out⟩
    · -- 5
      have HR : Hid (res = false) := Lib.hid (by rw [HIB.out]; simp [bt, hardC] <;> omega)
      clear HIB hb0 hb1
      go_wp2
      go_ret
      exact ⟨by rw [HRES.out, HR.out]; rfl, K2.out⟩
    · -- 8
      have HR : Hid (res = false) := Lib.hid (by rw [HIB.out]; simp [bt, hardC] <;> omega)
      clear HIB hb0 hb1
      go_wp2
      go_ret
      exact ⟨by rw [HRES.out, HR.out]; rfl, K2.out⟩
    · -- 9
      have HR : Hid (res = false) := Lib.hid (by rw [HIB.out]; simp [bt, hardC] <;> omega)
      clear HIB hb0 hb1
      go_wp2
      go_ret
      exact ⟨by rw [HRES.out, HR.out]; rfl, K2.out⟩
    · obtain ⟨g1, q4, q5, q8, q9⟩ := hbb
      have d1 : decide (1 ≤ b) = true := by simp; omega
      have d2 : decide (b ≤ 3) = false := by simp; omega
      have e4 : (b == 4) = false := by simpa using q4
      have e5 : (b == 5) = false := by simpa using q5
      have e8 : (b == 8) = false := by simpa using q8
      have e9 : (b == 9) = false := by simpa using q9
      have HR : Hid (res = true) := Lib.hid (by rw [HIB.out]; simp [bt, hardC] <;> omega)
      clear HIB hb0 hb1
      go_wp2
      go_ret
      exact ⟨by rw [HRES.out, HR.out]; rfl, K2.out⟩
  · -- 11
    have hbv : (1 ≤ b ∧ b ≤ 3) ∨ b = 0 ∨ b = 4 ∨ b = 5 ∨ b = 9 ∨ (6 ≤ b ∧ b ≠ 4 ∧ b ≠ 5 ∧ b ≠ 9) := by omega
    rcases hbv with hbb | rfl | rfl | rfl | rfl | hbb
    · obtain ⟨g1, g2⟩ := hbb
      have d1 : decide (1 ≤ b) = true := by simpa using g1
      have d2 : decide (b ≤ 3) = true := by simpa using g2
      have HR : Hid (res = true) := Lib.hid (by rw [HIB.out]; simp [bt, hardC] <;> omega)
      clear HIB hb0 hb1
      go_wp2
      go_ret
      exact ⟨by rw [HRES.out, HR.out]; rfl, K2.out⟩
    · -- 0
      have HR : Hid (res = true) := Lib.hid (by rw [HIB.out]; simp [bt, hardC] <;> omega)
      clear HIB hb0 hb1
      go_wp2
      go_ret
      exact ⟨by rw [HRES.out, HR.out]; rfl, K2.out⟩
    · -- 4
      have HR : Hid (res = false) := Lib.hid (by rw [HIB.out]; simp [bt, hardC] <;> omega)
      clear HIB hb0 hb1
      go_wp2
      go_ret
      exact ⟨by rw [HRES.out, HR.out]; rfl, K2.out⟩
    · -- 5
      have HR : Hid (res = false) := Lib.hid (by rw [HIB.out]; simp [bt, hardC] <;> omega)
      clear HIB hb0 hb1
      go_wp2
      go_ret
      exact ⟨by rw [HRES.out, HR.out]; rfl, K2.out⟩
    · -- 9
      have HR : Hid (res = false) := Lib.hid (by rw [HIB.out]; simp [bt, hardC] <;> omega)
      clear HIB hb0 hb1
      go_wp2
      go_ret
      exact ⟨by rw [HRES.out, HR.out]; rfl, K2.out⟩
    · obtain ⟨g1, q4, q5, q9⟩ := hbb
      have d1 : decide (1 ≤ b) = true := by simp; omega
      have d2 : decide (b ≤ 3) = false := by simp; omega
      have e4 : (b == 4) = false := by simpa using q4
      have e5 : (b == 5) = false := by simpa using q5
      have e9 : (b == 9) = false := by simpa using q9
      have HR : Hid (res = true) := Lib.hid (by rw [HIB.out]; simp [bt, hardC] <;> omega)
      clear HIB hb0 hb1
      go_wp2
      go_ret
      exact ⟨by rw [HRES.out, HR.out]; rfl, K2.out⟩
  · -- 12
    have hbv : (1 ≤ b ∧ b ≤ 3) ∨ b = 0 ∨ b = 4 ∨ b = 5 ∨ (6 ≤ b ∧ b ≠ 4 ∧ b ≠ 5) := by omega
    rcases hbv with hbb | rfl | rfl | rfl | hbb
    · obtain ⟨g1, g2⟩ := hbb
      have d1 : decide (1 ≤ b) = true := by simpa using g1
      have d2 : decide (b ≤ 3) = true := by simpa using g2
      have HR : Hid (res = true) := Lib.hid (by rw [HIB.out]; simp [bt, hardC] <;> omega)
      clear HIB hb0 hb1
      go_wp2
      go_ret
      exact ⟨by rw [HRES.out, HR.out]; rfl, K2.out⟩
    · -- 0
      have HR : Hid (res = true) := Lib.hid (by rw [HIB.out]; simp [bt, hardC] <;> omega)
      clear HIB hb0 hb1
      go_wp2
      go_ret
      exact ⟨by rw [HRES.out, HR.out]; rfl, K2.out⟩
    · -- 4
      have HR : Hid (res = false) := Lib.hid (by rw [HIB.out]; simp [bt, hardC] <;> omega)
      clear HIB hb0 hb1
      go_wp2
      go_ret
      exact ⟨by rw [HRES.out, HR.out]; rfl, K2.out⟩
    · -- 5
      have HR : Hid (res = false) := Lib.hid (by rw [HIB.out]; simp [bt, hardC] <;> omega)
      clear HIB hb0 hb1
      go_wp2
      go_ret
      exact ⟨by rw [HRES.out, HR.out]; rfl, K2.out⟩
    · obtain ⟨g1, q4, q5⟩ := hbb
      have d1 : decide (1 ≤ b) = true := by simp; omega
      have d2 : decide (b ≤ 3) = false := by simp; omega
      have e4 : (b == 4) = false := by simpa using q4
      have e5 : (b == 5) = false := by simpa using q5
      have HR : Hid (res = true) := Lib.hid (by rw [HIB.out]; simp [bt, hardC] <;> omega)
      clear HIB hb0 hb1
      go_wp2
      go_ret
      exact ⟨by rw [HRES.out, HR.out]; rfl, K2.out⟩
end Go.Proofs.Ytodbjehggkdjaaa
