/-
  At, Len, Lines: whole.
-/
import Derived.Test.YtodbjehggkdjaaaMP
import Derived.Test.YtodbjehggkdjaaaPlaE
namespace Go.Proofs.Ytodbjehggkdjaaa
open Go.RowKit
set_option linter.unusedVariables false
set_option linter.unusedSimpArgs false

theorem held1K {w W W' : World} {p : Addr} {u : Value} (k : Keep [] W W') (h : W.cell? p = some u ∧ Keep [] w W) : W'.cell? p = some u ∧ Keep [] w W' := ⟨k.cellv h.1 (by simp), h.2.trans0 k⟩
theorem held1D {w W : World} {p : Addr} {u : Value} (h : W.cell? p = some u ∧ Keep [] w W) : W.drew.cell? p = some u ∧ Keep [] w W.drew := held1K (Keep.refl [] W).drew h
theorem unit_zero (w : World) : (zeroValue 69).run Try.prog w = .ok (.agg #[Value.nilFunc, .int .i64 0]) w := by kernel_rfl
theorem look_none {u : Int} (hu : u < 1 ∨ 4 < u) (W : World) (b : Nat) (h : IM W b .i64 unitL) :
    (Instr.lookup 71 (.map (some b)) (.int .i64 u) true).run Try.prog W = .ok (.tuple #[.agg #[Value.nilFunc, .int .i64 0], .bool false]) W := by
  rw [im_lookup (P := Try.prog) Try.underlying71 Try.underlying3 h u true (unit_zero W)]
  have h1 : ((1 : Int) == u) = false := by simp; omega
  have h2 : ((2 : Int) == u) = false := by simp; omega
  have h3 : ((3 : Int) == u) = false := by simp; omega
  have h4 : ((4 : Int) == u) = false := by simp; omega
  simp [imV, imHas, unitL, h1, h2, h3, h4]
theorem look_1 (W : World) (b : Nat) (h : IM W b .i64 unitL) : (Instr.lookup 71 (.map (some b)) (.int .i64 1) true).run Try.prog W = .ok (.tuple #[.agg #[.func (.func 45) #[] #[], .int .i64 4], .bool true]) W := by
  rw [im_lookup (P := Try.prog) Try.underlying71 Try.underlying3 h 1 true (unit_zero W)]
  simp [imV, imHas, unitL, unitE]
theorem look_2 (W : World) (b : Nat) (h : IM W b .i64 unitL) : (Instr.lookup 71 (.map (some b)) (.int .i64 2) true).run Try.prog W = .ok (.tuple #[.agg #[.func (.func 46) #[] #[], .int .i64 3], .bool true]) W := by
  rw [im_lookup (P := Try.prog) Try.underlying71 Try.underlying3 h 2 true (unit_zero W)]
  simp [imV, imHas, unitL, unitE]
theorem look_3 (W : World) (b : Nat) (h : IM W b .i64 unitL) : (Instr.lookup 71 (.map (some b)) (.int .i64 3) true).run Try.prog W = .ok (.tuple #[.agg #[.func (.func 47) #[] #[], .int .i64 4], .bool true]) W := by
  rw [im_lookup (P := Try.prog) Try.underlying71 Try.underlying3 h 3 true (unit_zero W)]
  simp [imV, imHas, unitL, unitE]
theorem look_4 (W : World) (b : Nat) (h : IM W b .i64 unitL) : (Instr.lookup 71 (.map (some b)) (.int .i64 4) true).run Try.prog W = .ok (.tuple #[.agg #[.func (.func 48) #[] #[], .int .i64 3], .bool true]) W := by
  rw [im_lookup (P := Try.prog) Try.underlying71 Try.underlying3 h 4 true (unit_zero W)]
  simp [imV, imHas, unitL, unitE]

set_option maxRecDepth 100000 in
set_option maxHeartbeats 4000000 in
theorem len_core (mb : Nat) (s : ByteArray) (u : Int) (fu : Nat) (eu : Int) (w : World) (h : MapAt w mb s) (hz : s.size ≤ 1000000) (hu : OfU s u fu)
    (hlook : ∀ W b, IM W b .i64 unitL → (Instr.lookup 71 (.map (some b)) (.int .i64 u) true).run Try.prog W = .ok (.tuple #[.agg #[.func (.func fu) #[] #[], .int .i64 eu], .bool true]) W) :
    Calls Try.prog 14 #[.pointer (some ⟨mb, 0, none⟩), .int .i64 u] w fun e w' => e = .returned (.tuple #[.int .i64 (cnt s u (np s) : Nat), .int .i64 0]) ∧ Keep [] w w' := by
  obtain ⟨eg, hf⟩ := hu
  have HF := Lib.hid hf; clear hf
  have HM := Lib.hid h; have HL := Lib.hid hlook
  clear h hlook
  go_enter Try.func14, Try.ntmps14
  go_wp2_with fail
  refine (units_any _).mono ?_
  rintro e W2 ⟨tb, rfl, him, hk⟩
  have hl := HL.out W2 tb him
  have K2 := Lib.hid hk
  clear him hk
  go_upto_region 6 with (fail)
  clear hl
  obtain ⟨W3, hW3⟩ : ∃ W3, W3 = W2.alloc (.cells #[.func (.func fu) #[] #[], .int .i64 eu] 69) := ⟨_, rfl⟩
  rw [← hW3]
  have hk3 : Keep [] W2 W3 := by rw [hW3]; exact (Keep.refl _ _).alloc _
  have x2 : W3.heap[W2.heap.size]? = some (.cells #[.func (.func fu) #[] #[], .int .i64 eu] 69 (0, 0)) := by rw [hW3]; exact World.alloc_heap_new W2 _
  have hS : W3.cell? ⟨W2.heap.size, 0, none⟩ = some (.func (.func fu) #[] #[]) ∧ Keep [] W3 W3 := ⟨by rw [cell_of_block x2]; rfl, Keep.refl _ _⟩
  have K3 := Lib.hid (K2.out.trans0 hk3)
  clear hW3 hk3 x2 K2
  generalize W2.heap.size = ub at *
  have HM3 := Lib.hid (fun W (k : Keep [] W3 W) => mall_any mb s W ((HM.out.keep K3.out).keep k))
  go_region_held3 (fun w' => w'.cell? ⟨ub, 0, none⟩ = some (.func (.func fu) #[] #[]) ∧ Keep [] W3 w') (first | (with_reducible assumption) | (with_reducible exact held1D (by with_reducible assumption)))
    (first
      | (go_at_call 26; refine (HM3.out _ ?h1).mono ?_; (case h1 => first | exact Keep.refl _ _ | exact (Keep.refl [] _).drew); rintro q w4 ⟨b, off, cap, rfl, hsp, hk4⟩; have hS4 := held1K hk4 (by first | (with_reducible assumption) | (with_reducible exact held1D (by with_reducible assumption))); have HSP := Lib.hid hsp; clear hsp)
      | (go_at_call 31; refine (maxfunc_any _ _ _ s _ HSP.out (by omega)).mono ?_; rintro q w5 ⟨rfl, hk5⟩; have hS5 := held1K hk5 (by with_reducible assumption))
      | (refine (HF.out _ _).mono ?_; rintro q w6 ⟨rfl, hk6⟩; have hS6 := held1K hk6 (by with_reducible assumption)))
  all_goals (have HK6 := Lib.hid (K3.out.trans0 hS6.2); go_wp2; go_ret2; exact ⟨rfl, HK6.out⟩)
end Go.Proofs.Ytodbjehggkdjaaa
namespace Go.Proofs.Ytodbjehggkdjaaa
open Go.RowKit
set_option linter.unusedVariables false
set_option linter.unusedSimpArgs false

set_option maxRecDepth 100000 in
set_option maxHeartbeats 4000000 in
theorem len_none (mb : Nat) (u : Int) (w : World) (hu : u < 1 ∨ 4 < u) :
    Calls Try.prog 14 #[.pointer (some ⟨mb, 0, none⟩), .int .i64 u] w fun e w' => e = .returned (.tuple #[.int .i64 0, .int .i64 1]) ∧ Keep [] w w' := by
  have HU := Lib.hid hu; clear hu
  go_enter Try.func14, Try.ntmps14
  go_wp2_with fail
  refine (units_any _).mono ?_
  rintro e W2 ⟨tb, rfl, him, hk⟩
  have hl := look_none HU.out W2 tb him
  have K2 := Lib.hid (hk.alloc (.cells #[Value.nilFunc, .int .i64 0] 69))
  clear him hk
  go_wp2
  go_ret2
  exact ⟨rfl, K2.out⟩
theorem len_any (mb : Nat) (s : ByteArray) (u : Int) (w : World) (h : MapAt w mb s) (hz : s.size ≤ 1000000) :
    Calls Try.prog 14 #[.pointer (some ⟨mb, 0, none⟩), .int .i64 u] w fun e w' => e = .returned (.tuple #[.int .i64 (lenR s u).1, .int .i64 (lenR s u).2]) ∧ Keep [] w w' := by
  by_cases hu : u < 1 ∨ 4 < u
  · have e : lenR s u = (0, 1) := if_pos hu
    rw [e]; exact len_none mb u w hu
  · have e : lenR s u = (((cnt s u (np s) : Nat) : Int), 0) := if_neg hu
    rw [e]
    have h4 : u = 1 ∨ u = 2 ∨ u = 3 ∨ u = 4 := by omega
    rcases h4 with rfl | rfl | rfl | rfl
    · exact len_core mb s 1 _ _ w h hz (ofU1 s) look_1
    · exact len_core mb s 2 _ _ w h hz (ofU2 s) look_2
    · exact len_core mb s 3 _ _ w h hz (ofU3 s) look_3
    · exact len_core mb s 4 _ _ w h hz (ofU4 s) look_4

set_option maxHeartbeats 4000000 in
theorem lines_any (mb : Nat) (s : ByteArray) (w : World) (h : MapAt w mb s) :
    Calls Try.prog 16 #[.pointer (some ⟨mb, 0, none⟩)] w fun e w' => e = .returned (.int .i64 (ln s (np s) : Nat)) ∧ Keep [] w w' := by
  have HM := Lib.hid h; clear h
  go_enter Try.func16, Try.ntmps16
  go_wp2_with fail
  refine (starts_any mb s _ HM.out).mono ?_
  rintro e W2 ⟨b, off, cap, rfl, hsl, hk⟩
  have K2 := Lib.hid hk
  clear hsl hk
  go_wp2
  go_ret
  exact ⟨rfl, K2.out⟩

set_option maxRecDepth 100000 in
set_option maxHeartbeats 4000000 in
theorem at_none (mb : Nat) (u x : Int) (w : World) (hu : u < 1 ∨ 4 < u) :
    Calls Try.prog 13 #[.pointer (some ⟨mb, 0, none⟩), .int .i64 u, .int .i64 x] w fun e w' => e = .returned (.tuple #[.agg noSp, .int .i64 1]) ∧ Keep [] w w' := by
  have HU := Lib.hid hu; clear hu
  go_enter Try.func13, Try.ntmps13
  go_upto_region 3 with (fail)
  obtain ⟨W1, hW1⟩ : ∃ W1, W1 = (w.alloc (.cells #[.int .i64 x] 3)).alloc (.cells #[.int .i64 0, .int .i64 0, .int .i64 0, .int .i64 0, .int .i64 0, .int .i64 0] 29) := ⟨_, rfl⟩
  rw [← hW1]
  have hk1 : Keep [] w W1 := by rw [hW1]; exact ((Keep.refl _ _).alloc _).alloc _
  have x1 : W1.heap[w.heap.size + 1]? = some (.cells #[.int .i64 0, .int .i64 0, .int .i64 0, .int .i64 0, .int .i64 0, .int .i64 0] 29 (0, 0)) := by
    rw [hW1]
    have := World.alloc_heap_new (w.alloc (.cells #[.int .i64 x] 3)) (.cells #[.int .i64 0, .int .i64 0, .int .i64 0, .int .i64 0, .int .i64 0, .int .i64 0] 29); rwa [World.size_alloc] at this
  have X1 := Lib.hid x1; have K1 := Lib.hid hk1
  clear hW1 x1 hk1
  obtain ⟨rb, hrb⟩ : ∃ rb, rb = w.heap.size + 1 := ⟨_, rfl⟩
  rw [← hrb]
  rw [← hrb] at X1
  have HNR := Lib.hid (show w.heap.size ≤ rb by omega)
  clear hrb
  go_wp2_with fail
  refine (units_any _).mono ?_
  rintro e W2 ⟨tb, rfl, him, hk⟩
  have hl := look_none HU.out W2 tb him
  have hk' : Keep [] W1 (W2.alloc (.cells #[Value.nilFunc, .int .i64 0] 69)) := hk.alloc _
  obtain ⟨W7, hs7, hb7, hk7⟩ := store_row (P := Try.prog) (t := 29) (cs := noSp) spot_info (hk'.at_ X1.out (by simp)) rfl rfl noSp_one
  have HL7 := Lib.hid (load_var (P := Try.prog) Try.underlying29 rfl spot_info hb7 rfl)
  have K7 := Lib.hid ((K1.out.trans0 hk').trans hk7 (fun b hb => by simp at hb; exact .inr (by have := HNR.out; omega)))
  clear him hk hk' hb7 hk7 K1 X1
  go_wp2_with (with_reducible refine park_store 6 23 _ rfl ?_)
  refine wpList_store_eq rfl _ (.tmp 6) (.tmp 23) rfl hs7 ?_
  clear hs7 hl
  go_wp2
  exact bodyPost_ret (results_cell_two rfl _ _ rb _ _ rfl rfl HL7.out) rfl ⟨rfl, K7.out⟩
theorem at_any (mb : Nat) (s : ByteArray) (u x : Int) (w : World) (h : MapAt w mb s) (hz : s.size ≤ 1000000) (hx0 : -9223372036854775808 ≤ x) (hx1 : x ≤ 9223372036854775807) :
    Calls Try.prog 13 #[.pointer (some ⟨mb, 0, none⟩), .int .i64 u, .int .i64 x] w fun e w' => e = .returned (.tuple #[.agg (spO s (atR s u x).1), .int .i64 (atR s u x).2]) ∧ Keep [] w w' := by
  by_cases hu : u < 1 ∨ 4 < u
  · have e : atR s u x = (none, 1) := if_pos hu
    rw [e]; exact at_none mb u x w hu
  · have e : ∀ eu, (u = 2 ∨ u = 4 ∨ eu = 4) → atVal s u x eu = .tuple #[.agg (spO s (atR s u x).1), .int .i64 (atR s u x).2] := by
      intro eu he
      unfold atVal atR
      rw [if_neg hu]
      split
      · rfl
      · rename_i hx
        split
        · rfl
        · rename_i hne
          rcases he with rfl | rfl | rfl
          · exact absurd (cnt_full (s := s) (u := 2) (x := x) (by decide) (by decide) (by omega) (by omega)) hne
          · exact absurd (cnt_full (s := s) (u := 4) (x := x) (by decide) (by decide) (by omega) (by omega)) hne
          · rfl
    have h4 : u = 1 ∨ u = 2 ∨ u = 3 ∨ u = 4 := by omega
    rcases h4 with rfl | rfl | rfl | rfl
    · rw [← e 4 (.inr (.inr rfl))]; exact at_core mb s 1 x _ _ w h hz (ofU1 s) hx0 hx1 look_1
    · rw [← e 3 (.inl rfl)]; exact at_core mb s 2 x _ _ w h hz (ofU2 s) hx0 hx1 look_2
    · rw [← e 4 (.inr (.inr rfl))]; exact at_core mb s 3 x _ _ w h hz (ofU3 s) hx0 hx1 look_3
    · rw [← e 3 (.inr (.inl rfl))]; exact at_core mb s 4 x _ _ w h hz (ofU4 s) hx0 hx1 look_4
end Go.Proofs.Ytodbjehggkdjaaa
