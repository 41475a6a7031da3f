/-
  ScriptPrints: whatever the steps, Print says the document's text and error, and leaves the steps as they were; no condition but the five listed variables of the library.
-/
import Derived.Test.YtbidppjhenfjdaaGreatDoorSMB
import Derived.Test.YtbidppjhenfjdaaGreatDoorSMA
import Derived.Test.YtbidppjhenfjdaaGreatDoorScnN
import Derived.Test.YtbidppjhenfjdaaGreatDoorQuoG
import Derived.Test.YtbidppjhenfjdaaGreatDoorSl
import Derived.Deep.Slices
import Derived.ChangeSame
import Derived.OpenShut
import Derived.ChangeSlices
import Derived.Deep.DeepHandedRow
import Derived.Test.YtbidppjhenfjdaaGreatDoorCards
import Derived.Test.YtbidppjhenfjdaaGreatDoorTie
import Derived.Test.YtbidppjhenfjdaaGreatDoorSMS
import Derived.WalkKit
import Derived.ProofKit
import Derived.Lib.LaidTab
import Derived.Lib.TrailingZeros
import Derived.Lib.ItoaNum
import Derived.SizedLaws
import Derived.Carry
import Derived.Stop.LaidErr
namespace Go.Proofs.YtbidppjhenfjdaaGreatDoor
open Go.RowKit
set_option linter.unusedVariables false
set_option linter.unusedSimpArgs false

/-- A field's letter, and a kind's shape. -/
def fldL : Fld → Nat
  | .site => 115
  | .peer => 112
  | .at => 97
  | .num => 110
  | .text => 116
  | .data => 100
def shB (k : Nat) : ByteArray := ⟨((tabF k).map fun f => UInt8.ofNat (fldL f)).toArray⟩
theorem shB_size (k : Nat) : (shB k).size = (tabF k).length := by
  show (((tabF k).map fun f => UInt8.ofNat (fldL f)).toArray).size = _
  simp
def nameB (k : Int) : ByteArray := if 1 ≤ k ∧ k ≤ 14 then tabW k.toNat else ByteArray.empty
set_option maxHeartbeats 4000000 in
set_option maxRecDepth 100000 in
theorem rname_any (k : Int) (W : World) : Calls Tryz.prog 27 #[.int .i64 k] W fun e W' => e = .returned (.string (nameB k)) ∧ Keep [] W W' := by
  go_enter Tryz.func27, Tryz.ntmps27
  go_upto_region 2 with (fail)
  obtain ⟨w1, hw1⟩ : ∃ w1, w1 = W.alloc (.cells #[.string ⟨#[]⟩, .string ⟨#[105, 110, 115, 101, 114, 116]⟩, .string ⟨#[100, 101, 108, 101, 116, 101]⟩, .string ⟨#[106, 111, 105, 110]⟩, .string ⟨#[108, 101, 97, 118, 101]⟩, .string ⟨#[115, 116, 111, 112]⟩, .string ⟨#[116, 105, 99, 107]⟩, .string ⟨#[100, 101, 108, 105, 118, 101, 114]⟩, .string ⟨#[100, 114, 111, 112]⟩, .string ⟨#[100, 111, 117, 98, 108, 101]⟩, .string ⟨#[97, 108, 116, 101, 114]⟩, .string ⟨#[99, 117, 116]⟩, .string ⟨#[116, 101, 120, 116]⟩, .string ⟨#[115, 105, 103, 104, 116]⟩, .string ⟨#[99, 111, 112, 105, 101, 115]⟩] 9) := ⟨_, rfl⟩
  have hk1 : Keep [] W w1 := by rw [hw1]; exact (Keep.refl _ _).alloc _
  have hb1 : w1.heap[W.heap.size]? = some (.cells #[.string ⟨#[]⟩, .string ⟨#[105, 110, 115, 101, 114, 116]⟩, .string ⟨#[100, 101, 108, 101, 116, 101]⟩, .string ⟨#[106, 111, 105, 110]⟩, .string ⟨#[108, 101, 97, 118, 101]⟩, .string ⟨#[115, 116, 111, 112]⟩, .string ⟨#[116, 105, 99, 107]⟩, .string ⟨#[100, 101, 108, 105, 118, 101, 114]⟩, .string ⟨#[100, 114, 111, 112]⟩, .string ⟨#[100, 111, 117, 98, 108, 101]⟩, .string ⟨#[97, 108, 116, 101, 114]⟩, .string ⟨#[99, 117, 116]⟩, .string ⟨#[116, 101, 120, 116]⟩, .string ⟨#[115, 105, 103, 104, 116]⟩, .string ⟨#[99, 111, 112, 105, 101, 115]⟩] 9 (0, 0)) := by rw [hw1]; exact World.alloc_heap_new W _
  rw [← hw1]
  obtain ⟨g, hg⟩ : ∃ g, g = W.heap.size := ⟨_, rfl⟩
  rw [← hg] at hb1 ⊢
  have HK1 := Lib.hid hk1
  have HB1 := Lib.hid hb1
  clear hw1 hk1 hb1 hg
  by_cases h1 : k < 1
  · have HN := Lib.hid (show nameB k = ByteArray.empty from if_neg (by omega))
    have g1 := dec_lt_t h1
    clear h1
    go_wp2
    go_ret
    exact ⟨by rw [HN.out]; rfl, HK1.out⟩
  · by_cases h2 : 15 ≤ k
    · have HN := Lib.hid (show nameB k = ByteArray.empty from if_neg (by omega))
      have g1 := dec_lt_f h1
      have g2 : decide ((15 : Int) ≤ k) = true := decide_eq_true h2
      clear h1 h2
      go_wp2
      go_ret
      exact ⟨by rw [HN.out]; rfl, HK1.out⟩
    · obtain ⟨i, rfl⟩ : ∃ i : Nat, k = i := ⟨k.toNat, by omega⟩
      have hi1 : 1 ≤ i := by omega
      have hi2 : i < 15 := by omega
      have g1 := dec_lt_f h1
      have g2 : decide ((15 : Int) ≤ (i : Int)) = false := decide_eq_false h2
      have hc : w1.cell? ⟨g, i, none⟩ = some (.string (tabW i)) := by
        rw [cell_of_block HB1.out]
        match i, hi1, hi2 with
        | 1, _, _ => rfl
        | 2, _, _ => rfl
        | 3, _, _ => rfl
        | 4, _, _ => rfl
        | 5, _, _ => rfl
        | 6, _, _ => rfl
        | 7, _, _ => rfl
        | 8, _, _ => rfl
        | 9, _, _ => rfl
        | 10, _, _ => rfl
        | 11, _, _ => rfl
        | 12, _, _ => rfl
        | 13, _, _ => rfl
        | 14, _, _ => rfl
      have HN := Lib.hid (show nameB (i : Int) = tabW i by
        unfold nameB
        rw [if_pos (by omega)]
        rfl)
      clear h1 h2 hi1
      generalize tabW i = x at hc HN
      go_wp2
      go_ret
      exact ⟨by rw [HN.out]; rfl, HK1.out⟩
set_option maxHeartbeats 16000000 in
set_option maxRecDepth 100000 in
theorem rshape_any (k : Nat) (W : World) (h1 : 1 ≤ k) (h2 : k ≤ 14) : Calls Tryz.prog 53 #[.int .i64 (k : Nat)] W fun e W' => e = .returned (.string (shB k)) ∧ Keep [] W W' := by
  have hc : k = 1 ∨ k = 2 ∨ k = 3 ∨ k = 4 ∨ k = 5 ∨ k = 6 ∨ k = 7 ∨ k = 8 ∨ k = 9 ∨ k = 10 ∨ k = 11 ∨ k = 12 ∨ k = 13 ∨ k = 14 := by omega
  clear h1 h2
  rcases hc with rfl | rfl | rfl | rfl | rfl | rfl | rfl | rfl | rfl | rfl | rfl | rfl | rfl | rfl
  all_goals
    go_enter Tryz.func53, Tryz.ntmps53
    go_wp2
    go_ret
    exact ⟨rfl, Keep.refl _ _⟩
/-- What field says. -/
def RfPost (f : Fld) (s : Stp) (dv bv : Value) (k : Nat) (t : ByteArray) (n : Int) (W : World) (e : Ending) (W' : World) : Prop := Keep [] W W' ∧
  (((setF f k t n s).2 = false ∧ ∃ c9 : Array Value, e = .returned (.tuple #[.agg c9, .bool false]) ∧ c9 = stV s dv bv) ∨
   ((setF f k t n s).2 = true ∧ ∃ bv', e = .returned (.tuple #[.agg (stV (setF f k t n s).1 dv bv'), .bool true]) ∧ DatB W' bv' (setF f k t n s).1.data ∧ ∀ g, bv'.ownBlock = some g → bv.ownBlock = some g ∨ W.heap.size ≤ g))
set_option maxHeartbeats 16000000 in
set_option maxRecDepth 100000 in
theorem rfield_site (s : Stp) (dv bv : Value) (k : Nat) (t : ByteArray) (n : Int) (a l : Nat) (W : World) (h : StRd W s dv bv) (hd : DatB W bv s.data) : Calls Tryz.prog 54 #[.agg (stV s dv bv), .int .u8 115, wArg k t n a l] W (RfPost .site s dv bv k t n W) := by
  have HD := Lib.hid hd
  obtain ⟨ad1, cap1, hv1⟩ := h.1.empty
  obtain ⟨ad2, cap2, hv2⟩ := h.2.empty
  subst hv1
  subst hv2
  clear h hd
  obtain ⟨nd, hnd⟩ : ∃ nd, nd = s.draws.length := ⟨_, rfl⟩
  obtain ⟨nb, hnb⟩ : ∃ nb, nb = s.data.size := ⟨_, rfl⟩
  rw [← hnb] at HD
  rw [← hnd, ← hnb]
  clear hnd hnb
  unfold stV wArg
  go_enter Tryz.func54, Tryz.ntmps54
  go_upto_region 1 with (fail)
  obtain ⟨w1, hw1⟩ : ∃ w1, w1 = allocs W [.cells #[.int .i64 s.kind, .int .i64 s.site, .int .i64 s.peer, .int .i64 s.unit, .int .i64 s.at_, .int .i64 s.n, .string s.text, .slice ad1 nd cap1, .slice ad2 nb cap2] 40, .cells #[.int .i64 (k : Nat), .string t, .int .i64 n, .int .i64 (a : Nat), .int .i64 (l : Nat)] 67, .cells #[.int .i64 0, .int .i64 0, .int .i64 0, .int .i64 0, .int .i64 0, .int .i64 0, .string ⟨#[]⟩, .slice none 0 0, .slice none 0 0] 40] := ⟨_, rfl⟩
  have hat := fun i o (h : [Obj.cells #[.int .i64 s.kind, .int .i64 s.site, .int .i64 s.peer, .int .i64 s.unit, .int .i64 s.at_, .int .i64 s.n, .string s.text, .slice ad1 nd cap1, .slice ad2 nb cap2] 40, .cells #[.int .i64 (k : Nat), .string t, .int .i64 n, .int .i64 (a : Nat), .int .i64 (l : Nat)] 67, .cells #[.int .i64 0, .int .i64 0, .int .i64 0, .int .i64 0, .int .i64 0, .int .i64 0, .string ⟨#[]⟩, .slice none 0 0, .slice none 0 0] 40][i]? = some o) => allocs_at _ W i o h
  have hk1 : Keep [] W w1 := by rw [hw1]; exact allocs_keep _ _
  rw [← hw1] at hat
  have hb0 := hat 0 _ rfl
  have hb1 := hat 1 _ rfl
  have hb2 := hat 2 _ rfl
  have hw1' : ((W.alloc (.cells #[.int .i64 s.kind, .int .i64 s.site, .int .i64 s.peer, .int .i64 s.unit, .int .i64 s.at_, .int .i64 s.n, .string s.text, .slice ad1 nd cap1, .slice ad2 nb cap2] 40)).alloc (.cells #[.int .i64 (k : Nat), .string t, .int .i64 n, .int .i64 (a : Nat), .int .i64 (l : Nat)] 67)).alloc (.cells #[.int .i64 0, .int .i64 0, .int .i64 0, .int .i64 0, .int .i64 0, .int .i64 0, .string ⟨#[]⟩, .slice none 0 0, .slice none 0 0] 40) = w1 := hw1.symm
  rw [hw1']
  simp only [Nat.add_assoc, Nat.reduceAdd]
  rw [Nat.add_zero] at hb0
  obtain ⟨G, hG⟩ : ∃ G, G = W.heap.size := ⟨_, rfl⟩
  rw [← hG] at hb0 hb1 hb2 ⊢
  have c0 := cell_of_block hb0 0
  have c1 := cell_of_block hb0 1
  have c2 := cell_of_block hb0 2
  have c3 := cell_of_block hb0 3
  have c4 := cell_of_block hb0 4
  have c5 := cell_of_block hb0 5
  have c6 := cell_of_block hb0 6
  have c7 := cell_of_block hb0 7
  have c8 := cell_of_block hb0 8
  have d0 := cell_of_block hb1 0
  have d1 := cell_of_block hb1 1
  have d2 := cell_of_block hb1 2
  have d3 := cell_of_block hb1 3
  have d4 := cell_of_block hb1 4
  simp at c0 c1 c2 c3 c4 c5 c6 c7 c8 d0 d1 d2 d3 d4
  have z0 := free_of_block hb0 1
  have HB0 := Lib.hid hb0
  have HB2 := Lib.hid hb2
  have HK1 := Lib.hid hk1
  have HGG := Lib.hid hG
  clear hw1 hw1' hat hb0 hb1 hb2 hk1 hG
  by_cases hk : k = 3
  · subst hk
    have HS2 := Lib.hid (show (setF .site 3 t n s).2 = true from rfl)
    obtain ⟨w2, hw2⟩ : ∃ w2, w2 = w1.setCell ⟨G, 1, none⟩ (.int .i64 n) := ⟨_, rfl⟩
    have hk2 : Keep [G] w1 w2 := by rw [hw2]; exact (Keep.refl _ _).setCell (.inl (by simp)) _
    have hb2 : w2.heap[G]? = some (.cells #[.int .i64 s.kind, .int .i64 n, .int .i64 s.peer, .int .i64 s.unit, .int .i64 s.at_, .int .i64 s.n, .string s.text, .slice ad1 nd cap1, .slice ad2 nb cap2] 40 (0, 0)) := by rw [hw2]; exact block_setCell HB0.out 1 _
    have hld : (Instr.loadAt 40 (.pointer (some ⟨G, 0, none⟩))).run Tryz.prog w2 = .ok (.agg #[.int .i64 s.kind, .int .i64 n, .int .i64 s.peer, .int .i64 s.unit, .int .i64 s.at_, .int .i64 s.n, .string s.text, .slice ad1 nd cap1, .slice ad2 nb cap2]) w2 := load_row (P := Tryz.prog) Tryz.underlying40 rfl step_info hb2 rfl
    obtain ⟨W9, hs9, hb9, hl9, hk9⟩ := put_step (G + 2) _ #[.int .i64 s.kind, .int .i64 n, .int .i64 s.peer, .int .i64 s.unit, .int .i64 s.at_, .int .i64 s.n, .string s.text, .slice ad1 nd cap1, .slice ad2 nb cap2] w2 (hk2.at_ HB2.out (by simp)) rfl rfl (by simp [Value.oneCell'])
    have HL9 := Lib.hid hl9
    have hk29 : Keep [] W W9 := (HK1.out.trans hk2 (fun x hx => by simp at hx; subst hx; exact .inr (by have := HGG.out; omega))).trans hk9 (fun x hx => by simp at hx; subst hx; exact .inr (by have := HGG.out; omega))
    have HK9 := Lib.hid hk29
    have HD9 := Lib.hid (HD.out.keep hk29 (by simp))
    clear hl9 hk9 hb9 hk2 hb2 hk29
    go_wp2_with (with_reducible refine park_load 3 _ rfl ?_)
    rw [← hw2]
    clear hw2
    refine wpList_load_eq rfl _ (.tmp 3) rfl hld ?_
    go_wp2_with (with_reducible refine park_store 6 63 _ rfl ?_)
    refine wpList_store_eq rfl _ (.tmp 6) (.tmp 63) rfl hs9 ?_
    clear hs9
    go_wp2
    exact bodyPost_ret (results_step rfl _ _ (G + 2) _ _ rfl rfl HL9.out) rfl ⟨HK9.out, .inr ⟨HS2.out, _, rfl, HD9.out, fun g hg => .inl hg⟩⟩
  · have g1 : ((k : Int) != 3) = true := by simp; omega
    have g2 : (k != 3) = true := by simp; omega
    have HS2 := Lib.hid (show (setF .site k t n s).2 = false by show (k == 3) = false; simpa using hk)
    have hld : (Instr.loadAt 40 (.pointer (some ⟨G, 0, none⟩))).run Tryz.prog w1 = .ok (.agg #[.int .i64 s.kind, .int .i64 s.site, .int .i64 s.peer, .int .i64 s.unit, .int .i64 s.at_, .int .i64 s.n, .string s.text, .slice ad1 nd cap1, .slice ad2 nb cap2]) w1 := load_row (P := Tryz.prog) Tryz.underlying40 rfl step_info HB0.out rfl
    obtain ⟨W9, hs9, hb9, hl9, hk9⟩ := put_step (G + 2) _ #[.int .i64 s.kind, .int .i64 s.site, .int .i64 s.peer, .int .i64 s.unit, .int .i64 s.at_, .int .i64 s.n, .string s.text, .slice ad1 nd cap1, .slice ad2 nb cap2] w1 HB2.out rfl rfl (by simp [Value.oneCell'])
    have HL9 := Lib.hid hl9
    have HK9 := Lib.hid (HK1.out.trans hk9 (fun x hx => by simp at hx; subst hx; exact .inr (by have := HGG.out; omega)))
    clear hl9 hk9 hb9 hk
    go_upto_region 3 with (fail)
    go_wp2_with (with_reducible refine park_load 3 _ rfl ?_)
    refine wpList_load_eq rfl _ (.tmp 3) rfl hld ?_
    go_wp2_with (with_reducible refine park_store 6 30 _ rfl ?_)
    refine wpList_store_eq rfl _ (.tmp 6) (.tmp 30) rfl hs9 ?_
    clear hs9
    go_wp2
    exact bodyPost_ret (results_step rfl _ _ (G + 2) _ _ rfl rfl HL9.out) rfl ⟨HK9.out, .inl ⟨HS2.out, _, rfl, rfl⟩⟩
set_option maxHeartbeats 16000000 in
set_option maxRecDepth 100000 in
theorem rfield_peer (s : Stp) (dv bv : Value) (k : Nat) (t : ByteArray) (n : Int) (a l : Nat) (W : World) (h : StRd W s dv bv) (hd : DatB W bv s.data) : Calls Tryz.prog 54 #[.agg (stV s dv bv), .int .u8 112, wArg k t n a l] W (RfPost .peer s dv bv k t n W) := by
  have HD := Lib.hid hd
  obtain ⟨ad1, cap1, hv1⟩ := h.1.empty
  obtain ⟨ad2, cap2, hv2⟩ := h.2.empty
  subst hv1
  subst hv2
  clear h hd
  obtain ⟨nd, hnd⟩ : ∃ nd, nd = s.draws.length := ⟨_, rfl⟩
  obtain ⟨nb, hnb⟩ : ∃ nb, nb = s.data.size := ⟨_, rfl⟩
  rw [← hnb] at HD
  rw [← hnd, ← hnb]
  clear hnd hnb
  unfold stV wArg
  go_enter Tryz.func54, Tryz.ntmps54
  go_upto_region 1 with (fail)
  obtain ⟨w1, hw1⟩ : ∃ w1, w1 = allocs W [.cells #[.int .i64 s.kind, .int .i64 s.site, .int .i64 s.peer, .int .i64 s.unit, .int .i64 s.at_, .int .i64 s.n, .string s.text, .slice ad1 nd cap1, .slice ad2 nb cap2] 40, .cells #[.int .i64 (k : Nat), .string t, .int .i64 n, .int .i64 (a : Nat), .int .i64 (l : Nat)] 67, .cells #[.int .i64 0, .int .i64 0, .int .i64 0, .int .i64 0, .int .i64 0, .int .i64 0, .string ⟨#[]⟩, .slice none 0 0, .slice none 0 0] 40] := ⟨_, rfl⟩
  have hat := fun i o (h : [Obj.cells #[.int .i64 s.kind, .int .i64 s.site, .int .i64 s.peer, .int .i64 s.unit, .int .i64 s.at_, .int .i64 s.n, .string s.text, .slice ad1 nd cap1, .slice ad2 nb cap2] 40, .cells #[.int .i64 (k : Nat), .string t, .int .i64 n, .int .i64 (a : Nat), .int .i64 (l : Nat)] 67, .cells #[.int .i64 0, .int .i64 0, .int .i64 0, .int .i64 0, .int .i64 0, .int .i64 0, .string ⟨#[]⟩, .slice none 0 0, .slice none 0 0] 40][i]? = some o) => allocs_at _ W i o h
  have hk1 : Keep [] W w1 := by rw [hw1]; exact allocs_keep _ _
  rw [← hw1] at hat
  have hb0 := hat 0 _ rfl
  have hb1 := hat 1 _ rfl
  have hb2 := hat 2 _ rfl
  have hw1' : ((W.alloc (.cells #[.int .i64 s.kind, .int .i64 s.site, .int .i64 s.peer, .int .i64 s.unit, .int .i64 s.at_, .int .i64 s.n, .string s.text, .slice ad1 nd cap1, .slice ad2 nb cap2] 40)).alloc (.cells #[.int .i64 (k : Nat), .string t, .int .i64 n, .int .i64 (a : Nat), .int .i64 (l : Nat)] 67)).alloc (.cells #[.int .i64 0, .int .i64 0, .int .i64 0, .int .i64 0, .int .i64 0, .int .i64 0, .string ⟨#[]⟩, .slice none 0 0, .slice none 0 0] 40) = w1 := hw1.symm
  rw [hw1']
  simp only [Nat.add_assoc, Nat.reduceAdd]
  rw [Nat.add_zero] at hb0
  obtain ⟨G, hG⟩ : ∃ G, G = W.heap.size := ⟨_, rfl⟩
  rw [← hG] at hb0 hb1 hb2 ⊢
  have c0 := cell_of_block hb0 0
  have c1 := cell_of_block hb0 1
  have c2 := cell_of_block hb0 2
  have c3 := cell_of_block hb0 3
  have c4 := cell_of_block hb0 4
  have c5 := cell_of_block hb0 5
  have c6 := cell_of_block hb0 6
  have c7 := cell_of_block hb0 7
  have c8 := cell_of_block hb0 8
  have d0 := cell_of_block hb1 0
  have d1 := cell_of_block hb1 1
  have d2 := cell_of_block hb1 2
  have d3 := cell_of_block hb1 3
  have d4 := cell_of_block hb1 4
  simp at c0 c1 c2 c3 c4 c5 c6 c7 c8 d0 d1 d2 d3 d4
  have z0 := free_of_block hb0 2
  have HB0 := Lib.hid hb0
  have HB2 := Lib.hid hb2
  have HK1 := Lib.hid hk1
  have HGG := Lib.hid hG
  clear hw1 hw1' hat hb0 hb1 hb2 hk1 hG
  by_cases hk : k = 3
  · subst hk
    have HS2 := Lib.hid (show (setF .peer 3 t n s).2 = true from rfl)
    obtain ⟨w2, hw2⟩ : ∃ w2, w2 = w1.setCell ⟨G, 2, none⟩ (.int .i64 n) := ⟨_, rfl⟩
    have hk2 : Keep [G] w1 w2 := by rw [hw2]; exact (Keep.refl _ _).setCell (.inl (by simp)) _
    have hb2 : w2.heap[G]? = some (.cells #[.int .i64 s.kind, .int .i64 s.site, .int .i64 n, .int .i64 s.unit, .int .i64 s.at_, .int .i64 s.n, .string s.text, .slice ad1 nd cap1, .slice ad2 nb cap2] 40 (0, 0)) := by rw [hw2]; exact block_setCell HB0.out 2 _
    have hld : (Instr.loadAt 40 (.pointer (some ⟨G, 0, none⟩))).run Tryz.prog w2 = .ok (.agg #[.int .i64 s.kind, .int .i64 s.site, .int .i64 n, .int .i64 s.unit, .int .i64 s.at_, .int .i64 s.n, .string s.text, .slice ad1 nd cap1, .slice ad2 nb cap2]) w2 := load_row (P := Tryz.prog) Tryz.underlying40 rfl step_info hb2 rfl
    obtain ⟨W9, hs9, hb9, hl9, hk9⟩ := put_step (G + 2) _ #[.int .i64 s.kind, .int .i64 s.site, .int .i64 n, .int .i64 s.unit, .int .i64 s.at_, .int .i64 s.n, .string s.text, .slice ad1 nd cap1, .slice ad2 nb cap2] w2 (hk2.at_ HB2.out (by simp)) rfl rfl (by simp [Value.oneCell'])
    have HL9 := Lib.hid hl9
    have hk29 : Keep [] W W9 := (HK1.out.trans hk2 (fun x hx => by simp at hx; subst hx; exact .inr (by have := HGG.out; omega))).trans hk9 (fun x hx => by simp at hx; subst hx; exact .inr (by have := HGG.out; omega))
    have HK9 := Lib.hid hk29
    have HD9 := Lib.hid (HD.out.keep hk29 (by simp))
    clear hl9 hk9 hb9 hk2 hb2 hk29
    go_wp2_with (with_reducible refine park_load 3 _ rfl ?_)
    rw [← hw2]
    clear hw2
    refine wpList_load_eq rfl _ (.tmp 3) rfl hld ?_
    go_wp2_with (with_reducible refine park_store 6 63 _ rfl ?_)
    refine wpList_store_eq rfl _ (.tmp 6) (.tmp 63) rfl hs9 ?_
    clear hs9
    go_wp2
    exact bodyPost_ret (results_step rfl _ _ (G + 2) _ _ rfl rfl HL9.out) rfl ⟨HK9.out, .inr ⟨HS2.out, _, rfl, HD9.out, fun g hg => .inl hg⟩⟩
  · have g1 : ((k : Int) != 3) = true := by simp; omega
    have g2 : (k != 3) = true := by simp; omega
    have HS2 := Lib.hid (show (setF .peer k t n s).2 = false by show (k == 3) = false; simpa using hk)
    have hld : (Instr.loadAt 40 (.pointer (some ⟨G, 0, none⟩))).run Tryz.prog w1 = .ok (.agg #[.int .i64 s.kind, .int .i64 s.site, .int .i64 s.peer, .int .i64 s.unit, .int .i64 s.at_, .int .i64 s.n, .string s.text, .slice ad1 nd cap1, .slice ad2 nb cap2]) w1 := load_row (P := Tryz.prog) Tryz.underlying40 rfl step_info HB0.out rfl
    obtain ⟨W9, hs9, hb9, hl9, hk9⟩ := put_step (G + 2) _ #[.int .i64 s.kind, .int .i64 s.site, .int .i64 s.peer, .int .i64 s.unit, .int .i64 s.at_, .int .i64 s.n, .string s.text, .slice ad1 nd cap1, .slice ad2 nb cap2] w1 HB2.out rfl rfl (by simp [Value.oneCell'])
    have HL9 := Lib.hid hl9
    have HK9 := Lib.hid (HK1.out.trans hk9 (fun x hx => by simp at hx; subst hx; exact .inr (by have := HGG.out; omega)))
    clear hl9 hk9 hb9 hk
    go_upto_region 3 with (fail)
    go_wp2_with (with_reducible refine park_load 3 _ rfl ?_)
    refine wpList_load_eq rfl _ (.tmp 3) rfl hld ?_
    go_wp2_with (with_reducible refine park_store 6 30 _ rfl ?_)
    refine wpList_store_eq rfl _ (.tmp 6) (.tmp 30) rfl hs9 ?_
    clear hs9
    go_wp2
    exact bodyPost_ret (results_step rfl _ _ (G + 2) _ _ rfl rfl HL9.out) rfl ⟨HK9.out, .inl ⟨HS2.out, _, rfl, rfl⟩⟩
set_option maxHeartbeats 16000000 in
set_option maxRecDepth 100000 in
theorem rfield_at (s : Stp) (dv bv : Value) (k : Nat) (t : ByteArray) (n : Int) (a l : Nat) (W : World) (h : StRd W s dv bv) (hd : DatB W bv s.data) : Calls Tryz.prog 54 #[.agg (stV s dv bv), .int .u8 97, wArg k t n a l] W (RfPost .at s dv bv k t n W) := by
  have HD := Lib.hid hd
  obtain ⟨ad1, cap1, hv1⟩ := h.1.empty
  obtain ⟨ad2, cap2, hv2⟩ := h.2.empty
  subst hv1
  subst hv2
  clear h hd
  obtain ⟨nd, hnd⟩ : ∃ nd, nd = s.draws.length := ⟨_, rfl⟩
  obtain ⟨nb, hnb⟩ : ∃ nb, nb = s.data.size := ⟨_, rfl⟩
  rw [← hnb] at HD
  rw [← hnd, ← hnb]
  clear hnd hnb
  unfold stV wArg
  go_enter Tryz.func54, Tryz.ntmps54
  go_upto_region 1 with (fail)
  obtain ⟨w1, hw1⟩ : ∃ w1, w1 = allocs W [.cells #[.int .i64 s.kind, .int .i64 s.site, .int .i64 s.peer, .int .i64 s.unit, .int .i64 s.at_, .int .i64 s.n, .string s.text, .slice ad1 nd cap1, .slice ad2 nb cap2] 40, .cells #[.int .i64 (k : Nat), .string t, .int .i64 n, .int .i64 (a : Nat), .int .i64 (l : Nat)] 67, .cells #[.int .i64 0, .int .i64 0, .int .i64 0, .int .i64 0, .int .i64 0, .int .i64 0, .string ⟨#[]⟩, .slice none 0 0, .slice none 0 0] 40] := ⟨_, rfl⟩
  have hat := fun i o (h : [Obj.cells #[.int .i64 s.kind, .int .i64 s.site, .int .i64 s.peer, .int .i64 s.unit, .int .i64 s.at_, .int .i64 s.n, .string s.text, .slice ad1 nd cap1, .slice ad2 nb cap2] 40, .cells #[.int .i64 (k : Nat), .string t, .int .i64 n, .int .i64 (a : Nat), .int .i64 (l : Nat)] 67, .cells #[.int .i64 0, .int .i64 0, .int .i64 0, .int .i64 0, .int .i64 0, .int .i64 0, .string ⟨#[]⟩, .slice none 0 0, .slice none 0 0] 40][i]? = some o) => allocs_at _ W i o h
  have hk1 : Keep [] W w1 := by rw [hw1]; exact allocs_keep _ _
  rw [← hw1] at hat
  have hb0 := hat 0 _ rfl
  have hb1 := hat 1 _ rfl
  have hb2 := hat 2 _ rfl
  have hw1' : ((W.alloc (.cells #[.int .i64 s.kind, .int .i64 s.site, .int .i64 s.peer, .int .i64 s.unit, .int .i64 s.at_, .int .i64 s.n, .string s.text, .slice ad1 nd cap1, .slice ad2 nb cap2] 40)).alloc (.cells #[.int .i64 (k : Nat), .string t, .int .i64 n, .int .i64 (a : Nat), .int .i64 (l : Nat)] 67)).alloc (.cells #[.int .i64 0, .int .i64 0, .int .i64 0, .int .i64 0, .int .i64 0, .int .i64 0, .string ⟨#[]⟩, .slice none 0 0, .slice none 0 0] 40) = w1 := hw1.symm
  rw [hw1']
  simp only [Nat.add_assoc, Nat.reduceAdd]
  rw [Nat.add_zero] at hb0
  obtain ⟨G, hG⟩ : ∃ G, G = W.heap.size := ⟨_, rfl⟩
  rw [← hG] at hb0 hb1 hb2 ⊢
  have c0 := cell_of_block hb0 0
  have c1 := cell_of_block hb0 1
  have c2 := cell_of_block hb0 2
  have c3 := cell_of_block hb0 3
  have c4 := cell_of_block hb0 4
  have c5 := cell_of_block hb0 5
  have c6 := cell_of_block hb0 6
  have c7 := cell_of_block hb0 7
  have c8 := cell_of_block hb0 8
  have d0 := cell_of_block hb1 0
  have d1 := cell_of_block hb1 1
  have d2 := cell_of_block hb1 2
  have d3 := cell_of_block hb1 3
  have d4 := cell_of_block hb1 4
  simp at c0 c1 c2 c3 c4 c5 c6 c7 c8 d0 d1 d2 d3 d4
  have z0 := free_of_block hb0 4
  have HB0 := Lib.hid hb0
  have HB2 := Lib.hid hb2
  have HK1 := Lib.hid hk1
  have HGG := Lib.hid hG
  clear hw1 hw1' hat hb0 hb1 hb2 hk1 hG
  by_cases hk : k = 3
  · subst hk
    have HS2 := Lib.hid (show (setF .at 3 t n s).2 = true from rfl)
    obtain ⟨w2, hw2⟩ : ∃ w2, w2 = w1.setCell ⟨G, 4, none⟩ (.int .i64 n) := ⟨_, rfl⟩
    have hk2 : Keep [G] w1 w2 := by rw [hw2]; exact (Keep.refl _ _).setCell (.inl (by simp)) _
    have hb2 : w2.heap[G]? = some (.cells #[.int .i64 s.kind, .int .i64 s.site, .int .i64 s.peer, .int .i64 s.unit, .int .i64 n, .int .i64 s.n, .string s.text, .slice ad1 nd cap1, .slice ad2 nb cap2] 40 (0, 0)) := by rw [hw2]; exact block_setCell HB0.out 4 _
    have hld : (Instr.loadAt 40 (.pointer (some ⟨G, 0, none⟩))).run Tryz.prog w2 = .ok (.agg #[.int .i64 s.kind, .int .i64 s.site, .int .i64 s.peer, .int .i64 s.unit, .int .i64 n, .int .i64 s.n, .string s.text, .slice ad1 nd cap1, .slice ad2 nb cap2]) w2 := load_row (P := Tryz.prog) Tryz.underlying40 rfl step_info hb2 rfl
    obtain ⟨W9, hs9, hb9, hl9, hk9⟩ := put_step (G + 2) _ #[.int .i64 s.kind, .int .i64 s.site, .int .i64 s.peer, .int .i64 s.unit, .int .i64 n, .int .i64 s.n, .string s.text, .slice ad1 nd cap1, .slice ad2 nb cap2] w2 (hk2.at_ HB2.out (by simp)) rfl rfl (by simp [Value.oneCell'])
    have HL9 := Lib.hid hl9
    have hk29 : Keep [] W W9 := (HK1.out.trans hk2 (fun x hx => by simp at hx; subst hx; exact .inr (by have := HGG.out; omega))).trans hk9 (fun x hx => by simp at hx; subst hx; exact .inr (by have := HGG.out; omega))
    have HK9 := Lib.hid hk29
    have HD9 := Lib.hid (HD.out.keep hk29 (by simp))
    clear hl9 hk9 hb9 hk2 hb2 hk29
    go_wp2_with (with_reducible refine park_load 3 _ rfl ?_)
    rw [← hw2]
    clear hw2
    refine wpList_load_eq rfl _ (.tmp 3) rfl hld ?_
    go_wp2_with (with_reducible refine park_store 6 63 _ rfl ?_)
    refine wpList_store_eq rfl _ (.tmp 6) (.tmp 63) rfl hs9 ?_
    clear hs9
    go_wp2
    exact bodyPost_ret (results_step rfl _ _ (G + 2) _ _ rfl rfl HL9.out) rfl ⟨HK9.out, .inr ⟨HS2.out, _, rfl, HD9.out, fun g hg => .inl hg⟩⟩
  · have g1 : ((k : Int) != 3) = true := by simp; omega
    have g2 : (k != 3) = true := by simp; omega
    have HS2 := Lib.hid (show (setF .at k t n s).2 = false by show (k == 3) = false; simpa using hk)
    have hld : (Instr.loadAt 40 (.pointer (some ⟨G, 0, none⟩))).run Tryz.prog w1 = .ok (.agg #[.int .i64 s.kind, .int .i64 s.site, .int .i64 s.peer, .int .i64 s.unit, .int .i64 s.at_, .int .i64 s.n, .string s.text, .slice ad1 nd cap1, .slice ad2 nb cap2]) w1 := load_row (P := Tryz.prog) Tryz.underlying40 rfl step_info HB0.out rfl
    obtain ⟨W9, hs9, hb9, hl9, hk9⟩ := put_step (G + 2) _ #[.int .i64 s.kind, .int .i64 s.site, .int .i64 s.peer, .int .i64 s.unit, .int .i64 s.at_, .int .i64 s.n, .string s.text, .slice ad1 nd cap1, .slice ad2 nb cap2] w1 HB2.out rfl rfl (by simp [Value.oneCell'])
    have HL9 := Lib.hid hl9
    have HK9 := Lib.hid (HK1.out.trans hk9 (fun x hx => by simp at hx; subst hx; exact .inr (by have := HGG.out; omega)))
    clear hl9 hk9 hb9 hk
    go_upto_region 3 with (fail)
    go_wp2_with (with_reducible refine park_load 3 _ rfl ?_)
    refine wpList_load_eq rfl _ (.tmp 3) rfl hld ?_
    go_wp2_with (with_reducible refine park_store 6 30 _ rfl ?_)
    refine wpList_store_eq rfl _ (.tmp 6) (.tmp 30) rfl hs9 ?_
    clear hs9
    go_wp2
    exact bodyPost_ret (results_step rfl _ _ (G + 2) _ _ rfl rfl HL9.out) rfl ⟨HK9.out, .inl ⟨HS2.out, _, rfl, rfl⟩⟩
set_option maxHeartbeats 16000000 in
set_option maxRecDepth 100000 in
theorem rfield_num (s : Stp) (dv bv : Value) (k : Nat) (t : ByteArray) (n : Int) (a l : Nat) (W : World) (h : StRd W s dv bv) (hd : DatB W bv s.data) : Calls Tryz.prog 54 #[.agg (stV s dv bv), .int .u8 110, wArg k t n a l] W (RfPost .num s dv bv k t n W) := by
  have HD := Lib.hid hd
  obtain ⟨ad1, cap1, hv1⟩ := h.1.empty
  obtain ⟨ad2, cap2, hv2⟩ := h.2.empty
  subst hv1
  subst hv2
  clear h hd
  obtain ⟨nd, hnd⟩ : ∃ nd, nd = s.draws.length := ⟨_, rfl⟩
  obtain ⟨nb, hnb⟩ : ∃ nb, nb = s.data.size := ⟨_, rfl⟩
  rw [← hnb] at HD
  rw [← hnd, ← hnb]
  clear hnd hnb
  unfold stV wArg
  go_enter Tryz.func54, Tryz.ntmps54
  go_upto_region 1 with (fail)
  obtain ⟨w1, hw1⟩ : ∃ w1, w1 = allocs W [.cells #[.int .i64 s.kind, .int .i64 s.site, .int .i64 s.peer, .int .i64 s.unit, .int .i64 s.at_, .int .i64 s.n, .string s.text, .slice ad1 nd cap1, .slice ad2 nb cap2] 40, .cells #[.int .i64 (k : Nat), .string t, .int .i64 n, .int .i64 (a : Nat), .int .i64 (l : Nat)] 67, .cells #[.int .i64 0, .int .i64 0, .int .i64 0, .int .i64 0, .int .i64 0, .int .i64 0, .string ⟨#[]⟩, .slice none 0 0, .slice none 0 0] 40] := ⟨_, rfl⟩
  have hat := fun i o (h : [Obj.cells #[.int .i64 s.kind, .int .i64 s.site, .int .i64 s.peer, .int .i64 s.unit, .int .i64 s.at_, .int .i64 s.n, .string s.text, .slice ad1 nd cap1, .slice ad2 nb cap2] 40, .cells #[.int .i64 (k : Nat), .string t, .int .i64 n, .int .i64 (a : Nat), .int .i64 (l : Nat)] 67, .cells #[.int .i64 0, .int .i64 0, .int .i64 0, .int .i64 0, .int .i64 0, .int .i64 0, .string ⟨#[]⟩, .slice none 0 0, .slice none 0 0] 40][i]? = some o) => allocs_at _ W i o h
  have hk1 : Keep [] W w1 := by rw [hw1]; exact allocs_keep _ _
  rw [← hw1] at hat
  have hb0 := hat 0 _ rfl
  have hb1 := hat 1 _ rfl
  have hb2 := hat 2 _ rfl
  have hw1' : ((W.alloc (.cells #[.int .i64 s.kind, .int .i64 s.site, .int .i64 s.peer, .int .i64 s.unit, .int .i64 s.at_, .int .i64 s.n, .string s.text, .slice ad1 nd cap1, .slice ad2 nb cap2] 40)).alloc (.cells #[.int .i64 (k : Nat), .string t, .int .i64 n, .int .i64 (a : Nat), .int .i64 (l : Nat)] 67)).alloc (.cells #[.int .i64 0, .int .i64 0, .int .i64 0, .int .i64 0, .int .i64 0, .int .i64 0, .string ⟨#[]⟩, .slice none 0 0, .slice none 0 0] 40) = w1 := hw1.symm
  rw [hw1']
  simp only [Nat.add_assoc, Nat.reduceAdd]
  rw [Nat.add_zero] at hb0
  obtain ⟨G, hG⟩ : ∃ G, G = W.heap.size := ⟨_, rfl⟩
  rw [← hG] at hb0 hb1 hb2 ⊢
  have c0 := cell_of_block hb0 0
  have c1 := cell_of_block hb0 1
  have c2 := cell_of_block hb0 2
  have c3 := cell_of_block hb0 3
  have c4 := cell_of_block hb0 4
  have c5 := cell_of_block hb0 5
  have c6 := cell_of_block hb0 6
  have c7 := cell_of_block hb0 7
  have c8 := cell_of_block hb0 8
  have d0 := cell_of_block hb1 0
  have d1 := cell_of_block hb1 1
  have d2 := cell_of_block hb1 2
  have d3 := cell_of_block hb1 3
  have d4 := cell_of_block hb1 4
  simp at c0 c1 c2 c3 c4 c5 c6 c7 c8 d0 d1 d2 d3 d4
  have z0 := free_of_block hb0 5
  have HB0 := Lib.hid hb0
  have HB2 := Lib.hid hb2
  have HK1 := Lib.hid hk1
  have HGG := Lib.hid hG
  clear hw1 hw1' hat hb0 hb1 hb2 hk1 hG
  by_cases hk : k = 3
  · subst hk
    have HS2 := Lib.hid (show (setF .num 3 t n s).2 = true from rfl)
    obtain ⟨w2, hw2⟩ : ∃ w2, w2 = w1.setCell ⟨G, 5, none⟩ (.int .i64 n) := ⟨_, rfl⟩
    have hk2 : Keep [G] w1 w2 := by rw [hw2]; exact (Keep.refl _ _).setCell (.inl (by simp)) _
    have hb2 : w2.heap[G]? = some (.cells #[.int .i64 s.kind, .int .i64 s.site, .int .i64 s.peer, .int .i64 s.unit, .int .i64 s.at_, .int .i64 n, .string s.text, .slice ad1 nd cap1, .slice ad2 nb cap2] 40 (0, 0)) := by rw [hw2]; exact block_setCell HB0.out 5 _
    have hld : (Instr.loadAt 40 (.pointer (some ⟨G, 0, none⟩))).run Tryz.prog w2 = .ok (.agg #[.int .i64 s.kind, .int .i64 s.site, .int .i64 s.peer, .int .i64 s.unit, .int .i64 s.at_, .int .i64 n, .string s.text, .slice ad1 nd cap1, .slice ad2 nb cap2]) w2 := load_row (P := Tryz.prog) Tryz.underlying40 rfl step_info hb2 rfl
    obtain ⟨W9, hs9, hb9, hl9, hk9⟩ := put_step (G + 2) _ #[.int .i64 s.kind, .int .i64 s.site, .int .i64 s.peer, .int .i64 s.unit, .int .i64 s.at_, .int .i64 n, .string s.text, .slice ad1 nd cap1, .slice ad2 nb cap2] w2 (hk2.at_ HB2.out (by simp)) rfl rfl (by simp [Value.oneCell'])
    have HL9 := Lib.hid hl9
    have hk29 : Keep [] W W9 := (HK1.out.trans hk2 (fun x hx => by simp at hx; subst hx; exact .inr (by have := HGG.out; omega))).trans hk9 (fun x hx => by simp at hx; subst hx; exact .inr (by have := HGG.out; omega))
    have HK9 := Lib.hid hk29
    have HD9 := Lib.hid (HD.out.keep hk29 (by simp))
    clear hl9 hk9 hb9 hk2 hb2 hk29
    go_wp2_with (with_reducible refine park_load 3 _ rfl ?_)
    rw [← hw2]
    clear hw2
    refine wpList_load_eq rfl _ (.tmp 3) rfl hld ?_
    go_wp2_with (with_reducible refine park_store 6 63 _ rfl ?_)
    refine wpList_store_eq rfl _ (.tmp 6) (.tmp 63) rfl hs9 ?_
    clear hs9
    go_wp2
    exact bodyPost_ret (results_step rfl _ _ (G + 2) _ _ rfl rfl HL9.out) rfl ⟨HK9.out, .inr ⟨HS2.out, _, rfl, HD9.out, fun g hg => .inl hg⟩⟩
  · have g1 : ((k : Int) != 3) = true := by simp; omega
    have g2 : (k != 3) = true := by simp; omega
    have HS2 := Lib.hid (show (setF .num k t n s).2 = false by show (k == 3) = false; simpa using hk)
    have hld : (Instr.loadAt 40 (.pointer (some ⟨G, 0, none⟩))).run Tryz.prog w1 = .ok (.agg #[.int .i64 s.kind, .int .i64 s.site, .int .i64 s.peer, .int .i64 s.unit, .int .i64 s.at_, .int .i64 s.n, .string s.text, .slice ad1 nd cap1, .slice ad2 nb cap2]) w1 := load_row (P := Tryz.prog) Tryz.underlying40 rfl step_info HB0.out rfl
    obtain ⟨W9, hs9, hb9, hl9, hk9⟩ := put_step (G + 2) _ #[.int .i64 s.kind, .int .i64 s.site, .int .i64 s.peer, .int .i64 s.unit, .int .i64 s.at_, .int .i64 s.n, .string s.text, .slice ad1 nd cap1, .slice ad2 nb cap2] w1 HB2.out rfl rfl (by simp [Value.oneCell'])
    have HL9 := Lib.hid hl9
    have HK9 := Lib.hid (HK1.out.trans hk9 (fun x hx => by simp at hx; subst hx; exact .inr (by have := HGG.out; omega)))
    clear hl9 hk9 hb9 hk
    go_upto_region 3 with (fail)
    go_wp2_with (with_reducible refine park_load 3 _ rfl ?_)
    refine wpList_load_eq rfl _ (.tmp 3) rfl hld ?_
    go_wp2_with (with_reducible refine park_store 6 30 _ rfl ?_)
    refine wpList_store_eq rfl _ (.tmp 6) (.tmp 30) rfl hs9 ?_
    clear hs9
    go_wp2
    exact bodyPost_ret (results_step rfl _ _ (G + 2) _ _ rfl rfl HL9.out) rfl ⟨HK9.out, .inl ⟨HS2.out, _, rfl, rfl⟩⟩
set_option maxHeartbeats 16000000 in
set_option maxRecDepth 100000 in
theorem rfield_text (s : Stp) (dv bv : Value) (k : Nat) (t : ByteArray) (n : Int) (a l : Nat) (W : World) (h : StRd W s dv bv) (hd : DatB W bv s.data) : Calls Tryz.prog 54 #[.agg (stV s dv bv), .int .u8 116, wArg k t n a l] W (RfPost .text s dv bv k t n W) := by
  have HD := Lib.hid hd
  obtain ⟨ad1, cap1, hv1⟩ := h.1.empty
  obtain ⟨ad2, cap2, hv2⟩ := h.2.empty
  subst hv1
  subst hv2
  clear h hd
  obtain ⟨nd, hnd⟩ : ∃ nd, nd = s.draws.length := ⟨_, rfl⟩
  obtain ⟨nb, hnb⟩ : ∃ nb, nb = s.data.size := ⟨_, rfl⟩
  rw [← hnb] at HD
  rw [← hnd, ← hnb]
  clear hnd hnb
  unfold stV wArg
  go_enter Tryz.func54, Tryz.ntmps54
  go_upto_region 1 with (fail)
  obtain ⟨w1, hw1⟩ : ∃ w1, w1 = allocs W [.cells #[.int .i64 s.kind, .int .i64 s.site, .int .i64 s.peer, .int .i64 s.unit, .int .i64 s.at_, .int .i64 s.n, .string s.text, .slice ad1 nd cap1, .slice ad2 nb cap2] 40, .cells #[.int .i64 (k : Nat), .string t, .int .i64 n, .int .i64 (a : Nat), .int .i64 (l : Nat)] 67, .cells #[.int .i64 0, .int .i64 0, .int .i64 0, .int .i64 0, .int .i64 0, .int .i64 0, .string ⟨#[]⟩, .slice none 0 0, .slice none 0 0] 40] := ⟨_, rfl⟩
  have hat := fun i o (h : [Obj.cells #[.int .i64 s.kind, .int .i64 s.site, .int .i64 s.peer, .int .i64 s.unit, .int .i64 s.at_, .int .i64 s.n, .string s.text, .slice ad1 nd cap1, .slice ad2 nb cap2] 40, .cells #[.int .i64 (k : Nat), .string t, .int .i64 n, .int .i64 (a : Nat), .int .i64 (l : Nat)] 67, .cells #[.int .i64 0, .int .i64 0, .int .i64 0, .int .i64 0, .int .i64 0, .int .i64 0, .string ⟨#[]⟩, .slice none 0 0, .slice none 0 0] 40][i]? = some o) => allocs_at _ W i o h
  have hk1 : Keep [] W w1 := by rw [hw1]; exact allocs_keep _ _
  rw [← hw1] at hat
  have hb0 := hat 0 _ rfl
  have hb1 := hat 1 _ rfl
  have hb2 := hat 2 _ rfl
  have hw1' : ((W.alloc (.cells #[.int .i64 s.kind, .int .i64 s.site, .int .i64 s.peer, .int .i64 s.unit, .int .i64 s.at_, .int .i64 s.n, .string s.text, .slice ad1 nd cap1, .slice ad2 nb cap2] 40)).alloc (.cells #[.int .i64 (k : Nat), .string t, .int .i64 n, .int .i64 (a : Nat), .int .i64 (l : Nat)] 67)).alloc (.cells #[.int .i64 0, .int .i64 0, .int .i64 0, .int .i64 0, .int .i64 0, .int .i64 0, .string ⟨#[]⟩, .slice none 0 0, .slice none 0 0] 40) = w1 := hw1.symm
  rw [hw1']
  simp only [Nat.add_assoc, Nat.reduceAdd]
  rw [Nat.add_zero] at hb0
  obtain ⟨G, hG⟩ : ∃ G, G = W.heap.size := ⟨_, rfl⟩
  rw [← hG] at hb0 hb1 hb2 ⊢
  have c0 := cell_of_block hb0 0
  have c1 := cell_of_block hb0 1
  have c2 := cell_of_block hb0 2
  have c3 := cell_of_block hb0 3
  have c4 := cell_of_block hb0 4
  have c5 := cell_of_block hb0 5
  have c6 := cell_of_block hb0 6
  have c7 := cell_of_block hb0 7
  have c8 := cell_of_block hb0 8
  have d0 := cell_of_block hb1 0
  have d1 := cell_of_block hb1 1
  have d2 := cell_of_block hb1 2
  have d3 := cell_of_block hb1 3
  have d4 := cell_of_block hb1 4
  simp at c0 c1 c2 c3 c4 c5 c6 c7 c8 d0 d1 d2 d3 d4
  have z0 := free_of_block hb0 6
  have HB0 := Lib.hid hb0
  have HB2 := Lib.hid hb2
  have HK1 := Lib.hid hk1
  have HGG := Lib.hid hG
  clear hw1 hw1' hat hb0 hb1 hb2 hk1 hG
  by_cases hk : k = 2
  · subst hk
    have HS2 := Lib.hid (show (setF .text 2 t n s).2 = true from rfl)
    obtain ⟨w2, hw2⟩ : ∃ w2, w2 = w1.setCell ⟨G, 6, none⟩ (.string t) := ⟨_, rfl⟩
    have hk2 : Keep [G] w1 w2 := by rw [hw2]; exact (Keep.refl _ _).setCell (.inl (by simp)) _
    have hb2 : w2.heap[G]? = some (.cells #[.int .i64 s.kind, .int .i64 s.site, .int .i64 s.peer, .int .i64 s.unit, .int .i64 s.at_, .int .i64 s.n, .string t, .slice ad1 nd cap1, .slice ad2 nb cap2] 40 (0, 0)) := by rw [hw2]; exact block_setCell HB0.out 6 _
    have hld : (Instr.loadAt 40 (.pointer (some ⟨G, 0, none⟩))).run Tryz.prog w2 = .ok (.agg #[.int .i64 s.kind, .int .i64 s.site, .int .i64 s.peer, .int .i64 s.unit, .int .i64 s.at_, .int .i64 s.n, .string t, .slice ad1 nd cap1, .slice ad2 nb cap2]) w2 := load_row (P := Tryz.prog) Tryz.underlying40 rfl step_info hb2 rfl
    obtain ⟨W9, hs9, hb9, hl9, hk9⟩ := put_step (G + 2) _ #[.int .i64 s.kind, .int .i64 s.site, .int .i64 s.peer, .int .i64 s.unit, .int .i64 s.at_, .int .i64 s.n, .string t, .slice ad1 nd cap1, .slice ad2 nb cap2] w2 (hk2.at_ HB2.out (by simp)) rfl rfl (by simp [Value.oneCell'])
    have HL9 := Lib.hid hl9
    have hk29 : Keep [] W W9 := (HK1.out.trans hk2 (fun x hx => by simp at hx; subst hx; exact .inr (by have := HGG.out; omega))).trans hk9 (fun x hx => by simp at hx; subst hx; exact .inr (by have := HGG.out; omega))
    have HK9 := Lib.hid hk29
    have HD9 := Lib.hid (HD.out.keep hk29 (by simp))
    clear hl9 hk9 hb9 hk2 hb2 hk29
    go_wp2_with (with_reducible refine park_load 3 _ rfl ?_)
    rw [← hw2]
    clear hw2
    refine wpList_load_eq rfl _ (.tmp 3) rfl hld ?_
    go_wp2_with (with_reducible refine park_store 6 63 _ rfl ?_)
    refine wpList_store_eq rfl _ (.tmp 6) (.tmp 63) rfl hs9 ?_
    clear hs9
    go_wp2
    exact bodyPost_ret (results_step rfl _ _ (G + 2) _ _ rfl rfl HL9.out) rfl ⟨HK9.out, .inr ⟨HS2.out, _, rfl, HD9.out, fun g hg => .inl hg⟩⟩
  · have g1 : ((k : Int) != 2) = true := by simp; omega
    have g2 : (k != 2) = true := by simp; omega
    have HS2 := Lib.hid (show (setF .text k t n s).2 = false by show (k == 2) = false; simpa using hk)
    have hld : (Instr.loadAt 40 (.pointer (some ⟨G, 0, none⟩))).run Tryz.prog w1 = .ok (.agg #[.int .i64 s.kind, .int .i64 s.site, .int .i64 s.peer, .int .i64 s.unit, .int .i64 s.at_, .int .i64 s.n, .string s.text, .slice ad1 nd cap1, .slice ad2 nb cap2]) w1 := load_row (P := Tryz.prog) Tryz.underlying40 rfl step_info HB0.out rfl
    obtain ⟨W9, hs9, hb9, hl9, hk9⟩ := put_step (G + 2) _ #[.int .i64 s.kind, .int .i64 s.site, .int .i64 s.peer, .int .i64 s.unit, .int .i64 s.at_, .int .i64 s.n, .string s.text, .slice ad1 nd cap1, .slice ad2 nb cap2] w1 HB2.out rfl rfl (by simp [Value.oneCell'])
    have HL9 := Lib.hid hl9
    have HK9 := Lib.hid (HK1.out.trans hk9 (fun x hx => by simp at hx; subst hx; exact .inr (by have := HGG.out; omega)))
    clear hl9 hk9 hb9 hk
    go_upto_region 3 with (fail)
    go_wp2_with (with_reducible refine park_load 3 _ rfl ?_)
    refine wpList_load_eq rfl _ (.tmp 3) rfl hld ?_
    go_wp2_with (with_reducible refine park_store 6 30 _ rfl ?_)
    refine wpList_store_eq rfl _ (.tmp 6) (.tmp 30) rfl hs9 ?_
    clear hs9
    go_wp2
    exact bodyPost_ret (results_step rfl _ _ (G + 2) _ _ rfl rfl HL9.out) rfl ⟨HK9.out, .inl ⟨HS2.out, _, rfl, rfl⟩⟩
set_option maxHeartbeats 16000000 in
set_option maxRecDepth 100000 in
theorem rfield_data (s : Stp) (dv bv : Value) (k : Nat) (t : ByteArray) (n : Int) (a l : Nat) (W : World) (h : StRd W s dv bv) (hd : DatB W bv s.data) : Calls Tryz.prog 54 #[.agg (stV s dv bv), .int .u8 100, wArg k t n a l] W (RfPost .data s dv bv k t n W) := by
  have HD := Lib.hid hd
  obtain ⟨ad1, cap1, hv1⟩ := h.1.empty
  obtain ⟨ad2, cap2, hv2⟩ := h.2.empty
  subst hv1
  subst hv2
  clear h hd
  obtain ⟨nd, hnd⟩ : ∃ nd, nd = s.draws.length := ⟨_, rfl⟩
  obtain ⟨nb, hnb⟩ : ∃ nb, nb = s.data.size := ⟨_, rfl⟩
  rw [← hnb] at HD
  rw [← hnd, ← hnb]
  clear hnd hnb
  unfold stV wArg
  go_enter Tryz.func54, Tryz.ntmps54
  go_upto_region 1 with (fail)
  obtain ⟨w1, hw1⟩ : ∃ w1, w1 = allocs W [.cells #[.int .i64 s.kind, .int .i64 s.site, .int .i64 s.peer, .int .i64 s.unit, .int .i64 s.at_, .int .i64 s.n, .string s.text, .slice ad1 nd cap1, .slice ad2 nb cap2] 40, .cells #[.int .i64 (k : Nat), .string t, .int .i64 n, .int .i64 (a : Nat), .int .i64 (l : Nat)] 67, .cells #[.int .i64 0, .int .i64 0, .int .i64 0, .int .i64 0, .int .i64 0, .int .i64 0, .string ⟨#[]⟩, .slice none 0 0, .slice none 0 0] 40] := ⟨_, rfl⟩
  have hat := fun i o (h : [Obj.cells #[.int .i64 s.kind, .int .i64 s.site, .int .i64 s.peer, .int .i64 s.unit, .int .i64 s.at_, .int .i64 s.n, .string s.text, .slice ad1 nd cap1, .slice ad2 nb cap2] 40, .cells #[.int .i64 (k : Nat), .string t, .int .i64 n, .int .i64 (a : Nat), .int .i64 (l : Nat)] 67, .cells #[.int .i64 0, .int .i64 0, .int .i64 0, .int .i64 0, .int .i64 0, .int .i64 0, .string ⟨#[]⟩, .slice none 0 0, .slice none 0 0] 40][i]? = some o) => allocs_at _ W i o h
  have hk1 : Keep [] W w1 := by rw [hw1]; exact allocs_keep _ _
  rw [← hw1] at hat
  have hb0 := hat 0 _ rfl
  have hb1 := hat 1 _ rfl
  have hb2 := hat 2 _ rfl
  have hw1' : ((W.alloc (.cells #[.int .i64 s.kind, .int .i64 s.site, .int .i64 s.peer, .int .i64 s.unit, .int .i64 s.at_, .int .i64 s.n, .string s.text, .slice ad1 nd cap1, .slice ad2 nb cap2] 40)).alloc (.cells #[.int .i64 (k : Nat), .string t, .int .i64 n, .int .i64 (a : Nat), .int .i64 (l : Nat)] 67)).alloc (.cells #[.int .i64 0, .int .i64 0, .int .i64 0, .int .i64 0, .int .i64 0, .int .i64 0, .string ⟨#[]⟩, .slice none 0 0, .slice none 0 0] 40) = w1 := hw1.symm
  rw [hw1']
  simp only [Nat.add_assoc, Nat.reduceAdd]
  rw [Nat.add_zero] at hb0
  obtain ⟨G, hG⟩ : ∃ G, G = W.heap.size := ⟨_, rfl⟩
  rw [← hG] at hb0 hb1 hb2 ⊢
  have c0 := cell_of_block hb0 0
  have c1 := cell_of_block hb0 1
  have c2 := cell_of_block hb0 2
  have c3 := cell_of_block hb0 3
  have c4 := cell_of_block hb0 4
  have c5 := cell_of_block hb0 5
  have c6 := cell_of_block hb0 6
  have c7 := cell_of_block hb0 7
  have c8 := cell_of_block hb0 8
  have d0 := cell_of_block hb1 0
  have d1 := cell_of_block hb1 1
  have d2 := cell_of_block hb1 2
  have d3 := cell_of_block hb1 3
  have d4 := cell_of_block hb1 4
  simp at c0 c1 c2 c3 c4 c5 c6 c7 c8 d0 d1 d2 d3 d4
  have z0 := free_of_block hb0 8
  have HB0 := Lib.hid hb0
  have HB2 := Lib.hid hb2
  have HK1 := Lib.hid hk1
  have HGG := Lib.hid hG
  clear hw1 hw1' hat hb0 hb1 hb2 hk1 hG
  by_cases hk : k = 2
  · subst hk
    have HS2 := Lib.hid (show (setF .data 2 t n s).2 = true from rfl)
    obtain ⟨capd, wd, hcv, hkd, hbd⟩ := conv_sb t w1
    obtain ⟨gd, hgd⟩ : ∃ gd, gd = w1.heap.size := ⟨_, rfl⟩
    rw [← hgd] at hcv hbd
    obtain ⟨w2, hw2⟩ : ∃ w2, w2 = wd.setCell ⟨G, 8, none⟩ (.slice (some ⟨gd, 0, none⟩) t.size capd) := ⟨_, rfl⟩
    have hk2 : Keep [G] wd w2 := by rw [hw2]; exact (Keep.refl _ _).setCell (.inl (by simp)) _
    have hbG := hkd.at_ HB0.out (by simp)
    have hb2 : w2.heap[G]? = some (.cells #[.int .i64 s.kind, .int .i64 s.site, .int .i64 s.peer, .int .i64 s.unit, .int .i64 s.at_, .int .i64 s.n, .string s.text, .slice ad1 nd cap1, .slice (some ⟨gd, 0, none⟩) t.size capd] 40 (0, 0)) := by rw [hw2]; exact block_setCell hbG 8 _
    have hgdG : gd ≠ G := by have := lt_of_block HB0.out; omega
    have hbd2 : BytesB w2 gd t := hbd.keep hk2 (by simpa using hgdG)
    have hld : (Instr.loadAt 40 (.pointer (some ⟨G, 0, none⟩))).run Tryz.prog w2 = .ok (.agg #[.int .i64 s.kind, .int .i64 s.site, .int .i64 s.peer, .int .i64 s.unit, .int .i64 s.at_, .int .i64 s.n, .string s.text, .slice ad1 nd cap1, .slice (some ⟨gd, 0, none⟩) t.size capd]) w2 := load_row (P := Tryz.prog) Tryz.underlying40 rfl step_info hb2 rfl
    obtain ⟨W9, hs9, hb9, hl9, hk9⟩ := put_step (G + 2) _ #[.int .i64 s.kind, .int .i64 s.site, .int .i64 s.peer, .int .i64 s.unit, .int .i64 s.at_, .int .i64 s.n, .string s.text, .slice ad1 nd cap1, .slice (some ⟨gd, 0, none⟩) t.size capd] w2 (hk2.at_ (hkd.at_ HB2.out (by simp)) (by simp)) rfl rfl (by simp [Value.oneCell'])
    have HL9 := Lib.hid hl9
    have hgd2 : gd ≠ G + 2 := by have := lt_of_block HB2.out; omega
    have HD9 := Lib.hid (show DatB W9 (.slice (some ⟨gd, 0, none⟩) t.size capd) t from .inr ⟨gd, capd, rfl, hbd2.keep hk9 (by simpa using hgd2)⟩)
    have HK9 := Lib.hid (show Keep [] W W9 from (((HK1.out.trans0 hkd).trans hk2 (fun x hx => by simp at hx; subst hx; exact .inr (by have := HGG.out; omega))).trans hk9 (fun x hx => by simp at hx; subst hx; exact .inr (by have := HGG.out; omega))))
    have HGD := Lib.hid (show W.heap.size ≤ gd by have := HK1.out.size; omega)
    have p8 := cell_of_block hbG 8
    have z8 := free_of_block hbG 8
    simp at p8
    clear hl9 hk9 hb9 hk2 hb2 hbd hbd2 hkd hbG hgd hgdG hgd2 c0 c1 c2 c3 c4 c5 c6 c7 c8 z0
    go_wp2_with (with_reducible refine park_load 3 _ rfl ?_)
    rw [← hw2]
    clear hw2
    refine wpList_load_eq rfl _ (.tmp 3) rfl hld ?_
    go_wp2_with (with_reducible refine park_store 6 63 _ rfl ?_)
    refine wpList_store_eq rfl _ (.tmp 6) (.tmp 63) rfl hs9 ?_
    clear hs9
    go_wp2
    exact bodyPost_ret (results_step rfl _ _ (G + 2) _ _ rfl rfl HL9.out) rfl ⟨HK9.out, .inr ⟨HS2.out, _, rfl, HD9.out, fun g hg => by simp [Value.ownBlock] at hg; subst hg; exact .inr HGD.out⟩⟩
  · have g1 : ((k : Int) != 2) = true := by simp; omega
    have g2 : (k != 2) = true := by simp; omega
    have HS2 := Lib.hid (show (setF .data k t n s).2 = false by show (k == 2) = false; simpa using hk)
    have hld : (Instr.loadAt 40 (.pointer (some ⟨G, 0, none⟩))).run Tryz.prog w1 = .ok (.agg #[.int .i64 s.kind, .int .i64 s.site, .int .i64 s.peer, .int .i64 s.unit, .int .i64 s.at_, .int .i64 s.n, .string s.text, .slice ad1 nd cap1, .slice ad2 nb cap2]) w1 := load_row (P := Tryz.prog) Tryz.underlying40 rfl step_info HB0.out rfl
    obtain ⟨W9, hs9, hb9, hl9, hk9⟩ := put_step (G + 2) _ #[.int .i64 s.kind, .int .i64 s.site, .int .i64 s.peer, .int .i64 s.unit, .int .i64 s.at_, .int .i64 s.n, .string s.text, .slice ad1 nd cap1, .slice ad2 nb cap2] w1 HB2.out rfl rfl (by simp [Value.oneCell'])
    have HL9 := Lib.hid hl9
    have HK9 := Lib.hid (HK1.out.trans hk9 (fun x hx => by simp at hx; subst hx; exact .inr (by have := HGG.out; omega)))
    clear hl9 hk9 hb9 hk
    go_upto_region 3 with (fail)
    go_wp2_with (with_reducible refine park_load 3 _ rfl ?_)
    refine wpList_load_eq rfl _ (.tmp 3) rfl hld ?_
    go_wp2_with (with_reducible refine park_store 6 30 _ rfl ?_)
    refine wpList_store_eq rfl _ (.tmp 6) (.tmp 30) rfl hs9 ?_
    clear hs9
    go_wp2
    exact bodyPost_ret (results_step rfl _ _ (G + 2) _ _ rfl rfl HL9.out) rfl ⟨HK9.out, .inl ⟨HS2.out, _, rfl, rfl⟩⟩
theorem rfield_any (f : Fld) (s : Stp) (dv bv : Value) (k : Nat) (t : ByteArray) (n : Int) (a l : Nat) (W : World) (h : StRd W s dv bv) (hd : DatB W bv s.data) : Calls Tryz.prog 54 #[.agg (stV s dv bv), .int .u8 (fldL f : Nat), wArg k t n a l] W (RfPost f s dv bv k t n W) := by
  cases f
  · exact rfield_site s dv bv k t n a l W h hd
  · exact rfield_peer s dv bv k t n a l W h hd
  · exact rfield_at s dv bv k t n a l W h hd
  · exact rfield_num s dv bv k t n a l W h hd
  · exact rfield_text s dv bv k t n a l W h hd
  · exact rfield_data s dv bv k t n a l W h hd
end Go.Proofs.YtbidppjhenfjdaaGreatDoor
namespace Go.Proofs.YtbidppjhenfjdaaGreatDoor
open Go.RowKit
set_option linter.unusedVariables false
set_option linter.unusedSimpArgs false

theorem tabW_inj {i j : Nat} (h1 : 1 ≤ i) (h2 : i ≤ 14) (h3 : 1 ≤ j) (h4 : j ≤ 14) (h : tabW i = tabW j) : i = j := by
  have key : ∀ a b : Fin 15, 1 ≤ a.val → 1 ≤ b.val → tabW a.val = tabW b.val → a = b := by decide +kernel
  have := key ⟨i, by omega⟩ ⟨j, by omega⟩ h1 h3 h
  exact congrArg Fin.val this
/-- The kind found among those below k. -/
def FoundK (w0 : Nat × ByteArray × Int × Nat × Nat) (k fk : Nat) : Prop := (fk = 0 ∧ ∀ j, 1 ≤ j → j < k → ¬ (w0.1 = 1 ∧ w0.2.1 = tabW j)) ∨ (1 ≤ fk ∧ fk < k ∧ w0.1 = 1 ∧ w0.2.1 = tabW fk)
theorem FoundK.next {w0 : Nat × ByteArray × Int × Nat × Nat} {k fk : Nat} (h : FoundK w0 k fk) (hn : ¬ (w0.1 = 1 ∧ w0.2.1 = tabW k)) : FoundK w0 (k + 1) fk := by
  rcases h with ⟨h1, h2⟩ | ⟨h1, h2, h3, h4⟩
  · refine .inl ⟨h1, fun j hj hk => ?_⟩
    by_cases e : j = k
    · subst e; exact hn
    · exact h2 j hj (by omega)
  · exact .inr ⟨h1, by omega, h3, h4⟩
theorem FoundK.hit {w0 : Nat × ByteArray × Int × Nat × Nat} {k : Nat} (hk : 1 ≤ k) (h1 : w0.1 = 1) (h2 : w0.2.1 = tabW k) : FoundK w0 (k + 1) k := .inr ⟨hk, by omega, h1, h2⟩
theorem kindF_none {w0 : Nat × ByteArray × Int × Nat × Nat} (h : ∀ j, 1 ≤ j → j < 15 → ¬ (w0.1 = 1 ∧ w0.2.1 = tabW j)) : kindF w0 14 0 = none := by
  have key : ∀ (m j : Nat), j + m = 14 → kindF w0 m j = none := by
    intro m
    induction m with
    | zero => intro j _; rfl
    | succ m ih =>
      intro j hj
      unfold kindF
      rw [if_neg (fun hh => h (j + 1) (by omega) (by omega) ⟨hh.1, ByteArray.ext hh.2⟩)]
      exact ih (j + 1) (by omega)
  exact key 14 0 rfl
theorem FoundK.some {w0 : Nat × ByteArray × Int × Nat × Nat} {fk : Nat} (h : FoundK w0 15 fk) (h0 : fk ≠ 0) : 1 ≤ fk ∧ fk ≤ 14 ∧ kindF w0 14 0 = some fk := by
  rcases h with ⟨h1, _⟩ | ⟨h1, h2, h3, h4⟩
  · exact absurd h1 h0
  · have := kindF_at (w0 := w0) (i := fk - 1) (by omega) (fun k hk hh => by
      have := tabW_inj (by omega) (by omega) (by omega) (by omega) (hh.2.symm.trans h4)
      omega) h3 (by rw [h4]; congr 1; omega)
    exact ⟨h1, by omega, by rw [this]; congr 1; omega⟩
/-- What step says. -/
def RsPost (W : World) (o : Option Stp) (e : Ending) (W' : World) : Prop := Keep [] W W' ∧
  ((o = none ∧ ∃ s' ad1 n1 c1 ad2 n2 c2, e = .returned (.tuple #[.agg (stV s' (.slice ad1 n1 c1) (.slice ad2 n2 c2)), .bool false])) ∨
   (∃ s dv bv, o = some s ∧ e = .returned (.tuple #[.agg (stV s dv bv), .bool true]) ∧ DatB W' bv s.data ∧ (∀ g, bv.ownBlock = some g → W.heap.size ≤ g) ∧ W'.ownsRow W.heap.size 3 1 dv s.draws.length (s.draws.map fun x => Value.int .i64 x)))
theorem shB_byt {k j : Nat} (h : j < (tabF k).length) : byt (shB k) j = fldL (tabF k)[j] := by
  have hf : ∀ f : Fld, fldL f < 256 := fun f => by cases f <;> decide
  have hlt := hf (tabF k)[j]
  have e : (shB k).data[j]? = some (UInt8.ofNat (fldL (tabF k)[j])) := by
    show ((((tabF k).map fun f => UInt8.ofNat (fldL f)).toArray))[j]? = _
    simp [h]
  obtain ⟨h1, h2⟩ := Array.getElem?_eq_some_iff.1 e
  have hs : j < (shB k).size := by rw [shB_size]; exact h
  rw [← byt_at hs]
  show ((shB k).data[j]).toNat = _
  rw [h2]
  simp only [UInt8.toNat_ofNat']
  omega
/-- A store, by its run. -/
theorem store_op {P : Program} {o : Oper} {a : Act} {w w' : World} {K : Act → World → Prop} {Q : Exit → Act → World → Prop} {x y : Operand} {ty : TypeId} (ho : o.op = .store ty x y) {p v : Value} (hx : a.eval x = p) (hy : a.eval y = v) (hr : (Instr.storeAt ty p v).run P w = .ok () w') (hK : K (a.put o.dst undef) w') : o.wp P a w K Q := by
  unfold Oper.wp
  simp [execOp, ho, hx, hy, hr, Result.andThen]
  exact hK
theorem dec_le_tt {a b : Int} (h : a ≤ b) : decide (a ≤ b) = true := by simpa using h
theorem dec_le_ff {a b : Int} (h : ¬ a ≤ b) : decide (a ≤ b) = false := by simpa using h

end Go.Proofs.YtbidppjhenfjdaaGreatDoor
namespace Go.Proofs.YtbidppjhenfjdaaGreatDoor
open Go.RowKit
set_option linter.unusedVariables false
set_option linter.unusedSimpArgs false

inductive Plan where
  | done
  | take (i : Nat) (p : Plan)
  | force (i : Nat) (p : Plan)
  | fork (i j : Nat) (p q : Plan)
section
variable {P : Program} {ops : Array Oper} {md : Region.Mode} {C : World → Prop} {Q : Exit → Act → World → Prop}
def Plan.len : Plan → Nat
  | .done => 0
  | .take _ p => p.len + 1
  | .force _ p => p.len + 1
  | .fork _ _ p _ => p.len + 1
def planB (md : Region.Mode) (ops : Array Oper) : Plan → Array Bool → Bool
  | .done, listed => decide (Region.ready md ops listed = [])
  | .take i p, listed => Region.free md ops listed i && (Region.ready md ops listed).contains i && planB md ops p (listed.setIfInBounds i true)
  | .force i p, listed => decide (Region.ready md ops listed = [i]) && planB md ops p (listed.setIfInBounds i true)
  | .fork i j p q, listed => decide (Region.ready md ops listed = [i, j]) && decide (p.len = q.len) && planB md ops p (listed.setIfInBounds i true) && planB md ops q (listed.setIfInBounds j true)
def wpPlan (P : Program) (ops : Array Oper) (C : World → Prop) (Q : Exit → Act → World → Prop) : Plan → Act → World → Prop
  | .done, a, w => Q .normal a w
  | .take i p, a, w => ∃ o v, ops[i]? = some o ∧ YieldsC P ops C o v a ∧ wpPlan P ops C Q p (a.put o.dst v) w
  | .force i p, a, w => Go.wpOp P ops Q i (fun a' w' => C w' ∧ wpPlan P ops C Q p a' w') a w
  | .fork i j p q, a, w => Go.wpOp P ops Q i (fun a' w' => C w' ∧ wpPlan P ops C Q p a' w') a w ∧ Go.wpOp P ops Q j (fun a' w' => C w' ∧ wpPlan P ops C Q q a' w') a w
theorem wpAnyC_of_plan (hs : Region.noSelect ops = true) (hQ : ∀ c a w, ¬ Q (.panic c) a w) : ∀ (p : Plan) (listed : Array Bool) (a : Act) (w : World), planB md ops p listed = true → C w → wpPlan P ops C Q p a w → wpAnyC P md ops C Q p.len listed a w
  | .done, listed, a, w, hB, hC, h => ⟨by simpa [planB] using hB, h⟩
  | .take i p, listed, a, w, hB, hC, h => by
    simp only [planB, Bool.and_eq_true] at hB
    obtain ⟨o, v, hi, hy, hr⟩ := h
    exact wpAnyC_take hi hs hQ _ listed a w (Region.free_spec hi hB.1.1) (by simpa using hB.1.2) hy hC (wpAnyC_of_plan hs hQ p _ _ w hB.2 hC hr)
  | .force i p, listed, a, w, hB, hC, h => by
    simp only [planB, Bool.and_eq_true, decide_eq_true_eq] at hB
    refine ⟨fun h1 => (by rw [hB.1] at h1; cases h1), fun j hj => ?_⟩
    rw [hB.1] at hj
    obtain rfl : j = i := by simpa using hj
    exact wpOp_mono (fun a' w' hh => ⟨hh.1, wpAnyC_of_plan hs hQ p _ a' w' hB.2 hh.1 hh.2⟩) h
  | .fork i j p q, listed, a, w, hB, hC, h => by
    simp only [planB, Bool.and_eq_true, decide_eq_true_eq] at hB
    obtain ⟨⟨⟨hr, hl⟩, hp⟩, hq⟩ := hB
    refine ⟨fun h1 => (by rw [hr] at h1; cases h1), fun k hk => ?_⟩
    rw [hr] at hk
    rcases List.mem_cons.1 hk with rfl | hk
    · exact wpOp_mono (fun a' w' hh => ⟨hh.1, wpAnyC_of_plan hs hQ p _ a' w' hp hh.1 hh.2⟩) h.1
    · obtain rfl : k = j := by simpa using hk
      refine wpOp_mono (fun a' w' hh => ⟨hh.1, ?_⟩) h.2
      have := wpAnyC_of_plan hs hQ q _ a' w' hq hh.1 hh.2
      rwa [← hl] at this
/-- A REGION THAT DRAWS, by a plan. -/
theorem wp_plan {id : Nat} {a : Act} {w : World} {l : List Oper} (C : World → Prop) (p : Plan) (hm : P.follows .mixedOrders = true) (hB : (Region.noSelect l.toArray && decide (p.len = l.length) && planB .any l.toArray p (Array.replicate l.toArray.size false)) = true)
    (hC : C w.drew) (h : ∀ Q0 : Exit → Act → World → Prop, (∀ a' w', Q .normal a' w' → Q0 .normal a' w') → wpPlan P l.toArray C Q0 p a w.drew) : (Code.region id l.toArray true).wp P Q a w := by
  simp only [Bool.and_eq_true, decide_eq_true_eq] at hB
  obtain ⟨⟨hs, hl⟩, hB⟩ := hB
  refine Code.wp_mono (Q := fun e a' w' => e = .normal ∧ Q .normal a' w') ?_ ?_
  · rintro e a' w' ⟨rfl, h⟩
    exact h
  · refine wp_region_any hm ?_
    have := wpAnyC_of_plan (P := P) (ops := l.toArray) (md := .any) (C := C) (Q := fun e a' w' => e = .normal ∧ Q .normal a' w') hs (fun c a w hh => by cases hh.1) p _ a w.drew hB hC (h _ (fun a' w' hh => ⟨rfl, hh⟩))
    rw [hl] at this
    exact wpAny_of_C _ _ _ _ this
theorem plan_take {a : Act} {w : World} {i : Nat} {p : Plan} {o : Oper} (hi : ops[i]? = some o) (hg : Region.wanted o (yielded ops a.tmps) = true) (v : Value) (hv : ∀ w, C w → ∀ (K : Act → World → Prop) (Q : Exit → Act → World → Prop), K (a.put o.dst v) w → o.wp P a w K Q) (hr : wpPlan P ops C Q p (a.put o.dst v) w) : wpPlan P ops C Q (.take i p) a w :=
  ⟨o, v, hi, ⟨hg, fun w hC => hv w hC _ _ ⟨rfl, rfl⟩⟩, hr⟩
theorem plan_force {a : Act} {w : World} {i : Nat} {p : Plan} {o : Oper} (hi : ops[i]? = some o) (hg : Region.wanted o (yielded ops a.tmps) = true) (h : ∀ K : Act → World → Prop, (∀ a' w', C w' → wpPlan P ops C Q p a' w' → K a' w') → o.wp P a w K Q) : wpPlan P ops C Q (.force i p) a w := by
  show Go.wpOp P ops Q i _ a w
  unfold Go.wpOp
  simp only [hi]
  rw [if_pos hg]
  exact .inl (h _ fun a' w' h1 h2 => ⟨h1, h2⟩)
theorem plan_fork {a : Act} {w : World} {i j : Nat} {p q : Plan} (h1 : wpPlan P ops C Q (.force i p) a w) (h2 : wpPlan P ops C Q (.force j q) a w) : wpPlan P ops C Q (.fork i j p q) a w := ⟨h1, h2⟩
theorem plan_takeL {l : List Oper} {a : Act} {w : World} {i : Nat} {p : Plan} {o : Oper} (hi : l[i]? = some o) (hg : Region.wanted o (yielded l.toArray a.tmps) = true) (v : Value) (hv : ∀ w, C w → ∀ (K : Act → World → Prop) (Q : Exit → Act → World → Prop), K (a.put o.dst v) w → o.wp P a w K Q) (hr : wpPlan P l.toArray C Q p (a.put o.dst v) w) : wpPlan P l.toArray C Q (.take i p) a w :=
  plan_take (by simpa using hi) hg v hv hr
theorem plan_forceL {l : List Oper} {a : Act} {w : World} {i : Nat} {p : Plan} {o : Oper} (hi : l[i]? = some o) (hg : Region.wanted o (yielded l.toArray a.tmps) = true) (h : ∀ K : Act → World → Prop, (∀ a' w', C w' → wpPlan P l.toArray C Q p a' w' → K a' w') → o.wp P a w K Q) : wpPlan P l.toArray C Q (.force i p) a w :=
  plan_force (by simpa using hi) hg h
end
end Go.Proofs.YtbidppjhenfjdaaGreatDoor
namespace Go.Proofs.YtbidppjhenfjdaaGreatDoor
open Go.RowKit
set_option linter.unusedVariables false
set_option linter.unusedSimpArgs false

section
variable {P : Program} {ops : Array Oper} {md : Region.Mode} {C : World → Prop} {Q : Exit → Act → World → Prop} {s : Nat}
/-- Operation s waits for every other one. -/
def lastB (md : Region.Mode) (ops : Array Oper) (s : Nat) : Bool :=
  match ops[s]? with
  | none => false
  | some o => (List.range ops.size).all fun k => k == s || o.after.any fun e => Region.binds md e && e.on == k
theorem lastB_spec (h : lastB md ops s = true) {listed : Array Bool} (hs : s ∈ Region.ready md ops listed) {i : Nat} (hi : i < ops.size) (hne : i ≠ s) : listed.getD i false = true := by
  obtain ⟨_, o, ho, hall⟩ := mem_ready.1 hs
  unfold lastB at h
  rw [ho] at h
  have h1 := List.all_eq_true.1 h i (List.mem_range.2 hi)
  simp only [Bool.or_eq_true, beq_iff_eq, hne, false_or, Array.any_eq_true, Bool.and_eq_true] at h1
  obtain ⟨k, hk, hb, he⟩ := h1
  have := hall _ (Array.getElem_mem hk) hb
  rwa [he] at this
def wpAnyE (P : Program) (md : Region.Mode) (ops : Array Oper) (C : World → Prop) (s : Nat) (Q : Exit → Act → World → Prop) : Nat → Array Bool → Act → World → Prop
  | 0, listed, a, w => Region.ready md ops listed = [] ∧ Q .normal a w
  | f + 1, listed, a, w => (Region.ready md ops listed = [] → Q .normal a w) ∧ ∀ i ∈ Region.ready md ops listed, wpOp P ops Q i (fun a' w' => (i = s ∨ C w') ∧ wpAnyE P md ops C s Q f (listed.setIfInBounds i true) a' w') a w
theorem wpAny_of_E : ∀ (f : Nat) (listed : Array Bool) (a : Act) (w : World), wpAnyE P md ops C s Q f listed a w → wpAny P md ops Q f listed a w
  | 0, _, _, _, h => h
  | f + 1, _, _, _, h => ⟨h.1, fun i hi => wpOp_mono (fun a' w' hh => wpAny_of_E f _ a' w' hh.2) (h.2 i hi)⟩
theorem wpAnyE_take {i : Nat} {oi : Oper} {v : Value} (hlast : lastB md ops s = true) (hne : i ≠ s) (hi : ops[i]? = some oi) (hs : Region.noSelect ops = true) (hQ : ∀ c a w, ¬ Q (.panic c) a w) :
    ∀ (f : Nat) (listed : Array Bool) (a : Act) (w : World),
      (∀ j oj, ops[j]? = some oj → j ≠ i → listed.getD j true = false → (∀ e ∈ oj.after, Region.binds md e = true → e.on ≠ i) → oi.apart ops oj = true) →
      i ∈ Region.ready md ops listed → YieldsC P ops C oi v a → C w → wpAnyE P md ops C s Q f (listed.setIfInBounds i true) (a.put oi.dst v) w → wpAnyE P md ops C s Q (f + 1) listed a w := by
  intro f
  induction f with
  | zero =>
    intro listed a w _ hr hy hC H
    refine ⟨fun h => absurd hr (by rw [h]; exact List.not_mem_nil), fun j hj => ?_⟩
    by_cases hji : j = i
    · subst hji
      exact hy.wpOp hi hC ⟨.inr hC, H⟩
    · have h1 := ready_mono hj hji
      rw [H.1] at h1
      cases h1
  | succ f ih =>
    intro listed a w hfree hr hy hC H
    refine ⟨fun h => absurd hr (by rw [h]; exact List.not_mem_nil), fun j hj => ?_⟩
    by_cases hji : j = i
    · subst hji
      exact hy.wpOp hi hC ⟨.inr hC, H⟩
    · have h1 := H.2 j (ready_mono hj hji)
      have hun := (mem_ready.1 hr).1
      have hjs : j ≠ s := fun e => by
        subst e
        have h2 := lastB_spec hlast hj (Array.getElem?_eq_some_iff.1 hi).1 (Ne.symm hji)
        rw [getD_both hun] at h2
        cases h2
      obtain ⟨hjun, oj, hoj, hall⟩ := mem_ready.1 hj
      have hno : ∀ e ∈ oj.after, Region.binds md e = true → e.on ≠ i := fun e he hb heq => by
        have h2 := hall e he hb
        rw [heq, getD_both hun] at h2
        cases h2
      have h2 := wpOp_past hoj (hfree j oj hoj hji hjun hno) (fun cs b => Region.noSelect_spec hs i oi cs b hi) (fun cs b => Region.noSelect_spec hs j oj cs b hoj) hQ hy h1
      refine wpOp_mono (fun a' w' hh => ?_) h2
      have hC' := hh.2.1.resolve_left hjs
      refine ⟨.inr hC', ih (listed.setIfInBounds j true) a' w' (fun k ok hk hki hku hkn => hfree k ok hk hki ?_ hkn) (ready_mono hr (Ne.symm hji)) hh.1 hC' ?_⟩
      · by_cases hjk : j = k
        · subst hjk; exact hjun
        · rw [getD_set_ne true hjk] at hku; exact hku
      · rw [Array.setIfInBounds_comm _ _ hji]
        exact hh.2.2
def planE (md : Region.Mode) (ops : Array Oper) (s : Nat) : Plan → Array Bool → Bool
  | .done, listed => decide (Region.ready md ops listed = [])
  | .take i p, listed => i != s && Region.free md ops listed i && (Region.ready md ops listed).contains i && planE md ops s p (listed.setIfInBounds i true)
  | .force i p, listed => decide (Region.ready md ops listed = [i]) && planE md ops s p (listed.setIfInBounds i true)
  | .fork i j p q, listed => decide (Region.ready md ops listed = [i, j]) && decide (p.len = q.len) && planE md ops s p (listed.setIfInBounds i true) && planE md ops s q (listed.setIfInBounds j true)
def wpPlanE (P : Program) (ops : Array Oper) (C : World → Prop) (s : Nat) (Q : Exit → Act → World → Prop) : Plan → Act → World → Prop
  | .done, a, w => Q .normal a w
  | .take i p, a, w => ∃ o v, ops[i]? = some o ∧ YieldsC P ops C o v a ∧ C w ∧ wpPlanE P ops C s Q p (a.put o.dst v) w
  | .force i p, a, w => Go.wpOp P ops Q i (fun a' w' => (i = s ∨ C w') ∧ wpPlanE P ops C s Q p a' w') a w
  | .fork i j p q, a, w => Go.wpOp P ops Q i (fun a' w' => (i = s ∨ C w') ∧ wpPlanE P ops C s Q p a' w') a w ∧ Go.wpOp P ops Q j (fun a' w' => (j = s ∨ C w') ∧ wpPlanE P ops C s Q q a' w') a w
theorem wpAnyE_of_plan (hlast : lastB md ops s = true) (hs : Region.noSelect ops = true) (hQ : ∀ c a w, ¬ Q (.panic c) a w) : ∀ (p : Plan) (listed : Array Bool) (a : Act) (w : World), planE md ops s p listed = true → wpPlanE P ops C s Q p a w → wpAnyE P md ops C s Q p.len listed a w
  | .done, listed, a, w, hB, h => ⟨by simpa [planE] using hB, h⟩
  | .take i p, listed, a, w, hB, h => by
    simp only [planE, Bool.and_eq_true, bne_iff_ne, ne_eq] at hB
    obtain ⟨o, v, hi, hy, hC, hr⟩ := h
    exact wpAnyE_take hlast hB.1.1.1 hi hs hQ _ listed a w (Region.free_spec hi hB.1.1.2) (by simpa using hB.1.2) hy hC (wpAnyE_of_plan hlast hs hQ p _ _ w hB.2 hr)
  | .force i p, listed, a, w, hB, h => by
    simp only [planE, Bool.and_eq_true, decide_eq_true_eq] at hB
    refine ⟨fun h1 => (by rw [hB.1] at h1; cases h1), fun j hj => ?_⟩
    rw [hB.1] at hj
    obtain rfl : j = i := by simpa using hj
    exact wpOp_mono (fun a' w' hh => ⟨hh.1, wpAnyE_of_plan hlast hs hQ p _ a' w' hB.2 hh.2⟩) h
  | .fork i j p q, listed, a, w, hB, h => by
    simp only [planE, Bool.and_eq_true, decide_eq_true_eq] at hB
    obtain ⟨⟨⟨hr, hl⟩, hp⟩, hq⟩ := hB
    refine ⟨fun h1 => (by rw [hr] at h1; cases h1), fun k hk => ?_⟩
    rw [hr] at hk
    rcases List.mem_cons.1 hk with rfl | hk
    · exact wpOp_mono (fun a' w' hh => ⟨hh.1, wpAnyE_of_plan hlast hs hQ p _ a' w' hp hh.2⟩) h.1
    · obtain rfl : k = j := by simpa using hk
      refine wpOp_mono (fun a' w' hh => ⟨hh.1, ?_⟩) h.2
      have := wpAnyE_of_plan hlast hs hQ q _ a' w' hq hh.2
      rwa [← hl] at this
/-- A REGION THAT DRAWS, by a plan whose last operation may leave the class. -/
theorem wp_planE {id : Nat} {a : Act} {w : World} {l : List Oper} (s : Nat) (C : World → Prop) (p : Plan) (hm : P.follows .mixedOrders = true) (hB : (Region.noSelect l.toArray && decide (p.len = l.length) && lastB .any l.toArray s && planE .any l.toArray s p (Array.replicate l.toArray.size false)) = true)
    (h : ∀ Q0 : Exit → Act → World → Prop, (∀ a' w', Q .normal a' w' → Q0 .normal a' w') → wpPlanE P l.toArray C s Q0 p a w.drew) : (Code.region id l.toArray true).wp P Q a w := by
  simp only [Bool.and_eq_true, decide_eq_true_eq] at hB
  obtain ⟨⟨⟨hs, hl⟩, hlast⟩, hB⟩ := hB
  refine Code.wp_mono (Q := fun e a' w' => e = .normal ∧ Q .normal a' w') ?_ ?_
  · rintro e a' w' ⟨rfl, h⟩
    exact h
  · refine wp_region_any hm ?_
    have := wpAnyE_of_plan (P := P) (ops := l.toArray) (md := .any) (C := C) (s := s) (Q := fun e a' w' => e = .normal ∧ Q .normal a' w') hlast hs (fun c a w hh => by cases hh.1) p _ a w.drew hB (h _ (fun a' w' hh => ⟨rfl, hh⟩))
    rw [hl] at this
    exact wpAny_of_E _ _ _ _ this
theorem planE_takeL {l : List Oper} {a : Act} {w : World} {i : Nat} {p : Plan} {o : Oper} (hi : l[i]? = some o) (hg : Region.wanted o (yielded l.toArray a.tmps) = true) (v : Value) (hC : C w) (hv : ∀ w, C w → ∀ (K : Act → World → Prop) (Q : Exit → Act → World → Prop), K (a.put o.dst v) w → o.wp P a w K Q) (hr : wpPlanE P l.toArray C s Q p (a.put o.dst v) w) : wpPlanE P l.toArray C s Q (.take i p) a w :=
  ⟨o, v, by simpa using hi, ⟨hg, fun w hC => hv w hC _ _ ⟨rfl, rfl⟩⟩, hC, hr⟩
theorem planE_forceL {l : List Oper} {a : Act} {w : World} {i : Nat} {p : Plan} {o : Oper} (hi : l[i]? = some o) (hg : Region.wanted o (yielded l.toArray a.tmps) = true) (h : ∀ K : Act → World → Prop, (∀ a' w', (i = s ∨ C w') → wpPlanE P l.toArray C s Q p a' w' → K a' w') → o.wp P a w K Q) : wpPlanE P l.toArray C s Q (.force i p) a w := by
  show Go.wpOp P l.toArray Q i _ a w
  unfold Go.wpOp
  have hi' : l.toArray[i]? = some o := by simpa using hi
  simp only [hi']
  rw [if_pos hg]
  exact .inl (h _ fun a' w' h1 h2 => ⟨h1, h2⟩)
theorem planE_fork {l : List Oper} {a : Act} {w : World} {i j : Nat} {p q : Plan} (h1 : wpPlanE P l.toArray C s Q (.force i p) a w) (h2 : wpPlanE P l.toArray C s Q (.force j q) a w) : wpPlanE P l.toArray C s Q (.fork i j p q) a w := ⟨h1, h2⟩
end
end Go.Proofs.YtbidppjhenfjdaaGreatDoor
namespace Go.Proofs.YtbidppjhenfjdaaGreatDoor
open Go.RowKit
set_option linter.unusedVariables false
set_option linter.unusedSimpArgs false

def dgB (m : Nat) : ByteArray := ⟨(Lib.decDigits m).toArray⟩
theorem conv_b1 (W : World) (x : Nat) (hx : x < 256) : (convert 38 9 (.slice (some ⟨W.heap.size, 0, none⟩) 1 1)).run Tryz.prog (W.alloc (.cells #[.int .u8 (x : Int)] 5)) = .ok (.string ⟨#[UInt8.ofNat x]⟩) (W.alloc (.cells #[.int .u8 (x : Int)] 5)) := by
  have hb := World.alloc_heap_new W (.cells #[.int .u8 (x : Int)] 5)
  have hc := cell_of_block hb 0
  have := conv_bsl (W := W.alloc (.cells #[.int .u8 (x : Int)] 5)) (v := .slice (some ⟨W.heap.size, 0, none⟩) 1 1) (d := ⟨#[UInt8.ofNat x]⟩) ⟨some ⟨W.heap.size, 0, none⟩, 1, rfl, by simp [bytV], fun _ => ⟨W.heap.size, 0, rfl, fun i u hu => by
    have hi : i < 1 := (List.getElem?_eq_some_iff.1 hu).1
    obtain rfl : i = 0 := by omega
    have : byt ⟨#[UInt8.ofNat x]⟩ 0 = x := by
      show (UInt8.ofNat x).toNat = x
      simp only [UInt8.toNat_ofNat']
      omega
    rw [bytV_at (show 0 < (⟨#[UInt8.ofNat x]⟩ : ByteArray).size from Nat.zero_lt_one), this] at hu
    cases hu
    exact hc⟩⟩
  exact this
theorem dec_step (m : Nat) : Lib.decDigits m = (if m / 10 = 0 then [] else Lib.decDigits (m / 10)) ++ [UInt8.ofNat (48 + m % 10)] := by
  rw [Lib.decDigits]
  by_cases h : m < 10
  · rw [dif_pos h, if_pos (by omega), Nat.mod_eq_of_lt h]; rfl
  · rw [dif_neg h, if_neg (by omega)]
theorem conv_dg (W : World) (m : Nat) : (convert 38 9 (.slice (some ⟨W.heap.size, 0, none⟩) 1 1)).run Tryz.prog (W.alloc (.cells #[.int .u8 (48 + (m : Int) % 10)] 5)) = .ok (.string ⟨#[UInt8.ofNat (48 + m % 10)]⟩) (W.alloc (.cells #[.int .u8 (48 + (m : Int) % 10)] 5)) := by
  obtain ⟨y, hy⟩ : ∃ y, y = 48 + m % 10 := ⟨_, rfl⟩
  have e : 48 + (m : Int) % 10 = (y : Nat) := by omega
  rw [← hy, e]
  exact conv_b1 W y (by omega)
theorem dg_cat (a b : List UInt8) : (⟨a.toArray⟩ : ByteArray) ++ ⟨b.toArray⟩ = ⟨(a ++ b).toArray⟩ := by
  apply ByteArray.ext
  rw [ByteArray.data_append]
  simp
set_option maxHeartbeats 400000 in
set_option maxRecDepth 100000 in
theorem digits_any (m : Nat) (W : World) (hm : m ≤ 9223372036854775808) :
    Calls Tryz.prog 90 #[.int .i64 (-(m : Int))] W fun e W' => e = .returned (.string (dgB m)) ∧ Keep [] W W' := by
  have hd1 : (-(m : Int)).tmod 10 = -((m % 10 : Nat) : Int) := by rw [Int.neg_tmod]; rfl
  have hd2 : (-(m : Int)).tdiv 10 = -((m / 10 : Nat) : Int) := by rw [Int.neg_tdiv]; rfl
  have hcv := conv_dg W m
  have hk1 : Keep [] W (W.alloc (.cells #[.int .u8 (48 + (m : Int) % 10)] 5)) := (Keep.refl _ _).alloc _
  obtain ⟨x, hx⟩ : ∃ x : ByteArray, x = ⟨#[UInt8.ofNat (48 + m % 10)]⟩ := ⟨_, rfl⟩
  rw [← hx] at hcv
  have HI := Lib.hid (show Lib.decDigits m = (if m / 10 = 0 then [] else Lib.decDigits (m / 10)) ++ x.data.toList by rw [hx]; exact dec_step m)
  have HX := Lib.hid (show x.size = 1 by rw [hx]; rfl)
  have HK := Lib.hid hk1
  have HM := Lib.hid hm
  clear hk1 hx
  go_enter Tryz.func90, Tryz.ntmps90
  go_upto_region 2 with (fail)
  obtain ⟨w1, hw1⟩ : ∃ w1, w1 = W.alloc (.cells #[.int .u8 (48 + (m : Int) % 10)] 5) := ⟨_, rfl⟩
  rw [← hw1] at HK ⊢
  clear hcv hw1
  go_upto_region 3 with (fail)
  go_loopw [0, 3] (fun nv sv wr => ∃ (k : Nat) (t : ByteArray), nv = .int .i64 (-(k : Int)) ∧ sv = .string t ∧ k ≤ m ∧ Lib.decDigits m = (if k = 0 then [] else Lib.decDigits k) ++ t.data.toList ∧ Keep [] W wr) (fun nv _ _ => (intOf nv).natAbs)
  case atStart => exact ⟨m / 10, x, by go_num, rfl, by omega, HI.out, HK.out⟩
  case round =>
    rename World => wr
    obtain ⟨k, t, rfl, rfl, hk, heq, hkr⟩ := hrel
    have hts : t.size ≤ 20 := by
      have h1 := congrArg List.length heq
      rw [List.length_append] at h1
      have h2 := dec_len_lt (u := m) (by omega)
      have h3 : t.data.toList.length = t.size := Array.length_toList
      omega
    have HEQ := Lib.hid heq
    have HKR := Lib.hid hkr
    clear heq hkr HK HI HX
    by_cases h0 : k = 0
    · subst h0
      have HFIN := Lib.hid (show dgB m = t by
        unfold dgB
        rw [HEQ.out, if_pos rfl]
        apply ByteArray.ext
        simp)
      go_wp2
      go_ret
      exact ⟨by rw [HFIN.out]; rfl, HKR.out⟩
    · have hcv := conv_dg wr k
      obtain ⟨y, hy⟩ : ∃ y : ByteArray, y = ⟨#[UInt8.ofNat (48 + k % 10)]⟩ := ⟨_, rfl⟩
      rw [← hy] at hcv
      have g1 : decide (-(k : Int) < 0) = true := by simp; omega
      have hdk1 : (-(k : Int)).tmod 10 = -((k % 10 : Nat) : Int) := by rw [Int.neg_tmod]; rfl
      have hdk2 : (-(k : Int)).tdiv 10 = -((k / 10 : Nat) : Int) := by rw [Int.neg_tdiv]; rfl
      have HE2 := Lib.hid (show Lib.decDigits m = (if k / 10 = 0 then [] else Lib.decDigits (k / 10)) ++ (y ++ t).data.toList by
        rw [HEQ.out, if_neg h0, dec_step k, hy, ByteArray.data_append]
        simp)
      have HKA := Lib.hid (show Keep [] W (wr.alloc (.cells #[.int .u8 (48 + (k : Int) % 10)] 5)) from HKR.out.alloc _)
      have hys : y.size = 1 := by rw [hy]; rfl
      have hys2 : (y ++ t).size ≤ 21 := by rw [ByteArray.size_append]; omega
      have hkm : k / 10 ≤ m := by omega
      clear hy
      go_wp2
      go_roundw
      case rel => exact ⟨k / 10, _, by go_num, rfl, hkm, HE2.out, HKA.out⟩
      case measure => simp [intOf]; omega
theorem itB_pos {n : Int} (h : 0 ≤ n) : itB n = dgB n.toNat := by unfold itB dgB Lib.itoa; rw [if_neg (by omega)]
theorem itB_neg {n : Int} (h : n < 0) : itB n = ⟨#[45]⟩ ++ dgB n.natAbs := by
  unfold itB dgB Lib.itoa
  rw [if_pos h]
  apply ByteArray.ext
  rw [ByteArray.data_append]
  simp
set_option maxHeartbeats 400000 in
set_option maxRecDepth 100000 in
theorem refnum_any (n : Int) (W : World) (hn : I64 n) :
    Calls Tryz.prog 65 #[.int .i64 n] W fun e W' => e = .returned (.string (itB n)) ∧ Keep [] W W' := by
  have HN := Lib.hid hn
  clear hn
  by_cases h0 : 0 ≤ n
  · have g1 : decide (n ≥ 0) = true := by simpa using h0
    have g2 : decide (0 ≤ n) = true := by simpa using h0
    have HP := Lib.hid (itB_pos h0)
    obtain ⟨m, hm⟩ : ∃ m : Nat, n = (m : Int) := ⟨n.toNat, by omega⟩
    subst hm
    have hm2 : m < 9223372036854775808 := by have := HN.out.2; omega
    have HD := Lib.hid (fun w => digits_any m w (by omega))
    clear h0
    go_enter Tryz.func65, Tryz.ntmps65
    go_wp2_with fail
    refine (HD.out W).mono ?_
    rintro e w1 ⟨rfl, hk⟩
    go_wp2
    go_ret
    exact ⟨by rw [HP.out]; rfl, hk⟩
  · have g1 : decide (n ≥ 0) = false := by simpa using h0
    have g2 : decide (0 ≤ n) = false := by simpa using h0
    have HP := Lib.hid (itB_neg (by omega : n < 0))
    obtain ⟨m, hm⟩ : ∃ m : Nat, n = -(m : Int) := ⟨n.natAbs, by omega⟩
    subst hm
    have hm2 : m ≤ 9223372036854775808 := by have := HN.out.1; omega
    have HD := Lib.hid (fun w => digits_any m w hm2)
    have hsz : (dgB m).size ≤ 20 := by
      have h2 := dec_len_lt (u := m) (by omega)
      have : (dgB m).size = (Lib.decDigits m).length := by show (Lib.decDigits m).toArray.size = _; simp
      omega
    have HE := Lib.hid (show itB (-(m : Int)) = ⟨#[45]⟩ ++ dgB m by rw [HP.out]; congr 2; omega)
    obtain ⟨z, hz⟩ : ∃ z, z = dgB m := ⟨_, rfl⟩
    rw [← hz] at HE HD hsz
    have g3 : decide (m = 0) = false := by simp; omega
    clear h0 HP hz
    go_enter Tryz.func65, Tryz.ntmps65
    go_wp2_with fail
    refine (HD.out W).mono ?_
    rintro e w1 ⟨rfl, hk⟩
    go_wp2
    go_ret
    exact ⟨by rw [HE.out]; rfl, hk⟩
/-- Numbers, each with a blank ahead. -/
def sdB : List Int → ByteArray
  | [] => ByteArray.empty
  | n :: l => ⟨#[32]⟩ ++ itB n ++ sdB l
theorem sdB_app (a b : List Int) : sdB (a ++ b) = sdB a ++ sdB b := by
  induction a with
  | nil => simp [sdB]
  | cons n a ih => simp [sdB, ih, ByteArray.append_assoc]
theorem sdB_size : ∀ {l : List Int}, (∀ x ∈ l, I64 x) → (sdB l).size ≤ l.length * 22 := by
  intro l
  induction l with
  | nil => intro _; simp [sdB]
  | cons n l ih =>
    intro h
    have h1 := ih (fun x hx => h x (by simp [hx]))
    have h2 := itB_size (h n (by simp))
    have h3 : (⟨#[32]⟩ : ByteArray).size = 1 := rfl
    simp only [sdB, ByteArray.size_append, List.length_cons]
    omega
set_option maxHeartbeats 400000 in
set_option maxRecDepth 100000 in
theorem said_any (L : List Int) (v : Value) (W : World) (h : SlAt W v L.length (intsV L)) (hi : ∀ x ∈ L, I64 x) (hn : L.length ≤ 1000000) :
    Calls Tryz.prog 36 #[v] W fun e W' => e = .returned (.string (sdB L)) ∧ Keep [] W W' := by
  have HS := Lib.hid h
  have HI := Lib.hid hi
  obtain ⟨ad, cap, hv⟩ := h.empty
  subst hv
  clear h hi
  obtain ⟨n, hnl⟩ : ∃ n, n = L.length := ⟨_, rfl⟩
  rw [← hnl] at HS hn ⊢
  have HN := Lib.hid hnl
  clear hnl
  go_enter Tryz.func36, Tryz.ntmps36
  go_upto_region 3 with (fail)
  go_loopw [3, 4] (fun sv iv wr => ∃ k : Nat, sv = .string (sdB (L.take k)) ∧ iv = .int .i64 k ∧ k ≤ n ∧ Keep [] W wr) (fun _ iv _ => n - (intOf iv).toNat)
  case atStart => exact ⟨0, rfl, rfl, Nat.zero_le _, Keep.refl _ _⟩
  case round =>
    rename World => wr
    obtain ⟨k, rfl, rfl, hk, hkr⟩ := hrel
    have HKR := Lib.hid hkr
    clear hkr
    by_cases hlt : k < n
    · have g1 := dec_lt_t (show (k : Int) < (n : Int) by omega)
      have hkL : k < L.length := by rw [← HN.out]; exact hlt
      obtain ⟨b, off, cp, e, hc⟩ := (HS.out.keep0 HKR.out).at_ (by omega)
      injection e with e1 e2 e3
      subst e1
      clear e2 e3
      have hx := hc k (.int .i64 L[k]) (by simp [intsV, hkL])
      have hi1 := HI.out _ (List.getElem_mem hkL)
      have ht : sdB (L.take (k + 1)) = sdB (L.take k) ++ ⟨#[32]⟩ ++ itB L[k] := by
        rw [List.take_succ_eq_append_getElem hkL, sdB_app]
        simp [sdB, ByteArray.append_assoc]
      have hz := sdB_size (l := L.take (k + 1)) (fun x hx => HI.out x (List.mem_of_mem_take hx))
      generalize L[k] = y at hx hi1 ht
      have HT := Lib.hid ht
      have HY := Lib.hid (fun w => refnum_any y w hi1)
      obtain ⟨s0, hs0⟩ : ∃ s0, s0 = sdB (L.take k) := ⟨_, rfl⟩
      have hz1 : s0.size ≤ 22000000 := by
        have h := sdB_size (l := L.take k) (fun x hx => HI.out x (List.mem_of_mem_take hx))
        rw [List.length_take] at h
        rw [hs0]
        omega
      have hz2 : (itB y).size ≤ 21 := itB_size hi1
      obtain ⟨z, hzz⟩ : ∃ z, z = itB y := ⟨_, rfl⟩
      rw [← hzz] at hz2 HT HY
      have HS0 := Lib.hid hs0
      rw [← hs0]
      clear hc hi1 ht hz hs0 hzz
      go_wp2_with fail
      refine (HY.out _).mono ?_
      rintro e w2 ⟨rfl, hk2⟩
      go_wp2
      go_roundw
      case rel => exact ⟨k + 1, by rw [HT.out, ← HS0.out], by go_num, by omega, HKR.out.trans0 hk2⟩
      case measure => simp [intOf]; omega
    · have g1 := dec_lt_f (show ¬ (k : Int) < (n : Int) by omega)
      have HFIN := Lib.hid (show sdB (L.take k) = sdB L by rw [List.take_of_length_le (by have := HN.out; omega)])
      go_wp2
      go_ret
      exact ⟨by rw [← HFIN.out]; rfl, HKR.out⟩
end Go.Proofs.YtbidppjhenfjdaaGreatDoor
namespace Go.Proofs.YtbidppjhenfjdaaGreatDoor
open Go.RowKit
set_option linter.unusedVariables false
set_option linter.unusedSimpArgs false

theorem rshape_no (k : Int) (W : World) (h : ¬ (1 ≤ k ∧ k ≤ 14)) : Calls Tryz.prog 53 #[.int .i64 k] W fun e W' => e = .returned (.string ByteArray.empty) ∧ Keep [] W W' := by
  have g1 : (k == 1) = false := by simp; omega
  have g2 : (k == 2) = false := by simp; omega
  have g3 : (k == 3) = false := by simp; omega
  have g4 : (k == 4) = false := by simp; omega
  have g5 : (k == 5) = false := by simp; omega
  have g6 : (k == 6) = false := by simp; omega
  have g7 : (k == 7) = false := by simp; omega
  have g8 : (k == 8) = false := by simp; omega
  have g9 : (k == 9) = false := by simp; omega
  have g10 : (k == 10) = false := by simp; omega
  have g11 : (k == 11) = false := by simp; omega
  have g12 : (k == 12) = false := by simp; omega
  have g13 : (k == 13) = false := by simp; omega
  have g14 : (k == 14) = false := by simp; omega
  clear h
  go_enter Tryz.func53, Tryz.ntmps53
  go_wp2
  go_ret
  exact ⟨rfl, Keep.refl _ _⟩
theorem said_one {n : Int} (W : World) (hn : I64 n) : Calls Tryz.prog 36 #[.slice (some ⟨W.heap.size, 0, none⟩) 1 1] (W.alloc (.cells #[.int .i64 n] 3)) fun e W' => e = .returned (.string (⟨#[32]⟩ ++ itB n)) ∧ Keep [] (W.alloc (.cells #[.int .i64 n] 3)) W' := by
  have hb := World.alloc_heap_new W (.cells #[.int .i64 n] 3)
  have hc := cell_of_block hb 0
  have h := said_any [n] (.slice (some ⟨W.heap.size, 0, none⟩) 1 1) (W.alloc (.cells #[.int .i64 n] 3)) ⟨some ⟨W.heap.size, 0, none⟩, 1, rfl, by simp [intsV], fun _ => ⟨W.heap.size, 0, rfl, fun i u hu => by
    have hi : i < 1 := (List.getElem?_eq_some_iff.1 hu).1
    obtain rfl : i = 0 := by omega
    simp [intsV] at hu
    subst hu
    exact hc⟩⟩ (by simpa using hn) (by simp)
  have e : sdB [n] = ⟨#[32]⟩ ++ itB n := by simp [sdB]
  rwa [e] at h
def lineF (s : Stp) : List Fld → ByteArray
  | [] => ByteArray.empty
  | f :: r => ⟨#[32]⟩ ++ fW s f ++ lineF s r
theorem lineF_app (s : Stp) (a b : List Fld) : lineF s (a ++ b) = lineF s a ++ lineF s b := by
  induction a with
  | nil => simp [lineF]
  | cons n a ih => simp [lineF, ih, ByteArray.append_assoc]
theorem lineF_size {s : Stp} (h : StpOk s) (hs : StpSmall s) : ∀ (l : List Fld), (lineF s l).size ≤ l.length * 1000003 := by
  intro l
  induction l with
  | nil => simp [lineF]
  | cons f l ih =>
    have h2 := fW_size h hs f
    have h3 : (⟨#[32]⟩ : ByteArray).size = 1 := rfl
    simp only [lineF, ByteArray.size_append, List.length_cons]
    omega
/-- The reference's line. -/
def rlB (s : Stp) : ByteArray := if 1 ≤ s.kind ∧ s.kind ≤ 14 then tabW s.kind.toNat ++ (if s.kind = 6 then sdB s.draws else lineF s (tabF s.kind.toNat)) else ByteArray.empty
theorem tabF_three (k : Nat) : (tabF k).length ≤ 3 := by
  unfold tabF
  split <;> simp
theorem tabW_size (k : Nat) : (tabW k).size ≤ 10 := by
  unfold tabW
  split <;> decide

set_option maxHeartbeats 8000000 in
set_option maxRecDepth 100000 in
theorem rline_any (s : Stp) (dv bv : Value) (W : World) (h : StRd W s dv bv) (hok : StpOk s) (hsm : StpSmall s) :
    Calls Tryz.prog 28 #[.agg (stV s dv bv)] W fun e W' => e = .returned (.string (rlB s)) ∧ Keep [] W W' := by
  have HRD := Lib.hid h
  have HOK := Lib.hid hok
  have HSM := Lib.hid hsm
  obtain ⟨ad1, cap1, hdv⟩ := h.1.empty
  obtain ⟨ad2, cap2, hbv⟩ := h.2.empty
  subst hdv
  subst hbv
  clear h hok hsm
  obtain ⟨nd, hnd⟩ : ∃ nd, nd = s.draws.length := ⟨_, rfl⟩
  obtain ⟨nb, hnb⟩ : ∃ nb, nb = s.data.size := ⟨_, rfl⟩
  rw [← hnd, ← hnb] at HRD ⊢
  have HND := Lib.hid (And.intro hnd hnb)
  clear hnd hnb
  have HK0 := Lib.hid (show Keep [] W (W.alloc (.cells (stV s (.slice ad1 nd cap1) (.slice ad2 nb cap2)) 40)) from (Keep.refl _ _).alloc _)
  have HB0 := Lib.hid (World.alloc_heap_new W (.cells (stV s (.slice ad1 nd cap1) (.slice ad2 nb cap2)) 40))
  obtain ⟨w1, hw1⟩ : ∃ w1, w1 = W.alloc (.cells (stV s (.slice ad1 nd cap1) (.slice ad2 nb cap2)) 40) := ⟨_, rfl⟩
  obtain ⟨D, hD⟩ : ∃ D, D = W.heap.size := ⟨_, rfl⟩
  have hwS := hw1
  rw [← hw1] at HK0 HB0
  rw [← hD] at HB0
  have p0 := cell_of_block HB0.out 0
  simp [stV] at p0
  unfold stV at hwS ⊢
  go_enter Tryz.func28, Tryz.ntmps28
  go_upto_region 1 with (fail)
  rw [← hwS, ← hD]
  clear hw1 hwS hD
  go_wp2_with fail
  refine (rname_any s.kind w1).mono ?_
  rintro e w2 ⟨rfl, hk2⟩
  have HK2 := Lib.hid (HK0.out.trans0 hk2)
  have HB2 := Lib.hid (hk2.at_ HB0.out (by simp))
  have q0 := cell_of_block HB2.out 0
  have q7 := cell_of_block HB2.out 7
  simp [stV] at q0 q7
  clear HK0 HB0 p0 hk2
  by_cases h6 : s.kind = 6
  · have g1 : (s.kind == 6) = true := by simpa using h6
    have HFIN := Lib.hid (show rlB s = tabW 6 ++ sdB s.draws by unfold rlB; rw [if_pos (by omega), if_pos h6, h6]; rfl)
    have hn : nameB s.kind = tabW 6 := by rw [h6]; rfl
    have hz1 := tabW_size 6
    have hz2 := sdB_size (l := s.draws) HOK.out.2.2.2.2.2.2
    have hz3 := HSM.out.2.2
    have hz4 : (sdB s.draws).size ≤ 2200000 := by omega
    rw [hn]
    rw [h6] at q0
    obtain ⟨x, hx⟩ : ∃ x, x = tabW 6 := ⟨_, rfl⟩
    obtain ⟨y, hy⟩ : ∃ y, y = sdB s.draws := ⟨_, rfl⟩
    have HSD := Lib.hid (fun w' (k : Keep [] W w') => said_any s.draws (.slice ad1 nd cap1) w' (by have := HRD.out.1.keep0 k; rw [← HND.out.1] at this ⊢; exact this) HOK.out.2.2.2.2.2.2 (by omega))
    rw [← hx] at HFIN hz1 ⊢
    rw [← hy] at HFIN HSD hz4
    clear hn hz2 hz3 h6 g1 hx hy
    go_wp2_with fail
    refine (HSD.out w2 HK2.out).mono ?_
    rintro e w3 ⟨rfl, hk3⟩
    go_wp2
    go_ret
    exact ⟨by rw [HFIN.out]; rfl, HK2.out.trans0 hk3⟩
  · have g1 : (s.kind == 6) = false := by simpa using h6
    by_cases hkk : 1 ≤ s.kind ∧ s.kind ≤ 14
    · obtain ⟨k, hk⟩ : ∃ k : Nat, s.kind = (k : Int) := ⟨s.kind.toNat, by omega⟩
      have hk1 : 1 ≤ k := by omega
      have hk14 : k ≤ 14 := by omega
      have HFIN := Lib.hid (show rlB s = tabW k ++ lineF s (tabF k) by
        unfold rlB; rw [if_pos hkk, if_neg h6, hk]; rfl)
      have hn : nameB s.kind = tabW k := by unfold nameB; rw [if_pos hkk, hk]; rfl
      have HSH := Lib.hid (fun w => rshape_any k w hk1 hk14)
      have hz1 := tabW_size k
      have hl3 := tabF_three k
      rw [hn]
      rw [hk] at q0 g1
      obtain ⟨x, hx⟩ : ∃ x, x = tabW k := ⟨_, rfl⟩
      obtain ⟨y, hy⟩ : ∃ y, y = shB k := ⟨_, rfl⟩
      have hyz : y.size = (tabF k).length := by rw [hy]; exact shB_size k
      have HYB := Lib.hid (fun j (h : j < (tabF k).length) => show byt y j = fldL (tabF k)[j] by rw [hy]; exact shB_byt h)
      rw [← hx] at HFIN hz1 ⊢
      rw [← hy] at HSH
      have HX := Lib.hid hz1
      clear hn h6 hx hy hkk hk hz1
      go_upto_region 4 with (fail)
      go_wp2_with fail
      refine (HSH.out w2).mono ?_
      rintro e w3 ⟨rfl, hk3⟩
      have HK3 := Lib.hid (HK2.out.trans0 hk3)
      have HB3 := Lib.hid (hk3.at_ HB2.out (by simp))
      clear hk3 HK2 HB2 q0 q7 g1
      go_upto_region 6 with (fail)
      go_loopw [3, 5] (fun sv iv wr => ∃ j : Nat, sv = .string (x ++ lineF s ((tabF k).take j)) ∧ iv = .int .i64 j ∧ j ≤ y.size ∧ Keep [] W wr ∧ wr.heap[D]? = some (.cells (stV s (.slice ad1 nd cap1) (.slice ad2 nb cap2)) 40 (0, 0))) (fun _ iv _ => y.size - (intOf iv).toNat)
      case atStart => exact ⟨0, by simp [lineF], rfl, Nat.zero_le _, HK3.out, HB3.out⟩
      case round =>
        rename World => wr
        obtain ⟨j, rfl, rfl, hj, hkr, hbr⟩ := hrel
        have HKR := Lib.hid hkr
        have HBR := Lib.hid hbr
        clear hkr hbr HK3 HB3
        by_cases hlt : j < y.size
        · have f1 := dec_lt_t (show (j : Int) < (y.size : Int) by omega)
          have f2 := dec_ltn_t hlt
          have hjl : j < (tabF k).length := by omega
          have hix := fun W => byte_at (s := y) (i := j) hlt W
          rw [HYB.out j hjl] at hix
          have ht : lineF s ((tabF k).take (j + 1)) = lineF s ((tabF k).take j) ++ ⟨#[32]⟩ ++ fW s (tabF k)[j] := by
            rw [List.take_succ_eq_append_getElem hjl, lineF_app]
            simp [lineF, ByteArray.append_assoc]
          have hz := lineF_size HOK.out HSM.out ((tabF k).take j)
          have hzf := fW_size HOK.out HSM.out (tabF k)[j]
          rw [List.length_take] at hz
          have hz1 : (x ++ lineF s ((tabF k).take j)).size ≤ 4000000 := by
            have := HX.out
            rw [ByteArray.size_append]
            omega
          generalize (tabF k)[j] = f at hix ht hzf
          have ht2 : x ++ lineF s ((tabF k).take (j + 1)) = (x ++ lineF s ((tabF k).take j)) ++ ⟨#[32]⟩ ++ fW s f := by rw [ht]; simp [ByteArray.append_assoc]
          have HT := Lib.hid ht2
          obtain ⟨x0, hx0⟩ : ∃ x0, x0 = x ++ lineF s ((tabF k).take j) := ⟨_, rfl⟩
          rw [← hx0] at hz1 HT ⊢
          have hjn : j + 1 ≤ y.size := by omega
          have HJ := Lib.hid hjn
          clear ht ht2 hz hx0 hjl hjn
          have d1 := cell_of_block HBR.out 1
          have d2 := cell_of_block HBR.out 2
          have d4 := cell_of_block HBR.out 4
          have d5 := cell_of_block HBR.out 5
          have d6 := cell_of_block HBR.out 6
          have d8 := cell_of_block HBR.out 8
          simp [stV] at d1 d2 d4 d5 d6 d8
          have HIX := Lib.hid hix
          clear hix
          cases f
          · -- site
            have hix := HIX.out wr
            simp only [fldL] at hix
            have hi1 := HOK.out.2.1
            have HSD := Lib.hid (fun W' => said_one (n := s.site) W' hi1)
            have hzz : (⟨#[32]⟩ ++ itB (s.site)).size ≤ 22 := by
              have h1 := itB_size hi1
              have h2 : (⟨#[32]⟩ : ByteArray).size = 1 := rfl
              rw [ByteArray.size_append]
              omega
            have HT2 := Lib.hid (show x ++ lineF s ((tabF k).take (j + 1)) = x0 ++ (⟨#[32]⟩ ++ itB (s.site)) by rw [HT.out, ByteArray.append_assoc]; rfl)
            obtain ⟨z, hz⟩ : ∃ z : ByteArray, z = ⟨#[32]⟩ ++ itB (s.site) := ⟨_, rfl⟩
            rw [← hz] at HSD hzz HT2
            clear hz hi1 hzf HT
            go_wp2_with fail
            refine (HSD.out _).mono ?_
            rintro e w4 ⟨rfl, hk4⟩
            have HK4 := Lib.hid (HKR.out.trans0 (((Keep.refl [] wr).alloc _).trans0 hk4))
            have HB4 := Lib.hid ((((Keep.refl [] wr).alloc _).trans0 hk4).at_ HBR.out (by simp))
            clear hk4
            go_wp2
            go_roundw
            case rel => exact ⟨j + 1, by rw [HT2.out], by go_num, HJ.out, HK4.out, HB4.out⟩
            case measure => simp [intOf]; omega
          · -- peer
            have hix := HIX.out wr
            simp only [fldL] at hix
            have hi1 := HOK.out.2.2.1
            have HSD := Lib.hid (fun W' => said_one (n := s.peer) W' hi1)
            have hzz : (⟨#[32]⟩ ++ itB (s.peer)).size ≤ 22 := by
              have h1 := itB_size hi1
              have h2 : (⟨#[32]⟩ : ByteArray).size = 1 := rfl
              rw [ByteArray.size_append]
              omega
            have HT2 := Lib.hid (show x ++ lineF s ((tabF k).take (j + 1)) = x0 ++ (⟨#[32]⟩ ++ itB (s.peer)) by rw [HT.out, ByteArray.append_assoc]; rfl)
            obtain ⟨z, hz⟩ : ∃ z : ByteArray, z = ⟨#[32]⟩ ++ itB (s.peer) := ⟨_, rfl⟩
            rw [← hz] at HSD hzz HT2
            clear hz hi1 hzf HT
            go_wp2_with fail
            refine (HSD.out _).mono ?_
            rintro e w4 ⟨rfl, hk4⟩
            have HK4 := Lib.hid (HKR.out.trans0 (((Keep.refl [] wr).alloc _).trans0 hk4))
            have HB4 := Lib.hid ((((Keep.refl [] wr).alloc _).trans0 hk4).at_ HBR.out (by simp))
            clear hk4
            go_wp2
            go_roundw
            case rel => exact ⟨j + 1, by rw [HT2.out], by go_num, HJ.out, HK4.out, HB4.out⟩
            case measure => simp [intOf]; omega
          · -- at
            have hix := HIX.out wr
            simp only [fldL] at hix
            have hi1 := HOK.out.2.2.2.2.1
            have HSD := Lib.hid (fun W' => said_one (n := s.at_) W' hi1)
            have hzz : (⟨#[32]⟩ ++ itB (s.at_)).size ≤ 22 := by
              have h1 := itB_size hi1
              have h2 : (⟨#[32]⟩ : ByteArray).size = 1 := rfl
              rw [ByteArray.size_append]
              omega
            have HT2 := Lib.hid (show x ++ lineF s ((tabF k).take (j + 1)) = x0 ++ (⟨#[32]⟩ ++ itB (s.at_)) by rw [HT.out, ByteArray.append_assoc]; rfl)
            obtain ⟨z, hz⟩ : ∃ z : ByteArray, z = ⟨#[32]⟩ ++ itB (s.at_) := ⟨_, rfl⟩
            rw [← hz] at HSD hzz HT2
            clear hz hi1 hzf HT
            go_wp2_with fail
            refine (HSD.out _).mono ?_
            rintro e w4 ⟨rfl, hk4⟩
            have HK4 := Lib.hid (HKR.out.trans0 (((Keep.refl [] wr).alloc _).trans0 hk4))
            have HB4 := Lib.hid ((((Keep.refl [] wr).alloc _).trans0 hk4).at_ HBR.out (by simp))
            clear hk4
            go_wp2
            go_roundw
            case rel => exact ⟨j + 1, by rw [HT2.out], by go_num, HJ.out, HK4.out, HB4.out⟩
            case measure => simp [intOf]; omega
          · -- num
            have hix := HIX.out wr
            simp only [fldL] at hix
            have hi1 := HOK.out.2.2.2.2.2.1
            have HSD := Lib.hid (fun W' => said_one (n := s.n) W' hi1)
            have hzz : (⟨#[32]⟩ ++ itB (s.n)).size ≤ 22 := by
              have h1 := itB_size hi1
              have h2 : (⟨#[32]⟩ : ByteArray).size = 1 := rfl
              rw [ByteArray.size_append]
              omega
            have HT2 := Lib.hid (show x ++ lineF s ((tabF k).take (j + 1)) = x0 ++ (⟨#[32]⟩ ++ itB (s.n)) by rw [HT.out, ByteArray.append_assoc]; rfl)
            obtain ⟨z, hz⟩ : ∃ z : ByteArray, z = ⟨#[32]⟩ ++ itB (s.n) := ⟨_, rfl⟩
            rw [← hz] at HSD hzz HT2
            clear hz hi1 hzf HT
            go_wp2_with fail
            refine (HSD.out _).mono ?_
            rintro e w4 ⟨rfl, hk4⟩
            have HK4 := Lib.hid (HKR.out.trans0 (((Keep.refl [] wr).alloc _).trans0 hk4))
            have HB4 := Lib.hid ((((Keep.refl [] wr).alloc _).trans0 hk4).at_ HBR.out (by simp))
            clear hk4
            go_wp2
            go_roundw
            case rel => exact ⟨j + 1, by rw [HT2.out], by go_num, HJ.out, HK4.out, HB4.out⟩
            case measure => simp [intOf]; omega
          · -- text
            have hix := HIX.out wr
            simp only [fldL] at hix
            have hzz : (quo s.text).size ≤ 1000002 := hzf
            have hzs := HSM.out.1
            have HQ := Lib.hid (fun w' => rquote_any s.text w' (by omega))
            have HT2 := Lib.hid (show x ++ lineF s ((tabF k).take (j + 1)) = x0 ++ ⟨#[32]⟩ ++ quo s.text from HT.out)
            obtain ⟨z, hz⟩ : ∃ z : ByteArray, z = quo s.text := ⟨_, rfl⟩
            rw [← hz] at HQ hzz HT2
            clear hz hzf hzs HT
            go_wp2_with fail
            refine (HQ.out _).mono ?_
            rintro e w4 ⟨rfl, hk4⟩
            have HK4 := Lib.hid (HKR.out.trans0 hk4)
            have HB4 := Lib.hid (hk4.at_ HBR.out (by simp))
            clear hk4
            go_wp2
            go_roundw
            case rel => exact ⟨j + 1, by rw [HT2.out], by go_num, HJ.out, HK4.out, HB4.out⟩
            case measure => simp [intOf]; omega
          · -- data
            have hix := HIX.out wr
            simp only [fldL] at hix
            have hzz : (quo s.data).size ≤ 1000002 := hzf
            have hzs := HSM.out.2.1
            have HQ := Lib.hid (fun w' => rquote_any s.data w' (by omega))
            have HT2 := Lib.hid (show x ++ lineF s ((tabF k).take (j + 1)) = x0 ++ ⟨#[32]⟩ ++ quo s.data from HT.out)
            obtain ⟨z, hz⟩ : ∃ z : ByteArray, z = quo s.data := ⟨_, rfl⟩
            rw [← hz] at HQ hzz HT2
            have hcv := conv_bsl (by have := HRD.out.2.keep0 HKR.out; rw [← HND.out.2] at this ⊢; exact this)
            clear hz hzf hzs HT
            go_wp2_with fail
            refine (HQ.out _).mono ?_
            rintro e w4 ⟨rfl, hk4⟩
            have HK4 := Lib.hid (HKR.out.trans0 hk4)
            have HB4 := Lib.hid (hk4.at_ HBR.out (by simp))
            clear hk4
            go_wp2
            go_roundw
            case rel => exact ⟨j + 1, by rw [HT2.out], by go_num, HJ.out, HK4.out, HB4.out⟩
            case measure => simp [intOf]; omega
        · have f1 := dec_lt_f (show ¬ (j : Int) < (y.size : Int) by omega)
          have f2 := dec_ltn_f hlt
          have HF2 := Lib.hid (show rlB s = x ++ lineF s ((tabF k).take j) by rw [HFIN.out, List.take_of_length_le (by omega)])
          clear hyz hl3
          obtain ⟨z, hz⟩ : ∃ z, z = x ++ lineF s ((tabF k).take j) := ⟨_, rfl⟩
          rw [← hz] at HF2 ⊢
          clear hz
          go_wp2
          go_ret
          exact ⟨by rw [HF2.out]; rfl, HKR.out⟩
    · have hn : nameB s.kind = ByteArray.empty := if_neg hkk
      have HFIN := Lib.hid (show rlB s = ByteArray.empty from if_neg hkk)
      have HSH := Lib.hid (fun w => rshape_no s.kind w hkk)
      rw [hn]
      clear hn h6 hkk
      go_upto_region 4 with (fail)
      go_wp2_with fail
      refine (HSH.out w2).mono ?_
      rintro e w3 ⟨rfl, hk3⟩
      have HK3 := Lib.hid (HK2.out.trans0 hk3)
      clear hk3
      go_upto_region 6 with (fail)
      go_loopw [3, 5] (fun sv iv wr => sv = .string ByteArray.empty ∧ iv = .int .i64 0 ∧ Keep [] W wr) (fun _ iv _ => 0)
      case atStart => exact ⟨rfl, rfl, HK3.out⟩
      case round =>
        obtain ⟨rfl, rfl, hkr⟩ := hrel
        go_wp2
        go_ret
        exact ⟨by rw [HFIN.out]; rfl, hkr⟩
end Go.Proofs.YtbidppjhenfjdaaGreatDoor
namespace Go.Proofs.YtbidppjhenfjdaaGreatDoor
open Go.RowKit
set_option linter.unusedVariables false
set_option linter.unusedSimpArgs false

/-- Words, each with a blank ahead. -/
def blB : List ByteArray → ByteArray
  | [] => ByteArray.empty
  | x :: l => ⟨#[32]⟩ ++ x ++ blB l
theorem joinB_cons (l : List ByteArray) : ∀ a, joinB (a :: l) = a ++ blB l := by
  induction l with
  | nil =>
    intro a
    apply ByteArray.ext
    show (List.intercalate [32] [a.data.toList]).toArray = _
    simp [List.intercalate, blB]
  | cons b l ih =>
    intro a
    have h := ih b
    apply ByteArray.ext
    have h2 : (joinB (b :: l)).data = (b ++ blB l).data := by rw [h]
    have e1 : (joinB (a :: b :: l)).data.toList = a.data.toList ++ [32] ++ (joinB (b :: l)).data.toList := by
      show (List.intercalate [32] (a.data.toList :: b.data.toList :: l.map (·.data.toList))).toArray.toList = a.data.toList ++ [32] ++ (List.intercalate [32] (b.data.toList :: l.map (·.data.toList))).toArray.toList
      simp only [List.toList_toArray]
      rw [List.intercalate_cons_cons]
      try simp
    rw [h2] at e1
    apply Array.ext'
    rw [e1]
    simp [blB]
theorem blB_app (a b : List ByteArray) : blB (a ++ b) = blB a ++ blB b := by
  induction a with
  | nil => simp [blB]
  | cons n a ih => simp [blB, ih, ByteArray.append_assoc]
theorem lineF_bl (s : Stp) (fs : List Fld) : lineF s fs = blB (fs.map (fW s)) := by
  induction fs with
  | nil => rfl
  | cons f fs ih => simp [lineF, blB, ih]
theorem sdB_bl (l : List Int) : sdB l = blB (l.map itB) := by
  induction l with
  | nil => rfl
  | cons f fs ih => simp [sdB, blB, ih]
/-- The reference's line is what say says. -/
theorem rlB_say {s : Stp} (h : 1 ≤ s.kind ∧ s.kind ≤ 14) : sayO s = some (rlB s) := by
  unfold sayO rlB
  rw [if_pos h, if_pos h]
  congr 1
  unfold sayW
  rw [List.cons_append, joinB_cons, blB_app, lineF_bl, sdB_bl]
  by_cases h6 : s.kind = 6
  · rw [if_pos h6, if_pos (by omega), h6]
    simp [tabF, blB]
  · rw [if_neg h6, if_neg (by omega)]
    simp [blB]
theorem tabW_ne {k : Nat} (h1 : 1 ≤ k) (h2 : k ≤ 14) : (tabW k).toList ≠ [] := by
  match k, h1, h2 with
  | 1, _, _ => decide +kernel
  | 2, _, _ => decide +kernel
  | 3, _, _ => decide +kernel
  | 4, _, _ => decide +kernel
  | 5, _, _ => decide +kernel
  | 6, _, _ => decide +kernel
  | 7, _, _ => decide +kernel
  | 8, _, _ => decide +kernel
  | 9, _, _ => decide +kernel
  | 10, _, _ => decide +kernel
  | 11, _, _ => decide +kernel
  | 12, _, _ => decide +kernel
  | 13, _, _ => decide +kernel
  | 14, _, _ => decide +kernel

set_option maxHeartbeats 8000000 in
set_option maxRecDepth 100000 in
theorem rprint_any (v : Value) (L : List Stp) (W : World) (h : Steps W v L) (hok : StpsOk L) (hn : L.length ≤ 100000) :
    Calls Tryz.prog 13 #[v] W fun e W' => e = .returned (prnV (prn L)) ∧ Keep [] W W' := by
  have HST := Lib.hid h
  have HOK := Lib.hid hok
  obtain ⟨ad, cap, hv⟩ := h.slice
  subst hv
  clear h hok
  obtain ⟨n, hnl⟩ : ∃ n, n = L.length := ⟨_, rfl⟩
  rw [← hnl] at HST hn ⊢
  have HN := Lib.hid hnl
  clear hnl
  go_enter Tryz.func13, Tryz.ntmps13
  go_upto_region 3 with (fail)
  go_loopw [4, 5] (fun sv iv wr => ∃ (k : Nat) (t : ByteArray), sv = .string t ∧ iv = .int .i64 k ∧ k ≤ n ∧ prn L = (prn (L.drop k)).map (t ++ ·) ∧ t.size ≤ k * 6000001 ∧ Keep [] W wr) (fun _ iv _ => n - (intOf iv).toNat)
  case atStart => exact ⟨0, ByteArray.empty, rfl, rfl, Nat.zero_le _, by simp, Nat.zero_le _, Keep.refl _ _⟩
  case round =>
    rename World => wr
    obtain ⟨k, t, rfl, rfl, hk, hpr, htz, hkr⟩ := hrel
    have HPR := Lib.hid hpr
    have HKR := Lib.hid hkr
    clear hpr hkr
    by_cases hlt : k < n
    · have HLT := Lib.hid hlt
      have g1 := dec_lt_t (show (k : Int) < (n : Int) by omega)
      have g2 := dec_ltn_t hlt
      have hkL : k < L.length := by rw [← HN.out]; exact hlt
      obtain ⟨gb, off, cp, e, hel⟩ := Steps.elem (by have := HST.out.keep0 HKR.out; exact this) (by omega)
      injection e with e1 e2 e3
      subst e1
      clear e2 e3
      obtain ⟨ad1, cap1, ad2, cap2, hrd, hcl⟩ := hel k hkL
      have hok1 := HOK.out _ (List.getElem_mem hkL)
      have hdr := List.drop_eq_getElem_cons hkL
      generalize L[k] = s at hrd hcl hok1 hdr
      have c0 : wr.cell? ⟨gb, off + k * 9, none⟩ = some (.int .i64 s.kind) := hcl 0 _ rfl
      have c1 : wr.cell? ⟨gb, off + k * 9 + 1, none⟩ = some (.int .i64 s.site) := hcl 1 _ rfl
      have c2 : wr.cell? ⟨gb, off + k * 9 + 2, none⟩ = some (.int .i64 s.peer) := hcl 2 _ rfl
      have c3 : wr.cell? ⟨gb, off + k * 9 + 3, none⟩ = some (.int .i64 s.unit) := hcl 3 _ rfl
      have c4 : wr.cell? ⟨gb, off + k * 9 + 4, none⟩ = some (.int .i64 s.at_) := hcl 4 _ rfl
      have c5 : wr.cell? ⟨gb, off + k * 9 + 5, none⟩ = some (.int .i64 s.n) := hcl 5 _ rfl
      have c6 : wr.cell? ⟨gb, off + k * 9 + 6, none⟩ = some (.string s.text) := hcl 6 _ rfl
      have c7 : wr.cell? ⟨gb, off + k * 9 + 7, none⟩ = some (.slice ad1 s.draws.length cap1) := hcl 7 _ rfl
      have c8 : wr.cell? ⟨gb, off + k * 9 + 8, none⟩ = some (.slice ad2 s.data.size cap2) := hcl 8 _ rfl
      have HRD := Lib.hid hrd
      have HOK1 := Lib.hid hok1
      have HDR := Lib.hid hdr
      have HRL := Lib.hid (fun w (hk : Keep [] wr w) => rline_any s _ _ w (HRD.out.keep0 hk) hok1.1 hok1.2)
      have HSZ := Lib.hid (fun a (e : sayO s = some a) => sayO_size hok1.1 hok1.2 e)
      clear hel hcl hrd hok1 hdr hlt hkL
      obtain ⟨nd, hnd⟩ : ∃ nd, nd = s.draws.length := ⟨_, rfl⟩
      obtain ⟨nb, hnb⟩ : ∃ nb, nb = s.data.size := ⟨_, rfl⟩
      rw [← hnd] at c7
      rw [← hnb] at c8
      rw [← hnd, ← hnb] at HRL
      clear hnd hnb
      go_wp2_with fail
      refine (rname_any s.kind wr).mono ?_
      rintro e w2 ⟨rfl, hk2⟩
      have HK2 := Lib.hid hk2
      by_cases hkk : 1 ≤ s.kind ∧ s.kind ≤ 14
      · have hnm : nameB s.kind = tabW s.kind.toNat := if_pos hkk
        have hne := tabW_ne (k := s.kind.toNat) (by omega) (by omega)
        rw [← hnm] at hne
        have hsay := rlB_say hkk
        have hsz := HSZ.out _ hsay
        have HPN := Lib.hid (show prn L = (prn (L.drop (k + 1))).map ((t ++ rlB s ++ ⟨#[10]⟩) ++ ·) by
          rw [HPR.out, HDR.out]
          conv => lhs; unfold prn
          rw [hsay, Option.map_map]
          congr 1
          funext r
          simp [ByteArray.append_assoc])
        obtain ⟨a, ha⟩ : ∃ a, a = rlB s := ⟨_, rfl⟩
        obtain ⟨x, hx⟩ : ∃ x, x = nameB s.kind := ⟨_, rfl⟩
        rw [← ha] at HPN hsz HRL
        rw [← hx] at hne ⊢
        have g3 : (x.toList == []) = false := by simpa using hne
        have hz2 : t.size ≤ 600000100000 := by omega
        have hz3 : (t ++ a).size ≤ 600006100000 := by rw [ByteArray.size_append]; omega
        have HZ := Lib.hid (show (t ++ a ++ ⟨#[10]⟩).size ≤ (k + 1) * 6000001 by
          have : (⟨#[10]⟩ : ByteArray).size = 1 := rfl
          rw [ByteArray.size_append, ByteArray.size_append]; omega)
        have e0 := hk2.cellv c0 (by simp)
        have e1 := hk2.cellv c1 (by simp)
        have e2 := hk2.cellv c2 (by simp)
        have e3 := hk2.cellv c3 (by simp)
        have e4 := hk2.cellv c4 (by simp)
        have e5 := hk2.cellv c5 (by simp)
        have e6 := hk2.cellv c6 (by simp)
        have e7 := hk2.cellv c7 (by simp)
        have e8 := hk2.cellv c8 (by simp)
        clear hnm hsay ha hx c0 c1 c2 c3 c4 c5 c6 c7 c8 hk2 hkk htz hne
        go_upto_region 7 with (fail)
        go_wp2_with fail
        refine (HRL.out w2 HK2.out).mono ?_
        rintro e w3 ⟨rfl, hk3⟩
        clear e0 e1 e2 e3 e4 e5 e6 e7 e8
        go_wp2
        go_roundw
        case rel => exact ⟨k + 1, _, rfl, by go_num, by have := HLT.out; omega, HPN.out, HZ.out, (HKR.out.trans0 HK2.out).trans0 hk3⟩
        case measure => have := HLT.out; simp [intOf]; omega
      · have hnm : nameB s.kind = ByteArray.empty := if_neg hkk
        have HPN := Lib.hid (show prn L = none by
          rw [HPR.out, HDR.out]
          unfold prn
          rw [show sayO s = none from if_neg hkk]
          rfl)
        rw [hnm]
        clear hkk hnm
        go_wp2
        go_ret2
        exact ⟨by rw [HPN.out]; rfl, HKR.out.trans0 hk2⟩
    · obtain rfl : k = n := by omega
      have g1 := dec_lt_f (show ¬ (k : Int) < (k : Int) by omega)
      have g2 := dec_ltn_f hlt
      have HPN := Lib.hid (show prn L = some t by
        rw [HPR.out, List.drop_of_length_le (by rw [← HN.out]; omega)]
        show some (t ++ ByteArray.empty) = _
        rw [ByteArray.append_empty])
      clear hlt
      go_wp2
      go_ret2
      exact ⟨by rw [HPN.out]; rfl, HKR.out⟩
end Go.Proofs.YtbidppjhenfjdaaGreatDoor
namespace Go.Proofs.YtbidppjhenfjdaaGreatDoor
open Go.RowKit
set_option linter.unusedVariables false
set_option linter.unusedSimpArgs false

/-- No list is longer than memory. -/
def StpFit (s : Stp) : Prop := s.text.size ≤ 140737488355327 ∧ s.data.size ≤ 140737488355327 ∧ s.draws.length ≤ 140737488355327
def StpFew (s : Stp) : Prop := s.text.size ≤ 30000 ∧ s.data.size ≤ 30000 ∧ s.draws.length ≤ 400
/-- How many bytes there are in all. -/
def tot : List Stp → Nat
  | [] => 0
  | s :: L => s.text.size + s.data.size + tot L
theorem tot_snoc (a : List Stp) (s : Stp) : tot (a ++ [s]) = tot a + s.text.size + s.data.size := by
  induction a with
  | nil => simp [tot]
  | cons x a ih => simp [tot, ih]; omega
theorem tot_take {L : List Stp} {k : Nat} (hk : k < L.length) : tot (L.take (k + 1)) = tot (L.take k) + L[k].text.size + L[k].data.size := by
  rw [List.take_succ_eq_append_getElem hk, tot_snoc]
def Few (L : List Stp) : Prop := L.length ≤ 200 ∧ (∀ s ∈ L, StpFew s) ∧ tot L ≤ 30000

set_option maxHeartbeats 8000000 in
set_option maxRecDepth 100000 in
theorem much_any (v : Value) (L : List Stp) (W : World) (h : Steps W v L) (hft : ∀ s ∈ L, StpFit s) :
    Calls Tryz.prog 10 #[v] W fun e W' => Keep [] W W' ∧ ∃ b, e = .returned (.bool b) ∧ (b = false → Few L) := by
  have HST := Lib.hid h
  have HFT := Lib.hid hft
  obtain ⟨ad, cap, hv⟩ := h.slice
  subst hv
  clear h hft
  obtain ⟨n, hnl⟩ : ∃ n, n = L.length := ⟨_, rfl⟩
  rw [← hnl] at HST ⊢
  have HN := Lib.hid hnl
  clear hnl
  by_cases hbig : n ≤ 200
  · have f1 := dec_lt_f (show ¬ (200 : Int) < (n : Int) by omega)
    have f2 := dec_ltn_f (show ¬ 200 < n by omega)
    go_enter Tryz.func10, Tryz.ntmps10
    go_upto_region 5 with (fail)
    clear f1 f2
    go_loopw [3, 4] (fun mv iv wr => ∃ k m : Nat, mv = .int .i64 m ∧ iv = .int .i64 k ∧ k ≤ n ∧ m ≤ 30000 ∧ (∀ j (hj : j < L.length), j < k → StpFew L[j]) ∧ tot (L.take k) = m ∧ Keep [] W wr) (fun _ iv _ => n - (intOf iv).toNat)
    case atStart => exact ⟨0, 0, rfl, rfl, Nat.zero_le _, Nat.zero_le _, fun j _ hj => absurd hj (Nat.not_lt_zero _), rfl, Keep.refl _ _⟩
    case round =>
      rename World => wr
      obtain ⟨k, m, rfl, rfl, hk, hm, hfew, htot, hkr⟩ := hrel
      have HTOT := Lib.hid htot
      clear htot
      have HFEW := Lib.hid hfew
      have HKR := Lib.hid hkr
      clear hfew hkr
      by_cases hlt : k < n
      · have HLT := Lib.hid hlt
        have g1 := dec_lt_t (show (k : Int) < (n : Int) by omega)
        have g2 := dec_ltn_t hlt
        have hkL : k < L.length := by rw [← HN.out]; exact hlt
        obtain ⟨gb, off, cp, e, hel⟩ := Steps.elem (by have := HST.out.keep0 HKR.out; exact this) (by omega)
        injection e with e1 e2 e3
        subst e1
        clear e2 e3
        obtain ⟨ad1, cap1, ad2, cap2, hrd, hcl⟩ := hel k hkL
        have hft := HFT.out _ (List.getElem_mem hkL)
        have HNX := Lib.hid (fun (hs : StpFew L[k]) => show ∀ j (hj : j < L.length), j < k + 1 → StpFew L[j] from fun j hj hjk => by
          by_cases e : j = k
          · subst e; exact hs
          · exact HFEW.out j hj (by omega))
        have HNT := Lib.hid (show tot (L.take (k + 1)) = m + L[k].text.size + L[k].data.size by rw [tot_take hkL, HTOT.out])
        generalize L[k] = s at hrd hcl hft HNX HNT
        have c6 : wr.cell? ⟨gb, off + k * 9 + 6, none⟩ = some (.string s.text) := hcl 6 _ rfl
        have c7 : wr.cell? ⟨gb, off + k * 9 + 7, none⟩ = some (.slice ad1 s.draws.length cap1) := hcl 7 _ rfl
        have c8 : wr.cell? ⟨gb, off + k * 9 + 8, none⟩ = some (.slice ad2 s.data.size cap2) := hcl 8 _ rfl
        obtain ⟨hf1, hf2, hf3⟩ := hft
        unfold StpFew at HNX
        clear hel hcl hrd hkL
        obtain ⟨nd, hnd⟩ : ∃ nd, nd = s.draws.length := ⟨_, rfl⟩
        obtain ⟨nb, hnb⟩ : ∃ nb, nb = s.data.size := ⟨_, rfl⟩
        obtain ⟨tx, htx⟩ : ∃ tx, tx = s.text := ⟨_, rfl⟩
        rw [← hnd] at c7 hf3 HNX
        rw [← hnb] at c8 hf2 HNX HNT
        rw [← htx] at c6 hf1 HNX HNT
        clear hnd hnb htx
        have hw1 : IntKind.i64.wrap ((m : Int) + (tx.size : Int)) = (m : Int) + (tx.size : Int) := by rw [IntKind.wrap_i64]; omega
        have hw2 : IntKind.i64.wrap ((m : Int) + (tx.size : Int) + (nb : Int)) = (m : Int) + (tx.size : Int) + (nb : Int) := by rw [IntKind.wrap_i64]; omega
        go_upto_region 7 with (fail)
        refine wp_plan (fun w' => w' = wr.drew) (.take 0 (.take 1 (.take 2 (.take 3 (.take 4 (.take 5 (.take 6 (.take 7 (.take 8 (.take 9 (.take 10 (.take 11 (.take 12 (.take 13 (.take 14 (.force 15 .done)))))))))))))))) (by kernel_rfl) (by kernel_rfl) rfl ?_
        intro Q0 hQ0
        refine plan_takeL rfl rfl (.int .i64 (m : Nat)) ?_ ?_
        · rintro w' rfl K Q hK
          go_simp
          exact hK
        try simp only [Act.put, List.setIfInBounds_toArray, List.set_cons_succ, List.set_cons_zero]
        refine plan_takeL rfl rfl (.slice (some ⟨gb, off, none⟩) n cap) ?_ ?_
        · rintro w' rfl K Q hK
          go_simp
          exact hK
        try simp only [Act.put, List.setIfInBounds_toArray, List.set_cons_succ, List.set_cons_zero]
        refine plan_takeL rfl rfl (.int .i64 (k : Nat)) ?_ ?_
        · rintro w' rfl K Q hK
          go_simp
          exact hK
        try simp only [Act.put, List.setIfInBounds_toArray, List.set_cons_succ, List.set_cons_zero]
        refine plan_takeL rfl rfl (.pointer (some ⟨gb, off + k * 9, none⟩)) ?_ ?_
        · rintro w' rfl K Q hK
          go_simp
          exact hK
        try simp only [Act.put, List.setIfInBounds_toArray, List.set_cons_succ, List.set_cons_zero]
        refine plan_takeL rfl rfl (.pointer (some ⟨gb, off + k * 9 + 6, none⟩)) ?_ ?_
        · rintro w' rfl K Q hK
          go_simp
          exact hK
        try simp only [Act.put, List.setIfInBounds_toArray, List.set_cons_succ, List.set_cons_zero]
        refine plan_takeL rfl rfl (.string tx) ?_ ?_
        · rintro w' rfl K Q hK
          go_simp
          exact hK
        try simp only [Act.put, List.setIfInBounds_toArray, List.set_cons_succ, List.set_cons_zero]
        refine plan_takeL rfl rfl (.int .i64 (tx.size : Nat)) ?_ ?_
        · rintro w' rfl K Q hK
          go_simp
          exact hK
        try simp only [Act.put, List.setIfInBounds_toArray, List.set_cons_succ, List.set_cons_zero]
        refine plan_takeL rfl rfl (.int .i64 ((m : Int) + (tx.size : Int))) ?_ ?_
        · rintro w' rfl K Q hK
          go_simp
          exact hK
        try simp only [Act.put, List.setIfInBounds_toArray, List.set_cons_succ, List.set_cons_zero]
        refine plan_takeL rfl rfl (.slice (some ⟨gb, off, none⟩) n cap) ?_ ?_
        · rintro w' rfl K Q hK
          go_simp
          exact hK
        try simp only [Act.put, List.setIfInBounds_toArray, List.set_cons_succ, List.set_cons_zero]
        refine plan_takeL rfl rfl (.int .i64 (k : Nat)) ?_ ?_
        · rintro w' rfl K Q hK
          go_simp
          exact hK
        try simp only [Act.put, List.setIfInBounds_toArray, List.set_cons_succ, List.set_cons_zero]
        refine plan_takeL rfl rfl (.pointer (some ⟨gb, off + k * 9, none⟩)) ?_ ?_
        · rintro w' rfl K Q hK
          go_simp
          exact hK
        try simp only [Act.put, List.setIfInBounds_toArray, List.set_cons_succ, List.set_cons_zero]
        refine plan_takeL rfl rfl (.pointer (some ⟨gb, off + k * 9 + 8, none⟩)) ?_ ?_
        · rintro w' rfl K Q hK
          go_simp
          exact hK
        try simp only [Act.put, List.setIfInBounds_toArray, List.set_cons_succ, List.set_cons_zero]
        refine plan_takeL rfl rfl (.slice ad2 nb cap2) ?_ ?_
        · rintro w' rfl K Q hK
          go_simp
          exact hK
        try simp only [Act.put, List.setIfInBounds_toArray, List.set_cons_succ, List.set_cons_zero]
        refine plan_takeL rfl rfl (.int .i64 (nb : Nat)) ?_ ?_
        · rintro w' rfl K Q hK
          go_simp
          exact hK
        try simp only [Act.put, List.setIfInBounds_toArray, List.set_cons_succ, List.set_cons_zero]
        refine plan_takeL rfl rfl (.int .i64 ((m : Int) + (tx.size : Int) + (nb : Int))) ?_ ?_
        · rintro w' rfl K Q hK
          go_simp
          exact hK
        try simp only [Act.put, List.setIfInBounds_toArray, List.set_cons_succ, List.set_cons_zero]
        refine plan_forceL rfl rfl fun K hK => ?_
        go_simp
        refine hK _ _ rfl ?_
        refine hQ0 _ _ ?_
        clear c6 c8 hK hw1 hw2 hlt
        by_cases h1 : nd ≤ 400
        · have g3 := dec_lt_f (show ¬ (400 : Int) < (nd : Int) by omega)
          have g4 := dec_ltn_f (show ¬ 400 < nd by omega)
          by_cases h2 : m + tx.size + nb ≤ 30000
          · have g5 := dec_lt_f (show ¬ (30000 : Int) < (m : Int) + (tx.size : Int) + (nb : Int) by omega)
            have HST9 := Lib.hid (HNX.out ⟨by omega, by omega, h1⟩)
            have HM9 := Lib.hid h2
            clear h1 h2 hf1 hf2 hf3 hm
            go_wp2
            go_roundw
            case rel => exact ⟨k + 1, m + tx.size + nb, by go_num, by go_num, by have := HLT.out; omega, HM9.out, HST9.out, HNT.out, HKR.out.drew⟩
            case measure => have := HLT.out; simp [intOf]; omega
          · have g5 := dec_lt_t (show (30000 : Int) < (m : Int) + (tx.size : Int) + (nb : Int) by omega)
            clear h1 h2 hm
            go_wp2
            go_ret
            exact ⟨HKR.out.drew, true, rfl, fun h => by cases h⟩
        · have g3 := dec_lt_t (show (400 : Int) < (nd : Int) by omega)
          have g4 := dec_ltn_t (show 400 < nd by omega)
          clear h1 hm
          go_wp2
          go_ret
          exact ⟨HKR.out.drew, true, rfl, fun h => by cases h⟩
      · obtain rfl : k = n := by omega
        have g1 := dec_lt_f (show ¬ (k : Int) < (k : Int) by omega)
        have g2 := dec_ltn_f hlt
        have HF := Lib.hid (show Few L from ⟨by have := HN.out; omega, fun s hs => by
          obtain ⟨j, hj, rfl⟩ := List.getElem_of_mem hs
          exact HFEW.out j hj (by have := HN.out; omega), by
          have h1 := HTOT.out
          rw [HN.out, List.take_length] at h1
          omega⟩)
        clear hlt
        go_wp2
        go_ret
        exact ⟨HKR.out, false, rfl, fun _ => HF.out⟩
  · have f1 := dec_lt_t (show (200 : Int) < (n : Int) by omega)
    have f2 := dec_ltn_t (show 200 < n by omega)
    go_enter Tryz.func10, Tryz.ntmps10
    go_wp2
    go_ret
    exact ⟨Keep.refl _ _, true, rfl, fun h => by cases h⟩
end Go.Proofs.YtbidppjhenfjdaaGreatDoor
namespace Go.Proofs.YtbidppjhenfjdaaGreatDoor
open Go.ChangeShapes Go.WideShapes Go.RowKit
set_option linter.unusedVariables false

/-- The slice value v has the elements xs, each of k cells, which are 'encs x'. -/
def ElemsAt {α : Type} (w : World) (v : Value) (k : Nat) (encs : α → List Value) (xs : List α) : Prop :=
  ∃ ad cap, v = .slice ad xs.length cap ∧ (xs.length ≠ 0 → ∃ b off, ad = some ⟨b, off, none⟩ ∧ ∀ (i : Nat) (x : α), xs[i]? = some x → ∀ j u, (encs x)[j]? = some u → w.cell? ⟨b, off + (i * k + j), none⟩ = some u) ∧ (ad = none → cap = 0) ∧ xs.length ≤ cap

theorem ElemsAt.keep0 {α : Type} {w w' : World} {v : Value} {k : Nat} {encs : α → List Value} {xs : List α} (h : ElemsAt w v k encs xs) (hk : Keep [] w w') : ElemsAt w' v k encs xs := by
  obtain ⟨ad, cap, rfl, h1, h2⟩ := h
  refine ⟨ad, cap, rfl, fun hn => ?_, h2⟩
  obtain ⟨b, off, rfl, hc⟩ := h1 hn
  exact ⟨b, off, rfl, fun i x hx j u hu => hk.cellv (hc i x hx j u hu) (by simp)⟩

theorem ElemsAt.sl {α : Type} {w : World} {v : Value} {f : α → Value} {xs : List α} (h : ElemsAt w v 1 (fun x => [f x]) xs) : SlAt w v xs.length (xs.map f) := by
  obtain ⟨ad, cap, rfl, h1, h2⟩ := h
  refine ⟨ad, cap, rfl, ⟨fun h0 => by simp [List.eq_nil_of_length_eq_zero h0], h2.1⟩, fun hn => ?_⟩
  obtain ⟨b, off, rfl, hc⟩ := h1 hn
  refine ⟨b, off, rfl, fun i u hu => ?_⟩
  rw [List.getElem?_map] at hu
  cases hx : xs[i]? with
  | none => rw [hx] at hu; cases hu
  | some x =>
    rw [hx] at hu
    have := hc i x hx 0 (f x) rfl
    simp at this hu
    rw [← hu]; exact this

theorem addr_plain {a : Addr} (h : a.spot = none) (n : Nat) : a.add n = ⟨a.block, a.off + n, none⟩ := by
  obtain ⟨b, off, spot⟩ := a
  simp at h; subst h
  exact add_plain b off n

section
variable {H : Type} {enc : TypeId × Value → H} {P : Program} {w : World}

/-- AN ARGUMENT THAT IS A SLICE, opened: each element's cells are what the elements' reading says. -/
theorem open_elems {α : Type} {t e : TypeId} {v : Value} {d : DataW H} {ps : List MemPlace} {r : Reach} {b0 : Nat} (k : Nat) (hk : 0 < k) (encs : α → List Value) (ht : P.underlying t = some (.slice e)) (hc : P.cellsOf e = k)
    (hel : ∀ n cs y, DataW.trod enc P w 0 (fun _ => true) true n e cs = some y → ∃ x, cs = encs x)
    (hv : Value.okWide P w r b0 t v) (h : DataW.Trod enc P w 0 (fun _ => true) true t v d ps) : ∃ xs : List α, ElemsAt w v k encs xs := by
  obtain ⟨a0, len, cap, rfl⟩ := okWide_slice ht hv
  obtain ⟨fuel, hf⟩ := h
  rcases Go.Deep.open_slice ht hf with ⟨hcs, _⟩ | ⟨a, len', cap', m, n, D, Pl, hcs, _, hl, _, hm, _, hi⟩
  · simp [Value.cells] at hcs
    obtain ⟨rfl, rfl, rfl⟩ := hcs
    exact ⟨[], none, 0, rfl, fun h => absurd rfl h, (fun _ => rfl), Nat.le_refl _⟩
  · simp [Value.cells] at hcs
    obtain ⟨rfl, rfl, rfl⟩ := hcs
    rw [hc] at hi
    have hm' : m = cap := by simpa using hm
    subst hm'
    have hex : ∀ i : Fin len, ∃ x : α, ∀ j u, (encs x)[j]? = some u → w.cell? (a.add (i.val * k + j)) = some u := fun i => by
      obtain ⟨cs', hcell, htrod⟩ := hi i.val (by omega)
      obtain ⟨x, rfl⟩ := hel n cs' _ htrod
      obtain ⟨_, hlen, hat⟩ := World.cells?_some hcell
      refine ⟨x, fun j u hu => ?_⟩
      have hj : j < k := by rw [← hlen]; exact (List.getElem?_eq_some_iff.1 hu).1
      rw [← Go.Deep.add_add, hat j hj, hu]
    have hspot : len ≠ 0 → a.spot = none := fun h0 => by
      obtain ⟨cs', hcell, htrod⟩ := hi 0 (by omega)
      obtain ⟨_, hlen, hat⟩ := World.cells?_some hcell
      have h1 := hat 0 hk
      have h2 : cs'[0]? = some (cs'[0]'(by omega)) := List.getElem?_eq_getElem (by omega)
      rw [h2] at h1
      have := World.cell?_spot h1
      simpa [Addr.add] using this
    refine ⟨(List.finRange len).map fun i => Classical.choose (hex i), some a, m, by simp, fun h0 => ?_, (fun h => by cases h), by simpa using hl⟩
    have hl0 : len ≠ 0 := by simpa using h0
    have hs := hspot hl0
    refine ⟨a.block, a.off, by obtain ⟨b, off, spot⟩ := a; simp at hs; subst hs; rfl, fun i x hx j u hu => ?_⟩
    rw [List.getElem?_map] at hx
    have hil : i < len := by
      rcases Nat.lt_or_ge i len with h | h
      · exact h
      · rw [List.getElem?_eq_none (by simpa using h)] at hx; cases hx
    rw [List.getElem?_eq_getElem (by simpa using hil)] at hx
    simp at hx
    subst hx
    have := Classical.choose_spec (hex ⟨i, hil⟩) j u hu
    rw [addr_plain hs] at this
    exact this
end
end Go.Proofs.YtbidppjhenfjdaaGreatDoor
namespace Go.Proofs.YtbidppjhenfjdaaGreatDoor
open Go.ChangeShapes Go.WideShapes Go.RowKit
set_option linter.unusedVariables false
set_option linter.unusedSimpArgs false

theorem cellsStepA : Tryz.prog.cellsOf 40 = 9 := by kernel_rfl
theorem cellsIntA : Tryz.prog.cellsOf 3 = 1 := by kernel_rfl
theorem cellsStrA : Tryz.prog.cellsOf 9 = 1 := by kernel_rfl
theorem cellsIntsA : Tryz.prog.cellsOf 37 = 1 := by kernel_rfl
theorem cellsBytA : Tryz.prog.cellsOf 38 = 1 := by kernel_rfl
theorem cellsU8A : Tryz.prog.cellsOf 5 = 1 := by kernel_rfl
theorem bytesIntA : Tryz.prog.bytesOf 3 = 8 := by kernel_rfl
theorem bytesU8A : Tryz.prog.bytesOf 5 = 1 := by kernel_rfl
theorem i64_wf {n : Int} (h : (Lit.int .i64 n).wf = true) : I64 n := by
  simp only [Lit.wf, Bool.and_eq_true, decide_eq_true_eq] at h
  have h1 : -9223372036854775808 ≤ n := h.1
  have h2 : n ≤ 9223372036854775807 := h.2
  unfold I64
  omega
theorem u8_wf {n : Int} (h : (Lit.int .u8 n).wf = true) : 0 ≤ n ∧ n < 256 := by
  simp only [Lit.wf, Bool.and_eq_true, decide_eq_true_eq] at h
  have h1 : 0 ≤ n := h.1
  have h2 : n ≤ 255 := h.2
  omega
/-- Bytes out of numbers. -/
def byL (zs : List Int) : ByteArray := ⟨(zs.map fun z => UInt8.ofNat z.toNat).toArray⟩
theorem byL_size (zs : List Int) : (byL zs).size = zs.length := by simp [byL, ByteArray.size]
theorem byL_bytV {zs : List Int} (h : ∀ z ∈ zs, 0 ≤ z ∧ z < 256) : bytV (byL zs) = zs.map fun z => Value.int .u8 z := by
  apply List.ext_getElem
  · rw [bytV_len, byL_size, List.length_map]
  · intro j h1 h2
    rw [bytV_len, byL_size] at h1
    have h3 := bytV_at (d := byL zs) (j := j) (by rw [byL_size]; exact h1)
    rw [List.getElem?_eq_getElem (by rw [bytV_len, byL_size]; exact h1)] at h3
    injection h3 with h3
    rw [h3, List.getElem_map]
    have hz := h zs[j] (List.getElem_mem h1)
    have hb : byt (byL zs) j = zs[j].toNat := by
      unfold byL
      rw [mk_byt]
      rw [List.getElem?_map, List.getElem?_eq_getElem h1]
      simp
      omega
    rw [hb]
    congr 1
    omega
theorem addr_one {w : World} {a : Addr} {v : Value} (h : w.cell? (a.add 0) = some v) : a.spot = none := by
  have := World.cell?_spot h
  simpa [Addr.add] using this
theorem addr_is {a : Addr} (h : a.spot = none) : a = ⟨a.block, a.off, none⟩ := by
  obtain ⟨b, off, spot⟩ := a
  simp at h
  subst h
  rfl
section
variable {H : Type} {enc : TypeId × Value → H} {w : World}
/-- A list of numbers that an argument holds. -/
theorem ints_reads {k : IntKind} {t e : TypeId} {n : Nat} {cs : List Value} {y : DataW H × List MemPlace} (ht : Tryz.prog.underlying t = some (.slice e)) (he : Tryz.prog.underlying e = some (.int k)) (hc : Tryz.prog.cellsOf e = 1) (hb : 1 ≤ Tryz.prog.bytesOf e)
    (h : DataW.trod enc Tryz.prog w 0 (fun _ => true) true n t cs = some y) (hw : (y.1.weights Tryz.prog t).all (· ≤ reachBytes) = true) :
    ∃ (v : Value) (zs : List Int), cs = [v] ∧ SlAt w v zs.length (zs.map fun z => Value.int k z) ∧ (∀ z ∈ zs, (Lit.int k z).wf = true) ∧ zs.length ≤ 140737488351232 := by
  rcases open_ints ht he hc h with ⟨rfl, rfl⟩ | ⟨a, len, cap, zs, rfl, _, hl, hm, hlen, rfl, hat, hwf⟩
  · exact ⟨_, [], rfl, ⟨none, 0, rfl, ⟨fun _ => rfl, fun _ => rfl⟩, fun h => absurd rfl h⟩, fun z hz => (by cases hz), Nat.zero_le _⟩
  · simp at hlen
    have htl : (zs.take len).length = len := by rw [List.length_take]; omega
    refine ⟨_, zs.take len, rfl, ?_, fun z hz => hwf z (List.mem_of_mem_take hz), ?_⟩
    · rw [htl]
      refine ⟨some a, cap, rfl, ⟨fun h0 => by rw [h0]; simp, fun h => (by cases h)⟩, fun h0 => ?_⟩
      have hsp := addr_one (hat 0 (by omega))
      refine ⟨a.block, a.off, congrArg some (addr_is hsp), fun i u hu => ?_⟩
      have hi : i < len := by
        have := (List.getElem?_eq_some_iff.1 hu).1
        rw [List.length_map, htl] at this
        exact this
      have h1 := hat i (by omega)
      rw [addr_plain hsp] at h1
      rw [h1, ← hu, List.getElem?_map, List.getElem?_take_of_lt hi, List.getElem?_eq_getElem (by omega)]
      simp [List.getD, List.getElem?_eq_getElem (show i < zs.length by omega)]
    · rw [htl]
      simp only [DataW.weights, ht, List.all_cons, Bool.and_eq_true, decide_eq_true_eq] at hw
      have h1 := hw.1
      have h2 : (lits (H := H) k (zs.take len)).length = len := by simp [lits]; omega
      rw [h2] at h1
      have h3 : len * 1 ≤ (len + (lits (H := H) k (zs.drop len)).length) * Tryz.prog.bytesOf e := Nat.mul_le_mul (by omega) hb
      unfold reachBytes at h1
      omega
set_option maxRecDepth 100000 in
theorem step_reads {n : Nat} {cs : List Value} {y : DataW H × List MemPlace} (h : DataW.trod enc Tryz.prog w 0 (fun _ => true) true n 40 cs = some y) (hw : (y.1.weights Tryz.prog 40).all (· ≤ reachBytes) = true) :
    ∃ (s : Stp) (dv bv : Value), cs = (stV s dv bv).toList ∧ StRd w s dv bv ∧ StpOk s ∧ StpFit s := by
  obtain ⟨xs, m, _, rfl, hl, hlen, hf⟩ := DataW.trod_struct Tryz.underlying40 h
  rw [cellsStepA] at hl
  match xs, hlen, cs, hl with
  | [y0, y1, y2, y3, y4, y5, y6, y7, y8], _, [c0, c1, c2, c3, c4, c5, c6, c7, c8], _ =>
    have g0 := hf 0 _ rfl
    have g1 := hf 1 _ rfl
    have g2 := hf 2 _ rfl
    have g3 := hf 3 _ rfl
    have g4 := hf 4 _ rfl
    have g5 := hf 5 _ rfl
    have g6 := hf 6 _ rfl
    have g7 := hf 7 _ rfl
    have g8 := hf 8 _ rfl
    simp [cellsIntA, cellsStrA, cellsIntsA, cellsBytA] at g0 g1 g2 g3 g4 g5 g6 g7 g8
    simp only [DataW.weights, Tryz.underlying40, List.map_cons, List.map_nil, DataW.weightsEach, List.all_append, Bool.and_eq_true] at hw
    obtain ⟨w0, w1, w2, w3, w4, w5, w6, w7, w8, _⟩ := hw
    obtain ⟨n0, e0, _, k0⟩ := DataW.trod_int Tryz.underlying3 g0
    obtain ⟨n1, e1, _, k1⟩ := DataW.trod_int Tryz.underlying3 g1
    obtain ⟨n2, e2, _, k2⟩ := DataW.trod_int Tryz.underlying3 g2
    obtain ⟨n3, e3, _, k3⟩ := DataW.trod_int Tryz.underlying3 g3
    obtain ⟨n4, e4, _, k4⟩ := DataW.trod_int Tryz.underlying3 g4
    obtain ⟨n5, e5, _, k5⟩ := DataW.trod_int Tryz.underlying3 g5
    obtain ⟨s6, e6, rfl, k6⟩ := DataW.trod_string Tryz.underlying9 g6
    obtain ⟨v7, z7, e7, s7, k7, r7⟩ := ints_reads Tryz.underlying37 Tryz.underlying3 cellsIntA (by rw [bytesIntA]; decide) g7 w7
    obtain ⟨v8, z8, e8, s8, k8, r8⟩ := ints_reads Tryz.underlying38 Tryz.underlying5 cellsU8A (by rw [bytesU8A]; decide) g8 w8
    simp at e0 e1 e2 e3 e4 e5 e6 e7 e8
    subst e0; subst e1; subst e2; subst e3; subst e4; subst e5; subst e6; subst e7; subst e8
    have hb8 : ∀ z ∈ z8, 0 ≤ z ∧ z < 256 := fun z hz => u8_wf (k8 z hz)
    refine ⟨⟨n0, n1, n2, n3, n4, n5, s6, z7, byL z8⟩, c7, c8, rfl, ⟨s7, ?_⟩, ⟨i64_wf k0, i64_wf k1, i64_wf k2, i64_wf k3, i64_wf k4, i64_wf k5, fun z hz => i64_wf (k7 z hz)⟩, ?_, ?_, ?_⟩
    · show SlAt w c8 (byL z8).size (bytV (byL z8))
      rw [byL_size, byL_bytV hb8]
      exact s8
    · simp only [DataW.weights, List.all_cons, Bool.and_eq_true, decide_eq_true_eq] at w6
      have := w6.1
      unfold reachBytes at this
      have e : s6.data.toList.length = s6.size := by rw [Array.length_toList]; rfl
      show s6.size ≤ _
      omega
    · show (byL z8).size ≤ _
      rw [byL_size]
      omega
    · show z7.length ≤ _
      omega
set_option maxRecDepth 100000 in
/-- AN ARGUMENT THAT IS A SCRIPT, opened. -/
theorem open_steps {v : Value} {d : DataW H} {ps : List MemPlace} {r : Reach} {b0 : Nat} (hv : Value.okWide Tryz.prog w r b0 23 v) (h : DataW.Trod enc Tryz.prog w 0 (fun _ => true) true 23 v d ps) (hw : (d.weights Tryz.prog 23).all (· ≤ reachBytes) = true) :
    ∃ L : List Stp, Steps w v L ∧ ∀ s ∈ L, StpOk s ∧ StpFit s := by
  obtain ⟨a0, len, cap, rfl⟩ := okWide_slice Tryz.underlying23 hv
  obtain ⟨fuel, hf⟩ := h
  rcases Go.Deep.open_slice Tryz.underlying23 hf with ⟨hcs, _⟩ | ⟨a, len', cap', m, n, D, Pl, hcs, _, hl, _, hm, hx, hi⟩
  · simp [Value.cells] at hcs
    obtain ⟨rfl, rfl, rfl⟩ := hcs
    exact ⟨[], ⟨none, 0, rfl, fun h => absurd rfl h, (fun _ => rfl), Nat.le_refl _⟩, fun s hs => (by cases hs)⟩
  · simp [Value.cells] at hcs
    obtain ⟨rfl, rfl, rfl⟩ := hcs
    rw [cellsStepA] at hi
    have hm' : m = cap := by simpa using hm
    subst hm'
    injection hx with hx _
    subst hx
    have hwd : ∀ i, i < len → ((D i).weights Tryz.prog 40).all (· ≤ reachBytes) = true := by
      intro i hi
      simp only [DataW.weights, Tryz.underlying23, List.all_cons, List.all_append, Bool.and_eq_true] at hw
      have h1 := hw.2.1
      clear hw
      have key : ∀ (l : List (DataW H)), (DataW.weightsAll Tryz.prog 40 l).all (· ≤ reachBytes) = true → ∀ d ∈ l, (d.weights Tryz.prog 40).all (· ≤ reachBytes) = true := by
        intro l
        induction l with
        | nil => intro _ d hd; cases hd
        | cons x l ih =>
          intro h d hd
          simp only [DataW.weightsAll, List.all_append, Bool.and_eq_true] at h
          rcases List.mem_cons.1 hd with rfl | hd
          · exact h.1
          · exact ih h.2 d hd
      exact key _ h1 _ (List.mem_map.2 ⟨i, List.mem_range.2 hi, rfl⟩)
    have hex : ∀ i : Fin len, ∃ x : Stp × Value × Value, StRd w x.1 x.2.1 x.2.2 ∧ (StpOk x.1 ∧ StpFit x.1) ∧ ∀ j u, (stV x.1 x.2.1 x.2.2)[j]? = some u → w.cell? (a.add (i.val * 9 + j)) = some u := fun i => by
      obtain ⟨cs', hcell, htrod⟩ := hi i.val (by omega)
      obtain ⟨s, dv, bv, rfl, h1, h2, h3⟩ := step_reads htrod (hwd i.val i.isLt)
      obtain ⟨_, hlen, hat⟩ := World.cells?_some hcell
      refine ⟨(s, dv, bv), h1, ⟨h2, h3⟩, fun j u hu => ?_⟩
      have hj : j < 9 := (Array.getElem?_eq_some_iff.1 hu).1
      rw [← Go.Deep.add_add, hat j hj, Array.getElem?_toList, hu]
    have hspot : len ≠ 0 → a.spot = none := fun h0 => by
      obtain ⟨x, _, _, hc⟩ := hex ⟨0, by omega⟩
      have := hc 0 _ rfl
      exact addr_one this
    refine ⟨(List.finRange len).map fun i => (Classical.choose (hex i)).1, ⟨some a, m, by simp, fun h0 => ?_, (fun h => by cases h), by simpa using hl⟩, fun s hs => ?_⟩
    · have hl0 : len ≠ 0 := by simpa using h0
      have hs := hspot hl0
      refine ⟨a.block, a.off, congrArg some (addr_is hs), fun i x hx => ?_⟩
      rw [List.getElem?_map] at hx
      have hil : i < len := by
        rcases Nat.lt_or_ge i len with h | h
        · exact h
        · rw [List.getElem?_eq_none (by simpa using h)] at hx; cases hx
      rw [List.getElem?_eq_getElem (by simpa using hil)] at hx
      simp at hx
      subst hx
      obtain ⟨h1, _, h3⟩ := Classical.choose_spec (hex ⟨i, hil⟩)
      refine ⟨_, _, h1, fun j u hu => ?_⟩
      have := h3 j u hu
      rw [addr_plain hs] at this
      exact this
    · obtain ⟨i, _, rfl⟩ := List.mem_map.1 hs
      exact (Classical.choose_spec (hex i)).2.1
set_option maxRecDepth 100000 in
/-- AN ARGUMENT THAT IS A LIST OF NUMBERS, opened. -/
theorem open_nums {v : Value} {d : DataW H} {ps : List MemPlace} {r : Reach} {b0 : Nat} (hv : Value.okWide Tryz.prog w r b0 37 v) (h : DataW.Trod enc Tryz.prog w 0 (fun _ => true) true 37 v d ps) (hw : (d.weights Tryz.prog 37).all (· ≤ reachBytes) = true) :
    ∃ zs : List Int, SlAt w v zs.length (intsV zs) := by
  obtain ⟨a0, len, cap, rfl⟩ := okWide_slice Tryz.underlying37 hv
  obtain ⟨fuel, hf⟩ := h
  obtain ⟨v', zs, e, h1, _⟩ := ints_reads (y := (d, ps)) Tryz.underlying37 Tryz.underlying3 cellsIntA (by rw [bytesIntA]; decide) hf hw
  have e' : Value.slice a0 len cap = v' := by simpa [Value.cells] using e
  subst e'
  exact ⟨zs, h1⟩
end
end Go.Proofs.YtbidppjhenfjdaaGreatDoor
namespace Go.Proofs.YtbidppjhenfjdaaGreatDoor
open Go.RowKit
set_option linter.unusedVariables false
set_option linter.unusedSimpArgs false

theorem info_intL : (Tryz.prog.info? 3).map (fun i => (i.zero, i.size, i.bytes)) = some (some (.int .i64 0), 1, 8) := by kernel_rfl
theorem info_u8L : (Tryz.prog.info? 5).map (fun i => (i.zero, i.size, i.bytes)) = some (some (.int .u8 0), 1, 1) := by kernel_rfl
theorem partsL {P : Program} {t : TypeId} {z : Value} {n b : Nat} (h : (P.info? t).map (fun i => (i.zero, i.size, i.bytes)) = some (some z, n, b)) : ∃ i, P.info? t = some i ∧ i.zero = some z ∧ i.size = n ∧ i.bytes = b := by
  cases he : P.info? t with
  | none => rw [he] at h; cases h
  | some i =>
    rw [he] at h
    simp at h
    exact ⟨i, rfl, h.1, h.2.1, h.2.2⟩
theorem own_geL {w : World} {base sz n : Nat} {e : TypeId} {v : Value} {xs : List Value} (h : w.ownsRow base e sz v n xs) : ∀ q ∈ v.ownBlock.toList, base ≤ q := by
  intro q hq
  rcases h.2 with ⟨rfl, _⟩ | ⟨g, cap, cur, rfl, hb, _⟩
  · simp [Value.ownBlock] at hq
  · simp [Value.ownBlock] at hq
    omega
theorem own_lowL {w : World} {base base' sz n : Nat} {e : TypeId} {v : Value} {xs : List Value} (h : w.ownsRow base e sz v n xs) (hb : base' ≤ base) : w.ownsRow base' e sz v n xs := by
  refine ⟨h.1, ?_⟩
  rcases h.2 with h0 | ⟨g, cap, cur, e1, e2, e3⟩
  · exact .inl h0
  · exact .inr ⟨g, cap, cur, e1, Nat.le_trans hb e2, e3⟩
theorem own_emptyL (w : World) (e : TypeId) (sz base : Nat) (hb : base ≤ w.heap.size) : (w.alloc (.cells #[] e)).ownsRow base e sz (.slice (some ⟨w.heap.size, 0, none⟩) 0 0) 0 [] :=
  ⟨by simp, .inr ⟨w.heap.size, 0, #[], rfl, hb, World.alloc_heap_new w _, Nat.le_refl _, Nat.zero_le _, by simp, by simp⟩⟩
theorem own_ltL {w : World} {base sz n g m c : Nat} {e : TypeId} {xs : List Value} (h : w.ownsRow base e sz (.slice (some ⟨g, 0, none⟩) m c) n xs) : g < w.heap.size := by
  rcases h.2 with ⟨h, _⟩ | ⟨g', cap, cur, e, _, hg, _⟩
  · cases h
  · injection e with e1 e2 e3
    injection e1 with e1
    injection e1 with e4 e5 e6
    subst e4
    exact lt_of_block hg
/-- 'append([]T{}, x...)'. -/
theorem app_sl (T E : TypeId) (z : Value) (by_ : Nat) (hT : Tryz.prog.underlying T = some (.slice E)) (hi : (Tryz.prog.info? E).map (fun i => (i.zero, i.size, i.bytes)) = some (some z, 1, by_)) (hz : z.cells.size = 1) (hby : by_ ≤ 8)
    {u0 u : World} (kc : Keep [] u0 u) {v0 src : Value} {nd : Nat} {xs : List Value} (hown : u.ownsRow u0.heap.size E 1 v0 0 []) (hsl : SlAt u0 src nd xs) (hl : xs.length = nd) (h1 : ∀ x ∈ xs, x.oneCell' = true) (hnd : nd ≤ 1000000) :
    ∃ v3 u', (Builtin.append_ #[T, T] T #[v0, src]).run Tryz.prog u = .ok v3 u' ∧ Keep [] u0 u' ∧ u'.ownsRow u0.heap.size E 1 v3 nd xs ∧ Keep v0.ownBlock.toList u u' := by
  obtain ⟨i0, h2, h3, h4, h5⟩ := partsL hi
  have hb : (0 + nd) * by_ ≤ 140737488355328 := Nat.le_trans (Nat.mul_le_mul_left _ hby) (by omega)
  obtain ⟨v3, u', hrun, hp⟩ := run_append_sl (P := Tryz.prog) u u0.heap.size T T E i0 z 1 by_ hT h2 h3 h4 h5 hz (by decide) v0 0 [] hown src nd xs (hsl.keep0 kc) (by omega) h1 (by unfold maxLen; omega) hb kc.size
  refine ⟨v3, u', hrun, kc.trans hp.2.1 (fun q hq => .inr (own_geL hown q hq)), ?_, hp.2.1⟩
  have := hp.1
  rw [Nat.zero_add, List.nil_append] at this
  exact this
/-- 'append(.., mark)'. -/
theorem app_mark (T E : TypeId) (z m : Value) (by_ : Nat) (hT : Tryz.prog.underlying T = some (.slice E)) (hi : (Tryz.prog.info? E).map (fun i => (i.zero, i.size, i.bytes)) = some (some z, 1, by_)) (hz : z.cells.size = 1) (hby : by_ ≤ 8) (hm : m.oneCell' = true)
    {u0 u : World} (kc : Keep [] u0 u) {v3 : Value} {nd b4 : Nat} {xs : List Value} (hown : u.ownsRow u0.heap.size E 1 v3 nd xs) (hb4 : u.heap[b4]? = some (.cells #[m] E (0, 0))) (hnd : nd ≤ 1000000) :
    ∃ g cap u', (Builtin.append_ #[T, T] T #[v3, .slice (some ⟨b4, 0, none⟩) 1 1]).run Tryz.prog u = .ok (.slice (some ⟨g, 0, none⟩) (nd + 1) cap) u' ∧ Keep [] u0 u' ∧ u'.ownsRow u0.heap.size E 1 (.slice (some ⟨g, 0, none⟩) (nd + 1) cap) (nd + 1) (xs ++ [m]) ∧ nd + 1 ≤ cap ∧ u0.heap.size ≤ g := by
  obtain ⟨i0, h2, h3, h4, h5⟩ := partsL hi
  have hb : (nd + 1) * by_ ≤ 140737488355328 := Nat.le_trans (Nat.mul_le_mul_left _ hby) (by omega)
  obtain ⟨v5, u', hrun, hp⟩ := run_append_mine (P := Tryz.prog) u u0.heap.size T T E i0 z 1 by_ hT h2 h3 h4 h5 hz (by decide) v3 nd xs hown ⟨b4, 0, none⟩ 1 1 [m] rfl (fun j w hw => by
    have hj : j = 0 := by have := (List.getElem?_eq_some_iff.1 hw).1; simpa using this
    subst hj
    have := cell_of_block hb4 0
    simp at hw
    subst hw
    exact this) (by simp [hm]) (by unfold maxLen; omega) hb kc.size
  have hk := kc.trans hp.2.1 (fun q hq => .inr (own_geL hown q hq))
  have ho := hp.1
  rcases ho.2 with ⟨_, h0⟩ | ⟨g, cap, cur, rfl, hg, hgg, hc, hrest⟩
  · omega
  · exact ⟨g, cap, u', hrun, hk, ho, hc, hg⟩
set_option maxRecDepth 100000 in
theorem cut_mark (sz : Nat) (T : TypeId) (hT : Tryz.prog.underlying T = some (.slice (Tryz.prog.elem T))) (he : (sizeOf (Tryz.prog.elem T)).run Tryz.prog = fun w => .ok sz w) (g nd cap : Nat) (hc : nd + 1 ≤ cap) (W : World) :
    (Instr.slice T (.slice (some ⟨g, 0, none⟩) (nd + 1) cap) none (some (.int .i64 (nd : Nat))) none).run Tryz.prog W = .ok (.slice (some ⟨g, 0, none⟩) nd cap) W := by
  rw [run_slice_any (P := Tryz.prog) (w := W) T (some ⟨g, 0, none⟩) (nd + 1) cap hT]
  have h1 : nd ≤ cap := by omega
  have hb : (Instr.sliceBounds true (nd + 1) cap none (some (.int .i64 (nd : Nat))) none).run Tryz.prog W = .ok (0, nd, cap) W := by simp [Instr.sliceBounds, run_sliceBound, h1]
  rw [hb, he]
  simp only [Result.andThen, sliced]
  by_cases h : cap - 0 = 0
  · omega
  · simp [h, Addr.add]
set_option maxRecDepth 100000 in
theorem sizeInts : (sizeOf (Tryz.prog.elem 37)).run Tryz.prog = fun w => .ok 1 w := by funext w; kernel_rfl
set_option maxRecDepth 100000 in
theorem sizeByts : (sizeOf (Tryz.prog.elem 38)).run Tryz.prog = fun w => .ok 1 w := by funext w; kernel_rfl
set_option maxRecDepth 100000 in
theorem sizeStps : (sizeOf (Tryz.prog.elem 23)).run Tryz.prog = fun w => .ok 9 w := by funext w; kernel_rfl
/-- A step whose lists are lent: marks stand behind them. -/
def LRow (W : World) (s : Stp) (cs : List Value) (bs : List Nat) : Prop := ∃ h c h' c', cs = (stV s (.slice (some ⟨h, 0, none⟩) s.draws.length c) (.slice (some ⟨h', 0, none⟩) s.data.size c')).toList ∧ bs = [h, h'] ∧ s.draws.length + 1 ≤ c ∧ s.data.size + 1 ≤ c' ∧
  W.ownsRow 0 3 1 (.slice (some ⟨h, 0, none⟩) (s.draws.length + 1) c) (s.draws.length + 1) (intsV s.draws ++ [.int .i64 901]) ∧ W.ownsRow 0 5 1 (.slice (some ⟨h', 0, none⟩) (s.data.size + 1) c') (s.data.size + 1) (bytV s.data ++ [.int .u8 171])
def LRows (W : World) : List Stp → List Value → List Nat → Prop
  | [], cs, bs => cs = [] ∧ bs = []
  | s :: L, cs, bs => ∃ c r b q, cs = c ++ r ∧ bs = b ++ q ∧ LRow W s c b ∧ LRows W L r q
theorem LRow.keep {W W' : World} {s : Stp} {cs : List Value} {bs K : List Nat} (h : LRow W s cs bs) (k : Keep K W W') (hb : ∀ b ∈ bs, b ∉ K) : LRow W' s cs bs := by
  obtain ⟨g, c, g', c', rfl, rfl, h1, h2, h3, h4⟩ := h
  exact ⟨g, c, g', c', rfl, rfl, h1, h2, k.owns h3 (fun x hx => by simp [Value.ownBlock] at hx; subst hx; exact hb _ (by simp)), k.owns h4 (fun x hx => by simp [Value.ownBlock] at hx; subst hx; exact hb _ (by simp))⟩
theorem LRows.keep {W W' : World} {K : List Nat} (k : Keep K W W') : ∀ {L : List Stp} {cs : List Value} {bs : List Nat}, LRows W L cs bs → (∀ b ∈ bs, b ∉ K) → LRows W' L cs bs := by
  intro L
  induction L with
  | nil => intro cs bs h _; exact h
  | cons s L ih =>
    intro cs bs h hb
    obtain ⟨c, r, b, q, rfl, rfl, h1, h2⟩ := h
    exact ⟨c, r, b, q, rfl, rfl, h1.keep k (fun x hx => hb x (by simp [hx])), ih h2 (fun x hx => hb x (by simp [hx]))⟩
theorem LRows.snoc {W : World} {s : Stp} {c : List Value} {b : List Nat} (h1 : LRow W s c b) : ∀ {L : List Stp} {cs : List Value} {bs : List Nat}, LRows W L cs bs → LRows W (L ++ [s]) (cs ++ c) (bs ++ b) := by
  intro L
  induction L with
  | nil =>
    rintro cs bs ⟨rfl, rfl⟩
    exact ⟨c, [], b, [], by simp, by simp, h1, rfl, rfl⟩
  | cons s' L ih =>
    rintro cs bs ⟨c', r, b', q, rfl, rfl, h2, h3⟩
    exact ⟨c', r ++ c, b', q ++ b, by simp, by simp, h2, ih h3⟩
theorem LRow.not_ty {W : World} {s : Stp} {cs : List Value} {bs : List Nat} (h : LRow W s cs bs) {b : Nat} {c : Array Value} {t : TypeId} {f : Nat × Nat} (hb : W.heap[b]? = some (.cells c t f)) (h1 : t ≠ 3) (h2 : t ≠ 5) : b ∉ bs := by
  obtain ⟨g, c1, g', c2, rfl, rfl, _, _, h3, h4⟩ := h
  intro hm
  simp at hm
  rcases hm with rfl | rfl
  · rcases h3.2 with ⟨e, _⟩ | ⟨_, _, _, e, _, hg, _⟩
    · cases e
    · injection e with e1 e2 e3
      injection e1 with e1
      injection e1 with e4 e5 e6
      subst e4
      have e := Option.some.inj (hb.symm.trans hg)
      injection e with _ e _
      exact h1 e
  · rcases h4.2 with ⟨e, _⟩ | ⟨_, _, _, e, _, hg, _⟩
    · cases e
    · injection e with e1 e2 e3
      injection e1 with e1
      injection e1 with e4 e5 e6
      subst e4
      have e := Option.some.inj (hb.symm.trans hg)
      injection e with _ e _
      exact h2 e
theorem LRows.not_ty {W : World} : ∀ {L : List Stp} {cs : List Value} {bs : List Nat}, LRows W L cs bs → ∀ {b : Nat} {c : Array Value} {t : TypeId} {f : Nat × Nat}, W.heap[b]? = some (.cells c t f) → t ≠ 3 → t ≠ 5 → b ∉ bs := by
  intro L
  induction L with
  | nil => rintro cs bs ⟨_, rfl⟩ b c t f _ _ _ h; cases h
  | cons s L ih =>
    rintro cs bs ⟨c1, r, b1, q, rfl, rfl, h1, h2⟩ b c t f hb ht1 ht2 hm
    rcases List.mem_append.1 hm with h | h
    · exact h1.not_ty hb ht1 ht2 h
    · exact ih h2 hb ht1 ht2 h
theorem LRow.rd {W : World} {s : Stp} {cs : List Value} {bs : List Nat} (h : LRow W s cs bs) : ∃ dv bv, cs = (stV s dv bv).toList ∧ StRd W s dv bv := by
  obtain ⟨g, c, g', c', rfl, rfl, h1, h2, h3, h4⟩ := h
  refine ⟨_, _, rfl, ⟨some ⟨g, 0, none⟩, c, rfl, ⟨fun h0 => ?_, fun h => by cases h⟩, fun _ => ⟨g, 0, rfl, fun i u hu => ?_⟩⟩, ⟨some ⟨g', 0, none⟩, c', rfl, ⟨fun h0 => ?_, fun h => by cases h⟩, fun _ => ⟨g', 0, rfl, fun i u hu => ?_⟩⟩⟩
  · apply List.eq_nil_of_length_eq_zero; simp [intsV, h0]
  · obtain ⟨b, off, cap, e, hc⟩ := (SlAt.of_owns h3).at_ (by omega)
    injection e with e1 e2 e3
    injection e1 with e1
    injection e1 with e4 e5 e6
    subst e4
    subst e5
    exact hc i u (by rw [List.getElem?_append_left (List.getElem?_eq_some_iff.1 hu).1]; exact hu)
  · apply List.eq_nil_of_length_eq_zero; rw [bytV_len, h0]
  · obtain ⟨b, off, cap, e, hc⟩ := (SlAt.of_owns h4).at_ (by omega)
    injection e with e1 e2 e3
    injection e1 with e1
    injection e1 with e4 e5 e6
    subst e4
    subst e5
    exact hc i u (by rw [List.getElem?_append_left (List.getElem?_eq_some_iff.1 hu).1]; exact hu)
theorem LRow.len {W : World} {s : Stp} {cs : List Value} {bs : List Nat} (h : LRow W s cs bs) : cs.length = 9 := by
  obtain ⟨_, _, _, _, rfl, _⟩ := h; rfl
theorem LRows.at_ {W : World} : ∀ {L : List Stp} {cs : List Value} {bs : List Nat}, LRows W L cs bs → ∀ (k : Nat) (s : Stp), L[k]? = some s → ∃ c b, LRow W s c b ∧ ∀ j u, c[j]? = some u → cs[k * 9 + j]? = some u := by
  intro L
  induction L with
  | nil => rintro cs bs _ k s hs; simp at hs
  | cons s' L ih =>
    rintro cs bs ⟨c, r, b, q, rfl, rfl, h1, h2⟩ k s hs
    have hl := h1.len
    cases k with
    | zero =>
      simp at hs
      subst hs
      refine ⟨c, b, h1, fun j u hj => ?_⟩
      have hj9 : j < 9 := by rw [← hl]; exact (List.getElem?_eq_some_iff.1 hj).1
      rw [List.getElem?_append_left (by rw [hl]; omega)]
      simpa using hj
    | succ k =>
      obtain ⟨c1, b1, hr, hu⟩ := ih h2 k s (by simpa using hs)
      refine ⟨c1, b1, hr, fun j u hj => ?_⟩
      rw [List.getElem?_append_right (by omega), hl, show (k + 1) * 9 + j - 9 = k * 9 + j by omega]
      exact hu j u hj
def mark902 : List Value := [.int .i64 902, .int .i64 0, .int .i64 0, .int .i64 0, .int .i64 0, .int .i64 0, .string ⟨#[]⟩, .slice none 0 0, .slice none 0 0]
/-- Lent steps. -/
def LentP (W : World) (v : Value) (L : List Stp) : Prop := ∃ g cap cs bs, v = .slice (some ⟨g, 0, none⟩) L.length cap ∧ L.length + 1 ≤ cap ∧ LRows W L cs bs ∧ W.ownsRow 0 40 9 (.slice (some ⟨g, 0, none⟩) (L.length + 1) cap) (L.length + 1) (cs ++ mark902)
theorem LentP.keep0 {W W' : World} {v : Value} {L : List Stp} (h : LentP W v L) (k : Keep [] W W') : LentP W' v L := by
  obtain ⟨g, cap, cs, bs, rfl, h1, h2, h3⟩ := h
  exact ⟨g, cap, cs, bs, rfl, h1, h2.keep k (by simp), k.owns h3 (by simp)⟩
theorem LentP.cells {W : World} {v : Value} {L : List Stp} (h : LentP W v L) : ∃ g cap cs bs, v = .slice (some ⟨g, 0, none⟩) L.length cap ∧ L.length + 1 ≤ cap ∧ LRows W L cs bs ∧ (∀ i u, (cs ++ mark902)[i]? = some u → W.cell? ⟨g, i, none⟩ = some u) := by
  obtain ⟨g, cap, cs, bs, rfl, h1, h2, h3⟩ := h
  refine ⟨g, cap, cs, bs, rfl, h1, h2, fun i u hu => ?_⟩
  obtain ⟨b, off, cap', e, hc⟩ := (SlAt.of_owns h3).at_ (by omega)
  injection e with e1 e2 e3
  injection e1 with e1
  injection e1 with e4 e5 e6
  subst e4
  subst e5
  have := hc i u hu
  rwa [Nat.zero_add] at this
theorem LentP.steps {W : World} {v : Value} {L : List Stp} (h : LentP W v L) : Steps W v L := by
  obtain ⟨g, cap, cs, bs, rfl, h1, h2, h3⟩ := h.cells
  refine ⟨some ⟨g, 0, none⟩, cap, rfl, fun _ => ⟨g, 0, rfl, fun k s hk => ?_⟩, (fun h => by cases h), by omega⟩
  obtain ⟨c, b, hr, hu⟩ := h2.at_ k s hk
  obtain ⟨dv, bv, rfl, hrd⟩ := hr.rd
  refine ⟨dv, bv, hrd, fun j u hj => ?_⟩
  have := hu j u (by simpa using hj)
  rw [Nat.zero_add]
  exact h3 _ _ (by rw [List.getElem?_append_left (List.getElem?_eq_some_iff.1 this).1]; exact this)

def LentPost (W : World) (L : List Stp) (e : Ending) (W' : World) : Prop := ∃ v', e = .returned v' ∧ Keep [] W W' ∧ LentP W' v' L
set_option maxHeartbeats 32000000 in
set_option maxRecDepth 100000 in
theorem lent_any (v : Value) (L : List Stp) (W : World) (h : Steps W v L) (hf : Few L) :
    Calls Tryz.prog 11 #[v] W (LentPost W L) := by
  have HST := Lib.hid h
  have HF := Lib.hid hf
  obtain ⟨ad, cap, hv⟩ := h.slice
  subst hv
  clear h hf
  obtain ⟨n, hnl⟩ : ∃ n, n = L.length := ⟨_, rfl⟩
  rw [← hnl] at HST ⊢
  have HN := Lib.hid hnl
  clear hnl
  go_enter Tryz.func11, Tryz.ntmps11
  go_upto_region 3 with (fail)
  go_loopw [3, 4] (fun xv iv wr => ∃ (k : Nat) (cs : List Value) (bs : List Nat), iv = .int .i64 k ∧ k ≤ n ∧ Keep [] W wr ∧ wr.ownsRow W.heap.size 40 9 xv k cs ∧ LRows wr (L.take k) cs bs) (fun _ iv _ => n - (intOf iv).toNat)
  case atStart => exact ⟨0, [], [], rfl, Nat.zero_le _, Keep.refl _ _, World.ownsRow_nil _ _ _ _, rfl, rfl⟩
  case round =>
    rename World => wr
    obtain ⟨k, cs, bs, rfl, hk, hkr, hown, hrows⟩ := hrel
    have HKR := Lib.hid hkr
    have HOWN := Lib.hid hown
    have HROWS := Lib.hid hrows
    have hn200 : n ≤ 200 := by have := HF.out.1; have := HN.out; omega
    clear hkr hown hrows
    by_cases hlt : k < n
    · have HLT := Lib.hid hlt
      have g1 := dec_lt_t (show (k : Int) < (n : Int) by omega)
      have g2 := dec_ltn_t hlt
      have hkL : k < L.length := by rw [← HN.out]; exact hlt
      obtain ⟨gb, off, cp, e, hel⟩ := Steps.elem (by have := HST.out.keep0 HKR.out; exact this) (by omega)
      injection e with e1 e2 e3
      subst e1
      clear e2 e3
      obtain ⟨ad1, cap1, ad2, cap2, hrd, hcl⟩ := hel k hkL
      have HTK := Lib.hid (show L.take (k + 1) = L.take k ++ [L[k]] from List.take_succ_eq_append_getElem hkL)
      have hfw := HF.out.2.1 _ (List.getElem_mem hkL)
      generalize L[k] = s at hrd hcl HTK hfw
      have c0 : wr.cell? ⟨gb, off + k * 9, none⟩ = some (.int .i64 s.kind) := hcl 0 _ rfl
      have c1 : wr.cell? ⟨gb, off + k * 9 + 1, none⟩ = some (.int .i64 s.site) := hcl 1 _ rfl
      have c2 : wr.cell? ⟨gb, off + k * 9 + 2, none⟩ = some (.int .i64 s.peer) := hcl 2 _ rfl
      have c3 : wr.cell? ⟨gb, off + k * 9 + 3, none⟩ = some (.int .i64 s.unit) := hcl 3 _ rfl
      have c4 : wr.cell? ⟨gb, off + k * 9 + 4, none⟩ = some (.int .i64 s.at_) := hcl 4 _ rfl
      have c5 : wr.cell? ⟨gb, off + k * 9 + 5, none⟩ = some (.int .i64 s.n) := hcl 5 _ rfl
      have c6 : wr.cell? ⟨gb, off + k * 9 + 6, none⟩ = some (.string s.text) := hcl 6 _ rfl
      have c7 : wr.cell? ⟨gb, off + k * 9 + 7, none⟩ = some (.slice ad1 s.draws.length cap1) := hcl 7 _ rfl
      have c8 : wr.cell? ⟨gb, off + k * 9 + 8, none⟩ = some (.slice ad2 s.data.size cap2) := hcl 8 _ rfl
      have HRD := Lib.hid hrd
      obtain ⟨nd, hnd⟩ : ∃ nd, nd = s.draws.length := ⟨_, rfl⟩
      obtain ⟨nb, hnb⟩ : ∃ nb, nb = s.data.size := ⟨_, rfl⟩
      rw [← hnd] at c7 HRD
      rw [← hnb] at c8 HRD
      have hd400 : nd ≤ 400 := by have := hfw.2.2; omega
      have hb30 : nb ≤ 30000 := by have := hfw.2.1; omega
      have HND := Lib.hid hnd
      have HNB := Lib.hid hnb
      clear hel hcl hrd hkL hfw hnd hnb hlt
      go_upto_region 6 with (fail)
      obtain ⟨G, hG⟩ : ∃ G, G = wr.heap.size := ⟨_, rfl⟩
      obtain ⟨w2, hw2⟩ : ∃ w2, w2 = wr.alloc (.cells #[.int .i64 s.kind, .int .i64 s.site, .int .i64 s.peer, .int .i64 s.unit, .int .i64 s.at_, .int .i64 s.n, .string s.text, .slice ad1 nd cap1, .slice ad2 nb cap2] 40) := ⟨_, rfl⟩
      have hk2 : Keep [] wr w2 := by rw [hw2]; exact (Keep.refl _ _).alloc _
      have hb2 : w2.heap[G]? = some (.cells #[.int .i64 s.kind, .int .i64 s.site, .int .i64 s.peer, .int .i64 s.unit, .int .i64 s.at_, .int .i64 s.n, .string s.text, .slice ad1 nd cap1, .slice ad2 nb cap2] 40 (0, 0)) := by rw [hw2, hG]; exact World.alloc_heap_new wr _
      rw [← hw2, ← hG]
      obtain ⟨u0, hu0⟩ : ∃ u0, u0 = w2.drew := ⟨_, rfl⟩
      have hku : Keep [] w2 u0 := by rw [hu0]; exact (Keep.refl _ _).drew
      have HKU := Lib.hid (hk2.trans0 hku)
      have HGG := Lib.hid hG
      have HBG := Lib.hid (hku.at_ hb2 (by simp))
      have CO := Lib.hid (show u0.cell? ⟨G, 7, none⟩ = some (.slice ad1 nd cap1) from cell_of_block HBG.out 7)
      have HSL := Lib.hid (show SlAt u0 (.slice ad1 nd cap1) nd (intsV s.draws) by have h := HRD.out.1.keep0 HKU.out; rw [← HND.out] at h; exact h)
      clear hw2 hG hk2 hb2 hku c0 c1 c2 c3 c4 c5 c6 c7 c8
      go_cut [26] from 16 to 26 (fun s26 wx => s26 = .pointer (some ⟨G, 7, none⟩) ∧ ∃ h5 c5, wx.heap[G]? = some (.cells #[.int .i64 s.kind, .int .i64 s.site, .int .i64 s.peer, .int .i64 s.unit, .int .i64 s.at_, .int .i64 s.n, .string s.text, .slice (some ⟨h5, 0, none⟩) nd c5, .slice ad2 nb cap2] 40 (0, 0)) ∧ Keep [G] u0 wx ∧ nd + 1 ≤ c5 ∧ u0.heap.size ≤ h5 ∧ wx.ownsRow u0.heap.size 3 1 (.slice (some ⟨h5, 0, none⟩) (nd + 1) c5) (nd + 1) (intsV s.draws ++ [.int .i64 901]))
      case first =>
        rename_i J K1 hJ hK1
        have hlen : (intsV s.draws).length = nd := by have := HND.out; simp [intsV]; omega
        have hone : ∀ x ∈ intsV s.draws, x.oneCell' = true := by
          intro x hx
          unfold intsV at hx
          obtain ⟨y, _, rfl⟩ := List.mem_map.1 hx
          rfl
        refine wp_planE 11 (fun w' => Keep [] u0 w') (.take 1 (.take 2 (.take 6 (.take 7 (.take 8 (.fork 0 4 (.fork 3 4 (.force 4 (.force 5 (.take 9 (.take 10 (.force 11 .done))))) (.force 3 (.force 5 (.take 9 (.take 10 (.force 11 .done)))))) (.force 0 (.force 3 (.force 5 (.take 9 (.take 10 (.force 11 .done)))))))))))) (by kernel_rfl) (by kernel_rfl) ?_
        intro Q0 hQ0
        rw [← hu0]
        clear hu0
        refine planE_takeL rfl rfl (.pointer (some ⟨G, 7, none⟩)) (Keep.refl _ _) ?_ ?_
        · intro w' hC K Q hK
          have q1 : w'.cell? ⟨G, 7, none⟩ = some (.slice ad1 nd cap1) := hC.cellv CO.out (by simp)
          go_simp
          exact hK
        try simp only [Act.put, List.setIfInBounds_toArray, List.set_cons_succ, List.set_cons_zero]
        refine planE_takeL rfl rfl (.slice ad1 nd cap1) (Keep.refl _ _) ?_ ?_
        · intro w' hC K Q hK
          have q1 : w'.cell? ⟨G, 7, none⟩ = some (.slice ad1 nd cap1) := hC.cellv CO.out (by simp)
          go_simp
          exact hK
        try simp only [Act.put, List.setIfInBounds_toArray, List.set_cons_succ, List.set_cons_zero]
        refine planE_takeL rfl rfl (.pointer (some ⟨G, 7, none⟩)) (Keep.refl _ _) ?_ ?_
        · intro w' hC K Q hK
          have q1 : w'.cell? ⟨G, 7, none⟩ = some (.slice ad1 nd cap1) := hC.cellv CO.out (by simp)
          go_simp
          exact hK
        try simp only [Act.put, List.setIfInBounds_toArray, List.set_cons_succ, List.set_cons_zero]
        refine planE_takeL rfl rfl (.slice ad1 nd cap1) (Keep.refl _ _) ?_ ?_
        · intro w' hC K Q hK
          have q1 : w'.cell? ⟨G, 7, none⟩ = some (.slice ad1 nd cap1) := hC.cellv CO.out (by simp)
          go_simp
          exact hK
        try simp only [Act.put, List.setIfInBounds_toArray, List.set_cons_succ, List.set_cons_zero]
        refine planE_takeL rfl rfl (.int .i64 (nd : Nat)) (Keep.refl _ _) ?_ ?_
        · intro w' hC K Q hK
          have q1 : w'.cell? ⟨G, 7, none⟩ = some (.slice ad1 nd cap1) := hC.cellv CO.out (by simp)
          go_simp
          exact hK
        try simp only [Act.put, List.setIfInBounds_toArray, List.set_cons_succ, List.set_cons_zero]
        refine planE_fork ?_ ?_
        · skip
          refine planE_forceL rfl rfl fun K hK => ?_
          have ho0 := own_emptyL u0 3 1 u0.heap.size (Keep.refl [] u0).size
          obtain ⟨x1, hx1⟩ : ∃ x, x = u0.alloc (.cells #[] 3) := ⟨_, rfl⟩
          have kx1 : Keep [] u0 x1 := by rw [hx1]; exact (Keep.refl [] u0).alloc _
          go_simp
          rw [← hx1] at ho0 ⊢
          clear hx1
          refine hK _ _ (.inr kx1) ?_
          clear hK K
          have hlt0 : u0.heap.size < x1.heap.size := by have h := own_ltL ho0; simpa using h
          refine planE_fork ?_ ?_
          · skip
            obtain ⟨v3, x2, hap3, kx2, ho3, kz3⟩ := app_sl 37 3 (.int .i64 0) 8 Tryz.underlying37 info_intL rfl (by decide) kx1 ho0 HSL.out (by exact hlen) hone (by omega)
            refine planE_forceL rfl rfl fun K hK => ?_
            refine wp_append_eq _ _ _ rfl rfl rfl hap3 ?_
            refine hK _ _ (.inr kx2) ?_
            clear hK K
            try simp only [Act.put, List.setIfInBounds_toArray, List.set_cons_succ, List.set_cons_zero]
            refine planE_forceL rfl rfl fun K hK => ?_
            have hb4 := World.alloc_heap_new x2 (.cells #[.int .i64 901] 3)
            obtain ⟨x3, hx3⟩ : ∃ x, x = x2.alloc (.cells #[.int .i64 901] 3) := ⟨_, rfl⟩
            have kx3 : Keep [] u0 x3 := by rw [hx3]; exact kx2.alloc _
            have ky3 : Keep [] x2 x3 := by rw [hx3]; exact (Keep.refl _ _).alloc _
            have ho3 := ky3.owns ho3 (by simp)
            go_simp
            rw [← hx3] at hb4 ⊢
            clear hx3
            refine hK _ _ (.inr kx3) ?_
            clear hK K
            have hb4o := hb4
            obtain ⟨h5, c5, x4, hap5, kx4, ho5, hc5, hg5⟩ := app_mark 37 3 (.int .i64 0) (.int .i64 901) 8 Tryz.underlying37 info_intL rfl (by decide) rfl kx3 ho3 hb4 (by omega)
            refine planE_forceL rfl rfl fun K hK => ?_
            refine wp_append_eq _ _ _ rfl rfl rfl hap5 ?_
            refine hK _ _ (.inr kx4) ?_
            clear hK K
            try simp only [Act.put, List.setIfInBounds_toArray, List.set_cons_succ, List.set_cons_zero]
            have hcm := cut_mark 1 37 Tryz.underlying37 sizeInts h5 nd c5 hc5
            refine planE_takeL rfl rfl (.slice (some ⟨h5, 0, none⟩) nd c5) kx4 ?_ ?_
            · intro w' hC K Q hK
              go_simp
              exact hK
            try simp only [Act.put, List.setIfInBounds_toArray, List.set_cons_succ, List.set_cons_zero]
            refine planE_takeL rfl rfl (.pointer (some ⟨G, 7, none⟩)) kx4 ?_ ?_
            · intro w' hC K Q hK
              go_simp
              exact hK
            try simp only [Act.put, List.setIfInBounds_toArray, List.set_cons_succ, List.set_cons_zero]
            have hbG := kx4.at_ HBG.out (by simp)
            have p0 := cell_of_block hbG 7
            have p1 := free_of_block hbG 7
            simp at p0
            refine planE_forceL rfl rfl fun K hK => ?_
            go_simp
            refine hK _ _ (.inl rfl) ?_
            refine hQ0 _ _ ?_
            clear hK K hQ0 Q0
            have hset := block_setCell hbG 7 (.slice (some ⟨h5, 0, none⟩) nd c5)
            have hks : Keep [G] x4 (x4.setCell ⟨G, 7, none⟩ (.slice (some ⟨h5, 0, none⟩) nd c5)) := (Keep.refl _ _).setCell (.inl (by simp)) _
            have hgG : h5 ≠ G := by have := lt_of_block HBG.out; omega
            refine hK1 _ _ (Met.intro (hJ _ _ ?_))
            repeat apply Exists.intro
            refine ⟨?_, rfl⟩
            exact ⟨rfl, h5, c5, hset, ((kx4.mono (L' := [G]) (by simp)).trans hks (fun q hq => .inl hq)), hc5, hg5, hks.owns ho5 (fun q hq => by simp [Value.ownBlock] at hq; subst hq; simpa using hgG)⟩
          · skip
            refine planE_forceL rfl rfl fun K hK => ?_
            have hb4 := World.alloc_heap_new x1 (.cells #[.int .i64 901] 3)
            obtain ⟨x2, hx2⟩ : ∃ x, x = x1.alloc (.cells #[.int .i64 901] 3) := ⟨_, rfl⟩
            have kx2 : Keep [] u0 x2 := by rw [hx2]; exact kx1.alloc _
            have ky2 : Keep [] x1 x2 := by rw [hx2]; exact (Keep.refl _ _).alloc _
            have ho0 := ky2.owns ho0 (by simp)
            go_simp
            rw [← hx2] at hb4 ⊢
            clear hx2
            refine hK _ _ (.inr kx2) ?_
            clear hK K
            have hb4o := hb4
            obtain ⟨v3, x3, hap3, kx3, ho3, kz3⟩ := app_sl 37 3 (.int .i64 0) 8 Tryz.underlying37 info_intL rfl (by decide) kx2 ho0 HSL.out (by exact hlen) hone (by omega)
            have hb4 := kz3.at_ hb4 (by simp [Value.ownBlock]; have := lt_of_block hb4; have h9 := hlt0; omega)
            refine planE_forceL rfl rfl fun K hK => ?_
            refine wp_append_eq _ _ _ rfl rfl rfl hap3 ?_
            refine hK _ _ (.inr kx3) ?_
            clear hK K
            try simp only [Act.put, List.setIfInBounds_toArray, List.set_cons_succ, List.set_cons_zero]
            obtain ⟨h5, c5, x4, hap5, kx4, ho5, hc5, hg5⟩ := app_mark 37 3 (.int .i64 0) (.int .i64 901) 8 Tryz.underlying37 info_intL rfl (by decide) rfl kx3 ho3 hb4 (by omega)
            refine planE_forceL rfl rfl fun K hK => ?_
            refine wp_append_eq _ _ _ rfl rfl rfl hap5 ?_
            refine hK _ _ (.inr kx4) ?_
            clear hK K
            try simp only [Act.put, List.setIfInBounds_toArray, List.set_cons_succ, List.set_cons_zero]
            have hcm := cut_mark 1 37 Tryz.underlying37 sizeInts h5 nd c5 hc5
            refine planE_takeL rfl rfl (.slice (some ⟨h5, 0, none⟩) nd c5) kx4 ?_ ?_
            · intro w' hC K Q hK
              go_simp
              exact hK
            try simp only [Act.put, List.setIfInBounds_toArray, List.set_cons_succ, List.set_cons_zero]
            refine planE_takeL rfl rfl (.pointer (some ⟨G, 7, none⟩)) kx4 ?_ ?_
            · intro w' hC K Q hK
              go_simp
              exact hK
            try simp only [Act.put, List.setIfInBounds_toArray, List.set_cons_succ, List.set_cons_zero]
            have hbG := kx4.at_ HBG.out (by simp)
            have p0 := cell_of_block hbG 7
            have p1 := free_of_block hbG 7
            simp at p0
            refine planE_forceL rfl rfl fun K hK => ?_
            go_simp
            refine hK _ _ (.inl rfl) ?_
            refine hQ0 _ _ ?_
            clear hK K hQ0 Q0
            have hset := block_setCell hbG 7 (.slice (some ⟨h5, 0, none⟩) nd c5)
            have hks : Keep [G] x4 (x4.setCell ⟨G, 7, none⟩ (.slice (some ⟨h5, 0, none⟩) nd c5)) := (Keep.refl _ _).setCell (.inl (by simp)) _
            have hgG : h5 ≠ G := by have := lt_of_block HBG.out; omega
            refine hK1 _ _ (Met.intro (hJ _ _ ?_))
            repeat apply Exists.intro
            refine ⟨?_, rfl⟩
            exact ⟨rfl, h5, c5, hset, ((kx4.mono (L' := [G]) (by simp)).trans hks (fun q hq => .inl hq)), hc5, hg5, hks.owns ho5 (fun q hq => by simp [Value.ownBlock] at hq; subst hq; simpa using hgG)⟩
        · skip
          refine planE_forceL rfl rfl fun K hK => ?_
          have hb4 := World.alloc_heap_new u0 (.cells #[.int .i64 901] 3)
          obtain ⟨x1, hx1⟩ : ∃ x, x = u0.alloc (.cells #[.int .i64 901] 3) := ⟨_, rfl⟩
          have kx1 : Keep [] u0 x1 := by rw [hx1]; exact (Keep.refl [] u0).alloc _
          have ky1 : Keep [] u0 x1 := by rw [hx1]; exact (Keep.refl _ _).alloc _
          go_simp
          rw [← hx1] at hb4 ⊢
          clear hx1
          refine hK _ _ (.inr kx1) ?_
          clear hK K
          have hb4o := hb4
          refine planE_forceL rfl rfl fun K hK => ?_
          have ho0 := own_emptyL x1 3 1 u0.heap.size kx1.size
          obtain ⟨x2, hx2⟩ : ∃ x, x = x1.alloc (.cells #[] 3) := ⟨_, rfl⟩
          have kx2 : Keep [] u0 x2 := by rw [hx2]; exact kx1.alloc _
          have hb4 : x2.heap[u0.heap.size]? = some (.cells #[.int .i64 901] 3 (0, 0)) := by rw [hx2]; exact ((Keep.refl [] _).alloc _).at_ hb4 (by simp)
          have hne4 : x1.heap.size ≠ u0.heap.size := by have := lt_of_block (((Keep.refl [] x1).at_ hb4o (by simp))); omega
          go_simp
          rw [← hx2] at ho0 ⊢
          clear hx2
          refine hK _ _ (.inr kx2) ?_
          clear hK K
          have hlt0 : x1.heap.size < x2.heap.size := by have h := own_ltL ho0; simpa using h
          obtain ⟨v3, x3, hap3, kx3, ho3, kz3⟩ := app_sl 37 3 (.int .i64 0) 8 Tryz.underlying37 info_intL rfl (by decide) kx2 ho0 HSL.out (by exact hlen) hone (by omega)
          have hb4 := kz3.at_ hb4 (by simp [Value.ownBlock]; exact fun e => hne4 e.symm)
          refine planE_forceL rfl rfl fun K hK => ?_
          refine wp_append_eq _ _ _ rfl rfl rfl hap3 ?_
          refine hK _ _ (.inr kx3) ?_
          clear hK K
          try simp only [Act.put, List.setIfInBounds_toArray, List.set_cons_succ, List.set_cons_zero]
          obtain ⟨h5, c5, x4, hap5, kx4, ho5, hc5, hg5⟩ := app_mark 37 3 (.int .i64 0) (.int .i64 901) 8 Tryz.underlying37 info_intL rfl (by decide) rfl kx3 ho3 hb4 (by omega)
          refine planE_forceL rfl rfl fun K hK => ?_
          refine wp_append_eq _ _ _ rfl rfl rfl hap5 ?_
          refine hK _ _ (.inr kx4) ?_
          clear hK K
          try simp only [Act.put, List.setIfInBounds_toArray, List.set_cons_succ, List.set_cons_zero]
          have hcm := cut_mark 1 37 Tryz.underlying37 sizeInts h5 nd c5 hc5
          refine planE_takeL rfl rfl (.slice (some ⟨h5, 0, none⟩) nd c5) kx4 ?_ ?_
          · intro w' hC K Q hK
            go_simp
            exact hK
          try simp only [Act.put, List.setIfInBounds_toArray, List.set_cons_succ, List.set_cons_zero]
          refine planE_takeL rfl rfl (.pointer (some ⟨G, 7, none⟩)) kx4 ?_ ?_
          · intro w' hC K Q hK
            go_simp
            exact hK
          try simp only [Act.put, List.setIfInBounds_toArray, List.set_cons_succ, List.set_cons_zero]
          have hbG := kx4.at_ HBG.out (by simp)
          have p0 := cell_of_block hbG 7
          have p1 := free_of_block hbG 7
          simp at p0
          refine planE_forceL rfl rfl fun K hK => ?_
          go_simp
          refine hK _ _ (.inl rfl) ?_
          refine hQ0 _ _ ?_
          clear hK K hQ0 Q0
          have hset := block_setCell hbG 7 (.slice (some ⟨h5, 0, none⟩) nd c5)
          have hks : Keep [G] x4 (x4.setCell ⟨G, 7, none⟩ (.slice (some ⟨h5, 0, none⟩) nd c5)) := (Keep.refl _ _).setCell (.inl (by simp)) _
          have hgG : h5 ≠ G := by have := lt_of_block HBG.out; omega
          refine hK1 _ _ (Met.intro (hJ _ _ ?_))
          repeat apply Exists.intro
          refine ⟨?_, rfl⟩
          exact ⟨rfl, h5, c5, hset, ((kx4.mono (L' := [G]) (by simp)).trans hks (fun q hq => .inl hq)), hc5, hg5, hks.owns ho5 (fun q hq => by simp [Value.ownBlock] at hq; subst hq; simpa using hgG)⟩
      case rest =>
        obtain ⟨rfl, h5, c5, hb3, hk3, hc5, hg5, ho5⟩ := hcut
        have HK3 := Lib.hid (HKU.out.trans hk3 (fun q hq => by simp at hq; subst hq; exact .inr (by have := HGG.out; omega)))
        have HO5 := Lib.hid ho5
        have HC5 := Lib.hid hc5
        have hgG5 : h5 ≠ G := by have := lt_of_block HBG.out; omega
        have HNE5 := Lib.hid hgG5
        obtain ⟨u1, hu1⟩ : ∃ u1, u1 = wc.drew := ⟨_, rfl⟩
        have hku1 : Keep [] wc u1 := by rw [hu1]; exact (Keep.refl _ _).drew
        have HK4 := Lib.hid (HK3.out.trans0 hku1)
        have HBH := Lib.hid (hku1.at_ hb3 (by simp))
        have HO6 := Lib.hid (hku1.owns ho5 (by simp))
        have CO := Lib.hid (show u1.cell? ⟨G, 8, none⟩ = some (.slice ad2 nb cap2) from cell_of_block HBH.out 8)
        have HSL := Lib.hid (show SlAt u1 (.slice ad2 nb cap2) nb (bytV s.data) by have h := HRD.out.2.keep0 HK4.out; rw [← HNB.out] at h; exact h)
        clear hb3 hk3 hc5 hg5 ho5 hku1 hgG5 HBG HKU
        obtain ⟨u0, hu0⟩ : ∃ u0, u0 = u1 := ⟨_, rfl⟩
        rw [← hu0] at HK4 HBH HO6 CO HSL hu1
        clear hu0
        have hu0 := hu1
        clear hu1
        have HBG := Lib.hid HBH.out
        clear HBH
        go_upto_region 7 with (fail)
        go_cut [37] from 27 to 37 (fun s37 wx => s37 = .pointer (some ⟨G, 8, none⟩) ∧ ∃ h6 c6, wx.heap[G]? = some (.cells #[.int .i64 s.kind, .int .i64 s.site, .int .i64 s.peer, .int .i64 s.unit, .int .i64 s.at_, .int .i64 s.n, .string s.text, .slice (some ⟨h5, 0, none⟩) nd c5, .slice (some ⟨h6, 0, none⟩) nb c6] 40 (0, 0)) ∧ Keep [G] u0 wx ∧ nb + 1 ≤ c6 ∧ u0.heap.size ≤ h6 ∧ wx.ownsRow u0.heap.size 5 1 (.slice (some ⟨h6, 0, none⟩) (nb + 1) c6) (nb + 1) (bytV s.data ++ [.int .u8 171]))
        case first =>
          rename_i J K1 hJ hK1
          have hlen : (bytV s.data).length = nb := by have := HNB.out; rw [bytV_len]; omega
          have hone : ∀ x ∈ bytV s.data, x.oneCell' = true := by
            intro x hx
            unfold bytV at hx
            obtain ⟨y, _, rfl⟩ := List.mem_map.1 hx
            rfl
          obtain ⟨h5', hh5⟩ : ∃ h5', h5' = h5 := ⟨_, rfl⟩
          obtain ⟨c5', hc5'⟩ : ∃ c5', c5' = c5 := ⟨_, rfl⟩
          rw [← hh5, ← hc5'] at HBG hJ
          clear hh5 hc5' HO5 HO6 HC5 HNE5
          refine wp_planE 11 (fun w' => Keep [] u0 w') (.take 1 (.take 2 (.take 6 (.take 7 (.take 8 (.fork 0 4 (.fork 3 4 (.force 4 (.force 5 (.take 9 (.take 10 (.force 11 .done))))) (.force 3 (.force 5 (.take 9 (.take 10 (.force 11 .done)))))) (.force 0 (.force 3 (.force 5 (.take 9 (.take 10 (.force 11 .done)))))))))))) (by kernel_rfl) (by kernel_rfl) ?_
          intro Q0 hQ0
          rw [← hu0]
          clear hu0
          refine planE_takeL rfl rfl (.pointer (some ⟨G, 8, none⟩)) (Keep.refl _ _) ?_ ?_
          · intro w' hC K Q hK
            have q1 : w'.cell? ⟨G, 8, none⟩ = some (.slice ad2 nb cap2) := hC.cellv CO.out (by simp)
            go_simp
            exact hK
          try simp only [Act.put, List.setIfInBounds_toArray, List.set_cons_succ, List.set_cons_zero]
          refine planE_takeL rfl rfl (.slice ad2 nb cap2) (Keep.refl _ _) ?_ ?_
          · intro w' hC K Q hK
            have q1 : w'.cell? ⟨G, 8, none⟩ = some (.slice ad2 nb cap2) := hC.cellv CO.out (by simp)
            go_simp
            exact hK
          try simp only [Act.put, List.setIfInBounds_toArray, List.set_cons_succ, List.set_cons_zero]
          refine planE_takeL rfl rfl (.pointer (some ⟨G, 8, none⟩)) (Keep.refl _ _) ?_ ?_
          · intro w' hC K Q hK
            have q1 : w'.cell? ⟨G, 8, none⟩ = some (.slice ad2 nb cap2) := hC.cellv CO.out (by simp)
            go_simp
            exact hK
          try simp only [Act.put, List.setIfInBounds_toArray, List.set_cons_succ, List.set_cons_zero]
          refine planE_takeL rfl rfl (.slice ad2 nb cap2) (Keep.refl _ _) ?_ ?_
          · intro w' hC K Q hK
            have q1 : w'.cell? ⟨G, 8, none⟩ = some (.slice ad2 nb cap2) := hC.cellv CO.out (by simp)
            go_simp
            exact hK
          try simp only [Act.put, List.setIfInBounds_toArray, List.set_cons_succ, List.set_cons_zero]
          refine planE_takeL rfl rfl (.int .i64 (nb : Nat)) (Keep.refl _ _) ?_ ?_
          · intro w' hC K Q hK
            have q1 : w'.cell? ⟨G, 8, none⟩ = some (.slice ad2 nb cap2) := hC.cellv CO.out (by simp)
            go_simp
            exact hK
          try simp only [Act.put, List.setIfInBounds_toArray, List.set_cons_succ, List.set_cons_zero]
          refine planE_fork ?_ ?_
          · skip
            refine planE_forceL rfl rfl fun K hK => ?_
            have ho0 := own_emptyL u0 5 1 u0.heap.size (Keep.refl [] u0).size
            obtain ⟨x1, hx1⟩ : ∃ x, x = u0.alloc (.cells #[] 5) := ⟨_, rfl⟩
            have kx1 : Keep [] u0 x1 := by rw [hx1]; exact (Keep.refl [] u0).alloc _
            go_simp
            rw [← hx1] at ho0 ⊢
            clear hx1
            refine hK _ _ (.inr kx1) ?_
            clear hK K
            have hlt0 : u0.heap.size < x1.heap.size := by have h := own_ltL ho0; simpa using h
            refine planE_fork ?_ ?_
            · skip
              obtain ⟨v3, x2, hap3, kx2, ho3, kz3⟩ := app_sl 38 5 (.int .u8 0) 1 Tryz.underlying38 info_u8L rfl (by decide) kx1 ho0 HSL.out (by exact hlen) hone (by omega)
              refine planE_forceL rfl rfl fun K hK => ?_
              refine wp_append_eq _ _ _ rfl rfl rfl hap3 ?_
              refine hK _ _ (.inr kx2) ?_
              clear hK K
              try simp only [Act.put, List.setIfInBounds_toArray, List.set_cons_succ, List.set_cons_zero]
              refine planE_forceL rfl rfl fun K hK => ?_
              have hb4 := World.alloc_heap_new x2 (.cells #[.int .u8 171] 5)
              obtain ⟨x3, hx3⟩ : ∃ x, x = x2.alloc (.cells #[.int .u8 171] 5) := ⟨_, rfl⟩
              have kx3 : Keep [] u0 x3 := by rw [hx3]; exact kx2.alloc _
              have ky3 : Keep [] x2 x3 := by rw [hx3]; exact (Keep.refl _ _).alloc _
              have ho3 := ky3.owns ho3 (by simp)
              go_simp
              rw [← hx3] at hb4 ⊢
              clear hx3
              refine hK _ _ (.inr kx3) ?_
              clear hK K
              have hb4o := hb4
              obtain ⟨h5, c5, x4, hap5, kx4, ho5, hc5, hg5⟩ := app_mark 38 5 (.int .u8 0) (.int .u8 171) 1 Tryz.underlying38 info_u8L rfl (by decide) rfl kx3 ho3 hb4 (by omega)
              refine planE_forceL rfl rfl fun K hK => ?_
              refine wp_append_eq _ _ _ rfl rfl rfl hap5 ?_
              refine hK _ _ (.inr kx4) ?_
              clear hK K
              try simp only [Act.put, List.setIfInBounds_toArray, List.set_cons_succ, List.set_cons_zero]
              have hcm := cut_mark 1 38 Tryz.underlying38 sizeByts h5 nb c5 hc5
              refine planE_takeL rfl rfl (.slice (some ⟨h5, 0, none⟩) nb c5) kx4 ?_ ?_
              · intro w' hC K Q hK
                go_simp
                exact hK
              try simp only [Act.put, List.setIfInBounds_toArray, List.set_cons_succ, List.set_cons_zero]
              refine planE_takeL rfl rfl (.pointer (some ⟨G, 8, none⟩)) kx4 ?_ ?_
              · intro w' hC K Q hK
                go_simp
                exact hK
              try simp only [Act.put, List.setIfInBounds_toArray, List.set_cons_succ, List.set_cons_zero]
              have hbG := kx4.at_ HBG.out (by simp)
              have p0 := cell_of_block hbG 8
              have p1 := free_of_block hbG 8
              simp at p0
              refine planE_forceL rfl rfl fun K hK => ?_
              go_simp
              refine hK _ _ (.inl rfl) ?_
              refine hQ0 _ _ ?_
              clear hK K hQ0 Q0
              have hset := block_setCell hbG 8 (.slice (some ⟨h5, 0, none⟩) nb c5)
              have hks : Keep [G] x4 (x4.setCell ⟨G, 8, none⟩ (.slice (some ⟨h5, 0, none⟩) nb c5)) := (Keep.refl _ _).setCell (.inl (by simp)) _
              have hgG : h5 ≠ G := by have := lt_of_block HBG.out; omega
              refine hK1 _ _ (Met.intro (hJ _ _ ?_))
              repeat apply Exists.intro
              refine ⟨?_, rfl⟩
              exact ⟨rfl, h5, c5, hset, ((kx4.mono (L' := [G]) (by simp)).trans hks (fun q hq => .inl hq)), hc5, hg5, hks.owns ho5 (fun q hq => by simp [Value.ownBlock] at hq; subst hq; simpa using hgG)⟩
            · skip
              refine planE_forceL rfl rfl fun K hK => ?_
              have hb4 := World.alloc_heap_new x1 (.cells #[.int .u8 171] 5)
              obtain ⟨x2, hx2⟩ : ∃ x, x = x1.alloc (.cells #[.int .u8 171] 5) := ⟨_, rfl⟩
              have kx2 : Keep [] u0 x2 := by rw [hx2]; exact kx1.alloc _
              have ky2 : Keep [] x1 x2 := by rw [hx2]; exact (Keep.refl _ _).alloc _
              have ho0 := ky2.owns ho0 (by simp)
              go_simp
              rw [← hx2] at hb4 ⊢
              clear hx2
              refine hK _ _ (.inr kx2) ?_
              clear hK K
              have hb4o := hb4
              obtain ⟨v3, x3, hap3, kx3, ho3, kz3⟩ := app_sl 38 5 (.int .u8 0) 1 Tryz.underlying38 info_u8L rfl (by decide) kx2 ho0 HSL.out (by exact hlen) hone (by omega)
              have hb4 := kz3.at_ hb4 (by simp [Value.ownBlock]; have := lt_of_block hb4; have h9 := hlt0; omega)
              refine planE_forceL rfl rfl fun K hK => ?_
              refine wp_append_eq _ _ _ rfl rfl rfl hap3 ?_
              refine hK _ _ (.inr kx3) ?_
              clear hK K
              try simp only [Act.put, List.setIfInBounds_toArray, List.set_cons_succ, List.set_cons_zero]
              obtain ⟨h5, c5, x4, hap5, kx4, ho5, hc5, hg5⟩ := app_mark 38 5 (.int .u8 0) (.int .u8 171) 1 Tryz.underlying38 info_u8L rfl (by decide) rfl kx3 ho3 hb4 (by omega)
              refine planE_forceL rfl rfl fun K hK => ?_
              refine wp_append_eq _ _ _ rfl rfl rfl hap5 ?_
              refine hK _ _ (.inr kx4) ?_
              clear hK K
              try simp only [Act.put, List.setIfInBounds_toArray, List.set_cons_succ, List.set_cons_zero]
              have hcm := cut_mark 1 38 Tryz.underlying38 sizeByts h5 nb c5 hc5
              refine planE_takeL rfl rfl (.slice (some ⟨h5, 0, none⟩) nb c5) kx4 ?_ ?_
              · intro w' hC K Q hK
                go_simp
                exact hK
              try simp only [Act.put, List.setIfInBounds_toArray, List.set_cons_succ, List.set_cons_zero]
              refine planE_takeL rfl rfl (.pointer (some ⟨G, 8, none⟩)) kx4 ?_ ?_
              · intro w' hC K Q hK
                go_simp
                exact hK
              try simp only [Act.put, List.setIfInBounds_toArray, List.set_cons_succ, List.set_cons_zero]
              have hbG := kx4.at_ HBG.out (by simp)
              have p0 := cell_of_block hbG 8
              have p1 := free_of_block hbG 8
              simp at p0
              refine planE_forceL rfl rfl fun K hK => ?_
              go_simp
              refine hK _ _ (.inl rfl) ?_
              refine hQ0 _ _ ?_
              clear hK K hQ0 Q0
              have hset := block_setCell hbG 8 (.slice (some ⟨h5, 0, none⟩) nb c5)
              have hks : Keep [G] x4 (x4.setCell ⟨G, 8, none⟩ (.slice (some ⟨h5, 0, none⟩) nb c5)) := (Keep.refl _ _).setCell (.inl (by simp)) _
              have hgG : h5 ≠ G := by have := lt_of_block HBG.out; omega
              refine hK1 _ _ (Met.intro (hJ _ _ ?_))
              repeat apply Exists.intro
              refine ⟨?_, rfl⟩
              exact ⟨rfl, h5, c5, hset, ((kx4.mono (L' := [G]) (by simp)).trans hks (fun q hq => .inl hq)), hc5, hg5, hks.owns ho5 (fun q hq => by simp [Value.ownBlock] at hq; subst hq; simpa using hgG)⟩
          · skip
            refine planE_forceL rfl rfl fun K hK => ?_
            have hb4 := World.alloc_heap_new u0 (.cells #[.int .u8 171] 5)
            obtain ⟨x1, hx1⟩ : ∃ x, x = u0.alloc (.cells #[.int .u8 171] 5) := ⟨_, rfl⟩
            have kx1 : Keep [] u0 x1 := by rw [hx1]; exact (Keep.refl [] u0).alloc _
            have ky1 : Keep [] u0 x1 := by rw [hx1]; exact (Keep.refl _ _).alloc _
            go_simp
            rw [← hx1] at hb4 ⊢
            clear hx1
            refine hK _ _ (.inr kx1) ?_
            clear hK K
            have hb4o := hb4
            refine planE_forceL rfl rfl fun K hK => ?_
            have ho0 := own_emptyL x1 5 1 u0.heap.size kx1.size
            obtain ⟨x2, hx2⟩ : ∃ x, x = x1.alloc (.cells #[] 5) := ⟨_, rfl⟩
            have kx2 : Keep [] u0 x2 := by rw [hx2]; exact kx1.alloc _
            have hb4 : x2.heap[u0.heap.size]? = some (.cells #[.int .u8 171] 5 (0, 0)) := by rw [hx2]; exact ((Keep.refl [] _).alloc _).at_ hb4 (by simp)
            have hne4 : x1.heap.size ≠ u0.heap.size := by have := lt_of_block (((Keep.refl [] x1).at_ hb4o (by simp))); omega
            go_simp
            rw [← hx2] at ho0 ⊢
            clear hx2
            refine hK _ _ (.inr kx2) ?_
            clear hK K
            have hlt0 : x1.heap.size < x2.heap.size := by have h := own_ltL ho0; simpa using h
            obtain ⟨v3, x3, hap3, kx3, ho3, kz3⟩ := app_sl 38 5 (.int .u8 0) 1 Tryz.underlying38 info_u8L rfl (by decide) kx2 ho0 HSL.out (by exact hlen) hone (by omega)
            have hb4 := kz3.at_ hb4 (by simp [Value.ownBlock]; exact fun e => hne4 e.symm)
            refine planE_forceL rfl rfl fun K hK => ?_
            refine wp_append_eq _ _ _ rfl rfl rfl hap3 ?_
            refine hK _ _ (.inr kx3) ?_
            clear hK K
            try simp only [Act.put, List.setIfInBounds_toArray, List.set_cons_succ, List.set_cons_zero]
            obtain ⟨h5, c5, x4, hap5, kx4, ho5, hc5, hg5⟩ := app_mark 38 5 (.int .u8 0) (.int .u8 171) 1 Tryz.underlying38 info_u8L rfl (by decide) rfl kx3 ho3 hb4 (by omega)
            refine planE_forceL rfl rfl fun K hK => ?_
            refine wp_append_eq _ _ _ rfl rfl rfl hap5 ?_
            refine hK _ _ (.inr kx4) ?_
            clear hK K
            try simp only [Act.put, List.setIfInBounds_toArray, List.set_cons_succ, List.set_cons_zero]
            have hcm := cut_mark 1 38 Tryz.underlying38 sizeByts h5 nb c5 hc5
            refine planE_takeL rfl rfl (.slice (some ⟨h5, 0, none⟩) nb c5) kx4 ?_ ?_
            · intro w' hC K Q hK
              go_simp
              exact hK
            try simp only [Act.put, List.setIfInBounds_toArray, List.set_cons_succ, List.set_cons_zero]
            refine planE_takeL rfl rfl (.pointer (some ⟨G, 8, none⟩)) kx4 ?_ ?_
            · intro w' hC K Q hK
              go_simp
              exact hK
            try simp only [Act.put, List.setIfInBounds_toArray, List.set_cons_succ, List.set_cons_zero]
            have hbG := kx4.at_ HBG.out (by simp)
            have p0 := cell_of_block hbG 8
            have p1 := free_of_block hbG 8
            simp at p0
            refine planE_forceL rfl rfl fun K hK => ?_
            go_simp
            refine hK _ _ (.inl rfl) ?_
            refine hQ0 _ _ ?_
            clear hK K hQ0 Q0
            have hset := block_setCell hbG 8 (.slice (some ⟨h5, 0, none⟩) nb c5)
            have hks : Keep [G] x4 (x4.setCell ⟨G, 8, none⟩ (.slice (some ⟨h5, 0, none⟩) nb c5)) := (Keep.refl _ _).setCell (.inl (by simp)) _
            have hgG : h5 ≠ G := by have := lt_of_block HBG.out; omega
            refine hK1 _ _ (Met.intro (hJ _ _ ?_))
            repeat apply Exists.intro
            refine ⟨?_, rfl⟩
            exact ⟨rfl, h5, c5, hset, ((kx4.mono (L' := [G]) (by simp)).trans hks (fun q hq => .inl hq)), hc5, hg5, hks.owns ho5 (fun q hq => by simp [Value.ownBlock] at hq; subst hq; simpa using hgG)⟩
        case rest =>
          obtain ⟨rfl, h6, c6, hb7, hk7, hc6, hg6, ho6⟩ := hcut
          have hgG6 : h6 ≠ G := by have := lt_of_block HBG.out; omega
          have HK7 := Lib.hid (HK4.out.trans hk7 (fun q hq => by simp at hq; subst hq; exact .inr (by have := HGG.out; omega)))
          have HROW := Lib.hid (show LRow wc s (stV s (.slice (some ⟨h5, 0, none⟩) nd c5) (.slice (some ⟨h6, 0, none⟩) nb c6)).toList [h5, h6] from ⟨h5, c5, h6, c6, by rw [HND.out, HNB.out], rfl, by have := HND.out; have := HC5.out; omega, by have := HNB.out; omega,
            by
              have h := own_lowL (hk7.owns HO6.out (fun q hq => by simp [Value.ownBlock] at hq; subst hq; simpa using HNE5.out)) (Nat.zero_le _)
              rw [HND.out] at h
              exact h, by
              have h := own_lowL ho6 (Nat.zero_le _)
              rw [HNB.out] at h
              exact h⟩)
          clear hk7 hc6 hg6 ho6 hgG6 HBG HSL HO5 HO6 HC5 HNE5 CO
          have d0 := cell_of_block hb7 0
          have d1 := cell_of_block hb7 1
          have d2 := cell_of_block hb7 2
          have d3 := cell_of_block hb7 3
          have d4 := cell_of_block hb7 4
          have d5 := cell_of_block hb7 5
          have d6 := cell_of_block hb7 6
          have d7 := cell_of_block hb7 7
          have d8 := cell_of_block hb7 8
          simp at d0 d1 d2 d3 d4 d5 d6 d7 d8
          have HOW := Lib.hid (HK7.out.owns HOWN.out (by simp))
          obtain ⟨v8, w8, hap, hp8, hp9, _⟩ := out_append (W := wc) (stV s (.slice (some ⟨h5, 0, none⟩) nd c5) (.slice (some ⟨h6, 0, none⟩) nb c6)) rfl (by simp [stV, Value.oneCell']) HOW.out (Nat.le_trans HKR.out.size HK7.out.size) (by omega)
          have hka : Keep [] wc (wc.alloc (.cells (stV s (.slice (some ⟨h5, 0, none⟩) nd c5) (.slice (some ⟨h6, 0, none⟩) nb c6)) 40)) := (Keep.refl _ _).alloc _
          have hnt : ∀ (r : List Nat) (c : List Value) (M : List Stp), LRows wc M c r → ∀ b ∈ r, b ∉ u3.ownBlock.toList := fun r c M hM b hb hm => by
            obtain ⟨c9, f9, h9⟩ := own_ty HOW.out b hm
            exact hM.not_ty h9 (by decide) (by decide) hb
          have hrows := (HROWS.out.keep HK7.out (by simp)).snoc HROW.out
          rw [← HTK.out] at hrows
          have HROWS8 := Lib.hid ((hrows.keep hka (by simp)).keep hp9 (hnt _ _ _ hrows))
          have HK8 := Lib.hid (show Keep [] W w8 from ((HKR.out.trans0 HK7.out).alloc _).trans hp9 (fun q hq => .inr (own_geL HOW.out q hq)))
          have HP8 := Lib.hid hp8
          have HAP := Lib.hid hap
          unfold stV at HAP
          clear hap hp8 hp9 hka hnt hrows hb7 HROW HROWS HOWN HOW
          go_wp2_with (at_builtin; refine wpList_append_eq rfl (.tmp 38) (.tmp 40) 23 rfl rfl rfl HAP.out ?_)
          clear HAP d0 d1 d2 d3 d4 d5 d6 d7 d8
          go_wp2
          go_roundw
          case rel => exact ⟨k + 1, _, _, by go_num, by have := HLT.out; omega, HK8.out, HP8.out, HROWS8.out⟩
          case measure => have := HLT.out; simp [intOf]; omega
    · obtain rfl : k = n := by omega
      have g1 := dec_lt_f (show ¬ (k : Int) < (k : Int) by omega)
      have g2 := dec_ltn_f hlt
      clear hlt
      have hlk : L.take k = L := by rw [HN.out, List.take_length]
      have hrows := HROWS.out
      rw [hlk] at hrows
      obtain ⟨v8, w8, hap, hp8, hp9, _⟩ := out_append (W := wr) #[.int .i64 902, .int .i64 0, .int .i64 0, .int .i64 0, .int .i64 0, .int .i64 0, .string ⟨#[]⟩, .slice none 0 0, .slice none 0 0] rfl (by simp [Value.oneCell']) HOWN.out HKR.out.size (by omega)
      have hnt : ∀ b ∈ bs, b ∉ u3.ownBlock.toList := fun b hb hm => by
        obtain ⟨c9, f9, h9⟩ := own_ty HOWN.out b hm
        exact hrows.not_ty h9 (by decide) (by decide) hb
      have hrows8 := ((hrows.keep (K := []) ((Keep.refl _ _).alloc _) (by simp)).keep hp9 hnt)
      have HK8 := Lib.hid (show Keep [] W w8 from (HKR.out.alloc _).trans hp9 (fun q hq => .inr (own_geL HOWN.out q hq)))
      rcases hp8.2 with ⟨_, h0⟩ | ⟨g, cap8, cur, rfl, hg8, hgg, hc8, hrest⟩
      · omega
      have HLP := Lib.hid (show LentP w8 (.slice (some ⟨g, 0, none⟩) k cap8) L from ⟨g, cap8, cs, bs, by rw [← HN.out], by rw [← HN.out]; exact hc8, hrows8, by rw [← HN.out]; exact own_lowL hp8 (Nat.zero_le _)⟩)
      have hcm := fun W => cut_mark 9 23 Tryz.underlying23 sizeStps g k cap8 hc8 W
      have HAP := Lib.hid hap
      clear hap hp8 hp9 hnt hrows hrows8 hlk hg8 hgg hc8 hrest HROWS HOWN
      go_wp2_with (at_builtin; refine wpList_append_eq rfl (.tmp 42) (.tmp 44) 23 rfl rfl rfl HAP.out ?_)
      clear HAP
      go_wp2
      go_ret
      exact ⟨_, rfl, HK8.out, HLP.out⟩
end Go.Proofs.YtbidppjhenfjdaaGreatDoor
namespace Go.Proofs.YtbidppjhenfjdaaGreatDoor
open Go.RowKit
set_option linter.unusedVariables false
set_option linter.unusedSimpArgs false

theorem LRow.marks {W : World} {s : Stp} {cs : List Value} {bs : List Nat} (h : LRow W s cs bs) : ∃ h1 c1 h2 c2, cs = (stV s (.slice (some ⟨h1, 0, none⟩) s.draws.length c1) (.slice (some ⟨h2, 0, none⟩) s.data.size c2)).toList ∧ s.draws.length + 1 ≤ c1 ∧ s.data.size + 1 ≤ c2 ∧
    W.cell? ⟨h1, s.draws.length, none⟩ = some (.int .i64 901) ∧ W.cell? ⟨h2, s.data.size, none⟩ = some (.int .u8 171) := by
  obtain ⟨g, c, g', c', rfl, rfl, h1, h2, h3, h4⟩ := h
  refine ⟨g, c, g', c', rfl, h1, h2, ?_, ?_⟩
  · obtain ⟨b, off, cap, e, hc⟩ := (SlAt.of_owns h3).at_ (by omega)
    injection e with e1 e2 e3
    injection e1 with e1
    injection e1 with e4 e5 e6
    subst e4
    subst e5
    have := hc s.draws.length (.int .i64 901) (by
      rw [List.getElem?_append_right (by simp [intsV])]
      simp [intsV])
    rwa [Nat.zero_add] at this
  · obtain ⟨b, off, cap, e, hc⟩ := (SlAt.of_owns h4).at_ (by omega)
    injection e with e1 e2 e3
    injection e1 with e1
    injection e1 with e4 e5 e6
    subst e4
    subst e5
    have := hc s.data.size (.int .u8 171) (by
      rw [List.getElem?_append_right (by rw [bytV_len]; exact Nat.le_refl _), bytV_len, Nat.sub_self]
      rfl)
    rwa [Nat.zero_add] at this

set_option maxHeartbeats 16000000 in
set_option maxRecDepth 100000 in
theorem back_any (x v : Value) (L : List Stp) (W : World) (hx : LentP W x L) (h : Steps W v L) (hf : Few L) :
    Calls Tryz.prog 14 #[x, v] W fun e W' => e = .returned (.bool true) ∧ Keep [] W W' := by
  have HX := Lib.hid hx
  have HS := Lib.hid h
  have HF := Lib.hid hf
  obtain ⟨ad, cap, hv⟩ := h.slice
  subst hv
  obtain ⟨g, capx, cs, bs, rfl, hcx, hrows, hcells⟩ := hx.cells
  clear h hf hx
  obtain ⟨n, hnl⟩ : ∃ n, n = L.length := ⟨_, rfl⟩
  rw [← hnl] at HX HS hcx ⊢
  have HN := Lib.hid hnl
  have hn200 : n ≤ 200 := by have := HF.out.1; omega
  have hlen : cs.length = n * 9 := by
    have : ∀ {L : List Stp} {cs : List Value} {bs : List Nat}, LRows W L cs bs → cs.length = L.length * 9 := by
      intro L
      induction L with
      | nil => rintro cs bs ⟨rfl, _⟩; rfl
      | cons s L ih =>
        rintro cs bs ⟨c, r, b, q, rfl, rfl, h1, h2⟩
        rw [List.length_append, h1.len, ih h2, List.length_cons]
        omega
    rw [this hrows, hnl]
  have HM := Lib.hid (show W.cell? ⟨g, n * 9, none⟩ = some (.int .i64 902) from hcells _ _ (by
    rw [List.getElem?_append_right (by omega), hlen, Nat.sub_self]
    rfl))
  have HR := Lib.hid hrows
  have HC := Lib.hid hcells
  clear hnl hrows hcells hlen
  go_enter Tryz.func14, Tryz.ntmps14
  go_upto_region 2 with (fail)
  go_loopw [5] (fun iv wr => ∃ k : Nat, iv = .int .i64 k ∧ k ≤ n ∧ Keep [] W wr) (fun iv _ => n - (intOf iv).toNat)
  case atStart => exact ⟨0, rfl, Nat.zero_le _, Keep.refl _ _⟩
  case round =>
    rename World => wr
    obtain ⟨k, rfl, hk, hkr⟩ := hrel
    have HKR := Lib.hid hkr
    clear hkr
    by_cases hlt : k < n
    · have HLT := Lib.hid hlt
      have g1 := dec_lt_t (show (k : Int) < (n : Int) by omega)
      have g2 := dec_ltn_t hlt
      have hkL : k < L.length := by rw [← HN.out]; exact hlt
      have hfw := HF.out.2.1 _ (List.getElem_mem hkL)
      obtain ⟨c, b, hrow, hu⟩ := HR.out.at_ k L[k] (List.getElem?_eq_getElem hkL)
      generalize L[k] = s at hrow hfw
      obtain ⟨h1, c1, h2, c2, rfl, hc1, hc2, m1, m2⟩ := hrow.marks
      have e7 : wr.cell? ⟨g, k * 9 + 7, none⟩ = some (.slice (some ⟨h1, 0, none⟩) s.draws.length c1) := HKR.out.cellv (HC.out _ _ (by
        have := hu 7 _ rfl
        rw [List.getElem?_append_left (List.getElem?_eq_some_iff.1 this).1]
        exact this)) (by simp)
      have e8 : wr.cell? ⟨g, k * 9 + 8, none⟩ = some (.slice (some ⟨h2, 0, none⟩) s.data.size c2) := HKR.out.cellv (HC.out _ _ (by
        have := hu 8 _ rfl
        rw [List.getElem?_append_left (List.getElem?_eq_some_iff.1 this).1]
        exact this)) (by simp)
      have q1 := HKR.out.cellv m1 (by simp)
      have q2 := HKR.out.cellv m2 (by simp)
      obtain ⟨_, hd2, hd3⟩ := hfw
      generalize s.draws.length = nd at *
      generalize s.data.size = nb at *
      clear hu hrow m1 m2 hkL hlt
      have hb1 : (0 : Int) ≤ (nd : Int) + 1 := by omega
      have hb2 : (nd : Int) + 1 ≤ (c1 : Int) := by omega
      have hb3 : (0 : Int) ≤ (nb : Int) + 1 := by omega
      have hb4 : (nb : Int) + 1 ≤ (c2 : Int) := by omega
      have hb5 : ((nd : Int) + 1).toNat = nd + 1 := by omega
      have hb6 : ((nb : Int) + 1).toNat = nb + 1 := by omega
      go_wp2
      go_roundw
      case rel => exact ⟨k + 1, by go_num, by have := HLT.out; omega, HKR.out⟩
      case measure => have := HLT.out; simp [intOf]; omega
    · obtain rfl : k = n := by omega
      have g1 := dec_lt_f (show ¬ (k : Int) < (k : Int) by omega)
      have g2 := dec_ltn_f hlt
      clear hlt
      have HSX := Lib.hid (show Steps wr (.slice (some ⟨g, 0, none⟩) k capx) L from (HX.out.keep0 HKR.out).steps)
      go_wp2_with fail
      refine (same_any L _ _ wr HSX.out (HS.out.keep0 HKR.out) (by have := HF.out.1; omega) (fun s hs => by have := (HF.out.2.1 s hs).2.2; omega)).mono ?_
      rintro e w5 ⟨rfl, hk5⟩
      have HK5 := Lib.hid (HKR.out.trans0 hk5)
      have q1 := HK5.out.cellv HM.out (by simp)
      clear hk5 g1 g2
      have hb1 : (0 : Int) ≤ (k : Int) + 1 := by omega
      have hb2 : (k : Int) + 1 ≤ (capx : Int) := by omega
      have hb5 : ((k : Int) + 1).toNat = k + 1 := by omega
      go_wp2
      go_ret
      exact ⟨rfl, HK5.out⟩
set_option maxHeartbeats 16000000 in
set_option maxRecDepth 100000 in
theorem scriptPrints_walk (v : Value) (L : List Stp) (W : World) (h : Steps W v L) (hf : ∀ s ∈ L, StpOk s ∧ StpFit s) (hT : TQ W) :
    Calls Tryz.prog 4 #[v] W fun e W' => e = .returned (.bool true) ∧ Keep [] W W' := by
  have H1 := Lib.hid h
  have F1 := Lib.hid hf
  have HT := Lib.hid hT
  obtain ⟨ad, cap, hv⟩ := h.slice
  subst hv
  clear h hf hT
  obtain ⟨n, hnl⟩ : ∃ n, n = L.length := ⟨_, rfl⟩
  rw [← hnl] at H1 ⊢
  clear hnl
  go_enter Tryz.func4, Tryz.ntmps4
  go_upto_region 1 with (fail)
  go_wp2_with fail
  refine (much_any _ L W H1.out (fun s hs => (F1.out s hs).2)).mono ?_
  rintro e w1 ⟨hk1, b1, rfl, hb1⟩
  have HK1 := Lib.hid hk1
  have HB1 := Lib.hid hb1
  clear hk1 hb1
  cases b1 with
  | true =>
    go_wp2_with fail
    refine (known_true w1 (HT.out.keep0 HK1.out)).mono ?_
    rintro e w9 ⟨rfl, hk9⟩
    have HK9 := Lib.hid (HK1.out.trans0 hk9)
    clear hk9
    go_wp2
    go_ret
    exact ⟨rfl, HK9.out⟩
  | false =>
  have FW1 := Lib.hid (HB1.out rfl)
  have OK1 := Lib.hid (show StpsOk L from fun s hm => ⟨(F1.out s hm).1, by
    obtain ⟨a, b, c⟩ := (HB1.out rfl).2.1 s hm
    exact ⟨by omega, by omega, by omega⟩⟩)
  clear HB1
  go_wp2_with fail
  refine (lent_any _ L w1 (H1.out.keep0 HK1.out) FW1.out).mono ?_
  rintro e w2 ⟨x, rfl, hk2, hlp⟩
  have HK2 := Lib.hid (HK1.out.trans0 hk2)
  have HLP := Lib.hid hlp
  obtain ⟨g, capx, _, _, hx, _⟩ := hlp
  subst hx
  obtain ⟨m, hm⟩ : ∃ m, m = L.length := ⟨_, rfl⟩
  rw [← hm] at HLP ⊢
  clear hm hk2 HK1
  go_wp2_with fail
  refine (print_any _ L w2 HLP.out.steps OK1.out (by have := FW1.out.1; omega) (HT.out.keep0 HK2.out)).mono ?_
  rintro e w3 ⟨rfl, hk3⟩
  have HK3 := Lib.hid (HK2.out.trans0 hk3)
  have HLP3 := Lib.hid (HLP.out.keep0 hk3)
  clear hk3 HK2 HLP
  have HRP := Lib.hid (rprint_any _ L w3 (H1.out.keep0 HK3.out) OK1.out (by have := FW1.out.1; omega))
  generalize prn L = o at HRP ⊢
  cases o with
  | none =>
    unfold prnV at HRP ⊢
    go_upto_region 5 with (fail)
    go_wp2_with fail
    refine HRP.out.mono ?_
    rintro e w4 ⟨rfl, hk4⟩
    have HK4 := Lib.hid (HK3.out.trans0 hk4)
    have HLP4 := Lib.hid (HLP3.out.keep0 hk4)
    clear hk4 HRP HK3 HLP3
    go_upto_region 6 with (fail)
    go_wp2_with fail
    refine (back_any _ _ L w4 HLP4.out (H1.out.keep0 HK4.out) FW1.out).mono ?_
    rintro e w5 ⟨rfl, hk5⟩
    have HK5 := Lib.hid (HK4.out.trans0 hk5)
    clear hk5
    go_wp2_with fail
    refine (known_true w5 (HT.out.keep0 HK5.out)).mono ?_
    rintro e w9 ⟨rfl, hk9⟩
    have HK9 := Lib.hid (HK5.out.trans0 hk9)
    clear hk9
    go_wp2
    go_ret
    exact ⟨rfl, HK9.out⟩
  | some s =>
    unfold prnV at HRP ⊢
    have hss : (s.toList == s.toList) = true := by simp
    go_upto_region 5 with (fail)
    go_wp2_with fail
    refine HRP.out.mono ?_
    rintro e w4 ⟨rfl, hk4⟩
    have HK4 := Lib.hid (HK3.out.trans0 hk4)
    have HLP4 := Lib.hid (HLP3.out.keep0 hk4)
    clear hk4 HRP HK3 HLP3
    go_upto_region 6 with (fail)
    go_wp2_with fail
    refine (back_any _ _ L w4 HLP4.out (H1.out.keep0 HK4.out) FW1.out).mono ?_
    rintro e w5 ⟨rfl, hk5⟩
    have HK5 := Lib.hid (HK4.out.trans0 hk5)
    clear hk5
    go_wp2_with fail
    refine (known_true w5 (HT.out.keep0 HK5.out)).mono ?_
    rintro e w9 ⟨rfl, hk9⟩
    have HK9 := Lib.hid (HK5.out.trans0 hk9)
    clear hk9
    go_wp2
    go_ret
    exact ⟨rfl, HK9.out⟩
end Go.Proofs.YtbidppjhenfjdaaGreatDoor
namespace Go.Proofs.YtbidppjhenfjdaaGreatDoor
open Go.ChangeShapes Go.WideShapes Go.ChangeAt Go.RowKit
set_option linter.unusedVariables false

theorem own : ownKnob Tryz.prog.godebug = none := by kernel_rfl
theorem gTab : Tryz.prog.globalNamed "math/bits.deBruijn64tab" = some 5 := by kernel_rfl
theorem gTabType : (Tryz.prog.globals[5]?).map (·.type) = some 200 := by kernel_rfl
theorem gPType : (Tryz.prog.globals[2]?).map (·.type) = some 190 := by kernel_rfl
theorem gSType : (Tryz.prog.globals[0]?).map (·.type) = some 81 := by kernel_rfl
theorem gRType : (Tryz.prog.globals[1]?).map (·.type) = some 81 := by kernel_rfl
theorem cellsTab : Tryz.prog.cellsOf 200 = 64 := by kernel_rfl
theorem cellsU8 : Tryz.prog.cellsOf 5 = 1 := by kernel_rfl
theorem cellsP : Tryz.prog.cellsOf 190 = 20 := by kernel_rfl
theorem cellsU64 : Tryz.prog.cellsOf 171 = 1 := by kernel_rfl
theorem cellsES : Tryz.prog.cellsOf 197 = 1 := by kernel_rfl
theorem cellsStr : Tryz.prog.cellsOf 9 = 1 := by kernel_rfl
theorem laidOut : laidOutB Tryz.prog = true := by kernel_rfl
theorem esStar : "*" ++ "errors.errorString" = "*errors.errorString" := by decide
theorem esRow (u : TypeId) (h : Tryz.prog.typeName? 3 u = some "*errors.errorString") : u = 195 :=
  typeName_ptr_named (nm := "errors.errorString") (by rw [esStar]; kernel_rfl) (by kernel_rfl) (by decide) u (by rw [esStar]; exact h)

/-- What each row lists. -/
def laid1 : List (String × DataW Unit) := [("math/bits.deBruijn32tab", Rows.laid_math_bits_deBruijn32tab), ("math/bits.deBruijn64tab", Rows.laid_math_bits_deBruijn64tab), ("internal/strconv.uint64pow10", Rows.laid_internal_strconv_uint64pow10), ("strconv.ErrRange", Rows.laid_strconv_ErrRange), ("strconv.ErrSyntax", Rows.laid_strconv_ErrSyntax)]

theorem tab_head {P : Program} {W : World} {name : String} {k : IntKind} {zs : List Int} {rest : List (String × DataW Unit)} {g : Nat} {t e : TypeId} {n : Nat}
    (hg : P.globalNamed name = some g) (hty : (P.globals[g]?).map (·.type) = some t) (ht : P.underlying t = some (.array n e)) (he : P.underlying e = some (.int k)) (hce : P.cellsOf e = 1) (hct : P.cellsOf t = n)
    (h : laidMet P ((name, Lib.tabData k zs) :: rest) W) : Lib.TabIs P W name k zs := by
  obtain ⟨ps, ⟨g', t', cs, fuel, p, q, hg', ht', hvar, hd, _, _⟩, _⟩ := h
  obtain rfl := Option.some.inj (hg.symm.trans hg')
  obtain rfl := Option.some.inj (hty.symm.trans ht')
  unfold Lib.TabIs
  rw [hvar, ← Lib.cells_of_tab ht he hce hct hd]

/-- WHAT THE ROW's LIST GIVES. -/
theorem table {W : World} (h : laidMetH Tryz.prog laid1 W) : TQ W := by
  have h0 : laidMet Tryz.prog (("math/bits.deBruijn32tab", Rows.laid_math_bits_deBruijn32tab) :: ("math/bits.deBruijn64tab", Rows.laid_math_bits_deBruijn64tab) :: ("internal/strconv.uint64pow10", Rows.laid_internal_strconv_uint64pow10) :: ("strconv.ErrRange", Rows.laid_strconv_ErrRange) :: ("strconv.ErrSyntax", Rows.laid_strconv_ErrSyntax) :: []) W := h
  have h1 := h0.tail
  have h2 := h1.tail
  have h3 := h2.tail
  have h4 := h3.tail
  have t1 : Lib.TabIs Tryz.prog W "math/bits.deBruijn64tab" .u8 (Lib.deBruijn64tab.map Int.ofNat) := tab_head gTab gTabType Tryz.underlying200 Tryz.underlying5 cellsU8 cellsTab h1
  have t2 : Lib.TabIs Tryz.prog W "internal/strconv.uint64pow10" .u64 Lib.pow10Tab := tab_head gP gPType Tryz.underlying190 Tryz.underlying171 cellsU64 cellsP h2
  refine ⟨by have := t1.cell gTab 15 (by decide); exact this, t2, ?_, ?_⟩
  · obtain ⟨a, s, hv, _⟩ := laid_sentinel h4 gS gSType Tryz.underlying81 esRow Tryz.underlying195 Tryz.underlying197 rfl rfl Tryz.underlying9 cellsES cellsStr
    exact ⟨_, _, hv⟩
  · obtain ⟨a, s, hv, _⟩ := laid_sentinel h3 gR gRType Tryz.underlying81 esRow Tryz.underlying195 Tryz.underlying197 rfl rfl Tryz.underlying9 cellsES cellsStr
    exact ⟨_, _, hv⟩

def rangeS : ByteArray := { data := #[118, 97, 108, 117, 101, 32, 111, 117, 116, 32, 111, 102, 32, 114, 97, 110, 103, 101] }
def syntaxS : ByteArray := { data := #[105, 110, 118, 97, 108, 105, 100, 32, 115, 121, 110, 116, 97, 120] }
/-- So many blocks has the settled world. -/
noncomputable def low : Nat := (World.holding Tryz.prog default ⟨#[], #[], []⟩).heap.size
/-- A WORLD FOR THE WITNESS: the settled one, the tables' blocks holding what their initialisers lay; two blocks more, of the errors. -/
noncomputable def laidWorld (os : Os) : World :=
  let w0 := World.holding Tryz.prog os ⟨#[.cells #[.string rangeS] 197, .cells #[.string syntaxS] 197], #[], []⟩
  { w0 with heap := ((((w0.heap.modify 4 (fun
      | .cells _ t frozen => .cells (Lib.deBruijn32tab.map fun (z : Nat) => Value.int .u8 z).toArray t frozen
      | o => o)).modify 5 (fun
      | .cells _ t frozen => .cells (Lib.deBruijn64tab.map fun (z : Nat) => Value.int .u8 z).toArray t frozen
      | o => o)).modify 2 (fun
      | .cells _ t frozen => .cells (Lib.pow10Tab.map fun (z : Int) => Value.int .u64 z).toArray t frozen
      | o => o)).modify 1 (fun
      | .cells _ t frozen => .cells #[.iface 195 (.pointer (some ⟨low, 0, none⟩))] t frozen
      | o => o)).modify 0 (fun
      | .cells _ t frozen => .cells #[.iface 195 (.pointer (some ⟨low + 1, 0, none⟩))] t frozen
      | o => o) }
end Go.Proofs.YtbidppjhenfjdaaGreatDoor
namespace Go.Proofs.YtbidppjhenfjdaaGreatDoor.scriptPrints
open Go.ChangeShapes Go.WideShapes Go.ChangeAt Go.RowKit
open Go.ChangeMaps (open_string shut_string)
set_option linter.unusedVariables false

set_option maxRecDepth 100000 in
theorem contract (H : Type) (enc : TypeId × Value → H) (W : World) (base : Nat) (args : Array Value) (ds gs : List (DataW H)) (before : List MemPlace)
    (hval : ∀ (j : Nat) t v, Tryz.f4.params[j]? = some t → args[j]? = some v → Value.okWide Tryz.prog W .any base t v)
    (hW : DataW.Whole enc Tryz.prog Tryz.f4.params.toList Rows.scriptPrintsSpec.vars false W args.toList ds gs before) (hL : laidMetH Tryz.prog laid1 W) (hWt : (DataW.weightsEach Tryz.prog (Tryz.f4.params.toList ++ []) (ds ++ gs)).all (· ≤ reachBytes) = true) :
    Calls Tryz.prog 4 args W fun e W' => ∃ v, e = .returned v ∧ Rows.scriptPrintsSpec.post enc Tryz.prog Tryz.f4 false true false false W args v W' := by
  have hW' := hW
  obtain ⟨p, q, hA0, hV, rfl, hfz, hnd⟩ := hW
  have hA : DataW.TrodAll enc Tryz.prog W 0 (fun _ => true) true Tryz.f4.params.toList args.toList ds p := hA0
  rw [Tryz.params4] at hA hval hWt
  obtain ⟨v0, vs0, d0, ds0, p0, q0, hargs, rfl, rfl, h0, r0⟩ := trodAll_cons hA
  obtain ⟨rfl, rfl, rfl⟩ := trodAll_nil r0
  obtain rfl : args = #[v0] := by cases args; simp_all
  obtain ⟨rfl, rfl⟩ := trodVars_none hV
  have hWt' : (DataW.weightsEach Tryz.prog [23] [d0]).all (· ≤ reachBytes) = true := hWt
  simp only [DataW.weightsEach, List.all_append, Bool.and_eq_true] at hWt'
  obtain ⟨w0, _⟩ := hWt'
  clear hA0
  simp only [List.append_nil] at hW'
  have hlt : ∀ x ∈ p0, x.block < W.heap.size := fun x hx => by simpa using hW'.lt x (by simpa using hx)
  have k0 := h0
  obtain ⟨xs0, hx0, hf0⟩ := open_steps (hval 0 23 v0 rfl rfl) h0 w0
  refine (scriptPrints_walk v0 xs0 W hx0 hf0 (table hL)).mono fun e W' ⟨he, hk⟩ => ?_
  subst he
  have hb := hk.below
  exact ⟨_, rfl, _, _, _, [], p0 ++ [], [], hW', trodAll_cons_mk (shut_bool Tryz.underlying4 _) trodAll_mk0, trodAll_cons_mk (Below.trod laidOut (by kernel_rfl) (of_decide_eq_true (by kernel_rfl)) k0 hb (fun x hx => hlt x (by simp [hx]))) trodAll_mk0, rfl, hb.frame _, fun h => by cases h⟩

theorem laid_met (os : Os) : laidMet Tryz.prog laid1 ((laidWorld os).forCall (fun _ _ => 0) ⟨#[], #[.slice none 0 0], []⟩).memory :=
  laidMet_of_run' 8 (by kernel_rfl) (by kernel_rfl)
theorem reads (os : Os) {H : Type} (enc : TypeId × Value → H) : ∃ places, DataW.whole enc Tryz.prog ((laidWorld os).forCall (fun _ _ => 0) ⟨#[], #[.slice none 0 0], []⟩).memory Tryz.f4.params.toList Rows.scriptPrintsSpec.vars false #[(.slice none 0 0 : Value)].toList 8 = some ([.nil], [], places) :=
  ⟨[], by kernel_rfl⟩

set_option maxRecDepth 100000 in
theorem lifted (os : Os) (started : os.Started) (H : Type) (enc : TypeId × Value → H) (F : Stop.Interp) :
    ReturnsInHanded {} Tryz.checked os 4 .any ((OpenSpec.ofChange Rows.scriptPrintsSpec).preRow enc Tryz.prog Tryz.f4 Rows.scriptPrintsRow.domain false Rows.scriptPrintsRow.laid) (((OpenSpec.ofChange Rows.scriptPrintsSpec).at F).post enc Tryz.prog Tryz.f4 false true false false) := by
  obtain ⟨places, hx⟩ := reads os enc
  refine returnsInHanded_of_row (C := Tryz.checked) (s := OpenSpec.ofChange Rows.scriptPrintsSpec) own started (by kernel_rfl) Tryz.func4
    (witness_row_at (enc := enc) (C := Tryz.checked) false (laidWorld os) #[.slice none 0 0] rfl (by kernel_rfl) (by kernel_rfl) (by kernel_rfl)
      (OpenSpec.preRow_of_cond 8 hx (by kernel_rfl) (fun k hk => by cases hk) (by kernel_rfl) (laid_met os))) ?_
  intro W base args ds gs before hval hW _ _ hWt hL _ _
  exact contract H enc W base args ds gs before hval hW hL hWt

theorem said : Rows.ScriptPrintsSaid :=
  OpenClaim.holds_of_cond 4 Tryz.f4 rfl rfl rfl rfl rfl rfl rfl ⟨rfl, rfl, rfl, rfl, rfl⟩ rfl rfl rfl rfl rfl (by kernel_rfl) Tryz.func4 (by kernel_rfl)
    (of_decide_eq_true (by kernel_rfl)) (by unfold Func.isWrapper; first | (rw [if_pos (by decide +kernel)]; kernel_rfl) | (rw [if_neg (by decide +kernel)]; exact ⟨rfl, rfl⟩))
    (fun os started H enc _ F => by rw [OpenClaim.pre_eq_preRow]; exact lifted os started H enc F)

/-- No parameter wants a stand-in; the program's own looks are off. -/
theorem plain (f : FuncId) (fn : Func) (hf : Tryz.pinned.checked.prog.funcNamed "hearsay/hearsaylaw22.ScriptPrints" = some f) (hfn : Tryz.pinned.checked.prog.funcs[f]? = some fn) :
    true = Tryz.pinned.checked.prog.looks [] ∧ ∀ (j : Nat) t, fn.params[j]? = some t → Tryz.pinned.checked.prog.wantsStandIn t = false := by
  obtain rfl : f = 4 := Option.some.inj ((show Tryz.prog.funcNamed "hearsay/hearsaylaw22.ScriptPrints" = some 4 by kernel_rfl).symm.trans hf) |>.symm
  obtain rfl : fn = Tryz.f4 := (Option.some.inj (Tryz.func4.symm.trans hfn)).symm
  refine ⟨by kernel_rfl, fun j t ht => ?_⟩
  rw [Tryz.params4] at ht
  have hm := Array.mem_of_getElem? ht
  simp at hm
  subst hm
  exact (show Tryz.prog.wantsStandIn 23 = false by kernel_rfl)

/-- THE CARD. -/
theorem card : Rows.ScriptPrintsCardSaid :=
  Claim7.holds_tied_plain_at .later [] _ _ _ _ said (fun _ h => by cases h) (by kernel_rfl) (fun _ h => by cases h) scriptPrints_row_tie rfl ⟨rfl, rfl⟩ (by kernel_rfl) rfl plain (by kernel_rfl)
end Go.Proofs.YtbidppjhenfjdaaGreatDoor.scriptPrints
