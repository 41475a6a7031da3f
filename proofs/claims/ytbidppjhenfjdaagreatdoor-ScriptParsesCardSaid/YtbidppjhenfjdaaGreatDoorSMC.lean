/-
  Chapter 22's reference: Parse.
-/
import Derived.Test.YtbidppjhenfjdaaGreatDoorScnP
import Derived.Test.YtbidppjhenfjdaaGreatDoorGlyX
import Derived.Deep.CutRange
import Derived.Test.YtbidppjhenfjdaaGreatDoorSMB
import Derived.Test.YtbidppjhenfjdaaGreatDoorSMA
namespace Go.Proofs.YtbidppjhenfjdaaGreatDoor
open Go.RowKit
set_option linter.unusedVariables false
set_option linter.unusedSimpArgs false

def fnCs : List Fn → List Value
  | [] => []
  | f :: L => f.vals.toList ++ fnCs L
theorem fnCs_snoc (L : List Fn) (f : Fn) : fnCs (L ++ [f]) = fnCs L ++ f.vals.toList := by
  induction L with
  | nil => simp [fnCs]
  | cons g L ih => simp [fnCs, ih]
theorem info_found : (Tryz.prog.info? 73).map (fun i => (i.zero, i.size, i.bytes)) = some (some (.agg #[.int .i64 0, .string ⟨#[]⟩, .int .i64 0, .int .i64 0, .int .i64 0, .int .i64 0]), 6, 56) := by kernel_rfl
/-- The list so far. -/
def OutAt (w : World) (v : Value) (L : List Fn) (W : World) : Prop := W.ownsRow w.heap.size 73 6 v L.length (fnCs L) ∧ Keep [] w W ∧ (v = .slice none 0 0 ↔ L.length = 0)
theorem OutAt.keep {w W W' : World} {v : Value} {L : List Fn} (h : OutAt w v L W) (k : Keep [] W W') : OutAt w v L W' := ⟨k.owns h.1 (by simp), h.2.1.trans0 k, h.2.2⟩
theorem OutAt.snoc {w W : World} {v : Value} {L : List Fn} {f : Fn} {cs : List Value} (hc : f.vals.toList = cs) (h : W.ownsRow w.heap.size 73 6 v (L.length + 1) (fnCs L ++ cs) ∧ Keep [] w W ∧ (v = .slice none 0 0 ↔ L.length + 1 = 0)) : OutAt w v (L ++ [f]) W := by
  unfold OutAt
  rw [fnCs_snoc, hc, List.length_append, List.length_singleton]
  exact h
theorem ar8 {c n : Nat} {d : Int} (h : d = (c : Nat)) (e : c = n) : (d != (n : Int)) = false := by simp; omega
theorem own_not_type {w : World} {base sz : Nat} {e t : TypeId} {v : Value} {n : Nat} {xs : List Value} {i : Nat} {c : Array Value} {f : Nat × Nat} (h : w.ownsRow base e sz v n xs) (hi : w.heap[i]? = some (.cells c t f)) (ht : t ≠ e) : i ∉ v.ownBlock.toList := by
  intro hm
  simp at hm
  rcases h.2 with ⟨rfl, _⟩ | ⟨g, cap, cur, rfl, _, hg, _⟩
  · simp [Value.ownBlock] at hm
  · simp [Value.ownBlock] at hm
    subst hm
    rw [hg] at hi
    injection hi with hi
    injection hi with _ hi _
    exact ht hi.symm
/-- Between the rounds. -/
def ScI (s : ByteArray) (w : World) (v : Value) (a l : Nat) (sm : Bool) (L : List Fn) (W : World) : Prop := OutAt w v L W ∧ a ≤ s.size ∧ l ≤ a + 1 ∧ scn s 0 1 false = L ++ scn s a l sm ∧ L.length ≤ a

set_option maxHeartbeats 64000000 in
set_option maxRecDepth 100000 in
theorem rscan_any (s : ByteArray) (w : World) (hz : s.size ≤ 100000000) :
    Calls Tryz.prog 21 #[.string s] w (NewSl 73 6 (scn s 0 1 false).length (fnCs (scn s 0 1 false)) w) := by
  obtain ⟨i0, hi, hz0, hz1, hz2⟩ := info_parts info_found
  have HI := Lib.hid hi; have HZ0 := Lib.hid hz0; have HZ1 := Lib.hid hz1; have HZ2 := Lib.hid hz2
  clear hi hz0 hz1 hz2
  have HRET : Hid (∀ (v : Value) (W : World) (L : List Fn), scn s 0 1 false = L → OutAt w v L W → NewSl 73 6 (scn s 0 1 false).length (fnCs (scn s 0 1 false)) w (.returned v) W) := Lib.hid (fun v W L hL ho => by rw [hL]; exact ⟨v, rfl, ho.1, ho.2.1, ho.2.2⟩)
  go_enter Tryz.func21, Tryz.ntmps21
  go_wp2
  go_loopw [3, 4, 5, 6] (fun v lv sv av wr => ∃ (a l : Nat) (sm : Bool) (L : List Fn), lv = .int .i64 l ∧ sv = .bool sm ∧ av = .int .i64 a ∧ ScI s w v a l sm L wr) (fun _ _ _ av _ => s.size - (intOf av).toNat)
  case atStart => exact ⟨0, 1, false, [], rfl, rfl, rfl, ⟨World.ownsRow_nil _ _ _ _, Keep.refl _ _, by simp⟩, Nat.zero_le _, Nat.le_refl _, rfl, Nat.le_refl _⟩
  case round =>
    obtain ⟨a, l, sm, L, rfl, rfl, rfl, ho, ha, hla, hsc, hln⟩ := hrel
    have HO := Lib.hid ho.1; have HK := Lib.hid ho.2.1; have HN := Lib.hid ho.2.2; have HSC := Lib.hid hsc
    have HOA := Lib.hid ho
    have HLN := Lib.hid (show L.length ≤ 100000000 by omega)
    have HLA := Lib.hid (show L.length ≤ a ∧ l ≤ a + 1 ∧ a ≤ s.size from ⟨hln, hla, ha⟩)
    have hlz : l ≤ 100000001 := by omega
    clear ho hsc hln hla
    by_cases hlt : a < s.size
    · have f1 := dec_le_f (show ¬ (s.size : Int) ≤ (a : Int) by omega)
      have f2 := dec_len_f (show ¬ s.size ≤ a by omega)
      have hix := byte_z (s := s) (i := a) (z := (a : Nat)) hlt rfl
      have hbl := byt_lt s a
      have hcs : (byt s a = 10 ∨ byt s a = 13) ∨ (byt s a = 32 ∨ byt s a = 9) ∨ byt s a = 35 ∨ (WordAt s a ∧ byt s a ≠ 34) ∨ (WordAt s a ∧ byt s a = 34) := by unfold WordAt; omega
      rcases hcs with hc | hc | hc | ⟨hw, hc⟩ | ⟨hw, hc⟩
      · -- a line's end
        have HS2 := Lib.hid (HSC.out.trans (by rw [scn_line hlt hc]))
        have hlb := lineB_more hlt
        have hi2 : byt s a = 13 → a + 1 < s.size → ∀ W, _ := fun _ h W => byte_z (s := s) (i := a + 1) (z := (a : Int) + 1) h (by omega) W
        have hcase : (byt s a = 10 ∧ lineB s a = a + 1) ∨ (byt s a = 13 ∧ a + 1 < s.size ∧ byt s (a + 1) = 10 ∧ lineB s a = a + 2) ∨ (byt s a = 13 ∧ a + 1 < s.size ∧ byt s (a + 1) ≠ 10 ∧ lineB s a = a + 1) ∨ (byt s a = 13 ∧ ¬ a + 1 < s.size ∧ lineB s a = a + 1) := by
          unfold lineB
          split <;> omega
        have hbb := byt_lt s (a + 1)
        clear hc
        rcases hcase with ⟨hc, hb⟩ | ⟨hc, hn1, hn2, hb⟩ | ⟨hc, hn1, hn2, hb⟩ | ⟨hc, hn1, hb⟩
        · rw [hc] at hix
          rw [hb] at HS2 hlb
          clear hc hb hi2 hbb hbl hlt
          cases sm with
          | false =>
            have HS3 := Lib.hid (show scn s 0 1 false = L ++ scn s (a + 1) (l + 1) false from HS2.out)
            go_wp2
            go_roundw
            case rel => exact ⟨_, l + 1, false, L, by go_num, rfl, by go_num, HOA.out, hlb.2, by have := HLA.out; omega, HS3.out, by have := HLA.out; omega⟩
            case measure => simp [intOf]; omega
          | true =>
            have HS3 := Lib.hid (show scn s 0 1 false = (L ++ [⟨4, ByteArray.empty, 0, a, l, 0⟩]) ++ scn s (a + 1) (l + 1) false by rw [HS2.out, List.append_assoc]; rfl)
            go_wp2_with (at_builtin; refine wpList_append_mine _ rfl (.tmp 27) (.tmp 32) 70 rfl w.heap.size 73 i0 (.agg #[.int .i64 0, .string ⟨#[]⟩, .int .i64 0, .int .i64 0, .int .i64 0, .int .i64 0]) 6 56 Tryz.underlying70 HI.out HZ0.out HZ1.out HZ2.out rfl (by decide) _ _ _ rfl (HO.out.alloc _) ⟨wr.heap.size, 0, none⟩ 1 1 [.int .i64 4, .string ⟨#[]⟩, .int .i64 0, .int .i64 (a : Nat), .int .i64 (l : Nat), .int .i64 0] rfl rfl (cell_new_row _ _ _) (by simp [Value.oneCell']) (by have := HLN.out; unfold maxLen; omega) (by have := HLN.out; omega) (by have := HK.out.size; simp; omega) ?_; intro v' W2 hp2; have hfin := Lib.hid (own_next HO.out HK.out ((Keep.refl _ _).alloc _) hp2 (by omega)); clear hp2)
            go_roundw
            case rel => exact ⟨_, l + 1, false, L ++ [⟨4, ByteArray.empty, 0, a, l, 0⟩], by go_num, rfl, by go_num, OutAt.snoc (f := ⟨4, ByteArray.empty, 0, a, l, 0⟩) rfl hfin.out, hlb.2, by have := HLA.out; omega, HS3.out, by have := HLA.out; rw [List.length_append, List.length_singleton]; omega⟩
            case measure => simp [intOf]; omega
        · have hi3 := hi2 hc hn1
          have g1 := dec_lt_t (show (a : Int) + 1 < (s.size : Int) by omega)
          have g2 := dec_ltn_t hn1
          rw [hn2] at hi3
          rw [hc] at hix
          rw [hb] at HS2 hlb
          clear hc hb hi2 hbb hbl hlt hn1 hn2
          cases sm with
          | false =>
            have HS3 := Lib.hid (show scn s 0 1 false = L ++ scn s (a + 2) (l + 1) false from HS2.out)
            go_wp2
            go_roundw
            case rel => exact ⟨_, l + 1, false, L, by go_num, rfl, by go_num, HOA.out, hlb.2, by have := HLA.out; omega, HS3.out, by have := HLA.out; omega⟩
            case measure => simp [intOf]; omega
          | true =>
            have HS3 := Lib.hid (show scn s 0 1 false = (L ++ [⟨4, ByteArray.empty, 0, a, l, 0⟩]) ++ scn s (a + 2) (l + 1) false by rw [HS2.out, List.append_assoc]; rfl)
            go_wp2_with (at_builtin; refine wpList_append_mine _ rfl (.tmp 27) (.tmp 32) 70 rfl w.heap.size 73 i0 (.agg #[.int .i64 0, .string ⟨#[]⟩, .int .i64 0, .int .i64 0, .int .i64 0, .int .i64 0]) 6 56 Tryz.underlying70 HI.out HZ0.out HZ1.out HZ2.out rfl (by decide) _ _ _ rfl (HO.out.alloc _) ⟨wr.heap.size, 0, none⟩ 1 1 [.int .i64 4, .string ⟨#[]⟩, .int .i64 0, .int .i64 (a : Nat), .int .i64 (l : Nat), .int .i64 0] rfl rfl (cell_new_row _ _ _) (by simp [Value.oneCell']) (by have := HLN.out; unfold maxLen; omega) (by have := HLN.out; omega) (by have := HK.out.size; simp; omega) ?_; intro v' W2 hp2; have hfin := Lib.hid (own_next HO.out HK.out ((Keep.refl _ _).alloc _) hp2 (by omega)); clear hp2)
            go_roundw
            case rel => exact ⟨_, l + 1, false, L ++ [⟨4, ByteArray.empty, 0, a, l, 0⟩], by go_num, rfl, by go_num, OutAt.snoc (f := ⟨4, ByteArray.empty, 0, a, l, 0⟩) rfl hfin.out, hlb.2, by have := HLA.out; omega, HS3.out, by have := HLA.out; rw [List.length_append, List.length_singleton]; omega⟩
            case measure => simp [intOf]; omega
        · have hi3 := hi2 hc hn1
          have g1 := dec_lt_t (show (a : Int) + 1 < (s.size : Int) by omega)
          have g2 := dec_ltn_t hn1
          obtain ⟨d, hd⟩ : ∃ d : Int, d = ((byt s (a + 1) : Nat) : Int) := ⟨_, rfl⟩
          rw [← hd] at hi3
          have g3 : (d == 10) = false := ((ar4 hd).2 hn2).1
          rw [hc] at hix
          rw [hb] at HS2 hlb
          clear hc hb hi2 hbb hbl hlt hn1 hn2 hd
          cases sm with
          | false =>
            have HS3 := Lib.hid (show scn s 0 1 false = L ++ scn s (a + 1) (l + 1) false from HS2.out)
            go_wp2
            go_roundw
            case rel => exact ⟨_, l + 1, false, L, by go_num, rfl, by go_num, HOA.out, hlb.2, by have := HLA.out; omega, HS3.out, by have := HLA.out; omega⟩
            case measure => simp [intOf]; omega
          | true =>
            have HS3 := Lib.hid (show scn s 0 1 false = (L ++ [⟨4, ByteArray.empty, 0, a, l, 0⟩]) ++ scn s (a + 1) (l + 1) false by rw [HS2.out, List.append_assoc]; rfl)
            go_wp2_with (at_builtin; refine wpList_append_mine _ rfl (.tmp 27) (.tmp 32) 70 rfl w.heap.size 73 i0 (.agg #[.int .i64 0, .string ⟨#[]⟩, .int .i64 0, .int .i64 0, .int .i64 0, .int .i64 0]) 6 56 Tryz.underlying70 HI.out HZ0.out HZ1.out HZ2.out rfl (by decide) _ _ _ rfl (HO.out.alloc _) ⟨wr.heap.size, 0, none⟩ 1 1 [.int .i64 4, .string ⟨#[]⟩, .int .i64 0, .int .i64 (a : Nat), .int .i64 (l : Nat), .int .i64 0] rfl rfl (cell_new_row _ _ _) (by simp [Value.oneCell']) (by have := HLN.out; unfold maxLen; omega) (by have := HLN.out; omega) (by have := HK.out.size; simp; omega) ?_; intro v' W2 hp2; have hfin := Lib.hid (own_next HO.out HK.out ((Keep.refl _ _).alloc _) hp2 (by omega)); clear hp2)
            go_roundw
            case rel => exact ⟨_, l + 1, false, L ++ [⟨4, ByteArray.empty, 0, a, l, 0⟩], by go_num, rfl, by go_num, OutAt.snoc (f := ⟨4, ByteArray.empty, 0, a, l, 0⟩) rfl hfin.out, hlb.2, by have := HLA.out; omega, HS3.out, by have := HLA.out; rw [List.length_append, List.length_singleton]; omega⟩
            case measure => simp [intOf]; omega
        · have g1 := dec_lt_f (show ¬ (a : Int) + 1 < (s.size : Int) by omega)
          have g2 := dec_ltn_f hn1
          rw [hc] at hix
          rw [hb] at HS2 hlb
          clear hc hb hi2 hbb hbl hlt hn1
          cases sm with
          | false =>
            have HS3 := Lib.hid (show scn s 0 1 false = L ++ scn s (a + 1) (l + 1) false from HS2.out)
            go_wp2
            go_roundw
            case rel => exact ⟨_, l + 1, false, L, by go_num, rfl, by go_num, HOA.out, hlb.2, by have := HLA.out; omega, HS3.out, by have := HLA.out; omega⟩
            case measure => simp [intOf]; omega
          | true =>
            have HS3 := Lib.hid (show scn s 0 1 false = (L ++ [⟨4, ByteArray.empty, 0, a, l, 0⟩]) ++ scn s (a + 1) (l + 1) false by rw [HS2.out, List.append_assoc]; rfl)
            go_wp2_with (at_builtin; refine wpList_append_mine _ rfl (.tmp 27) (.tmp 32) 70 rfl w.heap.size 73 i0 (.agg #[.int .i64 0, .string ⟨#[]⟩, .int .i64 0, .int .i64 0, .int .i64 0, .int .i64 0]) 6 56 Tryz.underlying70 HI.out HZ0.out HZ1.out HZ2.out rfl (by decide) _ _ _ rfl (HO.out.alloc _) ⟨wr.heap.size, 0, none⟩ 1 1 [.int .i64 4, .string ⟨#[]⟩, .int .i64 0, .int .i64 (a : Nat), .int .i64 (l : Nat), .int .i64 0] rfl rfl (cell_new_row _ _ _) (by simp [Value.oneCell']) (by have := HLN.out; unfold maxLen; omega) (by have := HLN.out; omega) (by have := HK.out.size; simp; omega) ?_; intro v' W2 hp2; have hfin := Lib.hid (own_next HO.out HK.out ((Keep.refl _ _).alloc _) hp2 (by omega)); clear hp2)
            go_roundw
            case rel => exact ⟨_, l + 1, false, L ++ [⟨4, ByteArray.empty, 0, a, l, 0⟩], by go_num, rfl, by go_num, OutAt.snoc (f := ⟨4, ByteArray.empty, 0, a, l, 0⟩) rfl hfin.out, hlb.2, by have := HLA.out; omega, HS3.out, by have := HLA.out; rw [List.length_append, List.length_singleton]; omega⟩
            case measure => simp [intOf]; omega
      · -- a blank
        have HS2 := Lib.hid (HSC.out.trans (by rw [scn_blank hlt hc]))
        rcases hc with hc | hc
        all_goals
          rw [hc] at hix
          clear hc hbl
          go_wp2
          go_roundw
          case rel => exact ⟨a + 1, l, sm, L, rfl, rfl, by go_num, HOA.out, by omega, by have := HLA.out; omega, HS2.out, by have := HLA.out; omega⟩
          case measure => simp [intOf]; omega
      · -- a remark
        have HS2 := Lib.hid (show scn s 0 1 false = L ++ scn s (rem s a) l sm by rw [HSC.out, scn_rem hlt hc])
        have hra : a < rem s a ∧ rem s a ≤ s.size := by
          have h1 := rem_on (s := s) (i := a) ⟨hlt, by omega, by omega⟩
          have h2 := rem_spec s s.size (a + 1) (by omega) (by omega)
          omega
        have HRA := Lib.hid hra
        rw [hc] at hix
        clear hc hbl hra f1 f2
        go_wp2
        clear hix
        go_loopw [6] (fun av wx => ∃ i : Nat, av = .int .i64 i ∧ i ≤ s.size ∧ rem s a = rem s i ∧ wr = wx) (fun av _ => s.size - (intOf av).toNat)
        case atStart => exact ⟨a, rfl, by omega, rfl, rfl⟩
        case round =>
          obtain ⟨i, rfl, hi, hr, rfl⟩ := hrel
          have HRR := Lib.hid hr; clear hr
          by_cases his : i < s.size
          · have g1 := dec_lt_t (show (i : Int) < (s.size : Int) by omega)
            have g2 := dec_ltn_t his
            have hix := byte_z (s := s) (i := i) (z := (i : Nat)) his rfl
            obtain ⟨c, hcc⟩ : ∃ c : Int, c = ((byt s i : Nat) : Int) := ⟨_, rfl⟩
            rw [← hcc] at hix
            by_cases e1 : byt s i = 10
            · have HE := Lib.hid (HRR.out.trans (rem_end (fun h => h.2.1 e1)))
              have g3 : (c != 10) = false := ar8 hcc e1
              clear e1 hcc
              go_wp2
              go_roundw
              case rel => exact ⟨i, l, sm, L, rfl, rfl, rfl, HOA.out, hi, by have := HLA.out; have := HRA.out; have := HE.out; omega, by rw [HS2.out, HE.out], by have := HLA.out; have := HRA.out; have := HE.out; omega⟩
              case measure => have := HRA.out; have := HE.out; simp [intOf]; omega
            · have g3 : (c != 10) = true := ((ar4 hcc).2 e1).2
              by_cases e2 : byt s i = 13
              · have HE := Lib.hid (HRR.out.trans (rem_end (fun h => h.2.2 e2)))
                have g4 : (c != 13) = false := ar8 hcc e2
                clear e1 e2 hcc
                go_wp2
                go_roundw
                case rel => exact ⟨i, l, sm, L, rfl, rfl, rfl, HOA.out, hi, by have := HLA.out; have := HRA.out; have := HE.out; omega, by rw [HS2.out, HE.out], by have := HLA.out; have := HRA.out; have := HE.out; omega⟩
                case measure => have := HRA.out; have := HE.out; simp [intOf]; omega
              · have g4 : (c != 13) = true := ((ar4 hcc).2 e2).2
                have HE := Lib.hid (HRR.out.trans (rem_on ⟨his, e1, e2⟩))
                clear e1 e2 hcc
                go_wp2
                go_roundw
                case rel => exact ⟨i + 1, by go_num, by omega, HE.out, by trivial⟩
                case measure => simp [intOf]; omega
          · have g1 := dec_lt_f (show ¬ (i : Int) < (s.size : Int) by omega)
            have g2 := dec_ltn_f his
            have HE := Lib.hid (HRR.out.trans (rem_end (fun h => his h.1)))
            clear his
            go_wp2
            go_roundw
            case rel => exact ⟨i, l, sm, L, rfl, rfl, rfl, HOA.out, hi, by have := HLA.out; have := HRA.out; have := HE.out; omega, by rw [HS2.out, HE.out], by have := HLA.out; have := HRA.out; have := HE.out; omega⟩
            case measure => have := HRA.out; have := HE.out; simp [intOf]; omega
      · -- a word that is not quoted
        obtain ⟨⟨⟨fk, ft, fn, fa, fl, fe⟩, o⟩, hpl⟩ : ∃ r, plF s a l = r := ⟨_, rfl⟩
        have hwe := hw.ends
        have hp0 := rplain_any s a l wr hz hwe
        rw [hpl] at hp0
        have HP := Lib.hid (show Calls Tryz.prog 50 #[.string s, .int .i64 (a : Nat), .int .i64 (l : Nat)] wr fun e w' => e = .returned (.tuple #[.agg #[.int .i64 (fk : Nat), .string ft, .int .i64 fn, .int .i64 (fa : Nat), .int .i64 (fl : Nat), .int .i64 (fe : Nat)], .int .i64 (endV o)]) ∧ Keep [] wr w' from hp0)
        clear hp0
        obtain ⟨c, hcc⟩ : ∃ c : Int, c = ((byt s a : Nat) : Int) := ⟨_, rfl⟩
        rw [← hcc] at hix
        obtain ⟨_, w1, w2, w3, w4, w5⟩ := hw
        have g1 : (c == 10) = false := ((ar4 hcc).2 w1).1
        have g2 : (c == 13) = false := ((ar4 hcc).2 w2).1
        have g3 : (c == 32) = false := ((ar4 hcc).2 w3).1
        have g4 : (c == 9) = false := ((ar4 hcc).2 w4).1
        have g5 : (c == 35) = false := ((ar4 hcc).2 w5).1
        have g6 : (c != 34) = true := ((ar4 hcc).2 hc).2
        have hwd : WordAt s a := ⟨hlt, w1, w2, w3, w4, w5⟩
        cases o with
        | none =>
          have HS2 := Lib.hid (show scn s 0 1 false = L ++ [⟨fk, ft, fn, fa, fl, fe⟩] by rw [HSC.out, scn_bad hwd hc hpl])
          clear w1 w2 w3 w4 w5 hc hcc hwd hpl hwe hlt hbl
          go_wp2_with fail
          refine HP.out.mono ?_
          rintro e W1 ⟨rfl, hk1⟩
          have HOA1 := Lib.hid (HOA.out.keep hk1)
          clear hk1 HP
          simp only [endV]
          go_upto_region 23 with (fail)
          obtain ⟨W3, hW3⟩ : ∃ W, W = W1.alloc (.cells #[.int .i64 (fk : Nat), .string ft, .int .i64 fn, .int .i64 (fa : Nat), .int .i64 (fl : Nat), .int .i64 (fe : Nat)] 73) := ⟨_, rfl⟩
          have hb3 : W3.heap[W1.heap.size]? = some (.cells #[.int .i64 (fk : Nat), .string ft, .int .i64 fn, .int .i64 (fa : Nat), .int .i64 (fl : Nat), .int .i64 (fe : Nat)] 73 (0, 0)) := by rw [hW3]; exact World.alloc_heap_new W1 _
          have ho3 : OutAt w u3 L W3 := by rw [hW3]; exact HOA1.out.keep ((Keep.refl _ _).alloc _)
          rw [← hW3]
          clear hW3
          generalize W1.heap.size = g at *
          have hl3 := load_row (P := Tryz.prog) (t := 73) Tryz.underlying73 rfl found_info hb3 rfl
          have HO3 := Lib.hid ho3.1; have HK3 := Lib.hid ho3.2.1
          clear ho3 hb3
          go_wp2_with (with_reducible refine park_load 7 _ rfl ?_)
          refine wpList_load_eq rfl _ (.tmp 7) rfl hl3 ?_
          clear hl3
          go_wp2_with (at_builtin; refine wpList_append_mine _ rfl (.tmp 108) (.tmp 110) 70 rfl w.heap.size 73 i0 (.agg #[.int .i64 0, .string ⟨#[]⟩, .int .i64 0, .int .i64 0, .int .i64 0, .int .i64 0]) 6 56 Tryz.underlying70 HI.out HZ0.out HZ1.out HZ2.out rfl (by decide) _ _ _ rfl (HO3.out.alloc _) ⟨W3.heap.size, 0, none⟩ 1 1 [.int .i64 (fk : Nat), .string ft, .int .i64 fn, .int .i64 (fa : Nat), .int .i64 (fl : Nat), .int .i64 (fe : Nat)] rfl rfl (cell_new_row _ _ _) (by simp [Value.oneCell']) (by have := HLN.out; unfold maxLen; omega) (by have := HLN.out; omega) (by have := HK3.out.size; simp; omega) ?_; intro v' W2 hp2; have hfin := Lib.hid (own_next HO3.out HK3.out ((Keep.refl _ _).alloc _) hp2 (by omega)); clear hp2)
          go_ret
          exact HRET.out _ _ _ HS2.out (OutAt.snoc (f := ⟨fk, ft, fn, fa, fl, fe⟩) rfl hfin.out)
        | some e =>
          have hm := plF_more hwe (by rw [hpl])
          have HM := Lib.hid hm
          have HS2 := Lib.hid (show scn s 0 1 false = (L ++ [⟨fk, ft, fn, fa, fl, fe⟩]) ++ scn s e l true by rw [HSC.out, scn_plain hwd hc hpl, List.append_assoc]; rfl)
          have g7 := dec_lt_f (show ¬ (e : Int) < 0 by omega)
          clear w1 w2 w3 w4 w5 hc hcc hwd hpl hwe hlt hbl hm
          go_wp2_with fail
          refine HP.out.mono ?_
          rintro e' W1 ⟨rfl, hk1⟩
          have HOA1 := Lib.hid (HOA.out.keep hk1)
          clear hk1 HP
          simp only [endV]
          go_upto_region 23 with (fail)
          obtain ⟨W3, hW3⟩ : ∃ W, W = W1.alloc (.cells #[.int .i64 (fk : Nat), .string ft, .int .i64 fn, .int .i64 (fa : Nat), .int .i64 (fl : Nat), .int .i64 (fe : Nat)] 73) := ⟨_, rfl⟩
          have hb3 : W3.heap[W1.heap.size]? = some (.cells #[.int .i64 (fk : Nat), .string ft, .int .i64 fn, .int .i64 (fa : Nat), .int .i64 (fl : Nat), .int .i64 (fe : Nat)] 73 (0, 0)) := by rw [hW3]; exact World.alloc_heap_new W1 _
          have ho3 : OutAt w u3 L W3 := by rw [hW3]; exact HOA1.out.keep ((Keep.refl _ _).alloc _)
          rw [← hW3]
          clear hW3
          generalize W1.heap.size = g at *
          have hl3 := load_row (P := Tryz.prog) (t := 73) Tryz.underlying73 rfl found_info hb3 rfl
          have HO3 := Lib.hid ho3.1; have HK3 := Lib.hid ho3.2.1
          clear ho3 hb3
          go_wp2_with (with_reducible refine park_load 7 _ rfl ?_)
          refine wpList_load_eq rfl _ (.tmp 7) rfl hl3 ?_
          clear hl3
          go_wp2_with (at_builtin; refine wpList_append_mine _ rfl (.tmp 108) (.tmp 110) 70 rfl w.heap.size 73 i0 (.agg #[.int .i64 0, .string ⟨#[]⟩, .int .i64 0, .int .i64 0, .int .i64 0, .int .i64 0]) 6 56 Tryz.underlying70 HI.out HZ0.out HZ1.out HZ2.out rfl (by decide) _ _ _ rfl (HO3.out.alloc _) ⟨W3.heap.size, 0, none⟩ 1 1 [.int .i64 (fk : Nat), .string ft, .int .i64 fn, .int .i64 (fa : Nat), .int .i64 (fl : Nat), .int .i64 (fe : Nat)] rfl rfl (cell_new_row _ _ _) (by simp [Value.oneCell']) (by have := HLN.out; unfold maxLen; omega) (by have := HLN.out; omega) (by have := HK3.out.size; simp; omega) ?_; intro v' W2 hp2; have hfin := Lib.hid (own_next HO3.out HK3.out ((Keep.refl _ _).alloc _) hp2 (by omega)); clear hp2)
          go_roundw
          case rel => exact ⟨e, l, true, L ++ [⟨fk, ft, fn, fa, fl, fe⟩], rfl, rfl, rfl, OutAt.snoc (f := ⟨fk, ft, fn, fa, fl, fe⟩) rfl hfin.out, HM.out.2, by have := HLA.out; have := HM.out; omega, HS2.out, by have := HLA.out; have := HM.out; rw [List.length_append, List.length_singleton]; omega⟩
          case measure => have := HM.out; simp [intOf]; omega
      · -- a word in quotes
        obtain ⟨⟨ok, x, e⟩, hqt⟩ : ∃ r, qtd s a = r := ⟨_, rfl⟩
        have HP0 := rquoted_any s a wr hz (by omega)
        rw [hc] at hix
        have hwd := hw
        have g6 : decide (a < s.size) = true := dec_ltn_t hlt
        clear hw
        cases ok with
        | false =>
          obtain rfl := qtd_no (by omega) hqt
          have HS2 := Lib.hid (show scn s 0 1 false = L ++ [⟨0, ByteArray.empty, 0, e, l, 18⟩] by rw [HSC.out, scn_unq hwd hc hqt (.inl rfl)])
          rw [partA_no hqt] at HP0
          have HP := Lib.hid HP0
          clear HP0 hc hwd hqt hlt hbl g6
          go_wp2_with fail
          refine HP.out.mono ?_
          rintro e' W1 ⟨rfl, hk1⟩
          have HOA1 := Lib.hid (HOA.out.keep hk1)
          clear hk1 HP
          go_upto_region 28 with (fail)
          obtain ⟨W3, hW3⟩ : ∃ W, W = W1.alloc (.cells #[.string ByteArray.empty, .int .i64 (-1), .int .i64 (e : Nat)] 121) := ⟨_, rfl⟩
          have hb3 : W3.heap[W1.heap.size]? = some (.cells #[.string ByteArray.empty, .int .i64 (-1), .int .i64 (e : Nat)] 121 (0, 0)) := by rw [hW3]; exact World.alloc_heap_new W1 _
          have ho3 : OutAt w u3 L W3 := by rw [hW3]; exact HOA1.out.keep ((Keep.refl _ _).alloc _)
          rw [← hW3]
          clear hW3
          generalize W1.heap.size = g at *
          have k0 := cell_of_block hb3 0
          have k1 := cell_of_block hb3 1
          have k2 := cell_of_block hb3 2
          simp at k0 k1 k2
          have HO3 := Lib.hid ho3.1; have HK3 := Lib.hid ho3.2.1
          clear ho3 hb3
          go_wp2_with (at_builtin; refine wpList_append_mine _ rfl (.tmp 122) (.tmp 128) 70 rfl w.heap.size 73 i0 (.agg #[.int .i64 0, .string ⟨#[]⟩, .int .i64 0, .int .i64 0, .int .i64 0, .int .i64 0]) 6 56 Tryz.underlying70 HI.out HZ0.out HZ1.out HZ2.out rfl (by decide) _ _ _ rfl (HO3.out.alloc _) ⟨W3.heap.size, 0, none⟩ 1 1 [.int .i64 0, .string ⟨#[]⟩, .int .i64 0, .int .i64 (e : Nat), .int .i64 (l : Nat), .int .i64 18] rfl rfl (cell_new_row _ _ _) (by simp [Value.oneCell']) (by have := HLN.out; unfold maxLen; omega) (by have := HLN.out; omega) (by have := HK3.out.size; simp; omega) ?_; intro v' W2 hp2; have hfin := Lib.hid (own_next HO3.out HK3.out ((Keep.refl _ _).alloc _) hp2 (by omega)); clear hp2)
          go_ret
          exact HRET.out _ _ _ HS2.out (OutAt.snoc (f := ⟨0, ByteArray.empty, 0, e, l, 18⟩) rfl hfin.out)
        | true =>
          rw [partA_yes hqt] at HP0
          have HP := Lib.hid HP0
          have HM := Lib.hid (qtd_more hqt)
          have HE := Lib.hid (fun W => rends_any s e W hz)
          have g7 := dec_lt_f (show ¬ (e : Int) < 0 by omega)
          cases he : endB s e with
          | false =>
            have HS2 := Lib.hid (show scn s 0 1 false = L ++ [⟨0, ByteArray.empty, 0, e, l, 18⟩] by rw [HSC.out, scn_unq hwd hc hqt (.inr he)])
            rw [he] at HE
            clear HP0 hc hwd hqt hlt hbl g6 he
            go_wp2_with fail
            refine HP.out.mono ?_
            rintro e' W1 ⟨rfl, hk1⟩
            have HOA1 := Lib.hid (HOA.out.keep hk1)
            clear hk1 HP
            go_upto_region 28 with (fail)
            obtain ⟨W3, hW3⟩ : ∃ W, W = W1.alloc (.cells #[.string x, .int .i64 (e : Nat), .int .i64 0] 121) := ⟨_, rfl⟩
            have hb3 : W3.heap[W1.heap.size]? = some (.cells #[.string x, .int .i64 (e : Nat), .int .i64 0] 121 (0, 0)) := by rw [hW3]; exact World.alloc_heap_new W1 _
            have ho3 : OutAt w u3 L W3 := by rw [hW3]; exact HOA1.out.keep ((Keep.refl _ _).alloc _)
            rw [← hW3]
            clear hW3
            generalize W1.heap.size = g at *
            have k0 := cell_of_block hb3 0
            have k1 := cell_of_block hb3 1
            have k2 := cell_of_block hb3 2
            simp at k0 k1 k2
            have HO3 := Lib.hid ho3.1; have HK3 := Lib.hid ho3.2.1
            clear ho3 hb3
            go_wp2_with fail
            refine (HE.out _).mono ?_
            rintro e' W4 ⟨rfl, rfl⟩
            go_wp2_with (at_builtin; refine wpList_append_mine _ rfl (.tmp 136) (.tmp 142) 70 rfl w.heap.size 73 i0 (.agg #[.int .i64 0, .string ⟨#[]⟩, .int .i64 0, .int .i64 0, .int .i64 0, .int .i64 0]) 6 56 Tryz.underlying70 HI.out HZ0.out HZ1.out HZ2.out rfl (by decide) _ _ _ rfl (HO3.out.alloc _) ⟨W3.heap.size, 0, none⟩ 1 1 [.int .i64 0, .string ⟨#[]⟩, .int .i64 0, .int .i64 (e : Nat), .int .i64 (l : Nat), .int .i64 18] rfl rfl (cell_new_row _ _ _) (by simp [Value.oneCell']) (by have := HLN.out; unfold maxLen; omega) (by have := HLN.out; omega) (by have := HK3.out.size; simp; omega) ?_; intro v' W2 hp2; have hfin := Lib.hid (own_next HO3.out HK3.out ((Keep.refl _ _).alloc _) hp2 (by omega)); clear hp2)
            go_ret
            exact HRET.out _ _ _ HS2.out (OutAt.snoc (f := ⟨0, ByteArray.empty, 0, e, l, 18⟩) rfl hfin.out)
          | true =>
            have HS2 := Lib.hid (show scn s 0 1 false = (L ++ [⟨2, x, 0, a, l, 0⟩]) ++ scn s e l true by rw [HSC.out, scn_quote hwd hc hqt he, List.append_assoc]; rfl)
            rw [he] at HE
            clear HP0 hc hwd hqt hlt hbl g6 he
            go_wp2_with fail
            refine HP.out.mono ?_
            rintro e' W1 ⟨rfl, hk1⟩
            have HOA1 := Lib.hid (HOA.out.keep hk1)
            clear hk1 HP
            go_upto_region 28 with (fail)
            obtain ⟨W3, hW3⟩ : ∃ W, W = W1.alloc (.cells #[.string x, .int .i64 (e : Nat), .int .i64 0] 121) := ⟨_, rfl⟩
            have hb3 : W3.heap[W1.heap.size]? = some (.cells #[.string x, .int .i64 (e : Nat), .int .i64 0] 121 (0, 0)) := by rw [hW3]; exact World.alloc_heap_new W1 _
            have ho3 : OutAt w u3 L W3 := by rw [hW3]; exact HOA1.out.keep ((Keep.refl _ _).alloc _)
            rw [← hW3]
            clear hW3
            generalize W1.heap.size = g at *
            have k0 := cell_of_block hb3 0
            have k1 := cell_of_block hb3 1
            have k2 := cell_of_block hb3 2
            simp at k0 k1 k2
            have HO3 := Lib.hid ho3.1; have HK3 := Lib.hid ho3.2.1
            have HB3 := Lib.hid hb3
            have HNG := Lib.hid (own_not_type HO3.out hb3 (by decide))
            clear ho3 hb3
            go_wp2_with fail
            refine (HE.out _).mono ?_
            rintro e' W4 ⟨rfl, rfl⟩
            go_wp2_with (at_builtin; refine wpList_append_mine _ rfl (.tmp 145) (.tmp 152) 70 rfl w.heap.size 73 i0 (.agg #[.int .i64 0, .string ⟨#[]⟩, .int .i64 0, .int .i64 0, .int .i64 0, .int .i64 0]) 6 56 Tryz.underlying70 HI.out HZ0.out HZ1.out HZ2.out rfl (by decide) _ _ _ rfl (HO3.out.alloc _) ⟨W3.heap.size, 0, none⟩ 1 1 [.int .i64 2, .string x, .int .i64 0, .int .i64 (a : Nat), .int .i64 (l : Nat), .int .i64 0] rfl rfl (cell_new_row _ _ _) (by simp [Value.oneCell']) (by have := HLN.out; unfold maxLen; omega) (by have := HLN.out; omega) (by have := HK3.out.size; simp; omega) ?_; intro v' W2 hp2; have hfin := Lib.hid (own_next HO3.out HK3.out ((Keep.refl _ _).alloc _) hp2 (by omega)); have hb4 := hp2.2.1.at_ (((Keep.refl [] W3).alloc _).at_ HB3.out (by simp)) HNG.out; have k4 := cell_of_block hb4 1; simp at k4; clear hp2 hb4)
            go_roundw
            case rel => exact ⟨e, l, true, L ++ [⟨2, x, 0, a, l, 0⟩], rfl, rfl, rfl, OutAt.snoc (f := ⟨2, x, 0, a, l, 0⟩) rfl hfin.out, HM.out.2, by have := HLA.out; have := HM.out; omega, HS2.out, by have := HLA.out; have := HM.out; rw [List.length_append, List.length_singleton]; omega⟩
            case measure => have := HM.out; simp [intOf]; omega
    · have f1 := dec_le_t (show (s.size : Int) ≤ (a : Int) by omega)
      have f2 := dec_len_t (show s.size ≤ a by omega)
      have hS := HSC.out.trans (by rw [scn_over hlt])
      cases sm with
      | false =>
        have HS2 := Lib.hid (show scn s 0 1 false = L by rw [hS]; simp [endF])
        clear hS hlt
        go_wp2
        go_ret
        exact HRET.out _ _ _ HS2.out HOA.out
      | true =>
        have HS2 := Lib.hid (show scn s 0 1 false = L ++ [⟨4, ByteArray.empty, 0, a, l, 0⟩] by rw [hS]; simp [endF])
        clear hS hlt
        go_wp2_with (at_builtin; refine wpList_append_mine _ rfl (.tmp 27) (.tmp 32) 70 rfl w.heap.size 73 i0 (.agg #[.int .i64 0, .string ⟨#[]⟩, .int .i64 0, .int .i64 0, .int .i64 0, .int .i64 0]) 6 56 Tryz.underlying70 HI.out HZ0.out HZ1.out HZ2.out rfl (by decide) _ _ _ rfl (HO.out.alloc _) ⟨wr.heap.size, 0, none⟩ 1 1 [.int .i64 4, .string ⟨#[]⟩, .int .i64 0, .int .i64 (a : Nat), .int .i64 (l : Nat), .int .i64 0] rfl rfl (cell_new_row _ _ _) (by simp [Value.oneCell']) (by have := HLN.out; unfold maxLen; omega) (by have := HLN.out; omega) (by have := HK.out.size; simp; omega) ?_; intro v' W2 hp2; have hfin := Lib.hid (own_next HO.out HK.out ((Keep.refl _ _).alloc _) hp2 (by omega)); clear hp2)
        go_ret
        exact HRET.out _ _ _ HS2.out (OutAt.snoc (f := ⟨4, ByteArray.empty, 0, a, l, 0⟩) rfl hfin.out)
end Go.Proofs.YtbidppjhenfjdaaGreatDoor
namespace Go.Proofs.YtbidppjhenfjdaaGreatDoor
open Go.RowKit
set_option linter.unusedVariables false
set_option linter.unusedSimpArgs false

/-- A field's letter, and a kind's shape. -/
def fldL : Fld → Nat
  | .site => 115
  | .peer => 112
  | .at => 97
  | .num => 110
  | .text => 116
  | .data => 100
def shB (k : Nat) : ByteArray := ⟨((tabF k).map fun f => UInt8.ofNat (fldL f)).toArray⟩
theorem shB_size (k : Nat) : (shB k).size = (tabF k).length := by
  show (((tabF k).map fun f => UInt8.ofNat (fldL f)).toArray).size = _
  simp
def nameB (k : Int) : ByteArray := if 1 ≤ k ∧ k ≤ 14 then tabW k.toNat else ByteArray.empty
set_option maxHeartbeats 4000000 in
set_option maxRecDepth 100000 in
theorem rname_any (k : Int) (W : World) : Calls Tryz.prog 27 #[.int .i64 k] W fun e W' => e = .returned (.string (nameB k)) ∧ Keep [] W W' := by
  go_enter Tryz.func27, Tryz.ntmps27
  go_upto_region 2 with (fail)
  obtain ⟨w1, hw1⟩ : ∃ w1, w1 = W.alloc (.cells #[.string ⟨#[]⟩, .string ⟨#[105, 110, 115, 101, 114, 116]⟩, .string ⟨#[100, 101, 108, 101, 116, 101]⟩, .string ⟨#[106, 111, 105, 110]⟩, .string ⟨#[108, 101, 97, 118, 101]⟩, .string ⟨#[115, 116, 111, 112]⟩, .string ⟨#[116, 105, 99, 107]⟩, .string ⟨#[100, 101, 108, 105, 118, 101, 114]⟩, .string ⟨#[100, 114, 111, 112]⟩, .string ⟨#[100, 111, 117, 98, 108, 101]⟩, .string ⟨#[97, 108, 116, 101, 114]⟩, .string ⟨#[99, 117, 116]⟩, .string ⟨#[116, 101, 120, 116]⟩, .string ⟨#[115, 105, 103, 104, 116]⟩, .string ⟨#[99, 111, 112, 105, 101, 115]⟩] 9) := ⟨_, rfl⟩
  have hk1 : Keep [] W w1 := by rw [hw1]; exact (Keep.refl _ _).alloc _
  have hb1 : w1.heap[W.heap.size]? = some (.cells #[.string ⟨#[]⟩, .string ⟨#[105, 110, 115, 101, 114, 116]⟩, .string ⟨#[100, 101, 108, 101, 116, 101]⟩, .string ⟨#[106, 111, 105, 110]⟩, .string ⟨#[108, 101, 97, 118, 101]⟩, .string ⟨#[115, 116, 111, 112]⟩, .string ⟨#[116, 105, 99, 107]⟩, .string ⟨#[100, 101, 108, 105, 118, 101, 114]⟩, .string ⟨#[100, 114, 111, 112]⟩, .string ⟨#[100, 111, 117, 98, 108, 101]⟩, .string ⟨#[97, 108, 116, 101, 114]⟩, .string ⟨#[99, 117, 116]⟩, .string ⟨#[116, 101, 120, 116]⟩, .string ⟨#[115, 105, 103, 104, 116]⟩, .string ⟨#[99, 111, 112, 105, 101, 115]⟩] 9 (0, 0)) := by rw [hw1]; exact World.alloc_heap_new W _
  rw [← hw1]
  obtain ⟨g, hg⟩ : ∃ g, g = W.heap.size := ⟨_, rfl⟩
  rw [← hg] at hb1 ⊢
  have HK1 := Lib.hid hk1
  have HB1 := Lib.hid hb1
  clear hw1 hk1 hb1 hg
  by_cases h1 : k < 1
  · have HN := Lib.hid (show nameB k = ByteArray.empty from if_neg (by omega))
    have g1 := dec_lt_t h1
    clear h1
    go_wp2
    go_ret
    exact ⟨by rw [HN.out]; rfl, HK1.out⟩
  · by_cases h2 : 15 ≤ k
    · have HN := Lib.hid (show nameB k = ByteArray.empty from if_neg (by omega))
      have g1 := dec_lt_f h1
      have g2 : decide ((15 : Int) ≤ k) = true := decide_eq_true h2
      clear h1 h2
      go_wp2
      go_ret
      exact ⟨by rw [HN.out]; rfl, HK1.out⟩
    · obtain ⟨i, rfl⟩ : ∃ i : Nat, k = i := ⟨k.toNat, by omega⟩
      have hi1 : 1 ≤ i := by omega
      have hi2 : i < 15 := by omega
      have g1 := dec_lt_f h1
      have g2 : decide ((15 : Int) ≤ (i : Int)) = false := decide_eq_false h2
      have hc : w1.cell? ⟨g, i, none⟩ = some (.string (tabW i)) := by
        rw [cell_of_block HB1.out]
        match i, hi1, hi2 with
        | 1, _, _ => rfl
        | 2, _, _ => rfl
        | 3, _, _ => rfl
        | 4, _, _ => rfl
        | 5, _, _ => rfl
        | 6, _, _ => rfl
        | 7, _, _ => rfl
        | 8, _, _ => rfl
        | 9, _, _ => rfl
        | 10, _, _ => rfl
        | 11, _, _ => rfl
        | 12, _, _ => rfl
        | 13, _, _ => rfl
        | 14, _, _ => rfl
      have HN := Lib.hid (show nameB (i : Int) = tabW i by
        unfold nameB
        rw [if_pos (by omega)]
        rfl)
      clear h1 h2 hi1
      generalize tabW i = x at hc HN
      go_wp2
      go_ret
      exact ⟨by rw [HN.out]; rfl, HK1.out⟩
set_option maxHeartbeats 16000000 in
set_option maxRecDepth 100000 in
theorem rshape_any (k : Nat) (W : World) (h1 : 1 ≤ k) (h2 : k ≤ 14) : Calls Tryz.prog 53 #[.int .i64 (k : Nat)] W fun e W' => e = .returned (.string (shB k)) ∧ Keep [] W W' := by
  have hc : k = 1 ∨ k = 2 ∨ k = 3 ∨ k = 4 ∨ k = 5 ∨ k = 6 ∨ k = 7 ∨ k = 8 ∨ k = 9 ∨ k = 10 ∨ k = 11 ∨ k = 12 ∨ k = 13 ∨ k = 14 := by omega
  clear h1 h2
  rcases hc with rfl | rfl | rfl | rfl | rfl | rfl | rfl | rfl | rfl | rfl | rfl | rfl | rfl | rfl
  all_goals
    go_enter Tryz.func53, Tryz.ntmps53
    go_wp2
    go_ret
    exact ⟨rfl, Keep.refl _ _⟩
/-- What field says. -/
def RfPost (f : Fld) (s : Stp) (dv bv : Value) (k : Nat) (t : ByteArray) (n : Int) (W : World) (e : Ending) (W' : World) : Prop := Keep [] W W' ∧
  (((setF f k t n s).2 = false ∧ ∃ c9 : Array Value, e = .returned (.tuple #[.agg c9, .bool false]) ∧ c9 = stV s dv bv) ∨
   ((setF f k t n s).2 = true ∧ ∃ bv', e = .returned (.tuple #[.agg (stV (setF f k t n s).1 dv bv'), .bool true]) ∧ DatB W' bv' (setF f k t n s).1.data ∧ ∀ g, bv'.ownBlock = some g → bv.ownBlock = some g ∨ W.heap.size ≤ g))
set_option maxHeartbeats 16000000 in
set_option maxRecDepth 100000 in
theorem rfield_site (s : Stp) (dv bv : Value) (k : Nat) (t : ByteArray) (n : Int) (a l : Nat) (W : World) (h : StRd W s dv bv) (hd : DatB W bv s.data) : Calls Tryz.prog 54 #[.agg (stV s dv bv), .int .u8 115, wArg k t n a l] W (RfPost .site s dv bv k t n W) := by
  have HD := Lib.hid hd
  obtain ⟨ad1, cap1, hv1⟩ := h.1.empty
  obtain ⟨ad2, cap2, hv2⟩ := h.2.empty
  subst hv1
  subst hv2
  clear h hd
  obtain ⟨nd, hnd⟩ : ∃ nd, nd = s.draws.length := ⟨_, rfl⟩
  obtain ⟨nb, hnb⟩ : ∃ nb, nb = s.data.size := ⟨_, rfl⟩
  rw [← hnb] at HD
  rw [← hnd, ← hnb]
  clear hnd hnb
  unfold stV wArg
  go_enter Tryz.func54, Tryz.ntmps54
  go_upto_region 1 with (fail)
  obtain ⟨w1, hw1⟩ : ∃ w1, w1 = allocs W [.cells #[.int .i64 s.kind, .int .i64 s.site, .int .i64 s.peer, .int .i64 s.unit, .int .i64 s.at_, .int .i64 s.n, .string s.text, .slice ad1 nd cap1, .slice ad2 nb cap2] 40, .cells #[.int .i64 (k : Nat), .string t, .int .i64 n, .int .i64 (a : Nat), .int .i64 (l : Nat)] 67, .cells #[.int .i64 0, .int .i64 0, .int .i64 0, .int .i64 0, .int .i64 0, .int .i64 0, .string ⟨#[]⟩, .slice none 0 0, .slice none 0 0] 40] := ⟨_, rfl⟩
  have hat := fun i o (h : [Obj.cells #[.int .i64 s.kind, .int .i64 s.site, .int .i64 s.peer, .int .i64 s.unit, .int .i64 s.at_, .int .i64 s.n, .string s.text, .slice ad1 nd cap1, .slice ad2 nb cap2] 40, .cells #[.int .i64 (k : Nat), .string t, .int .i64 n, .int .i64 (a : Nat), .int .i64 (l : Nat)] 67, .cells #[.int .i64 0, .int .i64 0, .int .i64 0, .int .i64 0, .int .i64 0, .int .i64 0, .string ⟨#[]⟩, .slice none 0 0, .slice none 0 0] 40][i]? = some o) => allocs_at _ W i o h
  have hk1 : Keep [] W w1 := by rw [hw1]; exact allocs_keep _ _
  rw [← hw1] at hat
  have hb0 := hat 0 _ rfl
  have hb1 := hat 1 _ rfl
  have hb2 := hat 2 _ rfl
  have hw1' : ((W.alloc (.cells #[.int .i64 s.kind, .int .i64 s.site, .int .i64 s.peer, .int .i64 s.unit, .int .i64 s.at_, .int .i64 s.n, .string s.text, .slice ad1 nd cap1, .slice ad2 nb cap2] 40)).alloc (.cells #[.int .i64 (k : Nat), .string t, .int .i64 n, .int .i64 (a : Nat), .int .i64 (l : Nat)] 67)).alloc (.cells #[.int .i64 0, .int .i64 0, .int .i64 0, .int .i64 0, .int .i64 0, .int .i64 0, .string ⟨#[]⟩, .slice none 0 0, .slice none 0 0] 40) = w1 := hw1.symm
  rw [hw1']
  simp only [Nat.add_assoc, Nat.reduceAdd]
  rw [Nat.add_zero] at hb0
  obtain ⟨G, hG⟩ : ∃ G, G = W.heap.size := ⟨_, rfl⟩
  rw [← hG] at hb0 hb1 hb2 ⊢
  have c0 := cell_of_block hb0 0
  have c1 := cell_of_block hb0 1
  have c2 := cell_of_block hb0 2
  have c3 := cell_of_block hb0 3
  have c4 := cell_of_block hb0 4
  have c5 := cell_of_block hb0 5
  have c6 := cell_of_block hb0 6
  have c7 := cell_of_block hb0 7
  have c8 := cell_of_block hb0 8
  have d0 := cell_of_block hb1 0
  have d1 := cell_of_block hb1 1
  have d2 := cell_of_block hb1 2
  have d3 := cell_of_block hb1 3
  have d4 := cell_of_block hb1 4
  simp at c0 c1 c2 c3 c4 c5 c6 c7 c8 d0 d1 d2 d3 d4
  have z0 := free_of_block hb0 1
  have HB0 := Lib.hid hb0
  have HB2 := Lib.hid hb2
  have HK1 := Lib.hid hk1
  have HGG := Lib.hid hG
  clear hw1 hw1' hat hb0 hb1 hb2 hk1 hG
  by_cases hk : k = 3
  · subst hk
    have HS2 := Lib.hid (show (setF .site 3 t n s).2 = true from rfl)
    obtain ⟨w2, hw2⟩ : ∃ w2, w2 = w1.setCell ⟨G, 1, none⟩ (.int .i64 n) := ⟨_, rfl⟩
    have hk2 : Keep [G] w1 w2 := by rw [hw2]; exact (Keep.refl _ _).setCell (.inl (by simp)) _
    have hb2 : w2.heap[G]? = some (.cells #[.int .i64 s.kind, .int .i64 n, .int .i64 s.peer, .int .i64 s.unit, .int .i64 s.at_, .int .i64 s.n, .string s.text, .slice ad1 nd cap1, .slice ad2 nb cap2] 40 (0, 0)) := by rw [hw2]; exact block_setCell HB0.out 1 _
    have hld : (Instr.loadAt 40 (.pointer (some ⟨G, 0, none⟩))).run Tryz.prog w2 = .ok (.agg #[.int .i64 s.kind, .int .i64 n, .int .i64 s.peer, .int .i64 s.unit, .int .i64 s.at_, .int .i64 s.n, .string s.text, .slice ad1 nd cap1, .slice ad2 nb cap2]) w2 := load_row (P := Tryz.prog) Tryz.underlying40 rfl step_info hb2 rfl
    obtain ⟨W9, hs9, hb9, hl9, hk9⟩ := put_step (G + 2) _ #[.int .i64 s.kind, .int .i64 n, .int .i64 s.peer, .int .i64 s.unit, .int .i64 s.at_, .int .i64 s.n, .string s.text, .slice ad1 nd cap1, .slice ad2 nb cap2] w2 (hk2.at_ HB2.out (by simp)) rfl rfl (by simp [Value.oneCell'])
    have HL9 := Lib.hid hl9
    have hk29 : Keep [] W W9 := (HK1.out.trans hk2 (fun x hx => by simp at hx; subst hx; exact .inr (by have := HGG.out; omega))).trans hk9 (fun x hx => by simp at hx; subst hx; exact .inr (by have := HGG.out; omega))
    have HK9 := Lib.hid hk29
    have HD9 := Lib.hid (HD.out.keep hk29 (by simp))
    clear hl9 hk9 hb9 hk2 hb2 hk29
    go_wp2_with (with_reducible refine park_load 3 _ rfl ?_)
    rw [← hw2]
    clear hw2
    refine wpList_load_eq rfl _ (.tmp 3) rfl hld ?_
    go_wp2_with (with_reducible refine park_store 6 63 _ rfl ?_)
    refine wpList_store_eq rfl _ (.tmp 6) (.tmp 63) rfl hs9 ?_
    clear hs9
    go_wp2
    exact bodyPost_ret (results_step rfl _ _ (G + 2) _ _ rfl rfl HL9.out) rfl ⟨HK9.out, .inr ⟨HS2.out, _, rfl, HD9.out, fun g hg => .inl hg⟩⟩
  · have g1 : ((k : Int) != 3) = true := by simp; omega
    have g2 : (k != 3) = true := by simp; omega
    have HS2 := Lib.hid (show (setF .site k t n s).2 = false by show (k == 3) = false; simpa using hk)
    have hld : (Instr.loadAt 40 (.pointer (some ⟨G, 0, none⟩))).run Tryz.prog w1 = .ok (.agg #[.int .i64 s.kind, .int .i64 s.site, .int .i64 s.peer, .int .i64 s.unit, .int .i64 s.at_, .int .i64 s.n, .string s.text, .slice ad1 nd cap1, .slice ad2 nb cap2]) w1 := load_row (P := Tryz.prog) Tryz.underlying40 rfl step_info HB0.out rfl
    obtain ⟨W9, hs9, hb9, hl9, hk9⟩ := put_step (G + 2) _ #[.int .i64 s.kind, .int .i64 s.site, .int .i64 s.peer, .int .i64 s.unit, .int .i64 s.at_, .int .i64 s.n, .string s.text, .slice ad1 nd cap1, .slice ad2 nb cap2] w1 HB2.out rfl rfl (by simp [Value.oneCell'])
    have HL9 := Lib.hid hl9
    have HK9 := Lib.hid (HK1.out.trans hk9 (fun x hx => by simp at hx; subst hx; exact .inr (by have := HGG.out; omega)))
    clear hl9 hk9 hb9 hk
    go_upto_region 3 with (fail)
    go_wp2_with (with_reducible refine park_load 3 _ rfl ?_)
    refine wpList_load_eq rfl _ (.tmp 3) rfl hld ?_
    go_wp2_with (with_reducible refine park_store 6 30 _ rfl ?_)
    refine wpList_store_eq rfl _ (.tmp 6) (.tmp 30) rfl hs9 ?_
    clear hs9
    go_wp2
    exact bodyPost_ret (results_step rfl _ _ (G + 2) _ _ rfl rfl HL9.out) rfl ⟨HK9.out, .inl ⟨HS2.out, _, rfl, rfl⟩⟩
set_option maxHeartbeats 16000000 in
set_option maxRecDepth 100000 in
theorem rfield_peer (s : Stp) (dv bv : Value) (k : Nat) (t : ByteArray) (n : Int) (a l : Nat) (W : World) (h : StRd W s dv bv) (hd : DatB W bv s.data) : Calls Tryz.prog 54 #[.agg (stV s dv bv), .int .u8 112, wArg k t n a l] W (RfPost .peer s dv bv k t n W) := by
  have HD := Lib.hid hd
  obtain ⟨ad1, cap1, hv1⟩ := h.1.empty
  obtain ⟨ad2, cap2, hv2⟩ := h.2.empty
  subst hv1
  subst hv2
  clear h hd
  obtain ⟨nd, hnd⟩ : ∃ nd, nd = s.draws.length := ⟨_, rfl⟩
  obtain ⟨nb, hnb⟩ : ∃ nb, nb = s.data.size := ⟨_, rfl⟩
  rw [← hnb] at HD
  rw [← hnd, ← hnb]
  clear hnd hnb
  unfold stV wArg
  go_enter Tryz.func54, Tryz.ntmps54
  go_upto_region 1 with (fail)
  obtain ⟨w1, hw1⟩ : ∃ w1, w1 = allocs W [.cells #[.int .i64 s.kind, .int .i64 s.site, .int .i64 s.peer, .int .i64 s.unit, .int .i64 s.at_, .int .i64 s.n, .string s.text, .slice ad1 nd cap1, .slice ad2 nb cap2] 40, .cells #[.int .i64 (k : Nat), .string t, .int .i64 n, .int .i64 (a : Nat), .int .i64 (l : Nat)] 67, .cells #[.int .i64 0, .int .i64 0, .int .i64 0, .int .i64 0, .int .i64 0, .int .i64 0, .string ⟨#[]⟩, .slice none 0 0, .slice none 0 0] 40] := ⟨_, rfl⟩
  have hat := fun i o (h : [Obj.cells #[.int .i64 s.kind, .int .i64 s.site, .int .i64 s.peer, .int .i64 s.unit, .int .i64 s.at_, .int .i64 s.n, .string s.text, .slice ad1 nd cap1, .slice ad2 nb cap2] 40, .cells #[.int .i64 (k : Nat), .string t, .int .i64 n, .int .i64 (a : Nat), .int .i64 (l : Nat)] 67, .cells #[.int .i64 0, .int .i64 0, .int .i64 0, .int .i64 0, .int .i64 0, .int .i64 0, .string ⟨#[]⟩, .slice none 0 0, .slice none 0 0] 40][i]? = some o) => allocs_at _ W i o h
  have hk1 : Keep [] W w1 := by rw [hw1]; exact allocs_keep _ _
  rw [← hw1] at hat
  have hb0 := hat 0 _ rfl
  have hb1 := hat 1 _ rfl
  have hb2 := hat 2 _ rfl
  have hw1' : ((W.alloc (.cells #[.int .i64 s.kind, .int .i64 s.site, .int .i64 s.peer, .int .i64 s.unit, .int .i64 s.at_, .int .i64 s.n, .string s.text, .slice ad1 nd cap1, .slice ad2 nb cap2] 40)).alloc (.cells #[.int .i64 (k : Nat), .string t, .int .i64 n, .int .i64 (a : Nat), .int .i64 (l : Nat)] 67)).alloc (.cells #[.int .i64 0, .int .i64 0, .int .i64 0, .int .i64 0, .int .i64 0, .int .i64 0, .string ⟨#[]⟩, .slice none 0 0, .slice none 0 0] 40) = w1 := hw1.symm
  rw [hw1']
  simp only [Nat.add_assoc, Nat.reduceAdd]
  rw [Nat.add_zero] at hb0
  obtain ⟨G, hG⟩ : ∃ G, G = W.heap.size := ⟨_, rfl⟩
  rw [← hG] at hb0 hb1 hb2 ⊢
  have c0 := cell_of_block hb0 0
  have c1 := cell_of_block hb0 1
  have c2 := cell_of_block hb0 2
  have c3 := cell_of_block hb0 3
  have c4 := cell_of_block hb0 4
  have c5 := cell_of_block hb0 5
  have c6 := cell_of_block hb0 6
  have c7 := cell_of_block hb0 7
  have c8 := cell_of_block hb0 8
  have d0 := cell_of_block hb1 0
  have d1 := cell_of_block hb1 1
  have d2 := cell_of_block hb1 2
  have d3 := cell_of_block hb1 3
  have d4 := cell_of_block hb1 4
  simp at c0 c1 c2 c3 c4 c5 c6 c7 c8 d0 d1 d2 d3 d4
  have z0 := free_of_block hb0 2
  have HB0 := Lib.hid hb0
  have HB2 := Lib.hid hb2
  have HK1 := Lib.hid hk1
  have HGG := Lib.hid hG
  clear hw1 hw1' hat hb0 hb1 hb2 hk1 hG
  by_cases hk : k = 3
  · subst hk
    have HS2 := Lib.hid (show (setF .peer 3 t n s).2 = true from rfl)
    obtain ⟨w2, hw2⟩ : ∃ w2, w2 = w1.setCell ⟨G, 2, none⟩ (.int .i64 n) := ⟨_, rfl⟩
    have hk2 : Keep [G] w1 w2 := by rw [hw2]; exact (Keep.refl _ _).setCell (.inl (by simp)) _
    have hb2 : w2.heap[G]? = some (.cells #[.int .i64 s.kind, .int .i64 s.site, .int .i64 n, .int .i64 s.unit, .int .i64 s.at_, .int .i64 s.n, .string s.text, .slice ad1 nd cap1, .slice ad2 nb cap2] 40 (0, 0)) := by rw [hw2]; exact block_setCell HB0.out 2 _
    have hld : (Instr.loadAt 40 (.pointer (some ⟨G, 0, none⟩))).run Tryz.prog w2 = .ok (.agg #[.int .i64 s.kind, .int .i64 s.site, .int .i64 n, .int .i64 s.unit, .int .i64 s.at_, .int .i64 s.n, .string s.text, .slice ad1 nd cap1, .slice ad2 nb cap2]) w2 := load_row (P := Tryz.prog) Tryz.underlying40 rfl step_info hb2 rfl
    obtain ⟨W9, hs9, hb9, hl9, hk9⟩ := put_step (G + 2) _ #[.int .i64 s.kind, .int .i64 s.site, .int .i64 n, .int .i64 s.unit, .int .i64 s.at_, .int .i64 s.n, .string s.text, .slice ad1 nd cap1, .slice ad2 nb cap2] w2 (hk2.at_ HB2.out (by simp)) rfl rfl (by simp [Value.oneCell'])
    have HL9 := Lib.hid hl9
    have hk29 : Keep [] W W9 := (HK1.out.trans hk2 (fun x hx => by simp at hx; subst hx; exact .inr (by have := HGG.out; omega))).trans hk9 (fun x hx => by simp at hx; subst hx; exact .inr (by have := HGG.out; omega))
    have HK9 := Lib.hid hk29
    have HD9 := Lib.hid (HD.out.keep hk29 (by simp))
    clear hl9 hk9 hb9 hk2 hb2 hk29
    go_wp2_with (with_reducible refine park_load 3 _ rfl ?_)
    rw [← hw2]
    clear hw2
    refine wpList_load_eq rfl _ (.tmp 3) rfl hld ?_
    go_wp2_with (with_reducible refine park_store 6 63 _ rfl ?_)
    refine wpList_store_eq rfl _ (.tmp 6) (.tmp 63) rfl hs9 ?_
    clear hs9
    go_wp2
    exact bodyPost_ret (results_step rfl _ _ (G + 2) _ _ rfl rfl HL9.out) rfl ⟨HK9.out, .inr ⟨HS2.out, _, rfl, HD9.out, fun g hg => .inl hg⟩⟩
  · have g1 : ((k : Int) != 3) = true := by simp; omega
    have g2 : (k != 3) = true := by simp; omega
    have HS2 := Lib.hid (show (setF .peer k t n s).2 = false by show (k == 3) = false; simpa using hk)
    have hld : (Instr.loadAt 40 (.pointer (some ⟨G, 0, none⟩))).run Tryz.prog w1 = .ok (.agg #[.int .i64 s.kind, .int .i64 s.site, .int .i64 s.peer, .int .i64 s.unit, .int .i64 s.at_, .int .i64 s.n, .string s.text, .slice ad1 nd cap1, .slice ad2 nb cap2]) w1 := load_row (P := Tryz.prog) Tryz.underlying40 rfl step_info HB0.out rfl
    obtain ⟨W9, hs9, hb9, hl9, hk9⟩ := put_step (G + 2) _ #[.int .i64 s.kind, .int .i64 s.site, .int .i64 s.peer, .int .i64 s.unit, .int .i64 s.at_, .int .i64 s.n, .string s.text, .slice ad1 nd cap1, .slice ad2 nb cap2] w1 HB2.out rfl rfl (by simp [Value.oneCell'])
    have HL9 := Lib.hid hl9
    have HK9 := Lib.hid (HK1.out.trans hk9 (fun x hx => by simp at hx; subst hx; exact .inr (by have := HGG.out; omega)))
    clear hl9 hk9 hb9 hk
    go_upto_region 3 with (fail)
    go_wp2_with (with_reducible refine park_load 3 _ rfl ?_)
    refine wpList_load_eq rfl _ (.tmp 3) rfl hld ?_
    go_wp2_with (with_reducible refine park_store 6 30 _ rfl ?_)
    refine wpList_store_eq rfl _ (.tmp 6) (.tmp 30) rfl hs9 ?_
    clear hs9
    go_wp2
    exact bodyPost_ret (results_step rfl _ _ (G + 2) _ _ rfl rfl HL9.out) rfl ⟨HK9.out, .inl ⟨HS2.out, _, rfl, rfl⟩⟩
set_option maxHeartbeats 16000000 in
set_option maxRecDepth 100000 in
theorem rfield_at (s : Stp) (dv bv : Value) (k : Nat) (t : ByteArray) (n : Int) (a l : Nat) (W : World) (h : StRd W s dv bv) (hd : DatB W bv s.data) : Calls Tryz.prog 54 #[.agg (stV s dv bv), .int .u8 97, wArg k t n a l] W (RfPost .at s dv bv k t n W) := by
  have HD := Lib.hid hd
  obtain ⟨ad1, cap1, hv1⟩ := h.1.empty
  obtain ⟨ad2, cap2, hv2⟩ := h.2.empty
  subst hv1
  subst hv2
  clear h hd
  obtain ⟨nd, hnd⟩ : ∃ nd, nd = s.draws.length := ⟨_, rfl⟩
  obtain ⟨nb, hnb⟩ : ∃ nb, nb = s.data.size := ⟨_, rfl⟩
  rw [← hnb] at HD
  rw [← hnd, ← hnb]
  clear hnd hnb
  unfold stV wArg
  go_enter Tryz.func54, Tryz.ntmps54
  go_upto_region 1 with (fail)
  obtain ⟨w1, hw1⟩ : ∃ w1, w1 = allocs W [.cells #[.int .i64 s.kind, .int .i64 s.site, .int .i64 s.peer, .int .i64 s.unit, .int .i64 s.at_, .int .i64 s.n, .string s.text, .slice ad1 nd cap1, .slice ad2 nb cap2] 40, .cells #[.int .i64 (k : Nat), .string t, .int .i64 n, .int .i64 (a : Nat), .int .i64 (l : Nat)] 67, .cells #[.int .i64 0, .int .i64 0, .int .i64 0, .int .i64 0, .int .i64 0, .int .i64 0, .string ⟨#[]⟩, .slice none 0 0, .slice none 0 0] 40] := ⟨_, rfl⟩
  have hat := fun i o (h : [Obj.cells #[.int .i64 s.kind, .int .i64 s.site, .int .i64 s.peer, .int .i64 s.unit, .int .i64 s.at_, .int .i64 s.n, .string s.text, .slice ad1 nd cap1, .slice ad2 nb cap2] 40, .cells #[.int .i64 (k : Nat), .string t, .int .i64 n, .int .i64 (a : Nat), .int .i64 (l : Nat)] 67, .cells #[.int .i64 0, .int .i64 0, .int .i64 0, .int .i64 0, .int .i64 0, .int .i64 0, .string ⟨#[]⟩, .slice none 0 0, .slice none 0 0] 40][i]? = some o) => allocs_at _ W i o h
  have hk1 : Keep [] W w1 := by rw [hw1]; exact allocs_keep _ _
  rw [← hw1] at hat
  have hb0 := hat 0 _ rfl
  have hb1 := hat 1 _ rfl
  have hb2 := hat 2 _ rfl
  have hw1' : ((W.alloc (.cells #[.int .i64 s.kind, .int .i64 s.site, .int .i64 s.peer, .int .i64 s.unit, .int .i64 s.at_, .int .i64 s.n, .string s.text, .slice ad1 nd cap1, .slice ad2 nb cap2] 40)).alloc (.cells #[.int .i64 (k : Nat), .string t, .int .i64 n, .int .i64 (a : Nat), .int .i64 (l : Nat)] 67)).alloc (.cells #[.int .i64 0, .int .i64 0, .int .i64 0, .int .i64 0, .int .i64 0, .int .i64 0, .string ⟨#[]⟩, .slice none 0 0, .slice none 0 0] 40) = w1 := hw1.symm
  rw [hw1']
  simp only [Nat.add_assoc, Nat.reduceAdd]
  rw [Nat.add_zero] at hb0
  obtain ⟨G, hG⟩ : ∃ G, G = W.heap.size := ⟨_, rfl⟩
  rw [← hG] at hb0 hb1 hb2 ⊢
  have c0 := cell_of_block hb0 0
  have c1 := cell_of_block hb0 1
  have c2 := cell_of_block hb0 2
  have c3 := cell_of_block hb0 3
  have c4 := cell_of_block hb0 4
  have c5 := cell_of_block hb0 5
  have c6 := cell_of_block hb0 6
  have c7 := cell_of_block hb0 7
  have c8 := cell_of_block hb0 8
  have d0 := cell_of_block hb1 0
  have d1 := cell_of_block hb1 1
  have d2 := cell_of_block hb1 2
  have d3 := cell_of_block hb1 3
  have d4 := cell_of_block hb1 4
  simp at c0 c1 c2 c3 c4 c5 c6 c7 c8 d0 d1 d2 d3 d4
  have z0 := free_of_block hb0 4
  have HB0 := Lib.hid hb0
  have HB2 := Lib.hid hb2
  have HK1 := Lib.hid hk1
  have HGG := Lib.hid hG
  clear hw1 hw1' hat hb0 hb1 hb2 hk1 hG
  by_cases hk : k = 3
  · subst hk
    have HS2 := Lib.hid (show (setF .at 3 t n s).2 = true from rfl)
    obtain ⟨w2, hw2⟩ : ∃ w2, w2 = w1.setCell ⟨G, 4, none⟩ (.int .i64 n) := ⟨_, rfl⟩
    have hk2 : Keep [G] w1 w2 := by rw [hw2]; exact (Keep.refl _ _).setCell (.inl (by simp)) _
    have hb2 : w2.heap[G]? = some (.cells #[.int .i64 s.kind, .int .i64 s.site, .int .i64 s.peer, .int .i64 s.unit, .int .i64 n, .int .i64 s.n, .string s.text, .slice ad1 nd cap1, .slice ad2 nb cap2] 40 (0, 0)) := by rw [hw2]; exact block_setCell HB0.out 4 _
    have hld : (Instr.loadAt 40 (.pointer (some ⟨G, 0, none⟩))).run Tryz.prog w2 = .ok (.agg #[.int .i64 s.kind, .int .i64 s.site, .int .i64 s.peer, .int .i64 s.unit, .int .i64 n, .int .i64 s.n, .string s.text, .slice ad1 nd cap1, .slice ad2 nb cap2]) w2 := load_row (P := Tryz.prog) Tryz.underlying40 rfl step_info hb2 rfl
    obtain ⟨W9, hs9, hb9, hl9, hk9⟩ := put_step (G + 2) _ #[.int .i64 s.kind, .int .i64 s.site, .int .i64 s.peer, .int .i64 s.unit, .int .i64 n, .int .i64 s.n, .string s.text, .slice ad1 nd cap1, .slice ad2 nb cap2] w2 (hk2.at_ HB2.out (by simp)) rfl rfl (by simp [Value.oneCell'])
    have HL9 := Lib.hid hl9
    have hk29 : Keep [] W W9 := (HK1.out.trans hk2 (fun x hx => by simp at hx; subst hx; exact .inr (by have := HGG.out; omega))).trans hk9 (fun x hx => by simp at hx; subst hx; exact .inr (by have := HGG.out; omega))
    have HK9 := Lib.hid hk29
    have HD9 := Lib.hid (HD.out.keep hk29 (by simp))
    clear hl9 hk9 hb9 hk2 hb2 hk29
    go_wp2_with (with_reducible refine park_load 3 _ rfl ?_)
    rw [← hw2]
    clear hw2
    refine wpList_load_eq rfl _ (.tmp 3) rfl hld ?_
    go_wp2_with (with_reducible refine park_store 6 63 _ rfl ?_)
    refine wpList_store_eq rfl _ (.tmp 6) (.tmp 63) rfl hs9 ?_
    clear hs9
    go_wp2
    exact bodyPost_ret (results_step rfl _ _ (G + 2) _ _ rfl rfl HL9.out) rfl ⟨HK9.out, .inr ⟨HS2.out, _, rfl, HD9.out, fun g hg => .inl hg⟩⟩
  · have g1 : ((k : Int) != 3) = true := by simp; omega
    have g2 : (k != 3) = true := by simp; omega
    have HS2 := Lib.hid (show (setF .at k t n s).2 = false by show (k == 3) = false; simpa using hk)
    have hld : (Instr.loadAt 40 (.pointer (some ⟨G, 0, none⟩))).run Tryz.prog w1 = .ok (.agg #[.int .i64 s.kind, .int .i64 s.site, .int .i64 s.peer, .int .i64 s.unit, .int .i64 s.at_, .int .i64 s.n, .string s.text, .slice ad1 nd cap1, .slice ad2 nb cap2]) w1 := load_row (P := Tryz.prog) Tryz.underlying40 rfl step_info HB0.out rfl
    obtain ⟨W9, hs9, hb9, hl9, hk9⟩ := put_step (G + 2) _ #[.int .i64 s.kind, .int .i64 s.site, .int .i64 s.peer, .int .i64 s.unit, .int .i64 s.at_, .int .i64 s.n, .string s.text, .slice ad1 nd cap1, .slice ad2 nb cap2] w1 HB2.out rfl rfl (by simp [Value.oneCell'])
    have HL9 := Lib.hid hl9
    have HK9 := Lib.hid (HK1.out.trans hk9 (fun x hx => by simp at hx; subst hx; exact .inr (by have := HGG.out; omega)))
    clear hl9 hk9 hb9 hk
    go_upto_region 3 with (fail)
    go_wp2_with (with_reducible refine park_load 3 _ rfl ?_)
    refine wpList_load_eq rfl _ (.tmp 3) rfl hld ?_
    go_wp2_with (with_reducible refine park_store 6 30 _ rfl ?_)
    refine wpList_store_eq rfl _ (.tmp 6) (.tmp 30) rfl hs9 ?_
    clear hs9
    go_wp2
    exact bodyPost_ret (results_step rfl _ _ (G + 2) _ _ rfl rfl HL9.out) rfl ⟨HK9.out, .inl ⟨HS2.out, _, rfl, rfl⟩⟩
set_option maxHeartbeats 16000000 in
set_option maxRecDepth 100000 in
theorem rfield_num (s : Stp) (dv bv : Value) (k : Nat) (t : ByteArray) (n : Int) (a l : Nat) (W : World) (h : StRd W s dv bv) (hd : DatB W bv s.data) : Calls Tryz.prog 54 #[.agg (stV s dv bv), .int .u8 110, wArg k t n a l] W (RfPost .num s dv bv k t n W) := by
  have HD := Lib.hid hd
  obtain ⟨ad1, cap1, hv1⟩ := h.1.empty
  obtain ⟨ad2, cap2, hv2⟩ := h.2.empty
  subst hv1
  subst hv2
  clear h hd
  obtain ⟨nd, hnd⟩ : ∃ nd, nd = s.draws.length := ⟨_, rfl⟩
  obtain ⟨nb, hnb⟩ : ∃ nb, nb = s.data.size := ⟨_, rfl⟩
  rw [← hnb] at HD
  rw [← hnd, ← hnb]
  clear hnd hnb
  unfold stV wArg
  go_enter Tryz.func54, Tryz.ntmps54
  go_upto_region 1 with (fail)
  obtain ⟨w1, hw1⟩ : ∃ w1, w1 = allocs W [.cells #[.int .i64 s.kind, .int .i64 s.site, .int .i64 s.peer, .int .i64 s.unit, .int .i64 s.at_, .int .i64 s.n, .string s.text, .slice ad1 nd cap1, .slice ad2 nb cap2] 40, .cells #[.int .i64 (k : Nat), .string t, .int .i64 n, .int .i64 (a : Nat), .int .i64 (l : Nat)] 67, .cells #[.int .i64 0, .int .i64 0, .int .i64 0, .int .i64 0, .int .i64 0, .int .i64 0, .string ⟨#[]⟩, .slice none 0 0, .slice none 0 0] 40] := ⟨_, rfl⟩
  have hat := fun i o (h : [Obj.cells #[.int .i64 s.kind, .int .i64 s.site, .int .i64 s.peer, .int .i64 s.unit, .int .i64 s.at_, .int .i64 s.n, .string s.text, .slice ad1 nd cap1, .slice ad2 nb cap2] 40, .cells #[.int .i64 (k : Nat), .string t, .int .i64 n, .int .i64 (a : Nat), .int .i64 (l : Nat)] 67, .cells #[.int .i64 0, .int .i64 0, .int .i64 0, .int .i64 0, .int .i64 0, .int .i64 0, .string ⟨#[]⟩, .slice none 0 0, .slice none 0 0] 40][i]? = some o) => allocs_at _ W i o h
  have hk1 : Keep [] W w1 := by rw [hw1]; exact allocs_keep _ _
  rw [← hw1] at hat
  have hb0 := hat 0 _ rfl
  have hb1 := hat 1 _ rfl
  have hb2 := hat 2 _ rfl
  have hw1' : ((W.alloc (.cells #[.int .i64 s.kind, .int .i64 s.site, .int .i64 s.peer, .int .i64 s.unit, .int .i64 s.at_, .int .i64 s.n, .string s.text, .slice ad1 nd cap1, .slice ad2 nb cap2] 40)).alloc (.cells #[.int .i64 (k : Nat), .string t, .int .i64 n, .int .i64 (a : Nat), .int .i64 (l : Nat)] 67)).alloc (.cells #[.int .i64 0, .int .i64 0, .int .i64 0, .int .i64 0, .int .i64 0, .int .i64 0, .string ⟨#[]⟩, .slice none 0 0, .slice none 0 0] 40) = w1 := hw1.symm
  rw [hw1']
  simp only [Nat.add_assoc, Nat.reduceAdd]
  rw [Nat.add_zero] at hb0
  obtain ⟨G, hG⟩ : ∃ G, G = W.heap.size := ⟨_, rfl⟩
  rw [← hG] at hb0 hb1 hb2 ⊢
  have c0 := cell_of_block hb0 0
  have c1 := cell_of_block hb0 1
  have c2 := cell_of_block hb0 2
  have c3 := cell_of_block hb0 3
  have c4 := cell_of_block hb0 4
  have c5 := cell_of_block hb0 5
  have c6 := cell_of_block hb0 6
  have c7 := cell_of_block hb0 7
  have c8 := cell_of_block hb0 8
  have d0 := cell_of_block hb1 0
  have d1 := cell_of_block hb1 1
  have d2 := cell_of_block hb1 2
  have d3 := cell_of_block hb1 3
  have d4 := cell_of_block hb1 4
  simp at c0 c1 c2 c3 c4 c5 c6 c7 c8 d0 d1 d2 d3 d4
  have z0 := free_of_block hb0 5
  have HB0 := Lib.hid hb0
  have HB2 := Lib.hid hb2
  have HK1 := Lib.hid hk1
  have HGG := Lib.hid hG
  clear hw1 hw1' hat hb0 hb1 hb2 hk1 hG
  by_cases hk : k = 3
  · subst hk
    have HS2 := Lib.hid (show (setF .num 3 t n s).2 = true from rfl)
    obtain ⟨w2, hw2⟩ : ∃ w2, w2 = w1.setCell ⟨G, 5, none⟩ (.int .i64 n) := ⟨_, rfl⟩
    have hk2 : Keep [G] w1 w2 := by rw [hw2]; exact (Keep.refl _ _).setCell (.inl (by simp)) _
    have hb2 : w2.heap[G]? = some (.cells #[.int .i64 s.kind, .int .i64 s.site, .int .i64 s.peer, .int .i64 s.unit, .int .i64 s.at_, .int .i64 n, .string s.text, .slice ad1 nd cap1, .slice ad2 nb cap2] 40 (0, 0)) := by rw [hw2]; exact block_setCell HB0.out 5 _
    have hld : (Instr.loadAt 40 (.pointer (some ⟨G, 0, none⟩))).run Tryz.prog w2 = .ok (.agg #[.int .i64 s.kind, .int .i64 s.site, .int .i64 s.peer, .int .i64 s.unit, .int .i64 s.at_, .int .i64 n, .string s.text, .slice ad1 nd cap1, .slice ad2 nb cap2]) w2 := load_row (P := Tryz.prog) Tryz.underlying40 rfl step_info hb2 rfl
    obtain ⟨W9, hs9, hb9, hl9, hk9⟩ := put_step (G + 2) _ #[.int .i64 s.kind, .int .i64 s.site, .int .i64 s.peer, .int .i64 s.unit, .int .i64 s.at_, .int .i64 n, .string s.text, .slice ad1 nd cap1, .slice ad2 nb cap2] w2 (hk2.at_ HB2.out (by simp)) rfl rfl (by simp [Value.oneCell'])
    have HL9 := Lib.hid hl9
    have hk29 : Keep [] W W9 := (HK1.out.trans hk2 (fun x hx => by simp at hx; subst hx; exact .inr (by have := HGG.out; omega))).trans hk9 (fun x hx => by simp at hx; subst hx; exact .inr (by have := HGG.out; omega))
    have HK9 := Lib.hid hk29
    have HD9 := Lib.hid (HD.out.keep hk29 (by simp))
    clear hl9 hk9 hb9 hk2 hb2 hk29
    go_wp2_with (with_reducible refine park_load 3 _ rfl ?_)
    rw [← hw2]
    clear hw2
    refine wpList_load_eq rfl _ (.tmp 3) rfl hld ?_
    go_wp2_with (with_reducible refine park_store 6 63 _ rfl ?_)
    refine wpList_store_eq rfl _ (.tmp 6) (.tmp 63) rfl hs9 ?_
    clear hs9
    go_wp2
    exact bodyPost_ret (results_step rfl _ _ (G + 2) _ _ rfl rfl HL9.out) rfl ⟨HK9.out, .inr ⟨HS2.out, _, rfl, HD9.out, fun g hg => .inl hg⟩⟩
  · have g1 : ((k : Int) != 3) = true := by simp; omega
    have g2 : (k != 3) = true := by simp; omega
    have HS2 := Lib.hid (show (setF .num k t n s).2 = false by show (k == 3) = false; simpa using hk)
    have hld : (Instr.loadAt 40 (.pointer (some ⟨G, 0, none⟩))).run Tryz.prog w1 = .ok (.agg #[.int .i64 s.kind, .int .i64 s.site, .int .i64 s.peer, .int .i64 s.unit, .int .i64 s.at_, .int .i64 s.n, .string s.text, .slice ad1 nd cap1, .slice ad2 nb cap2]) w1 := load_row (P := Tryz.prog) Tryz.underlying40 rfl step_info HB0.out rfl
    obtain ⟨W9, hs9, hb9, hl9, hk9⟩ := put_step (G + 2) _ #[.int .i64 s.kind, .int .i64 s.site, .int .i64 s.peer, .int .i64 s.unit, .int .i64 s.at_, .int .i64 s.n, .string s.text, .slice ad1 nd cap1, .slice ad2 nb cap2] w1 HB2.out rfl rfl (by simp [Value.oneCell'])
    have HL9 := Lib.hid hl9
    have HK9 := Lib.hid (HK1.out.trans hk9 (fun x hx => by simp at hx; subst hx; exact .inr (by have := HGG.out; omega)))
    clear hl9 hk9 hb9 hk
    go_upto_region 3 with (fail)
    go_wp2_with (with_reducible refine park_load 3 _ rfl ?_)
    refine wpList_load_eq rfl _ (.tmp 3) rfl hld ?_
    go_wp2_with (with_reducible refine park_store 6 30 _ rfl ?_)
    refine wpList_store_eq rfl _ (.tmp 6) (.tmp 30) rfl hs9 ?_
    clear hs9
    go_wp2
    exact bodyPost_ret (results_step rfl _ _ (G + 2) _ _ rfl rfl HL9.out) rfl ⟨HK9.out, .inl ⟨HS2.out, _, rfl, rfl⟩⟩
set_option maxHeartbeats 16000000 in
set_option maxRecDepth 100000 in
theorem rfield_text (s : Stp) (dv bv : Value) (k : Nat) (t : ByteArray) (n : Int) (a l : Nat) (W : World) (h : StRd W s dv bv) (hd : DatB W bv s.data) : Calls Tryz.prog 54 #[.agg (stV s dv bv), .int .u8 116, wArg k t n a l] W (RfPost .text s dv bv k t n W) := by
  have HD := Lib.hid hd
  obtain ⟨ad1, cap1, hv1⟩ := h.1.empty
  obtain ⟨ad2, cap2, hv2⟩ := h.2.empty
  subst hv1
  subst hv2
  clear h hd
  obtain ⟨nd, hnd⟩ : ∃ nd, nd = s.draws.length := ⟨_, rfl⟩
  obtain ⟨nb, hnb⟩ : ∃ nb, nb = s.data.size := ⟨_, rfl⟩
  rw [← hnb] at HD
  rw [← hnd, ← hnb]
  clear hnd hnb
  unfold stV wArg
  go_enter Tryz.func54, Tryz.ntmps54
  go_upto_region 1 with (fail)
  obtain ⟨w1, hw1⟩ : ∃ w1, w1 = allocs W [.cells #[.int .i64 s.kind, .int .i64 s.site, .int .i64 s.peer, .int .i64 s.unit, .int .i64 s.at_, .int .i64 s.n, .string s.text, .slice ad1 nd cap1, .slice ad2 nb cap2] 40, .cells #[.int .i64 (k : Nat), .string t, .int .i64 n, .int .i64 (a : Nat), .int .i64 (l : Nat)] 67, .cells #[.int .i64 0, .int .i64 0, .int .i64 0, .int .i64 0, .int .i64 0, .int .i64 0, .string ⟨#[]⟩, .slice none 0 0, .slice none 0 0] 40] := ⟨_, rfl⟩
  have hat := fun i o (h : [Obj.cells #[.int .i64 s.kind, .int .i64 s.site, .int .i64 s.peer, .int .i64 s.unit, .int .i64 s.at_, .int .i64 s.n, .string s.text, .slice ad1 nd cap1, .slice ad2 nb cap2] 40, .cells #[.int .i64 (k : Nat), .string t, .int .i64 n, .int .i64 (a : Nat), .int .i64 (l : Nat)] 67, .cells #[.int .i64 0, .int .i64 0, .int .i64 0, .int .i64 0, .int .i64 0, .int .i64 0, .string ⟨#[]⟩, .slice none 0 0, .slice none 0 0] 40][i]? = some o) => allocs_at _ W i o h
  have hk1 : Keep [] W w1 := by rw [hw1]; exact allocs_keep _ _
  rw [← hw1] at hat
  have hb0 := hat 0 _ rfl
  have hb1 := hat 1 _ rfl
  have hb2 := hat 2 _ rfl
  have hw1' : ((W.alloc (.cells #[.int .i64 s.kind, .int .i64 s.site, .int .i64 s.peer, .int .i64 s.unit, .int .i64 s.at_, .int .i64 s.n, .string s.text, .slice ad1 nd cap1, .slice ad2 nb cap2] 40)).alloc (.cells #[.int .i64 (k : Nat), .string t, .int .i64 n, .int .i64 (a : Nat), .int .i64 (l : Nat)] 67)).alloc (.cells #[.int .i64 0, .int .i64 0, .int .i64 0, .int .i64 0, .int .i64 0, .int .i64 0, .string ⟨#[]⟩, .slice none 0 0, .slice none 0 0] 40) = w1 := hw1.symm
  rw [hw1']
  simp only [Nat.add_assoc, Nat.reduceAdd]
  rw [Nat.add_zero] at hb0
  obtain ⟨G, hG⟩ : ∃ G, G = W.heap.size := ⟨_, rfl⟩
  rw [← hG] at hb0 hb1 hb2 ⊢
  have c0 := cell_of_block hb0 0
  have c1 := cell_of_block hb0 1
  have c2 := cell_of_block hb0 2
  have c3 := cell_of_block hb0 3
  have c4 := cell_of_block hb0 4
  have c5 := cell_of_block hb0 5
  have c6 := cell_of_block hb0 6
  have c7 := cell_of_block hb0 7
  have c8 := cell_of_block hb0 8
  have d0 := cell_of_block hb1 0
  have d1 := cell_of_block hb1 1
  have d2 := cell_of_block hb1 2
  have d3 := cell_of_block hb1 3
  have d4 := cell_of_block hb1 4
  simp at c0 c1 c2 c3 c4 c5 c6 c7 c8 d0 d1 d2 d3 d4
  have z0 := free_of_block hb0 6
  have HB0 := Lib.hid hb0
  have HB2 := Lib.hid hb2
  have HK1 := Lib.hid hk1
  have HGG := Lib.hid hG
  clear hw1 hw1' hat hb0 hb1 hb2 hk1 hG
  by_cases hk : k = 2
  · subst hk
    have HS2 := Lib.hid (show (setF .text 2 t n s).2 = true from rfl)
    obtain ⟨w2, hw2⟩ : ∃ w2, w2 = w1.setCell ⟨G, 6, none⟩ (.string t) := ⟨_, rfl⟩
    have hk2 : Keep [G] w1 w2 := by rw [hw2]; exact (Keep.refl _ _).setCell (.inl (by simp)) _
    have hb2 : w2.heap[G]? = some (.cells #[.int .i64 s.kind, .int .i64 s.site, .int .i64 s.peer, .int .i64 s.unit, .int .i64 s.at_, .int .i64 s.n, .string t, .slice ad1 nd cap1, .slice ad2 nb cap2] 40 (0, 0)) := by rw [hw2]; exact block_setCell HB0.out 6 _
    have hld : (Instr.loadAt 40 (.pointer (some ⟨G, 0, none⟩))).run Tryz.prog w2 = .ok (.agg #[.int .i64 s.kind, .int .i64 s.site, .int .i64 s.peer, .int .i64 s.unit, .int .i64 s.at_, .int .i64 s.n, .string t, .slice ad1 nd cap1, .slice ad2 nb cap2]) w2 := load_row (P := Tryz.prog) Tryz.underlying40 rfl step_info hb2 rfl
    obtain ⟨W9, hs9, hb9, hl9, hk9⟩ := put_step (G + 2) _ #[.int .i64 s.kind, .int .i64 s.site, .int .i64 s.peer, .int .i64 s.unit, .int .i64 s.at_, .int .i64 s.n, .string t, .slice ad1 nd cap1, .slice ad2 nb cap2] w2 (hk2.at_ HB2.out (by simp)) rfl rfl (by simp [Value.oneCell'])
    have HL9 := Lib.hid hl9
    have hk29 : Keep [] W W9 := (HK1.out.trans hk2 (fun x hx => by simp at hx; subst hx; exact .inr (by have := HGG.out; omega))).trans hk9 (fun x hx => by simp at hx; subst hx; exact .inr (by have := HGG.out; omega))
    have HK9 := Lib.hid hk29
    have HD9 := Lib.hid (HD.out.keep hk29 (by simp))
    clear hl9 hk9 hb9 hk2 hb2 hk29
    go_wp2_with (with_reducible refine park_load 3 _ rfl ?_)
    rw [← hw2]
    clear hw2
    refine wpList_load_eq rfl _ (.tmp 3) rfl hld ?_
    go_wp2_with (with_reducible refine park_store 6 63 _ rfl ?_)
    refine wpList_store_eq rfl _ (.tmp 6) (.tmp 63) rfl hs9 ?_
    clear hs9
    go_wp2
    exact bodyPost_ret (results_step rfl _ _ (G + 2) _ _ rfl rfl HL9.out) rfl ⟨HK9.out, .inr ⟨HS2.out, _, rfl, HD9.out, fun g hg => .inl hg⟩⟩
  · have g1 : ((k : Int) != 2) = true := by simp; omega
    have g2 : (k != 2) = true := by simp; omega
    have HS2 := Lib.hid (show (setF .text k t n s).2 = false by show (k == 2) = false; simpa using hk)
    have hld : (Instr.loadAt 40 (.pointer (some ⟨G, 0, none⟩))).run Tryz.prog w1 = .ok (.agg #[.int .i64 s.kind, .int .i64 s.site, .int .i64 s.peer, .int .i64 s.unit, .int .i64 s.at_, .int .i64 s.n, .string s.text, .slice ad1 nd cap1, .slice ad2 nb cap2]) w1 := load_row (P := Tryz.prog) Tryz.underlying40 rfl step_info HB0.out rfl
    obtain ⟨W9, hs9, hb9, hl9, hk9⟩ := put_step (G + 2) _ #[.int .i64 s.kind, .int .i64 s.site, .int .i64 s.peer, .int .i64 s.unit, .int .i64 s.at_, .int .i64 s.n, .string s.text, .slice ad1 nd cap1, .slice ad2 nb cap2] w1 HB2.out rfl rfl (by simp [Value.oneCell'])
    have HL9 := Lib.hid hl9
    have HK9 := Lib.hid (HK1.out.trans hk9 (fun x hx => by simp at hx; subst hx; exact .inr (by have := HGG.out; omega)))
    clear hl9 hk9 hb9 hk
    go_upto_region 3 with (fail)
    go_wp2_with (with_reducible refine park_load 3 _ rfl ?_)
    refine wpList_load_eq rfl _ (.tmp 3) rfl hld ?_
    go_wp2_with (with_reducible refine park_store 6 30 _ rfl ?_)
    refine wpList_store_eq rfl _ (.tmp 6) (.tmp 30) rfl hs9 ?_
    clear hs9
    go_wp2
    exact bodyPost_ret (results_step rfl _ _ (G + 2) _ _ rfl rfl HL9.out) rfl ⟨HK9.out, .inl ⟨HS2.out, _, rfl, rfl⟩⟩
set_option maxHeartbeats 16000000 in
set_option maxRecDepth 100000 in
theorem rfield_data (s : Stp) (dv bv : Value) (k : Nat) (t : ByteArray) (n : Int) (a l : Nat) (W : World) (h : StRd W s dv bv) (hd : DatB W bv s.data) : Calls Tryz.prog 54 #[.agg (stV s dv bv), .int .u8 100, wArg k t n a l] W (RfPost .data s dv bv k t n W) := by
  have HD := Lib.hid hd
  obtain ⟨ad1, cap1, hv1⟩ := h.1.empty
  obtain ⟨ad2, cap2, hv2⟩ := h.2.empty
  subst hv1
  subst hv2
  clear h hd
  obtain ⟨nd, hnd⟩ : ∃ nd, nd = s.draws.length := ⟨_, rfl⟩
  obtain ⟨nb, hnb⟩ : ∃ nb, nb = s.data.size := ⟨_, rfl⟩
  rw [← hnb] at HD
  rw [← hnd, ← hnb]
  clear hnd hnb
  unfold stV wArg
  go_enter Tryz.func54, Tryz.ntmps54
  go_upto_region 1 with (fail)
  obtain ⟨w1, hw1⟩ : ∃ w1, w1 = allocs W [.cells #[.int .i64 s.kind, .int .i64 s.site, .int .i64 s.peer, .int .i64 s.unit, .int .i64 s.at_, .int .i64 s.n, .string s.text, .slice ad1 nd cap1, .slice ad2 nb cap2] 40, .cells #[.int .i64 (k : Nat), .string t, .int .i64 n, .int .i64 (a : Nat), .int .i64 (l : Nat)] 67, .cells #[.int .i64 0, .int .i64 0, .int .i64 0, .int .i64 0, .int .i64 0, .int .i64 0, .string ⟨#[]⟩, .slice none 0 0, .slice none 0 0] 40] := ⟨_, rfl⟩
  have hat := fun i o (h : [Obj.cells #[.int .i64 s.kind, .int .i64 s.site, .int .i64 s.peer, .int .i64 s.unit, .int .i64 s.at_, .int .i64 s.n, .string s.text, .slice ad1 nd cap1, .slice ad2 nb cap2] 40, .cells #[.int .i64 (k : Nat), .string t, .int .i64 n, .int .i64 (a : Nat), .int .i64 (l : Nat)] 67, .cells #[.int .i64 0, .int .i64 0, .int .i64 0, .int .i64 0, .int .i64 0, .int .i64 0, .string ⟨#[]⟩, .slice none 0 0, .slice none 0 0] 40][i]? = some o) => allocs_at _ W i o h
  have hk1 : Keep [] W w1 := by rw [hw1]; exact allocs_keep _ _
  rw [← hw1] at hat
  have hb0 := hat 0 _ rfl
  have hb1 := hat 1 _ rfl
  have hb2 := hat 2 _ rfl
  have hw1' : ((W.alloc (.cells #[.int .i64 s.kind, .int .i64 s.site, .int .i64 s.peer, .int .i64 s.unit, .int .i64 s.at_, .int .i64 s.n, .string s.text, .slice ad1 nd cap1, .slice ad2 nb cap2] 40)).alloc (.cells #[.int .i64 (k : Nat), .string t, .int .i64 n, .int .i64 (a : Nat), .int .i64 (l : Nat)] 67)).alloc (.cells #[.int .i64 0, .int .i64 0, .int .i64 0, .int .i64 0, .int .i64 0, .int .i64 0, .string ⟨#[]⟩, .slice none 0 0, .slice none 0 0] 40) = w1 := hw1.symm
  rw [hw1']
  simp only [Nat.add_assoc, Nat.reduceAdd]
  rw [Nat.add_zero] at hb0
  obtain ⟨G, hG⟩ : ∃ G, G = W.heap.size := ⟨_, rfl⟩
  rw [← hG] at hb0 hb1 hb2 ⊢
  have c0 := cell_of_block hb0 0
  have c1 := cell_of_block hb0 1
  have c2 := cell_of_block hb0 2
  have c3 := cell_of_block hb0 3
  have c4 := cell_of_block hb0 4
  have c5 := cell_of_block hb0 5
  have c6 := cell_of_block hb0 6
  have c7 := cell_of_block hb0 7
  have c8 := cell_of_block hb0 8
  have d0 := cell_of_block hb1 0
  have d1 := cell_of_block hb1 1
  have d2 := cell_of_block hb1 2
  have d3 := cell_of_block hb1 3
  have d4 := cell_of_block hb1 4
  simp at c0 c1 c2 c3 c4 c5 c6 c7 c8 d0 d1 d2 d3 d4
  have z0 := free_of_block hb0 8
  have HB0 := Lib.hid hb0
  have HB2 := Lib.hid hb2
  have HK1 := Lib.hid hk1
  have HGG := Lib.hid hG
  clear hw1 hw1' hat hb0 hb1 hb2 hk1 hG
  by_cases hk : k = 2
  · subst hk
    have HS2 := Lib.hid (show (setF .data 2 t n s).2 = true from rfl)
    obtain ⟨capd, wd, hcv, hkd, hbd⟩ := conv_sb t w1
    obtain ⟨gd, hgd⟩ : ∃ gd, gd = w1.heap.size := ⟨_, rfl⟩
    rw [← hgd] at hcv hbd
    obtain ⟨w2, hw2⟩ : ∃ w2, w2 = wd.setCell ⟨G, 8, none⟩ (.slice (some ⟨gd, 0, none⟩) t.size capd) := ⟨_, rfl⟩
    have hk2 : Keep [G] wd w2 := by rw [hw2]; exact (Keep.refl _ _).setCell (.inl (by simp)) _
    have hbG := hkd.at_ HB0.out (by simp)
    have hb2 : w2.heap[G]? = some (.cells #[.int .i64 s.kind, .int .i64 s.site, .int .i64 s.peer, .int .i64 s.unit, .int .i64 s.at_, .int .i64 s.n, .string s.text, .slice ad1 nd cap1, .slice (some ⟨gd, 0, none⟩) t.size capd] 40 (0, 0)) := by rw [hw2]; exact block_setCell hbG 8 _
    have hgdG : gd ≠ G := by have := lt_of_block HB0.out; omega
    have hbd2 : BytesB w2 gd t := hbd.keep hk2 (by simpa using hgdG)
    have hld : (Instr.loadAt 40 (.pointer (some ⟨G, 0, none⟩))).run Tryz.prog w2 = .ok (.agg #[.int .i64 s.kind, .int .i64 s.site, .int .i64 s.peer, .int .i64 s.unit, .int .i64 s.at_, .int .i64 s.n, .string s.text, .slice ad1 nd cap1, .slice (some ⟨gd, 0, none⟩) t.size capd]) w2 := load_row (P := Tryz.prog) Tryz.underlying40 rfl step_info hb2 rfl
    obtain ⟨W9, hs9, hb9, hl9, hk9⟩ := put_step (G + 2) _ #[.int .i64 s.kind, .int .i64 s.site, .int .i64 s.peer, .int .i64 s.unit, .int .i64 s.at_, .int .i64 s.n, .string s.text, .slice ad1 nd cap1, .slice (some ⟨gd, 0, none⟩) t.size capd] w2 (hk2.at_ (hkd.at_ HB2.out (by simp)) (by simp)) rfl rfl (by simp [Value.oneCell'])
    have HL9 := Lib.hid hl9
    have hgd2 : gd ≠ G + 2 := by have := lt_of_block HB2.out; omega
    have HD9 := Lib.hid (show DatB W9 (.slice (some ⟨gd, 0, none⟩) t.size capd) t from .inr ⟨gd, capd, rfl, hbd2.keep hk9 (by simpa using hgd2)⟩)
    have HK9 := Lib.hid (show Keep [] W W9 from (((HK1.out.trans0 hkd).trans hk2 (fun x hx => by simp at hx; subst hx; exact .inr (by have := HGG.out; omega))).trans hk9 (fun x hx => by simp at hx; subst hx; exact .inr (by have := HGG.out; omega))))
    have HGD := Lib.hid (show W.heap.size ≤ gd by have := HK1.out.size; omega)
    have p8 := cell_of_block hbG 8
    have z8 := free_of_block hbG 8
    simp at p8
    clear hl9 hk9 hb9 hk2 hb2 hbd hbd2 hkd hbG hgd hgdG hgd2 c0 c1 c2 c3 c4 c5 c6 c7 c8 z0
    go_wp2_with (with_reducible refine park_load 3 _ rfl ?_)
    rw [← hw2]
    clear hw2
    refine wpList_load_eq rfl _ (.tmp 3) rfl hld ?_
    go_wp2_with (with_reducible refine park_store 6 63 _ rfl ?_)
    refine wpList_store_eq rfl _ (.tmp 6) (.tmp 63) rfl hs9 ?_
    clear hs9
    go_wp2
    exact bodyPost_ret (results_step rfl _ _ (G + 2) _ _ rfl rfl HL9.out) rfl ⟨HK9.out, .inr ⟨HS2.out, _, rfl, HD9.out, fun g hg => by simp [Value.ownBlock] at hg; subst hg; exact .inr HGD.out⟩⟩
  · have g1 : ((k : Int) != 2) = true := by simp; omega
    have g2 : (k != 2) = true := by simp; omega
    have HS2 := Lib.hid (show (setF .data k t n s).2 = false by show (k == 2) = false; simpa using hk)
    have hld : (Instr.loadAt 40 (.pointer (some ⟨G, 0, none⟩))).run Tryz.prog w1 = .ok (.agg #[.int .i64 s.kind, .int .i64 s.site, .int .i64 s.peer, .int .i64 s.unit, .int .i64 s.at_, .int .i64 s.n, .string s.text, .slice ad1 nd cap1, .slice ad2 nb cap2]) w1 := load_row (P := Tryz.prog) Tryz.underlying40 rfl step_info HB0.out rfl
    obtain ⟨W9, hs9, hb9, hl9, hk9⟩ := put_step (G + 2) _ #[.int .i64 s.kind, .int .i64 s.site, .int .i64 s.peer, .int .i64 s.unit, .int .i64 s.at_, .int .i64 s.n, .string s.text, .slice ad1 nd cap1, .slice ad2 nb cap2] w1 HB2.out rfl rfl (by simp [Value.oneCell'])
    have HL9 := Lib.hid hl9
    have HK9 := Lib.hid (HK1.out.trans hk9 (fun x hx => by simp at hx; subst hx; exact .inr (by have := HGG.out; omega)))
    clear hl9 hk9 hb9 hk
    go_upto_region 3 with (fail)
    go_wp2_with (with_reducible refine park_load 3 _ rfl ?_)
    refine wpList_load_eq rfl _ (.tmp 3) rfl hld ?_
    go_wp2_with (with_reducible refine park_store 6 30 _ rfl ?_)
    refine wpList_store_eq rfl _ (.tmp 6) (.tmp 30) rfl hs9 ?_
    clear hs9
    go_wp2
    exact bodyPost_ret (results_step rfl _ _ (G + 2) _ _ rfl rfl HL9.out) rfl ⟨HK9.out, .inl ⟨HS2.out, _, rfl, rfl⟩⟩
theorem rfield_any (f : Fld) (s : Stp) (dv bv : Value) (k : Nat) (t : ByteArray) (n : Int) (a l : Nat) (W : World) (h : StRd W s dv bv) (hd : DatB W bv s.data) : Calls Tryz.prog 54 #[.agg (stV s dv bv), .int .u8 (fldL f : Nat), wArg k t n a l] W (RfPost f s dv bv k t n W) := by
  cases f
  · exact rfield_site s dv bv k t n a l W h hd
  · exact rfield_peer s dv bv k t n a l W h hd
  · exact rfield_at s dv bv k t n a l W h hd
  · exact rfield_num s dv bv k t n a l W h hd
  · exact rfield_text s dv bv k t n a l W h hd
  · exact rfield_data s dv bv k t n a l W h hd
end Go.Proofs.YtbidppjhenfjdaaGreatDoor
namespace Go.Proofs.YtbidppjhenfjdaaGreatDoor
open Go.RowKit
set_option linter.unusedVariables false
set_option linter.unusedSimpArgs false

inductive Plan where
  | done
  | take (i : Nat) (p : Plan)
  | force (i : Nat) (p : Plan)
  | fork (i j : Nat) (p q : Plan)
section
variable {P : Program} {ops : Array Oper} {md : Region.Mode} {C : World → Prop} {Q : Exit → Act → World → Prop}
def Plan.len : Plan → Nat
  | .done => 0
  | .take _ p => p.len + 1
  | .force _ p => p.len + 1
  | .fork _ _ p _ => p.len + 1
def planB (md : Region.Mode) (ops : Array Oper) : Plan → Array Bool → Bool
  | .done, listed => decide (Region.ready md ops listed = [])
  | .take i p, listed => Region.free md ops listed i && (Region.ready md ops listed).contains i && planB md ops p (listed.setIfInBounds i true)
  | .force i p, listed => decide (Region.ready md ops listed = [i]) && planB md ops p (listed.setIfInBounds i true)
  | .fork i j p q, listed => decide (Region.ready md ops listed = [i, j]) && decide (p.len = q.len) && planB md ops p (listed.setIfInBounds i true) && planB md ops q (listed.setIfInBounds j true)
def wpPlan (P : Program) (ops : Array Oper) (C : World → Prop) (Q : Exit → Act → World → Prop) : Plan → Act → World → Prop
  | .done, a, w => Q .normal a w
  | .take i p, a, w => ∃ o v, ops[i]? = some o ∧ YieldsC P ops C o v a ∧ wpPlan P ops C Q p (a.put o.dst v) w
  | .force i p, a, w => Go.wpOp P ops Q i (fun a' w' => C w' ∧ wpPlan P ops C Q p a' w') a w
  | .fork i j p q, a, w => Go.wpOp P ops Q i (fun a' w' => C w' ∧ wpPlan P ops C Q p a' w') a w ∧ Go.wpOp P ops Q j (fun a' w' => C w' ∧ wpPlan P ops C Q q a' w') a w
theorem wpAnyC_of_plan (hs : Region.noSelect ops = true) (hQ : ∀ c a w, ¬ Q (.panic c) a w) : ∀ (p : Plan) (listed : Array Bool) (a : Act) (w : World), planB md ops p listed = true → C w → wpPlan P ops C Q p a w → wpAnyC P md ops C Q p.len listed a w
  | .done, listed, a, w, hB, hC, h => ⟨by simpa [planB] using hB, h⟩
  | .take i p, listed, a, w, hB, hC, h => by
    simp only [planB, Bool.and_eq_true] at hB
    obtain ⟨o, v, hi, hy, hr⟩ := h
    exact wpAnyC_take hi hs hQ _ listed a w (Region.free_spec hi hB.1.1) (by simpa using hB.1.2) hy hC (wpAnyC_of_plan hs hQ p _ _ w hB.2 hC hr)
  | .force i p, listed, a, w, hB, hC, h => by
    simp only [planB, Bool.and_eq_true, decide_eq_true_eq] at hB
    refine ⟨fun h1 => (by rw [hB.1] at h1; cases h1), fun j hj => ?_⟩
    rw [hB.1] at hj
    obtain rfl : j = i := by simpa using hj
    exact wpOp_mono (fun a' w' hh => ⟨hh.1, wpAnyC_of_plan hs hQ p _ a' w' hB.2 hh.1 hh.2⟩) h
  | .fork i j p q, listed, a, w, hB, hC, h => by
    simp only [planB, Bool.and_eq_true, decide_eq_true_eq] at hB
    obtain ⟨⟨⟨hr, hl⟩, hp⟩, hq⟩ := hB
    refine ⟨fun h1 => (by rw [hr] at h1; cases h1), fun k hk => ?_⟩
    rw [hr] at hk
    rcases List.mem_cons.1 hk with rfl | hk
    · exact wpOp_mono (fun a' w' hh => ⟨hh.1, wpAnyC_of_plan hs hQ p _ a' w' hp hh.1 hh.2⟩) h.1
    · obtain rfl : k = j := by simpa using hk
      refine wpOp_mono (fun a' w' hh => ⟨hh.1, ?_⟩) h.2
      have := wpAnyC_of_plan hs hQ q _ a' w' hq hh.1 hh.2
      rwa [← hl] at this
/-- A REGION THAT DRAWS, by a plan. -/
theorem wp_plan {id : Nat} {a : Act} {w : World} {l : List Oper} (C : World → Prop) (p : Plan) (hm : P.follows .mixedOrders = true) (hB : (Region.noSelect l.toArray && decide (p.len = l.length) && planB .any l.toArray p (Array.replicate l.toArray.size false)) = true)
    (hC : C w.drew) (h : ∀ Q0 : Exit → Act → World → Prop, (∀ a' w', Q .normal a' w' → Q0 .normal a' w') → wpPlan P l.toArray C Q0 p a w.drew) : (Code.region id l.toArray true).wp P Q a w := by
  simp only [Bool.and_eq_true, decide_eq_true_eq] at hB
  obtain ⟨⟨hs, hl⟩, hB⟩ := hB
  refine Code.wp_mono (Q := fun e a' w' => e = .normal ∧ Q .normal a' w') ?_ ?_
  · rintro e a' w' ⟨rfl, h⟩
    exact h
  · refine wp_region_any hm ?_
    have := wpAnyC_of_plan (P := P) (ops := l.toArray) (md := .any) (C := C) (Q := fun e a' w' => e = .normal ∧ Q .normal a' w') hs (fun c a w hh => by cases hh.1) p _ a w.drew hB hC (h _ (fun a' w' hh => ⟨rfl, hh⟩))
    rw [hl] at this
    exact wpAny_of_C _ _ _ _ this
theorem plan_take {a : Act} {w : World} {i : Nat} {p : Plan} {o : Oper} (hi : ops[i]? = some o) (hg : Region.wanted o (yielded ops a.tmps) = true) (v : Value) (hv : ∀ w, C w → ∀ (K : Act → World → Prop) (Q : Exit → Act → World → Prop), K (a.put o.dst v) w → o.wp P a w K Q) (hr : wpPlan P ops C Q p (a.put o.dst v) w) : wpPlan P ops C Q (.take i p) a w :=
  ⟨o, v, hi, ⟨hg, fun w hC => hv w hC _ _ ⟨rfl, rfl⟩⟩, hr⟩
theorem plan_force {a : Act} {w : World} {i : Nat} {p : Plan} {o : Oper} (hi : ops[i]? = some o) (hg : Region.wanted o (yielded ops a.tmps) = true) (h : ∀ K : Act → World → Prop, (∀ a' w', C w' → wpPlan P ops C Q p a' w' → K a' w') → o.wp P a w K Q) : wpPlan P ops C Q (.force i p) a w := by
  show Go.wpOp P ops Q i _ a w
  unfold Go.wpOp
  simp only [hi]
  rw [if_pos hg]
  exact .inl (h _ fun a' w' h1 h2 => ⟨h1, h2⟩)
theorem plan_fork {a : Act} {w : World} {i j : Nat} {p q : Plan} (h1 : wpPlan P ops C Q (.force i p) a w) (h2 : wpPlan P ops C Q (.force j q) a w) : wpPlan P ops C Q (.fork i j p q) a w := ⟨h1, h2⟩
theorem plan_takeL {l : List Oper} {a : Act} {w : World} {i : Nat} {p : Plan} {o : Oper} (hi : l[i]? = some o) (hg : Region.wanted o (yielded l.toArray a.tmps) = true) (v : Value) (hv : ∀ w, C w → ∀ (K : Act → World → Prop) (Q : Exit → Act → World → Prop), K (a.put o.dst v) w → o.wp P a w K Q) (hr : wpPlan P l.toArray C Q p (a.put o.dst v) w) : wpPlan P l.toArray C Q (.take i p) a w :=
  plan_take (by simpa using hi) hg v hv hr
theorem plan_forceL {l : List Oper} {a : Act} {w : World} {i : Nat} {p : Plan} {o : Oper} (hi : l[i]? = some o) (hg : Region.wanted o (yielded l.toArray a.tmps) = true) (h : ∀ K : Act → World → Prop, (∀ a' w', C w' → wpPlan P l.toArray C Q p a' w' → K a' w') → o.wp P a w K Q) : wpPlan P l.toArray C Q (.force i p) a w :=
  plan_force (by simpa using hi) hg h
end
end Go.Proofs.YtbidppjhenfjdaaGreatDoor
namespace Go.Proofs.YtbidppjhenfjdaaGreatDoor
open Go.RowKit
set_option linter.unusedVariables false
set_option linter.unusedSimpArgs false

theorem tabW_inj {i j : Nat} (h1 : 1 ≤ i) (h2 : i ≤ 14) (h3 : 1 ≤ j) (h4 : j ≤ 14) (h : tabW i = tabW j) : i = j := by
  have key : ∀ a b : Fin 15, 1 ≤ a.val → 1 ≤ b.val → tabW a.val = tabW b.val → a = b := by decide +kernel
  have := key ⟨i, by omega⟩ ⟨j, by omega⟩ h1 h3 h
  exact congrArg Fin.val this
/-- The kind found among those below k. -/
def FoundK (w0 : Nat × ByteArray × Int × Nat × Nat) (k fk : Nat) : Prop := (fk = 0 ∧ ∀ j, 1 ≤ j → j < k → ¬ (w0.1 = 1 ∧ w0.2.1 = tabW j)) ∨ (1 ≤ fk ∧ fk < k ∧ w0.1 = 1 ∧ w0.2.1 = tabW fk)
theorem FoundK.next {w0 : Nat × ByteArray × Int × Nat × Nat} {k fk : Nat} (h : FoundK w0 k fk) (hn : ¬ (w0.1 = 1 ∧ w0.2.1 = tabW k)) : FoundK w0 (k + 1) fk := by
  rcases h with ⟨h1, h2⟩ | ⟨h1, h2, h3, h4⟩
  · refine .inl ⟨h1, fun j hj hk => ?_⟩
    by_cases e : j = k
    · subst e; exact hn
    · exact h2 j hj (by omega)
  · exact .inr ⟨h1, by omega, h3, h4⟩
theorem FoundK.hit {w0 : Nat × ByteArray × Int × Nat × Nat} {k : Nat} (hk : 1 ≤ k) (h1 : w0.1 = 1) (h2 : w0.2.1 = tabW k) : FoundK w0 (k + 1) k := .inr ⟨hk, by omega, h1, h2⟩
theorem kindF_none {w0 : Nat × ByteArray × Int × Nat × Nat} (h : ∀ j, 1 ≤ j → j < 15 → ¬ (w0.1 = 1 ∧ w0.2.1 = tabW j)) : kindF w0 14 0 = none := by
  have key : ∀ (m j : Nat), j + m = 14 → kindF w0 m j = none := by
    intro m
    induction m with
    | zero => intro j _; rfl
    | succ m ih =>
      intro j hj
      unfold kindF
      rw [if_neg (fun hh => h (j + 1) (by omega) (by omega) ⟨hh.1, ByteArray.ext hh.2⟩)]
      exact ih (j + 1) (by omega)
  exact key 14 0 rfl
theorem FoundK.some {w0 : Nat × ByteArray × Int × Nat × Nat} {fk : Nat} (h : FoundK w0 15 fk) (h0 : fk ≠ 0) : 1 ≤ fk ∧ fk ≤ 14 ∧ kindF w0 14 0 = some fk := by
  rcases h with ⟨h1, _⟩ | ⟨h1, h2, h3, h4⟩
  · exact absurd h1 h0
  · have := kindF_at (w0 := w0) (i := fk - 1) (by omega) (fun k hk hh => by
      have := tabW_inj (by omega) (by omega) (by omega) (by omega) (hh.2.symm.trans h4)
      omega) h3 (by rw [h4]; congr 1; omega)
    exact ⟨h1, by omega, by rw [this]; congr 1; omega⟩
/-- What step says. -/
def RsPost (W : World) (o : Option Stp) (e : Ending) (W' : World) : Prop := Keep [] W W' ∧
  ((o = none ∧ ∃ s' ad1 n1 c1 ad2 n2 c2, e = .returned (.tuple #[.agg (stV s' (.slice ad1 n1 c1) (.slice ad2 n2 c2)), .bool false])) ∨
   (∃ s dv bv, o = some s ∧ e = .returned (.tuple #[.agg (stV s dv bv), .bool true]) ∧ DatB W' bv s.data ∧ (∀ g, bv.ownBlock = some g → W.heap.size ≤ g) ∧ W'.ownsRow W.heap.size 3 1 dv s.draws.length (s.draws.map fun x => Value.int .i64 x)))
theorem shB_byt {k j : Nat} (h : j < (tabF k).length) : byt (shB k) j = fldL (tabF k)[j] := by
  have hf : ∀ f : Fld, fldL f < 256 := fun f => by cases f <;> decide
  have hlt := hf (tabF k)[j]
  have e : (shB k).data[j]? = some (UInt8.ofNat (fldL (tabF k)[j])) := by
    show ((((tabF k).map fun f => UInt8.ofNat (fldL f)).toArray))[j]? = _
    simp [h]
  obtain ⟨h1, h2⟩ := Array.getElem?_eq_some_iff.1 e
  have hs : j < (shB k).size := by rw [shB_size]; exact h
  rw [← byt_at hs]
  show ((shB k).data[j]).toNat = _
  rw [h2]
  simp only [UInt8.toNat_ofNat']
  omega
/-- A store, by its run. -/
theorem store_op {P : Program} {o : Oper} {a : Act} {w w' : World} {K : Act → World → Prop} {Q : Exit → Act → World → Prop} {x y : Operand} {ty : TypeId} (ho : o.op = .store ty x y) {p v : Value} (hx : a.eval x = p) (hy : a.eval y = v) (hr : (Instr.storeAt ty p v).run P w = .ok () w') (hK : K (a.put o.dst undef) w') : o.wp P a w K Q := by
  unfold Oper.wp
  simp [execOp, ho, hx, hy, hr, Result.andThen]
  exact hK
theorem dec_le_tt {a b : Int} (h : a ≤ b) : decide (a ≤ b) = true := by simpa using h
theorem dec_le_ff {a b : Int} (h : ¬ a ≤ b) : decide (a ≤ b) = false := by simpa using h

end Go.Proofs.YtbidppjhenfjdaaGreatDoor
namespace Go.Proofs.YtbidppjhenfjdaaGreatDoor
open Go.RowKit
set_option linter.unusedVariables false
set_option linter.unusedSimpArgs false

set_option maxHeartbeats 16000000 in
set_option maxRecDepth 100000 in
theorem rstep_any (lb lo cap : Nat) (w0 : Nat × ByteArray × Int × Nat × Nat) (L : List (Nat × ByteArray × Int × Nat × Nat)) (W : World) (n : Nat) (hn : n = L.length + 1) (hL : n ≤ 100000000) (hcp : n ≤ cap) (h : WdAt W lb lo (w0 :: L)) :
    Calls Tryz.prog 22 #[.slice (some ⟨lb, lo, none⟩) n cap] W (RsPost W (rd (w0 :: L))) := by
  have HW := Lib.hid h
  have HN := Lib.hid hn
  have i4 : 0 < n := by omega
  clear h hn
  go_enter Tryz.func22, Tryz.ntmps22
  go_upto_region 2 with (fail)
  obtain ⟨w1, hw1⟩ : ∃ w1, w1 = allocs W [.cells #[.int .i64 0, .int .i64 0, .int .i64 0, .int .i64 0, .int .i64 0, .int .i64 0, .string ⟨#[]⟩, .slice none 0 0, .slice none 0 0] 40, .cells #[.int .i64 0, .int .i64 0, .int .i64 0, .int .i64 0, .int .i64 0, .int .i64 0, .string ⟨#[]⟩, .slice none 0 0, .slice none 0 0] 40] := ⟨_, rfl⟩
  have hw1' : (W.alloc (.cells #[.int .i64 0, .int .i64 0, .int .i64 0, .int .i64 0, .int .i64 0, .int .i64 0, .string ⟨#[]⟩, .slice none 0 0, .slice none 0 0] 40)).alloc (.cells #[.int .i64 0, .int .i64 0, .int .i64 0, .int .i64 0, .int .i64 0, .int .i64 0, .string ⟨#[]⟩, .slice none 0 0, .slice none 0 0] 40) = w1 := hw1.symm
  have hat := fun i o (h : [Obj.cells #[.int .i64 0, .int .i64 0, .int .i64 0, .int .i64 0, .int .i64 0, .int .i64 0, .string ⟨#[]⟩, .slice none 0 0, .slice none 0 0] 40, .cells #[.int .i64 0, .int .i64 0, .int .i64 0, .int .i64 0, .int .i64 0, .int .i64 0, .string ⟨#[]⟩, .slice none 0 0, .slice none 0 0] 40][i]? = some o) => allocs_at _ W i o h
  have hk1 : Keep [] W w1 := by rw [hw1]; exact allocs_keep _ _
  rw [← hw1] at hat
  have hb2 : Res W.heap.size w1 := hat 0 _ rfl
  have hb4 : StB (W.heap.size + 1) (Stp.zero ((0 : Nat) : Int)) (.slice none 0 0) (.slice none 0 0) w1 := hat 1 _ rfl
  rw [hw1']
  obtain ⟨b2, hb⟩ : ∃ b2, b2 = W.heap.size := ⟨_, rfl⟩
  obtain ⟨b4, hbb⟩ : ∃ b4, b4 = b2 + 1 := ⟨_, rfl⟩
  rw [← hb, ← hbb] at hb4 ⊢
  rw [← hb] at hb2
  have HRS := Lib.hid hb2
  have HST := Lib.hid hb4
  have HK1 := Lib.hid hk1
  have HBB := Lib.hid (And.intro hb hbb)
  clear hw1 hw1' hat hk1 hb2 hb4 hb hbb
  go_upto_region 3 with (fail)
  go_loopw [5] (fun iv wr => ∃ k fk : Nat, iv = .int .i64 k ∧ 1 ≤ k ∧ k ≤ 15 ∧ FoundK w0 k fk ∧ Keep [] W wr ∧ Res b2 wr ∧ StB b4 (Stp.zero (fk : Nat)) (.slice none 0 0) (.slice none 0 0) wr) (fun iv _ => 15 - (intOf iv).toNat)
  case atStart => exact ⟨1, 0, rfl, Nat.le_refl _, by decide, .inl ⟨rfl, fun j h1 h2 => by omega⟩, HK1.out, HRS.out, HST.out⟩
  case round =>
    rename World => wr
    obtain ⟨k, fk, rfl, hk1, hk2, hfo, hkr, hrs, hst⟩ := hrel
    have HFO := Lib.hid hfo
    have HKR := Lib.hid hkr
    have HRR := Lib.hid hrs
    have HSR := Lib.hid hst
    clear hfo hkr hrs hst HK1 HRS HST
    by_cases hlt : k ≤ 14
    · have HLT := Lib.hid (And.intro hk1 hlt)
      have g1 := dec_le_tt (show (k : Int) ≤ 14 by omega)
      have q0 := ((HW.out.keep HKR.out (by simp)) 0 (by simp)).1
      have q1 := ((HW.out.keep HKR.out (by simp)) 0 (by simp)).2.1
      simp at q0 q1
      obtain ⟨wk, wt, wn, wa, wl⟩ := w0
      simp only at q0 q1
      by_cases hwk : wk = 1
      · subst hwk
        have HNM := Lib.hid (show nameB (k : Int) = tabW k by
          unfold nameB
          rw [if_pos (by omega)]
          rfl)
        go_upto_region 5 with (fail)
        refine wp_plan (fun w' => Keep [] wr w') (.take 0 (.take 1 (.take 2 (.take 3 (.take 4 (.take 5 (.take 6 (.take 7 (.take 8 (.take 9 (.take 10 (.force 11 (.take 12 (.take 13 .done)))))))))))))) (by kernel_rfl) (by kernel_rfl) ((Keep.refl _ _).drew) ?_
        intro Q0 hQ0
        refine plan_takeL rfl rfl (.slice (some ⟨lb, lo, none⟩) n cap) ?_ ?_
        · intro w' yk K Q hK
          have z0 := yk.cellv q0 (by simp)
          have z1 := yk.cellv q1 (by simp)
          go_simp
          exact hK
        simp only [Act.put, List.setIfInBounds_toArray, List.set_cons_succ, List.set_cons_zero]
        refine plan_takeL rfl rfl (.pointer (some ⟨lb, lo, none⟩)) ?_ ?_
        · intro w' yk K Q hK
          have z0 := yk.cellv q0 (by simp)
          have z1 := yk.cellv q1 (by simp)
          go_simp
          exact hK
        simp only [Act.put, List.setIfInBounds_toArray, List.set_cons_succ, List.set_cons_zero]
        refine plan_takeL rfl rfl (.pointer (some ⟨lb, lo, none⟩)) ?_ ?_
        · intro w' yk K Q hK
          have z0 := yk.cellv q0 (by simp)
          have z1 := yk.cellv q1 (by simp)
          go_simp
          exact hK
        simp only [Act.put, List.setIfInBounds_toArray, List.set_cons_succ, List.set_cons_zero]
        refine plan_takeL rfl rfl (.int .i64 1) ?_ ?_
        · intro w' yk K Q hK
          have z0 := yk.cellv q0 (by simp)
          have z1 := yk.cellv q1 (by simp)
          go_simp
          exact hK
        simp only [Act.put, List.setIfInBounds_toArray, List.set_cons_succ, List.set_cons_zero]
        refine plan_takeL rfl rfl (.bool true) ?_ ?_
        · intro w' yk K Q hK
          have z0 := yk.cellv q0 (by simp)
          have z1 := yk.cellv q1 (by simp)
          go_simp
          exact hK
        simp only [Act.put, List.setIfInBounds_toArray, List.set_cons_succ, List.set_cons_zero]
        refine plan_takeL rfl rfl (.bool true) ?_ ?_
        · intro w' yk K Q hK
          have z0 := yk.cellv q0 (by simp)
          have z1 := yk.cellv q1 (by simp)
          go_simp
          exact hK
        simp only [Act.put, List.setIfInBounds_toArray, List.set_cons_succ, List.set_cons_zero]
        refine plan_takeL rfl rfl (.slice (some ⟨lb, lo, none⟩) n cap) ?_ ?_
        · intro w' yk K Q hK
          have z0 := yk.cellv q0 (by simp)
          have z1 := yk.cellv q1 (by simp)
          go_simp
          exact hK
        simp only [Act.put, List.setIfInBounds_toArray, List.set_cons_succ, List.set_cons_zero]
        refine plan_takeL rfl rfl (.pointer (some ⟨lb, lo, none⟩)) ?_ ?_
        · intro w' yk K Q hK
          have z0 := yk.cellv q0 (by simp)
          have z1 := yk.cellv q1 (by simp)
          go_simp
          exact hK
        simp only [Act.put, List.setIfInBounds_toArray, List.set_cons_succ, List.set_cons_zero]
        refine plan_takeL rfl rfl (.pointer (some ⟨lb, lo + 1, none⟩)) ?_ ?_
        · intro w' yk K Q hK
          have z0 := yk.cellv q0 (by simp)
          have z1 := yk.cellv q1 (by simp)
          go_simp
          exact hK
        simp only [Act.put, List.setIfInBounds_toArray, List.set_cons_succ, List.set_cons_zero]
        refine plan_takeL rfl rfl (.string wt) ?_ ?_
        · intro w' yk K Q hK
          have z0 := yk.cellv q0 (by simp)
          have z1 := yk.cellv q1 (by simp)
          go_simp
          exact hK
        simp only [Act.put, List.setIfInBounds_toArray, List.set_cons_succ, List.set_cons_zero]
        refine plan_takeL rfl rfl (.int .i64 (k : Nat)) ?_ ?_
        · intro w' yk K Q hK
          have z0 := yk.cellv q0 (by simp)
          have z1 := yk.cellv q1 (by simp)
          go_simp
          exact hK
        simp only [Act.put, List.setIfInBounds_toArray, List.set_cons_succ, List.set_cons_zero]
        refine plan_forceL rfl rfl fun K hK => ?_
        go_simp
        refine (rname_any (k : Int) _).mono ?_
        rintro e w5 ⟨rfl, hk5⟩
        rw [HNM.out]
        have HK5 := Lib.hid (show Keep [] wr w5 from ((Keep.refl [] wr).drew).trans0 hk5)
        obtain ⟨tw, htw⟩ : ∃ tw, tw = tabW k := ⟨_, rfl⟩
        rw [← htw]
        have HTW := Lib.hid htw
        clear hk5 htw
        refine hK _ _ HK5.out ?_
        try simp only [Act.put, List.setIfInBounds_toArray, List.set_cons_succ, List.set_cons_zero]
        clear hK K
        by_cases hwt : wt = tw
        · subst hwt
          have gS : (wt.toList == wt.toList) = true := beq_self_eq_true _
          have HFI := Lib.hid (FoundK.hit (w0 := (1, wt, wn, wa, wl)) hk1 rfl HTW.out)
          refine plan_takeL rfl rfl (.bool true) ?_ ?_
          · intro w' yk K Q hK
            go_simp
            exact hK
          try simp only [Act.put, List.setIfInBounds_toArray, List.set_cons_succ, List.set_cons_zero]
          refine plan_takeL rfl rfl (.bool true) ?_ ?_
          · intro w' yk K Q hK
            go_simp
            exact hK
          try simp only [Act.put, List.setIfInBounds_toArray, List.set_cons_succ, List.set_cons_zero]
          refine hQ0 _ _ ?_
          clear hQ0 Q0 q0 q1
          have hst5 : StB b4 (Stp.zero (fk : Nat)) (.slice none 0 0) (.slice none 0 0) w5 := HK5.out.at_ HSR.out (by simp)
          have p0 := cell_of_block hst5 0
          have y0 := free_of_block hst5 0
          simp [stV, Stp.zero] at p0
          have hks : Keep [b4] w5 (w5.setCell ⟨b4, 0, none⟩ (.int .i64 (k : Nat))) := (Keep.refl _ _).setCell (.inl (by simp)) _
          have HK6 := Lib.hid ((HKR.out.trans0 HK5.out).trans hks (fun x hx => by simp at hx; subst hx; exact .inr (by have := HBB.out; omega)))
          have HR6 := Lib.hid ((HRR.out.keep HK5.out (by simp)).keep hks (by have := HBB.out; simp; omega))
          have HS6 := Lib.hid (show StB b4 (Stp.zero (k : Nat)) (.slice none 0 0) (.slice none 0 0) (w5.setCell ⟨b4, 0, none⟩ (.int .i64 (k : Nat))) from block_setCell hst5 0 _)
          clear hst5 hks
          go_wp2
          go_roundw
          case rel => exact ⟨k + 1, k, by go_num, by omega, by have := HLT.out; omega, HFI.out, HK6.out, HR6.out, HS6.out⟩
          case measure => have := HLT.out; simp [intOf]; omega
        · have gS : (wt.toList == tw.toList) = false := str_ne hwt
          have HFI := Lib.hid (HFO.out.next (fun hh => hwt (hh.2.trans HTW.out.symm)))
          clear hwt
          refine plan_takeL rfl rfl (.bool false) ?_ ?_
          · intro w' yk K Q hK
            go_simp
            exact hK
          try simp only [Act.put, List.setIfInBounds_toArray, List.set_cons_succ, List.set_cons_zero]
          refine plan_takeL rfl rfl (.bool false) ?_ ?_
          · intro w' yk K Q hK
            go_simp
            exact hK
          try simp only [Act.put, List.setIfInBounds_toArray, List.set_cons_succ, List.set_cons_zero]
          refine hQ0 _ _ ?_
          clear hQ0 Q0 q0 q1
          have HK6 := Lib.hid (HKR.out.trans0 HK5.out)
          have HR6 := Lib.hid (HRR.out.keep HK5.out (by simp))
          have HS6 := Lib.hid (show StB b4 (Stp.zero (fk : Nat)) (.slice none 0 0) (.slice none 0 0) w5 from HK5.out.at_ HSR.out (by simp))
          go_wp2
          go_roundw
          case rel => exact ⟨k + 1, fk, by go_num, by omega, by have := HLT.out; omega, HFI.out, HK6.out, HR6.out, HS6.out⟩
          case measure => have := HLT.out; simp [intOf]; omega
      · have g2 : ((wk : Int) == 1) = false := by simp; omega
        have g3 : (wk == 1) = false := by simpa using hwk
        have hnx := Lib.hid (HFO.out.next (fun hh => hwk hh.1))
        clear hwk
        go_upto_region 5 with (fail)
        refine (wpIn_wide (n := 0)).1 ?_
        refine wpIn_fix (.inl rfl) 13 [] (fun _ => wr.drew) (fun w' => w'.cell? ⟨lb, lo, none⟩ = some (.int .i64 (wk : Nat)))
          [.slice (some ⟨lb, lo, none⟩) n cap, .pointer (some ⟨lb, lo, none⟩), .pointer (some ⟨lb, lo, none⟩), .int .i64 (wk : Nat), .bool false, .bool false, undef, undef, undef, undef, undef, undef, undef]
          (by kernel_rfl) (by kernel_rfl) rfl rfl rfl (fun _ _ => q0) ?rest5
        case rest5 =>
          intro A hA
          simp only [putVals, List.take, Act.put, List.setIfInBounds_toArray, List.set_cons_succ, List.set_cons_zero] at hA
          subst hA
          refine ⟨?_, fixWrites_nil, ?_⟩
          · iterate 6
              refine fixReads_on rfl ?_ ?_
              · intro w1 hw1 K Q hK
                go_simp
                exact hK
            iterate 7
              refine fixReads_out rfl rfl ?_
            exact fixReads_nil
          · simp only [List.drop]
            gi_wp2
            go_wp2
            go_roundw
            case rel => exact ⟨k + 1, fk, by go_num, by omega, by have := HLT.out; omega, hnx.out, HKR.out.drew, HRR.out, HSR.out⟩
            case measure => have := HLT.out; simp [intOf]; omega
    · obtain rfl : k = 15 := by omega
      by_cases h0 : fk = 0
      · subst h0
        have HRD := Lib.hid (show rd (w0 :: L) = none by
          have hkf := kindF_none (w0 := w0) (fun j h1 h2 => by
            rcases HFO.out with ⟨_, h⟩ | ⟨h, _⟩
            · exact h j h1 h2
            · omega)
          unfold rd
          simp only [hkf])
        have p0 := cell_of_block HSR.out 0
        simp [stV, Stp.zero] at p0
        have hld : (Instr.loadAt 40 (.pointer (some ⟨b4, 0, none⟩))).run Tryz.prog wr = .ok (.agg (stV (Stp.zero ((0 : Nat) : Int)) (.slice none 0 0) (.slice none 0 0))) wr := load_row (P := Tryz.prog) Tryz.underlying40 rfl step_info HSR.out rfl
        obtain ⟨W9, hs9, hb9, hl9, hk9⟩ := put_step b2 _ (stV (Stp.zero ((0 : Nat) : Int)) (.slice none 0 0) (.slice none 0 0)) wr HRR.out rfl rfl (by simp [stV, Value.oneCell'])
        have HL9 := Lib.hid hl9
        have HK9 := Lib.hid (HKR.out.trans hk9 (fun x hx => by simp at hx; subst hx; exact .inr (by have := HBB.out; omega)))
        clear hl9 hk9 hb9 hlt hk1 hk2
        go_upto_region 8 with (fail)
        go_wp2_with (with_reducible refine park_load 4 _ rfl ?_)
        refine wpList_load_eq rfl _ (.tmp 4) rfl hld ?_
        go_wp2_with (with_reducible refine park_store 2 34 _ rfl ?_)
        refine wpList_store_eq rfl _ (.tmp 2) (.tmp 34) rfl hs9 ?_
        clear hs9
        go_wp2
        exact bodyPost_ret (results_step rfl _ _ b2 _ _ rfl rfl HL9.out) rfl ⟨HK9.out, .inl ⟨HRD.out, _, _, _, _, _, _, _, rfl⟩⟩
      · obtain ⟨hf1, hf2, hkf⟩ := FoundK.some HFO.out h0
        have p0 : wr.cell? ⟨b4, 0, none⟩ = some (.int .i64 (fk : Nat)) := cell_of_block HSR.out 0
        have g2 : ((fk : Int) == 0) = false := by simp; omega
        have g3 : (fk == 0) = false := by simpa using h0
        obtain ⟨lo1, hsl, hlo⟩ := wd_tail (lb := lb) (lo := lo) (n := n) (cap := cap) (k := 1) (by omega) hcp (i := 1) rfl
        obtain ⟨m, hm⟩ : ∃ m, m = n - 1 := ⟨_, rfl⟩
        have HM := Lib.hid (show m = L.length ∧ n = m + 1 by have := HN.out; omega)
        have hmz : m ≤ 100000000 := by omega
        rw [← hm] at hsl
        have HLO := Lib.hid (show m ≠ 0 → lo1 = lo + 5 from fun h => by have := hlo (by omega); omega)
        clear hm hlo hlt hk1 hk2
        by_cases h6 : fk = 6
        · subst h6
          have HRD := Lib.hid (show rd (w0 :: L) = (drawL L).map (fun d => { Stp.zero 6 with draws := d }) by
            unfold rd
            simp only [hkf]
            exact if_pos trivial)
          clear hkf h0 hf1 hf2 g2 g3
          go_upto_region 12 with (fail)
          clear p0 hsl
          go_loopw [6] (fun jv wx => ∃ (j : Nat) (d : List Int) (dv : Value), jv = .int .i64 j ∧ j ≤ m ∧ drawL L = (drawL (L.drop j)).map (d ++ ·) ∧ d.length = j ∧ StB b4 { Stp.zero 6 with draws := d } dv (.slice none 0 0) wx ∧
            wx.ownsRow W.heap.size 3 1 dv j (d.map fun x => Value.int .i64 x) ∧ Keep [] W wx ∧ Res b2 wx) (fun jv _ => m - (intOf jv).toNat)
          case atStart => exact ⟨0, [], _, rfl, Nat.zero_le _, (by simp), rfl, HSR.out, World.ownsRow_nil _ _ _ _, HKR.out, HRR.out⟩
          case round =>
            rename World => wx
            obtain ⟨j, d, dv, rfl, hj, hdl, hdj, hst, hown, hkx, hrx⟩ := hrel
            have HDL := Lib.hid hdl
            have HDJ := Lib.hid hdj
            have HST := Lib.hid hst
            have HOWN := Lib.hid hown
            have HKX := Lib.hid hkx
            have HRX := Lib.hid hrx
            obtain ⟨ad2, cap2, hdv⟩ := (SlAt.of_owns hown).empty
            subst hdv
            clear hdl hdj hst hown hkx hrx
            by_cases hlt2 : j < m
            · have HJM := Lib.hid hlt2
              have hjz : j ≤ 100000000 := by omega
              have g1 := dec_lt_t (show (j : Int) < (m : Int) by omega)
              have g2 := dec_ltn_t hlt2
              have hjL : j < L.length := by rw [← HM.out.1]; exact hlt2
              have hdl := List.drop_eq_getElem_cons hjL
              have hw := (HW.out.keep HKX.out (by simp)) (j + 1) (by simp; omega)
              simp only [List.getElem_cons_succ] at hw
              obtain rfl := HLO.out (by omega)
              rw [show lo + (j + 1) * 5 = lo + 5 + j * 5 by omega] at hw
              generalize L[j] = wj at hdl hw
              obtain ⟨vk, vt, vn, va, vl⟩ := wj
              obtain ⟨c0, _, c2, _, _⟩ := hw
              simp only at c0 c2
              have HDD := Lib.hid (show drawL (L.drop j) = (if vk = 3 then (drawL (L.drop (j + 1))).map (vn :: ·) else none) by
                rw [hdl]; rfl)
              clear hdl hjL
              by_cases hk3 : vk = 3
              · subst hk3
                obtain ⟨v2, W10, hap, hpost⟩ := d_append_drew vn HOWN.out HKX.out.size (by omega)
                have hn1 := own_not_ty HOWN.out HST.out (by decide)
                have hn3 := own_not_ty HOWN.out HRX.out (by decide)
                have k5a : Keep [] wx (wx.alloc (.cells #[.int .i64 vn] 3)).drew := ((Keep.refl _ _).alloc _).drew
                have k5b := hpost.2.1
                have HSTa := Lib.hid (k5a.at_ HST.out (by simp))
                have HSTb := Lib.hid (k5b.at_ HSTa.out hn1)
                have HRb := Lib.hid ((HRX.out.keep k5a (by simp)).keep k5b hn3)
                have HKb := Lib.hid ((HKX.out.trans0 k5a).trans k5b (fun x hx => by simp at hx; exact .inr (HOWN.out.lt x hx).1))
                obtain ⟨ad3, cap3, hv3⟩ := (SlAt.of_owns hpost.1).empty
                subst hv3
                have HOWNb := Lib.hid hpost.1
                have hn5 := own_not_ty HOWNb.out HSTb.out (by decide)
                have hk11 : Keep [b4] W10 (W10.setCell ⟨b4, 7, none⟩ (.slice ad3 (j + 1) cap3)) := (Keep.refl _ _).setCell (.inl (by simp)) _
                have HST11 := Lib.hid (show StB b4 { Stp.zero 6 with draws := d ++ [vn] } (.slice ad3 (j + 1) cap3) (.slice none 0 0) (W10.setCell ⟨b4, 7, none⟩ (.slice ad3 (j + 1) cap3)) from block_setCell HSTb.out 7 _)
                have HOWN11 := Lib.hid (hk11.owns HOWNb.out (fun g hg hm => by simp at hm; subst hm; exact hn5 (by simp [hg])))
                have HK11 := Lib.hid (HKb.out.trans hk11 (fun x hx => by simp at hx; subst hx; exact .inr (by have := HBB.out; omega)))
                have HR11 := Lib.hid (HRb.out.keep hk11 (by have := HBB.out; simp; omega))
                have qb : W10.cell? ⟨b4, 7, none⟩ = some (.slice ad2 j cap2) := cell_of_block HSTb.out 7
                have zb : W10.frozen? ⟨b4, 7, none⟩ = false := free_of_block HSTb.out 7
                have hwlt := HKX.out.size
                have cw : W10.cell? ⟨lb, lo + 5 + j * 5 + 2, none⟩ = some (.int .i64 vn) := by
                  have h := ((HW.out.keep HKb.out (by simp)) (j + 1) (by simp; have := HM.out; omega)).2.2.1
                  simp only [List.getElem_cons_succ] at h
                  have h0 := k5a.cellv c2 (by simp)
                  have h1 := World.block_lt_of_cell? _ _ c2
                  have hlb : lb < W.heap.size := World.block_lt_of_cell? _ _ (HW.out 0 (by simp)).1
                  exact k5b.cellv h0 (fun hm => by simp at hm; have := (HOWN.out.lt _ hm).1; omega)
                have HCL := Lib.hid (show (wx.drew.cell? ⟨b4, 7, none⟩ = some (.slice ad2 j cap2) ∧ wx.drew.cell? ⟨lb, lo + 5 + j * 5 + 2, none⟩ = some (.int .i64 vn)) ∧
                  ((wx.alloc (.cells #[.int .i64 vn] 3)).drew.cell? ⟨b4, 7, none⟩ = some (.slice ad2 j cap2) ∧ (wx.alloc (.cells #[.int .i64 vn] 3)).drew.cell? ⟨lb, lo + 5 + j * 5 + 2, none⟩ = some (.int .i64 vn)) ∧
                  (W10.cell? ⟨b4, 7, none⟩ = some (.slice ad2 j cap2) ∧ W10.cell? ⟨lb, lo + 5 + j * 5 + 2, none⟩ = some (.int .i64 vn)) from ⟨⟨cell_of_block (w := wx) HST.out 7, c2⟩, ⟨cell_of_block HSTa.out 7, k5a.cellv c2 (by simp)⟩, qb, cw⟩)
                have HDL11 := Lib.hid (show drawL L = (drawL (L.drop (j + 1))).map ((d ++ [vn]) ++ ·) by
                  rw [HDL.out, HDD.out, if_pos rfl, Option.map_map]
                  congr 1
                  funext x
                  simp)
                clear hn1 hn3 hn5 k5a k5b hpost hk11 cw hwlt
                go_upto_region 16 with (fail)
                clear c0 c2
                refine (wpIn_wide (n := 0)).1 ?_
                refine wpIn_fix (.inl rfl) 9 [7, 8] (fun k => if k = 0 then wx.drew else if k = 1 then (wx.alloc (.cells #[.int .i64 vn] 3)).drew else W10) (fun w' => w'.cell? ⟨b4, 7, none⟩ = some (.slice ad2 j cap2) ∧ w'.cell? ⟨lb, lo + 5 + j * 5 + 2, none⟩ = some (.int .i64 vn))
                  [.pointer (some ⟨b4, 7, none⟩), .slice ad2 j cap2, .slice (some ⟨lb, lo + 5, none⟩) m (cap - 1), .int .i64 (j : Nat), .pointer (some ⟨lb, lo + 5 + j * 5, none⟩), .pointer (some ⟨lb, lo + 5 + j * 5 + 2, none⟩), .int .i64 vn, .slice (some ⟨wx.heap.size, 0, none⟩) 1 1, .slice ad3 (j + 1) cap3]
                  (by kernel_rfl) (by kernel_rfl) rfl rfl (show _ = W10 from rfl) ?hC16 ?rest16
                case hC16 =>
                  intro k hk
                  rcases k with _ | _ | k
                  · exact HCL.out.1
                  · exact HCL.out.2.1
                  · exact HCL.out.2.2
                case rest16 =>
                  intro A hA
                  simp only [putVals, List.take, Act.put, List.setIfInBounds_toArray, List.set_cons_succ, List.set_cons_zero] at hA
                  subst hA
                  refine ⟨?_, fixWrites_cons rfl rfl ?_ (fixWrites_cons rfl rfl ?_ fixWrites_nil), ?_⟩
                  · iterate 7
                      refine fixReads_cons rfl ?_ ?_
                      · intro w1 hw1 K Q hK
                        obtain ⟨x0, x1⟩ := hw1
                        go_simp
                        exact hK
                    exact fixReads_skip (by rfl) (fixReads_skip (by rfl) fixReads_nil)
                  · intro K Q hK
                    go_simp
                    exact hK
                  · exact fun K Q hK => wp_append_eq _ _ _ rfl rfl rfl hap hK
                  · simp only [List.drop]
                    gi_wp2
                    clear qb zb hap
                    go_wp2
                    go_roundw
                    case rel => exact ⟨j + 1, d ++ [vn], _, by go_num, by have := HJM.out; omega, HDL11.out, by simp [HDJ.out], HST11.out, by rw [List.map_append]; exact HOWN11.out, HK11.out, HR11.out⟩
                    case measure => have := HJM.out; simp [intOf]; omega
              · have g9 : ((vk : Int) != 3) = true := by simp; omega
                have g10 : (vk != 3) = true := by simp; omega
                have HRD9 := Lib.hid (show rd (w0 :: L) = none by
                  rw [HRD.out, HDL.out, HDD.out, if_neg hk3]
                  rfl)
                have hld : (Instr.loadAt 40 (.pointer (some ⟨b4, 0, none⟩))).run Tryz.prog wx = .ok (.agg (stV { Stp.zero 6 with draws := d } (.slice ad2 j cap2) (.slice none 0 0))) wx := load_row (P := Tryz.prog) Tryz.underlying40 rfl step_info HST.out rfl
                obtain ⟨W9, hs9, hb9, hl9, hk9⟩ := put_step b2 _ (stV { Stp.zero 6 with draws := d } (.slice ad2 j cap2) (.slice none 0 0)) wx HRX.out rfl rfl (by simp [stV, Value.oneCell'])
                have HL9 := Lib.hid hl9
                have HK9 := Lib.hid (HKX.out.trans hk9 (fun x hx => by simp at hx; subst hx; exact .inr (by have := HBB.out; omega)))
                clear hl9 hk9 hb9 hk3
                go_upto_region 15 with (fail)
                go_wp2_with (with_reducible refine park_load 4 _ rfl ?_)
                refine wpList_load_eq rfl _ (.tmp 4) rfl hld ?_
                go_wp2_with (with_reducible refine park_store 2 52 _ rfl ?_)
                refine wpList_store_eq rfl _ (.tmp 2) (.tmp 52) rfl hs9 ?_
                clear hs9
                go_wp2
                exact bodyPost_ret (results_step rfl _ _ b2 _ _ rfl rfl HL9.out) rfl ⟨HK9.out, .inl ⟨HRD9.out, _, _, _, _, _, _, _, rfl⟩⟩
            · obtain rfl : j = m := by omega
              have g1 := dec_lt_f (show ¬ (j : Int) < (j : Int) by omega)
              have g2 := dec_ltn_f hlt2
              have HRD9 := Lib.hid (show rd (w0 :: L) = some { Stp.zero 6 with draws := d } by
                rw [HRD.out, HDL.out, List.drop_of_length_le (by rw [← HM.out.1]; omega)]
                simp [drawL])
              have hld : (Instr.loadAt 40 (.pointer (some ⟨b4, 0, none⟩))).run Tryz.prog wx = .ok (.agg (stV { Stp.zero 6 with draws := d } (.slice ad2 j cap2) (.slice none 0 0))) wx := load_row (P := Tryz.prog) Tryz.underlying40 rfl step_info HST.out rfl
              obtain ⟨W9, hs9, hb9, hl9, hk9⟩ := put_step b2 _ (stV { Stp.zero 6 with draws := d } (.slice ad2 j cap2) (.slice none 0 0)) wx HRX.out rfl rfl (by simp [stV, Value.oneCell'])
              have HL9 := Lib.hid hl9
              have HK9 := Lib.hid (HKX.out.trans hk9 (fun x hx => by simp at hx; subst hx; exact .inr (by have := HBB.out; omega)))
              have hn9 := own_not_ty HOWN.out HRX.out (by decide)
              have HOWN9 := Lib.hid (hk9.owns HOWN.out (fun g hg hm => by simp at hm; subst hm; exact hn9 (by simp [hg])))
              clear hl9 hk9 hb9 hn9 hlt2
              go_wp2_with (with_reducible refine park_load 4 _ rfl ?_)
              refine wpList_load_eq rfl _ (.tmp 4) rfl hld ?_
              go_wp2_with (with_reducible refine park_store 2 63 _ rfl ?_)
              refine wpList_store_eq rfl _ (.tmp 2) (.tmp 63) rfl hs9 ?_
              clear hs9
              go_wp2
              refine bodyPost_ret (results_step rfl _ _ b2 _ _ rfl rfl HL9.out) rfl ⟨HK9.out, .inr ⟨{ Stp.zero 6 with draws := d }, .slice ad2 j cap2, .slice none 0 0, HRD9.out, rfl, .inl ⟨rfl, rfl⟩, fun g hg => by simp [Value.ownBlock] at hg, ?_⟩⟩
              have h := HOWN9.out
              rw [← HDJ.out] at h ⊢
              exact h
        · -- the fields
          obtain ⟨x, hx⟩ : ∃ x, x = shB fk := ⟨_, rfl⟩
          have hxs : x.size = (tabF fk).length := by rw [hx]; exact shB_size fk
          have HX := Lib.hid (And.intro hx hxs)
          have g4 : ((fk : Int) == 6) = false := by simp; omega
          have g5 : (fk == 6) = false := by simpa using h6
          have HKF := Lib.hid (And.intro hkf h6)
          clear hxs
          go_wp2_with fail
          refine (rshape_any fk _ hf1 hf2).mono ?_
          rintro e w5 ⟨rfl, hk5⟩
          rw [← hx]
          have HK5 := Lib.hid (HKR.out.trans0 hk5)
          have HST5 := Lib.hid (show StB b4 (Stp.zero (fk : Nat)) (.slice none 0 0) (.slice none 0 0) w5 from hk5.at_ HSR.out (by simp))
          have HRS5 := Lib.hid (HRR.out.keep hk5 (by simp))
          have hxz : x.size ≤ 3 := by
            rw [HX.out.2]
            unfold tabF
            split <;> simp
          clear hk5 hx p0 g2 g3 g4 g5 hkf h6 hf1 hf2 h0 hsl
          by_cases hlen : m = x.size
          · have g6 : ((m : Int) != (x.size : Int)) = false := by simp; omega
            have g7 : (m != x.size) = false := by simpa using hlen
            have HLEN := Lib.hid hlen
            have HRD := Lib.hid (show rd (w0 :: L) = fillL (tabF fk) L (Stp.zero (fk : Nat)) by
              unfold rd
              simp only [HKF.out.1]
              rw [if_neg HKF.out.2, if_pos (by rw [← HM.out.1, hlen]; exact HX.out.2)])
            clear hlen
            go_upto_region 22 with (fail)
            clear g6 g7
            go_loopw [8] (fun jv wx => ∃ (j : Nat) (s : Stp) (bv : Value), jv = .int .i64 j ∧ j ≤ x.size ∧ fillL (tabF fk) L (Stp.zero (fk : Nat)) = fillL ((tabF fk).drop j) (L.drop j) s ∧ s.draws = [] ∧
              StB b4 s (.slice none 0 0) bv wx ∧ DatB wx bv s.data ∧ (∀ g, bv.ownBlock = some g → W.heap.size ≤ g) ∧ Keep [] W wx ∧ Res b2 wx) (fun jv _ => x.size - (intOf jv).toNat)
            case atStart => exact ⟨0, _, _, rfl, Nat.zero_le _, rfl, rfl, HST5.out, .inl ⟨rfl, rfl⟩, fun g hg => by simp [Value.ownBlock] at hg, HK5.out, HRS5.out⟩
            case round =>
              rename World => wx
              obtain ⟨j, s, bv, rfl, hj, hfi, hdr, hst, hdt, how, hkx, hrx⟩ := hrel
              obtain ⟨ad2, cap2, hbv⟩ := hdt.sl.empty
              subst hbv
              have HFI := Lib.hid hfi
              have HDR := Lib.hid hdr
              obtain ⟨nb, hnb⟩ : ∃ nb, nb = s.data.size := ⟨_, rfl⟩
              rw [← hnb] at hst hdt how
              have HST := Lib.hid hst
              have HDT := Lib.hid hdt
              have HOW := Lib.hid how
              have HKX := Lib.hid hkx
              have HRX := Lib.hid hrx
              have HRD2 := Lib.hid (fun (w' : World) (k : Keep [] wx w') => show StRd w' s (.slice none 0 0) (.slice ad2 nb cap2) from ⟨by rw [hdr]; exact ⟨none, 0, rfl, ⟨fun _ => rfl, fun _ => rfl⟩, fun h => absurd rfl h⟩, by have h := (hdt.keep k (by simp)).sl; exact h⟩)
              clear hfi hdr hst hdt how hkx hrx hnb
              by_cases hlt2 : j < x.size
              · have HJM := Lib.hid hlt2
                have g1 := dec_lt_t (show (j : Int) < (x.size : Int) by omega)
                have g2 := dec_ltn_t hlt2
                have hjf : j < (tabF fk).length := by rw [← HX.out.2]; exact hlt2
                have hjm : j < m := by rw [HLEN.out]; exact hlt2
                have hjL : j < L.length := by rw [← HM.out.1]; exact hjm
                have hix0 := fun W => byte_at (s := x) (i := j) hlt2 W
                have hbj : byt x j = fldL (tabF fk)[j] := by rw [HX.out.1]; exact shB_byt hjf
                have hdf := List.drop_eq_getElem_cons hjf
                have hdl := List.drop_eq_getElem_cons hjL
                have hw := (HW.out.keep HKX.out (by simp)) (j + 1) (by simp; omega)
                simp only [List.getElem_cons_succ] at hw
                obtain rfl := HLO.out (by omega)
                rw [show lo + (j + 1) * 5 = lo + 5 + j * 5 by omega] at hw
                rw [hbj] at hix0
                generalize (tabF fk)[j] = f at hix0 hdf
                generalize L[j] = wj at hdl hw
                obtain ⟨vk, vt, vn, va, vl⟩ := wj
                obtain ⟨c0, c1, c2, c3, c4⟩ := hw
                simp only at c0 c1 c2 c3 c4
                have HIX := Lib.hid hix0
                have HFS := Lib.hid (show fillL ((tabF fk).drop j) (L.drop j) s = (if (setF f vk vt vn s).2 = true then fillL ((tabF fk).drop (j + 1)) (L.drop (j + 1)) (setF f vk vt vn s).1 else none) by
                  rw [hdf, hdl]; rfl)
                clear hdf hdl hix0 hbj hjf hjL
                go_upto_region 24 with (fail)
                refine wp_plan (fun w' => Keep [] wx w') (.take 0 (.take 1 (.take 2 (.take 3 (.take 4 (.take 5 (.take 6 (.take 7 (.fork 8 12 (.take 9 (.take 10 (.take 11 (.force 12 (.force 13 (.force 14 .done)))))) (.force 8 (.take 9 (.take 10 (.take 11 (.force 13 (.force 14 .done)))))))))))))))
                  (by kernel_rfl) (by kernel_rfl) ((Keep.refl _ _).drew) ?_
                intro Q0 hQ0
                refine plan_takeL rfl rfl (.agg #[.int .i64 s.kind, .int .i64 s.site, .int .i64 s.peer, .int .i64 s.unit, .int .i64 s.at_, .int .i64 s.n, .string s.text, .slice none 0 0, .slice ad2 nb cap2]) ?_ ?_
                · intro w' yk K Q hK
                  have y0 := cell_of_block (yk.at_ HST.out (by simp)) 0
                  have y1 := cell_of_block (yk.at_ HST.out (by simp)) 1
                  have y2 := cell_of_block (yk.at_ HST.out (by simp)) 2
                  have y3 := cell_of_block (yk.at_ HST.out (by simp)) 3
                  have y4 := cell_of_block (yk.at_ HST.out (by simp)) 4
                  have y5 := cell_of_block (yk.at_ HST.out (by simp)) 5
                  have y6 := cell_of_block (yk.at_ HST.out (by simp)) 6
                  have y7 := cell_of_block (yk.at_ HST.out (by simp)) 7
                  have y8 := cell_of_block (yk.at_ HST.out (by simp)) 8
                  simp [stV] at y0 y1 y2 y3 y4 y5 y6 y7 y8
                  go_simp
                  exact hK
                try simp only [Act.put, List.setIfInBounds_toArray, List.set_cons_succ, List.set_cons_zero]
                refine plan_takeL rfl rfl (.string x) ?_ ?_
                · intro w' yk K Q hK
                  go_simp
                  exact hK
                try simp only [Act.put, List.setIfInBounds_toArray, List.set_cons_succ, List.set_cons_zero]
                refine plan_takeL rfl rfl (.int .i64 (j : Nat)) ?_ ?_
                · intro w' yk K Q hK
                  go_simp
                  exact hK
                try simp only [Act.put, List.setIfInBounds_toArray, List.set_cons_succ, List.set_cons_zero]
                refine plan_takeL rfl rfl (.int .u8 (fldL f : Nat)) ?_ ?_
                · intro w' yk K Q hK
                  have hix := HIX.out w'
                  go_simp
                  exact hK
                try simp only [Act.put, List.setIfInBounds_toArray, List.set_cons_succ, List.set_cons_zero]
                refine plan_takeL rfl rfl (.slice (some ⟨lb, lo + 5, none⟩) m (cap - 1)) ?_ ?_
                · intro w' yk K Q hK
                  go_simp
                  exact hK
                try simp only [Act.put, List.setIfInBounds_toArray, List.set_cons_succ, List.set_cons_zero]
                refine plan_takeL rfl rfl (.int .i64 (j : Nat)) ?_ ?_
                · intro w' yk K Q hK
                  go_simp
                  exact hK
                try simp only [Act.put, List.setIfInBounds_toArray, List.set_cons_succ, List.set_cons_zero]
                refine plan_takeL rfl rfl (.pointer (some ⟨lb, lo + 5 + j * 5, none⟩)) ?_ ?_
                · intro w' yk K Q hK
                  go_simp
                  exact hK
                try simp only [Act.put, List.setIfInBounds_toArray, List.set_cons_succ, List.set_cons_zero]
                refine plan_takeL rfl rfl (.agg #[.int .i64 (vk : Nat), .string vt, .int .i64 vn, .int .i64 (va : Nat), .int .i64 (vl : Nat)]) ?_ ?_
                · intro w' yk K Q hK
                  have z0 := yk.cellv c0 (by simp)
                  have z1 := yk.cellv c1 (by simp)
                  have z2 := yk.cellv c2 (by simp)
                  have z3 := yk.cellv c3 (by simp)
                  have z4 := yk.cellv c4 (by simp)
                  go_simp
                  exact hK
                try simp only [Act.put, List.setIfInBounds_toArray, List.set_cons_succ, List.set_cons_zero]
                refine plan_fork ?_ ?_
                · have HKW := Lib.hid (show Keep [] wx wx.drew from (Keep.refl _ _).drew)
                  refine plan_forceL rfl rfl fun K hK => ?_
                  go_simp
                  refine (rfield_any f s (.slice none 0 0) (.slice ad2 nb cap2) vk vt vn va vl wx.drew (HRD2.out _ HKW.out) (HDT.out.keep HKW.out (by simp))).mono ?_
                  rintro e w6 ⟨hk6, hres⟩
                  have HK6 := Lib.hid (show Keep [] wx w6 from HKW.out.trans0 hk6)
                  have hsz6 := HKW.out.size
                  have hres2 : ∃ (s9 : Stp) (bv9 : Value) (ok9 : Bool), e = .returned (.tuple #[.agg (stV s9 (.slice none 0 0) bv9), .bool ok9]) ∧ ok9 = (setF f vk vt vn s).2 ∧ DatB w6 bv9 s9.data ∧ (∀ g, bv9.ownBlock = some g → W.heap.size ≤ g) ∧ (ok9 = true → s9 = (setF f vk vt vn s).1) := by
                    rcases hres with ⟨h1, c9, h2, h3⟩ | ⟨h1, bv9, h2, h3, h4⟩
                    · exact ⟨s, .slice ad2 nb cap2, false, by rw [h2, h3], h1.symm, HDT.out.keep HK6.out (by simp), HOW.out, fun h => by cases h⟩
                    · refine ⟨_, bv9, true, h2, h1.symm, h3, fun g hg => ?_, fun _ => rfl⟩
                      rcases h4 g hg with h | h
                      · exact HOW.out g h
                      · have := HKX.out.size
                        omega
                  obtain ⟨s9, bv9, ok9, rfl, hok9, hd9, ho9, hs9⟩ := hres2
                  obtain ⟨ad9, cap9, hbv9⟩ := hd9.sl.empty
                  subst hbv9
                  have HD9 := Lib.hid hd9
                  have HO9 := Lib.hid ho9
                  have HS9 := Lib.hid (And.intro hok9 hs9)
                  clear hk6 hres hok9 hd9 ho9 hs9 hsz6
                  obtain ⟨n9, hn9⟩ : ∃ n9, n9 = s9.data.size := ⟨_, rfl⟩
                  rw [← hn9] at HD9 HO9 ⊢
                  have HN9 := Lib.hid hn9
                  clear hn9
                  refine hK _ _ HK6.out ?_
                  try simp only [Act.put, List.setIfInBounds_toArray, List.set_cons_succ, List.set_cons_zero]
                  clear hK K
                  unfold stV
                  refine plan_takeL rfl rfl (.tuple #[.agg #[.int .i64 s9.kind, .int .i64 s9.site, .int .i64 s9.peer, .int .i64 s9.unit, .int .i64 s9.at_, .int .i64 s9.n, .string s9.text, .slice none 0 0, .slice ad9 n9 cap9], .bool ok9]) ?_ ?_
                  · intro w' yk K Q hK
                    go_simp
                    exact hK
                  try simp only [Act.put, List.setIfInBounds_toArray, List.set_cons_succ, List.set_cons_zero]
                  refine plan_takeL rfl rfl (.agg #[.int .i64 s9.kind, .int .i64 s9.site, .int .i64 s9.peer, .int .i64 s9.unit, .int .i64 s9.at_, .int .i64 s9.n, .string s9.text, .slice none 0 0, .slice ad9 n9 cap9]) ?_ ?_
                  · intro w' yk K Q hK
                    go_simp
                    exact hK
                  try simp only [Act.put, List.setIfInBounds_toArray, List.set_cons_succ, List.set_cons_zero]
                  refine plan_takeL rfl rfl (.bool ok9) ?_ ?_
                  · intro w' yk K Q hK
                    go_simp
                    exact hK
                  try simp only [Act.put, List.setIfInBounds_toArray, List.set_cons_succ, List.set_cons_zero]
                  refine plan_forceL rfl rfl fun K hK => ?_
                  go_simp
                  obtain ⟨w7, hw7⟩ : ∃ w7, w7 = w6.alloc (.cells #[.int .i64 0, .int .i64 0, .int .i64 0, .int .i64 0, .int .i64 0, .int .i64 0, .string ⟨#[]⟩, .slice none 0 0, .slice none 0 0] 40) := ⟨_, rfl⟩
                  have hk7 : Keep [] w6 w7 := by rw [hw7]; exact (Keep.refl _ _).alloc _
                  have hb7 : w7.heap[w6.heap.size]? = some (.cells #[.int .i64 0, .int .i64 0, .int .i64 0, .int .i64 0, .int .i64 0, .int .i64 0, .string ⟨#[]⟩, .slice none 0 0, .slice none 0 0] 40 (0, 0)) := by rw [hw7]; exact World.alloc_heap_new w6 _
                  rw [← hw7]
                  obtain ⟨b9, hb9⟩ : ∃ b9, b9 = w6.heap.size := ⟨_, rfl⟩
                  rw [← hb9] at hb7 ⊢
                  have hb9g : wx.heap.size ≤ b9 := by rw [hb9]; exact HK6.out.size
                  have HK7 := Lib.hid (HK6.out.trans0 hk7)
                  have HD7 := Lib.hid (HD9.out.keep hk7 (by simp))
                  refine hK _ _ HK7.out ?_
                  try simp only [Act.put, List.setIfInBounds_toArray, List.set_cons_succ, List.set_cons_zero]
                  clear hK K hw7 hk7 hb9
                  have hn7 : b9 ∉ (Value.slice ad9 n9 cap9).ownBlock.toList := by
                    intro hm
                    obtain ⟨c, f', hc⟩ := HD7.out.ty b9 hm
                    have e := Option.some.inj (hb7.symm.trans hc)
                    injection e with _ e _
                    exact absurd e (by decide)
                  obtain ⟨w8, hst8, hb8, hl8, hk8⟩ := put_step b9 _ #[.int .i64 s9.kind, .int .i64 s9.site, .int .i64 s9.peer, .int .i64 s9.unit, .int .i64 s9.at_, .int .i64 s9.n, .string s9.text, .slice none 0 0, .slice ad9 n9 cap9] w7 hb7 rfl rfl (by simp [Value.oneCell'])
                  have HK8 := Lib.hid (show Keep [] wx w8 from HK7.out.trans hk8 (fun y hy => by simp at hy; subst hy; exact .inr hb9g))
                  have HD8 := Lib.hid (HD7.out.keep hk8 (fun g hg hm => by simp at hm; subst hm; exact hn7 (by simp [hg])))
                  have HB8 := Lib.hid hb8
                  refine plan_forceL rfl rfl fun K hK => ?_
                  refine store_op (x := .tmp 9) (y := .tmp 89) rfl rfl rfl hst8 (hK _ _ HK8.out ?_)
                  try simp only [Act.put, List.setIfInBounds_toArray, List.set_cons_succ, List.set_cons_zero]
                  clear hK K hl8 hk8 hst8 hb8 hb7
                  refine plan_forceL rfl rfl fun K hK => ?_
                  go_simp
                  refine hK _ _ HK8.out ?_
                  try simp only [Act.put, List.setIfInBounds_toArray, List.set_cons_succ, List.set_cons_zero]
                  clear hK K
                  refine hQ0 _ _ ?_
                  clear hQ0 Q0 hn7
                  have hst8 : StB b4 s (.slice none 0 0) (.slice ad2 nb cap2) w8 := HK8.out.at_ HST.out (by simp)
                  have hrs8 : Res b2 w8 := HRX.out.keep HK8.out (by simp)
                  have HK8W := Lib.hid (HKX.out.trans0 HK8.out)
                  have hb4g : W.heap.size ≤ b4 ∧ b2 ≠ b4 ∧ W.heap.size ≤ b2 := by have := HBB.out; omega
                  cases ok9
                  · have HRN := Lib.hid (show rd (w0 :: L) = none by
                      rw [HRD.out, HFI.out, HFS.out, if_neg (by rw [← HS9.out.1]; simp)])
                    have hld : (Instr.loadAt 40 (.pointer (some ⟨b4, 0, none⟩))).run Tryz.prog w8 = .ok (.agg (stV s (.slice none 0 0) (.slice ad2 nb cap2))) w8 := load_row (P := Tryz.prog) Tryz.underlying40 rfl step_info hst8 rfl
                    obtain ⟨W9, hs9, hb9, hl9, hk9⟩ := put_step b2 _ (stV s (.slice none 0 0) (.slice ad2 nb cap2)) w8 hrs8 rfl rfl (by simp [stV, Value.oneCell'])
                    have HL9 := Lib.hid hl9
                    have HKN := Lib.hid (HK8W.out.trans hk9 (fun y hy => by simp at hy; subst hy; exact .inr hb4g.2.2))
                    clear hl9 hk9 hb9 hst8 hrs8
                    go_upto_region 26 with (fail)
                    go_wp2_with (with_reducible refine park_load 4 _ rfl ?_)
                    refine wpList_load_eq rfl _ (.tmp 4) rfl hld ?_
                    go_wp2_with (with_reducible refine park_store 2 93 _ rfl ?_)
                    refine wpList_store_eq rfl _ (.tmp 2) (.tmp 93) rfl hs9 ?_
                    clear hs9
                    go_wp2
                    exact bodyPost_ret (results_step rfl _ _ b2 _ _ rfl rfl HL9.out) rfl ⟨HKN.out, .inl ⟨HRN.out, _, _, _, _, _, _, _, rfl⟩⟩
                  · have hs9e := HS9.out.2 rfl
                    have hld : (Instr.loadAt 40 (.pointer (some ⟨b9, 0, none⟩))).run Tryz.prog w8 = .ok (.agg #[.int .i64 s9.kind, .int .i64 s9.site, .int .i64 s9.peer, .int .i64 s9.unit, .int .i64 s9.at_, .int .i64 s9.n, .string s9.text, .slice none 0 0, .slice ad9 n9 cap9]) w8 := load_row (P := Tryz.prog) Tryz.underlying40 rfl step_info HB8.out rfl
                    obtain ⟨W9, hs9, hb9', hl9, hk9⟩ := put_step b4 _ #[.int .i64 s9.kind, .int .i64 s9.site, .int .i64 s9.peer, .int .i64 s9.unit, .int .i64 s9.at_, .int .i64 s9.n, .string s9.text, .slice none 0 0, .slice ad9 n9 cap9] w8 hst8 rfl rfl (by simp [Value.oneCell'])
                    have hnb4 : b4 ∉ (Value.slice ad9 n9 cap9).ownBlock.toList := by
                      intro hm
                      obtain ⟨c, f', hc⟩ := HD8.out.ty b4 hm
                      have e := Option.some.inj (hst8.symm.trans hc)
                      injection e with _ e _
                      exact absurd e (by decide)
                    have HKN := Lib.hid (HK8W.out.trans hk9 (fun y hy => by simp at hy; subst hy; exact .inr hb4g.1))
                    have HSTN := Lib.hid (show StB b4 s9 (.slice none 0 0) (.slice ad9 n9 cap9) W9 from hb9')
                    have HRSN := Lib.hid (hrs8.keep hk9 (by simpa using hb4g.2.1))
                    have HDN := Lib.hid (HD8.out.keep hk9 (fun g hg hm => by simp at hm; subst hm; exact hnb4 (by simp [hg])))
                    have HFN := Lib.hid (show fillL (tabF fk) L (Stp.zero (fk : Nat)) = fillL ((tabF fk).drop (j + 1)) (L.drop (j + 1)) s9 by
                      rw [HFI.out, HFS.out, if_pos HS9.out.1.symm, hs9e])
                    have HDRN := Lib.hid (show s9.draws = [] by rw [hs9e]; cases f <;> exact HDR.out)
                    clear hl9 hk9 hb9' hst8 hrs8 hnb4 hs9e
                    go_wp2_with (with_reducible refine park_load 9 _ rfl ?_)
                    refine wpList_load_eq rfl _ (.tmp 9) rfl hld ?_
                    go_wp2_with (with_reducible refine park_store 4 94 _ rfl ?_)
                    refine wpList_store_eq rfl _ (.tmp 4) (.tmp 94) rfl hs9 ?_
                    clear hs9 hld
                    go_wp2
                    go_roundw
                    case rel => exact ⟨j + 1, s9, _, by go_num, by have := HJM.out; omega, HFN.out, HDRN.out, HSTN.out, HDN.out, HO9.out, HKN.out, HRSN.out⟩
                    case measure => have := HJM.out; simp [intOf]; omega
                · refine plan_forceL rfl rfl fun K hK => ?_
                  go_simp
                  obtain ⟨wq, hwq⟩ : ∃ wq, wq = (wx.alloc (.cells #[.int .i64 0, .int .i64 0, .int .i64 0, .int .i64 0, .int .i64 0, .int .i64 0, .string ⟨#[]⟩, .slice none 0 0, .slice none 0 0] 40)).drew := ⟨_, rfl⟩
                  have HKW := Lib.hid (show Keep [] wx wq by rw [hwq]; exact ((Keep.refl _ _).alloc _).drew)
                  have HB9 := Lib.hid (show wq.heap[wx.heap.size]? = some (.cells #[.int .i64 0, .int .i64 0, .int .i64 0, .int .i64 0, .int .i64 0, .int .i64 0, .string ⟨#[]⟩, .slice none 0 0, .slice none 0 0] 40 (0, 0)) by rw [hwq]; exact World.alloc_heap_new wx _)
                  rw [← hwq]
                  obtain ⟨b9, hb9⟩ : ∃ b9, b9 = wx.heap.size := ⟨_, rfl⟩
                  rw [← hb9] at HB9 ⊢
                  have hb9g : wx.heap.size ≤ b9 := by omega
                  refine hK _ _ HKW.out ?_
                  try simp only [Act.put, List.setIfInBounds_toArray, List.set_cons_succ, List.set_cons_zero]
                  clear hK K hwq hb9
                  refine plan_forceL rfl rfl fun K hK => ?_
                  go_simp
                  refine (rfield_any f s (.slice none 0 0) (.slice ad2 nb cap2) vk vt vn va vl wq (HRD2.out _ HKW.out) (HDT.out.keep HKW.out (by simp))).mono ?_
                  rintro e w6 ⟨hk6, hres⟩
                  have HK6 := Lib.hid (show Keep [] wx w6 from HKW.out.trans0 hk6)
                  have HK67 := Lib.hid hk6
                  have hsz6 := HKW.out.size
                  have hres2 : ∃ (s9 : Stp) (bv9 : Value) (ok9 : Bool), e = .returned (.tuple #[.agg (stV s9 (.slice none 0 0) bv9), .bool ok9]) ∧ ok9 = (setF f vk vt vn s).2 ∧ DatB w6 bv9 s9.data ∧ (∀ g, bv9.ownBlock = some g → W.heap.size ≤ g) ∧ (ok9 = true → s9 = (setF f vk vt vn s).1) := by
                    rcases hres with ⟨h1, c9, h2, h3⟩ | ⟨h1, bv9, h2, h3, h4⟩
                    · exact ⟨s, .slice ad2 nb cap2, false, by rw [h2, h3], h1.symm, HDT.out.keep HK6.out (by simp), HOW.out, fun h => by cases h⟩
                    · refine ⟨_, bv9, true, h2, h1.symm, h3, fun g hg => ?_, fun _ => rfl⟩
                      rcases h4 g hg with h | h
                      · exact HOW.out g h
                      · have := HKX.out.size
                        omega
                  obtain ⟨s9, bv9, ok9, rfl, hok9, hd9, ho9, hs9⟩ := hres2
                  obtain ⟨ad9, cap9, hbv9⟩ := hd9.sl.empty
                  subst hbv9
                  have HD9 := Lib.hid hd9
                  have HO9 := Lib.hid ho9
                  have HS9 := Lib.hid (And.intro hok9 hs9)
                  clear hk6 hres hok9 hd9 ho9 hs9 hsz6
                  obtain ⟨n9, hn9⟩ : ∃ n9, n9 = s9.data.size := ⟨_, rfl⟩
                  rw [← hn9] at HD9 HO9 ⊢
                  have HN9 := Lib.hid hn9
                  clear hn9
                  refine hK _ _ HK6.out ?_
                  try simp only [Act.put, List.setIfInBounds_toArray, List.set_cons_succ, List.set_cons_zero]
                  clear hK K
                  unfold stV
                  refine plan_takeL rfl rfl (.tuple #[.agg #[.int .i64 s9.kind, .int .i64 s9.site, .int .i64 s9.peer, .int .i64 s9.unit, .int .i64 s9.at_, .int .i64 s9.n, .string s9.text, .slice none 0 0, .slice ad9 n9 cap9], .bool ok9]) ?_ ?_
                  · intro w' yk K Q hK
                    go_simp
                    exact hK
                  try simp only [Act.put, List.setIfInBounds_toArray, List.set_cons_succ, List.set_cons_zero]
                  refine plan_takeL rfl rfl (.agg #[.int .i64 s9.kind, .int .i64 s9.site, .int .i64 s9.peer, .int .i64 s9.unit, .int .i64 s9.at_, .int .i64 s9.n, .string s9.text, .slice none 0 0, .slice ad9 n9 cap9]) ?_ ?_
                  · intro w' yk K Q hK
                    go_simp
                    exact hK
                  try simp only [Act.put, List.setIfInBounds_toArray, List.set_cons_succ, List.set_cons_zero]
                  refine plan_takeL rfl rfl (.bool ok9) ?_ ?_
                  · intro w' yk K Q hK
                    go_simp
                    exact hK
                  try simp only [Act.put, List.setIfInBounds_toArray, List.set_cons_succ, List.set_cons_zero]
                  obtain ⟨w7, hw7⟩ : ∃ w7, w7 = w6 := ⟨_, rfl⟩
                  have hb7 : w7.heap[b9]? = some (.cells #[.int .i64 0, .int .i64 0, .int .i64 0, .int .i64 0, .int .i64 0, .int .i64 0, .string ⟨#[]⟩, .slice none 0 0, .slice none 0 0] 40 (0, 0)) := by rw [hw7]; exact HK67.out.at_ HB9.out (by simp)
                  have HK7 := Lib.hid (show Keep [] wx w7 by rw [hw7]; exact HK6.out)
                  have HD7 := Lib.hid (show DatB w7 (.slice ad9 n9 cap9) s9.data by rw [hw7]; exact HD9.out)
                  rw [← hw7]
                  clear hw7
                  have hn7 : b9 ∉ (Value.slice ad9 n9 cap9).ownBlock.toList := by
                    intro hm
                    obtain ⟨c, f', hc⟩ := HD7.out.ty b9 hm
                    have e := Option.some.inj (hb7.symm.trans hc)
                    injection e with _ e _
                    exact absurd e (by decide)
                  obtain ⟨w8, hst8, hb8, hl8, hk8⟩ := put_step b9 _ #[.int .i64 s9.kind, .int .i64 s9.site, .int .i64 s9.peer, .int .i64 s9.unit, .int .i64 s9.at_, .int .i64 s9.n, .string s9.text, .slice none 0 0, .slice ad9 n9 cap9] w7 hb7 rfl rfl (by simp [Value.oneCell'])
                  have HK8 := Lib.hid (show Keep [] wx w8 from HK7.out.trans hk8 (fun y hy => by simp at hy; subst hy; exact .inr hb9g))
                  have HD8 := Lib.hid (HD7.out.keep hk8 (fun g hg hm => by simp at hm; subst hm; exact hn7 (by simp [hg])))
                  have HB8 := Lib.hid hb8
                  refine plan_forceL rfl rfl fun K hK => ?_
                  refine store_op (x := .tmp 9) (y := .tmp 89) rfl rfl rfl hst8 (hK _ _ HK8.out ?_)
                  try simp only [Act.put, List.setIfInBounds_toArray, List.set_cons_succ, List.set_cons_zero]
                  clear hK K hl8 hk8 hst8 hb8 hb7
                  refine plan_forceL rfl rfl fun K hK => ?_
                  go_simp
                  refine hK _ _ HK8.out ?_
                  try simp only [Act.put, List.setIfInBounds_toArray, List.set_cons_succ, List.set_cons_zero]
                  clear hK K
                  refine hQ0 _ _ ?_
                  clear hQ0 Q0 hn7
                  have hst8 : StB b4 s (.slice none 0 0) (.slice ad2 nb cap2) w8 := HK8.out.at_ HST.out (by simp)
                  have hrs8 : Res b2 w8 := HRX.out.keep HK8.out (by simp)
                  have HK8W := Lib.hid (HKX.out.trans0 HK8.out)
                  have hb4g : W.heap.size ≤ b4 ∧ b2 ≠ b4 ∧ W.heap.size ≤ b2 := by have := HBB.out; omega
                  cases ok9
                  · have HRN := Lib.hid (show rd (w0 :: L) = none by
                      rw [HRD.out, HFI.out, HFS.out, if_neg (by rw [← HS9.out.1]; simp)])
                    have hld : (Instr.loadAt 40 (.pointer (some ⟨b4, 0, none⟩))).run Tryz.prog w8 = .ok (.agg (stV s (.slice none 0 0) (.slice ad2 nb cap2))) w8 := load_row (P := Tryz.prog) Tryz.underlying40 rfl step_info hst8 rfl
                    obtain ⟨W9, hs9, hb9, hl9, hk9⟩ := put_step b2 _ (stV s (.slice none 0 0) (.slice ad2 nb cap2)) w8 hrs8 rfl rfl (by simp [stV, Value.oneCell'])
                    have HL9 := Lib.hid hl9
                    have HKN := Lib.hid (HK8W.out.trans hk9 (fun y hy => by simp at hy; subst hy; exact .inr hb4g.2.2))
                    clear hl9 hk9 hb9 hst8 hrs8
                    go_upto_region 26 with (fail)
                    go_wp2_with (with_reducible refine park_load 4 _ rfl ?_)
                    refine wpList_load_eq rfl _ (.tmp 4) rfl hld ?_
                    go_wp2_with (with_reducible refine park_store 2 93 _ rfl ?_)
                    refine wpList_store_eq rfl _ (.tmp 2) (.tmp 93) rfl hs9 ?_
                    clear hs9
                    go_wp2
                    exact bodyPost_ret (results_step rfl _ _ b2 _ _ rfl rfl HL9.out) rfl ⟨HKN.out, .inl ⟨HRN.out, _, _, _, _, _, _, _, rfl⟩⟩
                  · have hs9e := HS9.out.2 rfl
                    have hld : (Instr.loadAt 40 (.pointer (some ⟨b9, 0, none⟩))).run Tryz.prog w8 = .ok (.agg #[.int .i64 s9.kind, .int .i64 s9.site, .int .i64 s9.peer, .int .i64 s9.unit, .int .i64 s9.at_, .int .i64 s9.n, .string s9.text, .slice none 0 0, .slice ad9 n9 cap9]) w8 := load_row (P := Tryz.prog) Tryz.underlying40 rfl step_info HB8.out rfl
                    obtain ⟨W9, hs9, hb9', hl9, hk9⟩ := put_step b4 _ #[.int .i64 s9.kind, .int .i64 s9.site, .int .i64 s9.peer, .int .i64 s9.unit, .int .i64 s9.at_, .int .i64 s9.n, .string s9.text, .slice none 0 0, .slice ad9 n9 cap9] w8 hst8 rfl rfl (by simp [Value.oneCell'])
                    have hnb4 : b4 ∉ (Value.slice ad9 n9 cap9).ownBlock.toList := by
                      intro hm
                      obtain ⟨c, f', hc⟩ := HD8.out.ty b4 hm
                      have e := Option.some.inj (hst8.symm.trans hc)
                      injection e with _ e _
                      exact absurd e (by decide)
                    have HKN := Lib.hid (HK8W.out.trans hk9 (fun y hy => by simp at hy; subst hy; exact .inr hb4g.1))
                    have HSTN := Lib.hid (show StB b4 s9 (.slice none 0 0) (.slice ad9 n9 cap9) W9 from hb9')
                    have HRSN := Lib.hid (hrs8.keep hk9 (by simpa using hb4g.2.1))
                    have HDN := Lib.hid (HD8.out.keep hk9 (fun g hg hm => by simp at hm; subst hm; exact hnb4 (by simp [hg])))
                    have HFN := Lib.hid (show fillL (tabF fk) L (Stp.zero (fk : Nat)) = fillL ((tabF fk).drop (j + 1)) (L.drop (j + 1)) s9 by
                      rw [HFI.out, HFS.out, if_pos HS9.out.1.symm, hs9e])
                    have HDRN := Lib.hid (show s9.draws = [] by rw [hs9e]; cases f <;> exact HDR.out)
                    clear hl9 hk9 hb9' hst8 hrs8 hnb4 hs9e
                    go_wp2_with (with_reducible refine park_load 9 _ rfl ?_)
                    refine wpList_load_eq rfl _ (.tmp 9) rfl hld ?_
                    go_wp2_with (with_reducible refine park_store 4 94 _ rfl ?_)
                    refine wpList_store_eq rfl _ (.tmp 4) (.tmp 94) rfl hs9 ?_
                    clear hs9 hld
                    go_wp2
                    go_roundw
                    case rel => exact ⟨j + 1, s9, _, by go_num, by have := HJM.out; omega, HFN.out, HDRN.out, HSTN.out, HDN.out, HO9.out, HKN.out, HRSN.out⟩
                    case measure => have := HJM.out; simp [intOf]; omega
              · obtain rfl : j = x.size := by omega
                have g1 := dec_lt_f (show ¬ (x.size : Int) < (x.size : Int) by omega)
                have g2 := dec_ltn_f hlt2
                have HRN := Lib.hid (show rd (w0 :: L) = some s by
                  rw [HRD.out, HFI.out, List.drop_of_length_le (by rw [← HX.out.2]; exact Nat.le_refl _)]
                  rfl)
                have hld : (Instr.loadAt 40 (.pointer (some ⟨b4, 0, none⟩))).run Tryz.prog wx = .ok (.agg (stV s (.slice none 0 0) (.slice ad2 nb cap2))) wx := load_row (P := Tryz.prog) Tryz.underlying40 rfl step_info HST.out rfl
                obtain ⟨W9, hs9, hb9, hl9, hk9⟩ := put_step b2 _ (stV s (.slice none 0 0) (.slice ad2 nb cap2)) wx HRX.out rfl rfl (by simp [stV, Value.oneCell'])
                have HL9 := Lib.hid hl9
                have hnb2 : b2 ∉ (Value.slice ad2 nb cap2).ownBlock.toList := by
                  intro hm
                  obtain ⟨c, f', hc⟩ := HDT.out.ty b2 hm
                  have e := Option.some.inj (HRX.out.symm.trans hc)
                  injection e with _ e _
                  exact absurd e (by decide)
                have HD9 := Lib.hid (HDT.out.keep hk9 (fun g hg hm => by simp at hm; subst hm; exact hnb2 (by simp [hg])))
                have HK9 := Lib.hid (HKX.out.trans hk9 (fun y hy => by simp at hy; subst hy; exact .inr (by have := HBB.out; omega)))
                clear hl9 hk9 hb9 hnb2 hlt2
                go_wp2_with (with_reducible refine park_load 4 _ rfl ?_)
                refine wpList_load_eq rfl _ (.tmp 4) rfl hld ?_
                go_wp2_with (with_reducible refine park_store 2 95 _ rfl ?_)
                refine wpList_store_eq rfl _ (.tmp 2) (.tmp 95) rfl hs9 ?_
                clear hs9
                go_wp2
                refine bodyPost_ret (results_step rfl _ _ b2 _ _ rfl rfl HL9.out) rfl ⟨HK9.out, .inr ⟨s, .slice none 0 0, .slice ad2 nb cap2, HRN.out, rfl, HD9.out, HOW.out, ?_⟩⟩
                rw [HDR.out]
                exact World.ownsRow_nil _ _ _ _
          · have g6 : ((m : Int) != (x.size : Int)) = true := by simp; omega
            have g7 : (m != x.size) = true := by simpa using hlen
            have HRN := Lib.hid (show rd (w0 :: L) = none from rd_len HKF.out.1 HKF.out.2 (fun h => hlen (by rw [HM.out.1, HX.out.2]; exact h)))
            have hld : (Instr.loadAt 40 (.pointer (some ⟨b4, 0, none⟩))).run Tryz.prog w5 = .ok (.agg (stV (Stp.zero (fk : Nat)) (.slice none 0 0) (.slice none 0 0))) w5 := load_row (P := Tryz.prog) Tryz.underlying40 rfl step_info HST5.out rfl
            obtain ⟨W9, hs9, hb9, hl9, hk9⟩ := put_step b2 _ (stV (Stp.zero (fk : Nat)) (.slice none 0 0) (.slice none 0 0)) w5 HRS5.out rfl rfl (by simp [stV, Value.oneCell'])
            have HL9 := Lib.hid hl9
            have HK9 := Lib.hid (HK5.out.trans hk9 (fun y hy => by simp at hy; subst hy; exact .inr (by have := HBB.out; omega)))
            clear hl9 hk9 hb9 hlen
            go_upto_region 20 with (fail)
            go_wp2_with (with_reducible refine park_load 4 _ rfl ?_)
            refine wpList_load_eq rfl _ (.tmp 4) rfl hld ?_
            go_wp2_with (with_reducible refine park_store 2 72 _ rfl ?_)
            refine wpList_store_eq rfl _ (.tmp 2) (.tmp 72) rfl hs9 ?_
            clear hs9
            go_wp2
            exact bodyPost_ret (results_step rfl _ _ b2 _ _ rfl rfl HL9.out) rfl ⟨HK9.out, .inl ⟨HRN.out, _, _, _, _, _, _, _, rfl⟩⟩
end Go.Proofs.YtbidppjhenfjdaaGreatDoor
namespace Go.Proofs.YtbidppjhenfjdaaGreatDoor
open Go.RowKit
set_option linter.unusedVariables false
set_option linter.unusedSimpArgs false

theorem fd_at : ∀ (L : List Fn) (k j : Nat) (hk : k < L.length), j < 6 → (fnCs L)[k * 6 + j]? = L[k].vals[j]? := by
  intro L
  induction L with
  | nil => intro k j hk; cases hk
  | cons f L ih =>
    intro k j hk hj
    have hl : f.vals.toList.length = 6 := rfl
    unfold fnCs
    cases k with
    | zero =>
      rw [List.getElem?_append_left (by omega)]
      simp
    | succ k =>
      rw [List.getElem?_append_right (by omega), show (k + 1) * 6 + j - f.vals.toList.length = k * 6 + j by omega, ih k j (by simpa using hk) hj]
      rfl
def RAt (Z : List Fn) (w0 : World) (k : Nat) (V : World) (l : List Fn) (out : List Stp) (cs : List Value) (bs : List Nat) (lv ov fv : Value) : Prop :=
  prs Z [] [] = prs (Z.drop k) l out ∧ WFs (decide (l ≠ [])) (Z.drop k) ∧ l.length ≤ k ∧ out.length ≤ k ∧
    V.ownsRow w0.heap.size 67 5 lv l.length (fCs l) ∧ V.ownsRow w0.heap.size 40 9 ov out.length cs ∧ (ov = .slice none 0 0 ↔ out.length = 0) ∧
    StRows V out cs bs ∧ (∀ b ∈ bs, w0.heap.size ≤ b) ∧ bs.Nodup ∧ Keep [] w0 V ∧ V.ownsRow w0.heap.size 73 6 fv Z.length (fnCs Z)
theorem RAt.keep0 {Z : List Fn} {w0 V W : World} {k : Nat} {l : List Fn} {out : List Stp} {cs : List Value} {bs : List Nat} {lv ov fv : Value} (h : RAt Z w0 k V l out cs bs lv ov fv) (hk : Keep [] V W) : RAt Z w0 k W l out cs bs lv ov fv := by
  obtain ⟨h1, h2, h3, h4, h5, h6, h7, h8, h9, h10, h11, h12⟩ := h
  exact ⟨h1, h2, h3, h4, hk.owns h5 (by simp), hk.owns h6 (by simp), h7, StRows.keep hk h8 (by simp), h9, h10, h11.trans0 hk, hk.owns h12 (by simp)⟩
theorem own_two {W : World} {b1 b2 s1 s2 : Nat} {e1 e2 : TypeId} {v1 v2 : Value} {n1 n2 : Nat} {x1 x2 : List Value} (h1 : W.ownsRow b1 e1 s1 v1 n1 x1) (h2 : W.ownsRow b2 e2 s2 v2 n2 x2) (he : e1 ≠ e2) : ∀ g, v1.ownBlock = some g → g ∉ v2.ownBlock.toList := by
  intro g hg
  obtain ⟨c, f, hc⟩ := own_ty h1 g (by simp [hg])
  exact own_not_ty h2 hc he
/-- Behind a word. -/
theorem RAt.word {Z : List Fn} {w0 V W2 : World} {k : Nat} {l : List Fn} {out : List Stp} {cs : List Value} {bs : List Nat} {f : Fn} {lv ov fv v' : Value} (h : RAt Z w0 k V l out cs bs lv ov fv) (hd : Z.drop k = f :: Z.drop (k + 1)) (he : f.e = 0) (hk4 : f.k ≠ 4)
    (hp : AppPost V w0.heap.size 67 5 lv l.length (fCs l) 1 (fV f).toList v' W2) :
    RAt Z w0 (k + 1) W2 (l ++ [f]) out cs bs v' ov fv := by
  obtain ⟨h1, h2, h3, h4, h5, h6, h7, h8, h9, h10, h11, h12⟩ := h
  obtain ⟨p1, p2, p3, p4⟩ := hp
  rw [hd] at h1 h2
  refine ⟨h1.trans (prs_word he hk4), ?_, by simp; omega, by omega, ?_, p2.owns h6 (own_two h6 h5 (by decide)), h7, StRows.keep p2 h8 (fun b hb hm => ?_), h9, h10, h11.trans p2 (fun b hb => .inr (h5.lt b (by simpa using hb)).1), p2.owns h12 (own_two h12 h5 (by decide))⟩
  · rcases h2 with h | h | h
    · exact absurd he h
    · exact absurd h.2.1 hk4
    · simpa using h.2.2
  · rw [fCs_snoc, List.length_append, List.length_singleton]
    exact p1
  · obtain ⟨c, f, hc⟩ := own_ty h5 b hm
    exact StRows.not_ty h8 hc (by decide) (by decide) hb
/-- Behind a line's end. -/
theorem RAt.step {Z : List Fn} {w0 V V3 W2 : World} {k : Nat} {l : List Fn} {out : List Stp} {cs : List Value} {bs b : List Nat} {f : Fn} {st : Stp} {c9 : Array Value} {lv ov fv v' : Value} (h : RAt Z w0 k V l out cs bs lv ov fv) (hd : Z.drop k = f :: Z.drop (k + 1)) (he : f.e = 0) (hk4 : f.k = 4)
    (hrd : rd (l.map wdF) = some st) (hk3 : Keep [] V V3) (hr : StRow V3 st c9.toList b) (hnew : ∀ x ∈ b, V.heap.size ≤ x)
    (hp : AppPost V3 w0.heap.size 40 9 ov out.length cs 1 c9.toList v' W2) :
    RAt Z w0 (k + 1) W2 [] (out ++ [st]) (cs ++ c9.toList) (bs ++ b) (.slice none 0 0) v' fv := by
  have hsz := h.2.2.2.2.2.2.2.1.lt
  have hw0 : ∀ x ∈ b, w0.heap.size ≤ x := fun x hx => Nat.le_trans h.2.2.2.2.2.2.2.2.2.2.1.size (hnew x hx)
  replace h := h.keep0 hk3
  obtain ⟨h1, h2, h3, h4, h5, h6, h7, h8, h9, h10, h11, h12⟩ := h
  obtain ⟨p1, p2, p3, p4⟩ := hp
  rw [hd] at h1 h2
  refine ⟨h1.trans (prs_step he hk4 hrd), ?_, by simp, by simp; omega, World.ownsRow_nil _ _ _ _, ?_, ?_, StRows.snoc (hr.keep p2 (fun x hx hm => ?_)) (StRows.keep p2 h8 (fun x hx hm => ?_)), fun x hx => ?_, ?_, h11.trans p2 (fun b hb => .inr (h6.lt b (by simpa using hb)).1), p2.owns h12 (own_two h12 h6 (by decide))⟩
  · rcases h2 with h | h | h
    · exact absurd he h
    · simpa using h.2.2.2
    · exact absurd hk4 h.2.1
  · rw [List.length_append, List.length_singleton]
    exact p1
  · rw [p4, List.length_append, List.length_singleton]; omega
  · obtain ⟨c, f, hc⟩ := own_ty h6 x hm
    obtain ⟨c', t', f', hc', ht⟩ := hr.ty x hx
    have e := Option.some.inj (hc.symm.trans hc')
    injection e with _ e _
    subst e
    rcases ht with h | h <;> exact absurd h (by decide)
  · obtain ⟨c, f, hc⟩ := own_ty h6 x hm
    exact StRows.not_ty h8 hc (by decide) (by decide) hx
  · rcases List.mem_append.1 hx with hx | hx
    · exact h9 x hx
    · exact hw0 x hx
  · rw [List.nodup_append]
    refine ⟨h10, hr.nodup, fun x hx y hy e => ?_⟩
    have h0 := hsz x hx
    have h1 := hnew y hy
    omega
end Go.Proofs.YtbidppjhenfjdaaGreatDoor
namespace Go.Proofs.YtbidppjhenfjdaaGreatDoor
open Go.RowKit
set_option linter.unusedVariables false
set_option linter.unusedSimpArgs false

set_option maxHeartbeats 16000000 in
set_option maxRecDepth 100000 in
theorem rparse_any (s : ByteArray) (W : World) (hz : s.size ≤ 90000000) :
    Calls Tryz.prog 8 #[.string s] W (PPost W (prsT s)) := by
  obtain ⟨Z, hZ⟩ : ∃ Z, Z = scn s 0 1 false := ⟨_, rfl⟩
  have hlen := scn_len1 s s.size 0 1 false (by omega) (by omega)
  rw [← hZ] at hlen
  have hzn : Z.length ≤ 100000000 := by omega
  have HZ := Lib.hid (show prsT s = prs Z [] [] by unfold prsT; rw [hZ])
  have HWF := Lib.hid (show WFs false Z by rw [hZ]; exact scn_wf s)
  have HCA := Lib.hid (fun w => (show Calls Tryz.prog 21 #[.string s] w (NewSl 73 6 Z.length (fnCs Z) w) by rw [hZ]; exact rscan_any s w (by omega)))
  clear hlen hZ
  go_enter Tryz.func8, Tryz.ntmps8
  go_wp2_with fail
  refine (HCA.out W).mono ?_
  rintro e w1 ⟨fv, rfl, hfo, hk1, _⟩
  obtain ⟨N, hN⟩ : ∃ N, N = Z.length := ⟨_, rfl⟩
  obtain ⟨fad, fcap, hfv⟩ := (SlAt.of_owns hfo).empty
  rw [← hN] at hfv hzn
  subst hfv
  have HFO := Lib.hid hfo
  have HN := Lib.hid hN
  have HK1 := Lib.hid hk1
  clear hfo hk1 hN
  go_wp2
  go_loopw [6, 7, 8] (fun ov lv iv wr => ∃ (k : Nat) (l : List Fn) (out : List Stp) (cs : List Value) (bs : List Nat), iv = .int .i64 k ∧ k ≤ N ∧ RAt Z W k wr l out cs bs lv ov (.slice fad N fcap)) (fun _ _ iv _ => N - (intOf iv).toNat)
  case atStart => exact ⟨0, [], [], [], [], rfl, Nat.zero_le _, rfl, HWF.out, Nat.zero_le _, Nat.zero_le _, World.ownsRow_nil _ _ _ _, World.ownsRow_nil _ _ _ _, by simp, ⟨rfl, rfl⟩, by simp, List.nodup_nil, HK1.out, HFO.out⟩
  case round =>
    rename World => wr
    obtain ⟨k, l, out, cs, bs, rfl, hk, hr⟩ := hrel
    clear HFO HK1
    obtain ⟨oad, ocap, hov⟩ := (SlAt.of_owns hr.2.2.2.2.2.1).empty
    obtain ⟨lad, lcap, hlv⟩ := (SlAt.of_owns hr.2.2.2.2.1).empty
    subst hov
    subst hlv
    have HR := Lib.hid hr
    clear hr
    by_cases hlt : k < N
    · have g1 := dec_lt_t (show (k : Int) < (N : Int) by omega)
      have hkz : k < Z.length := HN.out ▸ hlt
      have g2 := dec_ltn_t hlt
      have hd := List.drop_eq_getElem_cons hkz
      have hcs := fun j (hj : j < 6) => fd_at Z k j hkz hj
      have hsl := SlAt.of_owns HR.out.2.2.2.2.2.2.2.2.2.2.2
      obtain ⟨gb, off, cap, hv, hcell⟩ := hsl.at_ (by omega)
      injection hv with hv1 hv2 hv3
      subst hv1
      subst hv3
      generalize Z[k] = f at hd hcs
      obtain ⟨fk, ft, fn, fa, fl, fe⟩ := f
      have hce : ∀ j (hj : j < 6) u, (Fn.vals ⟨fk, ft, fn, fa, fl, fe⟩)[j]? = some u → wr.cell? ⟨gb, off + k * 6 + j, none⟩ = some u := fun j hj u hu => by
        rw [Nat.add_assoc]; exact hcell _ _ ((hcs j hj).trans hu)
      have e0 : wr.cell? ⟨gb, off + k * 6 + 0, none⟩ = some (.int .i64 (fk : Nat)) := hce 0 (by decide) _ rfl
      have e1 : wr.cell? ⟨gb, off + k * 6 + 1, none⟩ = some (.string ft) := hce 1 (by decide) _ rfl
      have e2 : wr.cell? ⟨gb, off + k * 6 + 2, none⟩ = some (.int .i64 fn) := hce 2 (by decide) _ rfl
      have e3 : wr.cell? ⟨gb, off + k * 6 + 3, none⟩ = some (.int .i64 (fa : Nat)) := hce 3 (by decide) _ rfl
      have e4 : wr.cell? ⟨gb, off + k * 6 + 4, none⟩ = some (.int .i64 (fl : Nat)) := hce 4 (by decide) _ rfl
      have e5 : wr.cell? ⟨gb, off + k * 6 + 5, none⟩ = some (.int .i64 (fe : Nat)) := hce 5 (by decide) _ rfl
      simp only [Nat.add_zero] at e0
      obtain ⟨D, hD⟩ : ∃ D, D = wr.heap.size := ⟨_, rfl⟩
      obtain ⟨w2, hw2⟩ : ∃ w2, w2 = wr.alloc (.cells #[.int .i64 (fk : Nat), .string ft, .int .i64 fn, .int .i64 (fa : Nat), .int .i64 (fl : Nat)] 67) := ⟨_, rfl⟩
      have hk2 : Keep [] wr w2 := by rw [hw2]; exact (Keep.refl _ _).alloc _
      have hb2 : w2.heap[D]? = some (.cells #[.int .i64 (fk : Nat), .string ft, .int .i64 fn, .int .i64 (fa : Nat), .int .i64 (fl : Nat)] 67 (0, 0)) := by rw [hw2, hD]; exact World.alloc_heap_new wr _
      have HD := Lib.hid hd
      have HB2 := Lib.hid hb2
      have HR2 := Lib.hid (HR.out.keep0 hk2)
      have c5 := hk2.cellv e5 (by simp)
      have d0 := cell_of_block hb2 0
      have d4 := cell_of_block hb2 4
      simp at d0 d4
      clear hcs hce hcell hsl hd hb2 hk2 hv2
      have hkn : k ≤ 100000000 := by omega
      have HKN := Lib.hid (And.intro hk (And.intro hlt hzn))
      clear hk hzn hkz
      go_upto_region 8 with (fail)
      rw [← hw2, ← hD]
      clear hw2 hD e0 e1 e2 e3 e4 e5
      by_cases he : fe = 0
      · subst he
        by_cases hk4 : fk = 4
        · -- a line's end
          subst hk4
          obtain ⟨f0, lr, hln⟩ : ∃ f0 lr, l = f0 :: lr := by
            have h2 := HR2.out.2.1
            rw [HD.out] at h2
            rcases h2 with h | h | h
            · exact absurd rfl h
            · cases l with
              | nil => simp at h
              | cons a b => exact ⟨a, b, rfl⟩
            · exact absurd rfl h.2.1
          obtain ⟨lb, lo, lcp, hlv, hlcell⟩ := (SlAt.of_owns HR2.out.2.2.2.2.1).at_ (by rw [hln]; simp)
          injection hlv with hv4 _ hv5
          subst hv4
          subst hv5
          have hlc : l.length ≤ lcap := by
            rcases HR2.out.2.2.2.2.1.2 with ⟨h, _⟩ | ⟨g, cap', cur, h, _, _, hc, _⟩
            · cases h
            · injection h with _ _ h; omega
          obtain ⟨n, hn⟩ : ∃ n, n = l.length := ⟨_, rfl⟩
          have hlk := HR2.out.2.2.1
          have hmp : wdF f0 :: lr.map wdF = l.map wdF := by rw [hln]; rfl
          have hst := rstep_any lb lo lcap (wdF f0) (lr.map wdF) w2 n (by rw [hn, hln]; simp) (by omega) (by omega) (by rw [hmp]; exact wd_of_sl (cap := lcap) hlcell)
          rw [hmp] at hst
          have HST := Lib.hid hst
          have HLN := Lib.hid hn
          rw [← hn]
          clear hst hmp hlc hlk hln hlcell hn
          go_wp2_with fail
          refine HST.out.mono ?_
          rintro e w3 ⟨hk3, ho⟩
          have HK3 := Lib.hid hk3
          have HR3 := Lib.hid (HR2.out.keep0 hk3)
          have f4 := hk3.cellv d4 (by simp)
          clear hk3 c5 d0 d4 HB2
          rcases ho with ⟨hnone, s', ad1, n1, c1, ad2, n2, c2, rfl⟩ | ⟨st, dv, bv, hsome, rfl, hdat, hnew, hdr⟩
          · obtain ⟨w4, hw4⟩ : ∃ w4, w4 = w3.alloc (.cells (stV s' (.slice ad1 n1 c1) (.slice ad2 n2 c2)) 40) := ⟨_, rfl⟩
            have hk4 : Keep [] w3 w4 := by rw [hw4]; exact (Keep.refl _ _).alloc _
            have f5 := hk4.cellv f4 (by simp)
            have HFIN := Lib.hid (show PPost W (prsT s) (.returned (.tuple #[.slice none 0 0, .int .i64 (fl : Nat), .int .i64 19])) w4.drew from by
              rw [HZ.out, HR2.out.1, HD.out, prs_bad rfl rfl hnone]
              exact ⟨_, [], [], rfl, (HR3.out.2.2.2.2.2.2.2.2.2.2.1.trans0 hk4).drew, World.ownsRow_nil _ _ _ _, ⟨rfl, rfl⟩, by simp, List.nodup_nil, by simp⟩)
            clear hk4 f4 hnone
            unfold stV at hw4 ⊢
            go_upto_region 13 with (fail)
            rw [← hw4]
            clear hw4
            go_upto_region 14 with (fail)
            refine wp_plan (fun w' => w' = w4.drew) (.take 0 (.take 1 (.force 2 (.force 3 (.force 4 .done))))) (by kernel_rfl) (by kernel_rfl) rfl ?_
            intro Q0 hQ0
            refine plan_takeL rfl rfl (.pointer (some ⟨D, 4, none⟩)) ?_ ?_
            · rintro w' rfl K Q hK
              go_simp
              exact hK
            try simp only [Act.put, List.setIfInBounds_toArray, List.set_cons_succ, List.set_cons_zero]
            refine plan_takeL rfl rfl (.int .i64 (fl : Nat)) ?_ ?_
            · rintro w' rfl K Q hK
              go_simp
              exact hK
            try simp only [Act.put, List.setIfInBounds_toArray, List.set_cons_succ, List.set_cons_zero]
            refine plan_forceL rfl rfl fun K hK => ?_
            go_simp
            refine hK _ _ rfl ?_
            refine plan_forceL rfl rfl fun K hK => ?_
            go_simp
            refine hK _ _ rfl ?_
            refine plan_forceL rfl rfl fun K hK => ?_
            go_simp
            refine hK _ _ rfl ?_
            refine hQ0 _ _ ?_
            go_wp2
            go_ret3
            exact HFIN.out
          · -- a step
            obtain ⟨ad2, cap2, hv2⟩ := (SlAt.of_owns hdr).empty
            obtain ⟨ad3, cap3, hv3⟩ := hdat.sl.empty
            subst hv2
            subst hv3
            have hdr' : w3.ownsRow w2.heap.size 3 1 (.slice ad2 st.draws.length cap2) st.draws.length (intsV st.draws) := hdr
            have hrow3 : StRow w3 st (stV st (.slice ad2 st.draws.length cap2) (.slice ad3 st.data.size cap3)).toList ((Value.slice ad2 st.draws.length cap2).ownBlock.toList ++ (Value.slice ad3 st.data.size cap3).ownBlock.toList) := ⟨_, _, rfl, rfl, hdat, own_base hdr' (Nat.zero_le _)⟩
            have hge : ∀ x ∈ ((Value.slice ad2 st.draws.length cap2).ownBlock.toList ++ (Value.slice ad3 st.data.size cap3).ownBlock.toList), w2.heap.size ≤ x := fun x hx => by
              rcases List.mem_append.1 hx with h | h
              · exact (hdr.lt x (by simpa using h)).1
              · exact hnew x (by simpa using h)
            obtain ⟨w4, hw4⟩ : ∃ w4, w4 = w3.alloc (.cells (stV st (.slice ad2 st.draws.length cap2) (.slice ad3 st.data.size cap3)) 40) := ⟨_, rfl⟩
            have hk4 : Keep [] w3 w4 := by rw [hw4]; exact (Keep.refl _ _).alloc _
            have hb4 : w4.heap[w3.heap.size]? = some (.cells (stV st (.slice ad2 st.draws.length cap2) (.slice ad3 st.data.size cap3)) 40 (0, 0)) := by rw [hw4]; exact World.alloc_heap_new w3 _
            have HR4 := Lib.hid (HR3.out.keep0 hk4)
            obtain ⟨v2, W2, hap, hpost⟩ := out_append (W := w4) (stV st (.slice ad2 st.draws.length cap2) (.slice ad3 st.data.size cap3)) rfl (by simp [stV, Value.oneCell']) HR4.out.2.2.2.2.2.1 HR4.out.2.2.2.2.2.2.2.2.2.2.1.size (by have := HR4.out.2.2.2.1; omega)
            have hka : Keep [] w4 (w4.alloc (.cells (stV st (.slice ad2 st.draws.length cap2) (.slice ad3 st.data.size cap3)) 40)) := (Keep.refl _ _).alloc _
            have hfin := HR2.out.step HD.out rfl rfl hsome ((HK3.out.trans0 hk4).trans0 hka) ((hrow3.keep hk4 (by simp)).keep hka (by simp)) hge hpost
            obtain ⟨oad2, ocap2, hov2⟩ := (SlAt.of_owns hfin.2.2.2.2.2.1).empty
            subst hov2
            have HFIN := Lib.hid hfin
            have HAP := Lib.hid hap
            have d0 := cell_of_block hb4 0
            have d1 := cell_of_block hb4 1
            have d2 := cell_of_block hb4 2
            have d3 := cell_of_block hb4 3
            have d4 := cell_of_block hb4 4
            have d5 := cell_of_block hb4 5
            have d6 := cell_of_block hb4 6
            have d7 := cell_of_block hb4 7
            have d8 := cell_of_block hb4 8
            simp [stV] at d0 d1 d2 d3 d4 d5 d6 d7 d8
            unfold stV at HAP hw4 ⊢
            clear hfin hap hpost hrow3 hge hk4 hb4 hka hdat hnew hdr hdr' f4 hsome
            go_upto_region 13 with (fail)
            rw [← hw4]
            clear hw4
            generalize st.draws.length = nd at *
            generalize st.data.size = nb at *
            go_wp2_with (at_builtin; refine wpList_append_eq rfl (.tmp 54) (.tmp 56) 23 rfl rfl rfl HAP.out ?_)
            go_wp2
            go_roundw
            case rel => exact ⟨k + 1, _, _, _, _, by go_num, by have := HKN.out; omega, by have h := HFIN.out; rw [List.length_append, List.length_singleton] at h; exact h⟩
            case measure => simp [intOf]; omega
        · -- a word
          have g3 : ((fk : Int) != 4) = true := by simp; omega
          obtain ⟨v2, W2, hap, hpost⟩ := line_append ⟨fk, ft, fn, fa, fl, 0⟩ HR2.out.2.2.2.2.1 HR2.out.2.2.2.2.2.2.2.2.2.2.1.size (by have := HR2.out.2.2.1; omega)
          have hw := (HR2.out.keep0 ((Keep.refl _ _).alloc _)).word HD.out rfl hk4 hpost
          have HW := Lib.hid hw
          simp only [fV] at hap
          have HAP := Lib.hid hap
          clear hap hpost hw
          obtain ⟨lad2, lcap2, hlv2⟩ := (SlAt.of_owns HW.out.2.2.2.2.1).empty
          subst hlv2
          have d1 := cell_of_block HB2.out 1
          have d2 := cell_of_block HB2.out 2
          have d3 := cell_of_block HB2.out 3
          simp at d1 d2 d3
          go_wp2_with (at_builtin; refine wpList_append_eq rfl (.tmp 41) (.tmp 43) 62 rfl rfl rfl HAP.out ?_)
          go_wp2
          go_roundw
          case rel => exact ⟨k + 1, _, _, _, _, by go_num, by have := HKN.out; omega, by have h := HW.out; rw [List.length_append, List.length_singleton] at h; exact h⟩
          case measure => simp [intOf]; omega
      · have g3 : ((fe : Int) != 0) = true := by simp; omega
        have HFIN := Lib.hid (show PPost W (prsT s) (.returned (.tuple #[.slice none 0 0, .int .i64 (fl : Nat), .int .i64 (fe : Nat)])) w2.drew from by
          rw [HZ.out, HR2.out.1, HD.out, prs_err he]
          exact ⟨_, [], [], rfl, HR2.out.2.2.2.2.2.2.2.2.2.2.1.drew, World.ownsRow_nil _ _ _ _, ⟨rfl, rfl⟩, by simp, List.nodup_nil, by simp⟩)
        clear he
        go_upto_region 9 with (fail)
        refine wp_plan (fun w' => w' = w2.drew) (.take 0 (.take 1 (.take 2 (.take 3 (.take 4 (.take 5 (.take 6 (.force 7 (.force 8 (.force 9 .done)))))))))) (by kernel_rfl) (by kernel_rfl) rfl ?_
        intro Q0 hQ0
        refine plan_takeL rfl rfl (.pointer (some ⟨D, 4, none⟩)) ?_ ?_
        · rintro w' rfl K Q hK
          go_simp
          exact hK
        try simp only [Act.put, List.setIfInBounds_toArray, List.set_cons_succ, List.set_cons_zero]
        refine plan_takeL rfl rfl (.int .i64 (fl : Nat)) ?_ ?_
        · rintro w' rfl K Q hK
          go_simp
          exact hK
        try simp only [Act.put, List.setIfInBounds_toArray, List.set_cons_succ, List.set_cons_zero]
        refine plan_takeL rfl rfl (.slice (some ⟨gb, off, none⟩) N fcap) ?_ ?_
        · rintro w' rfl K Q hK
          go_simp
          exact hK
        try simp only [Act.put, List.setIfInBounds_toArray, List.set_cons_succ, List.set_cons_zero]
        refine plan_takeL rfl rfl (.int .i64 (k : Nat)) ?_ ?_
        · rintro w' rfl K Q hK
          go_simp
          exact hK
        try simp only [Act.put, List.setIfInBounds_toArray, List.set_cons_succ, List.set_cons_zero]
        refine plan_takeL rfl rfl (.pointer (some ⟨gb, off + k * 6, none⟩)) ?_ ?_
        · rintro w' rfl K Q hK
          go_simp
          exact hK
        try simp only [Act.put, List.setIfInBounds_toArray, List.set_cons_succ, List.set_cons_zero]
        refine plan_takeL rfl rfl (.pointer (some ⟨gb, off + k * 6 + 5, none⟩)) ?_ ?_
        · rintro w' rfl K Q hK
          go_simp
          exact hK
        try simp only [Act.put, List.setIfInBounds_toArray, List.set_cons_succ, List.set_cons_zero]
        refine plan_takeL rfl rfl (.int .i64 (fe : Nat)) ?_ ?_
        · rintro w' rfl K Q hK
          go_simp
          exact hK
        try simp only [Act.put, List.setIfInBounds_toArray, List.set_cons_succ, List.set_cons_zero]
        refine plan_forceL rfl rfl fun K hK => ?_
        go_simp
        refine hK _ _ rfl ?_
        refine plan_forceL rfl rfl fun K hK => ?_
        go_simp
        refine hK _ _ rfl ?_
        refine plan_forceL rfl rfl fun K hK => ?_
        go_simp
        refine hK _ _ rfl ?_
        refine hQ0 _ _ ?_
        go_wp2
        go_ret3
        exact HFIN.out
    · have g1 := dec_lt_f (show ¬ (k : Int) < (N : Int) by omega)
      have g2 := dec_ltn_f hlt
      have hkN : k = N := by omega
      subst hkN
      have hre := HR.out.1
      rw [HN.out, List.drop_length] at hre
      have HFIN := Lib.hid (show PPost W (prsT s) (.returned (.tuple #[.slice oad out.length ocap, .int .i64 0, .int .i64 0])) wr from by
        rw [HZ.out, hre]
        exact ⟨_, cs, bs, rfl, HR.out.2.2.2.2.2.2.2.2.2.2.1, HR.out.2.2.2.2.2.1, HR.out.2.2.2.2.2.2.2.1, HR.out.2.2.2.2.2.2.2.2.1, HR.out.2.2.2.2.2.2.2.2.2.1, HR.out.2.2.2.2.2.2.1⟩)
      clear hre
      go_wp2
      go_ret3
      exact HFIN.out
end Go.Proofs.YtbidppjhenfjdaaGreatDoor
