/-
  QuoteScans: whatever the text, each word and error that is found is the document's, stopped behind some, within itself, and again; no condition but the five listed variables of the library.
-/
import Derived.Test.YtbmapellhcdipaaDoorScnP
import Derived.Test.YtbmapellhcdipaaDoorGlyX
import Derived.Deep.CutRange
import Derived.Test.YtbmapellhcdipaaDoorScnE
import Derived.Test.YtbmapellhcdipaaDoorSl
import Derived.Test.YtbmapellhcdipaaDoorRow
import Derived.Test.YtbmapellhcdipaaDoorQuoT
import Derived.Laws.EntriesVeiled
import Derived.Test.YtbmapellhcdipaaDoorCards
import Derived.Test.YtbmapellhcdipaaDoorTie
import Derived.Test.YtbmapellhcdipaaDoorScnF
import Derived.WalkKit
import Derived.ProofKit
import Derived.OpenShut
import Derived.Deep.DeepHandedRow
import Derived.Lib.LaidTab
import Derived.Lib.TrailingZeros
import Derived.Lib.ItoaNum
import Derived.SizedLaws
import Derived.Carry
import Derived.Stop.LaidErr
namespace Go.Proofs.YtbmapellhcdipaaDoor
open Go.RowKit
set_option linter.unusedVariables false
set_option linter.unusedSimpArgs false

def fnCs : List Fn → List Value
  | [] => []
  | f :: L => f.vals.toList ++ fnCs L
theorem fnCs_snoc (L : List Fn) (f : Fn) : fnCs (L ++ [f]) = fnCs L ++ f.vals.toList := by
  induction L with
  | nil => simp [fnCs]
  | cons g L ih => simp [fnCs, ih]
theorem info_found : (Tryd.prog.info? 41).map (fun i => (i.zero, i.size, i.bytes)) = some (some (.agg #[.int .i64 0, .string ⟨#[]⟩, .int .i64 0, .int .i64 0, .int .i64 0, .int .i64 0]), 6, 56) := by kernel_rfl
/-- The list so far. -/
def OutAt (w : World) (v : Value) (L : List Fn) (W : World) : Prop := W.ownsRow w.heap.size 41 6 v L.length (fnCs L) ∧ Keep [] w W ∧ (v = .slice none 0 0 ↔ L.length = 0)
theorem OutAt.keep {w W W' : World} {v : Value} {L : List Fn} (h : OutAt w v L W) (k : Keep [] W W') : OutAt w v L W' := ⟨k.owns h.1 (by simp), h.2.1.trans0 k, h.2.2⟩
theorem OutAt.snoc {w W : World} {v : Value} {L : List Fn} {f : Fn} {cs : List Value} (hc : f.vals.toList = cs) (h : W.ownsRow w.heap.size 41 6 v (L.length + 1) (fnCs L ++ cs) ∧ Keep [] w W ∧ (v = .slice none 0 0 ↔ L.length + 1 = 0)) : OutAt w v (L ++ [f]) W := by
  unfold OutAt
  rw [fnCs_snoc, hc, List.length_append, List.length_singleton]
  exact h
theorem ar8 {c n : Nat} {d : Int} (h : d = (c : Nat)) (e : c = n) : (d != (n : Int)) = false := by simp; omega
theorem own_not_type {w : World} {base sz : Nat} {e t : TypeId} {v : Value} {n : Nat} {xs : List Value} {i : Nat} {c : Array Value} {f : Nat × Nat} (h : w.ownsRow base e sz v n xs) (hi : w.heap[i]? = some (.cells c t f)) (ht : t ≠ e) : i ∉ v.ownBlock.toList := by
  intro hm
  simp at hm
  rcases h.2 with ⟨rfl, _⟩ | ⟨g, cap, cur, rfl, _, hg, _⟩
  · simp [Value.ownBlock] at hm
  · simp [Value.ownBlock] at hm
    subst hm
    rw [hg] at hi
    injection hi with hi
    injection hi with _ hi _
    exact ht hi.symm
/-- Between the rounds. -/
def ScI (s : ByteArray) (w : World) (v : Value) (a l : Nat) (sm : Bool) (L : List Fn) (W : World) : Prop := OutAt w v L W ∧ a ≤ s.size ∧ l ≤ a + 1 ∧ scn s 0 1 false = L ++ scn s a l sm ∧ L.length ≤ a

set_option maxHeartbeats 64000000 in
set_option maxRecDepth 100000 in
theorem rscan_any (s : ByteArray) (w : World) (hz : s.size ≤ 1000000) :
    Calls Tryd.prog 15 #[.string s] w (NewSl 41 6 (scn s 0 1 false).length (fnCs (scn s 0 1 false)) w) := by
  obtain ⟨i0, hi, hz0, hz1, hz2⟩ := info_parts info_found
  have HI := Lib.hid hi; have HZ0 := Lib.hid hz0; have HZ1 := Lib.hid hz1; have HZ2 := Lib.hid hz2
  clear hi hz0 hz1 hz2
  have HRET : Hid (∀ (v : Value) (W : World) (L : List Fn), scn s 0 1 false = L → OutAt w v L W → NewSl 41 6 (scn s 0 1 false).length (fnCs (scn s 0 1 false)) w (.returned v) W) := Lib.hid (fun v W L hL ho => by rw [hL]; exact ⟨v, rfl, ho.1, ho.2.1, ho.2.2⟩)
  go_enter Tryd.func15, Tryd.ntmps15
  go_wp2
  go_loopw [3, 4, 5, 6] (fun v lv sv av wr => ∃ (a l : Nat) (sm : Bool) (L : List Fn), lv = .int .i64 l ∧ sv = .bool sm ∧ av = .int .i64 a ∧ ScI s w v a l sm L wr) (fun _ _ _ av _ => s.size - (intOf av).toNat)
  case atStart => exact ⟨0, 1, false, [], rfl, rfl, rfl, ⟨World.ownsRow_nil _ _ _ _, Keep.refl _ _, by simp⟩, Nat.zero_le _, Nat.le_refl _, rfl, Nat.le_refl _⟩
  case round =>
    obtain ⟨a, l, sm, L, rfl, rfl, rfl, ho, ha, hla, hsc, hln⟩ := hrel
    have HO := Lib.hid ho.1; have HK := Lib.hid ho.2.1; have HN := Lib.hid ho.2.2; have HSC := Lib.hid hsc
    have HOA := Lib.hid ho
    have HLN := Lib.hid (show L.length ≤ 1000000 by omega)
    have HLA := Lib.hid (show L.length ≤ a ∧ l ≤ a + 1 ∧ a ≤ s.size from ⟨hln, hla, ha⟩)
    have hlz : l ≤ 1000001 := by omega
    clear ho hsc hln hla
    by_cases hlt : a < s.size
    · have f1 := dec_le_f (show ¬ (s.size : Int) ≤ (a : Int) by omega)
      have f2 := dec_len_f (show ¬ s.size ≤ a by omega)
      have hix := byte_z (s := s) (i := a) (z := (a : Nat)) hlt rfl
      have hbl := byt_lt s a
      have hcs : (byt s a = 10 ∨ byt s a = 13) ∨ (byt s a = 32 ∨ byt s a = 9) ∨ byt s a = 35 ∨ (WordAt s a ∧ byt s a ≠ 34) ∨ (WordAt s a ∧ byt s a = 34) := by unfold WordAt; omega
      rcases hcs with hc | hc | hc | ⟨hw, hc⟩ | ⟨hw, hc⟩
      · -- a line's end
        have HS2 := Lib.hid (HSC.out.trans (by rw [scn_line hlt hc]))
        have hlb := lineB_more hlt
        have hi2 : byt s a = 13 → a + 1 < s.size → ∀ W, _ := fun _ h W => byte_z (s := s) (i := a + 1) (z := (a : Int) + 1) h (by omega) W
        have hcase : (byt s a = 10 ∧ lineB s a = a + 1) ∨ (byt s a = 13 ∧ a + 1 < s.size ∧ byt s (a + 1) = 10 ∧ lineB s a = a + 2) ∨ (byt s a = 13 ∧ a + 1 < s.size ∧ byt s (a + 1) ≠ 10 ∧ lineB s a = a + 1) ∨ (byt s a = 13 ∧ ¬ a + 1 < s.size ∧ lineB s a = a + 1) := by
          unfold lineB
          split <;> omega
        have hbb := byt_lt s (a + 1)
        clear hc
        rcases hcase with ⟨hc, hb⟩ | ⟨hc, hn1, hn2, hb⟩ | ⟨hc, hn1, hn2, hb⟩ | ⟨hc, hn1, hb⟩
        · rw [hc] at hix
          rw [hb] at HS2 hlb
          clear hc hb hi2 hbb hbl hlt
          cases sm with
          | false =>
            have HS3 := Lib.hid (show scn s 0 1 false = L ++ scn s (a + 1) (l + 1) false from HS2.out)
            go_wp2
            go_roundw
            case rel => exact ⟨_, l + 1, false, L, by go_num, rfl, by go_num, HOA.out, hlb.2, by have := HLA.out; omega, HS3.out, by have := HLA.out; omega⟩
            case measure => simp [intOf]; omega
          | true =>
            have HS3 := Lib.hid (show scn s 0 1 false = (L ++ [⟨4, ByteArray.empty, 0, a, l, 0⟩]) ++ scn s (a + 1) (l + 1) false by rw [HS2.out, List.append_assoc]; rfl)
            go_wp2_with (at_builtin; refine wpList_append_mine _ rfl (.tmp 27) (.tmp 32) 33 rfl w.heap.size 41 i0 (.agg #[.int .i64 0, .string ⟨#[]⟩, .int .i64 0, .int .i64 0, .int .i64 0, .int .i64 0]) 6 56 Tryd.underlying33 HI.out HZ0.out HZ1.out HZ2.out rfl (by decide) _ _ _ rfl (HO.out.alloc _) ⟨wr.heap.size, 0, none⟩ 1 1 [.int .i64 4, .string ⟨#[]⟩, .int .i64 0, .int .i64 (a : Nat), .int .i64 (l : Nat), .int .i64 0] rfl rfl (cell_new_row _ _ _) (by simp [Value.oneCell']) (by have := HLN.out; unfold maxLen; omega) (by have := HLN.out; omega) (by have := HK.out.size; simp; omega) ?_; intro v' W2 hp2; have hfin := Lib.hid (own_next HO.out HK.out ((Keep.refl _ _).alloc _) hp2 (by omega)); clear hp2)
            go_roundw
            case rel => exact ⟨_, l + 1, false, L ++ [⟨4, ByteArray.empty, 0, a, l, 0⟩], by go_num, rfl, by go_num, OutAt.snoc (f := ⟨4, ByteArray.empty, 0, a, l, 0⟩) rfl hfin.out, hlb.2, by have := HLA.out; omega, HS3.out, by have := HLA.out; rw [List.length_append, List.length_singleton]; omega⟩
            case measure => simp [intOf]; omega
        · have hi3 := hi2 hc hn1
          have g1 := dec_lt_t (show (a : Int) + 1 < (s.size : Int) by omega)
          have g2 := dec_ltn_t hn1
          rw [hn2] at hi3
          rw [hc] at hix
          rw [hb] at HS2 hlb
          clear hc hb hi2 hbb hbl hlt hn1 hn2
          cases sm with
          | false =>
            have HS3 := Lib.hid (show scn s 0 1 false = L ++ scn s (a + 2) (l + 1) false from HS2.out)
            go_wp2
            go_roundw
            case rel => exact ⟨_, l + 1, false, L, by go_num, rfl, by go_num, HOA.out, hlb.2, by have := HLA.out; omega, HS3.out, by have := HLA.out; omega⟩
            case measure => simp [intOf]; omega
          | true =>
            have HS3 := Lib.hid (show scn s 0 1 false = (L ++ [⟨4, ByteArray.empty, 0, a, l, 0⟩]) ++ scn s (a + 2) (l + 1) false by rw [HS2.out, List.append_assoc]; rfl)
            go_wp2_with (at_builtin; refine wpList_append_mine _ rfl (.tmp 27) (.tmp 32) 33 rfl w.heap.size 41 i0 (.agg #[.int .i64 0, .string ⟨#[]⟩, .int .i64 0, .int .i64 0, .int .i64 0, .int .i64 0]) 6 56 Tryd.underlying33 HI.out HZ0.out HZ1.out HZ2.out rfl (by decide) _ _ _ rfl (HO.out.alloc _) ⟨wr.heap.size, 0, none⟩ 1 1 [.int .i64 4, .string ⟨#[]⟩, .int .i64 0, .int .i64 (a : Nat), .int .i64 (l : Nat), .int .i64 0] rfl rfl (cell_new_row _ _ _) (by simp [Value.oneCell']) (by have := HLN.out; unfold maxLen; omega) (by have := HLN.out; omega) (by have := HK.out.size; simp; omega) ?_; intro v' W2 hp2; have hfin := Lib.hid (own_next HO.out HK.out ((Keep.refl _ _).alloc _) hp2 (by omega)); clear hp2)
            go_roundw
            case rel => exact ⟨_, l + 1, false, L ++ [⟨4, ByteArray.empty, 0, a, l, 0⟩], by go_num, rfl, by go_num, OutAt.snoc (f := ⟨4, ByteArray.empty, 0, a, l, 0⟩) rfl hfin.out, hlb.2, by have := HLA.out; omega, HS3.out, by have := HLA.out; rw [List.length_append, List.length_singleton]; omega⟩
            case measure => simp [intOf]; omega
        · have hi3 := hi2 hc hn1
          have g1 := dec_lt_t (show (a : Int) + 1 < (s.size : Int) by omega)
          have g2 := dec_ltn_t hn1
          obtain ⟨d, hd⟩ : ∃ d : Int, d = ((byt s (a + 1) : Nat) : Int) := ⟨_, rfl⟩
          rw [← hd] at hi3
          have g3 : (d == 10) = false := ((ar4 hd).2 hn2).1
          rw [hc] at hix
          rw [hb] at HS2 hlb
          clear hc hb hi2 hbb hbl hlt hn1 hn2 hd
          cases sm with
          | false =>
            have HS3 := Lib.hid (show scn s 0 1 false = L ++ scn s (a + 1) (l + 1) false from HS2.out)
            go_wp2
            go_roundw
            case rel => exact ⟨_, l + 1, false, L, by go_num, rfl, by go_num, HOA.out, hlb.2, by have := HLA.out; omega, HS3.out, by have := HLA.out; omega⟩
            case measure => simp [intOf]; omega
          | true =>
            have HS3 := Lib.hid (show scn s 0 1 false = (L ++ [⟨4, ByteArray.empty, 0, a, l, 0⟩]) ++ scn s (a + 1) (l + 1) false by rw [HS2.out, List.append_assoc]; rfl)
            go_wp2_with (at_builtin; refine wpList_append_mine _ rfl (.tmp 27) (.tmp 32) 33 rfl w.heap.size 41 i0 (.agg #[.int .i64 0, .string ⟨#[]⟩, .int .i64 0, .int .i64 0, .int .i64 0, .int .i64 0]) 6 56 Tryd.underlying33 HI.out HZ0.out HZ1.out HZ2.out rfl (by decide) _ _ _ rfl (HO.out.alloc _) ⟨wr.heap.size, 0, none⟩ 1 1 [.int .i64 4, .string ⟨#[]⟩, .int .i64 0, .int .i64 (a : Nat), .int .i64 (l : Nat), .int .i64 0] rfl rfl (cell_new_row _ _ _) (by simp [Value.oneCell']) (by have := HLN.out; unfold maxLen; omega) (by have := HLN.out; omega) (by have := HK.out.size; simp; omega) ?_; intro v' W2 hp2; have hfin := Lib.hid (own_next HO.out HK.out ((Keep.refl _ _).alloc _) hp2 (by omega)); clear hp2)
            go_roundw
            case rel => exact ⟨_, l + 1, false, L ++ [⟨4, ByteArray.empty, 0, a, l, 0⟩], by go_num, rfl, by go_num, OutAt.snoc (f := ⟨4, ByteArray.empty, 0, a, l, 0⟩) rfl hfin.out, hlb.2, by have := HLA.out; omega, HS3.out, by have := HLA.out; rw [List.length_append, List.length_singleton]; omega⟩
            case measure => simp [intOf]; omega
        · have g1 := dec_lt_f (show ¬ (a : Int) + 1 < (s.size : Int) by omega)
          have g2 := dec_ltn_f hn1
          rw [hc] at hix
          rw [hb] at HS2 hlb
          clear hc hb hi2 hbb hbl hlt hn1
          cases sm with
          | false =>
            have HS3 := Lib.hid (show scn s 0 1 false = L ++ scn s (a + 1) (l + 1) false from HS2.out)
            go_wp2
            go_roundw
            case rel => exact ⟨_, l + 1, false, L, by go_num, rfl, by go_num, HOA.out, hlb.2, by have := HLA.out; omega, HS3.out, by have := HLA.out; omega⟩
            case measure => simp [intOf]; omega
          | true =>
            have HS3 := Lib.hid (show scn s 0 1 false = (L ++ [⟨4, ByteArray.empty, 0, a, l, 0⟩]) ++ scn s (a + 1) (l + 1) false by rw [HS2.out, List.append_assoc]; rfl)
            go_wp2_with (at_builtin; refine wpList_append_mine _ rfl (.tmp 27) (.tmp 32) 33 rfl w.heap.size 41 i0 (.agg #[.int .i64 0, .string ⟨#[]⟩, .int .i64 0, .int .i64 0, .int .i64 0, .int .i64 0]) 6 56 Tryd.underlying33 HI.out HZ0.out HZ1.out HZ2.out rfl (by decide) _ _ _ rfl (HO.out.alloc _) ⟨wr.heap.size, 0, none⟩ 1 1 [.int .i64 4, .string ⟨#[]⟩, .int .i64 0, .int .i64 (a : Nat), .int .i64 (l : Nat), .int .i64 0] rfl rfl (cell_new_row _ _ _) (by simp [Value.oneCell']) (by have := HLN.out; unfold maxLen; omega) (by have := HLN.out; omega) (by have := HK.out.size; simp; omega) ?_; intro v' W2 hp2; have hfin := Lib.hid (own_next HO.out HK.out ((Keep.refl _ _).alloc _) hp2 (by omega)); clear hp2)
            go_roundw
            case rel => exact ⟨_, l + 1, false, L ++ [⟨4, ByteArray.empty, 0, a, l, 0⟩], by go_num, rfl, by go_num, OutAt.snoc (f := ⟨4, ByteArray.empty, 0, a, l, 0⟩) rfl hfin.out, hlb.2, by have := HLA.out; omega, HS3.out, by have := HLA.out; rw [List.length_append, List.length_singleton]; omega⟩
            case measure => simp [intOf]; omega
      · -- a blank
        have HS2 := Lib.hid (HSC.out.trans (by rw [scn_blank hlt hc]))
        rcases hc with hc | hc
        all_goals
          rw [hc] at hix
          clear hc hbl
          go_wp2
          go_roundw
          case rel => exact ⟨a + 1, l, sm, L, rfl, rfl, by go_num, HOA.out, by omega, by have := HLA.out; omega, HS2.out, by have := HLA.out; omega⟩
          case measure => simp [intOf]; omega
      · -- a remark
        have HS2 := Lib.hid (show scn s 0 1 false = L ++ scn s (rem s a) l sm by rw [HSC.out, scn_rem hlt hc])
        have hra : a < rem s a ∧ rem s a ≤ s.size := by
          have h1 := rem_on (s := s) (i := a) ⟨hlt, by omega, by omega⟩
          have h2 := rem_spec s s.size (a + 1) (by omega) (by omega)
          omega
        have HRA := Lib.hid hra
        rw [hc] at hix
        clear hc hbl hra f1 f2
        go_wp2
        clear hix
        go_loopw [6] (fun av wx => ∃ i : Nat, av = .int .i64 i ∧ i ≤ s.size ∧ rem s a = rem s i ∧ wr = wx) (fun av _ => s.size - (intOf av).toNat)
        case atStart => exact ⟨a, rfl, by omega, rfl, rfl⟩
        case round =>
          obtain ⟨i, rfl, hi, hr, rfl⟩ := hrel
          have HRR := Lib.hid hr; clear hr
          by_cases his : i < s.size
          · have g1 := dec_lt_t (show (i : Int) < (s.size : Int) by omega)
            have g2 := dec_ltn_t his
            have hix := byte_z (s := s) (i := i) (z := (i : Nat)) his rfl
            obtain ⟨c, hcc⟩ : ∃ c : Int, c = ((byt s i : Nat) : Int) := ⟨_, rfl⟩
            rw [← hcc] at hix
            by_cases e1 : byt s i = 10
            · have HE := Lib.hid (HRR.out.trans (rem_end (fun h => h.2.1 e1)))
              have g3 : (c != 10) = false := ar8 hcc e1
              clear e1 hcc
              go_wp2
              go_roundw
              case rel => exact ⟨i, l, sm, L, rfl, rfl, rfl, HOA.out, hi, by have := HLA.out; have := HRA.out; have := HE.out; omega, by rw [HS2.out, HE.out], by have := HLA.out; have := HRA.out; have := HE.out; omega⟩
              case measure => have := HRA.out; have := HE.out; simp [intOf]; omega
            · have g3 : (c != 10) = true := ((ar4 hcc).2 e1).2
              by_cases e2 : byt s i = 13
              · have HE := Lib.hid (HRR.out.trans (rem_end (fun h => h.2.2 e2)))
                have g4 : (c != 13) = false := ar8 hcc e2
                clear e1 e2 hcc
                go_wp2
                go_roundw
                case rel => exact ⟨i, l, sm, L, rfl, rfl, rfl, HOA.out, hi, by have := HLA.out; have := HRA.out; have := HE.out; omega, by rw [HS2.out, HE.out], by have := HLA.out; have := HRA.out; have := HE.out; omega⟩
                case measure => have := HRA.out; have := HE.out; simp [intOf]; omega
              · have g4 : (c != 13) = true := ((ar4 hcc).2 e2).2
                have HE := Lib.hid (HRR.out.trans (rem_on ⟨his, e1, e2⟩))
                clear e1 e2 hcc
                go_wp2
                go_roundw
                case rel => exact ⟨i + 1, by go_num, by omega, HE.out, by trivial⟩
                case measure => simp [intOf]; omega
          · have g1 := dec_lt_f (show ¬ (i : Int) < (s.size : Int) by omega)
            have g2 := dec_ltn_f his
            have HE := Lib.hid (HRR.out.trans (rem_end (fun h => his h.1)))
            clear his
            go_wp2
            go_roundw
            case rel => exact ⟨i, l, sm, L, rfl, rfl, rfl, HOA.out, hi, by have := HLA.out; have := HRA.out; have := HE.out; omega, by rw [HS2.out, HE.out], by have := HLA.out; have := HRA.out; have := HE.out; omega⟩
            case measure => have := HRA.out; have := HE.out; simp [intOf]; omega
      · -- a word that is not quoted
        obtain ⟨⟨⟨fk, ft, fn, fa, fl, fe⟩, o⟩, hpl⟩ : ∃ r, plF s a l = r := ⟨_, rfl⟩
        have hwe := hw.ends
        have hp0 := rplain_any s a l wr hz hwe
        rw [hpl] at hp0
        have HP := Lib.hid (show Calls Tryd.prog 42 #[.string s, .int .i64 (a : Nat), .int .i64 (l : Nat)] wr fun e w' => e = .returned (.tuple #[.agg #[.int .i64 (fk : Nat), .string ft, .int .i64 fn, .int .i64 (fa : Nat), .int .i64 (fl : Nat), .int .i64 (fe : Nat)], .int .i64 (endV o)]) ∧ Keep [] wr w' from hp0)
        clear hp0
        obtain ⟨c, hcc⟩ : ∃ c : Int, c = ((byt s a : Nat) : Int) := ⟨_, rfl⟩
        rw [← hcc] at hix
        obtain ⟨_, w1, w2, w3, w4, w5⟩ := hw
        have g1 : (c == 10) = false := ((ar4 hcc).2 w1).1
        have g2 : (c == 13) = false := ((ar4 hcc).2 w2).1
        have g3 : (c == 32) = false := ((ar4 hcc).2 w3).1
        have g4 : (c == 9) = false := ((ar4 hcc).2 w4).1
        have g5 : (c == 35) = false := ((ar4 hcc).2 w5).1
        have g6 : (c != 34) = true := ((ar4 hcc).2 hc).2
        have hwd : WordAt s a := ⟨hlt, w1, w2, w3, w4, w5⟩
        cases o with
        | none =>
          have HS2 := Lib.hid (show scn s 0 1 false = L ++ [⟨fk, ft, fn, fa, fl, fe⟩] by rw [HSC.out, scn_bad hwd hc hpl])
          clear w1 w2 w3 w4 w5 hc hcc hwd hpl hwe hlt hbl
          go_wp2_with fail
          refine HP.out.mono ?_
          rintro e W1 ⟨rfl, hk1⟩
          have HOA1 := Lib.hid (HOA.out.keep hk1)
          clear hk1 HP
          simp only [endV]
          go_upto_region 23 with (fail)
          obtain ⟨W3, hW3⟩ : ∃ W, W = W1.alloc (.cells #[.int .i64 (fk : Nat), .string ft, .int .i64 fn, .int .i64 (fa : Nat), .int .i64 (fl : Nat), .int .i64 (fe : Nat)] 41) := ⟨_, rfl⟩
          have hb3 : W3.heap[W1.heap.size]? = some (.cells #[.int .i64 (fk : Nat), .string ft, .int .i64 fn, .int .i64 (fa : Nat), .int .i64 (fl : Nat), .int .i64 (fe : Nat)] 41 (0, 0)) := by rw [hW3]; exact World.alloc_heap_new W1 _
          have ho3 : OutAt w u3 L W3 := by rw [hW3]; exact HOA1.out.keep ((Keep.refl _ _).alloc _)
          rw [← hW3]
          clear hW3
          generalize W1.heap.size = g at *
          have hl3 := load_row (P := Tryd.prog) (t := 41) Tryd.underlying41 rfl found_info hb3 rfl
          have HO3 := Lib.hid ho3.1; have HK3 := Lib.hid ho3.2.1
          clear ho3 hb3
          go_wp2_with (with_reducible refine park_load 7 _ rfl ?_)
          refine wpList_load_eq rfl _ (.tmp 7) rfl hl3 ?_
          clear hl3
          go_wp2_with (at_builtin; refine wpList_append_mine _ rfl (.tmp 108) (.tmp 110) 33 rfl w.heap.size 41 i0 (.agg #[.int .i64 0, .string ⟨#[]⟩, .int .i64 0, .int .i64 0, .int .i64 0, .int .i64 0]) 6 56 Tryd.underlying33 HI.out HZ0.out HZ1.out HZ2.out rfl (by decide) _ _ _ rfl (HO3.out.alloc _) ⟨W3.heap.size, 0, none⟩ 1 1 [.int .i64 (fk : Nat), .string ft, .int .i64 fn, .int .i64 (fa : Nat), .int .i64 (fl : Nat), .int .i64 (fe : Nat)] rfl rfl (cell_new_row _ _ _) (by simp [Value.oneCell']) (by have := HLN.out; unfold maxLen; omega) (by have := HLN.out; omega) (by have := HK3.out.size; simp; omega) ?_; intro v' W2 hp2; have hfin := Lib.hid (own_next HO3.out HK3.out ((Keep.refl _ _).alloc _) hp2 (by omega)); clear hp2)
          go_ret
          exact HRET.out _ _ _ HS2.out (OutAt.snoc (f := ⟨fk, ft, fn, fa, fl, fe⟩) rfl hfin.out)
        | some e =>
          have hm := plF_more hwe (by rw [hpl])
          have HM := Lib.hid hm
          have HS2 := Lib.hid (show scn s 0 1 false = (L ++ [⟨fk, ft, fn, fa, fl, fe⟩]) ++ scn s e l true by rw [HSC.out, scn_plain hwd hc hpl, List.append_assoc]; rfl)
          have g7 := dec_lt_f (show ¬ (e : Int) < 0 by omega)
          clear w1 w2 w3 w4 w5 hc hcc hwd hpl hwe hlt hbl hm
          go_wp2_with fail
          refine HP.out.mono ?_
          rintro e' W1 ⟨rfl, hk1⟩
          have HOA1 := Lib.hid (HOA.out.keep hk1)
          clear hk1 HP
          simp only [endV]
          go_upto_region 23 with (fail)
          obtain ⟨W3, hW3⟩ : ∃ W, W = W1.alloc (.cells #[.int .i64 (fk : Nat), .string ft, .int .i64 fn, .int .i64 (fa : Nat), .int .i64 (fl : Nat), .int .i64 (fe : Nat)] 41) := ⟨_, rfl⟩
          have hb3 : W3.heap[W1.heap.size]? = some (.cells #[.int .i64 (fk : Nat), .string ft, .int .i64 fn, .int .i64 (fa : Nat), .int .i64 (fl : Nat), .int .i64 (fe : Nat)] 41 (0, 0)) := by rw [hW3]; exact World.alloc_heap_new W1 _
          have ho3 : OutAt w u3 L W3 := by rw [hW3]; exact HOA1.out.keep ((Keep.refl _ _).alloc _)
          rw [← hW3]
          clear hW3
          generalize W1.heap.size = g at *
          have hl3 := load_row (P := Tryd.prog) (t := 41) Tryd.underlying41 rfl found_info hb3 rfl
          have HO3 := Lib.hid ho3.1; have HK3 := Lib.hid ho3.2.1
          clear ho3 hb3
          go_wp2_with (with_reducible refine park_load 7 _ rfl ?_)
          refine wpList_load_eq rfl _ (.tmp 7) rfl hl3 ?_
          clear hl3
          go_wp2_with (at_builtin; refine wpList_append_mine _ rfl (.tmp 108) (.tmp 110) 33 rfl w.heap.size 41 i0 (.agg #[.int .i64 0, .string ⟨#[]⟩, .int .i64 0, .int .i64 0, .int .i64 0, .int .i64 0]) 6 56 Tryd.underlying33 HI.out HZ0.out HZ1.out HZ2.out rfl (by decide) _ _ _ rfl (HO3.out.alloc _) ⟨W3.heap.size, 0, none⟩ 1 1 [.int .i64 (fk : Nat), .string ft, .int .i64 fn, .int .i64 (fa : Nat), .int .i64 (fl : Nat), .int .i64 (fe : Nat)] rfl rfl (cell_new_row _ _ _) (by simp [Value.oneCell']) (by have := HLN.out; unfold maxLen; omega) (by have := HLN.out; omega) (by have := HK3.out.size; simp; omega) ?_; intro v' W2 hp2; have hfin := Lib.hid (own_next HO3.out HK3.out ((Keep.refl _ _).alloc _) hp2 (by omega)); clear hp2)
          go_roundw
          case rel => exact ⟨e, l, true, L ++ [⟨fk, ft, fn, fa, fl, fe⟩], rfl, rfl, rfl, OutAt.snoc (f := ⟨fk, ft, fn, fa, fl, fe⟩) rfl hfin.out, HM.out.2, by have := HLA.out; have := HM.out; omega, HS2.out, by have := HLA.out; have := HM.out; rw [List.length_append, List.length_singleton]; omega⟩
          case measure => have := HM.out; simp [intOf]; omega
      · -- a word in quotes
        obtain ⟨⟨ok, x, e⟩, hqt⟩ : ∃ r, qtd s a = r := ⟨_, rfl⟩
        have HP0 := rquoted_any s a wr hz (by omega)
        rw [hc] at hix
        have hwd := hw
        have g6 : decide (a < s.size) = true := dec_ltn_t hlt
        clear hw
        cases ok with
        | false =>
          obtain rfl := qtd_no (by omega) hqt
          have HS2 := Lib.hid (show scn s 0 1 false = L ++ [⟨0, ByteArray.empty, 0, e, l, 18⟩] by rw [HSC.out, scn_unq hwd hc hqt (.inl rfl)])
          rw [partA_no hqt] at HP0
          have HP := Lib.hid HP0
          clear HP0 hc hwd hqt hlt hbl g6
          go_wp2_with fail
          refine HP.out.mono ?_
          rintro e' W1 ⟨rfl, hk1⟩
          have HOA1 := Lib.hid (HOA.out.keep hk1)
          clear hk1 HP
          go_upto_region 28 with (fail)
          obtain ⟨W3, hW3⟩ : ∃ W, W = W1.alloc (.cells #[.string ByteArray.empty, .int .i64 (-1), .int .i64 (e : Nat)] 81) := ⟨_, rfl⟩
          have hb3 : W3.heap[W1.heap.size]? = some (.cells #[.string ByteArray.empty, .int .i64 (-1), .int .i64 (e : Nat)] 81 (0, 0)) := by rw [hW3]; exact World.alloc_heap_new W1 _
          have ho3 : OutAt w u3 L W3 := by rw [hW3]; exact HOA1.out.keep ((Keep.refl _ _).alloc _)
          rw [← hW3]
          clear hW3
          generalize W1.heap.size = g at *
          have k0 := cell_of_block hb3 0
          have k1 := cell_of_block hb3 1
          have k2 := cell_of_block hb3 2
          simp at k0 k1 k2
          have HO3 := Lib.hid ho3.1; have HK3 := Lib.hid ho3.2.1
          clear ho3 hb3
          go_wp2_with (at_builtin; refine wpList_append_mine _ rfl (.tmp 122) (.tmp 128) 33 rfl w.heap.size 41 i0 (.agg #[.int .i64 0, .string ⟨#[]⟩, .int .i64 0, .int .i64 0, .int .i64 0, .int .i64 0]) 6 56 Tryd.underlying33 HI.out HZ0.out HZ1.out HZ2.out rfl (by decide) _ _ _ rfl (HO3.out.alloc _) ⟨W3.heap.size, 0, none⟩ 1 1 [.int .i64 0, .string ⟨#[]⟩, .int .i64 0, .int .i64 (e : Nat), .int .i64 (l : Nat), .int .i64 18] rfl rfl (cell_new_row _ _ _) (by simp [Value.oneCell']) (by have := HLN.out; unfold maxLen; omega) (by have := HLN.out; omega) (by have := HK3.out.size; simp; omega) ?_; intro v' W2 hp2; have hfin := Lib.hid (own_next HO3.out HK3.out ((Keep.refl _ _).alloc _) hp2 (by omega)); clear hp2)
          go_ret
          exact HRET.out _ _ _ HS2.out (OutAt.snoc (f := ⟨0, ByteArray.empty, 0, e, l, 18⟩) rfl hfin.out)
        | true =>
          rw [partA_yes hqt] at HP0
          have HP := Lib.hid HP0
          have HM := Lib.hid (qtd_more hqt)
          have HE := Lib.hid (fun W => rends_any s e W hz)
          have g7 := dec_lt_f (show ¬ (e : Int) < 0 by omega)
          cases he : endB s e with
          | false =>
            have HS2 := Lib.hid (show scn s 0 1 false = L ++ [⟨0, ByteArray.empty, 0, e, l, 18⟩] by rw [HSC.out, scn_unq hwd hc hqt (.inr he)])
            rw [he] at HE
            clear HP0 hc hwd hqt hlt hbl g6 he
            go_wp2_with fail
            refine HP.out.mono ?_
            rintro e' W1 ⟨rfl, hk1⟩
            have HOA1 := Lib.hid (HOA.out.keep hk1)
            clear hk1 HP
            go_upto_region 28 with (fail)
            obtain ⟨W3, hW3⟩ : ∃ W, W = W1.alloc (.cells #[.string x, .int .i64 (e : Nat), .int .i64 0] 81) := ⟨_, rfl⟩
            have hb3 : W3.heap[W1.heap.size]? = some (.cells #[.string x, .int .i64 (e : Nat), .int .i64 0] 81 (0, 0)) := by rw [hW3]; exact World.alloc_heap_new W1 _
            have ho3 : OutAt w u3 L W3 := by rw [hW3]; exact HOA1.out.keep ((Keep.refl _ _).alloc _)
            rw [← hW3]
            clear hW3
            generalize W1.heap.size = g at *
            have k0 := cell_of_block hb3 0
            have k1 := cell_of_block hb3 1
            have k2 := cell_of_block hb3 2
            simp at k0 k1 k2
            have HO3 := Lib.hid ho3.1; have HK3 := Lib.hid ho3.2.1
            clear ho3 hb3
            go_wp2_with fail
            refine (HE.out _).mono ?_
            rintro e' W4 ⟨rfl, rfl⟩
            go_wp2_with (at_builtin; refine wpList_append_mine _ rfl (.tmp 136) (.tmp 142) 33 rfl w.heap.size 41 i0 (.agg #[.int .i64 0, .string ⟨#[]⟩, .int .i64 0, .int .i64 0, .int .i64 0, .int .i64 0]) 6 56 Tryd.underlying33 HI.out HZ0.out HZ1.out HZ2.out rfl (by decide) _ _ _ rfl (HO3.out.alloc _) ⟨W3.heap.size, 0, none⟩ 1 1 [.int .i64 0, .string ⟨#[]⟩, .int .i64 0, .int .i64 (e : Nat), .int .i64 (l : Nat), .int .i64 18] rfl rfl (cell_new_row _ _ _) (by simp [Value.oneCell']) (by have := HLN.out; unfold maxLen; omega) (by have := HLN.out; omega) (by have := HK3.out.size; simp; omega) ?_; intro v' W2 hp2; have hfin := Lib.hid (own_next HO3.out HK3.out ((Keep.refl _ _).alloc _) hp2 (by omega)); clear hp2)
            go_ret
            exact HRET.out _ _ _ HS2.out (OutAt.snoc (f := ⟨0, ByteArray.empty, 0, e, l, 18⟩) rfl hfin.out)
          | true =>
            have HS2 := Lib.hid (show scn s 0 1 false = (L ++ [⟨2, x, 0, a, l, 0⟩]) ++ scn s e l true by rw [HSC.out, scn_quote hwd hc hqt he, List.append_assoc]; rfl)
            rw [he] at HE
            clear HP0 hc hwd hqt hlt hbl g6 he
            go_wp2_with fail
            refine HP.out.mono ?_
            rintro e' W1 ⟨rfl, hk1⟩
            have HOA1 := Lib.hid (HOA.out.keep hk1)
            clear hk1 HP
            go_upto_region 28 with (fail)
            obtain ⟨W3, hW3⟩ : ∃ W, W = W1.alloc (.cells #[.string x, .int .i64 (e : Nat), .int .i64 0] 81) := ⟨_, rfl⟩
            have hb3 : W3.heap[W1.heap.size]? = some (.cells #[.string x, .int .i64 (e : Nat), .int .i64 0] 81 (0, 0)) := by rw [hW3]; exact World.alloc_heap_new W1 _
            have ho3 : OutAt w u3 L W3 := by rw [hW3]; exact HOA1.out.keep ((Keep.refl _ _).alloc _)
            rw [← hW3]
            clear hW3
            generalize W1.heap.size = g at *
            have k0 := cell_of_block hb3 0
            have k1 := cell_of_block hb3 1
            have k2 := cell_of_block hb3 2
            simp at k0 k1 k2
            have HO3 := Lib.hid ho3.1; have HK3 := Lib.hid ho3.2.1
            have HB3 := Lib.hid hb3
            have HNG := Lib.hid (own_not_type HO3.out hb3 (by decide))
            clear ho3 hb3
            go_wp2_with fail
            refine (HE.out _).mono ?_
            rintro e' W4 ⟨rfl, rfl⟩
            go_wp2_with (at_builtin; refine wpList_append_mine _ rfl (.tmp 145) (.tmp 152) 33 rfl w.heap.size 41 i0 (.agg #[.int .i64 0, .string ⟨#[]⟩, .int .i64 0, .int .i64 0, .int .i64 0, .int .i64 0]) 6 56 Tryd.underlying33 HI.out HZ0.out HZ1.out HZ2.out rfl (by decide) _ _ _ rfl (HO3.out.alloc _) ⟨W3.heap.size, 0, none⟩ 1 1 [.int .i64 2, .string x, .int .i64 0, .int .i64 (a : Nat), .int .i64 (l : Nat), .int .i64 0] rfl rfl (cell_new_row _ _ _) (by simp [Value.oneCell']) (by have := HLN.out; unfold maxLen; omega) (by have := HLN.out; omega) (by have := HK3.out.size; simp; omega) ?_; intro v' W2 hp2; have hfin := Lib.hid (own_next HO3.out HK3.out ((Keep.refl _ _).alloc _) hp2 (by omega)); have hb4 := hp2.2.1.at_ (((Keep.refl [] W3).alloc _).at_ HB3.out (by simp)) HNG.out; have k4 := cell_of_block hb4 1; simp at k4; clear hp2 hb4)
            go_roundw
            case rel => exact ⟨e, l, true, L ++ [⟨2, x, 0, a, l, 0⟩], rfl, rfl, rfl, OutAt.snoc (f := ⟨2, x, 0, a, l, 0⟩) rfl hfin.out, HM.out.2, by have := HLA.out; have := HM.out; omega, HS2.out, by have := HLA.out; have := HM.out; rw [List.length_append, List.length_singleton]; omega⟩
            case measure => have := HM.out; simp [intOf]; omega
    · have f1 := dec_le_t (show (s.size : Int) ≤ (a : Int) by omega)
      have f2 := dec_len_t (show s.size ≤ a by omega)
      have hS := HSC.out.trans (by rw [scn_over hlt])
      cases sm with
      | false =>
        have HS2 := Lib.hid (show scn s 0 1 false = L by rw [hS]; simp [endF])
        clear hS hlt
        go_wp2
        go_ret
        exact HRET.out _ _ _ HS2.out HOA.out
      | true =>
        have HS2 := Lib.hid (show scn s 0 1 false = L ++ [⟨4, ByteArray.empty, 0, a, l, 0⟩] by rw [hS]; simp [endF])
        clear hS hlt
        go_wp2_with (at_builtin; refine wpList_append_mine _ rfl (.tmp 27) (.tmp 32) 33 rfl w.heap.size 41 i0 (.agg #[.int .i64 0, .string ⟨#[]⟩, .int .i64 0, .int .i64 0, .int .i64 0, .int .i64 0]) 6 56 Tryd.underlying33 HI.out HZ0.out HZ1.out HZ2.out rfl (by decide) _ _ _ rfl (HO.out.alloc _) ⟨wr.heap.size, 0, none⟩ 1 1 [.int .i64 4, .string ⟨#[]⟩, .int .i64 0, .int .i64 (a : Nat), .int .i64 (l : Nat), .int .i64 0] rfl rfl (cell_new_row _ _ _) (by simp [Value.oneCell']) (by have := HLN.out; unfold maxLen; omega) (by have := HLN.out; omega) (by have := HK.out.size; simp; omega) ?_; intro v' W2 hp2; have hfin := Lib.hid (own_next HO.out HK.out ((Keep.refl _ _).alloc _) hp2 (by omega)); clear hp2)
        go_ret
        exact HRET.out _ _ _ HS2.out (OutAt.snoc (f := ⟨4, ByteArray.empty, 0, a, l, 0⟩) rfl hfin.out)
end Go.Proofs.YtbmapellhcdipaaDoor
namespace Go.Proofs.YtbmapellhcdipaaDoor
open Go.RowKit
set_option linter.unusedVariables false
set_option linter.unusedSimpArgs false
attribute [local go_sem] Oper.semAt_some

theorem scn_len (s : ByteArray) : ∀ (m a l : Nat) (sm : Bool), s.size - a ≤ m → a ≤ s.size → (scn s a l sm).length ≤ s.size - a + 1 := by
  intro m
  induction m with
  | zero =>
    intro a l sm hm ha
    rw [scn_over (by omega)]
    unfold endF
    split <;> simp
  | succ m ih =>
    intro a l sm hm ha
    by_cases hlt : a < s.size
    · have hcs : (byt s a = 10 ∨ byt s a = 13) ∨ (byt s a = 32 ∨ byt s a = 9) ∨ byt s a = 35 ∨ (WordAt s a ∧ byt s a ≠ 34) ∨ (WordAt s a ∧ byt s a = 34) := by unfold WordAt; omega
      rcases hcs with hc | hc | hc | ⟨hw, hc⟩ | ⟨hw, hc⟩
      · rw [scn_line hlt hc, List.length_append]
        have hlb := lineB_more hlt
        have h1 := ih (lineB s a) (l + 1) false (by omega) hlb.2
        have h2 : (endF sm a l).length ≤ 1 := by unfold endF; split <;> simp
        omega
      · rw [scn_blank hlt hc]
        have h1 := ih (a + 1) l sm (by omega) (by omega)
        omega
      · rw [scn_rem hlt hc]
        have h3 := rem_on (s := s) (i := a) ⟨hlt, by omega, by omega⟩
        have h4 := rem_spec s s.size (a + 1) (by omega) (by omega)
        have h1 := ih (rem s a) l sm (by omega) (by omega)
        omega
      · obtain ⟨⟨f, o⟩, hp⟩ : ∃ r, plF s a l = r := ⟨_, rfl⟩
        cases o with
        | none => rw [scn_bad hw hc hp]; simp
        | some e =>
          have hm := plF_more (s := s) (a := a) (l := l) (e := e) hw.ends (by rw [hp])
          rw [scn_plain hw hc hp, List.length_cons]
          have h1 := ih e l true (by omega) hm.2
          omega
      · obtain ⟨⟨ok, x, e⟩, hq⟩ : ∃ r, qtd s a = r := ⟨_, rfl⟩
        cases ok with
        | false => rw [scn_unq hw hc hq (.inl rfl)]; simp
        | true =>
          cases he : endB s e with
          | false => rw [scn_unq hw hc hq (.inr he)]; simp
          | true =>
            have hm := qtd_more hq
            rw [scn_quote hw hc hq he, List.length_cons]
            have h1 := ih e l true (by omega) hm.2
            omega
    · rw [scn_over hlt]
      unfold endF
      split <;> simp
theorem fnCs_at : ∀ (L : List Fn) (k j : Nat) (hk : k < L.length), j < 6 → (fnCs L)[k * 6 + j]? = L[k].vals[j]? := by
  intro L
  induction L with
  | nil => intro k j hk; cases hk
  | cons f L ih =>
    intro k j hk hj
    have hl : f.vals.toList.length = 6 := rfl
    unfold fnCs
    cases k with
    | zero =>
      rw [List.getElem?_append_left (by omega)]
      simp
    | succ k =>
      rw [List.getElem?_append_right (by omega), show (k + 1) * 6 + j - f.vals.toList.length = k * 6 + j by omega, ih k j (by simpa using hk) hj]
      rfl
/-- What the closures read. -/
def SC (bs bw bi tb : Nat) (v : Value) (stop : Int) (s : ByteArray) (W : World) : Prop :=
  W.heap[bs]? = some (.cells #[.int .i64 stop] 3 (0, 0)) ∧ W.heap[bw]? = some (.cells #[v] 33 (0, 0)) ∧
  W.heap[bi]? = some (.cells #[.func (.func 44) #[] #[.pointer (some ⟨tb, 0, none⟩)]] 36 (0, 0)) ∧ BoxNeed tb s W ∧ TQ W ∧
  SlAt W v (scn s 0 1 false).length (fnCs (scn s 0 1 false)) ∧ (∀ g, v.ownBlock = some g → g < W.heap.size)
def scL (bs bw bi tb : Nat) (v : Value) : List Nat := bs :: bw :: bi :: tb :: (tqB ++ v.ownBlock.toList)
section
variable {bs bw bi tb : Nat} {v : Value} {stop : Int} {s : ByteArray} {W W' : World} {L : List Nat}
theorem SC.keep (h : SC bs bw bi tb v stop s W) (k : Keep L W W') (hL : ∀ x ∈ scL bs bw bi tb v, x ∉ L) : SC bs bw bi tb v stop s W' := by
  obtain ⟨h0, h1, h2, h3, h4, h5, h6⟩ := h
  exact ⟨k.at_ h0 (hL _ (by simp [scL])), k.at_ h1 (hL _ (by simp [scL])), k.at_ h2 (hL _ (by simp [scL])), k.at_ h3 (hL _ (by simp [scL])), h4.keep k (fun x hx => hL _ (by simp [scL, hx])),
    h5.keep k (fun g hg => hL _ (by simp [scL, hg])), fun g hg => Nat.lt_of_lt_of_le (h6 g hg) k.size⟩
theorem SC.lt (h : SC bs bw bi tb v stop s W) : ∀ x ∈ scL bs bw bi tb v, x < W.heap.size := by
  obtain ⟨h0, h1, h2, h3, h4, h5, h6⟩ := h
  intro x hx
  simp only [scL, List.mem_cons, List.mem_append] at hx
  rcases hx with rfl | rfl | rfl | rfl | hx | hx
  · exact lt_of_block h0
  · exact lt_of_block h1
  · exact lt_of_block h2
  · exact lt_of_block h3
  · exact h4.lt _ hx
  · exact h6 _ (by simpa using hx)
end
/-- Two variables of a closure. -/
def Two (bo bn : Nat) (k : Nat) (W : World) : Prop := W.heap[bo]? = some (.cells #[.bool true] 4 (0, 0)) ∧ W.heap[bn]? = some (.cells #[.int .i64 (k : Nat)] 3 (0, 0)) ∧ bo ≠ bn
theorem Two.keep {bo bn k : Nat} {W W' : World} {L : List Nat} (h : Two bo bn k W) (kp : Keep L W W') (h1 : bo ∉ L) (h2 : bn ∉ L) : Two bo bn k W' := ⟨kp.at_ h.1 h1, kp.at_ h.2.1 h2, h.2.2⟩
theorem Two.setOk {bo bn k : Nat} {W : World} (h : Two bo bn k W) : Two bo bn k (W.setCell ⟨bo, 0, none⟩ (.bool true)) := by
  refine ⟨by have := block_setCell h.1 0 (.bool true); exact this, ((Keep.refl [bo] W).setCell (.inl (by simp)) _).at_ h.2.1 (by simp; exact fun e => h.2.2 e.symm), h.2.2⟩
theorem Two.setN {bo bn k : Nat} {W : World} (h : Two bo bn k W) (m : Nat) : Two bo bn m (W.setCell ⟨bn, 0, none⟩ (.int .i64 (m : Nat))) := by
  refine ⟨((Keep.refl [bn] W).setCell (.inl (by simp)) _).at_ h.1 (by simp; exact h.2.2), by have := block_setCell h.2.1 0 (.int .i64 (m : Nat)); exact this, h.2.2⟩
theorem word_info : (Tryd.prog.info? 39).map (·.size) = some 5 := by kernel_rfl

set_option maxHeartbeats 64000000 in
set_option maxRecDepth 100000 in
theorem scans11_any (bs bw bi tb bo bn : Nat) (v : Value) (stop : Int) (s : ByteArray) (k : Nat) (W : World) (hz : s.size ≤ 1000000) (hk : k < (scn s 0 1 false).length) (hS : SC bs bw bi tb v stop s W) (hT : Two bo bn k W) (hdis : ∀ x ∈ scL bs bw bi tb v, x ∉ [bo, bn]) :
    Calls Tryd.prog 18 (fnArgs ((scn s 0 1 false)[k]) ++ #[.pointer (some ⟨bo, 0, none⟩), .pointer (some ⟨bn, 0, none⟩), .pointer (some ⟨bw, 0, none⟩), .pointer (some ⟨bs, 0, none⟩)]) W fun e W' =>
      ∃ b : Bool, e = .returned (.bool b) ∧ ((b = true ∧ ((k + 1 : Nat) : Int) ≠ stop) ∨ (b = false ∧ ((k + 1 : Nat) : Int) = stop)) ∧ Keep [bo, bn] W W' ∧ Two bo bn (k + 1) W' := by
  obtain ⟨f, hf⟩ : ∃ f, f = (scn s 0 1 false)[k] := ⟨_, rfl⟩
  have hcs := fun j (hj : j < 6) => fnCs_at (scn s 0 1 false) k j hk hj
  rw [← hf] at hcs ⊢
  have hlen := scn_len s s.size 0 1 false (by omega) (by omega)
  obtain ⟨gb, off, cap, hv, hcell⟩ := hS.2.2.2.2.2.1.at_ (by omega)
  obtain ⟨n, hn⟩ : ∃ n, n = (scn s 0 1 false).length := ⟨_, rfl⟩
  rw [← hn] at hv hlen hk
  have HN := Lib.hid hn
  clear hf hn
  have hce : ∀ j (hj : j < 6) u, f.vals[j]? = some u → W.cell? ⟨gb, off + k * 6 + j, none⟩ = some u := fun j hj u hu => by
    rw [Nat.add_assoc]; exact hcell _ _ ((hcs j hj).trans hu)
  obtain ⟨fk, ft, fn, fa, fl, fe⟩ := f
  have g0 := hce 0 (by decide) _ rfl
  have g1 := hce 1 (by decide) _ rfl
  have g2 := hce 2 (by decide) _ rfl
  have g3 := hce 3 (by decide) _ rfl
  have g4 := hce 4 (by decide) _ rfl
  have g5 := hce 5 (by decide) _ rfl
  have hD : (W.alloc (.cells #[.int .i64 (fk : Nat), .string ft, .int .i64 fn, .int .i64 (fa : Nat), .int .i64 (fl : Nat)] 39)).heap[W.heap.size]? = some (.cells #[.int .i64 (fk : Nat), .string ft, .int .i64 fn, .int .i64 (fa : Nat), .int .i64 (fl : Nat)] 39 (0, 0)) := World.alloc_heap_new W _
  have hKD : Keep [] W (W.alloc (.cells #[.int .i64 (fk : Nat), .string ft, .int .i64 fn, .int .i64 (fa : Nat), .int .i64 (fl : Nat)] 39)) := (Keep.refl _ _).alloc _
  have hgb : gb < W.heap.size := World.block_lt_of_cell? _ _ g0
  have hlt := hS.lt
  subst hv
  simp only [fnArgs, List.push_toArray, List.append_toArray, List.cons_append, List.nil_append]
  have HSC := Lib.hid (hS.keep hKD (fun _ _ => by simp))
  have HTW := Lib.hid (hT.keep hKD (by simp) (by simp))
  have HLT := Lib.hid hlt
  have HDL := Lib.hid hdis
  have HKW := Lib.hid hKD
  have HSO := Lib.hid hS
  have HTO := Lib.hid hT
  obtain ⟨D, hDD⟩ : ∃ D, D = W.heap.size := ⟨_, rfl⟩
  obtain ⟨w0, hw0⟩ : ∃ w0, w0 = W.alloc (.cells #[.int .i64 (fk : Nat), .string ft, .int .i64 fn, .int .i64 (fa : Nat), .int .i64 (fl : Nat)] 39) := ⟨_, rfl⟩
  rw [← hw0] at HSC HTW HKW hD hKD
  rw [← hDD] at hD
  have HDB := Lib.hid hD
  have c0 := hKD.cellv g0 (by simp)
  have c1 := hKD.cellv g1 (by simp)
  have c2 := hKD.cellv g2 (by simp)
  have c3 := hKD.cellv g3 (by simp)
  have c4 := hKD.cellv g4 (by simp)
  have c5 := hKD.cellv g5 (by simp)
  have d0 := cell_of_block hD 0
  have d1 := cell_of_block hD 1
  have d2 := cell_of_block hD 2
  have d3 := cell_of_block hD 3
  have d4 := cell_of_block hD 4
  have p0 := cell_of_block HTW.out.1 0
  have y0 := free_of_block HTW.out.1 0
  have p1 := cell_of_block HTW.out.2.1 0
  have p2 := cell_of_block HSC.out.2.1 0
  simp at d0 d1 d2 d3 d4 p0 p1 p2
  have f1 := dec_lt_t (show (k : Int) < (n : Int) by omega)
  have f2 := dec_ltn_t (show k < n by omega)
  have hkz : k ≤ 1000001 := by omega
  have hnz : n ≤ 1000001 := by omega
  have HKN := Lib.hid (show k < n from hk)
  clear g0 g1 g2 g3 g4 g5 hD hKD hS hT hlt hcs hce hcell hdis hgb hlen
  go_enter Tryd.func18, Tryd.ntmps18
  go_upto_region 1 with (fail)
  rw [← hw0, ← hDD]
  clear hw0 hDD
  refine (wpIn_wide (n := 0)).1 ?_
  refine wpIn_fix (.inl rfl) 25 [] (fun _ => w0.drew) (fun w' => w'.cell? ⟨bo, 0, none⟩ = some (.bool true) ∧ w'.cell? ⟨bn, 0, none⟩ = some (.int .i64 (k : Nat)) ∧ w'.cell? ⟨bw, 0, none⟩ = some (.slice (some ⟨gb, off, none⟩) n cap) ∧
      w'.cell? ⟨D, 0, none⟩ = some (.int .i64 (fk : Nat)) ∧ w'.cell? ⟨D, 1, none⟩ = some (.string ft) ∧ w'.cell? ⟨D, 2, none⟩ = some (.int .i64 fn) ∧ w'.cell? ⟨D, 3, none⟩ = some (.int .i64 (fa : Nat)) ∧ w'.cell? ⟨D, 4, none⟩ = some (.int .i64 (fl : Nat)) ∧
      w'.cell? ⟨gb, off + k * 6, none⟩ = some (.int .i64 (fk : Nat)) ∧ w'.cell? ⟨gb, off + k * 6 + 1, none⟩ = some (.string ft) ∧ w'.cell? ⟨gb, off + k * 6 + 2, none⟩ = some (.int .i64 fn) ∧ w'.cell? ⟨gb, off + k * 6 + 3, none⟩ = some (.int .i64 (fa : Nat)) ∧ w'.cell? ⟨gb, off + k * 6 + 4, none⟩ = some (.int .i64 (fl : Nat)) ∧ w'.cell? ⟨gb, off + k * 6 + 5, none⟩ = some (.int .i64 (fe : Nat)))
    [.bool true, .bool true, .int .i64 (k : Nat), .slice (some ⟨gb, off, none⟩) n cap, .int .i64 (n : Nat), .bool true, .bool true, .bool true,
     .agg #[.int .i64 (fk : Nat), .string ft, .int .i64 fn, .int .i64 (fa : Nat), .int .i64 (fl : Nat)], .slice (some ⟨gb, off, none⟩) n cap, .int .i64 (k : Nat), .pointer (some ⟨gb, off + k * 6, none⟩), .pointer (some ⟨gb, off + k * 6, none⟩),
     .agg #[.int .i64 (fk : Nat), .string ft, .int .i64 fn, .int .i64 (fa : Nat), .int .i64 (fl : Nat)], .bool true, .bool true, .bool true, .int .i64 (fe : Nat), .slice (some ⟨gb, off, none⟩) n cap, .int .i64 (k : Nat), .pointer (some ⟨gb, off + k * 6, none⟩),
     .pointer (some ⟨gb, off + k * 6 + 5, none⟩), .int .i64 (fe : Nat), .bool true, .bool true]
    (by kernel_rfl) (by kernel_rfl) rfl rfl rfl (fun _ _ => ⟨p0, p1, p2, d0, d1, d2, d3, d4, c0, c1, c2, c3, c4, c5⟩) ?rest1
  case rest1 =>
    intro A hA
    simp only [putVals, List.take, Act.put, List.setIfInBounds_toArray, List.set_cons_succ, List.set_cons_zero] at hA
    subst hA
    refine ⟨?_, fixWrites_nil, ?_⟩
    · iterate 25
        refine fixReads_on rfl ?_ ?_
        · intro w1 hw1 K Q hK
          obtain ⟨x0, x1, x2, x3, x4, x5, x6, x7, x8, x9, x10, x11, x12, x13⟩ := hw1
          go_simp
          exact hK
      exact fixReads_nil
    · simp only [List.drop]
      gi_upto_region 2 with (fail)
      have HT1 := Lib.hid (show Two bo bn k (w0.setCell ⟨bo, 0, none⟩ (.bool true)).drew from HTW.out.setOk)
      have HK1 := Lib.hid (show Keep [bo, bn] W (w0.setCell ⟨bo, 0, none⟩ (.bool true)).drew from (((HKW.out.mono (by simp)).setCell (p := ⟨bo, 0, none⟩) (.inl (by simp)) (.bool true)).drew))
      obtain ⟨w1, hw1⟩ : ∃ w1, w1 = (w0.setCell ⟨bo, 0, none⟩ (.bool true)).drew := ⟨_, rfl⟩
      rw [← hw1] at HT1 HK1 ⊢
      clear hw1 c0 c1 c2 c3 c4 c5 d0 d1 d2 d3 d4 p0 p1 p2 y0 HKW HTW HSC
      have p0 := cell_of_block HT1.out.1 0
      have y0 := free_of_block HT1.out.1 0
      have p1 := cell_of_block HT1.out.2.1 0
      have y1 := free_of_block HT1.out.2.1 0
      simp at p0 p1
      go_upto_region 3 with (fail)
      have HT2 := Lib.hid (HT1.out.setN (k + 1))
      have HK2 := Lib.hid (HK1.out.setCell (p := ⟨bn, 0, none⟩) (.inl (by simp)) (.int .i64 ((k + 1 : Nat) : Nat)))
      obtain ⟨w2, hw2⟩ : ∃ w2, w2 = w1.setCell ⟨bn, 0, none⟩ (.int .i64 ((k + 1 : Nat) : Nat)) := ⟨_, rfl⟩
      rw [← hw2] at HT2 HK2
      have hw3 : w2 = w1.setCell ⟨bn, 0, none⟩ (.int .i64 ((k : Int) + 1)) := hw2
      rw [← hw3]
      clear hw2 hw3 p0 p1 y0 y1 HT1 HK1
      have HS2 := Lib.hid (HSO.out.keep HK2.out HDL.out)
      have p0 := cell_of_block HT2.out.1 0
      have p1 := cell_of_block HT2.out.2.1 0
      have p2 := cell_of_block HS2.out.1 0
      simp at p0 p1 p2
      by_cases hst : ((k + 1 : Nat) : Int) = stop
      · subst hst
        have g7 : (((k : Int) + 1) != ((k : Int) + 1)) = false := by simp
        go_wp2
        go_ret
        first | exact ⟨by simp, HK2.out, HT2.out⟩ | exact ⟨_, rfl, .inr ⟨rfl, rfl⟩, HK2.out, HT2.out⟩
      · have g7 : (((k : Int) + 1) != stop) = true := by simp; omega
        have g8 : (((k : Int) + 1) == stop) = false := by simp; omega
        have HST := Lib.hid hst
        clear hst
        go_wp2
        go_ret
        exact ⟨_, rfl, .inl ⟨rfl, HST.out⟩, HK2.out, HT2.out⟩

/-- Between the words of a run. -/
def WInv (bo bn : Nat) (W0 : World) (k : Nat) (fp : List Nat) (W : World) : Prop := fp = [bo, bn] ∧ Keep [bo, bn] W0 W ∧ Two bo bn k W
def WStop (bo bn : Nat) (stop : Int) (W0 : World) (k : Nat) (fp : List Nat) (W : World) : Prop := fp = [bo, bn] ∧ Keep [bo, bn] W0 W ∧ Two bo bn (k + 1) W ∧ ((k + 1 : Nat) : Int) = stop
theorem steady_of {L : List Nat} {W0 : World} {I : World → Prop} (hlt : ∀ x ∈ L, x < W0.heap.size) (hI : ∀ W W' S, I W → Keep S W W' → (∀ x ∈ L, x ∉ S) → I W') : Steady [] W0 (fun fp W => fp = L ∧ Keep L W0 W ∧ I W) := by
  rintro fp W1 W2 S ⟨rfl, hk, hi⟩ hkp hS
  have hge : ∀ x ∈ S, W0.heap.size ≤ x := fun x hx => by
    rcases (hS x hx).2 with h | h
    · cases h
    · exact h
  exact ⟨rfl, hk.trans hkp (fun x hx => .inr (hge x hx)), hI _ _ _ hi hkp (fun x hx hm => by have := hlt x hx; have := hge x hm; omega)⟩
theorem WInv.steady {bo bn : Nat} {W0 : World} (h : bo < W0.heap.size ∧ bn < W0.heap.size) (k : Nat) : Steady [] W0 (WInv bo bn W0 k) :=
  steady_of (I := fun W => Two bo bn k W) (fun x hx => by simp at hx; omega) (fun W W' S hi hk hn => hi.keep hk (hn _ (by simp)) (hn _ (by simp)))
theorem WStop.steady {bo bn : Nat} {stop : Int} {W0 : World} (h : bo < W0.heap.size ∧ bn < W0.heap.size) (k : Nat) : Steady [] W0 (WStop bo bn stop W0 k) :=
  steady_of (I := fun W => Two bo bn (k + 1) W ∧ ((k + 1 : Nat) : Int) = stop) (fun x hx => by simp at hx; omega) (fun W W' S hi hk hn => ⟨hi.1.keep hk (hn _ (by simp)) (hn _ (by simp)), hi.2⟩)
theorem enters_s11 (args : Array Value) (w : World) : (callFunc 18 args).run Tryd.prog w = .ok (.enter 18 args) w := enters_of Tryd.func18 (by kernel_rfl) rfl args w
theorem s11_round {bs bw bi tb bo bn : Nat} {v : Value} {stop : Int} {s : ByteArray} {W0 : World} (hz : s.size ≤ 1000000) (hS : SC bs bw bi tb v stop s W0) (hdis : ∀ x ∈ scL bs bw bi tb v, x ∉ [bo, bn])
    (k : Nat) (hk : k < ((scn s 0 1 false).map fnArgs).length) (fp : List Nat) (W1 : World) (h : WInv bo bn W0 k fp W1) :
    CallV Tryd.prog (.func (.func 18) #[] #[.pointer (some ⟨bo, 0, none⟩), .pointer (some ⟨bn, 0, none⟩), .pointer (some ⟨bw, 0, none⟩), .pointer (some ⟨bs, 0, none⟩)]) ((scn s 0 1 false).map fnArgs)[k] W1
      (RoundPost (WInv bo bn W0) (WStop bo bn stop W0) k fp W1) := by
  rw [List.length_map] at hk
  obtain ⟨rfl, hkp, hT⟩ := h
  rw [List.getElem_map]
  refine .inr ⟨_, _, rfl, enters_s11, (scans11_any bs bw bi tb bo bn v stop s k W1 hz hk (hS.keep hkp hdis) hT hdis).mono ?_⟩
  rintro e W2 ⟨b, rfl, ⟨rfl, hst⟩ | ⟨rfl, hst⟩, hk2, hT2⟩
  · exact .inl ⟨rfl, [bo, bn], ⟨rfl, hkp.trans hk2 (fun x hx => .inl hx), hT2⟩, hk2, FromNew.refl _ _⟩
  · exact .inr ⟨rfl, [bo, bn], ⟨rfl, hkp.trans hk2 (fun x hx => .inl hx), hT2, hst⟩, hk2, FromNew.refl _ _⟩

set_option maxHeartbeats 64000000 in
set_option maxRecDepth 100000 in
theorem scans1_any (bs bw bi tb bo bn : Nat) (v : Value) (stop : Int) (s : ByteArray) (k : Nat) (W : World) (hz : s.size ≤ 1000000) (hk : k < (scn s 0 1 false).length) (hS : SC bs bw bi tb v stop s W) (hT : Two bo bn k W) (hdis : ∀ x ∈ scL bs bw bi tb v, x ∉ [bo, bn]) :
    Calls Tryd.prog 17 (fnArgs ((scn s 0 1 false)[k]) ++ #[.pointer (some ⟨bo, 0, none⟩), .pointer (some ⟨bn, 0, none⟩), .pointer (some ⟨bw, 0, none⟩), .pointer (some ⟨bi, 0, none⟩), .pointer (some ⟨bs, 0, none⟩)]) W fun e W' =>
      e = .returned (.bool true) ∧ Keep [bo, bn] W W' ∧ Two bo bn (k + 1) W' := by
  obtain ⟨f, hf⟩ : ∃ f, f = (scn s 0 1 false)[k] := ⟨_, rfl⟩
  have hcs := fun j (hj : j < 6) => fnCs_at (scn s 0 1 false) k j hk hj
  rw [← hf] at hcs ⊢
  have hlen := scn_len s s.size 0 1 false (by omega) (by omega)
  obtain ⟨gb, off, cap, hv, hcell⟩ := hS.2.2.2.2.2.1.at_ (by omega)
  obtain ⟨n, hn⟩ : ∃ n, n = (scn s 0 1 false).length := ⟨_, rfl⟩
  rw [← hn] at hv hlen hk
  have HN := Lib.hid hn
  clear hf hn
  have hce : ∀ j (hj : j < 6) u, f.vals[j]? = some u → W.cell? ⟨gb, off + k * 6 + j, none⟩ = some u := fun j hj u hu => by
    rw [Nat.add_assoc]; exact hcell _ _ ((hcs j hj).trans hu)
  obtain ⟨fk, ft, fn, fa, fl, fe⟩ := f
  have g0 := hce 0 (by decide) _ rfl
  have g1 := hce 1 (by decide) _ rfl
  have g2 := hce 2 (by decide) _ rfl
  have g3 := hce 3 (by decide) _ rfl
  have g4 := hce 4 (by decide) _ rfl
  have g5 := hce 5 (by decide) _ rfl
  have hD : (W.alloc (.cells #[.int .i64 (fk : Nat), .string ft, .int .i64 fn, .int .i64 (fa : Nat), .int .i64 (fl : Nat)] 39)).heap[W.heap.size]? = some (.cells #[.int .i64 (fk : Nat), .string ft, .int .i64 fn, .int .i64 (fa : Nat), .int .i64 (fl : Nat)] 39 (0, 0)) := World.alloc_heap_new W _
  have hKD : Keep [] W (W.alloc (.cells #[.int .i64 (fk : Nat), .string ft, .int .i64 fn, .int .i64 (fa : Nat), .int .i64 (fl : Nat)] 39)) := (Keep.refl _ _).alloc _
  have hgb : gb < W.heap.size := World.block_lt_of_cell? _ _ g0
  have hlt := hS.lt
  subst hv
  simp only [fnArgs, List.push_toArray, List.append_toArray, List.cons_append, List.nil_append]
  have HSC := Lib.hid (hS.keep hKD (fun _ _ => by simp))
  have HTW := Lib.hid (hT.keep hKD (by simp) (by simp))
  have HLT := Lib.hid hlt
  have HDL := Lib.hid hdis
  have HKW := Lib.hid hKD
  have HSO := Lib.hid hS
  have HTO := Lib.hid hT
  obtain ⟨D, hDD⟩ : ∃ D, D = W.heap.size := ⟨_, rfl⟩
  obtain ⟨w0, hw0⟩ : ∃ w0, w0 = W.alloc (.cells #[.int .i64 (fk : Nat), .string ft, .int .i64 fn, .int .i64 (fa : Nat), .int .i64 (fl : Nat)] 39) := ⟨_, rfl⟩
  rw [← hw0] at HSC HTW HKW hD hKD
  rw [← hDD] at hD
  have HDB := Lib.hid hD
  have c0 := hKD.cellv g0 (by simp)
  have c1 := hKD.cellv g1 (by simp)
  have c2 := hKD.cellv g2 (by simp)
  have c3 := hKD.cellv g3 (by simp)
  have c4 := hKD.cellv g4 (by simp)
  have c5 := hKD.cellv g5 (by simp)
  have d0 := cell_of_block hD 0
  have d1 := cell_of_block hD 1
  have d2 := cell_of_block hD 2
  have d3 := cell_of_block hD 3
  have d4 := cell_of_block hD 4
  have p0 := cell_of_block HTW.out.1 0
  have y0 := free_of_block HTW.out.1 0
  have p1 := cell_of_block HTW.out.2.1 0
  have p2 := cell_of_block HSC.out.2.1 0
  simp at d0 d1 d2 d3 d4 p0 p1 p2
  have f1 := dec_lt_t (show (k : Int) < (n : Int) by omega)
  have f2 := dec_ltn_t (show k < n by omega)
  have hkz : k ≤ 1000001 := by omega
  have hnz : n ≤ 1000001 := by omega
  have HKN := Lib.hid (show k < n from hk)
  clear g0 g1 g2 g3 g4 g5 hD hKD hS hT hlt hcs hce hcell hdis hgb hlen
  go_enter Tryd.func17, Tryd.ntmps17
  go_upto_region 1 with (fail)
  rw [← hw0, ← hDD]
  clear hw0 hDD
  refine (wpIn_wide (n := 0)).1 ?_
  refine wpIn_fix (.inl rfl) 25 [] (fun _ => w0.drew) (fun w' => w'.cell? ⟨bo, 0, none⟩ = some (.bool true) ∧ w'.cell? ⟨bn, 0, none⟩ = some (.int .i64 (k : Nat)) ∧ w'.cell? ⟨bw, 0, none⟩ = some (.slice (some ⟨gb, off, none⟩) n cap) ∧
      w'.cell? ⟨D, 0, none⟩ = some (.int .i64 (fk : Nat)) ∧ w'.cell? ⟨D, 1, none⟩ = some (.string ft) ∧ w'.cell? ⟨D, 2, none⟩ = some (.int .i64 fn) ∧ w'.cell? ⟨D, 3, none⟩ = some (.int .i64 (fa : Nat)) ∧ w'.cell? ⟨D, 4, none⟩ = some (.int .i64 (fl : Nat)) ∧
      w'.cell? ⟨gb, off + k * 6, none⟩ = some (.int .i64 (fk : Nat)) ∧ w'.cell? ⟨gb, off + k * 6 + 1, none⟩ = some (.string ft) ∧ w'.cell? ⟨gb, off + k * 6 + 2, none⟩ = some (.int .i64 fn) ∧ w'.cell? ⟨gb, off + k * 6 + 3, none⟩ = some (.int .i64 (fa : Nat)) ∧ w'.cell? ⟨gb, off + k * 6 + 4, none⟩ = some (.int .i64 (fl : Nat)) ∧ w'.cell? ⟨gb, off + k * 6 + 5, none⟩ = some (.int .i64 (fe : Nat)))
    [.bool true, .bool true, .int .i64 (k : Nat), .slice (some ⟨gb, off, none⟩) n cap, .int .i64 (n : Nat), .bool true, .bool true, .bool true,
     .agg #[.int .i64 (fk : Nat), .string ft, .int .i64 fn, .int .i64 (fa : Nat), .int .i64 (fl : Nat)], .slice (some ⟨gb, off, none⟩) n cap, .int .i64 (k : Nat), .pointer (some ⟨gb, off + k * 6, none⟩), .pointer (some ⟨gb, off + k * 6, none⟩),
     .agg #[.int .i64 (fk : Nat), .string ft, .int .i64 fn, .int .i64 (fa : Nat), .int .i64 (fl : Nat)], .bool true, .bool true, .bool true, .int .i64 (fe : Nat), .slice (some ⟨gb, off, none⟩) n cap, .int .i64 (k : Nat), .pointer (some ⟨gb, off + k * 6, none⟩),
     .pointer (some ⟨gb, off + k * 6 + 5, none⟩), .int .i64 (fe : Nat), .bool true, .bool true]
    (by kernel_rfl) (by kernel_rfl) rfl rfl rfl (fun _ _ => ⟨p0, p1, p2, d0, d1, d2, d3, d4, c0, c1, c2, c3, c4, c5⟩) ?rest1
  case rest1 =>
    intro A hA
    simp only [putVals, List.take, Act.put, List.setIfInBounds_toArray, List.set_cons_succ, List.set_cons_zero] at hA
    subst hA
    refine ⟨?_, fixWrites_nil, ?_⟩
    · iterate 25
        refine fixReads_on rfl ?_ ?_
        · intro w1 hw1 K Q hK
          obtain ⟨x0, x1, x2, x3, x4, x5, x6, x7, x8, x9, x10, x11, x12, x13⟩ := hw1
          go_simp
          exact hK
      exact fixReads_nil
    · simp only [List.drop]
      gi_upto_region 2 with (fail)
      have HT1 := Lib.hid (show Two bo bn k (w0.setCell ⟨bo, 0, none⟩ (.bool true)).drew from HTW.out.setOk)
      have HK1 := Lib.hid (show Keep [bo, bn] W (w0.setCell ⟨bo, 0, none⟩ (.bool true)).drew from (((HKW.out.mono (by simp)).setCell (p := ⟨bo, 0, none⟩) (.inl (by simp)) (.bool true)).drew))
      obtain ⟨w1, hw1⟩ : ∃ w1, w1 = (w0.setCell ⟨bo, 0, none⟩ (.bool true)).drew := ⟨_, rfl⟩
      rw [← hw1] at HT1 HK1 ⊢
      clear hw1 c0 c1 c2 c3 c4 c5 d0 d1 d2 d3 d4 p0 p1 p2 y0 HKW HTW HSC
      have p0 := cell_of_block HT1.out.1 0
      have y0 := free_of_block HT1.out.1 0
      have p1 := cell_of_block HT1.out.2.1 0
      have y1 := free_of_block HT1.out.2.1 0
      simp at p0 p1
      go_upto_region 3 with (fail)
      have HT2 := Lib.hid (HT1.out.setN (k + 1))
      have HK2 := Lib.hid (HK1.out.setCell (p := ⟨bn, 0, none⟩) (.inl (by simp)) (.int .i64 ((k + 1 : Nat) : Nat)))
      obtain ⟨w2, hw2⟩ : ∃ w2, w2 = w1.setCell ⟨bn, 0, none⟩ (.int .i64 ((k + 1 : Nat) : Nat)) := ⟨_, rfl⟩
      rw [← hw2] at HT2 HK2
      have hw3 : w2 = w1.setCell ⟨bn, 0, none⟩ (.int .i64 ((k : Int) + 1)) := hw2
      rw [← hw3]
      clear hw2 hw3 p0 p1 y0 y1 HT1 HK1
      have HS2 := Lib.hid (HSO.out.keep HK2.out HDL.out)
      have p0 := cell_of_block HT2.out.1 0
      have p1 := cell_of_block HT2.out.2.1 0
      simp at p0 p1
      by_cases hst : k + 1 = 2
      · obtain rfl : k = 1 := by omega
        clear hst f1 f2
        go_upto_region 5 with (fail)
        clear p0 p1
        obtain ⟨bk, hbk⟩ : ∃ bk, bk = w2.heap.size := ⟨_, rfl⟩
        obtain ⟨w3, hw3⟩ : ∃ w3, w3 = w2.alloc (.cells #[.int .i64 0] 3) := ⟨_, rfl⟩
        have hk3 : Keep [] w2 w3 := by rw [hw3]; exact (Keep.refl _ _).alloc _
        have hbk3 : w3.heap[bk]? = some (.cells #[.int .i64 0] 3 (0, 0)) := by rw [hw3, hbk]; exact World.alloc_heap_new w2 _
        rw [← hw3, ← hbk]
        have HS3 := Lib.hid (HS2.out.keep hk3 (fun _ _ => by simp))
        have HT3 := Lib.hid (HT2.out.keep hk3 (by simp) (by simp))
        have HK3 := Lib.hid (HK2.out.trans0 hk3)
        have hbol : bo < w2.heap.size := lt_of_block HT2.out.1
        have hbnl : bn < w2.heap.size := lt_of_block HT2.out.2.1
        have hwl : W.heap.size ≤ w2.heap.size := HK2.out.size
        have HTK := Lib.hid (show Two bo bk 0 w3 from ⟨HT3.out.1, hbk3, by omega⟩)
        have HBK := Lib.hid (show bo < bk ∧ bn < bk ∧ W.heap.size ≤ bk ∧ bk < w3.heap.size from ⟨by omega, by omega, by omega, lt_of_block hbk3⟩)
        have HDK := Lib.hid (show ∀ x ∈ scL bs bw bi tb (.slice (some ⟨gb, off, none⟩) n cap), x ∉ [bo, bk] from fun x hx => by
          have h1 := HDL.out x hx
          have h2 := HS2.out.lt x hx
          simp at h1 ⊢
          omega)
        have pi := cell_of_block HS3.out.2.2.1 0
        simp at pi
        clear hw3 hk3 hbk3 hbk hbol hbnl hwl HT2 HK2 HS2
        have hcall := scan1_iters tb s hz (.func (.func 18) #[] #[.pointer (some ⟨bo, 0, none⟩), .pointer (some ⟨bk, 0, none⟩), .pointer (some ⟨bw, 0, none⟩), .pointer (some ⟨bs, 0, none⟩)]) (WInv bo bk w3) (WStop bo bk stop w3) [bo, bk] w3 ⟨HS3.out.2.2.2.1, HS3.out.2.2.2.2.1⟩ (fun b hb => by cases hb)
          (fun b hb => by
            have hm : b ∈ scL bs bw bi tb (.slice (some ⟨gb, off, none⟩) n cap) := by
              simp only [scL, List.mem_cons, List.mem_append]
              rcases List.mem_cons.1 hb with h | h
              · exact .inr (.inr (.inr (.inl h)))
              · exact .inr (.inr (.inr (.inr (.inl h))))
            exact ⟨HS3.out.lt b hm, HDK.out b hm⟩)
          (WInv.steady (by have := HBK.out; omega)) (WStop.steady (by have := HBK.out; omega)) (fun k hk fp W1 hj => s11_round hz HS3.out HDK.out k hk fp W1 hj) (fun b hb => by have := HBK.out; simp at hb; omega)
          ⟨rfl, Keep.refl _ _, HTK.out⟩
        have HCALL := Lib.hid hcall
        clear hcall
        go_wp2_with fail
        refine HCALL.out.mono ?_
        clear HCALL pi
        rintro e w4 ⟨rfl, hpost⟩
        have hpost2 : ∃ j : Nat, Keep [bo, bk] w3 w4 ∧ Two bo bk j w4 ∧ j ≤ 1000001 ∧ (j = n ∨ (j : Int) = stop) := by
          rcases hpost with ⟨fp', _, h1, h2⟩ | ⟨j, fp', hj, _, h1, h2, h3⟩
          · rw [List.length_map, ← HN.out] at h2
            exact ⟨n, h1, h2, hnz, .inl rfl⟩
          · rw [List.length_map, ← HN.out] at hj
            exact ⟨j + 1, h1, h2, by omega, .inr h3⟩
        obtain ⟨j, hk4, hT4, hjz, hj⟩ := hpost2
        have HT4 := Lib.hid hT4
        have HS4 := Lib.hid (HS3.out.keep hk4 HDK.out)
        have HN4 := Lib.hid (hk4.at_ HT3.out.2.1 (by have h1 := HT3.out.2.2; have h2 := HBK.out; simp; omega))
        have HK4 := Lib.hid (HK3.out.trans hk4 (fun x hx => by
          have h2 := HBK.out
          simp at hx
          rcases hx with rfl | rfl
          · exact .inl (by simp)
          · exact .inr (by omega)))
        have HT5 := Lib.hid (show Two bo bn 2 w4 from ⟨HT4.out.1, HN4.out, HT3.out.2.2⟩)
        have p0 := cell_of_block HT4.out.1 0
        have y0 := free_of_block HT4.out.1 0
        have pk := cell_of_block HT4.out.2.1 0
        have pw := cell_of_block HS4.out.2.1 0
        have ps := cell_of_block HS4.out.1 0
        simp at p0 pk pw ps
        clear hT4 hk4 hpost HT3 HS3 HK3 HN4 HT4
        have hfin : ∀ W', W' = w4.setCell ⟨bo, 0, none⟩ (.bool true) → Keep [bo, bn] W W' ∧ Two bo bn 2 W' := fun W' e => e ▸ ⟨HK4.out.setCell (.inl (by simp)) _, HT5.out.setOk⟩
        have HFIN := Lib.hid hfin
        clear hfin
        rcases hj with rfl | hj
        · go_wp2
          go_ret
          exact ⟨rfl, HFIN.out _ rfl⟩
        · subst hj
          by_cases hjn : j = n
          · subst hjn
            go_wp2
            go_ret
            exact ⟨rfl, HFIN.out _ rfl⟩
          · have g8 : ((j : Int) == (n : Int)) = false := by simp; omega
            have g9 : (j == n) = false := by simp; omega
            clear hjn
            go_wp2
            go_ret
            exact ⟨rfl, HFIN.out _ rfl⟩
      · have g7 : (((k : Int) + 1) == 2) = false := by simp; omega
        clear hst
        go_wp2
        go_ret
        exact ⟨rfl, HK2.out, HT2.out⟩

theorem enters_s1 (args : Array Value) (w : World) : (callFunc 17 args).run Tryd.prog w = .ok (.enter 17 args) w := enters_of Tryd.func17 (by kernel_rfl) rfl args w
theorem s1_round {bs bw bi tb bo bn : Nat} {v : Value} {stop : Int} {s : ByteArray} {W0 : World} (hz : s.size ≤ 1000000) (hS : SC bs bw bi tb v stop s W0) (hdis : ∀ x ∈ scL bs bw bi tb v, x ∉ [bo, bn])
    (k : Nat) (hk : k < ((scn s 0 1 false).map fnArgs).length) (fp : List Nat) (W1 : World) (h : WInv bo bn W0 k fp W1) :
    CallV Tryd.prog (.func (.func 17) #[] #[.pointer (some ⟨bo, 0, none⟩), .pointer (some ⟨bn, 0, none⟩), .pointer (some ⟨bw, 0, none⟩), .pointer (some ⟨bi, 0, none⟩), .pointer (some ⟨bs, 0, none⟩)]) ((scn s 0 1 false).map fnArgs)[k] W1
      (RoundPost (WInv bo bn W0) (fun _ _ _ => False) k fp W1) := by
  rw [List.length_map] at hk
  obtain ⟨rfl, hkp, hT⟩ := h
  rw [List.getElem_map]
  refine .inr ⟨_, _, rfl, enters_s1, (scans1_any bs bw bi tb bo bn v stop s k W1 hz hk (hS.keep hkp hdis) hT hdis).mono ?_⟩
  rintro e W2 ⟨rfl, hk2, hT2⟩
  exact .inl ⟨rfl, [bo, bn], ⟨rfl, hkp.trans hk2 (fun x hx => .inl hx), hT2⟩, hk2, FromNew.refl _ _⟩
/-- One variable, counted on. -/
def NInv (bn : Nat) (W0 : World) (k : Nat) (fp : List Nat) (W : World) : Prop := fp = [bn] ∧ Keep [bn] W0 W ∧ W.heap[bn]? = some (.cells #[.int .i64 (k : Nat)] 3 (0, 0))
def NStop (bn : Nat) (stop : Int) (W0 : World) (k : Nat) (fp : List Nat) (W : World) : Prop := fp = [bn] ∧ Keep [bn] W0 W ∧ W.heap[bn]? = some (.cells #[.int .i64 ((k + 1 : Nat) : Nat)] 3 (0, 0)) ∧ ((k + 1 : Nat) : Int) = stop
theorem NInv.steady {bn : Nat} {W0 : World} (h : bn < W0.heap.size) (k : Nat) : Steady [] W0 (NInv bn W0 k) :=
  steady_of (I := fun W => W.heap[bn]? = some (.cells #[.int .i64 (k : Nat)] 3 (0, 0))) (fun x hx => by simp at hx; omega) (fun W W' S hi hk hn => hk.at_ hi (hn _ (by simp)))
theorem NStop.steady {bn : Nat} {stop : Int} {W0 : World} (h : bn < W0.heap.size) (k : Nat) : Steady [] W0 (NStop bn stop W0 k) :=
  steady_of (I := fun W => W.heap[bn]? = some (.cells #[.int .i64 ((k + 1 : Nat) : Nat)] 3 (0, 0)) ∧ ((k + 1 : Nat) : Int) = stop) (fun x hx => by simp at hx; omega) (fun W W' S hi hk hn => ⟨hk.at_ hi.1 (hn _ (by simp)), hi.2⟩)
theorem enters_s2 (args : Array Value) (w : World) : (callFunc 19 args).run Tryd.prog w = .ok (.enter 19 args) w := enters_of Tryd.func19 (by kernel_rfl) rfl args w

set_option maxHeartbeats 4000000 in
theorem scans2_any (bs bn : Nat) (stop : Int) (f : Fn) (k : Nat) (W : World) (hkz : k ≤ 1000001) (hS : W.heap[bs]? = some (.cells #[.int .i64 stop] 3 (0, 0))) (hN : W.heap[bn]? = some (.cells #[.int .i64 (k : Nat)] 3 (0, 0))) (hne : bs ≠ bn) :
    Calls Tryd.prog 19 (fnArgs f ++ #[.pointer (some ⟨bn, 0, none⟩), .pointer (some ⟨bs, 0, none⟩)]) W fun e W' =>
      ∃ b : Bool, e = .returned (.bool b) ∧ ((b = true ∧ ((k + 1 : Nat) : Int) ≠ stop) ∨ (b = false ∧ ((k + 1 : Nat) : Int) = stop)) ∧ Keep [bn] W W' ∧ W'.heap[bn]? = some (.cells #[.int .i64 ((k + 1 : Nat) : Nat)] 3 (0, 0)) := by
  obtain ⟨fk, ft, fn, fa, fl, fe⟩ := f
  simp only [fnArgs, List.push_toArray, List.append_toArray, List.cons_append, List.nil_append]
  have hK := (Keep.refl [] W).alloc (.cells #[.int .i64 (fk : Nat), .string ft, .int .i64 fn, .int .i64 (fa : Nat), .int .i64 (fl : Nat)] 39)
  obtain ⟨w0, hw0⟩ : ∃ w0, w0 = W.alloc (.cells #[.int .i64 (fk : Nat), .string ft, .int .i64 fn, .int .i64 (fa : Nat), .int .i64 (fl : Nat)] 39) := ⟨_, rfl⟩
  rw [← hw0] at hK
  have HS := Lib.hid (hK.at_ hS (by simp))
  have HN := Lib.hid (hK.at_ hN (by simp))
  have HK := Lib.hid hK
  clear hS hN hK
  have p0 := cell_of_block HN.out 0
  have y0 := free_of_block HN.out 0
  simp at p0
  go_enter Tryd.func19, Tryd.ntmps19
  go_upto_region 1 with (fail)
  rw [← hw0]
  clear hw0
  go_upto_region 2 with (fail)
  have HN2 := Lib.hid (show (w0.setCell ⟨bn, 0, none⟩ (.int .i64 ((k + 1 : Nat) : Nat))).heap[bn]? = some (.cells #[.int .i64 ((k + 1 : Nat) : Nat)] 3 (0, 0)) by have := block_setCell HN.out 0 (.int .i64 ((k + 1 : Nat) : Nat)); exact this)
  have HS2 := Lib.hid (((Keep.refl [bn] w0).setCell (p := ⟨bn, 0, none⟩) (.inl (by simp)) (.int .i64 ((k + 1 : Nat) : Nat))).at_ HS.out (by simp; exact hne))
  have HK2 := Lib.hid ((HK.out.mono (L' := [bn]) (by simp)).setCell (p := ⟨bn, 0, none⟩) (.inl (by simp)) (.int .i64 ((k + 1 : Nat) : Nat)))
  obtain ⟨w2, hw2⟩ : ∃ w2, w2 = w0.setCell ⟨bn, 0, none⟩ (.int .i64 ((k + 1 : Nat) : Nat)) := ⟨_, rfl⟩
  rw [← hw2] at HN2 HS2 HK2
  have hw3 : w2 = w0.setCell ⟨bn, 0, none⟩ (.int .i64 ((k : Int) + 1)) := hw2
  rw [← hw3]
  clear hw2 hw3 p0 y0
  have p0 := cell_of_block HN2.out 0
  have p1 := cell_of_block HS2.out 0
  simp at p0 p1
  by_cases hst : ((k + 1 : Nat) : Int) = stop
  · subst hst
    go_wp2
    go_ret
    first | exact ⟨by simp, HK2.out, HN2.out⟩ | exact ⟨_, rfl, .inr ⟨rfl, rfl⟩, HK2.out, HN2.out⟩
  · have g7 : (((k : Int) + 1) != stop) = true := by simp; omega
    have g8 : (((k : Int) + 1) == stop) = false := by simp; omega
    have HST := Lib.hid hst
    clear hst
    go_wp2
    go_ret
    exact ⟨_, rfl, .inl ⟨rfl, HST.out⟩, HK2.out, HN2.out⟩
theorem s2_round {bs bn : Nat} {stop : Int} {s : ByteArray} {W0 : World} (hz : s.size ≤ 1000000) (hS : W0.heap[bs]? = some (.cells #[.int .i64 stop] 3 (0, 0))) (hne : bs ≠ bn)
    (k : Nat) (hk : k < ((scn s 0 1 false).map fnArgs).length) (fp : List Nat) (W1 : World) (h : NInv bn W0 k fp W1) :
    CallV Tryd.prog (.func (.func 19) #[] #[.pointer (some ⟨bn, 0, none⟩), .pointer (some ⟨bs, 0, none⟩)]) ((scn s 0 1 false).map fnArgs)[k] W1
      (RoundPost (NInv bn W0) (NStop bn stop W0) k fp W1) := by
  rw [List.length_map] at hk
  have hl := scn_len s s.size 0 1 false (by omega) (by omega)
  obtain ⟨rfl, hkp, hT⟩ := h
  rw [List.getElem_map]
  refine .inr ⟨_, _, rfl, enters_s2, (scans2_any bs bn stop _ k W1 (by omega) (hkp.at_ hS (by simp; exact hne)) hT hne).mono ?_⟩
  rintro e W2 ⟨b, rfl, ⟨rfl, hst⟩ | ⟨rfl, hst⟩, hk2, hT2⟩
  · exact .inl ⟨rfl, [bn], ⟨rfl, hkp.trans hk2 (fun x hx => .inl hx), hT2⟩, hk2, FromNew.refl _ _⟩
  · exact .inr ⟨rfl, [bn], ⟨rfl, hkp.trans hk2 (fun x hx => .inl hx), hT2, hst⟩, hk2, FromNew.refl _ _⟩
end Go.Proofs.YtbmapellhcdipaaDoor
namespace Go.Proofs.YtbmapellhcdipaaDoor
open Go.RowKit
set_option linter.unusedVariables false
set_option linter.unusedSimpArgs false


set_option maxHeartbeats 8000000 in
set_option maxRecDepth 100000 in
theorem quoteScans_walk (s : ByteArray) (stop : Int) (w : World) (hT : TQ w) : Calls Tryd.prog 6 #[.string s, .int .i64 stop] w fun e w' => e = .returned (.bool true) ∧ Keep [] w w' := by
  by_cases hz : s.size ≤ 20000
  · have f1 := dec_lt_f (show ¬ (20000 : Int) < (s.size : Int) by omega)
    have f2 := dec_ltn_f (show ¬ 20000 < s.size by omega)
    have HT := Lib.hid hT; clear hT
    have HZ := Lib.hid (show s.size ≤ 1000000 by omega)
    obtain ⟨bs, hbs⟩ : ∃ bs, bs = w.heap.size := ⟨_, rfl⟩
    obtain ⟨w1, hw1⟩ : ∃ w1, w1 = w.alloc (.cells #[.int .i64 stop] 3) := ⟨_, rfl⟩
    have hk1 : Keep [] w w1 := by rw [hw1]; exact (Keep.refl _ _).alloc _
    have hb1 : w1.heap[bs]? = some (.cells #[.int .i64 stop] 3 (0, 0)) := by rw [hw1, hbs]; exact World.alloc_heap_new w _
    have HK1 := Lib.hid hk1
    have HB1 := Lib.hid hb1
    clear hk1 hb1
    go_enter Tryd.func6, Tryd.ntmps6
    go_upto_region 1 with (fail)
    rw [← hw1, ← hbs]
    clear hw1 hbs
    go_wp2_with fail
    refine (rscan_any s w1 HZ.out).mono ?_
    rintro e w2 ⟨v, rfl, ho, hk2, hnil⟩
    have hsl := SlAt.of_owns ho
    have hvb : ∀ g, v.ownBlock = some g → g < w2.heap.size := fun g hg => by
      rcases ho.2 with ⟨rfl, _⟩ | ⟨g', cap, cur, rfl, _, hg', _⟩
      · simp [Value.ownBlock] at hg
      · simp [Value.ownBlock] at hg
        subst hg
        exact lt_of_block hg'
    obtain ⟨ad, cap, hv⟩ := hsl.empty
    obtain ⟨n, hn⟩ : ∃ n, n = (scn s 0 1 false).length := ⟨_, rfl⟩
    rw [← hn] at hv
    have hlen := scn_len s s.size 0 1 false (by omega) (by omega)
    rw [← hn] at hlen
    have hnz : n ≤ 1000001 := by omega
    have HN := Lib.hid hn
    subst hv
    have HSL := Lib.hid hsl
    clear hlen hn
    have HVB := Lib.hid hvb
    have HK2 := Lib.hid hk2
    clear ho hsl hvb hk2 hnil
    obtain ⟨bw, hbw⟩ : ∃ bw, bw = w2.heap.size := ⟨_, rfl⟩
    obtain ⟨w3, hw3⟩ : ∃ w3, w3 = w2.alloc (.cells #[.slice ad n cap] 33) := ⟨_, rfl⟩
    have hk3 : Keep [] w2 w3 := by rw [hw3]; exact (Keep.refl _ _).alloc _
    have hb3 : w3.heap[bw]? = some (.cells #[.slice ad n cap] 33 (0, 0)) := by rw [hw3, hbw]; exact World.alloc_heap_new w2 _
    have HK3 := Lib.hid hk3
    have HB3 := Lib.hid hb3
    clear hk3 hb3
    go_upto_region 4 with (fail)
    rw [← hw3, ← hbw]
    clear hw3 hbw
    go_wp2_with fail
    refine (scan_any s w3).mono ?_
    rintro e w4 ⟨rfl, hw4⟩
    obtain ⟨tb, htb⟩ : ∃ tb, tb = w3.heap.size := ⟨_, rfl⟩
    have hk4 : Keep [] w3 w4 := by rw [hw4]; exact (Keep.refl _ _).alloc _
    have hb4 : BoxNeed tb s w4 := by rw [hw4, htb]; exact World.alloc_heap_new w3 _
    rw [← htb]
    have hs4 : tb < w4.heap.size := lt_of_block hb4
    clear hw4 htb
    obtain ⟨bi, hbi⟩ : ∃ bi, bi = w4.heap.size := ⟨_, rfl⟩
    obtain ⟨w5, hw5⟩ : ∃ w5, w5 = w4.alloc (.cells #[.func (.func 44) #[] #[.pointer (some ⟨tb, 0, none⟩)]] 36) := ⟨_, rfl⟩
    have hk5 : Keep [] w4 w5 := by rw [hw5]; exact (Keep.refl _ _).alloc _
    have hb5 : w5.heap[bi]? = some (.cells #[.func (.func 44) #[] #[.pointer (some ⟨tb, 0, none⟩)]] 36 (0, 0)) := by rw [hw5, hbi]; exact World.alloc_heap_new w4 _
    have HK5 := Lib.hid (show Keep [] w w5 from (((HK1.out.trans0 HK2.out).trans0 HK3.out).trans0 hk4).trans0 hk5)
    have HSC := Lib.hid (show SC bs bw bi tb (.slice ad n cap) stop s w5 from
      ⟨hk5.at_ (hk4.at_ (HK3.out.at_ (HK2.out.at_ HB1.out (by simp)) (by simp)) (by simp)) (by simp), hk5.at_ (hk4.at_ HB3.out (by simp)) (by simp), hb5, hk5.at_ hb4 (by simp), HT.out.keep0 HK5.out, ((HSL.out.keep0 HK3.out).keep0 hk4).keep0 hk5, fun g hg => by have := HVB.out g hg; have := HK3.out.size; have := hk4.size; have := hk5.size; omega⟩)
    have nf1 : ∀ w, (binOp .eql 36 (.func (.func 44) #[] #[.pointer (some ⟨tb, 0, none⟩)]) Value.nilFunc).run Tryd.prog w = .ok (.bool false) w := fun _ => by kernel_rfl
    have pi := cell_of_block hb5 0
    simp at pi
    clear hk4 hb4 hs4 hk5 hb5 HK1 HK2 HK3 HB1 HB3 HSL HVB
    go_upto_region 5 with (fail)
    rw [← hw5, ← hbi]
    clear hw5 hbi
    go_wp2
    clear pi
    go_loopw [7, 8, 9] (fun tv _ _ wr => ∃ t : Nat, tv = .int .i64 t ∧ t ≤ 2 ∧ Keep [] w wr ∧ SC bs bw bi tb (.slice ad n cap) stop s wr) (fun tv _ _ _ => 2 - (intOf tv).toNat)
    case atStart => exact ⟨0, rfl, by omega, HK5.out, HSC.out⟩
    case round =>
      obtain ⟨t, rfl, ht, hkr, hsc⟩ := hrel
      by_cases ht2 : t < 2
      · have g1 := dec_lt_t (show (t : Int) < 2 by omega)
        have g2 := dec_ltn_t ht2
        clear HK5 HSC
        have HKR := Lib.hid hkr
        have HSR := Lib.hid hsc
        clear hkr hsc
        go_upto_region 12 with (fail)
        obtain ⟨bn, hbn⟩ : ∃ bn, bn = wr.heap.size := ⟨_, rfl⟩
        obtain ⟨w6, hw6⟩ : ∃ w6, w6 = (wr.alloc (.cells #[.int .i64 0] 3)).alloc (.cells #[.bool true] 4) := ⟨_, rfl⟩
        have hk6 : Keep [] wr w6 := by rw [hw6]; exact ((Keep.refl _ _).alloc _).alloc _
        have hn6 : w6.heap[bn]? = some (.cells #[.int .i64 0] 3 (0, 0)) := by rw [hw6, hbn]; exact ((Keep.refl [] (wr.alloc (.cells #[.int .i64 0] 3))).alloc _).at_ (World.alloc_heap_new wr _) (by simp)
        have ho6 : w6.heap[bn + 1]? = some (.cells #[.bool true] 4 (0, 0)) := by
          rw [hw6, hbn]
          have := World.alloc_heap_new (wr.alloc (.cells #[.int .i64 0] 3)) (.cells #[.bool true] 4)
          rwa [World.size_alloc] at this
        rw [← hw6, ← hbn]
        have hlt6 : ∀ x ∈ scL bs bw bi tb (.slice ad n cap), x < bn := fun x hx => hbn ▸ HSR.out.lt x hx
        have HBN := Lib.hid (show w.heap.size ≤ bn ∧ bn + 1 < w6.heap.size from ⟨hbn ▸ HKR.out.size, lt_of_block ho6⟩)
        have HS6 := Lib.hid (HSR.out.keep hk6 (fun _ _ => by simp))
        have HT6 := Lib.hid (show Two (bn + 1) bn 0 w6 from ⟨ho6, hn6, by omega⟩)
        have HK6 := Lib.hid (HKR.out.trans0 hk6)
        have HDIS := Lib.hid (show ∀ x ∈ scL bs bw bi tb (.slice ad n cap), x ∉ [bn + 1, bn] from fun x hx => by have := hlt6 x hx; simp; omega)
        clear hbn hw6 hk6 hn6 ho6 hlt6 HKR HSR
        have pi := cell_of_block HS6.out.2.2.1 0
        simp at pi
        have hcall := scan1_iters tb s HZ.out (.func (.func 17) #[] #[.pointer (some ⟨bn + 1, 0, none⟩), .pointer (some ⟨bn, 0, none⟩), .pointer (some ⟨bw, 0, none⟩), .pointer (some ⟨bi, 0, none⟩), .pointer (some ⟨bs, 0, none⟩)]) (WInv (bn + 1) bn w6) (fun _ _ _ => False) [bn + 1, bn] w6 ⟨HS6.out.2.2.2.1, HS6.out.2.2.2.2.1⟩ (fun b hb => by cases hb)
          (fun b hb => by
            have hm : b ∈ scL bs bw bi tb (.slice ad n cap) := by
              simp only [scL, List.mem_cons, List.mem_append]
              rcases List.mem_cons.1 hb with h | h
              · exact .inr (.inr (.inr (.inl h)))
              · exact .inr (.inr (.inr (.inr (.inl h))))
            exact ⟨HS6.out.lt b hm, HDIS.out b hm⟩)
          (WInv.steady (by have := HBN.out; omega)) (fun _ _ _ _ _ h => h.elim) (fun k hk fp W1 hj => s1_round HZ.out HS6.out HDIS.out k hk fp W1 hj) (fun b hb => by have := HBN.out; simp at hb; omega)
          ⟨rfl, Keep.refl _ _, HT6.out⟩
        have HCALL := Lib.hid hcall
        clear hcall
        go_wp2_with fail
        refine HCALL.out.mono ?_
        clear HCALL pi
        rintro e w7 ⟨rfl, ⟨fp', _, hk7, hT7⟩ | ⟨_, _, _, h⟩⟩
        · rw [List.length_map, ← HN.out] at hT7
          have HS7 := Lib.hid (HS6.out.keep hk7 HDIS.out)
          have HK7 := Lib.hid (HK6.out.trans hk7 (fun x hx => .inr (by have := HBN.out; simp at hx; omega)))
          have p0 := cell_of_block hT7.1 0
          have p1 := cell_of_block hT7.2.1 0
          have pw := cell_of_block HS7.out.2.1 0
          simp at p0 p1 pw
          clear hT7 hk7
          go_wp2
          go_roundw
          case rel => exact ⟨t + 1, by go_num, by omega, HK7.out, HS7.out⟩
          case measure => simp [intOf]; omega
        · exact h.elim
      · have g1 := dec_lt_f (show ¬ (t : Int) < 2 by omega)
        have g2 := dec_ltn_f ht2
        clear HK5 HSC
        have HKR := Lib.hid hkr
        have HSR := Lib.hid hsc
        clear hkr hsc
        go_upto_region 16 with (fail)
        obtain ⟨bn, hbn⟩ : ∃ bn, bn = wr.heap.size := ⟨_, rfl⟩
        obtain ⟨w6, hw6⟩ : ∃ w6, w6 = wr.alloc (.cells #[.int .i64 0] 3) := ⟨_, rfl⟩
        have hk6 : Keep [] wr w6 := by rw [hw6]; exact (Keep.refl _ _).alloc _
        have hn6 : w6.heap[bn]? = some (.cells #[.int .i64 0] 3 (0, 0)) := by rw [hw6, hbn]; exact World.alloc_heap_new wr _
        rw [← hw6, ← hbn]
        have hlt6 : ∀ x ∈ scL bs bw bi tb (.slice ad n cap), x < bn := fun x hx => hbn ▸ HSR.out.lt x hx
        have HBN := Lib.hid (show w.heap.size ≤ bn ∧ bn < w6.heap.size from ⟨hbn ▸ HKR.out.size, lt_of_block hn6⟩)
        have HS6 := Lib.hid (HSR.out.keep hk6 (fun _ _ => by simp))
        have HN6 := Lib.hid hn6
        have HK6 := Lib.hid (HKR.out.trans0 hk6)
        have HDIS := Lib.hid (show ∀ x ∈ scL bs bw bi tb (.slice ad n cap), x ∉ [bn] from fun x hx => by have := hlt6 x hx; simp; omega)
        have HNE := Lib.hid (show bs ≠ bn from by have := hlt6 bs (by simp [scL]); omega)
        clear hbn hw6 hk6 hn6 hlt6 HKR HSR g1 g2 ht2
        have pi := cell_of_block HS6.out.2.2.1 0
        simp at pi
        have hcall := scan1_iters tb s HZ.out (.func (.func 19) #[] #[.pointer (some ⟨bn, 0, none⟩), .pointer (some ⟨bs, 0, none⟩)]) (NInv bn w6) (NStop bn stop w6) [bn] w6 ⟨HS6.out.2.2.2.1, HS6.out.2.2.2.2.1⟩ (fun b hb => by cases hb)
          (fun b hb => by
            have hm : b ∈ scL bs bw bi tb (.slice ad n cap) := by
              simp only [scL, List.mem_cons, List.mem_append]
              rcases List.mem_cons.1 hb with h | h
              · exact .inr (.inr (.inr (.inl h)))
              · exact .inr (.inr (.inr (.inr (.inl h))))
            exact ⟨HS6.out.lt b hm, HDIS.out b hm⟩)
          (NInv.steady (by have := HBN.out; omega)) (NStop.steady (by have := HBN.out; omega)) (fun k hk fp W1 hj => s2_round HZ.out HS6.out.1 HNE.out k hk fp W1 hj) (fun b hb => by have := HBN.out; simp at hb; omega)
          ⟨rfl, Keep.refl _ _, HN6.out⟩
        have HCALL := Lib.hid hcall
        clear hcall
        go_wp2_with fail
        refine HCALL.out.mono ?_
        clear HCALL pi
        rintro e w7 ⟨rfl, hpost⟩
        have hpost2 : ∃ j : Nat, Keep [bn] w6 w7 ∧ w7.heap[bn]? = some (.cells #[.int .i64 (j : Nat)] 3 (0, 0)) ∧ j ≤ 1000001 ∧ (j = n ∨ (j : Int) = stop) := by
          rcases hpost with ⟨fp', _, h1, h2⟩ | ⟨j, fp', hj, _, h1, h2, h3⟩
          · rw [List.length_map, ← HN.out] at h2
            exact ⟨n, h1, h2, hnz, .inl rfl⟩
          · rw [List.length_map, ← HN.out] at hj
            exact ⟨j + 1, h1, h2, by omega, .inr h3⟩
        obtain ⟨j, hk7, hj7, hjz, hj⟩ := hpost2
        have HS7 := Lib.hid (HS6.out.keep hk7 HDIS.out)
        have HK7 := Lib.hid (HK6.out.trans hk7 (fun x hx => .inr (by have := HBN.out; simp at hx; omega)))
        have p1 := cell_of_block hj7 0
        have pw := cell_of_block HS7.out.2.1 0
        have ps := cell_of_block HS7.out.1 0
        simp at p1 pw ps
        clear hpost hk7 hj7
        rcases hj with rfl | hj
        · go_wp2_with fail
          refine (known_true _ HS7.out.2.2.2.2.1.1).mono ?_
          rintro e w8 ⟨rfl, hk8⟩
          have HK8 := Lib.hid (HK7.out.trans0 hk8)
          clear hk8
          go_wp2
          go_ret
          exact ⟨rfl, HK8.out⟩
        · subst hj
          by_cases hjn : j = n
          · subst hjn
            go_wp2_with fail
            refine (known_true _ HS7.out.2.2.2.2.1.1).mono ?_
            rintro e w8 ⟨rfl, hk8⟩
            have HK8 := Lib.hid (HK7.out.trans0 hk8)
            clear hk8
            go_wp2
            go_ret
            exact ⟨rfl, HK8.out⟩
          · have g8 : ((j : Int) == (n : Int)) = false := by simp; omega
            have g9 : (j == n) = false := by simp; omega
            clear hjn
            go_wp2_with fail
            refine (known_true _ HS7.out.2.2.2.2.1.1).mono ?_
            rintro e w8 ⟨rfl, hk8⟩
            have HK8 := Lib.hid (HK7.out.trans0 hk8)
            clear hk8
            go_wp2
            go_ret
            exact ⟨rfl, HK8.out⟩
  · have f1 := dec_lt_t (show (20000 : Int) < (s.size : Int) by omega)
    have f2 := dec_ltn_t (show 20000 < s.size by omega)
    have HT := Lib.hid hT; clear hT
    go_enter Tryd.func6, Tryd.ntmps6
    go_wp2_with fail
    refine (known_true _ (HT.out.1.keep0 ((Keep.refl _ _).alloc _))).mono ?_
    rintro e W1 ⟨rfl, hk1⟩
    go_wp2
    go_ret
    exact ⟨rfl, ((Keep.refl _ _).alloc _).trans0 hk1⟩
end Go.Proofs.YtbmapellhcdipaaDoor
namespace Go.Proofs.YtbmapellhcdipaaDoor
open Go.ChangeShapes Go.WideShapes Go.ChangeAt Go.RowKit
set_option linter.unusedVariables false

theorem own : ownKnob Tryd.prog.godebug = none := by kernel_rfl
theorem gTab : Tryd.prog.globalNamed "math/bits.deBruijn64tab" = some 4 := by kernel_rfl
theorem gTabType : (Tryd.prog.globals[4]?).map (·.type) = some 137 := by kernel_rfl
theorem gPType : (Tryd.prog.globals[0]?).map (·.type) = some 120 := by kernel_rfl
theorem gSType : (Tryd.prog.globals[1]?).map (·.type) = some 60 := by kernel_rfl
theorem gRType : (Tryd.prog.globals[2]?).map (·.type) = some 60 := by kernel_rfl
theorem cellsTab : Tryd.prog.cellsOf 137 = 64 := by kernel_rfl
theorem cellsU8 : Tryd.prog.cellsOf 5 = 1 := by kernel_rfl
theorem cellsP : Tryd.prog.cellsOf 120 = 20 := by kernel_rfl
theorem cellsU64 : Tryd.prog.cellsOf 102 = 1 := by kernel_rfl
theorem cellsES : Tryd.prog.cellsOf 135 = 1 := by kernel_rfl
theorem cellsStr : Tryd.prog.cellsOf 9 = 1 := by kernel_rfl
theorem laidOut : laidOutB Tryd.prog = true := by kernel_rfl
theorem esStar : "*" ++ "errors.errorString" = "*errors.errorString" := by decide
theorem esRow (u : TypeId) (h : Tryd.prog.typeName? 3 u = some "*errors.errorString") : u = 133 :=
  typeName_ptr_named (nm := "errors.errorString") (by rw [esStar]; kernel_rfl) (by kernel_rfl) (by decide) u (by rw [esStar]; exact h)

/-- What each row lists. -/
def laid1 : List (String × DataW Unit) := [("math/bits.deBruijn32tab", Rows.laid_math_bits_deBruijn32tab), ("math/bits.deBruijn64tab", Rows.laid_math_bits_deBruijn64tab), ("internal/strconv.uint64pow10", Rows.laid_internal_strconv_uint64pow10), ("strconv.ErrRange", Rows.laid_strconv_ErrRange), ("strconv.ErrSyntax", Rows.laid_strconv_ErrSyntax)]

theorem tab_head {P : Program} {W : World} {name : String} {k : IntKind} {zs : List Int} {rest : List (String × DataW Unit)} {g : Nat} {t e : TypeId} {n : Nat}
    (hg : P.globalNamed name = some g) (hty : (P.globals[g]?).map (·.type) = some t) (ht : P.underlying t = some (.array n e)) (he : P.underlying e = some (.int k)) (hce : P.cellsOf e = 1) (hct : P.cellsOf t = n)
    (h : laidMet P ((name, Lib.tabData k zs) :: rest) W) : Lib.TabIs P W name k zs := by
  obtain ⟨ps, ⟨g', t', cs, fuel, p, q, hg', ht', hvar, hd, _, _⟩, _⟩ := h
  obtain rfl := Option.some.inj (hg.symm.trans hg')
  obtain rfl := Option.some.inj (hty.symm.trans ht')
  unfold Lib.TabIs
  rw [hvar, ← Lib.cells_of_tab ht he hce hct hd]

/-- WHAT THE ROW's LIST GIVES. -/
theorem table {W : World} (h : laidMetH Tryd.prog laid1 W) : TQ W := by
  have h0 : laidMet Tryd.prog (("math/bits.deBruijn32tab", Rows.laid_math_bits_deBruijn32tab) :: ("math/bits.deBruijn64tab", Rows.laid_math_bits_deBruijn64tab) :: ("internal/strconv.uint64pow10", Rows.laid_internal_strconv_uint64pow10) :: ("strconv.ErrRange", Rows.laid_strconv_ErrRange) :: ("strconv.ErrSyntax", Rows.laid_strconv_ErrSyntax) :: []) W := h
  have h1 := h0.tail
  have h2 := h1.tail
  have h3 := h2.tail
  have h4 := h3.tail
  have t1 : Lib.TabIs Tryd.prog W "math/bits.deBruijn64tab" .u8 (Lib.deBruijn64tab.map Int.ofNat) := tab_head gTab gTabType Tryd.underlying137 Tryd.underlying5 cellsU8 cellsTab h1
  have t2 : Lib.TabIs Tryd.prog W "internal/strconv.uint64pow10" .u64 Lib.pow10Tab := tab_head gP gPType Tryd.underlying120 Tryd.underlying102 cellsU64 cellsP h2
  refine ⟨by have := t1.cell gTab 15 (by decide); exact this, t2, ?_, ?_⟩
  · obtain ⟨a, s, hv, _⟩ := laid_sentinel h4 gS gSType Tryd.underlying60 esRow Tryd.underlying133 Tryd.underlying135 rfl rfl Tryd.underlying9 cellsES cellsStr
    exact ⟨_, _, hv⟩
  · obtain ⟨a, s, hv, _⟩ := laid_sentinel h3 gR gRType Tryd.underlying60 esRow Tryd.underlying133 Tryd.underlying135 rfl rfl Tryd.underlying9 cellsES cellsStr
    exact ⟨_, _, hv⟩

def rangeS : ByteArray := { data := #[118, 97, 108, 117, 101, 32, 111, 117, 116, 32, 111, 102, 32, 114, 97, 110, 103, 101] }
def syntaxS : ByteArray := { data := #[105, 110, 118, 97, 108, 105, 100, 32, 115, 121, 110, 116, 97, 120] }
/-- So many blocks has the settled world. -/
noncomputable def low : Nat := (World.holding Tryd.prog default ⟨#[], #[], []⟩).heap.size
/-- A WORLD FOR THE WITNESS: the settled one, the tables' blocks holding what their initialisers lay; two blocks more, of the errors. -/
noncomputable def laidWorld (os : Os) : World :=
  let w0 := World.holding Tryd.prog os ⟨#[.cells #[.string rangeS] 135, .cells #[.string syntaxS] 135], #[], []⟩
  { w0 with heap := ((((w0.heap.modify 3 (fun
      | .cells _ t frozen => .cells (Lib.deBruijn32tab.map fun (z : Nat) => Value.int .u8 z).toArray t frozen
      | o => o)).modify 4 (fun
      | .cells _ t frozen => .cells (Lib.deBruijn64tab.map fun (z : Nat) => Value.int .u8 z).toArray t frozen
      | o => o)).modify 0 (fun
      | .cells _ t frozen => .cells (Lib.pow10Tab.map fun (z : Int) => Value.int .u64 z).toArray t frozen
      | o => o)).modify 2 (fun
      | .cells _ t frozen => .cells #[.iface 133 (.pointer (some ⟨low, 0, none⟩))] t frozen
      | o => o)).modify 1 (fun
      | .cells _ t frozen => .cells #[.iface 133 (.pointer (some ⟨low + 1, 0, none⟩))] t frozen
      | o => o) }
end Go.Proofs.YtbmapellhcdipaaDoor
namespace Go.Proofs.YtbmapellhcdipaaDoor.quoteScans
open Go.ChangeShapes Go.WideShapes Go.ChangeAt Go.RowKit
open Go.ChangeMaps (open_string shut_string)
set_option linter.unusedVariables false

set_option maxRecDepth 100000 in
theorem contract (H : Type) (enc : TypeId × Value → H) (W : World) (base : Nat) (args : Array Value) (ds gs : List (DataW H)) (before : List MemPlace)
    (hval : ∀ (j : Nat) t v, Tryd.f6.params[j]? = some t → args[j]? = some v → Value.okWide Tryd.prog W .any base t v)
    (hW : DataW.Whole enc Tryd.prog Tryd.f6.params.toList Rows.quoteScansSpec.vars false W args.toList ds gs before) (hL : laidMetH Tryd.prog laid1 W) :
    Calls Tryd.prog 6 args W fun e W' => ∃ v, e = .returned v ∧ Rows.quoteScansSpec.post enc Tryd.prog Tryd.f6 false true false false W args v W' := by
  have hW' := hW
  obtain ⟨p, q, hA0, hV, rfl, hfz, hnd⟩ := hW
  have hA : DataW.TrodAll enc Tryd.prog W 0 (fun _ => true) true Tryd.f6.params.toList args.toList ds p := hA0
  rw [Tryd.params6] at hA hval
  obtain ⟨v0, vs0, d0, ds0, p0, q0, hargs, rfl, rfl, h0, r0⟩ := trodAll_cons hA
  obtain ⟨v1, vs1, d1, ds1, p1, q1, rfl, rfl, rfl, h1, r1⟩ := trodAll_cons r0
  obtain ⟨rfl, rfl, rfl⟩ := trodAll_nil r1
  obtain rfl : args = #[v0, v1] := by cases args; simp_all
  obtain ⟨rfl, rfl⟩ := trodVars_none hV
  clear hA0
  simp only [List.append_nil] at hW'
  have hlt : ∀ x ∈ p0 ++ (p1), x.block < W.heap.size := fun x hx => by simpa using hW'.lt x (by simpa using hx)
  have k0 := h0
  obtain ⟨s0, rfl, _, _, hs0⟩ := open_string Tryd.underlying9 (hval 0 9 v0 rfl rfl) h0
  have k1 := h1
  obtain ⟨n1, rfl, _, _, wn1⟩ := open_int Tryd.underlying3 (hval 1 3 v1 rfl rfl) h1
  refine (quoteScans_walk s0 n1 W  (table hL)).mono fun e W' ⟨he, hk⟩ => ?_
  subst he
  have hb := hk.below
  exact ⟨_, rfl, _, _, _, [], p0 ++ (p1 ++ []), [], hW', trodAll_cons_mk (shut_bool Tryd.underlying4 _) trodAll_mk0, trodAll_cons_mk (Below.trod laidOut (by kernel_rfl) (of_decide_eq_true (by kernel_rfl)) k0 hb (fun x hx => hlt x (by simp [hx]))) (trodAll_cons_mk (Below.trod laidOut (by kernel_rfl) (of_decide_eq_true (by kernel_rfl)) k1 hb (fun x hx => hlt x (by simp [hx]))) trodAll_mk0), rfl, hb.frame _, fun h => by cases h⟩

theorem laid_met (os : Os) : laidMet Tryd.prog laid1 ((laidWorld os).forCall (fun _ _ => 0) ⟨#[], #[.string ByteArray.empty, .int .i64 0], []⟩).memory :=
  laidMet_of_run' 8 (by kernel_rfl) (by kernel_rfl)
theorem reads (os : Os) {H : Type} (enc : TypeId × Value → H) : ∃ places, DataW.whole enc Tryd.prog ((laidWorld os).forCall (fun _ _ => 0) ⟨#[], #[.string ByteArray.empty, .int .i64 0], []⟩).memory Tryd.f6.params.toList Rows.quoteScansSpec.vars false #[(.string ByteArray.empty : Value), .int .i64 0].toList 8 = some ([.lit (.string []), .lit (.int .i64 0)], [], places) :=
  ⟨[], by kernel_rfl⟩

set_option maxRecDepth 100000 in
theorem lifted (os : Os) (started : os.Started) (H : Type) (enc : TypeId × Value → H) (F : Stop.Interp) :
    ReturnsInHanded {} Tryd.checked os 6 .any ((OpenSpec.ofChange Rows.quoteScansSpec).preRow enc Tryd.prog Tryd.f6 Rows.quoteScansRow.domain false Rows.quoteScansRow.laid) (((OpenSpec.ofChange Rows.quoteScansSpec).at F).post enc Tryd.prog Tryd.f6 false true false false) := by
  obtain ⟨places, hx⟩ := reads os enc
  refine returnsInHanded_of_row (C := Tryd.checked) (s := OpenSpec.ofChange Rows.quoteScansSpec) own started (by kernel_rfl) Tryd.func6
    (witness_row_at (enc := enc) (C := Tryd.checked) false (laidWorld os) #[.string ByteArray.empty, .int .i64 0] rfl (by kernel_rfl) (by kernel_rfl) (by kernel_rfl)
      (OpenSpec.preRow_of_cond 8 hx (by kernel_rfl) (fun k hk => by cases hk) (by kernel_rfl) (laid_met os))) ?_
  intro W base args ds gs before hval hW _ _ _ hL _ _
  exact contract H enc W base args ds gs before hval hW hL

theorem said : Rows.QuoteScansSaid :=
  OpenClaim.holds_of_cond 6 Tryd.f6 rfl rfl rfl rfl rfl rfl rfl ⟨rfl, rfl, rfl, rfl, rfl⟩ rfl rfl rfl rfl rfl (by kernel_rfl) Tryd.func6 (by kernel_rfl)
    (of_decide_eq_true (by kernel_rfl)) (by unfold Func.isWrapper; first | (rw [if_pos (by decide +kernel)]; kernel_rfl) | (rw [if_neg (by decide +kernel)]; exact ⟨rfl, rfl⟩))
    (fun os started H enc _ F => by rw [OpenClaim.pre_eq_preRow]; exact lifted os started H enc F)

/-- No parameter wants a stand-in; the program's own looks are off. -/
theorem plain (f : FuncId) (fn : Func) (hf : Tryd.pinned.checked.prog.funcNamed "hearsay/hearsaylaw4.QuoteScans" = some f) (hfn : Tryd.pinned.checked.prog.funcs[f]? = some fn) :
    true = Tryd.pinned.checked.prog.looks [] ∧ ∀ (j : Nat) t, fn.params[j]? = some t → Tryd.pinned.checked.prog.wantsStandIn t = false := by
  obtain rfl : f = 6 := Option.some.inj ((show Tryd.prog.funcNamed "hearsay/hearsaylaw4.QuoteScans" = some 6 by kernel_rfl).symm.trans hf) |>.symm
  obtain rfl : fn = Tryd.f6 := (Option.some.inj (Tryd.func6.symm.trans hfn)).symm
  refine ⟨by kernel_rfl, fun j t ht => ?_⟩
  rw [Tryd.params6] at ht
  have hm := Array.mem_of_getElem? ht
  simp at hm
  rcases hm with rfl | rfl
  · exact (show Tryd.prog.wantsStandIn 9 = false by kernel_rfl)
  · exact (show Tryd.prog.wantsStandIn 3 = false by kernel_rfl)

/-- THE CARD. -/
theorem card : Rows.QuoteScansCardSaid :=
  Claim7.holds_tied_plain_at .later [] _ _ _ _ said (fun _ h => by cases h) (by kernel_rfl) (fun _ h => by cases h) quoteScans_row_tie rfl ⟨rfl, rfl⟩ (by kernel_rfl) rfl plain (by kernel_rfl)
end Go.Proofs.YtbmapellhcdipaaDoor.quoteScans
