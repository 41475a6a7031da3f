/-
  The program's Scan: its iterator's labels.
-/
import Derived.Test.YtbidppjhenfjdaaGreatDoorQuoH
import Derived.Test.YtbidppjhenfjdaaGreatDoorQuoG
import Derived.Deep.CutRange
import Derived.Test.YtbidppjhenfjdaaGreatDoorStillIn
import Derived.Maps.RangeRun
import Derived.Laws.IdiomRangeMap
import Derived.Test.YtbidppjhenfjdaaGreatDoorQuoE
import Derived.Test.YtbidppjhenfjdaaGreatDoorRow
import Derived.Deep.QuietTactic
import Derived.BigQuiet
import Derived.Lib.AtoiAll
import Derived.Lib.ItoaNum
import Derived.ScopeJumps
import Derived.ControlIn
import Derived.Deep.Quiet
import Derived.Test.YtbidppjhenfjdaaGreatDoorShelf2
import Derived.Test.YtbidppjhenfjdaaGreatDoorQuoC
import Derived.Test.YtbidppjhenfjdaaGreatDoorKeep
import Derived.Test.YtbidppjhenfjdaaGreatDoorIter
import Derived.Test.YtbidppjhenfjdaaGreatDoorRegFix
import Derived.Sort.CutIn
namespace Go.Proofs.YtbidppjhenfjdaaGreatDoor
open Go.RowKit
set_option linter.unusedVariables false
set_option linter.unusedSimpArgs false

theorem ar4 {c n : Nat} {d : Int} (h : d = (c : Nat)) : (c = n → (d == (n : Int)) = true) ∧ (¬ c = n → (d == (n : Int)) = false ∧ (d != (n : Int)) = true) := by
  refine ⟨fun e => by simp; omega, fun e => ⟨by simp; omega, by simp; omega⟩⟩
end Go.Proofs.YtbidppjhenfjdaaGreatDoor
namespace Go.Proofs.YtbidppjhenfjdaaGreatDoor
open Go.RowKit
set_option linter.unusedVariables false
set_option linter.unusedSimpArgs false

theorem dec_le_t {a b : Int} (h : a ≤ b) : decide (a ≤ b) = true := by simpa using h
theorem dec_le_f {a b : Int} (h : ¬ a ≤ b) : decide (a ≤ b) = false := by simpa using h
theorem dec_lt_t {a b : Int} (h : a < b) : decide (a < b) = true := by simpa using h
theorem dec_lt_f {a b : Int} (h : ¬ a < b) : decide (a < b) = false := by simpa using h
theorem dec_len_t {a b : Nat} (h : a ≤ b) : decide (a ≤ b) = true := by simpa using h
theorem dec_len_f {a b : Nat} (h : ¬ a ≤ b) : decide (a ≤ b) = false := by simpa using h
theorem dec_ltn_t {a b : Nat} (h : a < b) : decide (a < b) = true := by simpa using h
theorem dec_ltn_f {a b : Nat} (h : ¬ a < b) : decide (a < b) = false := by simpa using h
end Go.Proofs.YtbidppjhenfjdaaGreatDoor
namespace Go.Proofs.YtbidppjhenfjdaaGreatDoor
open Go.RowKit Go.MapKept Go.ChangeMaps
set_option linter.unusedVariables false
set_option linter.unusedSimpArgs false

theorem setBlock_keep {w w1 : World} {r : Nat} {o o' : Obj} (h : w1 = w ∨ w1 = w.drew) (hr : w.heap[r]? = some o) : Keep [r] w (setBlock w1 r o') ∧ (setBlock w1 r o').heap[r]? = some o' := by
  have hlt := lt_of_block hr
  have hh : w1.heap = w.heap := by rcases h with rfl | rfl <;> rfl
  have hos : w1.os = w.os ∧ w1.tape = w.tape ∧ w1.output = w.output := by rcases h with rfl | rfl <;> exact ⟨rfl, rfl, rfl⟩
  clear h
  refine ⟨⟨hos.1, hos.2.1, hos.2.2, by simp [setBlock, hh], fun k hk hn => ?_⟩, by simp [setBlock, hh, hlt]⟩
  have : r ≠ k := fun e => hn (by simp [e])
  simp [setBlock, hh, this]
theorem esc_stamped : (∀ x ∈ escE.toList, x.born < 5) ∧ (escE.toList.map (·.born)).Nodup := by
  constructor
  · intro x hx
    simp [escE] at hx
    rcases hx with rfl | rfl | rfl | rfl | rfl <;> decide
  · decide
theorem esc_entry {x : MapEntry} (hx : x ∈ escE.toList) : ∃ k l : Nat, x.key = .int .i32 (k : Nat) ∧ x.val = .int .u8 (l : Nat) ∧ unl l = k ∧ k ≠ 0 ∧ k < 128 ∧ l < 256 := by
  simp [escE] at hx
  rcases hx with rfl | rfl | rfl | rfl | rfl
  · exact ⟨34, 34, rfl, rfl, rfl, by decide, by decide, by decide⟩
  · exact ⟨92, 92, rfl, rfl, rfl, by decide, by decide, by decide⟩
  · exact ⟨10, 110, rfl, rfl, rfl, by decide, by decide, by decide⟩
  · exact ⟨13, 114, rfl, rfl, rfl, by decide, by decide, by decide⟩
  · exact ⟨9, 116, rfl, rfl, rfl, by decide, by decide, by decide⟩
theorem unl_0 {c : Nat} (h : ∀ x ∈ escE.toList, x.val ≠ .int .u8 (c : Nat)) : unl c = 0 := by
  have f : ∀ l : Nat, (∃ x ∈ escE.toList, x.val = .int .u8 (l : Nat)) → c ≠ l := fun l ⟨x, hx, hv⟩ e => h x hx (by rw [hv, e])
  have h1 := f 34 ⟨⟨.int .i32 34, .int .u8 34, 0⟩, by simp [escE], rfl⟩
  have h2 := f 92 ⟨⟨.int .i32 92, .int .u8 92, 1⟩, by simp [escE], rfl⟩
  have h3 := f 110 ⟨⟨.int .i32 10, .int .u8 110, 2⟩, by simp [escE], rfl⟩
  have h4 := f 114 ⟨⟨.int .i32 13, .int .u8 114, 3⟩, by simp [escE], rfl⟩
  have h5 := f 116 ⟨⟨.int .i32 9, .int .u8 116, 4⟩, by simp [escE], rfl⟩
  unfold unl
  rw [if_neg h1, if_neg h2, if_neg h3, if_neg h4, if_neg h5]
theorem byt_mk (l : List UInt8) (i : Nat) (u : UInt8) (h : l[i]? = some u) : byt ⟨l.toArray⟩ i = u.toNat := by
  rw [mk_byt, h]
  rfl
theorem pre_uo (t : ByteArray) : Lib.hasPrefix t.data.toList [117, 123] = decide (1 < t.size ∧ byt t 0 = 117 ∧ byt t 1 = 123) := by
  obtain ⟨⟨l⟩⟩ := t
  have hs : (⟨⟨l⟩⟩ : ByteArray).size = l.length := rfl
  rw [hs]
  show List.isPrefixOf [117, 123] l = _
  match l with
  | [] => simp [List.isPrefixOf]
  | [a] => simp [List.isPrefixOf]
  | a :: b :: r =>
    have e0 := byt_mk (a :: b :: r) 0 a rfl
    have e1 := byt_mk (a :: b :: r) 1 b rfl
    change byt ⟨⟨a :: b :: r⟩⟩ 0 = _ at e0
    change byt ⟨⟨a :: b :: r⟩⟩ 1 = _ at e1
    rw [e0, e1]
    have f : ∀ (x : UInt8) (n : UInt8), (n == x) = decide (x.toNat = n.toNat) := fun x n => by
      by_cases h : n = x
      · subst h; simp
      · have : ¬ x.toNat = n.toNat := fun e => h (UInt8.toNat_inj.1 e.symm)
        simp [this, h]
    simp only [List.isPrefixOf, f, Bool.and_true]
    rw [show (117 : UInt8).toNat = 117 from rfl, show (123 : UInt8).toNat = 123 from rfl]
    simp
theorem hpre_any (t : ByteArray) (w : World) : Calls Tryz.prog 98 #[.string t, .string ⟨#[117, 123]⟩] w fun e w' => e = .returned (.bool (decide (1 < t.size ∧ byt t 0 = 117 ∧ byt t 1 = 123))) ∧ w = w' := by
  refine (Tryz.strings_HasPrefix t ⟨#[117, 123]⟩ w).mono ?_
  rintro e w' ⟨rfl, rfl⟩
  exact ⟨by rw [← pre_uo], rfl⟩
theorem ib_back (c : Nat) (w : World) (h : c < 256) : Calls Tryz.prog 97 #[.string ⟨#[48, 49, 50, 51, 52, 53, 54, 55, 56, 57, 97, 98, 99, 100, 101, 102]⟩, .int .u8 (c : Nat)] w fun e w' => e = .returned (.int .i64 (hxi c)) ∧ w' = w := (ib_any c w h).mono fun e w' hh => ⟨hh.1, hh.2.symm⟩
theorem conv_low {k : Nat} (h : k < 128) (W : World) : (convert 21 9 (.int .i32 (k : Nat))).run Tryz.prog W = .ok (.string (one k)) W := by
  have hu := Tryz.underlying21
  have hs := Tryz.underlying9
  have he : Utf8.encode ((k : Nat) : Int) = one k := enc_1 h
  simp [go_sem, hu, hs, he]

set_option maxHeartbeats 16000000 in
set_option maxRecDepth 100000 in
theorem escaped_any (t : ByteArray) (w : World) (hz : t.size ≤ 100000000) : Calls Tryz.prog 73 #[.string t] w fun e w' => e = .returned (.tuple #[.string (esc t).1, .int .i64 (esc t).2]) ∧ Keep [] w w' := by
  by_cases h0 : t.size = 0
  · obtain rfl : t = ByteArray.empty := ext_byt h0 (fun i hi => by omega)
    have HE := Lib.hid (show esc ByteArray.empty = (ByteArray.empty, 0) by unfold esc; exact if_pos rfl)
    go_enter Tryz.func73, Tryz.ntmps73
    go_wp2
    go_ret2
    rw [HE.out]
    exact ⟨rfl, Keep.refl _ _⟩
  have hne := str_neq (a := t) (b := ⟨#[]⟩) (fun e => h0 (by rw [e]; rfl))
  have hne2 : (t.toList == []) = false := by rw [show (⟨#[]⟩ : ByteArray).toList = [] by rw [ByteArray.toList_eq]] at hne; exact hne
  have hne3 : t.toList.isEmpty = false := by cases h : t.toList with
    | nil => rw [h] at hne2; cases hne2
    | cons a l => rfl
  have h0' : 0 < t.size := by omega
  have hb0 := byt_lt t 0
  have hi0 := byte_z (s := t) (i := 0) (z := 0) h0' rfl
  have HES : Hid (esc t = if unl (byt t 0) ≠ 0 then (one (unl (byt t 0)), 1) else if byt t 0 = 120 ∧ 2 < t.size then (if hx (byt t 1) < 16 ∧ hx (byt t 2) < 16 then (one (16 * hx (byt t 1) + hx (byt t 2)), 3) else (ByteArray.empty, 0)) else if byt t 0 = 117 ∧ 1 < t.size ∧ byt t 1 = 123 then brc t else (ByteArray.empty, 0)) := Lib.hid (by unfold esc; rw [if_neg h0])
  have HPR := Lib.hid (fun W => hpre_any t W)
  obtain ⟨c, hc⟩ : ∃ c, c = byt t 0 := ⟨_, rfl⟩
  rw [← hc] at hb0 hi0 HES HPR
  clear hc h0
  go_enter Tryz.func73, Tryz.ntmps73
  go_wp2_with fail
  refine (escapes_any _).mono ?_
  rintro e W1 ⟨mk, rfl, hmk0, hmk, hk1⟩
  have hrg := run_range_map (P := Tryz.prog) W1 129 21 5 mk escE 5 Tryz.underlying129 hmk
  have hmlt := lt_of_block hmk
  have HK1 := Lib.hid hk1; have HM1 := Lib.hid hmk
  clear hk1 hmk hmk0
  go_wp2
  obtain ⟨it, hit⟩ : ∃ i, i = W1.heap.size := ⟨_, rfl⟩
  have hitn := World.alloc_heap_new W1 (.mapIter (some mk) 5 #[] 5)
  have hka := (Keep.refl [] W1).alloc (.mapIter (some mk) 5 #[] 5)
  rw [← hit] at hitn ⊢
  have HIT := Lib.hid hit
  have hml : mk < it := by omega
  go_loopw [] (fun wr => ∃ seen : Array Nat, wr.heap[it]? = some (.mapIter (some mk) 5 seen 5) ∧ Keep [] W1 wr ∧ ∀ x ∈ escE.toList, seen.contains x.born = true → x.val ≠ .int .u8 (c : Nat)) (fun wr => (leftOf escE (wr.iterSeen it)).size)
  case atStart => exact ⟨#[], hitn, hka, fun x _ h => by simp at h⟩
  case round =>
    clear hitn hka hrg hmlt hit
    obtain ⟨seen, hsit, hkp, hno⟩ := hrel
    have hmw := hkp.at_ HM1.out (by simp)
    have HNO := Lib.hid hno; have HKP := Lib.hid hkp; have HSI := Lib.hid hsit
    clear hno hkp
    rcases run_next_at (P := Tryz.prog) wr 0 it mk 5 5 seen escE 5 hsit hmw esc_stamped.1 (Nat.le_refl _) with ⟨hz0, hrun⟩ | ⟨e, he, w1, hal, hrun⟩
    · have hnx : ∀ ty, (Instr.next (.pointer (some ⟨it, 0, none⟩)) false ty).run Tryz.prog wr = _ := fun _ => hrun
      have hun := unl_0 (c := c) (fun x hx => HNO.out x hx (all_seen escE seen hz0 x hx))
      have HE2 := Lib.hid (show esc t = _ from HES.out.trans (if_neg (by rw [hun]; simp)))
      have HFK := Lib.hid (HK1.out.trans0 HKP.out)
      clear hun hz0 hrun hmw hsit HNO HES
      have hcases : (c = 120 ∧ 2 < t.size) ∨ (c = 120 ∧ ¬ 2 < t.size) ∨ (c ≠ 120 ∧ c = 117 ∧ 1 < t.size ∧ byt t 1 = 123) ∨ (c ≠ 120 ∧ ¬ (c = 117 ∧ 1 < t.size ∧ byt t 1 = 123)) := by omega
      rcases hcases with ⟨rfl, h2⟩ | ⟨rfl, h2⟩ | ⟨h1, h2, h3, h4⟩ | ⟨h1, h2⟩
      · have hi1 := byte_z (s := t) (i := 1) (z := 1) (by omega) rfl
        have hi2 := byte_z (s := t) (i := 2) (z := 2) (by omega) rfl
        have hlen : decide ((2 : Int) < (t.size : Int)) = true := by simp; omega
        have hlen2 : decide (2 < t.size) = true := by simp; omega
        have HI1 := Lib.hid (fun W => ib_back (byt t 1) W (byt_lt t 1))
        have HI2 := Lib.hid (fun W => ib_back (byt t 2) W (byt_lt t 2))
        have HE3 := Lib.hid (HE2.out.trans (if_pos ⟨rfl, h2⟩))
        clear HE2
        have hb1 := byt_lt t 1
        have hb2 := byt_lt t 2
        generalize byt t 1 = c1 at *
        generalize byt t 2 = c2 at *
        by_cases d1 : hx c1 < 16
        · rw [hxi_lt d1] at HI1
          by_cases d2 : hx c2 < 16
          · rw [hxi_lt d2] at HI2
            have HE4 := Lib.hid (HE3.out.trans (if_pos ⟨d1, d2⟩))
            clear HE3
            generalize hx c1 = h at *
            generalize hx c2 = l at *
            have hor := or4_i64 h l (by omega) d2
            have hcv : ∀ W : World, (convert 38 9 (.slice (some ⟨W.heap.size, 0, none⟩) 1 1)).run Tryz.prog (W.alloc (.cells #[.int .u8 ((h : Int) * 16 + (l : Int))] 5)) = .ok (.string (one (16 * h + l))) (W.alloc (.cells #[.int .u8 ((h : Int) * 16 + (l : Int))] 5)) := fun W => by
              have h1 := conv_one (16 * h + l) W (by omega)
              rw [show (((16 * h + l : Nat)) : Int) = (h : Int) * 16 + (l : Int) by omega] at h1
              exact h1
            have hcv2 : ∀ W : World, (convert 38 9 (.slice (some ⟨W.heap.size, 0, none⟩) 1 1)).run Tryz.prog (W.alloc (.cells #[.int .u8 ((h : Int) * 16 + (l : Int))] 5)).drew = .ok (.string (one (16 * h + l))) (W.alloc (.cells #[.int .u8 ((h : Int) * 16 + (l : Int))] 5)).drew := fun W => hcv W.drew
            go_wp2_with fail
            refine wp_still_tail_drew 6 (by kernel_rfl) (by kernel_rfl) ?_
            simp only [List.take_succ_cons, List.take_zero, List.drop_succ_cons, List.drop_zero]
            still_step
            still_step
            still_call (HI1.out _)
            still_step
            still_step
            still_call (HI2.out _)
            refine wpStill_nil ?_
            have HF2 := Lib.hid HFK.out.drew
            go_wp2
            go_ret2
            rw [HE4.out]
            exact ⟨rfl, HF2.out.alloc _⟩
          · rw [hxi_no d2] at HI2
            have HE4 := Lib.hid (HE3.out.trans (if_neg (fun h => d2 h.2)))
            clear HE3 d2
            generalize hx c1 = h at *
            go_wp2_with fail
            refine wp_still_tail_drew 6 (by kernel_rfl) (by kernel_rfl) ?_
            simp only [List.take_succ_cons, List.take_zero, List.drop_succ_cons, List.drop_zero]
            still_step
            still_step
            still_call (HI1.out _)
            still_step
            still_step
            still_call (HI2.out _)
            refine wpStill_nil ?_
            go_wp2
            go_ret2
            rw [HE4.out]
            exact ⟨rfl, HFK.out.drew⟩
        · rw [hxi_no d1] at HI1
          have HE4 := Lib.hid (HE3.out.trans (if_neg (fun h => d1 h.1)))
          clear HE3 d1
          generalize hxi c2 = h at *
          go_wp2_with fail
          refine wp_still_tail_drew 6 (by kernel_rfl) (by kernel_rfl) ?_
          simp only [List.take_succ_cons, List.take_zero, List.drop_succ_cons, List.drop_zero]
          still_step
          still_step
          still_call (HI1.out _)
          still_step
          still_step
          still_call (HI2.out _)
          refine wpStill_nil ?_
          go_wp2
          go_ret2
          rw [HE4.out]
          exact ⟨rfl, HFK.out.drew⟩
      · have hlen : decide ((2 : Int) < (t.size : Int)) = false := by simp; omega
        have hlen2 : decide (2 < t.size) = false := by simp; omega
        have HE3 := Lib.hid (HE2.out.trans ((if_neg (fun h => h2 h.2)).trans (if_neg (fun h => absurd h.1 (by decide)))))
        have hd : decide (1 < t.size ∧ (120 : Nat) = 117 ∧ byt t 1 = 123) = false := by simp
        rw [hd] at HPR
        clear HE2 h2 hd
        go_wp2_with fail
        refine (HPR.out _).mono ?_
        rintro e w3 ⟨rfl, rfl⟩
        go_wp2
        go_ret2
        rw [HE3.out]
        exact ⟨rfl, HFK.out⟩
      · have HE3 := Lib.hid (HE2.out.trans ((if_neg (fun h => h1 h.1)).trans (if_pos ⟨h2, h3, h4⟩)))
        have hd : decide (1 < t.size ∧ c = 117 ∧ byt t 1 = 123) = true := by simp; exact ⟨h3, h2, h4⟩
        rw [hd] at HPR
        subst h2
        have HB := Lib.hid (fun W => braced_any t W hz h3)
        clear HE2 hd h1 h3 h4
        go_wp2_with fail
        refine (HPR.out _).mono ?_
        rintro e w3 ⟨rfl, rfl⟩
        go_wp2_with fail
        refine (HB.out _).mono ?_
        rintro e w3 ⟨rfl, rfl⟩
        go_wp2
        go_ret2
        rw [HE3.out]
        exact ⟨rfl, HFK.out⟩
      · have HE3 := Lib.hid (HE2.out.trans ((if_neg (fun h => h1 h.1)).trans (if_neg h2)))
        have hd : decide (1 < t.size ∧ c = 117 ∧ byt t 1 = 123) = false := by simp; intro a b; exact fun d => h2 ⟨b, a, d⟩
        rw [hd] at HPR
        obtain ⟨ci, hci⟩ : ∃ ci : Int, ci = ((c : Nat) : Int) := ⟨_, rfl⟩
        rw [← hci] at hi0
        have e1 : (ci == 120) = false := by simp; omega
        clear HE2 hd h1 h2 hci
        go_wp2_with fail
        refine (HPR.out _).mono ?_
        rintro e w3 ⟨rfl, rfl⟩
        go_wp2
        go_ret2
        rw [HE3.out]
        exact ⟨rfl, HFK.out⟩
    · obtain ⟨k, l, hek, hev, hul, hk0, hk128, hl⟩ := esc_entry (mem_left he).1
      rw [hek, hev] at hrun
      have hnx : ∀ ty, (Instr.next (.pointer (some ⟨it, 0, none⟩)) false ty).run Tryz.prog wr = _ := fun _ => hrun
      obtain ⟨kw, hw2⟩ := setBlock_keep (o' := .mapIter (some mk) 5 (seen.push e.born) 5) hal hsit
      have hmk2 := kw.at_ hmw (by simp; omega)
      have hen := run_entry_at (P := Tryz.prog) _ it mk 5 seen escE 5 e hw2 hmk2 (mem_left he).1 esc_stamped.2
      rw [hek, hev] at hen
      have HK2 := Lib.hid (HKP.out.trans kw (fun x hx => by simp at hx; subst hx; have := HIT.out; exact .inr (by omega)))
      have HW2 := Lib.hid hw2
      generalize setBlock w1 it (.mapIter (some mk) 5 (seen.push e.born) 5) = W2 at *
      have hcv := conv_low hk128
      have HEV := Lib.hid hev
      have HBE := Lib.hid he
      clear hmk2 kw hw2 hek hev hal hsit hmw he
      by_cases hcl : c = l
      · subst hcl
        have HE2 := Lib.hid (show esc t = (one k, 1) from HES.out.trans ((if_pos (by rw [hul]; exact hk0)).trans (by rw [hul])))
        clear hul hk0
        go_wp2
        go_ret2
        rw [HE2.out]
        exact ⟨rfl, HK1.out.trans0 HK2.out⟩
      · have e1 : (((c : Nat) : Int) == ((l : Nat) : Int)) = false := by simp; omega
        have e2 : (c == l) = false := by simp; omega
        have HCL := Lib.hid hcl
        clear hcl
        go_wp2
        go_roundw
        case rel =>
          refine ⟨_, HW2.out, HK2.out, fun x hx hc => ?_⟩
          rw [contains_push] at hc
          rcases Bool.or_eq_true _ _ ▸ hc with h1 | h1
          · exact HNO.out x hx h1
          · have : x = e := born_inj esc_stamped.2 hx (mem_left HBE.out).1 (beq_iff_eq.1 h1)
            subst this
            rw [HEV.out]
            intro hh
            injection hh with _ hh
            exact HCL.out (by omega)
        case measure =>
          have m1 : wr.iterSeen it = seen := by simp only [World.iterSeen, HSI.out]
          have m2 : W2.iterSeen it = seen.push e.born := by simp only [World.iterSeen, HW2.out]
          rw [m1, m2]
          exact left_shrinks escE seen e HBE.out
end Go.Proofs.YtbidppjhenfjdaaGreatDoor
namespace Go.Proofs.YtbidppjhenfjdaaGreatDoor
open Go.RowKit
set_option linter.unusedVariables false
set_option linter.unusedSimpArgs false

theorem dec_from (s : ByteArray) (p j : Nat) (hp : p ≤ s.size) : dec (s.extract p s.size) j = dec s (p + j) := by
  unfold dec
  rw [size_tail s p hp, byt_tail, byt_tail, byt_tail, byt_tail]
  rw [show s.size - p - j = s.size - (p + j) by omega]
  rfl
theorem dec_low {s : ByteArray} {p : Nat} (hp : p < s.size) (hb : byt s p < 128) : dec s p = (byt s p, 1) ∧ wid s p = 1 := by
  have h : RuneAt s p (byt s p) 1 := ⟨by omega, .inl ⟨rfl, hb, rfl⟩⟩
  exact ⟨h.dec, h.wid⟩
theorem low_of {s : ByteArray} {p : Nat} (hp : p < s.size) (h : (dec s p).1 < 128) : byt s p = (dec s p).1 := by
  by_cases hw : wid s p = 0
  · rw [dec_of_wid hp hw] at h
    simp at h
  · exact (rune_of_wid hp hw).2.elim (fun h' => h'.2.2.symm) (fun h' => by omega)
theorem slice_tail {s : ByteArray} {k : Nat} {z : Int} (h : k ≤ s.size) (hz : z = (k : Nat)) (W : World) : (Instr.slice 9 (.string s) (some (.int .i64 z)) none none).run Tryz.prog W = .ok (.string (s.extract k s.size)) W := by
  subst hz
  have hu := Tryz.underlying9
  have h1 : (k : Int) ≤ (s.size : Int) := by omega
  simp [go_sem, hu, h1, h]

/-- Between the pieces of a quoted text. -/
def QdI (s t0 : ByteArray) (a : Nat) (w : World) (ib base : Nat) (l : List Nat) (p k : Nat) (b : ByteArray) (W : World) : Prop :=
  At t0 l p ∧ W.heap[ib]? = some (.stringIter t0 p) ∧ Keep [] w W ∧ BufAt W w.heap.size base b ∧ b.size ≤ 4 * l.length ∧
  ((k ≤ a + 1 + p ∧ qd s (a + 1) ByteArray.empty = qd s (a + 1 + p) b) ∨ (a + 1 + p < k ∧ k ≤ s.size ∧ (∀ j, a + 1 + p ≤ j → j < k → byt s j < 128) ∧ qd s (a + 1) ByteArray.empty = qd s k b))
theorem WroteP.keeps {w W W' : World} {base : Nat} {x : ByteArray} (h : WroteP w.heap.size base x W W') (k : Keep [] w W) (hb : w.heap.size < base) : Keep [] w W' := by
  obtain ⟨_, _, L, hk, hL⟩ := h
  refine k.trans hk (fun y hy => ?_)
  rcases hL y hy with h | h
  · exact .inr (by omega)
  · exact .inr (by omega)

set_option maxHeartbeats 32000000 in
set_option maxRecDepth 100000 in
theorem quoted_any (s : ByteArray) (a : Nat) (w : World) (hz : s.size ≤ 100000000) (ha : a ≤ s.size) : Calls Tryz.prog 46 #[.string s, .int .i64 (a : Nat)] w fun e w' => e = .returned (.tuple #[.string (qtd s a).2.1, .int .i64 (qtd s a).2.2, .bool (qtd s a).1]) ∧ Keep [] w w' := by
  by_cases h0 : a < s.size
  · have hi0 := byte_z (s := s) (i := a) (z := (a : Nat)) h0 rfl
    have hb0 := byt_lt s a
    by_cases h1 : byt s a = 34
    · have HQ := Lib.hid (show qtd s a = qd s (a + 1) ByteArray.empty by unfold qtd; rw [if_pos ⟨h0, h1⟩])
      rw [h1] at hi0
      have hsl := slice_tail (s := s) (k := a + 1) (z := (a : Int) + 1) (by omega) (by omega)
      have ht0z := size_tail s (a + 1) (by omega)
      have HDF := Lib.hid (fun p => dec_from s (a + 1) p (by omega))
      generalize s.extract (a + 1) s.size = t0 at *
      have hg1 : decide ((s.size : Int) ≤ (a : Int)) = false := by simp; omega
      have hg2 : decide (s.size ≤ a) = false := by simp; omega
      clear h1 hb0
      go_enter Tryz.func46, Tryz.ntmps46
      go_wp2_with fail
      have ka := (Keep.refl [] w).alloc (.cells #[.pointer none, .slice none 0 0] 77)
      have hbl0 := World.alloc_heap_new w (.cells #[.pointer none, .slice none 0 0] 77)
      have B1 : Hid (BufAt (w.alloc (.cells #[.pointer none, .slice none 0 0] 77)) w.heap.size (w.heap.size + 1) ByteArray.empty) := Lib.hid ⟨_, _, hbl0, .inl rfl, World.ownsRow_nil _ _ _ _, by omega⟩
      have K1 := Lib.hid ka
      have hsz1 : (w.alloc (.cells #[.pointer none, .slice none 0 0] 77)).heap.size = w.heap.size + 1 := World.size_alloc _ _
      obtain ⟨W1, hW1⟩ : ∃ W1, W1 = w.alloc (.cells #[.pointer none, .slice none 0 0] 77) := ⟨_, rfl⟩
      rw [← hW1] at B1 K1 hsz1 ⊢
      clear hW1 ka hbl0
      obtain ⟨base, hbase⟩ : ∃ b, b = w.heap.size + 1 := ⟨_, rfl⟩
      rw [← hbase] at B1 hsz1 ⊢
      have hbb : w.heap.size < base := by omega
      clear hbase
      obtain ⟨ib, hib⟩ : ∃ i, i = base := ⟨_, rfl⟩
      have HIB := Lib.hid (show base ≤ ib by omega)
      have hitn := World.iter_heap W1 t0 0
      have kb := (Keep.refl [] W1).alloc (.stringIter t0 0)
      rw [← hib]
      rw [hsz1, ← hib] at hitn
      go_loopw [8] (fun sk wr => ∃ (l : List Nat) (p k : Nat) (b : ByteArray), QdI s t0 a w ib base l p k b wr ∧ sk = .int .i64 k) (fun _ wr => t0.size - wr.iterPos ib)
      case atStart =>
        refine ⟨[], 0, 0, ByteArray.empty, ⟨.zero, hitn, K1.out.trans0 kb, ?_, by simp, .inl ⟨by omega, rfl⟩⟩, rfl⟩
        obtain ⟨q, v, h1, h2, h3, h4⟩ := B1.out
        exact ⟨q, v, kb.at_ h1 (by simp), h2, kb.owns h3 (fun g hg => by simp), h4⟩
      case round =>
        clear B1 K1 hib hitn kb hsl hi0 hg1 hg2
        obtain ⟨l, p, k, b, ⟨hat, hit, hk, hbuf, hbz, hinv⟩, rfl⟩ := hrel
        have hll := hat.len
        have hple := hat.le
        have hib := lt_of_block hit
        have HA := Lib.hid hat; have HK := Lib.hid hk; have HBU := Lib.hid hbuf; have HINV := Lib.hid hinv; clear hat hk hbuf hinv
        by_cases hp : p < t0.size
        · have hn := dec_n hp
          have hnx : ∀ ty, _ := fun ty => next_in (P := Tryz.prog) hit hp ty
          have hit2 := Lib.iterAt_heap wr ib t0 p (p + (dec t0 p).2) hit
          have HST := Lib.hid (HA.out.step hp)
          have ki : Keep [ib] wr (wr.iterAt ib t0 (p + (dec t0 p).2)) := ⟨rfl, rfl, rfl, by rw [Lib.iterAt_size]; exact Nat.le_refl _, fun i _ hi => Lib.iterAt_other wr ib i t0 _ (by simpa using hi)⟩
          have hbi := HIB.out
          have HK2 := Lib.hid (HK.out.trans ki (fun x hx => by simp at hx; subst hx; exact .inr (by omega)))
          have hb2 : BufAt (wr.iterAt ib t0 (p + (dec t0 p).2)) w.heap.size base b := by
            obtain ⟨q, v, h1, h2, h3, h4⟩ := HBU.out
            have hni := own_not_iter h3 hit
            exact ⟨q, v, ki.at_ h1 (by simp; omega), h2, ki.owns h3 (fun g hg => by simp; intro e; subst e; exact hni (by simp [hg])), h4⟩
          have HB2 := Lib.hid hb2; clear hb2
          have HIT2 := Lib.hid hit2
          have HS2 := Lib.hid (show base ≤ (wr.iterAt ib t0 (p + (dec t0 p).2)).heap.size by rw [Lib.iterAt_size]; omega)
          clear hit2 ki hbi
          generalize hV : wr.iterAt ib t0 (p + (dec t0 p).2) = V at *
          have HPOS := Lib.hid (show wr.iterPos ib = p by simp only [World.iterPos, hit])
          clear hV hit
          have hdf := HDF.out p
          have his : a + 1 + p < s.size := by omega
          have hadd : (p : Int) + ((a : Int) + 1) = ((a + 1 + p : Nat) : Int) := by omega
          have HFIN : Hid (∀ (W' : World) (k' : Nat) (b' : ByteArray), Keep [] w W' → W'.heap[ib]? = some (.stringIter t0 (p + (dec t0 p).2)) → BufAt W' w.heap.size base b' → b'.size ≤ b.size + 4 →
              ((k' ≤ a + 1 + p + (dec s (a + 1 + p)).2 ∧ qd s (a + 1) ByteArray.empty = qd s (a + 1 + p + (dec s (a + 1 + p)).2) b') ∨ (a + 1 + p + (dec s (a + 1 + p)).2 < k' ∧ k' ≤ s.size ∧ (∀ j, a + 1 + p + (dec s (a + 1 + p)).2 ≤ j → j < k' → byt s j < 128) ∧ qd s (a + 1) ByteArray.empty = qd s k' b')) →
              Hid (QdI s t0 a w ib base (l ++ [p]) (p + (dec t0 p).2) k' b' W' ∧ t0.size - W'.iterPos ib < t0.size - wr.iterPos ib)) := Lib.hid (fun W' k' b' h1 h2 h3 h4 h5 => by
            refine ⟨⟨HST.out, h2, h1, h3, by rw [List.length_append, List.length_singleton]; omega, ?_⟩, ?_⟩
            · rw [hdf, ← Nat.add_assoc]; exact h5
            · rw [HPOS.out]; simp only [World.iterPos, h2]; omega)
          obtain ⟨i, hi⟩ : ∃ i, i = a + 1 + p := ⟨_, rfl⟩
          rw [hdf] at hnx hn HIT2 HFIN
          rw [← hi] at hadd his HFIN hnx hn HIT2 HINV
          clear hdf HST HPOS HA HBU HK
          have hdn := dec_n his
          have hq34 : (dec s i).1 = 34 → byt s i = 34 := fun e => by rw [low_of his (by omega)]; exact e
          have hq92 : (dec s i).1 = 92 → byt s i = 92 := fun e => by rw [low_of his (by omega)]; exact e
          have hn34 : (dec s i).1 ≠ 34 → byt s i ≠ 34 := fun e h => e (by rw [(dec_low his (by omega)).1, h])
          have hn92 : (dec s i).1 ≠ 92 → byt s i ≠ 92 := fun e h => e (by rw [(dec_low his (by omega)).1, h])
          have hhi : a + 1 ≤ i := by omega
          clear hi
          rcases HINV.out with ⟨hki, hq⟩ | ⟨hki, hks, hlow, hq⟩
          · have hlt1 : decide ((i : Int) < (k : Int)) = false := by simp; omega
            have hlt2 : decide (i < k) = false := by simp; omega
            have HHQ := Lib.hid hq; clear hq HINV
            by_cases c1 : (dec s i).1 = 34
            · have hb := hq34 c1
              have HR := Lib.hid (HHQ.out.trans (qd_q b his hb))
              rw [c1] at hnx
              clear hq34 hq92 hn34 hn92 hb HFIN HHQ c1
              go_wp2_with fail
              refine (Tryz.Builder_String_any_k w.heap.size w.heap.size _ _ HB2.out.builder (by have := HK2.out.size; omega)).mono ?_
              rintro r W6 ⟨rfl, _, hbw, _⟩
              have HK6 := Lib.hid (keep_below HK2.out hbw (Nat.le_refl _)); clear hbw
              go_wp2
              go_ret3
              rw [HQ.out, HR.out]
              exact ⟨rfl, HK6.out⟩
            by_cases c2 : (dec s i).1 = 92
            · have hb := hq92 c2
              have hd1 : (dec s i).2 = 1 := by rw [(dec_low his (by omega)).1]
              rw [c2] at hnx
              have hsl := slice_tail (s := s) (k := i + 1) (z := (i : Int) + 1) (by omega) (by omega)
              have HE := Lib.hid (fun W => escaped_any (s.extract (i + 1) s.size) W (by rw [size_tail s (i + 1) (by omega)]; omega))
              have hes := esc_spec (s.extract (i + 1) s.size)
              rw [size_tail s (i + 1) (by omega)] at hes
              have HES := Lib.hid hes; clear hes
              have HBAD := Lib.hid (qd_bad b his hb)
              have HESC := Lib.hid (qd_esc b his hb)
              have HBT := Lib.hid (byt_tail s (i + 1))
              generalize s.extract (i + 1) s.size = t1 at *
              clear hq34 hq92 hn34 hn92 c1 c2
              go_wp2_with fail
              refine (HE.out _).mono ?_
              rintro e W3 ⟨rfl, hk3⟩
              have HK3 := Lib.hid (HK2.out.trans0 hk3)
              have HB3 := Lib.hid (HB2.out.keep hk3)
              have HIT3 := Lib.hid (hk3.at_ HIT2.out (by simp))
              have HS3 := Lib.hid (show base ≤ W3.heap.size by have := HS2.out; have := hk3.size; omega)
              clear hk3 HE HB2 HIT2 HK2
              generalize (esc t1).1 = x at *
              generalize (esc t1).2 = n at *
              by_cases c3 : n = 0
              · subst c3
                have HR := Lib.hid (HHQ.out.trans (HBAD.out rfl))
                clear HFIN HESC HBAD
                go_wp2
                go_ret3
                rw [HQ.out, HR.out]
                exact ⟨rfl, HK3.out⟩
              · have HR := Lib.hid (HHQ.out.trans (HESC.out c3))
                have e1 : (((n : Nat) : Int) == 0) = false := by simp; omega
                have hnz : n ≤ s.size - (i + 1) := HES.out.1
                go_wp2_with fail
                refine (writeStr_any _ base _ _ W3 HB3.out (by have := HES.out.2.1; omega) (by omega) HS3.out).mono ?_
                rintro e W4 ⟨⟨k4, rfl⟩, hw4⟩
                have hf := HFIN.out W4 (i + 1 + n) (b ++ x) (hw4.keeps HK3.out hbb) (hw4.2.1 _ _ _ HIT3.out) hw4.1 (by have := HES.out.2.1; rw [ByteArray.size_append]; omega) (.inr ⟨by omega, by omega, fun j h1 h2 => by
                  have := HES.out.2.2 (j - (i + 1)) (by omega)
                  rw [HBT.out] at this
                  rw [show i + 1 + (j - (i + 1)) = j by omega] at this
                  exact this, HR.out⟩)
                clear HFIN hw4
                go_wp2
                go_roundw
                case rel => exact ⟨_, _, _, _, hf.out.1, by go_num⟩
                case measure => exact hf.out.2
            · have HRI : Hid ((((dec s i).1 : Nat) : Int) = (((dec s i).1 : Nat) : Int)) := Lib.hid rfl
              have HD := Lib.hid (decode_in s i V (by omega) his)
              have h34 := hn34 c1
              have h92 := hn92 c2
              unfold decV at HD
              have hdle := dec_le his
              have HOFF := Lib.hid (qd_off b his h34 h92)
              have HON := Lib.hid (qd_on b his h34 h92)
              have HISB := Lib.hid (show isB s i = decide (wid s i ≠ 0) from rfl)
              obtain ⟨ri, hri⟩ : ∃ ri : Int, ri = (((dec s i).1 : Nat) : Int) := ⟨_, rfl⟩
              rw [← hri] at hnx HD
              have e1 : (ri == 34) = false := by simp; omega
              have e2 : (ri == 92) = false := by simp; omega
              have hcs : (wid s i = 0 ∧ isB s i = false) ∨ (isB s i = true ∧ (dec s i).1 < 32 ∧ decide (ri < 32) = true) ∨ (isB s i = true ∧ (dec s i).1 = 127 ∧ decide (ri < 32) = false ∧ (ri == 127) = true) ∨ (¬ (wid s i = 0 ∨ (dec s i).1 < 32 ∨ (dec s i).1 = 127) ∧ isB s i = true ∧ decide (ri < 32) = false ∧ (ri == 127) = false) := by
                rw [HISB.out]
                by_cases a1 : wid s i = 0
                · exact .inl ⟨a1, by simp [a1]⟩
                · by_cases a2 : (dec s i).1 < 32
                  · exact .inr (.inl ⟨by simp [a1], a2, by simp; omega⟩)
                  · by_cases a3 : (dec s i).1 = 127
                    · exact .inr (.inr (.inl ⟨by simp [a1], a3, by simp; omega, by simp; omega⟩))
                    · exact .inr (.inr (.inr ⟨by omega, by simp [a1], by simp; omega, by simp; omega⟩))
              clear hq34 hq92 hn34 hn92 c1 c2 h34 h92 HISB HRI
              have HRI := Lib.hid hri; clear hri
              rcases hcs with ⟨a1, a2⟩ | ⟨a2, a1, a3⟩ | ⟨a2, a1, a3, a4⟩ | ⟨a1, a2, a3, a4⟩
              · have HR := Lib.hid (HHQ.out.trans (HOFF.out (.inl a1)))
                rw [a2] at HD
                clear HFIN HON HOFF a1 a2
                go_wp2_with fail
                refine HD.out.mono ?_
                rintro e W3 ⟨rfl, rfl⟩
                go_wp2
                go_ret3
                rw [HQ.out, HR.out]
                exact ⟨rfl, HK2.out⟩
              · have HR := Lib.hid (HHQ.out.trans (HOFF.out (.inr (.inl a1))))
                rw [a2] at HD
                clear HFIN HON HOFF a1 a2
                go_wp2_with fail
                refine HD.out.mono ?_
                rintro e W3 ⟨rfl, rfl⟩
                go_wp2
                go_ret3
                rw [HQ.out, HR.out]
                exact ⟨rfl, HK2.out⟩
              · have HR := Lib.hid (HHQ.out.trans (HOFF.out (.inr (.inr a1))))
                rw [a2] at HD
                clear HFIN HON HOFF a1 a2
                go_wp2_with fail
                refine HD.out.mono ?_
                rintro e W3 ⟨rfl, rfl⟩
                go_wp2
                go_ret3
                rw [HQ.out, HR.out]
                exact ⟨rfl, HK2.out⟩
              · have HR := Lib.hid (HHQ.out.trans (HON.out a1))
                rw [a2] at HD
                clear HON HOFF a1 a2
                have HDL := Lib.hid hdle; clear hdle
                go_wp2_with fail
                refine HD.out.mono ?_
                rintro e W3 ⟨rfl, rfl⟩
                go_wp2_with fail
                refine (writeRune_any _ base _ ri V HB2.out (by have := HRI.out; omega) (by have := HRI.out; have := HDL.out; omega) (by omega) HS2.out).mono ?_
                rintro e W4 ⟨⟨k4, rfl⟩, hw4⟩
                have hw : WroteP w.heap.size base (b ++ Utf8.encode ri) V W4 := hw4
                have hez := (enc_size ri).2
                have hf := HFIN.out W4 k (b ++ Utf8.encode ri) (hw.keeps HK2.out hbb) (hw.2.1 _ _ _ HIT2.out) hw.1 (by rw [ByteArray.size_append]; omega) (.inl ⟨by omega, by rw [HRI.out]; exact HR.out⟩)
                clear HFIN hw4 hw
                go_wp2
                go_roundw
                case rel => exact ⟨_, _, _, _, hf.out.1, rfl⟩
                case measure => exact hf.out.2
          · have hlt1 : decide ((i : Int) < (k : Int)) = true := by simp; omega
            have hlt2 : decide (i < k) = true := by simp; omega
            have hd1 : (dec s i).2 = 1 := by rw [(dec_low his (hlow i (Nat.le_refl _) hki)).1]
            have hf := HFIN.out V k b HK2.out HIT2.out HB2.out (by omega) (by
              rw [hd1]
              by_cases h : i + 1 < k
              · exact .inr ⟨h, hks, fun j h1 h2 => hlow j (by omega) h2, hq⟩
              · have : i + 1 = k := by omega
                rw [this]
                exact .inl ⟨Nat.le_refl _, hq⟩)
            clear hlow hq HINV hq34 hq92 hn34 hn92 HFIN hd1
            go_wp2
            exact ⟨⟨_, _, _, _, hf.out.1, rfl⟩, hf.out.2⟩
        · have hnx : ∀ ty, _ := fun ty => Lib.run_next_end_at (P := Tryz.prog) wr ib t0 p ty hit hp
          obtain ⟨rfl, rfl⟩ := HA.out.done hp
          have hkk : a + 1 + t0.size = s.size := by omega
          have hR : qd s (a + 1) ByteArray.empty = (false, ByteArray.empty, s.size) := by
            rcases HINV.out with ⟨_, hq⟩ | ⟨h1, h2, _⟩
            · rw [hq]; exact qd_end _ (by omega)
            · omega
          have HR := Lib.hid hR; clear hR
          go_wp2
          go_ret3
          rw [HQ.out, HR.out]
          exact ⟨rfl, HK.out⟩
    · have HQ := Lib.hid (show qtd s a = (false, ByteArray.empty, a) by unfold qtd; rw [if_neg (fun h => h1 h.2)])
      obtain ⟨c, hc⟩ : ∃ c : Int, c = ((byt s a : Nat) : Int) := ⟨_, rfl⟩
      rw [← hc] at hi0
      have e1 : (c == 34) = false := by simp; omega
      have e2 : (c != 34) = true := by simp; omega
      clear h1 hc hb0
      go_enter Tryz.func46, Tryz.ntmps46
      go_wp2
      go_ret3
      rw [HQ.out]
      exact ⟨rfl, (Keep.refl _ _).alloc _⟩
  · have HQ := Lib.hid (show qtd s a = (false, ByteArray.empty, a) by unfold qtd; rw [if_neg (fun h => h0 h.1)])
    obtain rfl : a = s.size := by omega
    go_enter Tryz.func46, Tryz.ntmps46
    go_wp2
    go_ret3
    rw [HQ.out]
    exact ⟨rfl, (Keep.refl _ _).alloc _⟩
end Go.Proofs.YtbidppjhenfjdaaGreatDoor
namespace Go.Proofs.YtbidppjhenfjdaaGreatDoor
open Go.RowKit
set_option linter.unusedVariables false
set_option linter.unusedSimpArgs false

end Go.Proofs.YtbidppjhenfjdaaGreatDoor
namespace Go.Proofs.YtbidppjhenfjdaaGreatDoor
open Go.RowKit
set_option linter.unusedVariables false
set_option linter.unusedSimpArgs false

end Go.Proofs.YtbidppjhenfjdaaGreatDoor
namespace Go.Proofs.YtbidppjhenfjdaaGreatDoor
open Go.RowKit
set_option linter.unusedVariables false
set_option linter.unusedSimpArgs false

/-- Does a word end at a byte? -/
def endB (s : ByteArray) (i : Nat) : Bool := decide (s.size ≤ i ∨ byt s i = 32 ∨ byt s i = 9 ∨ byt s i = 35 ∨ byt s i = 10 ∨ byt s i = 13)
theorem endB_yes {s : ByteArray} {i : Nat} (h : s.size ≤ i ∨ byt s i = 32 ∨ byt s i = 9 ∨ byt s i = 35 ∨ byt s i = 10 ∨ byt s i = 13) : endB s i = true := decide_eq_true h
theorem endB_no {s : ByteArray} {i : Nat} (h : ¬ (s.size ≤ i ∨ byt s i = 32 ∨ byt s i = 9 ∨ byt s i = 35 ∨ byt s i = 10 ∨ byt s i = 13)) : endB s i = false := decide_eq_false h
theorem endB_lt {s : ByteArray} {i : Nat} (h : endB s i = false) : i < s.size ∧ byt s i ≠ 32 ∧ byt s i ≠ 9 ∧ byt s i ≠ 35 ∧ byt s i ≠ 10 ∧ byt s i ≠ 13 := by
  have := of_decide_eq_false h
  omega

set_option maxHeartbeats 4000000 in
theorem ends_any (s : ByteArray) (i : Nat) (w : World) (hz : s.size ≤ 100000000) : Calls Tryz.prog 47 #[.string s, .int .i64 (i : Nat)] w fun e w' => e = .returned (.bool (endB s i)) ∧ w = w' := by
  by_cases h0 : s.size ≤ i
  · rw [endB_yes (.inl h0)]
    have f1 := dec_le_t (show (s.size : Int) ≤ (i : Int) by omega)
    have f2 := dec_len_t h0
    go_enter Tryz.func47, Tryz.ntmps47
    go_wp2
    go_ret
    exact ⟨rfl, rfl⟩
  · have f1 := dec_le_f (show ¬ (s.size : Int) ≤ (i : Int) by omega)
    have f2 := dec_len_f h0
    have hix := byte_z (s := s) (i := i) (z := (i : Nat)) (by omega) rfl
    have hcs : (byt s i = 32 ∨ byt s i = 9 ∨ byt s i = 35 ∨ byt s i = 10 ∨ byt s i = 13) ∨ ¬ (byt s i = 32 ∨ byt s i = 9 ∨ byt s i = 35 ∨ byt s i = 10 ∨ byt s i = 13) := by omega
    rcases hcs with hc | hc
    · rw [endB_yes (.inr hc)]
      rcases hc with hc | hc | hc | hc | hc
      all_goals
        rw [hc] at hix
        clear hc h0
        go_enter Tryz.func47, Tryz.ntmps47
        go_wp2
        go_ret
        exact ⟨rfl, rfl⟩
    · rw [endB_no (by omega)]
      obtain ⟨c, hci⟩ : ∃ c : Int, c = ((byt s i : Nat) : Int) := ⟨_, rfl⟩
      rw [← hci] at hix
      have g1 : (c == 32) = false := ((ar4 (n := 32) hci).2 (by omega)).1
      have g2 : (c == 9) = false := ((ar4 (n := 9) hci).2 (by omega)).1
      have g3 : (c == 35) = false := ((ar4 (n := 35) hci).2 (by omega)).1
      have g4 : (c == 10) = false := ((ar4 (n := 10) hci).2 (by omega)).1
      have g5 : (c == 13) = false := ((ar4 (n := 13) hci).2 (by omega)).1
      clear hc h0 hci
      go_enter Tryz.func47, Tryz.ntmps47
      go_wp2
      go_ret
      exact ⟨rfl, rfl⟩

/-- Is a byte a decimal digit? -/
def digB (c : Nat) : Bool := decide (48 ≤ c ∧ c ≤ 57)
/-- Does a word begin like a number? -/
def numB (x : ByteArray) : Bool := digB (byt x (if byt x 0 = 45 then 1 else 0))
theorem cntTail {x : ByteArray} (hx : x.size ≠ 0) (c : Int) (hc : c = ((byt x 0 : Nat) : Int)) : (digB (byt x 0) = true ∧ decide ((48 : Int) ≤ c) = true ∧ decide (c ≤ 57) = true) ∨ (digB (byt x 0) = false ∧ decide ((48 : Int) ≤ c) = false) ∨ (digB (byt x 0) = false ∧ decide ((48 : Int) ≤ c) = true ∧ decide (c ≤ 57) = false) := by
  by_cases h1 : 48 ≤ byt x 0
  · by_cases h2 : byt x 0 ≤ 57
    · exact .inl ⟨decide_eq_true ⟨h1, h2⟩, dec_le_t (by omega), dec_le_t (by omega)⟩
    · exact .inr (.inr ⟨decide_eq_false (fun h => h2 h.2), dec_le_t (by omega), dec_le_f (by omega)⟩)
  · exact .inr (.inl ⟨decide_eq_false (fun h => h1 h.1), dec_le_f (by omega)⟩)
theorem ne_empty {x : ByteArray} (hx : x.size ≠ 0) : (x.toList == []) = false ∧ x.toList.isEmpty = false ∧ (x.toList != []) = true := by
  have h := str_neq (a := x) (b := ⟨#[]⟩) (fun e => hx (by rw [e]; rfl))
  rw [show (⟨#[]⟩ : ByteArray).toList = [] by rw [ByteArray.toList_eq]] at h
  refine ⟨h, ?_, by rw [bne, h]; rfl⟩
  cases hl : x.toList with
  | nil => rw [hl] at h; cases h
  | cons a l => rfl

set_option maxHeartbeats 4000000 in
theorem counts_any (x : ByteArray) (w : World) (hz : x.size ≤ 100000000) (hx : x.size ≠ 0) : Calls Tryz.prog 44 #[.string x] w fun e w' => e = .returned (.bool (numB x)) ∧ w = w' := by
  have hi0 := byte_z (s := x) (i := 0) (z := 0) (by omega) rfl
  by_cases h45 : byt x 0 = 45
  · have HN : Hid (numB x = digB (byt x 1)) := Lib.hid (by unfold numB; rw [if_pos h45])
    have hsl := slice_tail (s := x) (k := 1) (z := 1) (by omega) rfl
    have htz := size_tail x 1 (by omega)
    have hb : byt x 1 = byt (x.extract 1 x.size) 0 := by rw [byt_tail]
    rw [hb] at HN
    rw [h45] at hi0
    generalize x.extract 1 x.size = y at *
    by_cases hy : y.size = 0
    · obtain rfl : y = ByteArray.empty := ext_byt hy (fun i hi => by omega)
      have HD := Lib.hid (HN.out.trans (show digB (byt ByteArray.empty 0) = false by decide +kernel))
      have hse : (ByteArray.empty.toList != ByteArray.empty.toList) = false := by simp
      clear h45 hb HN htz hy
      go_enter Tryz.func44, Tryz.ntmps44
      go_wp2
      go_ret
      rw [HD.out]
      exact ⟨rfl, rfl⟩
    · have hiy := byte_z (s := y) (i := 0) (z := 0) (by omega) rfl
      obtain ⟨n1, n2, n3⟩ := ne_empty hy
      obtain ⟨c, hc⟩ : ∃ c : Int, c = ((byt y 0 : Nat) : Int) := ⟨_, rfl⟩
      have hct := cntTail hy c hc
      rw [← hc] at hiy
      clear h45 hb htz hy hc
      rcases hct with ⟨d, e1, e2⟩ | ⟨d, e1⟩ | ⟨d, e1, e2⟩
      all_goals
        rw [d] at HN
        clear d
        go_enter Tryz.func44, Tryz.ntmps44
        go_wp2
        go_ret
        rw [HN.out]
        exact ⟨rfl, rfl⟩
  · have HN : Hid (numB x = digB (byt x 0)) := Lib.hid (by unfold numB; rw [if_neg h45])
    obtain ⟨n1, n2, n3⟩ := ne_empty hx
    obtain ⟨c, hc⟩ : ∃ c : Int, c = ((byt x 0 : Nat) : Int) := ⟨_, rfl⟩
    have hct := cntTail hx c hc
    rw [← hc] at hi0
    have g1 : (c == 45) = false := ((ar4 hc).2 h45).1
    clear h45 hc
    rcases hct with ⟨d, e1, e2⟩ | ⟨d, e1⟩ | ⟨d, e1, e2⟩
    all_goals
      rw [d] at HN
      clear d
      go_enter Tryz.func44, Tryz.ntmps44
      go_wp2
      go_ret
      rw [HN.out]
      exact ⟨rfl, rfl⟩

/-- A word that is not quoted, from a byte on: its end and 0, or the byte that offends and why. -/
def pw (s : ByteArray) (i : Nat) : Nat × Nat :=
  if h : endB s i = true then (i, 0)
  else if (dec s i).1 = 34 then (i, 18)
  else if wid s i = 0 ∨ (dec s i).1 < 32 ∨ (dec s i).1 = 127 then (i, 2)
  else pw s (i + (dec s i).2)
termination_by s.size - i
decreasing_by
  have h1 := (endB_lt (by simpa using h)).1
  have := dec_n h1
  omega
theorem pw_end {s : ByteArray} {i : Nat} (h : endB s i = true) : pw s i = (i, 0) := by rw [pw, dif_pos h]
theorem pw_quote {s : ByteArray} {i : Nat} (h : endB s i = false) (h1 : (dec s i).1 = 34) : pw s i = (i, 18) := by rw [pw, dif_neg (by rw [h]; simp), if_pos h1]
theorem pw_bad {s : ByteArray} {i : Nat} (h : endB s i = false) (h1 : (dec s i).1 ≠ 34) (h2 : wid s i = 0 ∨ (dec s i).1 < 32 ∨ (dec s i).1 = 127) : pw s i = (i, 2) := by rw [pw, dif_neg (by rw [h]; simp), if_neg h1, if_pos h2]
theorem pw_on {s : ByteArray} {i : Nat} (h : endB s i = false) (h1 : (dec s i).1 ≠ 34) (h2 : ¬ (wid s i = 0 ∨ (dec s i).1 < 32 ∨ (dec s i).1 = 127)) : pw s i = pw s (i + (dec s i).2) := by rw [pw, dif_neg (by rw [h]; simp), if_neg h1, if_neg h2]
theorem pw_spec (s : ByteArray) : ∀ (m i : Nat), s.size - i ≤ m → i ≤ s.size → i ≤ (pw s i).1 ∧ (pw s i).1 ≤ s.size := by
  intro m
  induction m with
  | zero => intro i hm hi; rw [pw_end (endB_yes (.inl (by omega)))]; exact ⟨Nat.le_refl _, hi⟩
  | succ m ih =>
    intro i hm hi
    cases he : endB s i with
    | true => rw [pw_end he]; exact ⟨Nat.le_refl _, hi⟩
    | false =>
      by_cases h1 : (dec s i).1 = 34
      · rw [pw_quote he h1]; exact ⟨Nat.le_refl _, hi⟩
      · by_cases h2 : wid s i = 0 ∨ (dec s i).1 < 32 ∨ (dec s i).1 = 127
        · rw [pw_bad he h1 h2]; exact ⟨Nat.le_refl _, hi⟩
        · rw [pw_on he h1 h2]
          have hn := dec_n (endB_lt he).1
          have := ih (i + (dec s i).2) (by omega) hn.2.2
          omega

set_option maxHeartbeats 8000000 in
theorem plain_any (s : ByteArray) (a : Nat) (w : World) (hz : s.size ≤ 100000000) (ha : a ≤ s.size) : Calls Tryz.prog 43 #[.string s, .int .i64 (a : Nat)] w fun e w' => e = .returned (.tuple #[.int .i64 (pw s a).1, .int .i64 (pw s a).2]) ∧ w = w' := by
  go_enter Tryz.func43, Tryz.ntmps43
  go_wp2
  go_loopw [4] (fun v wr => ∃ i : Nat, v = .int .i64 i ∧ i ≤ s.size ∧ pw s a = pw s i ∧ w = wr) (fun v _ => s.size - (intOf v).toNat)
  case atStart => exact ⟨a, rfl, ha, rfl, rfl⟩
  case round =>
    obtain ⟨i, rfl, hi, hp, rfl⟩ := hrel
    have HP := Lib.hid hp; clear hp
    have HE := Lib.hid (fun W => ends_any s i W hz)
    cases he : endB s i with
    | true =>
      rw [he] at HE
      have HR := Lib.hid (HP.out.trans (pw_end he))
      clear he
      go_wp2_with fail
      refine (HE.out _).mono ?_
      rintro e w1 ⟨rfl, rfl⟩
      go_wp2
      go_ret2
      rw [HR.out]
      exact ⟨rfl, rfl⟩
    | false =>
      rw [he] at HE
      have his := (endB_lt he).1
      have hn := dec_n his
      have HD := Lib.hid (decode_in s i w (by omega) his)
      unfold decV at HD
      have HISB := Lib.hid (show isB s i = decide (wid s i ≠ 0) from rfl)
      obtain ⟨ri, hri⟩ : ∃ ri : Int, ri = (((dec s i).1 : Nat) : Int) := ⟨_, rfl⟩
      rw [← hri] at HD
      by_cases h1 : (dec s i).1 = 34
      · have HR := Lib.hid (HP.out.trans (pw_quote he h1))
        rw [h1] at hri
        subst hri
        clear he h1
        go_wp2_with fail
        refine (HE.out _).mono ?_
        rintro e w1 ⟨rfl, rfl⟩
        go_wp2_with fail
        refine HD.out.mono ?_
        rintro e w1 ⟨rfl, rfl⟩
        go_wp2
        go_ret2
        rw [HR.out]
        exact ⟨rfl, rfl⟩
      · have g1 : (ri == 34) = false := ((ar4 hri).2 h1).1
        have hoff : ((wid s i = 0 ∨ (dec s i).1 < 32 ∨ (dec s i).1 = 127) ∧ ((isB s i = false) ∨ (isB s i = true ∧ decide (ri < 32) = true) ∨ (isB s i = true ∧ decide (ri < 32) = false ∧ (ri == 127) = true))) ∨ (¬ (wid s i = 0 ∨ (dec s i).1 < 32 ∨ (dec s i).1 = 127) ∧ isB s i = true ∧ decide (ri < 32) = false ∧ (ri == 127) = false) := by
          rw [HISB.out]
          by_cases a1 : wid s i = 0
          · exact .inl ⟨.inl a1, .inl (by simp [a1])⟩
          · by_cases a2 : (dec s i).1 < 32
            · exact .inl ⟨.inr (.inl a2), .inr (.inl ⟨by simp [a1], dec_lt_t (by omega)⟩)⟩
            · by_cases a3 : (dec s i).1 = 127
              · exact .inl ⟨.inr (.inr a3), .inr (.inr ⟨by simp [a1], dec_lt_f (by omega), (ar4 hri).1 a3⟩)⟩
              · exact .inr ⟨by omega, by simp [a1], dec_lt_f (by omega), ((ar4 hri).2 a3).1⟩
        clear HISB hri
        rcases hoff with ⟨b1, b2⟩ | ⟨b1, b2, b3, b4⟩
        · have HR := Lib.hid (HP.out.trans (pw_bad he h1 b1))
          clear he h1 b1
          generalize (((dec s i).2 : Nat) : Int) = ni at *
          rcases b2 with b2 | ⟨b2, b3⟩ | ⟨b2, b3, b4⟩
          all_goals
            rw [b2] at HD
            clear b2
            go_wp2_with fail
            refine (HE.out _).mono ?_
            rintro e w1 ⟨rfl, rfl⟩
            go_wp2_with fail
            refine HD.out.mono ?_
            rintro e w1 ⟨rfl, rfl⟩
            go_wp2
            go_ret2
            rw [HR.out]
            exact ⟨rfl, rfl⟩
        · have HR := Lib.hid (HP.out.trans (pw_on he h1 b1))
          rw [b2] at HD
          clear he h1 b1 b2
          go_wp2_with fail
          refine (HE.out _).mono ?_
          rintro e w1 ⟨rfl, rfl⟩
          go_wp2_with fail
          refine HD.out.mono ?_
          rintro e w1 ⟨rfl, rfl⟩
          go_wp2
          go_roundw
          case rel => exact ⟨i + (dec s i).2, by go_num, hn.2.2, HR.out, by trivial⟩
          case measure => simp [intOf]; omega
end Go.Proofs.YtbidppjhenfjdaaGreatDoor
namespace Go.Proofs.YtbidppjhenfjdaaGreatDoor
open Go Go.Lib
set_option linter.unusedVariables false
set_option linter.unusedSimpArgs false

/-- What digits spell, behind acc; none: one is no digit. -/
def dfold : List UInt8 → Nat → Option Nat
  | [], acc => some acc
  | c :: r, acc => if 48 ≤ c.toNat ∧ c.toNat ≤ 57 then dfold r (acc * 10 + (c.toNat - 48)) else none
theorem dfold_append (a b : List UInt8) : ∀ acc, dfold (a ++ b) acc = (dfold a acc).bind fun n => dfold b n := by
  induction a with
  | nil => intro acc; rfl
  | cons c a ih =>
    intro acc
    simp only [List.cons_append, dfold]
    split
    · exact ih _
    · rfl
theorem dfold_ge : ∀ (l : List UInt8) (acc n : Nat), dfold l acc = some n → acc ≤ n
  | [], acc, n, e => by simp only [dfold, Option.some.injEq] at e; omega
  | c :: r, acc, n, e => by
    simp only [dfold] at e
    split at e
    · have := dfold_ge r _ n e; omega
    · cases e
theorem u8_48 (d : Nat) (h : d < 10) : (UInt8.ofNat (48 + d)).toNat = 48 + d := by simp; omega
/-- A number's digits spell it. -/
theorem dfold_dec : ∀ u : Nat, dfold (decDigits u) 0 = some u := by
  intro u
  induction u using Nat.strongRecOn with
  | ind u ih =>
    by_cases h : u < 10
    · rw [decDigits, dif_pos h]
      simp only [dfold, u8_48 u h]
      rw [if_pos (by omega)]
      congr 1
      omega
    · rw [decDigits, dif_neg h, dfold_append, ih (u / 10) (by omega)]
      simp only [Option.bind_some, dfold, u8_48 (u % 10) (Nat.mod_lt _ (by decide))]
      rw [if_pos (by omega)]
      congr 1
      omega
theorem dec_ne (u : Nat) : decDigits u ≠ [] := by
  rw [decDigits]
  split <;> simp
/-- No number begins with a 0 but 0. -/
theorem dec_head : ∀ u : Nat, 1 ≤ u → ∀ c r, decDigits u = c :: r → c.toNat ≠ 48 := by
  intro u
  induction u using Nat.strongRecOn with
  | ind u ih =>
    intro h1 c r he
    by_cases h : u < 10
    · rw [decDigits, dif_pos h] at he
      injection he with he _
      rw [← he, u8_48 u h]
      omega
    · rw [decDigits, dif_neg h] at he
      cases hd : decDigits (u / 10) with
      | nil => exact absurd hd (dec_ne _)
      | cons c' r' =>
        rw [hd, List.cons_append] at he
        injection he with he _
        subst he
        exact ih (u / 10) (by omega) (by omega) c' r' hd
/-- Digits with no 0 ahead are their number's digits. -/
theorem dec_fold : ∀ (m : Nat) (l : List UInt8) (u : Nat), l.length ≤ m → l ≠ [] → (∀ c r, l = c :: r → c.toNat ≠ 48 ∨ r = []) → dfold l 0 = some u → decDigits u = l := by
  intro m
  induction m with
  | zero => intro l u hm hne; exact absurd (List.eq_nil_of_length_eq_zero (by omega)) hne
  | succ m ih =>
    intro l u hm hne hh hf
    obtain ⟨a, c, rfl⟩ : ∃ a c, l = a ++ [c] := ⟨l.dropLast, l.getLast hne, (List.dropLast_concat_getLast hne).symm⟩
    rw [dfold_append] at hf
    cases ha : dfold a 0 with
    | none => rw [ha] at hf; cases hf
    | some v =>
      rw [ha] at hf
      simp only [Option.bind_some, dfold] at hf
      split at hf
      · rename_i hc
        injection hf with hf
        have h255 := c.toNat_lt
        have hcc : UInt8.ofNat (48 + (c.toNat - 48)) = c := by
          apply UInt8.toNat_inj.1
          rw [u8_48 _ (by omega)]
          omega
        by_cases hn : a = []
        · subst hn
          simp only [dfold, Option.some.injEq] at ha
          subst ha
          have hu : u = c.toNat - 48 := by omega
          rw [decDigits, dif_pos (by omega), hu, hcc]
          rfl
        · have hh2 : ∀ c' r', a = c' :: r' → c'.toNat ≠ 48 := fun c' r' e => by
            rcases hh c' (r' ++ [c]) (by rw [e]; rfl) with h | h
            · exact h
            · simp at h
          have hd := ih a v (by simp at hm; omega) hn (fun c' r' e => .inl (hh2 c' r' e)) ha
          have hv : 1 ≤ v := by
            cases a with
            | nil => exact absurd rfl hn
            | cons c' r' =>
              have h1 := hh2 c' r' rfl
              simp only [dfold] at ha
              split at ha
              · have := dfold_ge _ _ _ ha
                omega
              · cases ha
          rw [decDigits, dif_neg (by omega)]
          have e1 : u / 10 = v := by omega
          have e2 : u % 10 = c.toNat - 48 := by omega
          rw [e1, e2, hd, hcc]
      · cases hf
theorem parse_fold : ∀ (l : List UInt8) (acc n : Nat), dfold l acc = some n → n < 18446744073709551616 → parseUint10 acc l = .ok n
  | [], acc, n, e, h => by simp only [dfold, Option.some.injEq] at e; subst e; rfl
  | c :: r, acc, n, e, h => by
    simp only [dfold] at e
    split at e
    · rename_i hc
      have hg := dfold_ge _ _ _ e
      simp only [parseUint10]
      rw [if_pos hc, if_neg (by omega), if_neg (by omega)]
      exact parse_fold r _ n e h
    · cases e
/-- The number that digits spell, behind a sign or not; none: it is not the one form of a number. -/
def numO (neg : Bool) (d : List UInt8) : Option Int :=
  if 19 < d.length then none
  else match d with
    | [] => none
    | c :: r =>
      if c.toNat = 48 ∧ (r ≠ [] ∨ neg = true) then none
      else match dfold d 0 with
        | none => none
        | some n => if neg = true then (if 9223372036854775808 < n then none else some (-(n : Int))) else (if n < 9223372036854775808 then some (n : Int) else none)
theorem numO_some {neg : Bool} {d : List UInt8} {v : Int} (h : numO neg d = some v) : ∃ c r n, d = c :: r ∧ d.length ≤ 19 ∧ ¬ (c.toNat = 48 ∧ (r ≠ [] ∨ neg = true)) ∧ dfold d 0 = some n ∧ ((neg = true ∧ n ≤ 9223372036854775808 ∧ v = -(n : Int)) ∨ (neg = false ∧ n < 9223372036854775808 ∧ v = (n : Int))) := by
  unfold numO at h
  split at h
  · cases h
  · rename_i hl
    cases d with
    | nil => cases h
    | cons c r =>
      simp only at h
      split at h
      · cases h
      · rename_i h0
        split at h
        · cases h
        · rename_i n hn
          refine ⟨c, r, n, rfl, by omega, h0, hn, ?_⟩
          cases neg with
          | true =>
            simp only [if_true] at h
            split at h
            · cases h
            · injection h with h; exact .inl ⟨rfl, by omega, h.symm⟩
          | false =>
            simp only [Bool.false_eq_true, if_false] at h
            split at h
            · injection h with h; exact .inr ⟨rfl, by assumption, h.symm⟩
            · cases h
theorem numO_of {neg : Bool} {c : UInt8} {r : List UInt8} {n : Nat} (h1 : (c :: r).length ≤ 19) (h2 : ¬ (c.toNat = 48 ∧ (r ≠ [] ∨ neg = true))) (h3 : dfold (c :: r) 0 = some n)
    (h4 : (neg = true ∧ n ≤ 9223372036854775808) ∨ (neg = false ∧ n < 9223372036854775808)) : numO neg (c :: r) = some (if neg = true then -(n : Int) else (n : Int)) := by
  unfold numO
  rw [if_neg (by omega)]
  simp only
  rw [if_neg h2, h3]
  simp only
  rcases h4 with ⟨rfl, h4⟩ | ⟨rfl, h4⟩
  · rw [if_pos rfl, if_pos rfl, if_neg (by omega)]
  · simp only [Bool.false_eq_true, if_false, h4, if_true]
/-- The number of a text: a minus is its sign. -/
def numT (l : List UInt8) : Option Int := match l with
  | [] => none
  | c :: r => if c.toNat = 45 then numO true r else numO false l
theorem dec_len_lt {u : Nat} (h : u < 10000000000000000000) : (decDigits u).length ≤ 19 := by
  have key : ∀ (k u : Nat), 0 < k → u < 10 ^ k → (decDigits u).length ≤ k := by
    intro k
    induction k with
    | zero => intro u h; omega
    | succ k ih =>
      intro u _ hu
      by_cases h : u < 10
      · rw [decDigits, dif_pos h]; simp
      · have hk : 0 < k := by
          refine Nat.pos_of_ne_zero fun e => ?_
          subst e
          simp at hu; omega
        rw [decDigits, dif_neg h, List.length_append, List.length_singleton]
        have := ih (u / 10) hk (by rw [Nat.pow_succ] at hu; omega)
        omega
  exact key 19 u (by decide) h
/-- What Atoi and Itoa say together, and the reference's number: the same. -/
theorem atoi_numT {l : List UInt8} {v : Int} : (atoiAll l = .ok v ∧ itoa v = l) ↔ (numT l = some v) := by
  constructor
  · rintro ⟨h1, h2⟩
    have hv : -9223372036854775808 ≤ v ∧ v < 9223372036854775808 := by
      unfold atoiAll at h1
      cases l with
      | nil => cases h1
      | cons c r =>
        simp only at h1
        split at h1
        · cases h1
        · cases h1
        · split at h1
          · cases h1
          · split at h1
            · cases h1
            · injection h1 with h1
              split at h1 <;> omega
    by_cases hn : v < 0
    · have hi : itoa v = 45 :: decDigits v.natAbs := by unfold itoa; rw [if_pos hn]
      rw [hi] at h2
      subst h2
      have hna : 1 ≤ v.natAbs := by omega
      cases hd : decDigits v.natAbs with
      | nil => exact absurd hd (dec_ne _)
      | cons c r =>
        have hl := dec_len_lt (u := v.natAbs) (by omega)
        have hf := dfold_dec v.natAbs
        have hh := dec_head _ hna c r hd
        rw [hd] at hl hf
        show (if (45 : UInt8).toNat = 45 then numO true (c :: r) else numO false (45 :: c :: r)) = some v
        rw [if_pos (by decide), numO_of hl (fun h => hh h.1) hf (.inl ⟨rfl, by omega⟩), if_pos rfl]
        congr 1
        omega
    · have hi : itoa v = decDigits v.toNat := by unfold itoa; rw [if_neg hn]
      rw [hi] at h2
      subst h2
      cases hd : decDigits v.toNat with
      | nil => exact absurd hd (dec_ne _)
      | cons c r =>
        have hl := dec_len_lt (u := v.toNat) (by omega)
        have hf := dfold_dec v.toNat
        have hh : ¬ (c.toNat = 48 ∧ (r ≠ [] ∨ false = true)) := by
          rintro ⟨a1, a2⟩
          by_cases hz : v.toNat < 10
          · rw [decDigits, dif_pos hz] at hd
            injection hd with _ hd
            simp [← hd] at a2
          · exact dec_head _ (by omega) c r hd a1
        rw [hd] at hl hf
        have hdig : 48 ≤ c.toNat := by
          simp only [dfold] at hf
          split at hf
          · rename_i h; exact h.1
          · cases hf
        show (if c.toNat = 45 then numO true r else numO false (c :: r)) = some v
        rw [if_neg (by omega), numO_of hl hh hf (.inr ⟨rfl, by omega⟩), if_neg (by simp)]
        congr 1
        omega
  · intro h
    cases l with
    | nil => cases h
    | cons c r =>
      have h' : (if c.toNat = 45 then numO true r else numO false (c :: r)) = some v := h
      split at h'
      · rename_i h45
        obtain ⟨c2, r2, n, rfl, hl, hh, hf, hv⟩ := numO_some h'
        obtain ⟨_, hn, rfl⟩ : (true = true ∧ n ≤ 9223372036854775808 ∧ v = -(n : Int)) := by
          rcases hv with hv | hv
          · exact hv
          · cases hv.1
        have hp := parse_fold _ _ _ hf (by omega)
        have hc45 : c = 45 := UInt8.toNat_inj.1 h45
        have hd := dec_fold _ (c2 :: r2) n (Nat.le_refl _) (by simp) (fun c' r' e => by
          injection e with e1 e2
          subst e1
          exact .inl (fun e => hh ⟨e, .inr rfl⟩)) hf
        have hn1 : 1 ≤ n := by
          by_cases h0 : n = 0
          · subst h0
            rw [decDigits, dif_pos (by decide)] at hd
            injection hd with hd _
            exact absurd ⟨by rw [← hd]; rfl, .inr rfl⟩ hh
          · omega
        constructor
        · unfold atoiAll
          simp only
          rw [if_pos (.inr h45)]
          simp only [parseMag]
          rw [if_neg (by simp), hp]
          simp only [h45]
          rw [if_neg (by simp), if_neg (by omega)]
          simp
        · unfold itoa
          rw [if_pos (by omega), show (-(n : Int)).natAbs = n by omega, hd, hc45]
      · rename_i h45
        obtain ⟨c2, r2, n, he, hl, hh, hf, hv⟩ := numO_some h'
        injection he with e1 e2
        subst e1
        subst e2
        obtain ⟨_, hn, rfl⟩ : (false = false ∧ n < 9223372036854775808 ∧ v = (n : Int)) := by
          rcases hv with hv | hv
          · cases hv.1
          · exact hv
        have hp := parse_fold _ _ _ hf (by omega)
        have hdig : 48 ≤ c.toNat := by
          have hf2 := hf
          simp only [dfold] at hf2
          split at hf2
          · rename_i h; exact h.1
          · cases hf2
        have hd := dec_fold _ (c :: r) n (Nat.le_refl _) (by simp) (fun c' r' e => by
          injection e with e1 e2
          subst e1
          subst e2
          by_cases h : r = []
          · exact .inr h
          · exact .inl (fun e => hh ⟨e, .inl h⟩)) hf
        constructor
        · unfold atoiAll
          simp only
          rw [if_neg (by omega)]
          simp only [parseMag]
          rw [if_neg (by simp), hp]
          simp only [h45]
          rw [if_neg (by omega), if_neg (by simp)]
          simp
        · unfold itoa
          rw [if_neg (by omega), show ((n : Int)).toNat = n by omega, hd]
end Go.Proofs.YtbidppjhenfjdaaGreatDoor
namespace Go.Proofs.YtbidppjhenfjdaaGreatDoor
open Go.RowKit
set_option linter.unusedVariables false
set_option linter.unusedSimpArgs false

end Go.Proofs.YtbidppjhenfjdaaGreatDoor
namespace Go.Proofs.YtbidppjhenfjdaaGreatDoor
open Go.RowKit
set_option linter.unusedVariables false
set_option linter.unusedSimpArgs false

/-- A word, and its error. -/
structure Fn where
  k : Nat
  t : ByteArray
  n : Int
  a : Nat
  l : Nat
  e : Nat
def Fn.vals (f : Fn) : Array Value := #[.int .i64 (f.k : Nat), .string f.t, .int .i64 f.n, .int .i64 (f.a : Nat), .int .i64 (f.l : Nat), .int .i64 (f.e : Nat)]
/-- A word that is not quoted, from a byte on, and the byte behind it; none: an error. -/
def plF (s : ByteArray) (a l : Nat) : Fn × Option Nat :=
  if (pw s a).2 ≠ 0 then (⟨0, ByteArray.empty, 0, (pw s a).1, l, (pw s a).2⟩, none)
  else if numB (s.extract a (pw s a).1) = false then (⟨1, s.extract a (pw s a).1, 0, a, l, 0⟩, some (pw s a).1)
  else match numT (s.extract a (pw s a).1).data.toList with
    | none => (⟨0, ByteArray.empty, 0, a, l, 6⟩, none)
    | some v => (⟨3, ByteArray.empty, v, a, l, 0⟩, some (pw s a).1)
theorem plF_off {s : ByteArray} {a l e c : Nat} (h : pw s a = (e, c)) (hc : c ≠ 0) : plF s a l = (⟨0, ByteArray.empty, 0, e, l, c⟩, none) := by unfold plF; rw [h]; exact if_pos hc
theorem plF_word {s : ByteArray} {a l e : Nat} (h : pw s a = (e, 0)) (hn : numB (s.extract a e) = false) : plF s a l = (⟨1, s.extract a e, 0, a, l, 0⟩, some e) := by
  unfold plF; rw [h]; exact (if_neg (by simp)).trans (if_pos hn)
theorem plF_bad {s : ByteArray} {a l e : Nat} (h : pw s a = (e, 0)) (hn : numB (s.extract a e) = true) (ht : numT (s.extract a e).data.toList = none) : plF s a l = (⟨0, ByteArray.empty, 0, a, l, 6⟩, none) := by
  unfold plF; rw [h]; refine (if_neg (by simp)).trans ((if_neg (by rw [hn]; simp)).trans ?_); simp only; rw [ht]
theorem plF_num {s : ByteArray} {a l e : Nat} {v : Int} (h : pw s a = (e, 0)) (hn : numB (s.extract a e) = true) (ht : numT (s.extract a e).data.toList = some v) : plF s a l = (⟨3, ByteArray.empty, v, a, l, 0⟩, some e) := by
  unfold plF; rw [h]; refine (if_neg (by simp)).trans ((if_neg (by rw [hn]; simp)).trans ?_); simp only; rw [ht]
end Go.Proofs.YtbidppjhenfjdaaGreatDoor
namespace Go.Proofs.YtbidppjhenfjdaaGreatDoor
open Go.RowKit
set_option linter.unusedVariables false
set_option linter.unusedSimpArgs false

/-- A remark's end. -/
def rem (s : ByteArray) (i : Nat) : Nat := if i < s.size ∧ byt s i ≠ 10 ∧ byt s i ≠ 13 then rem s (i + 1) else i
termination_by s.size - i
theorem rem_on {s : ByteArray} {i : Nat} (h : i < s.size ∧ byt s i ≠ 10 ∧ byt s i ≠ 13) : rem s i = rem s (i + 1) := by rw [rem, if_pos h]
theorem rem_end {s : ByteArray} {i : Nat} (h : ¬ (i < s.size ∧ byt s i ≠ 10 ∧ byt s i ≠ 13)) : rem s i = i := by rw [rem, if_neg h]
theorem rem_spec (s : ByteArray) : ∀ (m i : Nat), s.size - i ≤ m → i ≤ s.size → i ≤ rem s i ∧ rem s i ≤ s.size := by
  intro m
  induction m with
  | zero => intro i hm hi; rw [rem_end (by omega)]; exact ⟨Nat.le_refl _, hi⟩
  | succ m ih =>
    intro i hm hi
    by_cases h : i < s.size ∧ byt s i ≠ 10 ∧ byt s i ≠ 13
    · rw [rem_on h]
      have := ih (i + 1) (by omega) (by omega)
      omega
    · rw [rem_end h]; exact ⟨Nat.le_refl _, hi⟩
theorem pw_more {s : ByteArray} {a : Nat} (h : endB s a = false) (h0 : (pw s a).2 = 0) : a < (pw s a).1 ∧ (pw s a).1 ≤ s.size := by
  have has := (endB_lt h).1
  by_cases h1 : (dec s a).1 = 34
  · rw [pw_quote h h1] at h0; simp at h0
  · by_cases h2 : wid s a = 0 ∨ (dec s a).1 < 32 ∨ (dec s a).1 = 127
    · rw [pw_bad h h1 h2] at h0; simp at h0
    · rw [pw_on h h1 h2]
      have hn := dec_n has
      have := pw_spec s s.size (a + (dec s a).2) (by omega) hn.2.2
      omega
theorem plF_more {s : ByteArray} {a l e : Nat} (h : endB s a = false) (h0 : (plF s a l).2 = some e) : a < e ∧ e ≤ s.size := by
  unfold plF at h0
  split at h0
  · cases h0
  · rename_i h1
    have hm := pw_more h (by simpa using h1)
    split at h0
    · injection h0 with h0; omega
    · split at h0
      · cases h0
      · injection h0 with h0; omega
theorem qtd_more {s x : ByteArray} {a e : Nat} (h : qtd s a = (true, x, e)) : a < e ∧ e ≤ s.size := by
  unfold qtd at h
  split at h
  · rename_i h0
    have := qd_pos s (a + 1) ByteArray.empty (by omega)
    rw [h] at this
    have h1 := this.2.2.1 rfl
    exact ⟨by simp only at h1; omega, this.2.1⟩
  · injection h with h; cases h
/-- Behind a line's end. -/
def lineB (s : ByteArray) (i : Nat) : Nat := if byt s i = 13 ∧ i + 1 < s.size ∧ byt s (i + 1) = 10 then i + 2 else i + 1
theorem lineB_more {s : ByteArray} {i : Nat} (h : i < s.size) : i < lineB s i ∧ lineB s i ≤ s.size := by unfold lineB; split <;> omega
def endF (some : Bool) (a l : Nat) : List Fn := if some = true then [⟨4, ByteArray.empty, 0, a, l, 0⟩] else []
/-- All that is found from a byte on, in a line, behind a word of that line or not. -/
def scn (s : ByteArray) (a l : Nat) (sm : Bool) : List Fn :=
  if h : a < s.size then
    if h1 : byt s a = 10 ∨ byt s a = 13 then endF sm a l ++ scn s (lineB s a) (l + 1) false
    else if byt s a = 32 ∨ byt s a = 9 then scn s (a + 1) l sm
    else if h3 : byt s a = 35 then scn s (rem s a) l sm
    else if h4 : byt s a ≠ 34 then
      match h5 : plF s a l with
      | (f, none) => [f]
      | (f, some e) => if h7 : a < e ∧ e ≤ s.size then f :: scn s e l true else [f]
    else
      match h6 : qtd s a with
      | (false, _, e) => [⟨0, ByteArray.empty, 0, e, l, 18⟩]
      | (true, x, e) => if h7 : endB s e = true ∧ a < e ∧ e ≤ s.size then ⟨2, x, 0, a, l, 0⟩ :: scn s e l true else [⟨0, ByteArray.empty, 0, e, l, 18⟩]
  else endF sm a l
termination_by s.size - a
decreasing_by
  · have := lineB_more h; omega
  · omega
  · have h2 : a < rem s a := by
      rw [rem_on ⟨h, by omega, by omega⟩]
      have := rem_spec s s.size (a + 1) (by omega) (by omega)
      omega
    have := rem_spec s s.size a (by omega) (by omega)
    omega
  · omega
  · omega
theorem scn_over {s : ByteArray} {a l : Nat} {sm : Bool} (h : ¬ a < s.size) : scn s a l sm = endF sm a l := by rw [scn, dif_neg h]
theorem scn_line {s : ByteArray} {a l : Nat} {sm : Bool} (h : a < s.size) (h1 : byt s a = 10 ∨ byt s a = 13) : scn s a l sm = endF sm a l ++ scn s (lineB s a) (l + 1) false := by rw [scn, dif_pos h, dif_pos h1]
theorem scn_blank {s : ByteArray} {a l : Nat} {sm : Bool} (h : a < s.size) (h1 : byt s a = 32 ∨ byt s a = 9) : scn s a l sm = scn s (a + 1) l sm := by
  rw [scn, dif_pos h, dif_neg (by omega), if_pos h1]
theorem scn_rem {s : ByteArray} {a l : Nat} {sm : Bool} (h : a < s.size) (h1 : byt s a = 35) : scn s a l sm = scn s (rem s a) l sm := by
  rw [scn, dif_pos h, dif_neg (by omega), if_neg (by omega), dif_pos h1]
/-- At a byte at which a word begins. -/
def WordAt (s : ByteArray) (a : Nat) : Prop := a < s.size ∧ byt s a ≠ 10 ∧ byt s a ≠ 13 ∧ byt s a ≠ 32 ∧ byt s a ≠ 9 ∧ byt s a ≠ 35
theorem WordAt.ends {s : ByteArray} {a : Nat} (h : WordAt s a) : endB s a = false := by
  apply endB_no
  obtain ⟨h0, h1, h2, h3, h4, h5⟩ := h
  omega
theorem scn_bad {s : ByteArray} {a l : Nat} {sm : Bool} {f : Fn} (h : WordAt s a) (h1 : byt s a ≠ 34) (h2 : plF s a l = (f, none)) : scn s a l sm = [f] := by
  obtain ⟨h0, a1, a2, a3, a4, a5⟩ := h
  rw [scn, dif_pos h0, dif_neg (by omega), if_neg (by omega), dif_neg a5, dif_pos h1]
  split
  · rename_i f' h5
    rw [h2] at h5
    injection h5 with h5
    rw [h5]
  · rename_i f' e' h5
    rw [h2] at h5
    injection h5 with _ h5
    cases h5
theorem scn_plain {s : ByteArray} {a l e : Nat} {sm : Bool} {f : Fn} (h : WordAt s a) (h1 : byt s a ≠ 34) (h2 : plF s a l = (f, some e)) : scn s a l sm = f :: scn s e l true := by
  have hm := plF_more h.ends (by rw [h2])
  obtain ⟨h0, a1, a2, a3, a4, a5⟩ := h
  rw [scn, dif_pos h0, dif_neg (by omega), if_neg (by omega), dif_neg a5, dif_pos h1]
  split
  · rename_i f' h5
    rw [h2] at h5
    injection h5 with _ h5
    cases h5
  · rename_i f' e' h5
    rw [h2] at h5
    injection h5 with h5 h6
    injection h6 with h6
    subst h5
    subst h6
    rw [dif_pos hm]
theorem scn_quote {s x : ByteArray} {a l e : Nat} {sm : Bool} (h : WordAt s a) (h1 : byt s a = 34) (h2 : qtd s a = (true, x, e)) (h3 : endB s e = true) : scn s a l sm = ⟨2, x, 0, a, l, 0⟩ :: scn s e l true := by
  have hm := qtd_more h2
  obtain ⟨h0, a1, a2, a3, a4, a5⟩ := h
  rw [scn, dif_pos h0, dif_neg (by omega), if_neg (by omega), dif_neg a5, dif_neg (by simp [h1])]
  split
  · rename_i y e' h5
    rw [h2] at h5
    injection h5 with h5
    cases h5
  · rename_i y e' h5
    rw [h2] at h5
    injection h5 with _ h5
    injection h5 with h5 h6
    subst h5
    subst h6
    rw [dif_pos ⟨h3, hm⟩]
theorem scn_unq {s x : ByteArray} {a l e : Nat} {sm ok : Bool} (h : WordAt s a) (h1 : byt s a = 34) (h2 : qtd s a = (ok, x, e)) (h3 : ok = false ∨ endB s e = false) : scn s a l sm = [⟨0, ByteArray.empty, 0, e, l, 18⟩] := by
  obtain ⟨h0, a1, a2, a3, a4, a5⟩ := h
  rw [scn, dif_pos h0, dif_neg (by omega), if_neg (by omega), dif_neg a5, dif_neg (by simp [h1])]
  split
  · rename_i y e' h5
    rw [h2] at h5
    injection h5 with _ h5
    injection h5 with _ h6
    subst h6
    rfl
  · rename_i y e' h5
    rw [h2] at h5
    injection h5 with h4 h5
    injection h5 with _ h6
    subst h6
    subst h4
    rcases h3 with h3 | h3
    · cases h3
    · rw [dif_neg (fun hh => by rw [h3] at hh; cases hh.1)]
end Go.Proofs.YtbidppjhenfjdaaGreatDoor
namespace Go.Proofs.YtbidppjhenfjdaaGreatDoor
open Go
set_option linter.unusedVariables false

/-- As Q; by a goto to label l: J l. -/
def jumpsTo (J : Nat → Act → World → Prop) (Q : Exit → Act → World → Prop) : Exit → Act → World → Prop
  | .goto l, a, w => J l a w
  | e, a, w => Q e a w
theorem jumpsTo_mono {J J' : Nat → Act → World → Prop} {Q : Exit → Act → World → Prop} (h : ∀ l a w, J l a w → J' l a w) : ∀ e a w, jumpsTo J Q e a w → jumpsTo J' Q e a w := by
  intro e a w hq
  cases e with
  | goto l => exact h _ _ _ hq
  | normal => exact hq
  | exit id => exact hq
  | ret => exact hq
  | panic ch => exact hq
  | outgrown => exact hq

section
variable {F : Fence} {n : Nat} {P : Program} {Q : Exit → Act → World → Prop} {a : Act} {w : World} {b : Frame} {k : List Item} {cs : List Frame}
theorem stepR_scope {c : Code} : step P (lone (b.atR a (.code (.scope c) :: k)) cs w) = .next (lone (b.atR a (.code c :: .inScope c :: k)) cs w) :=
  step_lone_go (by simp [stepG, stepG.exec, Frame.atR])
theorem stepR_inScope {c : Code} : step P (lone (b.atR a (.inScope c :: k)) cs w) = .next (lone (b.atR a k) cs w) :=
  step_lone_go (by simp [stepG, stepG.exec, Frame.atR])

theorem wpIn_scope_jumps {c : Code} (J : Nat → Act → World → Prop) (μ : Nat → Act → World → Nat) (rest : Nat → Code)
    (hf : ∀ l a w, J l a w → findLabel c l = some (rest l))
    (first : c.wpIn F n P (jumpsTo J Q) a w)
    (pass : ∀ l a w, J l a w → (rest l).wpIn F n P (jumpsTo (fun l' a' w' => J l' a' w' ∧ μ l' a' w' < μ l a w) Q) a w) : (Code.scope c).wpIn F n P Q a w := by
  intro b k cs hro hb hr
  have h0 : (lone (b.atR a (.code (.scope c) :: k)) cs w).fenced P F := fenced_calm hb hr rfl
  have hg : ∀ l a w, J l a w → gotoIn l (.inScope c :: k) = some (.code (rest l) :: .inScope c :: k) := fun l a w hJ => by simp [gotoIn, hf l a w hJ]
  have hx : ∀ id, exitTo id (.inScope c :: k) = exitTo id k := fun id => by simp [exitTo]
  have key : ∀ j l a w, μ l a w = j → J l a w → ∃ e a' w', Q e a' w' ∧ ArrivesIn (Machine.fenced P F) P (lone (b.atR a (.code (rest l) :: .inScope c :: k)) cs w) b k cs e a' w' := by
    intro j
    induction j using Nat.strongRecOn with
    | _ j ih =>
      intro l a w hj hJ
      obtain ⟨e, a₁, w₁, hq, harr⟩ := pass l a w hJ b (.inScope c :: k) cs hro hb hr
      cases e with
      | normal => exact ⟨.normal, a₁, w₁, hq, StepsIn.trans harr (.one (fenced_calm hb hr rfl) stepR_inScope)⟩
      | exit id => exact ⟨.exit id, a₁, w₁, hq, fun k' hk => harr.1 k' (by rw [hx]; exact hk), fun hr' hk => harr.2 hr' (by rw [hx]; exact hk)⟩
      | goto l' =>
        obtain ⟨hJ', hlt⟩ := hq
        obtain ⟨e₂, a₂, w₂, hq₂, harr₂⟩ := ih _ (by omega) l' a₁ w₁ rfl hJ'
        exact ⟨e₂, a₂, w₂, hq₂, .of_steps (harr.1 _ (hg l' a₁ w₁ hJ')) harr₂⟩
      | ret => exact ⟨_, a₁, w₁, hq, harr⟩
      | panic ch => exact ⟨_, a₁, w₁, hq, harr⟩
      | outgrown => exact ⟨_, a₁, w₁, hq, harr⟩
  obtain ⟨e, a₁, w₁, hq, harr⟩ := first b (.inScope c :: k) cs hro hb hr
  cases e with
  | normal => exact ⟨.normal, a₁, w₁, hq, .head h0 stepR_scope (StepsIn.trans harr (.one (fenced_calm hb hr rfl) stepR_inScope))⟩
  | exit id => exact ⟨.exit id, a₁, w₁, hq, fun k' hk => .head h0 stepR_scope (harr.1 k' (by rw [hx]; exact hk)), fun hr' hk => let ⟨k₁, h1, h2⟩ := harr.2 hr' (by rw [hx]; exact hk); ⟨k₁, h1, .head h0 stepR_scope h2⟩⟩
  | goto l =>
    obtain ⟨e₂, a₂, w₂, hq₂, harr₂⟩ := key _ l a₁ w₁ rfl hq
    exact ⟨e₂, a₂, w₂, hq₂, .of_steps (.head h0 stepR_scope (harr.1 _ (hg l a₁ w₁ hq))) harr₂⟩
  | ret => exact ⟨_, a₁, w₁, hq, .of_steps (.one h0 stepR_scope) harr⟩
  | panic ch => exact ⟨_, a₁, w₁, hq, .of_steps (.one h0 stepR_scope) harr⟩
  | outgrown => exact ⟨_, a₁, w₁, hq, .of_steps (.one h0 stepR_scope) harr⟩
/-- Six labels. -/
def six (J0 J1 J2 J3 J4 J5 : Act → World → Prop) : Nat → Act → World → Prop
  | 0 => J0
  | 1 => J1
  | 2 => J2
  | 3 => J3
  | 4 => J4
  | 5 => J5
  | _ => fun _ _ => False
theorem wpIn_scope6 {c r0 r1 r2 r3 r4 r5 : Code} (J0 J1 J2 J3 J4 J5 : Act → World → Prop) (μ : Nat → Act → World → Nat)
    (h0 : findLabel c 0 = some r0) (h1 : findLabel c 1 = some r1) (h2 : findLabel c 2 = some r2) (h3 : findLabel c 3 = some r3) (h4 : findLabel c 4 = some r4) (h5 : findLabel c 5 = some r5)
    (first : c.wpIn F n P (jumpsTo (six J0 J1 J2 J3 J4 J5) Q) a w)
    (p0 : ∀ a w, J0 a w → r0.wpIn F n P (jumpsTo (fun l' a' w' => six J0 J1 J2 J3 J4 J5 l' a' w' ∧ μ l' a' w' < μ 0 a w) Q) a w)
    (p1 : ∀ a w, J1 a w → r1.wpIn F n P (jumpsTo (fun l' a' w' => six J0 J1 J2 J3 J4 J5 l' a' w' ∧ μ l' a' w' < μ 1 a w) Q) a w)
    (p2 : ∀ a w, J2 a w → r2.wpIn F n P (jumpsTo (fun l' a' w' => six J0 J1 J2 J3 J4 J5 l' a' w' ∧ μ l' a' w' < μ 2 a w) Q) a w)
    (p3 : ∀ a w, J3 a w → r3.wpIn F n P (jumpsTo (fun l' a' w' => six J0 J1 J2 J3 J4 J5 l' a' w' ∧ μ l' a' w' < μ 3 a w) Q) a w)
    (p4 : ∀ a w, J4 a w → r4.wpIn F n P (jumpsTo (fun l' a' w' => six J0 J1 J2 J3 J4 J5 l' a' w' ∧ μ l' a' w' < μ 4 a w) Q) a w)
    (p5 : ∀ a w, J5 a w → r5.wpIn F n P (jumpsTo (fun l' a' w' => six J0 J1 J2 J3 J4 J5 l' a' w' ∧ μ l' a' w' < μ 5 a w) Q) a w) : (Code.scope c).wpIn F n P Q a w := by
  refine wpIn_scope_jumps (six J0 J1 J2 J3 J4 J5) μ (fun l => match l with | 0 => r0 | 1 => r1 | 2 => r2 | 3 => r3 | 4 => r4 | _ => r5) ?_ first ?_
  · intro l a w hJ
    match l with
    | 0 => exact h0
    | 1 => exact h1
    | 2 => exact h2
    | 3 => exact h3
    | 4 => exact h4
    | 5 => exact h5
    | _ + 6 => exact hJ.elim
  · intro l a w hJ
    match l with
    | 0 => exact p0 a w hJ
    | 1 => exact p1 a w hJ
    | 2 => exact p2 a w hJ
    | 3 => exact p3 a w hJ
    | 4 => exact p4 a w hJ
    | 5 => exact p5 a w hJ
    | _ + 6 => exact hJ.elim
theorem wpIn_skip_seq {q : Code} (h : q.wpIn F n P Q a w) : (Code.seq .skip q).wpIn F n P Q a w := wpIn_seq (wpIn_skip h)
/-- Six labels; what is shown of labels 1 and 5 serves where the run falls into them. -/
theorem wpIn_scope6q {c q0 q1 q2 q3 q4 q5 : Code} (J0 J1 J2 J3 J4 J5 : Act → World → Prop) (μ : Nat → Act → World → Nat)
    (h0 : findLabel c 0 = some (.seq .skip q0)) (h1 : findLabel c 1 = some (.seq .skip q1)) (h2 : findLabel c 2 = some (.seq .skip q2)) (h3 : findLabel c 3 = some (.seq .skip q3)) (h4 : findLabel c 4 = some (.seq .skip q4)) (h5 : findLabel c 5 = some (.seq .skip q5))
    (first : (∀ a w, J1 a w → q1.wpIn F n P (jumpsTo (six J0 J1 J2 J3 J4 J5) Q) a w) → c.wpIn F n P (jumpsTo (six J0 J1 J2 J3 J4 J5) Q) a w)
    (p0 : ∀ a w, J0 a w → q0.wpIn F n P (jumpsTo (fun l' a' w' => six J0 J1 J2 J3 J4 J5 l' a' w' ∧ μ l' a' w' < μ 0 a w) Q) a w)
    (p1 : ∀ a w, J1 a w → q1.wpIn F n P (jumpsTo (fun l' a' w' => six J0 J1 J2 J3 J4 J5 l' a' w' ∧ μ l' a' w' < μ 1 a w) Q) a w)
    (p2 : ∀ a w, J2 a w → q2.wpIn F n P (jumpsTo (fun l' a' w' => six J0 J1 J2 J3 J4 J5 l' a' w' ∧ μ l' a' w' < μ 2 a w) Q) a w)
    (p3 : (∀ a w, J5 a w → q5.wpIn F n P (jumpsTo (fun l' a' w' => six J0 J1 J2 J3 J4 J5 l' a' w' ∧ μ l' a' w' < μ 5 a w) Q) a w) → ∀ a w, J3 a w → q3.wpIn F n P (jumpsTo (fun l' a' w' => six J0 J1 J2 J3 J4 J5 l' a' w' ∧ μ l' a' w' < μ 3 a w) Q) a w)
    (p4 : ∀ a w, J4 a w → q4.wpIn F n P (jumpsTo (fun l' a' w' => six J0 J1 J2 J3 J4 J5 l' a' w' ∧ μ l' a' w' < μ 4 a w) Q) a w)
    (p5 : ∀ a w, J5 a w → q5.wpIn F n P (jumpsTo (fun l' a' w' => six J0 J1 J2 J3 J4 J5 l' a' w' ∧ μ l' a' w' < μ 5 a w) Q) a w) : (Code.scope c).wpIn F n P Q a w :=
  wpIn_scope6 J0 J1 J2 J3 J4 J5 μ h0 h1 h2 h3 h4 h5 (first fun a w h => wpIn_mono (p1 a w h) (jumpsTo_mono fun _ _ _ h => h.1))
    (fun a w h => wpIn_skip_seq (p0 a w h)) (fun a w h => wpIn_skip_seq (p1 a w h)) (fun a w h => wpIn_skip_seq (p2 a w h)) (fun a w h => wpIn_skip_seq (p3 p5 a w h)) (fun a w h => wpIn_skip_seq (p4 a w h)) (fun a w h => wpIn_skip_seq (p5 a w h))
end
end Go.Proofs.YtbidppjhenfjdaaGreatDoor
namespace Go.Proofs.YtbidppjhenfjdaaGreatDoor
open Go.RowKit
set_option linter.unusedVariables false

section
variable {P : Program} {ops : Array Oper} {md : Region.Mode} {C : World → Prop}

def wpAnyLQ (P : Program) (md : Region.Mode) (ops : Array Oper) (C : World → Prop) (n : Nat) (L : Array Bool → Act → Prop) : Nat → Array Bool → Act → Prop
  | 0, listed, a => L listed a
  | f + 1, listed, a => Region.ready md ops listed ≠ [] ∧ ∀ i ∈ Region.ready md ops listed, i < n ∧ qOp P ops C i (wpAnyLQ P md ops C n L f (listed.setIfInBounds i true)) a

theorem wpAny_of_headQ {n g : Nat} {L : Array Bool → Act → Prop} {Q' : Exit → Act → World → Prop} (hL : ∀ listed a w, C w → L listed a → wpAny P md ops Q' g listed a w) :
    ∀ (f : Nat) (listed : Array Bool) (a : Act) (w : World), C w → wpAnyLQ P md ops C n L f listed a → wpAny P md ops Q' (f + g) listed a w
  | 0, listed, a, w, hw, h => by rw [Nat.zero_add]; exact hL _ _ _ hw h
  | f + 1, listed, a, w, hw, h => by
    rw [show f + 1 + g = (f + g) + 1 by omega]
    exact ⟨fun h0 => absurd h0 h.1, fun i hi => wpOp_of_qOp hw (fun a' w' hw' h' => wpAny_of_headQ hL f _ a' w' hw' h') (h.2 i hi).2⟩

theorem wpAnyLQ_first {n i : Nat} {oi : Oper} {v : Value} {L : Array Bool → Act → Prop} (hi : ops[i]? = some oi) (hsel : ∀ (j : Nat) (o : Oper) cs b, ops[j]? = some o → o.op ≠ .select cs b)
    (hs : Region.sinkB md ops n = true) (hc : Region.chainB md ops n = true) (hn : n < ops.size) (hin : i < n)
    (hdone : ∀ listed a, L listed a → ∀ j ∈ Region.ready md ops listed, n ≤ j) :
    ∀ (f : Nat) (listed : Array Bool) (a : Act), HeadInv md ops n listed →
      (∀ j oj, ops[j]? = some oj → j ≠ i → listed.getD j true = false → (∀ e ∈ oj.after, Region.binds md e = true → e.on ≠ i) → oi.apart ops oj = true) →
      i ∈ Region.ready md ops listed → YieldsIn P ops C oi v a →
      wpAnyLQ P md ops C n L f (listed.setIfInBounds i true) (a.put oi.dst v) → wpAnyLQ P md ops C n L (f + 1) listed a := by
  intro f
  induction f with
  | zero =>
    intro listed a inv _ hr hy H
    have hun := (mem_ready.1 hr).1
    refine ⟨fun h => (by rw [h] at hr; cases hr), fun j hj => ?_⟩
    have hjn : j < n := by
      rcases Nat.lt_or_ge j n with h | h
      · exact h
      · exact absurd hj (tail_waits hs hc hn inv _ i rfl hin hun j h)
    refine ⟨hjn, ?_⟩
    by_cases hji : j = i
    · subst hji; exact hy.qOp hi H
    · have := hdone _ _ H j (ready_mono hj hji)
      omega
  | succ f ih =>
    intro listed a inv hfree hr hy H
    have hun := (mem_ready.1 hr).1
    refine ⟨fun h => (by rw [h] at hr; cases hr), fun j hj => ?_⟩
    have hjn : j < n := by
      rcases Nat.lt_or_ge j n with h | h
      · exact h
      · exact absurd hj (tail_waits hs hc hn inv _ i rfl hin hun j h)
    refine ⟨hjn, ?_⟩
    by_cases hji : j = i
    · subst hji; exact hy.qOp hi H
    · have h1 := (H.2 j (ready_mono hj hji)).2
      obtain ⟨hjun, oj, hoj, hall⟩ := mem_ready.1 hj
      have hnot : ∀ e ∈ oj.after, Region.binds md e = true → e.on ≠ i := fun e he hb heq => by
        have h1 := hall e he hb
        rw [heq, getD_both hun] at h1
        cases h1
      have h2 := qOp_put hoj (hfree j oj hoj hji hjun hnot) (fun cs b => hsel i oi cs b hi) (fun cs b => hsel j oj cs b hoj) hy h1
      have hfree' : ∀ k ok, ops[k]? = some ok → k ≠ i → (listed.setIfInBounds j true).getD k true = false →
          (∀ e ∈ ok.after, Region.binds md e = true → e.on ≠ i) → oi.apart ops ok = true := fun k ok hk hki hun hno => by
        refine hfree k ok hk hki ?_ hno
        by_cases hjk : j = k
        · subst hjk; exact hjun
        · rw [getD_set_ne true hjk] at hun; exact hun
      refine qOp_mono (fun a' h3 => ih (listed.setIfInBounds j true) a' (inv.set hj hjn) hfree' (ready_mono hr (Ne.symm hji)) h3.1 ?_) h2
      rw [Array.setIfInBounds_comm _ _ hji]
      exact h3.2

theorem wpAnyLQ_lex {n g : Nat} {Lq : Act → Prop} (hsel : Region.noSelect ops = true) (hs : Region.sinkB md ops n = true) (hc : Region.chainB md ops n = true) (hn : n < ops.size) :
    ∀ (l : List Oper) (k : Nat) (listed : Array Bool) (a : Act), (∀ j, j < l.length → l[j]? = ops[k + j]?) → k + l.length = n → HeadInv md ops n listed →
    Region.lexHead md ops g l.length k listed = true → wpQuiet P ops C Lq l a →
    wpAnyLQ P md ops C n (fun listed' a' => Region.seqB md ops g n listed' = true ∧ Lq a') l.length listed a
  | [], k, listed, a, _, hk, _, hB, h => by
    have : k = n := by simpa using hk
    subst this
    exact ⟨by simpa [Region.lexHead] using hB, h⟩
  | o :: l, k, listed, a, hl, hk, inv, hB, h => by
    have h0 : ops[k]? = some o := by simpa using (hl 0 (by simp)).symm
    simp only [List.length_cons, Region.lexHead, Bool.and_eq_true] at hB
    obtain ⟨⟨hr, hf⟩, hB'⟩ := hB
    have hkn : k < n := by simp only [List.length_cons] at hk; omega
    have hr' : k ∈ Region.ready md ops listed := by simpa using hr
    have hst : qOp P ops C k (wpQuiet P ops C Lq l) a := by unfold qOp; simp only [h0]; exact h
    obtain ⟨v, hy, hK⟩ := yieldsIn_of_qOp h0 hst
    exact wpAnyLQ_first h0 (Region.noSelect_spec hsel) hs hc hn hkn (fun listed' a' hL => seqB_ready hL.1) l.length listed a inv (Region.free_spec h0 hf) hr' hy
      (wpAnyLQ_lex hsel hs hc hn l (k + 1) _ _ (fun j hj => by have := hl (j + 1) (by simp; omega); simpa [Nat.add_assoc, Nat.add_comm 1 j] using this) (by simp only [List.length_cons] at hk; omega) (inv.set hr' hkn) hB' hK)

/-- A REGION THAT DRAWS: n operations that keep a class of worlds (its worlds: f i), in whatever order, then a forced tail. -/
theorem wp_quiet_tail {id : Nat} {Q : Exit → Act → World → Prop} {a : Act} {w : World} {l : List Oper} (n : Nat) {I : Type} (f : I → World) (hw : ∃ i, w.drew = f i) (hm : P.follows .mixedOrders = true) (hB : Region.lexTailB .any l.toArray n = true)
    (h : wpQuiet P l.toArray (fun w' => ∃ i, w' = f i) (fun a' => ∀ i, wpList P l.toArray Q (l.drop n) a' (f i)) (l.take n) a) : (Code.region id l.toArray true).wp P Q a w := by
  simp only [Region.lexTailB, Bool.and_eq_true, decide_eq_true_eq] at hB
  obtain ⟨⟨⟨⟨hsel, hn⟩, hs⟩, hc⟩, hlex⟩ := hB
  have hn' : n < l.length := by simpa using hn
  have htl : (l.take n).length = n := by simp; omega
  have hdl : (l.drop n).length = l.toArray.size - n := by simp
  have inv0 : HeadInv .any l.toArray n (Array.replicate l.toArray.size false) :=
    ⟨by simp, fun j oj _ hl => (by rw [getD_replicate_false] at hl; cases hl), fun t _ ht => getD_in (by simpa using ht) (getD_replicate_false _ _)⟩
  have H := wpAnyLQ_lex (md := .any) (g := l.toArray.size - n) hsel hs hc hn (l.take n) 0 _ a (fun j hj => by
    have hj' : j < n := by rw [htl] at hj; exact hj
    simp [hj']) (by simpa using htl) inv0 (by rw [htl]; exact hlex) h
  refine wp_region_any hm ?_
  have := wpAny_of_headQ (Q' := Q) (g := l.toArray.size - n) (fun listed a' w' hw' hL => by
    obtain ⟨i, rfl⟩ := hw'
    have := wpAny_of_seq (md := .any) (Q' := Q) (l.drop n) n listed a' (f i) (fun j => by simp [List.getElem?_drop]) (by rw [hdl]; exact hL.1) (hL.2 i)
    rwa [hdl] at this) _ _ _ _ hw H
  rw [htl, show n + (l.toArray.size - n) = l.toArray.size by omega] at this
  exact this

/-- The worlds that keep what was in w, under a letter. -/
theorem kept_class (w : World) : ∃ (I : Type) (f : I → World), (∀ i, Keep [] w (f i)) ∧ ∀ W, Keep [] w W → ∃ i, W = f i :=
  ⟨{ W : World // Keep [] w W }, Subtype.val, fun i => i.2, fun W h => ⟨⟨W, h⟩, rfl⟩⟩
end
end Go.Proofs.YtbidppjhenfjdaaGreatDoor
namespace Go.Proofs.YtbidppjhenfjdaaGreatDoor
open Go.RowKit Go.Shelf
set_option linter.unusedVariables false

theorem gP : Tryz.prog.globalNamed "internal/strconv.uint64pow10" = some 2 := by kernel_rfl
theorem gS : Tryz.prog.globalNamed "strconv.ErrSyntax" = some 0 := by kernel_rfl
theorem gR : Tryz.prog.globalNamed "strconv.ErrRange" = some 1 := by kernel_rfl
theorem var_keep {P : Program} {n : String} {g : Nat} (hg : P.globalNamed n = some g) {w w' : World} {cs : Array Value} {L : List Nat} (h : w.var? P n = some cs) (k : Keep L w w') (hL : g ∉ L) : w'.var? P n = some cs := by
  unfold World.var? at h ⊢
  rw [hg, Option.bind_some] at h ⊢
  cases ho : w.heap[g]? with
  | none => rw [ho] at h; cases h
  | some o =>
    rw [ho] at h
    rw [k.at_ ho hL]
    exact h
theorem var_lt {P : Program} {n : String} {g : Nat} (hg : P.globalNamed n = some g) {w : World} {cs : Array Value} (h : w.var? P n = some cs) : g < w.heap.size := by
  unfold World.var? at h
  rw [hg, Option.bind_some] at h
  cases ho : w.heap[g]? with
  | none => rw [ho] at h; cases h
  | some o => exact (Array.getElem?_eq_some_iff.1 ho).1
/-- The listed variables. -/
def TQ (w : World) : Prop := TZ w ∧ Lib.TabIs Tryz.prog w "internal/strconv.uint64pow10" .u64 Lib.pow10Tab ∧ (∃ t p, w.var? Tryz.prog "strconv.ErrSyntax" = some #[.iface t p]) ∧ (∃ t p, w.var? Tryz.prog "strconv.ErrRange" = some #[.iface t p])
/-- Their blocks. -/
def tqB : List Nat := [5, 2, 0, 1]
theorem TQ.keep {w w' : World} {L : List Nat} (h : TQ w) (k : Keep L w w') (hL : ∀ b ∈ tqB, b ∉ L) : TQ w' := by
  obtain ⟨h1, h2, ⟨t, p, h3⟩, ⟨t', p', h4⟩⟩ := h
  exact ⟨h1.keep k (hL _ (by simp [tqB])), var_keep gP h2 k (hL _ (by simp [tqB])), ⟨t, p, var_keep gS h3 k (hL _ (by simp [tqB]))⟩, ⟨t', p', var_keep gR h4 k (hL _ (by simp [tqB]))⟩⟩
theorem TQ.keep0 {w w' : World} (h : TQ w) (k : Keep [] w w') : TQ w' := h.keep k (fun _ _ => by simp)
theorem TQ.lt {w : World} (h : TQ w) : ∀ b ∈ tqB, b < w.heap.size := by
  obtain ⟨h1, h2, ⟨t, p, h3⟩, ⟨t', p', h4⟩⟩ := h
  intro b hb
  simp only [tqB, List.mem_cons, List.not_mem_nil, or_false] at hb
  rcases hb with rfl | rfl | rfl | rfl
  · exact World.block_lt_of_cell? _ _ h1
  · exact var_lt gP h2
  · exact var_lt gS h3
  · exact var_lt gR h4
theorem keep_new {w w' : World} (h : Below w.heap.size w w') : Keep [] w w' := Keep.of_below h (Nat.le_refl _)

/-- What Atoi says. -/
theorem atoi_any (x : ByteArray) (w : World) (hz : x.size ≤ 100000000) (hT : TQ w) : Calls Tryz.prog 45 #[.string x] w fun e w' =>
    Keep [] w w' ∧ ((∃ v, Lib.atoiAll x.data.toList = .ok v ∧ e = .returned (.tuple #[.int .i64 v, .nilIface])) ∨ ((∀ v, Lib.atoiAll x.data.toList ≠ .ok v) ∧ ∃ z t q, e = .returned (.tuple #[.int .i64 z, .iface t q]))) := by
  obtain ⟨h1, h2, ⟨t, p, h3⟩, ⟨t', p', h4⟩⟩ := hT
  cases ha : Lib.atoiAll x.data.toList with
  | ok v =>
    refine (Tryz.strconv_Atoi_ok x (by omega) v ha w).mono ?_
    rintro e w' ⟨rfl, rfl | ⟨y, rfl⟩⟩
    · exact ⟨Keep.refl _ _, .inl ⟨v, rfl, rfl⟩⟩
    · exact ⟨keep_new ⟨rfl, rfl, rfl, by rw [Lib.bytesWorld_size]; omega, fun k hk => Lib.bytesWorld_at_old w _ _ k (by omega)⟩, .inl ⟨v, rfl, rfl⟩⟩
  | range =>
    refine (Tryz.strconv_Atoi_range_var x (by omega) ha t' p' w h4).mono ?_
    rintro e w' ⟨N, rfl, _, _, hb⟩
    exact ⟨keep_new hb, .inr ⟨fun v hv => (by cases hv), _, _, _, rfl⟩⟩
  | _ =>
    refine (Tryz.strconv_Atoi_syntax_var x (by omega) ha t p w h3).mono ?_
    rintro e w' ⟨N, rfl, _, _, hb⟩
    exact ⟨keep_new hb, .inr ⟨fun v hv => (by cases hv), _, _, _, rfl⟩⟩
theorem atoi_range {l : List UInt8} {v : Int} (h1 : Lib.atoiAll l = .ok v) : -9223372036854775808 ≤ v ∧ v < 9223372036854775808 := by
  unfold Lib.atoiAll at h1
  cases l with
  | nil => cases h1
  | cons c r =>
    simp only at h1
    split at h1
    · cases h1
    · cases h1
    · split at h1
      · cases h1
      · split at h1
        · cases h1
        · injection h1 with h1
          split at h1 <;> omega
/-- What Itoa says. -/
theorem itoa_any (v : Int) (w : World) (h : -9223372036854775808 ≤ v ∧ v < 9223372036854775808) (hT : TQ w) : Calls Tryz.prog 31 #[.int .i64 v] w fun e w' => e = .returned (.string ⟨(Lib.itoa v).toArray⟩) ∧ Keep [] w w' := by
  refine (Tryz.strconv_Itoa v h.1 (by omega) w hT.2.1).mono ?_
  rintro e w' ⟨rfl, k, os, rfl⟩
  refine ⟨rfl, ?_⟩
  have h1 : Keep [] w (w.drewN k) := (Keep.refl [] w).drewN k
  have h2 : Keep [] (w.drewN k) (Sort.grow (w.drewN k) os) := ⟨rfl, rfl, rfl, by simp [Sort.grow], fun b hb _ => by simp only [Sort.grow]; rw [Array.getElem?_append_left hb]⟩
  exact h1.trans0 h2
end Go.Proofs.YtbidppjhenfjdaaGreatDoor
namespace Go.Proofs.YtbidppjhenfjdaaGreatDoor
open Go.RowKit Go.Shelf
set_option linter.unusedVariables false
set_option linter.unusedSimpArgs false
attribute [local go_sem] Oper.semAt_some

theorem scan_any (s : ByteArray) (w : World) : Calls Tryz.prog 19 #[.string s] w fun e w' =>
    e = .returned (.func (.func 42) #[] #[.pointer (some ⟨w.heap.size, 0, none⟩)]) ∧ w' = w.alloc (.cells #[.string s] 9) := by
  go_enter Tryz.func19, Tryz.ntmps19
  go_wp2
  go_ret
  exact ⟨rfl, rfl⟩
/-- The text in its box. -/
def BoxNeed (b : Nat) (s : ByteArray) (W : World) : Prop := W.heap[b]? = some (.cells #[.string s] 9 (0, 0))
/-- What yield is handed. -/
def fnArgs (f : Fn) : Array Value := #[.agg #[.int .i64 (f.k : Nat), .string f.t, .int .i64 f.n, .int .i64 (f.a : Nat), .int .i64 (f.l : Nat)], .int .i64 (f.e : Nat)]
/-- The frame at a label. -/
def frm (y p : Value) (a l : Nat) (sm : Bool) (e c : Value) (g : Nat) (U : Nat → Value) : Act := ⟨#[y, p, U 2, .int .i64 (a : Nat), .int .i64 (l : Nat), .bool sm, e, c, U 8, U 9, .pointer (some ⟨g, 0, none⟩), U 11, U 12, U 13, U 14, U 15, U 16, U 17, U 18, U 19, U 20, U 21, U 22, U 23, U 24, U 25, U 26, U 27, U 28, U 29, U 30, U 31, U 32, U 33, U 34, U 35, U 36, U 37, U 38, U 39, U 40, U 41, U 42, U 43, U 44, U 45, U 46, U 47, U 48, U 49, U 50, U 51, U 52, U 53, U 54, U 55, U 56, U 57, U 58, U 59, U 60, U 61, U 62, U 63, U 64, U 65, U 66, U 67, U 68, U 69, U 70, U 71, U 72, U 73, U 74, U 75, U 76, U 77, U 78, U 79, U 80, U 81, U 82, U 83, U 84, U 85, U 86, U 87, U 88, U 89, U 90, U 91, U 92, U 93, U 94, U 95, U 96, U 97, U 98, U 99, U 100, U 101, U 102, U 103, U 104, U 105, U 106, U 107, U 108, U 109, U 110, U 111, U 112, U 113, U 114, U 115, U 116, U 117, U 118, U 119, U 120, U 121, U 122, U 123, U 124, U 125, U 126, U 127, U 128, U 129, U 130, U 131, U 132, U 133, U 134, U 135, U 136, U 137, U 138, U 139, U 140, U 141, U 142, U 143, U 144, U 145, U 146, U 147, U 148, U 149, U 150, U 151, U 152, U 153, U 154, U 155, U 156, U 157], []⟩
def FrA (A : Act) (y : Value) (b a l : Nat) (sm : Bool) (e c : Value) (g : Nat) : Prop := ∃ U, A = frm y (.pointer (some ⟨b, 0, none⟩)) a l sm e c g U
theorem FrA.mk {A : Act} {y : Value} {b a l : Nat} {sm : Bool} {e c : Value} {g : Nat} (h : A = frm y (.pointer (some ⟨b, 0, none⟩)) a l sm e c g (fun i => A.tmps.getD i undef)) : FrA A y b a l sm e c g := ⟨_, h⟩

theorem yield_at {P : Program} {y : Value} {J Jx : Nat → List Nat → World → Prop} {Z L R : List Fn} {f : Fn} (hZ : Z = L ++ f :: R)
    (hY : ∀ k (hk : k < (Z.map fnArgs).length) fp W1, J k fp W1 → CallV P y (Z.map fnArgs)[k] W1 (RoundPost J Jx k fp W1)) : L.length < (Z.map fnArgs).length ∧ ∀ fp W1, J L.length fp W1 → CallV P y (fnArgs f) W1 (RoundPost J Jx L.length fp W1) := by
  subst hZ
  have hk : L.length < ((L ++ f :: R).map fnArgs).length := by simp
  refine ⟨hk, fun fp W1 h => ?_⟩
  have := hY L.length hk fp W1 h
  simpa using this
/-- What holds at every label: what has been handed on, what is to come, the word's variable. -/
def SSt (b g : Nat) (s : ByteArray) (J : Nat → List Nat → World → Prop) (L R : List Fn) (cs : Array Value) (w : World) : Prop :=
  scn s 0 1 false = L ++ R ∧ BoxNeed b s w ∧ TQ w ∧ w.heap[g]? = some (.cells cs 67 (0, 0)) ∧ ∃ fp, J L.length fp w ∧ ∀ x ∈ g :: b :: tqB, x ∉ fp
theorem SSt.rest {b g : Nat} {s : ByteArray} {J : Nat → List Nat → World → Prop} {L R R' : List Fn} {cs : Array Value} {w : World} (h : SSt b g s J L R cs w) (e : R = R') : SSt b g s J L R' cs w := e ▸ h
/-- Behind writes to the word's variable, and new memory. -/
theorem SSt.wrote {b g : Nat} {s : ByteArray} {J : Nat → List Nat → World → Prop} {L R : List Fn} {cs cs' : Array Value} {w w' W : World} (h : SSt b g s J L R cs w) (hJ : ∀ k, Steady [] W (J k)) (hg : W.heap.size = g) (hlt : ∀ x ∈ b :: tqB, x < g)
    (hk : Keep [g] w w') (hc : w'.heap[g]? = some (.cells cs' 67 (0, 0))) : SSt b g s J L R cs' w' := by
  obtain ⟨h1, h2, h3, h4, fp, h5, h6⟩ := h
  have hn : ∀ x ∈ b :: tqB, x ∉ [g] := fun x hx => by have := hlt x hx; simp; omega
  exact ⟨h1, hk.at_ h2 (hn _ (by simp)), h3.keep hk (fun x hx => hn x (List.mem_cons_of_mem _ hx)), hc, fp, hJ _ fp w w' [g] h5 hk (fun x hx => by simp at hx; subst hx; exact ⟨h6 _ (by simp), .inr (by omega)⟩), h6⟩
theorem SSt.keep0 {b g : Nat} {s : ByteArray} {J : Nat → List Nat → World → Prop} {L R : List Fn} {cs : Array Value} {w w' W : World} (h : SSt b g s J L R cs w) (hJ : ∀ k, Steady [] W (J k)) (hg : W.heap.size = g) (hlt : ∀ x ∈ b :: tqB, x < g)
    (hk : Keep [] w w') : SSt b g s J L R cs w' := h.wrote hJ hg hlt (hk.mono (by simp)) (hk.at_ h.2.2.2.1 (by simp))
/-- Behind a yield that says go on. -/
theorem SSt.next {b g : Nat} {s : ByteArray} {J : Nat → List Nat → World → Prop} {L R : List Fn} {f : Fn} {cs : Array Value} {w w' : World} {fp fp' : List Nat} (h : scn s 0 1 false = L ++ f :: R) (hb : BoxNeed b s w) (hT : TQ w) (hg : w.heap[g]? = some (.cells cs 67 (0, 0)))
    (h6 : ∀ x ∈ g :: b :: tqB, x ∉ fp) (hj : J (L.length + 1) fp' w') (hk : Keep fp w w') (hn : FromNew fp fp' w) : SSt b g s J (L ++ [f]) R cs w' := by
  have hlt : ∀ x ∈ g :: b :: tqB, x < w.heap.size := by
    intro x hx
    rcases List.mem_cons.1 hx with rfl | hx
    · exact lt_of_block hg
    · rcases List.mem_cons.1 hx with rfl | hx
      · exact lt_of_block hb
      · exact hT.lt x hx
  refine ⟨by rw [h, List.append_assoc]; rfl, hk.at_ hb (h6 _ (by simp)), hT.keep hk (fun x hx => h6 x (by simp [hx])), hk.at_ hg (h6 _ (by simp)), fp', by rw [List.length_append, List.length_singleton]; exact hj, fun x hx hm => ?_⟩
  rcases hn _ hm with h | h
  · exact h6 x hx h
  · have := hlt x hx; omega
/-- Its end. -/
theorem SSt.over {b g : Nat} {s : ByteArray} {J : Nat → List Nat → World → Prop} {L R : List Fn} {cs : Array Value} {w : World} (h : SSt b g s J L R cs w) (hR : R = []) : (∃ fp', J ((scn s 0 1 false).map fnArgs).length fp' w) := by
  subst hR
  obtain ⟨h1, _, _, _, fp, h5, _⟩ := h
  rw [List.append_nil] at h1
  rw [h1, List.length_map]
  exact ⟨fp, h5⟩
/-- At each label. -/
def J1 (b g : Nat) (s : ByteArray) (y : Value) (J : Nat → List Nat → World → Prop) (A : Act) (w : World) : Prop :=
  ∃ (a l : Nat) (sm : Bool) (e c : Value) (L : List Fn) (cs : Array Value), FrA A y b a l sm e c g ∧ a ≤ s.size ∧ l ≤ a + 1 ∧ cs.size = 5 ∧ SSt b g s J L (scn s a l sm) cs w
def J0 (b g : Nat) (s : ByteArray) (y : Value) (J : Nat → List Nat → World → Prop) (A : Act) (w : World) : Prop :=
  ∃ (a l : Nat) (sm : Bool) (e c : Value) (L : List Fn) (cs : Array Value), FrA A y b a l sm e c g ∧ a ≤ s.size ∧ l ≤ a + 1 ∧ (a < s.size → byt s a = 10 ∨ byt s a = 13) ∧ cs.size = 5 ∧ SSt b g s J L (scn s a l sm) cs w
def J2 (b g : Nat) (s : ByteArray) (y : Value) (J : Nat → List Nat → World → Prop) (A : Act) (w : World) : Prop :=
  ∃ (a l : Nat) (sm : Bool) (e c : Value) (L : List Fn) (cs : Array Value), FrA A y b a l sm e c g ∧ a < s.size ∧ byt s a = 35 ∧ l ≤ a + 1 ∧ cs.size = 5 ∧ SSt b g s J L (scn s (rem s a) l sm) cs w
def J3 (b g : Nat) (s : ByteArray) (y : Value) (J : Nat → List Nat → World → Prop) (A : Act) (w : World) : Prop :=
  ∃ (a l : Nat) (e c : Value) (L : List Fn), FrA A y b a l true e c g ∧ WordAt s a ∧ byt s a = 34 ∧ l ≤ a + 1 ∧ SSt b g s J L (scn s a l true) #[.int .i64 0, .string ⟨#[]⟩, .int .i64 0, .int .i64 (a : Nat), .int .i64 (l : Nat)] w
def J4 (b g : Nat) (s : ByteArray) (y : Value) (J : Nat → List Nat → World → Prop) (A : Act) (w : World) : Prop :=
  ∃ (a l e c : Nat) (sm : Bool) (L : List Fn) (cs : Array Value), FrA A y b a l sm (.int .i64 (e : Nat)) (.int .i64 (c : Nat)) g ∧ SSt b g s J L [⟨0, ByteArray.empty, 0, e, l, c⟩] cs w
def J5 (b g : Nat) (s : ByteArray) (y : Value) (J : Nat → List Nat → World → Prop) (A : Act) (w : World) : Prop :=
  ∃ (a l e : Nat) (c : Value) (L : List Fn) (k : Nat) (t : ByteArray) (n : Int) (a' l' : Nat), FrA A y b a l true (.int .i64 (e : Nat)) c g ∧ a < e ∧ e ≤ s.size ∧ l ≤ a + 1 ∧ SSt b g s J L (⟨k, t, n, a', l', 0⟩ :: scn s e l true) #[.int .i64 (k : Nat), .string t, .int .i64 n, .int .i64 (a' : Nat), .int .i64 (l' : Nat)] w
/-- The word's variable is written whole. -/
theorem five_set {w : World} {g : Nat} {c0 c1 c2 c3 c4 v0 v1 v2 v3 v4 : Value} {t : TypeId} (h : w.heap[g]? = some (.cells #[c0, c1, c2, c3, c4] t (0, 0))) :
    (((((w.setCell ⟨g, 0, none⟩ v0).setCell ⟨g, 1, none⟩ v1).setCell ⟨g, 2, none⟩ v2).setCell ⟨g, 3, none⟩ v3).setCell ⟨g, 4, none⟩ v4).heap[g]? = some (.cells #[v0, v1, v2, v3, v4] t (0, 0)) ∧
    Keep [g] w (((((w.setCell ⟨g, 0, none⟩ v0).setCell ⟨g, 1, none⟩ v1).setCell ⟨g, 2, none⟩ v2).setCell ⟨g, 3, none⟩ v3).setCell ⟨g, 4, none⟩ v4) := by
  refine ⟨?_, (((((Keep.refl _ _).setCell (by simp) _).setCell (by simp) _).setCell (by simp) _).setCell (by simp) _).setCell (by simp) _⟩
  have h0 := block_setCell h 0 v0
  have h1 := block_setCell h0 1 v1
  have h2 := block_setCell h1 2 v2
  have h3 := block_setCell h2 3 v3
  exact block_setCell h3 4 v4
/-- Its kind and its text are written. -/
theorem two_set {w : World} {g : Nat} {c0 c1 c2 c3 c4 v0 v1 : Value} {t : TypeId} (h : w.heap[g]? = some (.cells #[c0, c1, c2, c3, c4] t (0, 0))) :
    ((w.setCell ⟨g, 0, none⟩ v0).setCell ⟨g, 1, none⟩ v1).heap[g]? = some (.cells #[v0, v1, c2, c3, c4] t (0, 0)) ∧
    Keep [g] w ((w.setCell ⟨g, 0, none⟩ v0).setCell ⟨g, 1, none⟩ v1) := by
  refine ⟨?_, ((Keep.refl _ _).setCell (by simp) _).setCell (by simp) _⟩
  have h0 := block_setCell h 0 v0
  exact block_setCell h0 1 v1
theorem three_set {w : World} {g : Nat} {c0 c1 c2 c3 c4 v0 v1 v2 : Value} {t : TypeId} (h : w.heap[g]? = some (.cells #[c0, c1, c2, c3, c4] t (0, 0))) :
    (((w.setCell ⟨g, 0, none⟩ v0).setCell ⟨g, 1, none⟩ v1).setCell ⟨g, 2, none⟩ v2).heap[g]? = some (.cells #[v0, v1, v2, c3, c4] t (0, 0)) ∧
    Keep [g] w (((w.setCell ⟨g, 0, none⟩ v0).setCell ⟨g, 1, none⟩ v1).setCell ⟨g, 2, none⟩ v2) := by
  refine ⟨?_, (((Keep.refl _ _).setCell (by simp) _).setCell (by simp) _).setCell (by simp) _⟩
  have h0 := block_setCell h 0 v0
  have h1 := block_setCell h0 1 v1
  exact block_setCell h1 2 v2
/-- At a word it does not matter what came before it in its line. -/
theorem scn_sm {s : ByteArray} {a l : Nat} {sm : Bool} (h : WordAt s a) : scn s a l sm = scn s a l true := by
  by_cases h1 : byt s a = 34
  · rcases hq : qtd s a with ⟨ok, x, e⟩
    cases ok with
    | false => exact (scn_unq h h1 hq (.inl rfl)).trans (scn_unq h h1 hq (.inl rfl)).symm
    | true =>
      cases he : endB s e with
      | false => exact (scn_unq h h1 hq (.inr he)).trans (scn_unq h h1 hq (.inr he)).symm
      | true => exact (scn_quote h h1 hq he).trans (scn_quote h h1 hq he).symm
  · rcases hp : plF s a l with ⟨f, _ | e⟩
    · exact (scn_bad h h1 hp).trans (scn_bad h h1 hp).symm
    · exact (scn_plain h h1 hp).trans (scn_plain h h1 hp).symm
theorem slice_w (s : ByteArray) {a p : Nat} (h1 : a ≤ p) (h2 : p ≤ s.size) (w : World) : (Instr.slice 9 (.string s) (some (.int .i64 a)) (some (.int .i64 p)) none).run Tryz.prog w = .ok (.string (s.extract a p)) w := by
  rw [run_slice_string_if _ _ _ _ _ _ _ Tryz.underlying9, if_pos (by omega), if_pos (by omega)]; rfl
theorem ar9 {c n : Nat} {d : Int} (h : d = (c : Nat)) (e : c = n) : (d != (n : Int)) = false := by simp; omega
theorem five {cs : Array Value} (h : cs.size = 5) : ∃ c0 c1 c2 c3 c4, cs = #[c0, c1, c2, c3, c4] := by
  obtain ⟨l⟩ := cs
  match l, h with
  | [c0, c1, c2, c3, c4], _ => exact ⟨c0, c1, c2, c3, c4, rfl⟩

set_option maxHeartbeats 64000000 in
set_option maxRecDepth 100000 in
theorem scan1_iters (b : Nat) (s : ByteArray) (hz : s.size ≤ 100000000) :
    Iters Tryz.prog 42 #[.pointer (some ⟨b, 0, none⟩)] ((scn s 0 1 false).map fnArgs) [] (b :: tqB) (fun W => BoxNeed b s W ∧ TQ W) := by
  intro y J Jx fp W hN hown hrd hJ hJx hY hfpl h0
  have HN := Lib.hid hN
  have HRD := Lib.hid hrd
  have HJ := Lib.hid hJ
  have HH0 := Lib.hid h0
  have HFP := Lib.hid hfpl
  clear hown hN hrd hJ hJx h0 hfpl
  have HYY := Lib.hid hY; clear hY
  obtain ⟨g, hg⟩ : ∃ g, W.heap.size = g := ⟨_, rfl⟩
  have HG := Lib.hid hg
  have HLT := Lib.hid (show ∀ x ∈ b :: tqB, x < g from fun x hx => hg ▸ (HRD.out x hx).1)
  refine (callsIn_wide (n := 0)).1 ?_
  refine callsIn_of_wp Tryz.func42 rfl trivial ?_
  simp only [Tryz.ntmps42, List.size_toArray, List.length_cons, List.length_nil, Nat.reduceAdd, Nat.reduceSub, Array.replicate_succ, Array.replicate_zero, List.push_toArray, List.append_toArray, List.nil_append, List.cons_append]
  refine wpIn_scope6q
    (J0 b g s y J) (J1 b g s y J) (J2 b g s y J) (J3 b g s y J) (J4 b g s y J) (J5 b g s y J)
    (fun l A w => 10 * (s.size - (intOf (A.tmps.getD 3 undef)).toNat) + (match l with | 0 => 3 | 1 => 5 | 2 => 4 | 3 => 4 | 4 => 0 | _ => 2))
    rfl rfl rfl rfl rfl rfl ?first ?p0 ?p1 ?p2 ?p3 ?p4 ?p5
  case first =>
    intro hp1
    gi_wp2
    refine wpIn_label ?_
    rename_i K hK
    have h := HN.out
    refine hK _ _ (hp1 _ _ ?_)
    exact (show J1 b g s y J _ _ from ⟨0, 1, false, _, _, [], #[.int .i64 0, .string ⟨#[]⟩, .int .i64 0, .int .i64 0, .int .i64 0], FrA.mk rfl, Nat.zero_le _, Nat.le_refl _, rfl, rfl,
      ((Keep.refl [] W).alloc _).at_ h.1 (by simp), h.2.keep0 ((Keep.refl [] W).alloc _), by rw [← HG.out]; exact World.alloc_heap_new W _, fp, HJ.out 0 fp W _ [] HH0.out ((Keep.refl [] W).alloc _) (fun x hx => by cases hx), fun x hx => by
        rcases List.mem_cons.1 hx with rfl | hx
        · intro hm; have := HFP.out _ hm; have := HG.out; omega
        · exact (HRD.out x hx).2⟩)
  case p0 =>
    clear hg
    rintro A w ⟨a, l, sm, e, c, L, cs, ⟨U, rfl⟩, ha, hla, hnl, hcs, hs⟩
    obtain ⟨c0, c1, c2, c3, c4, rfl⟩ := five hcs
    unfold frm
    have HA := Lib.hid hla
    have hlz : l ≤ 100000001 := by omega
    clear hcs hla
    by_cases hlt : a < s.size
    · have hlb := lineB_more hlt
      have f1 : ((a : Int) == (s.size : Int)) = false := by simp; omega
      have f2 : (a == s.size) = false := by simp; omega
      have hix := byte_z (s := s) (i := a) (z := (a : Nat)) hlt rfl
      have hi2 : byt s a = 13 → a + 1 < s.size → ∀ W, _ := fun _ h W => byte_z (s := s) (i := a + 1) (z := (a : Int) + 1) h (by omega) W
      have hcase : (byt s a = 10 ∧ lineB s a = a + 1) ∨ (byt s a = 13 ∧ a + 1 < s.size ∧ byt s (a + 1) = 10 ∧ lineB s a = a + 2) ∨ (byt s a = 13 ∧ a + 1 < s.size ∧ byt s (a + 1) ≠ 10 ∧ lineB s a = a + 1) ∨ (byt s a = 13 ∧ ¬ a + 1 < s.size ∧ lineB s a = a + 1) := by
        have := hnl hlt
        unfold lineB
        split <;> omega
      have hbb := byt_lt s (a + 1)
      have hsl := scn_line (l := l) (sm := sm) hlt (hnl hlt)
      rcases hcase with ⟨hc, hb⟩ | ⟨hc, hn1, hn2, hb⟩ | ⟨hc, hn1, hn2, hb⟩ | ⟨hc, hn1, hb⟩
      · -- a line feed
        rw [hc] at hix
        rw [hb] at hsl hlb
        clear hc hb hi2 hbb hnl
        cases sm with
        | false =>
          have HS := Lib.hid (hs.rest (R' := scn s (a + 1) (l + 1) false) hsl)
          have kb := cell_of_block hs.2.1 0
          simp at kb
          clear hs hsl
          gi_wp2
          refine ⟨fun f h => (by cases h), ?_⟩
          first | (rename_i K hK; refine hK _ _ ?_) | (rename_i K hK h1; refine hK _ _ ?_) | (rename_i K hK h1 h2; refine hK _ _ ?_) | (rename_i K hK h1 h2 h3; refine hK _ _ ?_) | (rename_i K hK h1 h2 h3 h4; refine hK _ _ ?_)
          gi_wp2
          refine wpIn_goto (And.intro ?_ ?_)
          · exact (show J1 b g s y J _ _ from ⟨a + 1, l + 1, false, _, _, L, _, FrA.mk rfl, hlb.2, by have := HA.out; omega, rfl, HS.out⟩)
          · exact (show 10 * (s.size - (a + 1)) + 5 < 10 * (s.size - a) + 3 by omega)
        | true =>
          have hs2 := hs.rest (R' := ⟨4, ByteArray.empty, 0, a, l, 0⟩ :: scn s (a + 1) (l + 1) false) hsl
          obtain ⟨hz1, hbx, hT, hgx, fp1, hj1, hfp⟩ := hs2
          obtain ⟨hkk, hy⟩ := yield_at hz1 HYY.out
          have HY := Lib.hid (hy fp1 w hj1)
          have HKK := Lib.hid hkk
          unfold fnArgs at HY
          dsimp only at HY
          have HNX := Lib.hid (fun (fp' : List Nat) (w' : World) (hj : J (L.length + 1) fp' w') (hk : Keep fp1 w w') (hn : FromNew fp1 fp' w) => SSt.next (J := J) (w' := w') (fp' := fp') hz1 hbx hT hgx hfp hj hk hn)
          have kb := cell_of_block hbx 0
          simp at kb
          clear hs hsl hy hkk hz1 hj1 hgx hbx hT hfp
          gi_wp2_with (with_reducible refine park_call 123 _ _ rfl ?_)
          refine wpListIn_callV (.inl rfl) rfl (.tmp 123) [.tmp 126, .const (.int .i64 0)] #[67, 24] rfl y rfl [.agg #[.int .i64 4, .string ⟨#[]⟩, .int .i64 0, .int .i64 (a : Nat), .int .i64 (l : Nat)], .int .i64 0] rfl _ HY.out ?_
          rintro e' w3 (⟨rfl, fp', hj', hkp, hfn⟩ | ⟨rfl, fp', hj', hkp, hfn⟩)
          · refine ⟨_, rfl, ?_⟩
            have HS3 := Lib.hid (HNX.out fp' w3 hj' hkp hfn)
            clear hj' hkp hfn HNX kb
            have kb := cell_of_block HS3.out.2.1 0
            simp at kb
            gi_wp2
            refine wpIn_goto (And.intro ?_ ?_)
            · exact (show J1 b g s y J _ _ from ⟨a + 1, l + 1, false, _, _, _, _, FrA.mk rfl, hlb.2, by have := HA.out; omega, rfl, HS3.out⟩)
            · exact (show 10 * (s.size - (a + 1)) + 5 < 10 * (s.size - a) + 3 by omega)
          · refine ⟨_, rfl, ?_⟩
            have HJ' := Lib.hid hj'
            clear hj' hkp hfn HNX kb
            gi_wp2
            exact bodyPost_ret (results_none rfl _ _ _) rfl ⟨rfl, .inr ⟨L.length, fp', by have := HKK.out; first | exact this | (rw [List.length_map] at this; exact this), HJ'.out⟩⟩
      · -- both
        have hi3 := hi2 hc hn1
        have g1 := dec_lt_t (show (a : Int) + 1 < (s.size : Int) by omega)
        have g2 := dec_ltn_t hn1
        rw [hn2] at hi3
        rw [hc] at hix
        rw [hb] at hsl hlb
        clear hc hb hi2 hbb hn1 hn2 hnl
        cases sm with
        | false =>
          have HS := Lib.hid (hs.rest (R' := scn s (a + 2) (l + 1) false) hsl)
          have kb := cell_of_block hs.2.1 0
          simp at kb
          clear hs hsl
          gi_wp2
          refine ⟨fun f h => (by cases h), ?_⟩
          first | (rename_i K hK; refine hK _ _ ?_) | (rename_i K hK h1; refine hK _ _ ?_) | (rename_i K hK h1 h2; refine hK _ _ ?_) | (rename_i K hK h1 h2 h3; refine hK _ _ ?_) | (rename_i K hK h1 h2 h3 h4; refine hK _ _ ?_)
          gi_wp2
          refine wpIn_goto (And.intro ?_ ?_)
          · exact (show J1 b g s y J _ _ from ⟨a + 2, l + 1, false, _, _, L, _, FrA.mk rfl, hlb.2, by have := HA.out; omega, rfl, HS.out⟩)
          · exact (show 10 * (s.size - (a + 2)) + 5 < 10 * (s.size - a) + 3 by omega)
        | true =>
          have hs2 := hs.rest (R' := ⟨4, ByteArray.empty, 0, a, l, 0⟩ :: scn s (a + 2) (l + 1) false) hsl
          obtain ⟨hz1, hbx, hT, hgx, fp1, hj1, hfp⟩ := hs2
          obtain ⟨hkk, hy⟩ := yield_at hz1 HYY.out
          have HY := Lib.hid (hy fp1 w hj1)
          have HKK := Lib.hid hkk
          unfold fnArgs at HY
          dsimp only at HY
          have HNX := Lib.hid (fun (fp' : List Nat) (w' : World) (hj : J (L.length + 1) fp' w') (hk : Keep fp1 w w') (hn : FromNew fp1 fp' w) => SSt.next (J := J) (w' := w') (fp' := fp') hz1 hbx hT hgx hfp hj hk hn)
          have kb := cell_of_block hbx 0
          simp at kb
          clear hs hsl hy hkk hz1 hj1 hgx hbx hT hfp
          gi_wp2_with (with_reducible refine park_call 123 _ _ rfl ?_)
          refine wpListIn_callV (.inl rfl) rfl (.tmp 123) [.tmp 126, .const (.int .i64 0)] #[67, 24] rfl y rfl [.agg #[.int .i64 4, .string ⟨#[]⟩, .int .i64 0, .int .i64 (a : Nat), .int .i64 (l : Nat)], .int .i64 0] rfl _ HY.out ?_
          rintro e' w3 (⟨rfl, fp', hj', hkp, hfn⟩ | ⟨rfl, fp', hj', hkp, hfn⟩)
          · refine ⟨_, rfl, ?_⟩
            have HS3 := Lib.hid (HNX.out fp' w3 hj' hkp hfn)
            clear hj' hkp hfn HNX kb
            have kb := cell_of_block HS3.out.2.1 0
            simp at kb
            gi_wp2
            refine wpIn_goto (And.intro ?_ ?_)
            · exact (show J1 b g s y J _ _ from ⟨a + 2, l + 1, false, _, _, _, _, FrA.mk rfl, hlb.2, by have := HA.out; omega, rfl, HS3.out⟩)
            · exact (show 10 * (s.size - (a + 2)) + 5 < 10 * (s.size - a) + 3 by omega)
          · refine ⟨_, rfl, ?_⟩
            have HJ' := Lib.hid hj'
            clear hj' hkp hfn HNX kb
            gi_wp2
            exact bodyPost_ret (results_none rfl _ _ _) rfl ⟨rfl, .inr ⟨L.length, fp', by have := HKK.out; first | exact this | (rw [List.length_map] at this; exact this), HJ'.out⟩⟩
      · -- a return, and more
        have hi3 := hi2 hc hn1
        have g1 := dec_lt_t (show (a : Int) + 1 < (s.size : Int) by omega)
        have g2 := dec_ltn_t hn1
        obtain ⟨d, hd⟩ : ∃ d : Int, d = ((byt s (a + 1) : Nat) : Int) := ⟨_, rfl⟩
        rw [← hd] at hi3
        have g3 : (d == 10) = false := ((ar4 hd).2 hn2).1
        rw [hc] at hix
        rw [hb] at hsl hlb
        clear hc hb hi2 hbb hn1 hn2 hd hnl
        cases sm with
        | false =>
          have HS := Lib.hid (hs.rest (R' := scn s (a + 1) (l + 1) false) hsl)
          have kb := cell_of_block hs.2.1 0
          simp at kb
          clear hs hsl
          gi_wp2
          refine ⟨fun f h => (by cases h), ?_⟩
          first | (rename_i K hK; refine hK _ _ ?_) | (rename_i K hK h1; refine hK _ _ ?_) | (rename_i K hK h1 h2; refine hK _ _ ?_) | (rename_i K hK h1 h2 h3; refine hK _ _ ?_) | (rename_i K hK h1 h2 h3 h4; refine hK _ _ ?_)
          gi_wp2
          refine wpIn_goto (And.intro ?_ ?_)
          · exact (show J1 b g s y J _ _ from ⟨a + 1, l + 1, false, _, _, L, _, FrA.mk rfl, hlb.2, by have := HA.out; omega, rfl, HS.out⟩)
          · exact (show 10 * (s.size - (a + 1)) + 5 < 10 * (s.size - a) + 3 by omega)
        | true =>
          have hs2 := hs.rest (R' := ⟨4, ByteArray.empty, 0, a, l, 0⟩ :: scn s (a + 1) (l + 1) false) hsl
          obtain ⟨hz1, hbx, hT, hgx, fp1, hj1, hfp⟩ := hs2
          obtain ⟨hkk, hy⟩ := yield_at hz1 HYY.out
          have HY := Lib.hid (hy fp1 w hj1)
          have HKK := Lib.hid hkk
          unfold fnArgs at HY
          dsimp only at HY
          have HNX := Lib.hid (fun (fp' : List Nat) (w' : World) (hj : J (L.length + 1) fp' w') (hk : Keep fp1 w w') (hn : FromNew fp1 fp' w) => SSt.next (J := J) (w' := w') (fp' := fp') hz1 hbx hT hgx hfp hj hk hn)
          have kb := cell_of_block hbx 0
          simp at kb
          clear hs hsl hy hkk hz1 hj1 hgx hbx hT hfp
          gi_wp2_with (with_reducible refine park_call 123 _ _ rfl ?_)
          refine wpListIn_callV (.inl rfl) rfl (.tmp 123) [.tmp 126, .const (.int .i64 0)] #[67, 24] rfl y rfl [.agg #[.int .i64 4, .string ⟨#[]⟩, .int .i64 0, .int .i64 (a : Nat), .int .i64 (l : Nat)], .int .i64 0] rfl _ HY.out ?_
          rintro e' w3 (⟨rfl, fp', hj', hkp, hfn⟩ | ⟨rfl, fp', hj', hkp, hfn⟩)
          · refine ⟨_, rfl, ?_⟩
            have HS3 := Lib.hid (HNX.out fp' w3 hj' hkp hfn)
            clear hj' hkp hfn HNX kb
            have kb := cell_of_block HS3.out.2.1 0
            simp at kb
            gi_wp2
            refine wpIn_goto (And.intro ?_ ?_)
            · exact (show J1 b g s y J _ _ from ⟨a + 1, l + 1, false, _, _, _, _, FrA.mk rfl, hlb.2, by have := HA.out; omega, rfl, HS3.out⟩)
            · exact (show 10 * (s.size - (a + 1)) + 5 < 10 * (s.size - a) + 3 by omega)
          · refine ⟨_, rfl, ?_⟩
            have HJ' := Lib.hid hj'
            clear hj' hkp hfn HNX kb
            gi_wp2
            exact bodyPost_ret (results_none rfl _ _ _) rfl ⟨rfl, .inr ⟨L.length, fp', by have := HKK.out; first | exact this | (rw [List.length_map] at this; exact this), HJ'.out⟩⟩
      · -- a return at the end
        have g1 := dec_lt_f (show ¬ (a : Int) + 1 < (s.size : Int) by omega)
        have g2 := dec_ltn_f hn1
        rw [hc] at hix
        rw [hb] at hsl hlb
        clear hc hb hi2 hbb hn1 hnl
        cases sm with
        | false =>
          have HS := Lib.hid (hs.rest (R' := scn s (a + 1) (l + 1) false) hsl)
          have kb := cell_of_block hs.2.1 0
          simp at kb
          clear hs hsl
          gi_wp2
          refine ⟨fun f h => (by cases h), ?_⟩
          first | (rename_i K hK; refine hK _ _ ?_) | (rename_i K hK h1; refine hK _ _ ?_) | (rename_i K hK h1 h2; refine hK _ _ ?_) | (rename_i K hK h1 h2 h3; refine hK _ _ ?_) | (rename_i K hK h1 h2 h3 h4; refine hK _ _ ?_)
          gi_wp2
          refine wpIn_goto (And.intro ?_ ?_)
          · exact (show J1 b g s y J _ _ from ⟨a + 1, l + 1, false, _, _, L, _, FrA.mk rfl, hlb.2, by have := HA.out; omega, rfl, HS.out⟩)
          · exact (show 10 * (s.size - (a + 1)) + 5 < 10 * (s.size - a) + 3 by omega)
        | true =>
          have hs2 := hs.rest (R' := ⟨4, ByteArray.empty, 0, a, l, 0⟩ :: scn s (a + 1) (l + 1) false) hsl
          obtain ⟨hz1, hbx, hT, hgx, fp1, hj1, hfp⟩ := hs2
          obtain ⟨hkk, hy⟩ := yield_at hz1 HYY.out
          have HY := Lib.hid (hy fp1 w hj1)
          have HKK := Lib.hid hkk
          unfold fnArgs at HY
          dsimp only at HY
          have HNX := Lib.hid (fun (fp' : List Nat) (w' : World) (hj : J (L.length + 1) fp' w') (hk : Keep fp1 w w') (hn : FromNew fp1 fp' w) => SSt.next (J := J) (w' := w') (fp' := fp') hz1 hbx hT hgx hfp hj hk hn)
          have kb := cell_of_block hbx 0
          simp at kb
          clear hs hsl hy hkk hz1 hj1 hgx hbx hT hfp
          gi_wp2_with (with_reducible refine park_call 123 _ _ rfl ?_)
          refine wpListIn_callV (.inl rfl) rfl (.tmp 123) [.tmp 126, .const (.int .i64 0)] #[67, 24] rfl y rfl [.agg #[.int .i64 4, .string ⟨#[]⟩, .int .i64 0, .int .i64 (a : Nat), .int .i64 (l : Nat)], .int .i64 0] rfl _ HY.out ?_
          rintro e' w3 (⟨rfl, fp', hj', hkp, hfn⟩ | ⟨rfl, fp', hj', hkp, hfn⟩)
          · refine ⟨_, rfl, ?_⟩
            have HS3 := Lib.hid (HNX.out fp' w3 hj' hkp hfn)
            clear hj' hkp hfn HNX kb
            have kb := cell_of_block HS3.out.2.1 0
            simp at kb
            gi_wp2
            refine wpIn_goto (And.intro ?_ ?_)
            · exact (show J1 b g s y J _ _ from ⟨a + 1, l + 1, false, _, _, _, _, FrA.mk rfl, hlb.2, by have := HA.out; omega, rfl, HS3.out⟩)
            · exact (show 10 * (s.size - (a + 1)) + 5 < 10 * (s.size - a) + 3 by omega)
          · refine ⟨_, rfl, ?_⟩
            have HJ' := Lib.hid hj'
            clear hj' hkp hfn HNX kb
            gi_wp2
            exact bodyPost_ret (results_none rfl _ _ _) rfl ⟨rfl, .inr ⟨L.length, fp', by have := HKK.out; first | exact this | (rw [List.length_map] at this; exact this), HJ'.out⟩⟩
    · -- all over
      obtain rfl : a = s.size := by omega
      have hsl := scn_over (s := s) (l := l) (sm := sm) hlt
      clear hnl hlt
      cases sm with
      | false =>
        have HS := Lib.hid (hs.rest hsl)
        have kb := cell_of_block hs.2.1 0
        simp at kb
        clear hs hsl
        gi_wp2
        refine ⟨fun f h => (by cases h), ?_⟩
        first | (rename_i K hK; refine hK _ _ ?_) | (rename_i K hK h1; refine hK _ _ ?_) | (rename_i K hK h1 h2; refine hK _ _ ?_) | (rename_i K hK h1 h2 h3; refine hK _ _ ?_) | (rename_i K hK h1 h2 h3 h4; refine hK _ _ ?_)
        gi_wp2
        exact bodyPost_ret (results_none rfl _ _ _) rfl ⟨rfl, .inl (by have := HS.out.over rfl; first | exact this | (rw [List.length_map] at this; exact this))⟩
      | true =>
        have hs2 := hs.rest (R' := ⟨4, ByteArray.empty, 0, s.size, l, 0⟩ :: []) hsl
        obtain ⟨hz1, hbx, hT, hgx, fp1, hj1, hfp⟩ := hs2
        obtain ⟨hkk, hy⟩ := yield_at hz1 HYY.out
        have HY := Lib.hid (hy fp1 w hj1)
        have HKK := Lib.hid hkk
        unfold fnArgs at HY
        dsimp only at HY
        have HNX := Lib.hid (fun (fp' : List Nat) (w' : World) (hj : J (L.length + 1) fp' w') (hk : Keep fp1 w w') (hn : FromNew fp1 fp' w) => SSt.next (J := J) (w' := w') (fp' := fp') hz1 hbx hT hgx hfp hj hk hn)
        have kb := cell_of_block hbx 0
        simp at kb
        clear hs hsl hy hkk hz1 hj1 hgx hbx hT hfp
        gi_wp2_with (with_reducible refine park_call 123 _ _ rfl ?_)
        refine wpListIn_callV (.inl rfl) rfl (.tmp 123) [.tmp 126, .const (.int .i64 0)] #[67, 24] rfl y rfl [.agg #[.int .i64 4, .string ⟨#[]⟩, .int .i64 0, .int .i64 (s.size : Nat), .int .i64 (l : Nat)], .int .i64 0] rfl _ HY.out ?_
        rintro e' w3 (⟨rfl, fp', hj', hkp, hfn⟩ | ⟨rfl, fp', hj', hkp, hfn⟩)
        · refine ⟨_, rfl, ?_⟩
          have HS3 := Lib.hid (HNX.out fp' w3 hj' hkp hfn)
          clear hj' hkp hfn HNX kb
          have kb := cell_of_block HS3.out.2.1 0
          simp at kb
          gi_wp2
          exact bodyPost_ret (results_none rfl _ _ _) rfl ⟨rfl, .inl (by have := HS3.out.over rfl; first | exact this | (rw [List.length_map] at this; exact this))⟩
        · refine ⟨_, rfl, ?_⟩
          have HJ' := Lib.hid hj'
          clear hj' hkp hfn HNX kb
          gi_wp2
          exact bodyPost_ret (results_none rfl _ _ _) rfl ⟨rfl, .inr ⟨L.length, fp', by have := HKK.out; first | exact this | (rw [List.length_map] at this; exact this), HJ'.out⟩⟩
  case p1 =>
    clear hg
    rintro A w ⟨a, l, sm, e, c, L, cs, ⟨U, rfl⟩, ha, hla, hcs, hs⟩
    obtain ⟨c0, c1, c2, c3, c4, rfl⟩ := five hcs
    unfold frm
    have HS := Lib.hid hs
    have kb := cell_of_block hs.2.1 0
    simp at kb
    clear hcs hs
    by_cases hlt : a < s.size
    · have f1 : ((a : Int) == (s.size : Int)) = false := by simp; omega
      have f2 : (a == s.size) = false := by simp; omega
      have hix := byte_z (s := s) (i := a) (z := (a : Nat)) hlt rfl
      have hcs : (byt s a = 10 ∨ byt s a = 13) ∨ (byt s a = 32 ∨ byt s a = 9) ∨ byt s a = 35 ∨ (WordAt s a ∧ byt s a ≠ 34) ∨ (WordAt s a ∧ byt s a = 34) := by unfold WordAt; omega
      have HA := Lib.hid (show a < s.size ∧ l ≤ a + 1 from ⟨hlt, hla⟩)
      clear hla
      rcases hcs with hc | hc | hc | ⟨hw, hc⟩ | ⟨hw, hc⟩
      · -- a line's end
        have HC := Lib.hid hc
        rcases hc with hc | hc
        all_goals
          rw [hc] at hix
          clear hc
          gi_wp2
          refine wpIn_goto (And.intro ?_ ?_)
          · exact (show J0 b g s y J _ _ from ⟨a, l, sm, _, _, _, _, FrA.mk rfl, ha, HA.out.2, fun _ => HC.out, rfl, HS.out⟩)
          · exact (show 10 * (s.size - a) + 3 < 10 * (s.size - a) + 5 by omega)
      · -- a blank
        have HS2 := Lib.hid (HS.out.rest (scn_blank hlt hc))
        clear HS
        rcases hc with hc | hc
        all_goals
          rw [hc] at hix
          clear hc
          gi_wp2
          refine wpIn_goto (And.intro ?_ ?_)
          · exact (show J1 b g s y J _ _ from ⟨a + 1, l, sm, _, _, _, _, FrA.mk rfl, by omega, by have := HA.out; omega, rfl, HS2.out⟩)
          · exact (show 10 * (s.size - (a + 1)) + 5 < 10 * (s.size - a) + 5 by omega)
      · -- a remark
        have HS2 := Lib.hid (HS.out.rest (scn_rem hlt hc))
        have HC := Lib.hid hc
        clear HS
        rw [hc] at hix
        clear hc
        gi_wp2
        refine wpIn_goto (And.intro ?_ ?_)
        · exact (show J2 b g s y J _ _ from ⟨a, l, sm, _, _, _, _, FrA.mk rfl, HA.out.1, HC.out, HA.out.2, rfl, HS2.out⟩)
        · exact (show 10 * (s.size - a) + 4 < 10 * (s.size - a) + 5 by omega)
      · -- a word that is not quoted
        have HW := Lib.hid hw
        have HC := Lib.hid hc
        obtain ⟨c, hcc⟩ : ∃ c : Int, c = ((byt s a : Nat) : Int) := ⟨_, rfl⟩
        rw [← hcc] at hix
        obtain ⟨_, w1, w2, w3, w4, w5⟩ := hw
        have g1 : (c == 10) = false := ((ar4 hcc).2 w1).1
        have g2 : (c == 13) = false := ((ar4 hcc).2 w2).1
        have g3 : (c == 32) = false := ((ar4 hcc).2 w3).1
        have g4 : (c == 9) = false := ((ar4 hcc).2 w4).1
        have g5 : (c == 35) = false := ((ar4 hcc).2 w5).1
        have g6 : (c == 34) = false := ((ar4 hcc).2 hc).1
        clear hc hcc w1 w2 w3 w4 w5
        have k0 := cell_of_block HS.out.2.2.2.1 0
        have z0 := free_of_block HS.out.2.2.2.1 0
        have k1 := cell_of_block HS.out.2.2.2.1 1
        have z1 := free_of_block HS.out.2.2.2.1 1
        have k2 := cell_of_block HS.out.2.2.2.1 2
        have z2 := free_of_block HS.out.2.2.2.1 2
        have k3 := cell_of_block HS.out.2.2.2.1 3
        have z3 := free_of_block HS.out.2.2.2.1 3
        have k4 := cell_of_block HS.out.2.2.2.1 4
        have z4 := free_of_block HS.out.2.2.2.1 4
        simp at k0 k1 k2 k3 k4
        gi_upto_region 14 with (fail)
        clear k0 z0 k1 z1 k2 z2 k3 z3 k4 z4 kb
        have hfs := five_set (v0 := .int .i64 0) (v1 := .string ⟨#[]⟩) (v2 := .int .i64 0) (v3 := .int .i64 (a : Nat)) (v4 := .int .i64 (l : Nat)) HS.out.2.2.2.1
        have HS3 := Lib.hid ((HS.out.wrote HJ.out HG.out HLT.out hfs.2 hfs.1).rest (scn_sm HW.out))
        clear hfs HS
        obtain ⟨w1, hw1⟩ : ∃ w1, w1 = ((((w.setCell ⟨g, 0, none⟩ (.int .i64 0)).setCell ⟨g, 1, none⟩ (.string ⟨#[]⟩)).setCell ⟨g, 2, none⟩ (.int .i64 0)).setCell ⟨g, 3, none⟩ (.int .i64 (a : Nat))).setCell ⟨g, 4, none⟩ (.int .i64 (l : Nat)) := ⟨_, rfl⟩
        rw [← hw1] at HS3 ⊢
        clear hw1
        have kb := cell_of_block HS3.out.2.1 0
        simp at kb
        obtain ⟨⟨e1, d⟩, hp⟩ : ∃ r, pw s a = r := ⟨_, rfl⟩
        have hpl := plain_any s a w1 hz ha
        rw [hp] at hpl
        have HPL := Lib.hid hpl
        have HP := Lib.hid hp
        clear hp hpl
        gi_wp2_with fail
        refine ⟨trivial, rfl, ?_⟩
        refine (callsIn_wide.2 HPL.out).mono ?_
        rintro e' w2 ⟨rfl, rfl⟩
        clear HPL g1 g2 g3 g4 g5 g6 f1 f2 hix
        by_cases h0 : d = 0
        · -- it is plain
          subst h0
          have hm := pw_more HW.out.ends (by rw [HP.out])
          rw [HP.out] at hm
          have HM := Lib.hid hm
          have hsl := fun W => slice_w s (Nat.le_of_lt hm.1) hm.2 W
          have hxs := HM.out
          obtain ⟨x, hx⟩ : ∃ x, x = s.extract a e1 := ⟨_, rfl⟩
          have hxz : x.size ≠ 0 ∧ x.size ≤ 100000000 := by rw [hx, ByteArray.size_extract]; simp only at hm; omega
          simp only [← hx] at hsl
          have HX := Lib.hid hx
          clear hm hx hxs
          gi_upto_region 17 with (fail)
          have q0 : w1.drew.cell? ⟨g, 0, none⟩ = some (.int .i64 0) := by rw [show w1.drew.cell? ⟨g, 0, none⟩ = w1.cell? ⟨g, 0, none⟩ from rfl, cell_of_block HS3.out.2.2.2.1]; rfl
          have y0 : w1.drew.frozen? ⟨g, 0, none⟩ = false := free_of_block HS3.out.2.2.2.1 0
          have q1 : (w1.setCell ⟨g, 0, none⟩ (.int .i64 1)).drew.cell? ⟨g, 1, none⟩ = some (.string ⟨#[]⟩) := by rw [show (w1.setCell ⟨g, 0, none⟩ (.int .i64 1)).drew.cell? ⟨g, 1, none⟩ = (w1.setCell ⟨g, 0, none⟩ (.int .i64 1)).cell? ⟨g, 1, none⟩ from rfl, cell_of_block (block_setCell HS3.out.2.2.2.1 0 (.int .i64 1))]; rfl
          have y1 : (w1.setCell ⟨g, 0, none⟩ (.int .i64 1)).drew.frozen? ⟨g, 1, none⟩ = false := free_of_block (block_setCell HS3.out.2.2.2.1 0 (.int .i64 1)) 1
          have HNB := Lib.hid (show b ≠ g from by have := HLT.out b (by simp); omega)
          refine wpIn_fix (.inl rfl) 7 [5] (fun k => if k = 0 then w1.drew else (w1.setCell ⟨g, 0, none⟩ (.int .i64 1)).drew)
            (fun w' => w'.cell? ⟨b, 0, none⟩ = some (.string s))
            [.string s, .int .i64 (a : Nat), .int .i64 (e1 : Nat), .string x, .pointer (some ⟨g, 0, none⟩), undef, .pointer (some ⟨g, 1, none⟩)]
            (by kernel_rfl) (by kernel_rfl) rfl rfl (show _ = (w1.setCell ⟨g, 0, none⟩ (.int .i64 1)).drew from rfl) ?hC ?rest
          case hC =>
            intro k hk
            have hkeep : ∀ x : World, Keep [g] w1 x → x.cell? ⟨b, 0, none⟩ = some (.string s) := fun x hx => by
              rw [cell_of_block (hx.at_ HS3.out.2.1 (by simp; exact HNB.out))]; rfl
            rcases k with _ | k
            · exact hkeep _ ((Keep.refl _ _).drew)
            · exact hkeep _ (((Keep.refl _ _).setCell (by simp) _).drew)
          case rest =>
            intro A hA
            simp only [putVals, List.take, Act.put, List.setIfInBounds_toArray, List.set_cons_succ, List.set_cons_zero] at hA
            subst hA
            refine ⟨?_, fixWrites_cons rfl rfl ?_ fixWrites_nil, ?_⟩
            · iterate 5
                refine fixReads_cons rfl ?_ ?_
                · intro w1 hw1 K Q hK
                  go_simp
                  exact hK
              exact fixReads_skip (by rfl) (fixReads_cons rfl (by intro w1 hw1 K Q hK; go_simp; exact hK) fixReads_nil)
            · intro K Q hK
              go_simp
              exact hK
            · simp only [List.drop]
              gi_upto_region 18 with (fail)
              clear q0 y0 q1 y1 kb
              have h2 := two_set (v0 := .int .i64 1) (v1 := .string x) HS3.out.2.2.2.1
              have HS5 := Lib.hid ((HS3.out.wrote HJ.out HG.out HLT.out h2.2 h2.1).keep0 HJ.out HG.out HLT.out ((Keep.refl _ _).drew))
              clear h2 HS3
              obtain ⟨w5, hw5⟩ : ∃ w5, w5 = ((w1.setCell ⟨g, 0, none⟩ (.int .i64 1)).setCell ⟨g, 1, none⟩ (.string x)).drew := ⟨_, rfl⟩
              rw [← hw5] at HS5 ⊢
              clear hw5
              have kb := cell_of_block HS5.out.2.1 0
              have k1 := cell_of_block HS5.out.2.2.2.1 1
              simp at kb k1
              have hcn := fun W => counts_any x W hxz.2 hxz.1
              have HXZ := Lib.hid hxz
              cases hn : numB x with
              | false =>
                rw [hn] at hcn
                have HCN := Lib.hid hcn
                have HS6 := Lib.hid (HS5.out.rest (scn_plain HW.out HC.out (plF_word HP.out (HX.out ▸ hn))))
                rw [← HX.out] at HS6
                clear hn hcn hxz HS5
                gi_wp2_with fail
                refine ⟨trivial, rfl, ?_⟩
                refine (callsIn_wide.2 (HCN.out _)).mono ?_
                rintro e' w6 ⟨rfl, rfl⟩
                gi_wp2
                refine wpIn_goto (And.intro ?_ ?_)
                · exact (show J5 b g s y J _ _ from ⟨a, l, e1, _, L, 1, x, 0, a, l, FrA.mk rfl, HM.out.1, HM.out.2, HA.out.2, HS6.out⟩)
                · exact (show 10 * (s.size - a) + 2 < 10 * (s.size - a) + 5 by omega)
              | true =>
                rw [hn] at hcn
                have HCN := Lib.hid hcn
                have HNB2 := Lib.hid (show numB (s.extract a e1) = true from HX.out ▸ hn)
                have HAT := Lib.hid (atoi_any x w5 hxz.2 HS5.out.2.2.1)
                clear hn hcn hxz
                gi_wp2_with fail
                refine ⟨trivial, rfl, ?_⟩
                refine (callsIn_wide.2 (HCN.out _)).mono ?_
                rintro e' w6 ⟨rfl, rfl⟩
                gi_wp2_with fail
                refine ⟨trivial, rfl, ?_⟩
                refine (callsIn_wide.2 HAT.out).mono ?_
                rintro e' w6 ⟨hk6, ⟨v, hv, rfl⟩ | ⟨hv, z, ti, q, rfl⟩⟩
                · -- it is a number
                  have HS6 := Lib.hid (HS5.out.keep0 HJ.out HG.out HLT.out hk6)
                  have HV := Lib.hid hv
                  have hr := atoi_range hv
                  clear HS5 HAT HCN hk6 hv kb k1
                  gi_upto_region 20 with (fail)
                  obtain ⟨I, f, hf1, hf2⟩ := kept_class w6
                  have HF1 := Lib.hid hf1
                  have HF2 := Lib.hid hf2
                  obtain ⟨iw, hiw⟩ := hf2 w6.drew ((Keep.refl _ _).drew)
                  have qb : ∀ i, (f i).cell? ⟨g, 1, none⟩ = some (.string x) := fun i => by rw [cell_of_block ((hf1 i).at_ HS6.out.2.2.2.1 (by simp))]; rfl
                  obtain ⟨zz, hzz⟩ : ∃ zz : ByteArray, zz = ⟨(Lib.itoa v).toArray⟩ := ⟨_, rfl⟩
                  have hit := fun i => itoa_any v (f i) hr (HS6.out.2.2.1.keep0 (hf1 i))
                  simp only [← hzz] at hit
                  have HIT := Lib.hid hit
                  have HZZ := Lib.hid hzz
                  clear hit hzz
                  clear hf1 hf2 hr
                  refine wpIn_wide.2 ?_
                  refine wp_quiet_tail 8 f ⟨iw, hiw⟩ (by kernel_rfl) (by kernel_rfl) ?_
                  haveI hne : Nonempty I := ⟨iw⟩
                  clear hiw iw
                  simp only [List.take_succ_cons, List.take_zero, List.drop_succ_cons, List.drop_zero]
                  repeat (quiet_step (first
                    | rfl
                    | ((with_reducible refine (HIT.out _).mono ?_); rintro e w'' ⟨rfl, hk⟩; exact ⟨rfl, HF2.out _ ((HF1.out _).trans0 hk)⟩)))
                  refine wpQuiet_nil ?_
                  intro i
                  have HS7 := Lib.hid (HS6.out.keep0 HJ.out HG.out HLT.out (HF1.out i))
                  clear HS6 HIT qb hne HF1 HF2
                  generalize f i = w7 at *
                  clear f i I
                  have kb := cell_of_block HS7.out.2.1 0
                  simp at kb
                  by_cases hzx : zz = x
                  · -- the same text
                    have HS8 := Lib.hid (HS7.out.rest (scn_plain HW.out HC.out (plF_num (v := v) HP.out HNB2.out (by
                      rw [← HX.out]
                      exact atoi_numT.1 ⟨HV.out, by rw [← hzx, HZZ.out]⟩))))
                    have k0 := cell_of_block HS8.out.2.2.2.1 0
                    have z0 := free_of_block HS8.out.2.2.2.1 0
                    have k1 := cell_of_block HS8.out.2.2.2.1 1
                    have z1 := free_of_block HS8.out.2.2.2.1 1
                    have k2 := cell_of_block HS8.out.2.2.2.1 2
                    have z2 := free_of_block HS8.out.2.2.2.1 2
                    simp at k0 k1 k2
                    have h3 := Lib.hid (three_set (v0 := .int .i64 3) (v1 := .string ⟨#[]⟩) (v2 := .int .i64 v) HS8.out.2.2.2.1)
                    have g8 : (zz.toList == x.toList) = true := by rw [hzx]; exact beq_self_eq_true _
                    clear hzx HS7 HZZ
                    go_wp2
                    rw [g8]
                    clear g8
                    gi_wp2
                    refine wpIn_goto (And.intro ?_ ?_)
                    · exact (show J5 b g s y J _ _ from ⟨a, l, e1, _, L, 3, ByteArray.empty, v, a, l, FrA.mk rfl, HM.out.1, HM.out.2, HA.out.2, HS8.out.wrote HJ.out HG.out HLT.out h3.out.2 h3.out.1⟩)
                    · exact (show 10 * (s.size - a) + 2 < 10 * (s.size - a) + 5 by omega)
                  · -- another text
                    have HS8 := Lib.hid (HS7.out.rest (scn_bad HW.out HC.out (plF_bad HP.out HNB2.out (by
                      rw [← HX.out]
                      cases hnt : numT x.data.toList with
                      | none => rfl
                      | some v2 =>
                        have h2 := atoi_numT.2 hnt
                        have h3 : v2 = v := by have := h2.1; rw [HV.out] at this; injection this with this; exact this.symm
                        subst h3
                        exact absurd (HZZ.out.trans (ByteArray.ext (by rw [h2.2]))) hzx))))
                    have g8 : (zz.toList == x.toList) = false := str_neq hzx
                    clear hzx HS7 HZZ
                    go_wp2
                    rw [g8]
                    clear g8
                    gi_wp2
                    refine wpIn_goto (And.intro ?_ ?_)
                    · exact (show J4 b g s y J _ _ from ⟨a, l, a, 6, true, L, _, FrA.mk rfl, HS8.out⟩)
                    · exact (show 10 * (s.size - a) < 10 * (s.size - a) + 5 by omega)
                · -- no number
                  have HS6 := Lib.hid (HS5.out.keep0 HJ.out HG.out HLT.out hk6)
                  have HS7 := Lib.hid (HS6.out.rest (scn_bad HW.out HC.out (plF_bad HP.out HNB2.out (by
                    rw [← HX.out]
                    cases hnt : numT x.data.toList with
                    | none => rfl
                    | some v => exact absurd (atoi_numT.2 hnt).1 (hv v)))))
                  have kb := cell_of_block HS6.out.2.1 0
                  simp at kb
                  clear HS5 HS6 HAT HCN hk6 hv k1
                  gi_upto_region 20 with (fail)
                  refine wpIn_fix (.inl rfl) 8 [] (fun _ => w6.drew) (fun _ => True)
                    [.iface ti q, .bool true, .bool true, undef, undef, undef, undef, undef] (by kernel_rfl) (by kernel_rfl) rfl rfl rfl (fun _ _ => trivial) ?rest20
                  case rest20 =>
                    intro A hA
                    simp only [putVals, List.take, Act.put, List.setIfInBounds_toArray, List.set_cons_succ, List.set_cons_zero] at hA
                    subst hA
                    refine ⟨?_, fixWrites_nil, ?_⟩
                    · iterate 3
                        refine fixReads_cons rfl ?_ ?_
                        · intro w1 hw1 K Q hK
                          go_simp
                          exact hK
                      iterate 5
                        refine fixReads_out rfl rfl ?_
                      exact fixReads_nil
                    · simp only [List.drop]
                      gi_wp2
                      refine wpIn_goto (And.intro ?_ ?_)
                      · exact (show J4 b g s y J _ _ from ⟨a, l, a, 6, true, L, _, FrA.mk rfl, HS7.out.keep0 HJ.out HG.out HLT.out ((Keep.refl _ _).drew)⟩)
                      · exact (show 10 * (s.size - a) < 10 * (s.size - a) + 5 by omega)
        · -- it is not
          have g7 : ((d : Int) != 0) = true := by simp; omega
          have HS4 := Lib.hid (HS3.out.rest (scn_bad HW.out HC.out (plF_off HP.out h0)))
          clear h0 HS3
          gi_wp2
          refine wpIn_goto (And.intro ?_ ?_)
          · exact (show J4 b g s y J _ _ from ⟨a, l, e1, d, true, L, _, FrA.mk rfl, HS4.out⟩)
          · exact (show 10 * (s.size - a) < 10 * (s.size - a) + 5 by omega)
      · -- a word in quotes
        have HW := Lib.hid hw
        have HC := Lib.hid hc
        rw [hc] at hix
        clear hc hw
        have k0 := cell_of_block HS.out.2.2.2.1 0
        have z0 := free_of_block HS.out.2.2.2.1 0
        have k1 := cell_of_block HS.out.2.2.2.1 1
        have z1 := free_of_block HS.out.2.2.2.1 1
        have k2 := cell_of_block HS.out.2.2.2.1 2
        have z2 := free_of_block HS.out.2.2.2.1 2
        have k3 := cell_of_block HS.out.2.2.2.1 3
        have z3 := free_of_block HS.out.2.2.2.1 3
        have k4 := cell_of_block HS.out.2.2.2.1 4
        have z4 := free_of_block HS.out.2.2.2.1 4
        simp at k0 k1 k2 k3 k4
        gi_upto_region 14 with (fail)
        clear k0 z0 k1 z1 k2 z2 k3 z3 k4 z4 kb
        have hfs := five_set (v0 := .int .i64 0) (v1 := .string ⟨#[]⟩) (v2 := .int .i64 0) (v3 := .int .i64 (a : Nat)) (v4 := .int .i64 (l : Nat)) HS.out.2.2.2.1
        have HS3 := Lib.hid ((HS.out.wrote HJ.out HG.out HLT.out hfs.2 hfs.1).rest (scn_sm HW.out))
        clear hfs HS
        obtain ⟨w1, hw1⟩ : ∃ w1, w1 = ((((w.setCell ⟨g, 0, none⟩ (.int .i64 0)).setCell ⟨g, 1, none⟩ (.string ⟨#[]⟩)).setCell ⟨g, 2, none⟩ (.int .i64 0)).setCell ⟨g, 3, none⟩ (.int .i64 (a : Nat))).setCell ⟨g, 4, none⟩ (.int .i64 (l : Nat)) := ⟨_, rfl⟩
        rw [← hw1] at HS3 ⊢
        clear hw1
        have kb := cell_of_block HS3.out.2.1 0
        simp at kb
        gi_wp2
        refine wpIn_goto (And.intro ?_ ?_)
        · exact (show J3 b g s y J _ _ from ⟨a, l, _, _, L, FrA.mk rfl, HW.out, HC.out, HA.out.2, HS3.out⟩)
        · exact (show 10 * (s.size - a) + 4 < 10 * (s.size - a) + 5 by omega)
    · -- the end
      obtain rfl : a = s.size := by omega
      have HA := Lib.hid hla
      clear hla
      gi_wp2
      refine wpIn_goto (And.intro ?_ ?_)
      · exact (show J0 b g s y J _ _ from ⟨s.size, l, sm, _, _, _, _, FrA.mk rfl, ha, HA.out, fun h => absurd h (Nat.lt_irrefl _), rfl, HS.out⟩)
      · exact (show 10 * (s.size - s.size) + 3 < 10 * (s.size - s.size) + 5 by omega)
  case p2 =>
    clear hg
    rintro A w ⟨a, l, sm, e, c, L, cs, ⟨U, rfl⟩, ha, hrm, hla, hcs, hs⟩
    obtain ⟨c0, c1, c2, c3, c4, rfl⟩ := five hcs
    unfold frm
    have HS := Lib.hid hs
    have kb := cell_of_block hs.2.1 0
    simp at kb
    have hra : a < rem s a ∧ rem s a ≤ s.size := by
      have h1 := rem_on (s := s) (i := a) ⟨ha, by omega, by omega⟩
      have h2 := rem_spec s s.size (a + 1) (by omega) (by omega)
      omega
    have HRA := Lib.hid (show a < rem s a ∧ rem s a ≤ s.size ∧ l ≤ a + 1 ∧ a < s.size from ⟨hra.1, hra.2, hla, ha⟩)
    clear hcs hs hra hla hrm
    gi_wp2
    gi_loopw [3] (fun av wx => ∃ i : Nat, av = .int .i64 i ∧ i ≤ s.size ∧ rem s a = rem s i ∧ w = wx) (fun av _ => s.size - (intOf av).toNat)
    case atStart => exact ⟨a, rfl, by omega, rfl, rfl⟩
    case round =>
      obtain ⟨i, rfl, hi, hr, rfl⟩ := hrel
      have HRR := Lib.hid hr; clear hr
      by_cases his : i < s.size
      · have g1 := dec_lt_t (show (i : Int) < (s.size : Int) by omega)
        have g2 := dec_ltn_t his
        have hix := byte_z (s := s) (i := i) (z := (i : Nat)) his rfl
        obtain ⟨c, hcc⟩ : ∃ c : Int, c = ((byt s i : Nat) : Int) := ⟨_, rfl⟩
        rw [← hcc] at hix
        by_cases e1 : byt s i = 10
        · have HE := Lib.hid (HRR.out.trans (rem_end (fun h => h.2.1 e1)))
          have g3 : (c != 10) = false := ar9 hcc e1
          clear e1 hcc
          gi_wp2
          refine wpIn_goto (And.intro ?_ ?_)
          · exact (show J1 b g s y J _ _ from ⟨i, l, sm, _, _, L, _, FrA.mk rfl, hi, by have := HRA.out; have := HE.out; omega, rfl, HE.out ▸ HS.out⟩)
          · exact (show 10 * (s.size - i) + 5 < 10 * (s.size - a) + 4 by have := HRA.out; have := HE.out; omega)
        · have g3 : (c != 10) = true := ((ar4 hcc).2 e1).2
          by_cases e2 : byt s i = 13
          · have HE := Lib.hid (HRR.out.trans (rem_end (fun h => h.2.2 e2)))
            have g4 : (c != 13) = false := ar9 hcc e2
            clear e1 e2 hcc
            gi_wp2
            refine wpIn_goto (And.intro ?_ ?_)
            · exact (show J1 b g s y J _ _ from ⟨i, l, sm, _, _, L, _, FrA.mk rfl, hi, by have := HRA.out; have := HE.out; omega, rfl, HE.out ▸ HS.out⟩)
            · exact (show 10 * (s.size - i) + 5 < 10 * (s.size - a) + 4 by have := HRA.out; have := HE.out; omega)
          · have g4 : (c != 13) = true := ((ar4 hcc).2 e2).2
            have HE := Lib.hid (HRR.out.trans (rem_on ⟨his, e1, e2⟩))
            clear e1 e2 hcc
            gi_wp2
            go_roundw
            case rel => exact ⟨i + 1, by go_num, by omega, HE.out, by trivial⟩
            case measure => simp [intOf]; omega
      · have g1 := dec_lt_f (show ¬ (i : Int) < (s.size : Int) by omega)
        have g2 := dec_ltn_f his
        have HE := Lib.hid (HRR.out.trans (rem_end (fun h => his h.1)))
        clear his
        gi_wp2
        refine wpIn_goto (And.intro ?_ ?_)
        · exact (show J1 b g s y J _ _ from ⟨i, l, sm, _, _, L, _, FrA.mk rfl, hi, by have := HRA.out; have := HE.out; omega, rfl, HE.out ▸ HS.out⟩)
        · exact (show 10 * (s.size - i) + 5 < 10 * (s.size - a) + 4 by have := HRA.out; have := HE.out; omega)
  case p3 =>
    clear hg
    intro hp5
    have HP5 := Lib.hid hp5
    clear hp5
    rintro A w ⟨a, l, e, c, L, ⟨U, rfl⟩, hw, hq, hla, hs⟩
    unfold frm
    have HS := Lib.hid hs
    have kb := cell_of_block hs.2.1 0
    simp at kb
    obtain ⟨⟨ok, x, e1⟩, hqt⟩ : ∃ r, qtd s a = r := ⟨_, rfl⟩
    have hqa := fun W => quoted_any s a W hz (by have := hw.1; omega)
    simp only [hqt] at hqa
    have hea := fun W => ends_any s e1 W hz
    have HQ := Lib.hid hqa
    clear hqa hs
    cases ok with
    | false =>
      have HS4 := Lib.hid (HS.out.rest (scn_unq hw hq hqt (.inl rfl)))
      clear HS hw hq hqt hea
      gi_wp2_with fail
      refine ⟨trivial, rfl, ?_⟩
      refine (callsIn_wide.2 (HQ.out _)).mono ?_
      rintro e' w2 ⟨rfl, hk2⟩
      have HS5 := Lib.hid (HS4.out.keep0 HJ.out HG.out HLT.out hk2)
      clear hk2 HS4 kb
      have kb := cell_of_block HS5.out.2.1 0
      simp at kb
      gi_wp2
      refine ⟨trivial, ?_⟩
      rename_i K hK
      refine hK _ _ ?_
      gi_wp2
      refine wpIn_goto (And.intro ?_ ?_)
      · exact (show J4 b g s y J _ _ from ⟨a, l, e1, 18, true, L, _, FrA.mk rfl, HS5.out⟩)
      · exact (show 10 * (s.size - a) < 10 * (s.size - a) + 4 by omega)
    | true =>
      have HM := Lib.hid (qtd_more hqt)
      cases he : endB s e1 with
      | false =>
        rw [he] at hea
        have HE := Lib.hid hea
        have HS4 := Lib.hid (HS.out.rest (scn_unq hw hq hqt (.inr he)))
        clear HS hw hq hqt hea he
        gi_wp2_with fail
        refine ⟨trivial, rfl, ?_⟩
        refine (callsIn_wide.2 (HQ.out _)).mono ?_
        rintro e' w2 ⟨rfl, hk2⟩
        have HS5 := Lib.hid (HS4.out.keep0 HJ.out HG.out HLT.out hk2)
        clear hk2 HS4 kb
        have kb := cell_of_block HS5.out.2.1 0
        simp at kb
        gi_wp2_with fail
        refine ⟨trivial, rfl, ?_⟩
        refine (callsIn_wide.2 (HE.out _)).mono ?_
        rintro e' w3 ⟨rfl, rfl⟩
        gi_wp2
        refine wpIn_goto (And.intro ?_ ?_)
        · exact (show J4 b g s y J _ _ from ⟨a, l, e1, 18, true, L, _, FrA.mk rfl, HS5.out⟩)
        · exact (show 10 * (s.size - a) < 10 * (s.size - a) + 4 by omega)
      | true =>
        rw [he] at hea
        have HE := Lib.hid hea
        have HS4 := Lib.hid (HS.out.rest (scn_quote hw hq hqt he))
        have HB := Lib.hid hla
        clear HS hw hq hqt hea he hla
        gi_wp2_with fail
        refine ⟨trivial, rfl, ?_⟩
        refine (callsIn_wide.2 (HQ.out _)).mono ?_
        rintro e' w2 ⟨rfl, hk2⟩
        have HS5 := Lib.hid (HS4.out.keep0 HJ.out HG.out HLT.out hk2)
        clear hk2 HS4 kb
        have kb := cell_of_block HS5.out.2.1 0
        have k0 := cell_of_block HS5.out.2.2.2.1 0
        have z0 := free_of_block HS5.out.2.2.2.1 0
        have k1 := cell_of_block HS5.out.2.2.2.1 1
        have z1 := free_of_block HS5.out.2.2.2.1 1
        simp at kb k0 k1
        gi_wp2_with fail
        refine ⟨trivial, rfl, ?_⟩
        refine (callsIn_wide.2 (HE.out _)).mono ?_
        rintro e' w3 ⟨rfl, rfl⟩
        gi_wp2
        have h2 := two_set (v0 := .int .i64 2) (v1 := .string x) HS5.out.2.2.2.1
        refine wpIn_label ?_
        rename_i K hK
        refine hK _ _ (wpIn_mono (HP5.out _ _ (show J5 b g s y J _ _ from ⟨a, l, e1, _, L, 2, x, 0, a, l, FrA.mk rfl, HM.out.1, HM.out.2, HB.out, HS5.out.wrote HJ.out HG.out HLT.out h2.2 h2.1⟩))
          (jumpsTo_mono fun l' a' w' h => ⟨h.1, Nat.lt_trans h.2 (show 10 * (s.size - a) + 2 < 10 * (s.size - a) + 4 by omega)⟩))
  case p4 =>
    clear hg
    rintro A w ⟨a, l, e, c, sm, L, cs, ⟨U, rfl⟩, hz1, hbx, hT, hgx, fp1, hj1, hfp⟩
    unfold frm
    obtain ⟨hkk, hy⟩ := yield_at hz1 HYY.out
    have HY := Lib.hid (hy fp1 w hj1)
    have HKK := Lib.hid hkk; have HL1 := Lib.hid (show (scn s 0 1 false).length = L.length + 1 by rw [hz1]; simp)
    clear hy hkk hz1 hj1 hbx hgx hT hfp
    unfold fnArgs at HY
    dsimp only at HY
    gi_wp2_with (with_reducible refine park_call 97 _ _ rfl ?_)
    refine wpListIn_callV (.inl rfl) rfl (.tmp 97) [.tmp 100, .tmp 101] #[67, 24] rfl y rfl [.agg #[.int .i64 0, .string ⟨#[]⟩, .int .i64 0, .int .i64 (e : Nat), .int .i64 (l : Nat)], .int .i64 (c : Nat)] rfl _ HY.out ?_
    rintro e' w3 (⟨rfl, fp', hj', hkp, hfn⟩ | ⟨rfl, fp', hj', hkp, hfn⟩)
    · refine ⟨_, rfl, ?_⟩
      have HJ' := Lib.hid hj'
      clear hj' hkp hfn
      gi_wp2
      exact bodyPost_ret (results_none rfl _ _ _) rfl ⟨rfl, .inl ⟨fp', by first | (rw [HL1.out]; exact HJ'.out) | (rw [List.length_map, HL1.out]; exact HJ'.out)⟩⟩
    · refine ⟨_, rfl, ?_⟩
      have HJ' := Lib.hid hj'
      clear hj' hkp hfn
      gi_wp2
      exact bodyPost_ret (results_none rfl _ _ _) rfl ⟨rfl, .inr ⟨L.length, fp', by first | (rw [HL1.out]; omega) | (rw [List.length_map, HL1.out]; omega), HJ'.out⟩⟩
  case p5 =>
    clear hg
    rintro A w ⟨a, l, e, c, L, fk, ft, fn, fa, fl, ⟨U, rfl⟩, hae, hes, hla, hz1, hbx, hT, hgx, fp1, hj1, hfp⟩
    unfold frm
    obtain ⟨hkk, hy⟩ := yield_at hz1 HYY.out
    have HY := Lib.hid (hy fp1 w hj1)
    have HKK := Lib.hid hkk
    unfold fnArgs at HY
    dsimp only at HY
    have HNX := Lib.hid (fun (fp' : List Nat) (w' : World) (hj : J (L.length + 1) fp' w') (hk : Keep fp1 w w') (hn : FromNew fp1 fp' w) => SSt.next (J := J) (w' := w') (fp' := fp') hz1 hbx hT hgx hfp hj hk hn)
    have k0 := cell_of_block hgx 0
    have k1 := cell_of_block hgx 1
    have k2 := cell_of_block hgx 2
    have k3 := cell_of_block hgx 3
    have k4 := cell_of_block hgx 4
    simp at k0 k1 k2 k3 k4
    have HB := Lib.hid (show a < e ∧ e ≤ s.size ∧ l ≤ a + 1 from ⟨hae, hes, hla⟩)
    clear hy hkk hz1 hj1 hgx hbx hT hfp hae hes hla
    gi_wp2_with (with_reducible refine park_call 92 _ _ rfl ?_)
    refine wpListIn_callV (.inl rfl) rfl (.tmp 92) [.tmp 93, .const (.int .i64 0)] #[67, 24] rfl y rfl [.agg #[.int .i64 (fk : Nat), .string ft, .int .i64 fn, .int .i64 (fa : Nat), .int .i64 (fl : Nat)], .int .i64 0] rfl _ HY.out ?_
    rintro e' w3 (⟨rfl, fp', hj', hkp, hfn⟩ | ⟨rfl, fp', hj', hkp, hfn⟩)
    · refine ⟨_, rfl, ?_⟩
      have HS := Lib.hid (HNX.out fp' w3 hj' hkp hfn)
      clear hj' hkp hfn HNX k0 k1 k2 k3 k4
      gi_wp2
      refine wpIn_goto (And.intro ?_ ?_)
      · exact (show J1 b g s y J _ _ from ⟨e, l, true, _, _, _, _, FrA.mk rfl, HB.out.2.1, by have := HB.out; omega, rfl, HS.out⟩)
      · exact (show 10 * (s.size - e) + 5 < 10 * (s.size - a) + 2 by have := HB.out; omega)
    · refine ⟨_, rfl, ?_⟩
      have HJ' := Lib.hid hj'
      clear hj' hkp hfn HNX k0 k1 k2 k3 k4
      gi_wp2
      exact bodyPost_ret (results_none rfl _ _ _) rfl ⟨rfl, .inr ⟨L.length, fp', by have := HKK.out; first | exact this | (rw [List.length_map] at this; exact this), HJ'.out⟩⟩
end Go.Proofs.YtbidppjhenfjdaaGreatDoor
