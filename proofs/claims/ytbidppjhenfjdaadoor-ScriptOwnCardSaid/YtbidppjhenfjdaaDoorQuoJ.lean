/-
  Walk of the program's escaped.
-/
import Derived.Test.YtbidppjhenfjdaaDoorQuoH
import Derived.Test.YtbidppjhenfjdaaDoorStillIn
import Derived.Maps.RangeRun
import Derived.Laws.IdiomRangeMap
namespace Go.Proofs.YtbidppjhenfjdaaDoor
open Go.RowKit Go.MapKept Go.ChangeMaps
set_option linter.unusedVariables false
set_option linter.unusedSimpArgs false

theorem setBlock_keep {w w1 : World} {r : Nat} {o o' : Obj} (h : w1 = w ∨ w1 = w.drew) (hr : w.heap[r]? = some o) : Keep [r] w (setBlock w1 r o') ∧ (setBlock w1 r o').heap[r]? = some o' := by
  have hlt := lt_of_block hr
  have hh : w1.heap = w.heap := by rcases h with rfl | rfl <;> rfl
  have hos : w1.os = w.os ∧ w1.tape = w.tape ∧ w1.output = w.output := by rcases h with rfl | rfl <;> exact ⟨rfl, rfl, rfl⟩
  clear h
  refine ⟨⟨hos.1, hos.2.1, hos.2.2, by simp [setBlock, hh], fun k hk hn => ?_⟩, by simp [setBlock, hh, hlt]⟩
  have : r ≠ k := fun e => hn (by simp [e])
  simp [setBlock, hh, this]
theorem esc_stamped : (∀ x ∈ escE.toList, x.born < 5) ∧ (escE.toList.map (·.born)).Nodup := by
  constructor
  · intro x hx
    simp [escE] at hx
    rcases hx with rfl | rfl | rfl | rfl | rfl <;> decide
  · decide
theorem esc_entry {x : MapEntry} (hx : x ∈ escE.toList) : ∃ k l : Nat, x.key = .int .i32 (k : Nat) ∧ x.val = .int .u8 (l : Nat) ∧ unl l = k ∧ k ≠ 0 ∧ k < 128 ∧ l < 256 := by
  simp [escE] at hx
  rcases hx with rfl | rfl | rfl | rfl | rfl
  · exact ⟨34, 34, rfl, rfl, rfl, by decide, by decide, by decide⟩
  · exact ⟨92, 92, rfl, rfl, rfl, by decide, by decide, by decide⟩
  · exact ⟨10, 110, rfl, rfl, rfl, by decide, by decide, by decide⟩
  · exact ⟨13, 114, rfl, rfl, rfl, by decide, by decide, by decide⟩
  · exact ⟨9, 116, rfl, rfl, rfl, by decide, by decide, by decide⟩
theorem unl_0 {c : Nat} (h : ∀ x ∈ escE.toList, x.val ≠ .int .u8 (c : Nat)) : unl c = 0 := by
  have f : ∀ l : Nat, (∃ x ∈ escE.toList, x.val = .int .u8 (l : Nat)) → c ≠ l := fun l ⟨x, hx, hv⟩ e => h x hx (by rw [hv, e])
  have h1 := f 34 ⟨⟨.int .i32 34, .int .u8 34, 0⟩, by simp [escE], rfl⟩
  have h2 := f 92 ⟨⟨.int .i32 92, .int .u8 92, 1⟩, by simp [escE], rfl⟩
  have h3 := f 110 ⟨⟨.int .i32 10, .int .u8 110, 2⟩, by simp [escE], rfl⟩
  have h4 := f 114 ⟨⟨.int .i32 13, .int .u8 114, 3⟩, by simp [escE], rfl⟩
  have h5 := f 116 ⟨⟨.int .i32 9, .int .u8 116, 4⟩, by simp [escE], rfl⟩
  unfold unl
  rw [if_neg h1, if_neg h2, if_neg h3, if_neg h4, if_neg h5]
theorem byt_mk (l : List UInt8) (i : Nat) (u : UInt8) (h : l[i]? = some u) : byt ⟨l.toArray⟩ i = u.toNat := by
  rw [mk_byt, h]
  rfl
theorem pre_uo (t : ByteArray) : Lib.hasPrefix t.data.toList [117, 123] = decide (1 < t.size ∧ byt t 0 = 117 ∧ byt t 1 = 123) := by
  obtain ⟨⟨l⟩⟩ := t
  have hs : (⟨⟨l⟩⟩ : ByteArray).size = l.length := rfl
  rw [hs]
  show List.isPrefixOf [117, 123] l = _
  match l with
  | [] => simp [List.isPrefixOf]
  | [a] => simp [List.isPrefixOf]
  | a :: b :: r =>
    have e0 := byt_mk (a :: b :: r) 0 a rfl
    have e1 := byt_mk (a :: b :: r) 1 b rfl
    change byt ⟨⟨a :: b :: r⟩⟩ 0 = _ at e0
    change byt ⟨⟨a :: b :: r⟩⟩ 1 = _ at e1
    rw [e0, e1]
    have f : ∀ (x : UInt8) (n : UInt8), (n == x) = decide (x.toNat = n.toNat) := fun x n => by
      by_cases h : n = x
      · subst h; simp
      · have : ¬ x.toNat = n.toNat := fun e => h (UInt8.toNat_inj.1 e.symm)
        simp [this, h]
    simp only [List.isPrefixOf, f, Bool.and_true]
    rw [show (117 : UInt8).toNat = 117 from rfl, show (123 : UInt8).toNat = 123 from rfl]
    simp
theorem hpre_any (t : ByteArray) (w : World) : Calls Tryd.prog 69 #[.string t, .string ⟨#[117, 123]⟩] w fun e w' => e = .returned (.bool (decide (1 < t.size ∧ byt t 0 = 117 ∧ byt t 1 = 123))) ∧ w = w' := by
  refine (Tryd.strings_HasPrefix t ⟨#[117, 123]⟩ w).mono ?_
  rintro e w' ⟨rfl, rfl⟩
  exact ⟨by rw [← pre_uo], rfl⟩
theorem ib_back (c : Nat) (w : World) (h : c < 256) : Calls Tryd.prog 68 #[.string ⟨#[48, 49, 50, 51, 52, 53, 54, 55, 56, 57, 97, 98, 99, 100, 101, 102]⟩, .int .u8 (c : Nat)] w fun e w' => e = .returned (.int .i64 (hxi c)) ∧ w' = w := (ib_any c w h).mono fun e w' hh => ⟨hh.1, hh.2.symm⟩
theorem conv_low {k : Nat} (h : k < 128) (W : World) : (convert 21 9 (.int .i32 (k : Nat))).run Tryd.prog W = .ok (.string (one k)) W := by
  have hu := Tryd.underlying21
  have hs := Tryd.underlying9
  have he : Utf8.encode ((k : Nat) : Int) = one k := enc_1 h
  simp [go_sem, hu, hs, he]

set_option maxHeartbeats 16000000 in
set_option maxRecDepth 100000 in
theorem escaped_any (t : ByteArray) (w : World) (hz : t.size ≤ 100000000) : Calls Tryd.prog 57 #[.string t] w fun e w' => e = .returned (.tuple #[.string (esc t).1, .int .i64 (esc t).2]) ∧ Keep [] w w' := by
  by_cases h0 : t.size = 0
  · obtain rfl : t = ByteArray.empty := ext_byt h0 (fun i hi => by omega)
    have HE := Lib.hid (show esc ByteArray.empty = (ByteArray.empty, 0) by unfold esc; exact if_pos rfl)
    go_enter Tryd.func57, Tryd.ntmps57
    go_wp2
    go_ret2
    rw [HE.out]
    exact ⟨rfl, Keep.refl _ _⟩
  have hne := str_neq (a := t) (b := ⟨#[]⟩) (fun e => h0 (by rw [e]; rfl))
  have hne2 : (t.toList == []) = false := by rw [show (⟨#[]⟩ : ByteArray).toList = [] by rw [ByteArray.toList_eq]] at hne; exact hne
  have hne3 : t.toList.isEmpty = false := by cases h : t.toList with
    | nil => rw [h] at hne2; cases hne2
    | cons a l => rfl
  have h0' : 0 < t.size := by omega
  have hb0 := byt_lt t 0
  have hi0 := byte_z (s := t) (i := 0) (z := 0) h0' rfl
  have HES : Hid (esc t = if unl (byt t 0) ≠ 0 then (one (unl (byt t 0)), 1) else if byt t 0 = 120 ∧ 2 < t.size then (if hx (byt t 1) < 16 ∧ hx (byt t 2) < 16 then (one (16 * hx (byt t 1) + hx (byt t 2)), 3) else (ByteArray.empty, 0)) else if byt t 0 = 117 ∧ 1 < t.size ∧ byt t 1 = 123 then brc t else (ByteArray.empty, 0)) := Lib.hid (by unfold esc; rw [if_neg h0])
  have HPR := Lib.hid (fun W => hpre_any t W)
  obtain ⟨c, hc⟩ : ∃ c, c = byt t 0 := ⟨_, rfl⟩
  rw [← hc] at hb0 hi0 HES HPR
  clear hc h0
  go_enter Tryd.func57, Tryd.ntmps57
  go_wp2_with fail
  refine (escapes_any _).mono ?_
  rintro e W1 ⟨mk, rfl, hmk0, hmk, hk1⟩
  have hrg := run_range_map (P := Tryd.prog) W1 109 21 5 mk escE 5 Tryd.underlying109 hmk
  have hmlt := lt_of_block hmk
  have HK1 := Lib.hid hk1; have HM1 := Lib.hid hmk
  clear hk1 hmk hmk0
  go_wp2
  obtain ⟨it, hit⟩ : ∃ i, i = W1.heap.size := ⟨_, rfl⟩
  have hitn := World.alloc_heap_new W1 (.mapIter (some mk) 5 #[] 5)
  have hka := (Keep.refl [] W1).alloc (.mapIter (some mk) 5 #[] 5)
  rw [← hit] at hitn ⊢
  have HIT := Lib.hid hit
  have hml : mk < it := by omega
  go_loopw [] (fun wr => ∃ seen : Array Nat, wr.heap[it]? = some (.mapIter (some mk) 5 seen 5) ∧ Keep [] W1 wr ∧ ∀ x ∈ escE.toList, seen.contains x.born = true → x.val ≠ .int .u8 (c : Nat)) (fun wr => (leftOf escE (wr.iterSeen it)).size)
  case atStart => exact ⟨#[], hitn, hka, fun x _ h => by simp at h⟩
  case round =>
    clear hitn hka hrg hmlt hit
    obtain ⟨seen, hsit, hkp, hno⟩ := hrel
    have hmw := hkp.at_ HM1.out (by simp)
    have HNO := Lib.hid hno; have HKP := Lib.hid hkp; have HSI := Lib.hid hsit
    clear hno hkp
    rcases run_next_at (P := Tryd.prog) wr 0 it mk 5 5 seen escE 5 hsit hmw esc_stamped.1 (Nat.le_refl _) with ⟨hz0, hrun⟩ | ⟨e, he, w1, hal, hrun⟩
    · have hnx : ∀ ty, (Instr.next (.pointer (some ⟨it, 0, none⟩)) false ty).run Tryd.prog wr = _ := fun _ => hrun
      have hun := unl_0 (c := c) (fun x hx => HNO.out x hx (all_seen escE seen hz0 x hx))
      have HE2 := Lib.hid (show esc t = _ from HES.out.trans (if_neg (by rw [hun]; simp)))
      have HFK := Lib.hid (HK1.out.trans0 HKP.out)
      clear hun hz0 hrun hmw hsit HNO HES
      have hcases : (c = 120 ∧ 2 < t.size) ∨ (c = 120 ∧ ¬ 2 < t.size) ∨ (c ≠ 120 ∧ c = 117 ∧ 1 < t.size ∧ byt t 1 = 123) ∨ (c ≠ 120 ∧ ¬ (c = 117 ∧ 1 < t.size ∧ byt t 1 = 123)) := by omega
      rcases hcases with ⟨rfl, h2⟩ | ⟨rfl, h2⟩ | ⟨h1, h2, h3, h4⟩ | ⟨h1, h2⟩
      · have hi1 := byte_z (s := t) (i := 1) (z := 1) (by omega) rfl
        have hi2 := byte_z (s := t) (i := 2) (z := 2) (by omega) rfl
        have hlen : decide ((2 : Int) < (t.size : Int)) = true := by simp; omega
        have hlen2 : decide (2 < t.size) = true := by simp; omega
        have HI1 := Lib.hid (fun W => ib_back (byt t 1) W (byt_lt t 1))
        have HI2 := Lib.hid (fun W => ib_back (byt t 2) W (byt_lt t 2))
        have HE3 := Lib.hid (HE2.out.trans (if_pos ⟨rfl, h2⟩))
        clear HE2
        have hb1 := byt_lt t 1
        have hb2 := byt_lt t 2
        generalize byt t 1 = c1 at *
        generalize byt t 2 = c2 at *
        by_cases d1 : hx c1 < 16
        · rw [hxi_lt d1] at HI1
          by_cases d2 : hx c2 < 16
          · rw [hxi_lt d2] at HI2
            have HE4 := Lib.hid (HE3.out.trans (if_pos ⟨d1, d2⟩))
            clear HE3
            generalize hx c1 = h at *
            generalize hx c2 = l at *
            have hor := or4_i64 h l (by omega) d2
            have hcv : ∀ W : World, (convert 29 9 (.slice (some ⟨W.heap.size, 0, none⟩) 1 1)).run Tryd.prog (W.alloc (.cells #[.int .u8 ((h : Int) * 16 + (l : Int))] 5)) = .ok (.string (one (16 * h + l))) (W.alloc (.cells #[.int .u8 ((h : Int) * 16 + (l : Int))] 5)) := fun W => by
              have h1 := conv_one (16 * h + l) W (by omega)
              rw [show (((16 * h + l : Nat)) : Int) = (h : Int) * 16 + (l : Int) by omega] at h1
              exact h1
            have hcv2 : ∀ W : World, (convert 29 9 (.slice (some ⟨W.heap.size, 0, none⟩) 1 1)).run Tryd.prog (W.alloc (.cells #[.int .u8 ((h : Int) * 16 + (l : Int))] 5)).drew = .ok (.string (one (16 * h + l))) (W.alloc (.cells #[.int .u8 ((h : Int) * 16 + (l : Int))] 5)).drew := fun W => hcv W.drew
            go_wp2_with fail
            refine wp_still_tail_drew 6 (by kernel_rfl) (by kernel_rfl) ?_
            simp only [List.take_succ_cons, List.take_zero, List.drop_succ_cons, List.drop_zero]
            still_step
            still_step
            still_call (HI1.out _)
            still_step
            still_step
            still_call (HI2.out _)
            refine wpStill_nil ?_
            have HF2 := Lib.hid HFK.out.drew
            go_wp2
            go_ret2
            rw [HE4.out]
            exact ⟨rfl, HF2.out.alloc _⟩
          · rw [hxi_no d2] at HI2
            have HE4 := Lib.hid (HE3.out.trans (if_neg (fun h => d2 h.2)))
            clear HE3 d2
            generalize hx c1 = h at *
            go_wp2_with fail
            refine wp_still_tail_drew 6 (by kernel_rfl) (by kernel_rfl) ?_
            simp only [List.take_succ_cons, List.take_zero, List.drop_succ_cons, List.drop_zero]
            still_step
            still_step
            still_call (HI1.out _)
            still_step
            still_step
            still_call (HI2.out _)
            refine wpStill_nil ?_
            go_wp2
            go_ret2
            rw [HE4.out]
            exact ⟨rfl, HFK.out.drew⟩
        · rw [hxi_no d1] at HI1
          have HE4 := Lib.hid (HE3.out.trans (if_neg (fun h => d1 h.1)))
          clear HE3 d1
          generalize hxi c2 = h at *
          go_wp2_with fail
          refine wp_still_tail_drew 6 (by kernel_rfl) (by kernel_rfl) ?_
          simp only [List.take_succ_cons, List.take_zero, List.drop_succ_cons, List.drop_zero]
          still_step
          still_step
          still_call (HI1.out _)
          still_step
          still_step
          still_call (HI2.out _)
          refine wpStill_nil ?_
          go_wp2
          go_ret2
          rw [HE4.out]
          exact ⟨rfl, HFK.out.drew⟩
      · have hlen : decide ((2 : Int) < (t.size : Int)) = false := by simp; omega
        have hlen2 : decide (2 < t.size) = false := by simp; omega
        have HE3 := Lib.hid (HE2.out.trans ((if_neg (fun h => h2 h.2)).trans (if_neg (fun h => absurd h.1 (by decide)))))
        have hd : decide (1 < t.size ∧ (120 : Nat) = 117 ∧ byt t 1 = 123) = false := by simp
        rw [hd] at HPR
        clear HE2 h2 hd
        go_wp2_with fail
        refine (HPR.out _).mono ?_
        rintro e w3 ⟨rfl, rfl⟩
        go_wp2
        go_ret2
        rw [HE3.out]
        exact ⟨rfl, HFK.out⟩
      · have HE3 := Lib.hid (HE2.out.trans ((if_neg (fun h => h1 h.1)).trans (if_pos ⟨h2, h3, h4⟩)))
        have hd : decide (1 < t.size ∧ c = 117 ∧ byt t 1 = 123) = true := by simp; exact ⟨h3, h2, h4⟩
        rw [hd] at HPR
        subst h2
        have HB := Lib.hid (fun W => braced_any t W hz h3)
        clear HE2 hd h1 h3 h4
        go_wp2_with fail
        refine (HPR.out _).mono ?_
        rintro e w3 ⟨rfl, rfl⟩
        go_wp2_with fail
        refine (HB.out _).mono ?_
        rintro e w3 ⟨rfl, rfl⟩
        go_wp2
        go_ret2
        rw [HE3.out]
        exact ⟨rfl, HFK.out⟩
      · have HE3 := Lib.hid (HE2.out.trans ((if_neg (fun h => h1 h.1)).trans (if_neg h2)))
        have hd : decide (1 < t.size ∧ c = 117 ∧ byt t 1 = 123) = false := by simp; intro a b; exact fun d => h2 ⟨b, a, d⟩
        rw [hd] at HPR
        obtain ⟨ci, hci⟩ : ∃ ci : Int, ci = ((c : Nat) : Int) := ⟨_, rfl⟩
        rw [← hci] at hi0
        have e1 : (ci == 120) = false := by simp; omega
        clear HE2 hd h1 h2 hci
        go_wp2_with fail
        refine (HPR.out _).mono ?_
        rintro e w3 ⟨rfl, rfl⟩
        go_wp2
        go_ret2
        rw [HE3.out]
        exact ⟨rfl, HFK.out⟩
    · obtain ⟨k, l, hek, hev, hul, hk0, hk128, hl⟩ := esc_entry (mem_left he).1
      rw [hek, hev] at hrun
      have hnx : ∀ ty, (Instr.next (.pointer (some ⟨it, 0, none⟩)) false ty).run Tryd.prog wr = _ := fun _ => hrun
      obtain ⟨kw, hw2⟩ := setBlock_keep (o' := .mapIter (some mk) 5 (seen.push e.born) 5) hal hsit
      have hmk2 := kw.at_ hmw (by simp; omega)
      have hen := run_entry_at (P := Tryd.prog) _ it mk 5 seen escE 5 e hw2 hmk2 (mem_left he).1 esc_stamped.2
      rw [hek, hev] at hen
      have HK2 := Lib.hid (HKP.out.trans kw (fun x hx => by simp at hx; subst hx; have := HIT.out; exact .inr (by omega)))
      have HW2 := Lib.hid hw2
      generalize setBlock w1 it (.mapIter (some mk) 5 (seen.push e.born) 5) = W2 at *
      have hcv := conv_low hk128
      have HEV := Lib.hid hev
      have HBE := Lib.hid he
      clear hmk2 kw hw2 hek hev hal hsit hmw he
      by_cases hcl : c = l
      · subst hcl
        have HE2 := Lib.hid (show esc t = (one k, 1) from HES.out.trans ((if_pos (by rw [hul]; exact hk0)).trans (by rw [hul])))
        clear hul hk0
        go_wp2
        go_ret2
        rw [HE2.out]
        exact ⟨rfl, HK1.out.trans0 HK2.out⟩
      · have e1 : (((c : Nat) : Int) == ((l : Nat) : Int)) = false := by simp; omega
        have e2 : (c == l) = false := by simp; omega
        have HCL := Lib.hid hcl
        clear hcl
        go_wp2
        go_roundw
        case rel =>
          refine ⟨_, HW2.out, HK2.out, fun x hx hc => ?_⟩
          rw [contains_push] at hc
          rcases Bool.or_eq_true _ _ ▸ hc with h1 | h1
          · exact HNO.out x hx h1
          · have : x = e := born_inj esc_stamped.2 hx (mem_left HBE.out).1 (beq_iff_eq.1 h1)
            subst this
            rw [HEV.out]
            intro hh
            injection hh with _ hh
            exact HCL.out (by omega)
        case measure =>
          have m1 : wr.iterSeen it = seen := by simp only [World.iterSeen, HSI.out]
          have m2 : W2.iterSeen it = seen.push e.born := by simp only [World.iterSeen, HW2.out]
          rw [m1, m2]
          exact left_shrinks escE seen e HBE.out
end Go.Proofs.YtbidppjhenfjdaaDoor
