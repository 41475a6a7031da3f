/-
  Walks of the reference's Quoted and Unquote, and of the program's Unquote.
-/
import Derived.Test.YtbidppjhenfjdaaGreatDoorQuoM
import Derived.Test.YtbidppjhenfjdaaGreatDoorQuoK
import Derived.Test.YtbidppjhenfjdaaGreatDoorRow
namespace Go.Proofs.YtbidppjhenfjdaaGreatDoor
open Go.RowKit
set_option linter.unusedVariables false
set_option linter.unusedSimpArgs false

theorem results_cell_1 {P : Program} {fn : Func} {p : Tmp} {ty : TypeId} (h : fn.results = #[.cell p ty]) (tmps : Array Value) (w : World) (b : Nat) (v : Value)
    (hp : tmps.getD p undef = .pointer (some ⟨b, 0, none⟩)) (hl : (loadVar ty ⟨b, 0, none⟩).run P w = .ok v w) : (results fn tmps).run P w = .ok v w := by
  have hp' : tmps[p]?.getD undef = .pointer (some ⟨b, 0, none⟩) := by simpa using hp
  simp [results, h, hp', asAddr, hl]
theorem part_info : (Tryz.prog.info? 121).map (·.size) = some 3 := by kernel_rfl
/-- What the reference's Quoted hands back. -/
def partA (s : ByteArray) (a : Nat) : Array Value :=
  if (qtd s a).1 = true then #[.string (qtd s a).2.1, .int .i64 ((qtd s a).2.2 : Nat), .int .i64 0] else #[.string ByteArray.empty, .int .i64 (-1), .int .i64 ((qtd s a).2.2 : Nat)]
theorem partA_yes {s x : ByteArray} {a e : Nat} (h : qtd s a = (true, x, e)) : partA s a = #[.string x, .int .i64 (e : Nat), .int .i64 0] := by unfold partA; rw [h]; exact if_pos rfl
theorem partA_no {s : ByteArray} {a e : Nat} (h : qtd s a = (false, ByteArray.empty, e)) : partA s a = #[.string ByteArray.empty, .int .i64 (-1), .int .i64 (e : Nat)] := by unfold partA; rw [h]; exact if_neg (by simp)
/-- A row of bytes, a text behind it. -/
theorem row_on {w wr w3 : World} {B : Nat} {v v' : Value} {x y : ByteArray} (h1 : wr.ownsRow B 5 1 v x.size (Lib.strCells x)) (hk : Keep [] w wr) (hB : w.heap.size ≤ B)
    (ho : w3.ownsRow B 5 1 v' (x.size + y.size) (Lib.strCells x ++ Lib.strCells y)) (hg : wr.grownBy w3 v.ownBlock) : w3.ownsRow B 5 1 v' (x ++ y).size (Lib.strCells (x ++ y)) ∧ Keep [] w w3 := by
  refine ⟨?_, hk.trans (keep_of_grown hg) (fun b hb => by simp at hb; exact .inr (Nat.le_trans hB (h1.lt b hb).1))⟩
  rw [ByteArray.size_append, strCells_append]
  exact ho
theorem row_old {wr w3 : World} {B rb : Nat} {v : Value} {n : Nat} {cs : List Value} {o : Obj} (h1 : wr.ownsRow B 5 1 v n cs) (hg : wr.grownBy w3 v.ownBlock) (hb : wr.heap[rb]? = some o) (hB : rb < B) : w3.heap[rb]? = some o :=
  (keep_of_grown hg).at_ hb (fun hm => by simp at hm; have := (h1.lt rb hm).1; omega)

set_option maxHeartbeats 32000000 in
set_option maxRecDepth 100000 in
theorem rquoted_any (s : ByteArray) (a : Nat) (w : World) (hz : s.size ≤ 100000000) (ha : a ≤ s.size) : Calls Tryz.prog 51 #[.string s, .int .i64 (a : Nat)] w fun e w' => e = .returned (.agg (partA s a)) ∧ Keep [] w w' := by
  obtain ⟨i0, hi, hz0, hz1, hz2⟩ := info_parts info_u8
  have HI := Lib.hid hi; have HZ0 := Lib.hid hz0; have HZ1 := Lib.hid hz1; have HZ2 := Lib.hid hz2
  clear hi hz0 hz1 hz2
  have hq : (a < s.size ∧ byt s a = 34) ∨ (a < s.size ∧ byt s a ≠ 34) ∨ a = s.size := by omega
  have ka := (Keep.refl [] w).alloc (.cells #[.string ⟨#[]⟩, .int .i64 0, .int .i64 0] 121)
  have hr0 := World.alloc_heap_new w (.cells #[.string ⟨#[]⟩, .int .i64 0, .int .i64 0] 121)
  have hs0 := World.size_alloc w (.cells #[.string ⟨#[]⟩, .int .i64 0, .int .i64 0] 121)
  have hbad : ∀ (W : World) (e : Nat), qtd s a = (false, ByteArray.empty, e) → Keep [] w W → W.heap[w.heap.size]? = some (.cells #[.string ⟨#[]⟩, .int .i64 0, .int .i64 0] 121) →
      ∃ W', (Instr.storeAt 121 (.pointer (some ⟨w.heap.size, 0, none⟩)) (.agg #[.string ⟨#[]⟩, .int .i64 (-1), .int .i64 (e : Nat)])).run Tryz.prog W = .ok () W' ∧ (loadVar 121 ⟨w.heap.size, 0, none⟩).run Tryz.prog W' = .ok (.agg (partA s a)) W' ∧ Keep [] w W' := fun W e hq hk hb => by
    obtain ⟨W', h1, h2, h3⟩ := store_row (P := Tryz.prog) (t := 121) (cs := #[.string ⟨#[]⟩, .int .i64 (-1), .int .i64 (e : Nat)]) part_info hb rfl rfl (by simp [Value.oneCell'])
    refine ⟨W', h1, ?_, hk.trans h3 (fun x hx => by simp at hx; exact .inr (by omega))⟩
    rw [partA_no hq]
    exact load_var (P := Tryz.prog) Tryz.underlying121 rfl part_info h2 rfl
  have HBAD := Lib.hid hbad; clear hbad
  rcases hq with ⟨h0, h1⟩ | ⟨h0, h1⟩ | rfl
  · have HQ := Lib.hid (show qtd s a = qd s (a + 1) ByteArray.empty by unfold qtd; rw [if_pos ⟨h0, h1⟩])
    have hi0 := byte_z (s := s) (i := a) (z := (a : Nat)) h0 rfl
    rw [h1] at hi0
    have hg1 := dec_le_f (show ¬ (s.size : Int) ≤ (a : Int) by omega)
    have hg2 := dec_len_f (show ¬ s.size ≤ a by omega)
    clear h1
    go_enter Tryz.func51, Tryz.ntmps51
    go_wp2_with fail
    obtain ⟨W1, hW1⟩ : ∃ W1, W1 = w.alloc (.cells #[.string ⟨#[]⟩, .int .i64 0, .int .i64 0] 121) := ⟨_, rfl⟩
    rw [← hW1] at ka hr0 hs0 ⊢
    clear hW1
    obtain ⟨B, hB⟩ : ∃ B, B = w.heap.size + 1 := ⟨_, rfl⟩
    have HB := Lib.hid hB
    rw [← hB] at hs0
    clear hB
    obtain ⟨q0, hq0⟩ : ∃ q0 : Nat, q0 = a + 1 := ⟨_, rfl⟩
    rw [show (a : Int) + 1 = ((q0 : Nat) : Int) by omega]
    go_loopw [5, 6] (fun v i wr => ∃ (k : Nat) (b : ByteArray), i = .int .i64 k ∧ k ≤ s.size ∧ Keep [] W1 wr ∧ wr.heap[w.heap.size]? = some (.cells #[.string ⟨#[]⟩, .int .i64 0, .int .i64 0] 121) ∧ wr.ownsRow B 5 1 v b.size (Lib.strCells b) ∧ b.size ≤ 4 * k ∧ qd s (a + 1) ByteArray.empty = qd s k b) (fun _ i _ => s.size - (intOf i).toNat)
    case atStart => exact ⟨q0, ByteArray.empty, rfl, by omega, Keep.refl _ _, hr0, World.ownsRow_nil _ _ _ _, by simp, by rw [hq0]⟩
    case round =>
      clear hr0 hq0 hg1 hg2 hi0
      obtain ⟨i, b, rfl, hile, hk, hrb, hown, hbz, hqd⟩ := hrel
      have HK := Lib.hid hk; have HRB := Lib.hid hrb; have HO := Lib.hid hown; have HQD := Lib.hid hqd
      have KW := Lib.hid (ka.trans0 hk)
      have hszz := hk.size
      clear hk hrb hown hqd
      by_cases his : i < s.size
      · have f1 := dec_lt_t (show (i : Int) < (s.size : Int) by omega)
        have f2 := dec_ltn_t his
        have hix := byte_z (s := s) (i := i) (z := (i : Nat)) his rfl
        by_cases c1 : byt s i = 34
        · rw [c1] at hix
          have hR := HQ.out.trans (HQD.out.trans (qd_q b his c1))
          have hcv := conv_own HO.out
          obtain ⟨W9, hs9, hb9, hk9⟩ := store_row (P := Tryz.prog) (t := 121) (cs := #[.string b, .int .i64 ((i : Int) + 1), .int .i64 0]) part_info HRB.out rfl rfl (by simp [Value.oneCell'])
          have HL9 := Lib.hid (show (loadVar 121 ⟨w.heap.size, 0, none⟩).run Tryz.prog W9 = .ok (.agg (partA s a)) W9 by
            rw [partA_yes hR, show (((i + 1 : Nat)) : Int) = (i : Int) + 1 by omega]
            exact load_var (P := Tryz.prog) Tryz.underlying121 rfl part_info hb9 rfl)
          have HK9 := Lib.hid (KW.out.trans hk9 (fun x hx => by simp at hx; exact .inr (by omega)))
          clear hR hb9 hk9 c1
          go_wp2_with (with_reducible refine park_store 4 38 _ rfl ?_)
          refine wpList_store_eq rfl _ (.tmp 4) (.tmp 38) rfl hs9 ?_
          clear hs9
          go_wp2
          exact bodyPost_ret (results_cell_1 rfl _ _ w.heap.size _ rfl HL9.out) rfl ⟨rfl, HK9.out⟩
        by_cases c2 : byt s i = 92
        · rw [c2] at hix
          have hes := esc_spec (s.extract (i + 1) s.size)
          rw [size_tail s (i + 1) (by omega)] at hes
          have HES := Lib.hid hes; clear hes
          have HBD := Lib.hid (qd_bad b his c2)
          have HON := Lib.hid (qd_esc b his c2)
          have HE := Lib.hid (fun W => resc_any s i W hz his)
          generalize s.extract (i + 1) s.size = t1 at *
          clear c1 c2
          go_wp2_with fail
          refine (HE.out _).mono ?_
          rintro e W3 ⟨rfl, hk3⟩
          have HK3 := Lib.hid (HK.out.trans0 hk3); have KW3 := Lib.hid (KW.out.trans0 hk3)
          have HRB3 := Lib.hid (hk3.at_ HRB.out (by simp))
          have HO3 := Lib.hid (hk3.owns HO.out (by simp))
          have hsz3 := hk3.size
          clear hk3 HE HO HRB HK KW
          generalize (esc t1).1 = x at *
          generalize (esc t1).2 = n at *
          by_cases c3 : n = 0
          · subst c3
            have hR := HQ.out.trans (HQD.out.trans (HBD.out rfl))
            have hn0 : escn 0 = 0 := rfl
            rw [hn0]
            clear hn0 HON HBD
            obtain ⟨W9, hs9, hl9, hk9⟩ := HBAD.out _ _ hR KW3.out HRB3.out
            have HL9 := Lib.hid hl9; have HK9 := Lib.hid hk9
            clear hl9 hk9 hR
            go_wp2_with (with_reducible refine park_store 4 52 _ rfl ?_)
            refine wpList_store_eq rfl _ (.tmp 4) (.tmp 52) rfl hs9 ?_
            clear hs9
            go_wp2
            exact bodyPost_ret (results_cell_1 rfl _ _ w.heap.size _ rfl HL9.out) rfl ⟨rfl, HK9.out⟩
          · have HR := Lib.hid (HQD.out.trans (HON.out c3))
            have hnz : n ≤ s.size - (i + 1) := HES.out.1
            have hxz : x.size ≤ 4 := HES.out.2.1
            rw [escn_pos c3]
            have e1 : (((n + 1 : Nat) : Int) == 0) = false := by simp; omega
            have e2 : (((n : Nat) : Int) + 1 == 0) = false := by simp; omega
            clear c3 HES HON HBD
            go_wp2_with (with_reducible refine park_append 53 54 _ rfl ?_)
            refine Lib.wpList_append_own_string _ rfl (.tmp 53) (.tmp 54) 38 9 rfl B 5 i0 Tryz.underlying38 Tryz.underlying9 HI.out HZ0.out HZ1.out HZ2.out _ _ _ rfl HO3.out x rfl (by unfold maxLen; omega) (by omega) (by omega) ?_
            intro v3 W4 ho4 hg4 _
            have hf := row_on HO3.out HK3.out (by omega) ho4 hg4
            have hrb4 := row_old HO3.out hg4 HRB3.out (by have := HB.out; omega)
            have HF := Lib.hid hf; have HRB4 := Lib.hid hrb4
            clear ho4 hg4 hf hrb4
            go_wp2
            go_roundw
            case rel => exact ⟨i + 1 + n, b ++ x, by go_num, by omega, HF.out.2, HRB4.out, HF.out.1, by rw [ByteArray.size_append]; omega, HR.out⟩
            case measure => simp [intOf]; omega
        · obtain ⟨ci, hci⟩ : ∃ ci : Int, ci = ((byt s i : Nat) : Int) := ⟨_, rfl⟩
          rw [← hci] at hix
          have g1 : (ci == 34) = false := ((ar4 hci).2 c1).1
          have g2 : (ci == 92) = false := ((ar4 hci).2 c2).1
          have HOFF := Lib.hid (qd_off b his c1 c2)
          have HON := Lib.hid (qd_on b his c1 c2)
          have hdn := dec_n his
          have HD := Lib.hid (rdecode_in s i wr (by omega) his)
          have HISB := Lib.hid (show isB s i = decide (wid s i ≠ 0) from rfl)
          have HEN := Lib.hid (show wid s i ≠ 0 → Utf8.encode ((dec s i).1 : Nat) = s.extract i (i + (dec s i).2) from fun h => by rw [(rune_of_wid his h).enc, wid_snd h])
          unfold decV at HD
          clear c1 c2 hci
          obtain ⟨ri, hri⟩ : ∃ ri : Int, ri = (((dec s i).1 : Nat) : Int) := ⟨_, rfl⟩
          rw [← hri] at HD
          have hcs : (wid s i = 0 ∧ isB s i = false) ∨ (isB s i = true ∧ (dec s i).1 < 32 ∧ decide (ri < 32) = true) ∨ (isB s i = true ∧ (dec s i).1 = 127 ∧ decide (ri < 32) = false ∧ (ri == 127) = true) ∨ (¬ (wid s i = 0 ∨ (dec s i).1 < 32 ∨ (dec s i).1 = 127) ∧ wid s i ≠ 0 ∧ isB s i = true ∧ decide (ri < 32) = false ∧ (ri == 127) = false) := by
            rw [HISB.out]
            by_cases a1 : wid s i = 0
            · exact .inl ⟨a1, by simp [a1]⟩
            · by_cases a2 : (dec s i).1 < 32
              · exact .inr (.inl ⟨by simp [a1], a2, by simp; omega⟩)
              · by_cases a3 : (dec s i).1 = 127
                · exact .inr (.inr (.inl ⟨by simp [a1], a3, by simp; omega, by simp; omega⟩))
                · exact .inr (.inr (.inr ⟨by omega, a1, by simp [a1], by simp; omega, by simp; omega⟩))
          clear HISB hri
          have hoff : ((wid s i = 0 ∨ (dec s i).1 < 32 ∨ (dec s i).1 = 127) ∧ ((isB s i = false) ∨ (isB s i = true ∧ decide (ri < 32) = true) ∨ (isB s i = true ∧ decide (ri < 32) = false ∧ (ri == 127) = true))) ∨ (¬ (wid s i = 0 ∨ (dec s i).1 < 32 ∨ (dec s i).1 = 127) ∧ wid s i ≠ 0 ∧ isB s i = true ∧ decide (ri < 32) = false ∧ (ri == 127) = false) := by
            rcases hcs with ⟨a1, a2⟩ | ⟨a2, a1, a3⟩ | ⟨a2, a1, a3, a4⟩ | h
            · exact .inl ⟨.inl a1, .inl a2⟩
            · exact .inl ⟨.inr (.inl a1), .inr (.inl ⟨a2, a3⟩)⟩
            · exact .inl ⟨.inr (.inr a1), .inr (.inr ⟨a2, a3, a4⟩)⟩
            · exact .inr h
          clear hcs
          rcases hoff with ⟨a1, a2⟩ | ⟨a1, a2, a3, a4, a5⟩
          · have hR := HQ.out.trans (HQD.out.trans (HOFF.out a1))
            have HR := Lib.hid hR
            clear HOFF HON HEN a1 hR
            generalize (((dec s i).2 : Nat) : Int) = ni at *
            rcases a2 with a2 | ⟨a2, a3⟩ | ⟨a2, a3, a4⟩
            all_goals
              rw [a2] at HD
              clear a2
              go_wp2_with fail
              refine HD.out.mono ?_
              rintro e W3 ⟨rfl, hk3⟩
              have KW3 := Lib.hid (KW.out.trans0 hk3)
              have HRB3 := Lib.hid (hk3.at_ HRB.out (by simp))
              clear hk3
              obtain ⟨W9, hs9, hl9, hk9⟩ := HBAD.out _ _ HR.out KW3.out HRB3.out
              have HL9 := Lib.hid hl9; have HK9 := Lib.hid hk9
              clear hl9 hk9
              go_wp2_with (with_reducible refine park_store 4 77 _ rfl ?_)
              refine wpList_store_eq rfl _ (.tmp 4) (.tmp 77) rfl hs9 ?_
              clear hs9
              go_wp2
              exact bodyPost_ret (results_cell_1 rfl _ _ w.heap.size _ rfl HL9.out) rfl ⟨rfl, HK9.out⟩
          · have HR := Lib.hid (HQD.out.trans (HON.out a1))
            rw [a3] at HD
            rw [HEN.out a2] at HR
            clear HOFF HON HEN a1 a2 a3
            have hsl := fun W => slice_str hdn.2.2 W
            obtain ⟨x, hx⟩ : ∃ x, x = s.extract i (i + (dec s i).2) := ⟨_, rfl⟩
            have hxz : x.size ≤ 4 := by rw [hx, ByteArray.size_extract]; omega
            rw [← hx] at hsl HR
            clear hx
            generalize (dec s i).2 = nn at *
            go_wp2_with fail
            refine HD.out.mono ?_
            rintro e W3 ⟨rfl, hk3⟩
            have HK3 := Lib.hid (HK.out.trans0 hk3)
            have HRB3 := Lib.hid (hk3.at_ HRB.out (by simp))
            have HO3 := Lib.hid (hk3.owns HO.out (by simp))
            have hsz3 := hk3.size
            clear hk3 HO HRB HK KW
            go_wp2_with (with_reducible refine park_append 78 84 _ rfl ?_)
            refine Lib.wpList_append_own_string _ rfl (.tmp 78) (.tmp 84) 38 9 rfl B 5 i0 Tryz.underlying38 Tryz.underlying9 HI.out HZ0.out HZ1.out HZ2.out _ _ _ rfl HO3.out x rfl (by unfold maxLen; omega) (by omega) (by omega) ?_
            intro v3 W4 ho4 hg4 _
            have hf := row_on HO3.out HK3.out (by omega) ho4 hg4
            have hrb4 := row_old HO3.out hg4 HRB3.out (by have := HB.out; omega)
            have HF := Lib.hid hf; have HRB4 := Lib.hid hrb4
            clear ho4 hg4 hf hrb4
            go_wp2
            go_roundw
            case rel => exact ⟨i + nn, b ++ x, by go_num, by omega, HF.out.2, HRB4.out, HF.out.1, by rw [ByteArray.size_append]; omega, HR.out⟩
            case measure => simp [intOf]; omega
      · have f1 := dec_lt_f (show ¬ (i : Int) < (s.size : Int) by omega)
        have f2 := dec_ltn_f his
        have hR := HQ.out.trans (HQD.out.trans (qd_end b his))
        obtain ⟨W9, hs9, hl9, hk9⟩ := HBAD.out _ _ hR KW.out HRB.out
        have HL9 := Lib.hid hl9; have HK9 := Lib.hid hk9
        clear hl9 hk9 hR his
        go_wp2_with (with_reducible refine park_store 4 91 _ rfl ?_)
        refine wpList_store_eq rfl _ (.tmp 4) (.tmp 91) rfl hs9 ?_
        clear hs9
        go_wp2
        exact bodyPost_ret (results_cell_1 rfl _ _ w.heap.size _ rfl HL9.out) rfl ⟨rfl, HK9.out⟩
  · have hR : qtd s a = (false, ByteArray.empty, a) := by unfold qtd; rw [if_neg (fun h => h1 h.2)]
    obtain ⟨W9, hs9, hl9, hk9⟩ := HBAD.out _ _ hR ka hr0
    have hi0 := byte_z (s := s) (i := a) (z := (a : Nat)) h0 rfl
    obtain ⟨c, hc⟩ : ∃ c : Int, c = ((byt s a : Nat) : Int) := ⟨_, rfl⟩
    rw [← hc] at hi0
    have e1 : (c == 34) = false := ((ar4 hc).2 h1).1
    have e2 : (c != 34) = true := ((ar4 hc).2 h1).2
    have hg1 := dec_le_f (show ¬ (s.size : Int) ≤ (a : Int) by omega)
    have hg2 := dec_len_f (show ¬ s.size ≤ a by omega)
    have HL9 := Lib.hid hl9; have HK9 := Lib.hid hk9
    clear hl9 hk9 hR h1 hc hr0 ka hs0
    go_enter Tryz.func51, Tryz.ntmps51
    go_wp2_with (with_reducible refine park_store 4 23 _ rfl ?_)
    refine wpList_store_eq rfl _ (.tmp 4) (.tmp 23) rfl hs9 ?_
    clear hs9
    go_wp2
    exact bodyPost_ret (results_cell_1 rfl _ _ w.heap.size _ rfl HL9.out) rfl ⟨rfl, HK9.out⟩
  · have hR : qtd s s.size = (false, ByteArray.empty, s.size) := by unfold qtd; rw [if_neg (fun h => absurd h.1 (by omega))]
    obtain ⟨W9, hs9, hl9, hk9⟩ := HBAD.out _ _ hR ka hr0
    have HL9 := Lib.hid hl9; have HK9 := Lib.hid hk9
    clear hl9 hk9 hR hr0 ka hs0
    go_enter Tryz.func51, Tryz.ntmps51
    go_wp2_with (with_reducible refine park_store 4 23 _ rfl ?_)
    refine wpList_store_eq rfl _ (.tmp 4) (.tmp 23) rfl hs9 ?_
    clear hs9
    go_wp2
    exact bodyPost_ret (results_cell_1 rfl _ _ w.heap.size _ rfl HL9.out) rfl ⟨rfl, HK9.out⟩
end Go.Proofs.YtbidppjhenfjdaaGreatDoor
