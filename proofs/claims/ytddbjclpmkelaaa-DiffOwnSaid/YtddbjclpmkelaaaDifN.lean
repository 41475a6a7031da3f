/-
  The program's walk along a change.
-/
import Derived.Test.YtddbjclpmkelaaaDifM
namespace Go.Proofs.Ytddbjclpmkelaaa
open Go.RowKit
set_option linter.unusedVariables false
set_option linter.unusedSimpArgs false

theorem info_str : (Try.prog.info? 9).map (fun i => (i.zero, i.size, i.bytes)) = some (some (.string ByteArray.empty), 1, 16) := by kernel_rfl
def goneCells (l : List (List Int)) : List Value := l.map fun g => .string (txt g)
theorem goneCells_snoc (l : List (List Int)) (g : List Int) : goneCells (l ++ [g]) = goneCells l ++ [.string (txt g)] := by simp [goneCells]

/-- What a call leaves that answers a text, a list of texts, a number. -/
def ApOut (k : IntKind) (o : Int × List Int × List (List Int)) (w : World) (r : Ending) (w' : World) : Prop :=
  ∃ v, r = .returned (.tuple #[.string (txt o.2.1), v, .int k o.1]) ∧ w'.ownsRow w.heap.size 9 1 v o.2.2.length (goneCells o.2.2) ∧ Keep [] w w' ∧ (v = .slice none 0 0 ↔ o.2.2.length = 0)

theorem BufAt.keep {w w' : World} {b base : Nat} {t : ByteArray} (h : BufAt w b base t) (k : Keep [] w w') : BufAt w' b base t := by
  obtain ⟨p, v, h1, h2, h3, h4⟩ := h
  exact ⟨p, v, k.at_ h1 (by simp), h2, k.owns h3 (by simp), h4⟩
theorem own_type {w : World} {base base' : Nat} {e e' : TypeId} {sz sz' n n' : Nat} {v v' : Value} {xs xs' : List Value} (h : w.ownsRow base e sz v n xs) (h' : w.ownsRow base' e' sz' v' n' xs') (he : e ≠ e') : ∀ g, v.ownBlock = some g → g ∉ v'.ownBlock.toList := by
  intro g hg hm
  simp at hm
  rcases h.2 with ⟨rfl, _⟩ | ⟨g1, _, cur1, rfl, _, hg1, _⟩
  · simp [Value.ownBlock] at hg
  · rcases h'.2 with ⟨rfl, _⟩ | ⟨g2, _, cur2, rfl, _, hg2, _⟩
    · simp [Value.ownBlock] at hm
    · simp [Value.ownBlock] at hg hm
      subst hg; subst hm
      rw [hg1] at hg2
      simp at hg2
      exact he hg2.2
theorem BufAt.beside {w w1 w' : World} {b base base' n : Nat} {e : TypeId} {v : Value} {xs : List Value} {t : ByteArray} (h : BufAt w b base t) (hr : w.ownsRow base' e 1 v n xs) (he : e ≠ 5) (hb : b < base') (k1 : Keep [] w w1) (k : Keep v.ownBlock.toList w1 w') : BufAt w' b base t := by
  obtain ⟨p, u, h1, h2, h3, h4⟩ := h
  refine ⟨p, u, k.at_ (k1.at_ h1 (by simp)) (fun hm => ?_), h2, k.owns (k1.owns h3 (by simp)) (own_type h3 hr (Ne.symm he)), h4⟩
  simp at hm
  have := (hr.lt b hm).1
  omega

theorem others_row {w w' : World} {b base : Nat} {e : TypeId} {sz n : Nat} {v : Value} {xs : List Value} (h : Lib.OthersKept 5 (some b) w w') (hr : w.ownsRow base e sz v n xs) (he : e ≠ 5) (hb : b < base) : w'.ownsRow base e sz v n xs := by
  refine ⟨hr.1, ?_⟩
  rcases hr.2 with hn | ⟨g, cap, cur, rfl, hbg, hgg, rest⟩
  · exact .inl hn
  · refine .inr ⟨g, cap, cur, rfl, hbg, h g _ hgg (by intro e1; cases e1; omega) (fun c fz e1 => ?_), rest⟩
    simp at e1
    exact he e1.2.1

set_option maxRecDepth 100000 in
set_option maxHeartbeats 16000000 in
theorem walk_any (a : ByteArray) (va : Value) (l : List EdV) (w : World) (he : EdAt w va l) (hl : l.length ≤ 1000) (ha : a.size ≤ 1000000) (hb : ∀ e ∈ l, -9223372036854775808 ≤ e.1 ∧ e.1 ≤ 9223372036854775807 ∧ -9223372036854775808 ≤ e.2.1 ∧ e.2.1 ≤ 9223372036854775807 ∧ e.2.2.size ≤ 10000) :
    Calls Try.prog 33 #[.string a, va] w (ApOut .i64 (apAll a l) w) := by
  obtain ⟨i0, hi, hz0, hz1, hz2⟩ := info_parts info_str
  have HI := Lib.hid hi; have HZ0 := Lib.hid hz0; have HZ1 := Lib.hid hz1; have HZ2 := Lib.hid hz2
  clear hi hz0 hz1 hz2
  obtain ⟨ada, ca, rfl, h1⟩ := he
  have H1 := Lib.hid h1; clear h1
  obtain ⟨n, hn⟩ : ∃ n, n = l.length := ⟨_, rfl⟩
  rw [← hn] at hl ⊢
  have HNN := Lib.hid hn; have HB := Lib.hid hb; clear hn hb
  go_enter Try.func33, Try.ntmps33
  go_wp2_with fail
  refine (badAt_any a _ (by omega)).mono ?_
  rintro q w1 ⟨rfl, hk1⟩
  have HK1 := Lib.hid hk1; clear hk1
  by_cases hga : 0 ≤ badAt a
  · have HO : Hid (apAll a l = (2, [], [])) := by show _ = _; unfold apAll; rw [if_pos hga]
    go_wp2_with fail
    go_ret3
    rw [HO.out]
    exact ⟨_, rfl, World.ownsRow_nil _ _ _ _, HK1.out, by simp⟩
  · have HO : Hid (apAll a l = ap (runs a 0) l [] []) := by show _ = _; unfold apAll; rw [if_neg hga]
    have hta := txt_runs hga
    have hrv := runs_valid a 0
    have hrl := runs_size a
    have HTA := Lib.hid hta; have HRV := Lib.hid hrv; clear hta hrv
    go_wp2_with fail
    have hn1 := heap_alloc_new w1 (.cells #[.pointer none, .slice none 0 0] 70)
    have HN1 := Lib.hid hn1; clear hn1
    go_loopw [0, 8, 20] (fun sa sg si wr => ∃ (k : Nat) (x out : List Int) (gone : List (List Int)), k ≤ n ∧ si = .int .i64 k ∧ sa = .string (txt x) ∧ ap (runs a 0) l [] [] = ap x (l.drop k) out gone ∧ gone.length ≤ k ∧ out.length + x.length ≤ 1000000 + k * 10000 ∧
      wr.ownsRow (w1.heap.size + 1) 9 1 sg gone.length (goneCells gone) ∧ (sg = .slice none 0 0 ↔ gone.length = 0) ∧ BufAt wr w1.heap.size (w1.heap.size + 1) (txt out) ∧ Keep [] w wr) (fun _ _ si _ => n - (intOf si).toNat)
    case atStart => exact ⟨0, runs a 0, [], [], by omega, rfl, by rw [HTA.out], rfl, by simp, by simp; omega, World.ownsRow_nil _ _ _ _, by simp, ⟨_, _, HN1.out, .inl rfl, World.ownsRow_nil _ _ _ _, by omega⟩, HK1.out.alloc _⟩
    case round =>
      obtain ⟨k, x, out, gone, hk, rfl, rfl, hap, hgl, hsz, hrow, hnil, hbuf, hkp⟩ := hrel
      have HAP := Lib.hid hap; have HR := Lib.hid hrow; have HNIL := Lib.hid hnil; have HBU := Lib.hid hbuf; have HK := Lib.hid hkp
      clear hap hrow hnil hbuf hkp
      have hsz1 : out.length + x.length ≤ 11000000 := by have : k * 10000 ≤ 1000 * 10000 := Nat.mul_le_mul_right _ (by omega); omega
      have htx := txt_size x
      have hto := txt_size out
      by_cases hlt : k < n
      · have hltd : decide (k < n) = true := by simpa using hlt
        have hkl : k < l.length := by rw [← HNN.out]; exact hlt
        obtain ⟨b1, o1, rfl, c1⟩ := H1.out (by rw [← HNN.out]; omega)
        obtain ⟨p1, p2, p3⟩ := c1 k _ (List.getElem?_eq_getElem hkl)
        have d1 := HK.out.cellv p1 (by simp)
        have d2 := HK.out.cellv p2 (by simp)
        have d3 := HK.out.cellv p3 (by simp)
        obtain ⟨hx0, hx1, hx2, hx3, hx4⟩ := HB.out _ (List.getElem_mem hkl)
        rw [List.drop_eq_getElem_cons hkl] at HAP
        have C1 := Lib.hid c1; clear c1 p1 p2 p3
        generalize l[k] = e at *
        obtain ⟨ek, ed, et⟩ := e
        simp only at hx0 hx1 hx2 hx3 hx4 d1 d2 d3
        have hki : ((k : Int) < (n : Int)) := by omega
        go_upto_region 8 with (fail)
        generalize hW : wr.alloc (.cells #[.int .i64 ek, .int .i64 ed, .string et] 32) = W2
        have k2 : Keep [] wr W2 := by rw [← hW]; exact (Keep.refl _ _).alloc _
        have hb2 : W2.heap[wr.heap.size]? = some (.cells #[.int .i64 ek, .int .i64 ed, .string et] 32 (0, 0)) := by rw [← hW]; exact heap_alloc_new _ _
        have e0 : W2.cell? ⟨wr.heap.size, 0, none⟩ = some (.int .i64 ek) := by rw [cell_of_block hb2]; rfl
        have e1 : W2.cell? ⟨wr.heap.size, 1, none⟩ = some (.int .i64 ed) := by rw [cell_of_block hb2]; rfl
        have e2 : W2.cell? ⟨wr.heap.size, 2, none⟩ = some (.string et) := by rw [cell_of_block hb2]; rfl
        have HK2 := Lib.hid k2
        clear hW k2 hb2 d1 d2 d3
        by_cases hng : ek < 0 ∨ ed < 0
        · rw [ap_neg hng] at HAP
          by_cases h0 : ek < 0
          · go_wp2_with fail
            go_ret3
            rw [HO.out, HAP.out]
            exact ⟨_, rfl, World.ownsRow_nil _ _ _ _, HK.out.trans0 HK2.out, by simp⟩
          · have h0' : ed < 0 := by omega
            go_wp2_with fail
            go_ret3
            rw [HO.out, HAP.out]
            exact ⟨_, rfl, World.ownsRow_nil _ _ _ _, HK.out.trans0 HK2.out, by simp⟩
        · have HNG := Lib.hid hng
          have h0 : ¬ ek < 0 := by omega
          have h0' : ¬ ed < 0 := by omega
          go_wp2_with fail
          refine (badAt_any et _ (by omega)).mono ?_
          rintro q w3 ⟨rfl, hk3⟩
          have e0 := hk3.cellv e0 (by simp)
          have e1 := hk3.cellv e1 (by simp)
          have e2 := hk3.cellv e2 (by simp)
          have HK3 := Lib.hid (HK2.out.trans0 hk3); clear hk3
          by_cases hbd : 0 ≤ badAt et
          · rw [ap_bad (e := (ek, ed, et)) (by show ¬ (ek < 0 ∨ ed < 0); omega) hbd] at HAP
            go_wp2_with fail
            go_ret3
            rw [HO.out, HAP.out]
            exact ⟨_, rfl, World.ownsRow_nil _ _ _ _, HK.out.trans0 HK3.out, by simp⟩
          · have HBD := Lib.hid hbd
            have het := txt_runs hbd
            have hel := runs_size et
            have HET := Lib.hid het; clear het
            have hcl := cut_txt_len x
            go_wp2_with fail
            refine (count_any (txt x) _ (by omega)).mono ?_
            rintro q w4 ⟨rfl, hk4⟩
            rw [hcl]
            have e0 := hk4.cellv e0 (by simp)
            have e1 := hk4.cellv e1 (by simp)
            have e2 := hk4.cellv e2 (by simp)
            have HK4 := Lib.hid (HK3.out.trans0 hk4); clear hk4 hcl
            by_cases hlg : (x.length : Int) < ek ∨ (x.length : Int) - ek < ed
            · rw [ap_long (e := (ek, ed, et)) (by show ¬ (ek < 0 ∨ ed < 0); omega) (by show ¬ 0 ≤ badAt et; omega) hlg] at HAP
              by_cases hl1 : (x.length : Int) < ek
              · go_wp2_with fail
                go_ret3
                rw [HO.out, HAP.out]
                exact ⟨_, rfl, World.ownsRow_nil _ _ _ _, HK.out.trans0 HK4.out, by simp⟩
              · have hl2 : (x.length : Int) - ek < ed := by omega
                go_wp2_with fail
                go_ret3
                rw [HO.out, HAP.out]
                exact ⟨_, rfl, World.ownsRow_nil _ _ _ _, HK.out.trans0 HK4.out, by simp⟩
            · rw [ap_next (e := (ek, ed, et)) (by show ¬ (ek < 0 ∨ ed < 0); omega) (by show ¬ 0 ≤ badAt et; omega) hlg] at HAP
              have hl1 : ¬ (x.length : Int) < ek := by omega
              have hl2 : ¬ (x.length : Int) - ek < ed := by omega
              have hcv1 := cutV_txt x ek
              have hcv2 := cutV_txt (x.drop ek.toNat) ed
              rw [List.drop_drop] at hcv2
              have hsz2 : (out ++ x.take ek.toNat ++ runs et 0).length + (x.drop (ek.toNat + ed.toNat)).length ≤ 1000000 + (k + 1) * 10000 := by simp; omega
              have hs1 := txt_size (x.take ek.toNat)
              have hs2 := txt_size (x.drop ek.toNat)
              rw [List.length_take] at hs1
              rw [List.length_drop] at hs2
              have hout : txt (out ++ x.take ek.toNat ++ runs et 0) = txt out ++ (txt (x.take ek.toNat) ++ et) := by rw [txt_append, txt_append, HET.out, ByteArray.append_assoc]
              have HCV1 := Lib.hid hcv1; have HCV2 := Lib.hid hcv2; have HSZ2 := Lib.hid hsz2; have HOUT := Lib.hid hout
              clear hcv1 hcv2 hsz2 hout
              go_wp2_with fail
              refine (cut_any (txt x) ek _ (by omega) (by omega) (by omega)).mono ?_
              rintro q w5 ⟨rfl, hk5⟩
              rw [HCV1.out]
              have e1 := hk5.cellv e1 (by simp)
              have e2 := hk5.cellv e2 (by simp)
              have HK5 := Lib.hid (HK4.out.trans0 hk5); clear hk5 e0 HCV1
              generalize htk : txt (x.take ek.toNat) = tk at *
              generalize htd : txt (x.drop ek.toNat) = td at *
              have HTK := Lib.hid htk; have HTD := Lib.hid htd; clear htk htd
              go_wp2_with fail
              refine (cut_any td ed _ (by omega) (by omega) (by omega)).mono ?_
              rintro q w6 ⟨rfl, hk6⟩
              rw [HCV2.out]
              have e2 := hk6.cellv e2 (by simp)
              have HK6 := Lib.hid (HK5.out.trans0 hk6); clear hk6 e1 HCV2
              have hdr : txt ((x.drop ek.toNat).take ed.toNat) = txt ((x.drop ek.toNat).take ed.toNat) := rfl
              generalize hdp : txt ((x.drop ek.toNat).take ed.toNat) = dp at *
              generalize hrs : txt (x.drop (ek.toNat + ed.toNat)) = rs at *
              have HDP := Lib.hid hdp; have HRS := Lib.hid hrs; clear hdp hrs hdr
              have hbu6 := HBU.out.keep HK6.out
              have HBU6 := Lib.hid hbu6; clear hbu6
              have hsz6 := HK6.out.size
              have hlt6 : w1.heap.size < wr.heap.size := by obtain ⟨p, v, hq, _⟩ := HBU.out; exact lt_of_block hq
              go_wp2_with fail
              refine (writeString_any w1.heap.size (w1.heap.size + 1) (txt out) (tk ++ et) w6 HBU6.out (by rw [ByteArray.size_append]; omega) (by omega) (by omega)).mono ?_
              rintro q w7 ⟨⟨z, rfl⟩, hbu7, L, hk7, hL⟩
              rw [← HOUT.out] at hbu7
              have hr7 := row_apart (HK6.out.owns HR.out (by simp)) (by decide) (by omega) hk7 hL
              have hk07 : Keep [] w w7 := (HK.out.trans0 HK6.out).trans hk7 (fun b hb => by have := HK1.out.size; rcases hL b hb with h | h; right; omega; right; omega)
              have hsz7 := hk7.size
              have HBU7 := Lib.hid hbu7; have HR7 := Lib.hid hr7; have HK07 := Lib.hid hk07
              clear hbu7 hr7 hk07 hk7 hL HBU6
              go_wp2_with (with_reducible refine park_append 72 74 _ rfl ?_)
              refine wpList_append_mine _ rfl (.tmp 72) (.tmp 74) 37 rfl (w1.heap.size + 1) 9 i0 (.string ByteArray.empty) 1 16 Try.underlying37 HI.out HZ0.out HZ1.out HZ2.out rfl (by decide) _ _ _ rfl (HR7.out.alloc _) ⟨w7.heap.size, 0, none⟩ 1 1 [.string dp] rfl rfl (cell_new_row _ _ _) (by simp [Value.oneCell']) (by unfold maxLen; omega) (by omega) (by simp; omega) ?_
              intro v' w8 hp8
              obtain ⟨a1, a2, a3, a4⟩ := own_next2 (w := w) (by have := HK1.out.size; omega) HR7.out HK07.out ((Keep.refl _ _).alloc _) hp8 (by omega)
              have hbu8 := HBU7.out.beside HR7.out (by decide) (by omega) ((Keep.refl _ _).alloc _) hp8.2.1
              have HA1 := Lib.hid a1; have HA2 := Lib.hid a2; have HA3 := Lib.hid a3; have HBU8 := Lib.hid hbu8
              clear a1 a2 a3 a4 hbu8 hp8
              go_wp2_with fail
              go_roundw
              case rel =>
                refine ⟨k + 1, x.drop (ek.toNat + ed.toNat), _, _, by omega, by go_num, by rw [HRS.out], HAP.out, by simp; omega, HSZ2.out, ?_, by rw [List.length_append]; exact HA3.out, HBU8.out, HA2.out⟩
                rw [List.length_append, goneCells_snoc, HDP.out]
                exact HA1.out
              case measure => simp [intOf]; omega
      · have hltd : decide (k < n) = false := by simpa using hlt
        obtain rfl : k = n := by omega
        rw [HNN.out, List.drop_length, ap] at HAP
        go_wp2_with fail
        refine (Try.Builder_String_any_k w1.heap.size w1.heap.size _ _ HBU.out.builder (by obtain ⟨p, v, hq, _⟩ := HBU.out; exact Nat.le_of_lt (lt_of_block hq))).mono ?_
        rintro r w2 ⟨rfl, _, hbl, hot⟩
        have HK2 := Lib.hid (keep_below HK.out hbl HK1.out.size)
        have HR2 := Lib.hid (others_row hot HR.out (by decide) (by omega))
        clear hbl hot
        have hcat : (⟨(txt out).data.toList.toArray⟩ : ByteArray) ++ txt x = txt (out ++ x) := by rw [txt_append]
        have HCAT := Lib.hid hcat; clear hcat
        have hz2 : (⟨(txt out).data.toList.toArray⟩ : ByteArray).size ≤ 4 * out.length := hto
        generalize (⟨(txt out).data.toList.toArray⟩ : ByteArray) = so at *
        go_wp2_with fail
        go_ret3
        rw [HO.out, HAP.out]
        refine ⟨_, ?_, owns_mono HR2.out (by have := HK1.out.size; omega), HK2.out, HNIL.out⟩
        rw [HCAT.out]; rfl

theorem apply_any (a : ByteArray) (va : Value) (l : List EdV) (w : World) (he : EdAt w va l) (hl : l.length ≤ 1000) (ha : a.size ≤ 1000000) (hb : ∀ e ∈ l, -9223372036854775808 ≤ e.1 ∧ e.1 ≤ 9223372036854775807 ∧ -9223372036854775808 ≤ e.2.1 ∧ e.2.1 ≤ 9223372036854775807 ∧ e.2.2.size ≤ 10000) :
    Calls Try.prog 15 #[.string a, va] w fun e w' => e = .returned (.tuple #[.string (txt (apAll a l).2.1), .int .i64 (apAll a l).1]) ∧ Keep [] w w' := by
  go_enter Try.func15, Try.ntmps15
  go_wp2_with fail
  refine (walk_any a va l _ he hl ha hb).mono ?_
  rintro q w1 ⟨v, rfl, ho, hk, _⟩
  have HK := Lib.hid hk; clear hk ho
  go_wp2_with fail
  go_ret2
  exact ⟨rfl, HK.out⟩
end Go.Proofs.Ytddbjclpmkelaaa
