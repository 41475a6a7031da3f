/-
  Walks of the program's quoted and Unquote.
-/
import Derived.Test.YtbidppjhenfjdaaDoorQuoJ
import Derived.Test.YtbidppjhenfjdaaDoorQuoE
namespace Go.Proofs.YtbidppjhenfjdaaDoor
open Go.RowKit
set_option linter.unusedVariables false
set_option linter.unusedSimpArgs false

theorem dec_from (s : ByteArray) (p j : Nat) (hp : p ≤ s.size) : dec (s.extract p s.size) j = dec s (p + j) := by
  unfold dec
  rw [size_tail s p hp, byt_tail, byt_tail, byt_tail, byt_tail]
  rw [show s.size - p - j = s.size - (p + j) by omega]
  rfl
theorem dec_low {s : ByteArray} {p : Nat} (hp : p < s.size) (hb : byt s p < 128) : dec s p = (byt s p, 1) ∧ wid s p = 1 := by
  have h : RuneAt s p (byt s p) 1 := ⟨by omega, .inl ⟨rfl, hb, rfl⟩⟩
  exact ⟨h.dec, h.wid⟩
theorem low_of {s : ByteArray} {p : Nat} (hp : p < s.size) (h : (dec s p).1 < 128) : byt s p = (dec s p).1 := by
  by_cases hw : wid s p = 0
  · rw [dec_of_wid hp hw] at h
    simp at h
  · exact (rune_of_wid hp hw).2.elim (fun h' => h'.2.2.symm) (fun h' => by omega)
theorem slice_tail {s : ByteArray} {k : Nat} {z : Int} (h : k ≤ s.size) (hz : z = (k : Nat)) (W : World) : (Instr.slice 9 (.string s) (some (.int .i64 z)) none none).run Tryd.prog W = .ok (.string (s.extract k s.size)) W := by
  subst hz
  have hu := Tryd.underlying9
  have h1 : (k : Int) ≤ (s.size : Int) := by omega
  simp [go_sem, hu, h1, h]

/-- Between the pieces of a quoted text. -/
def QdI (s t0 : ByteArray) (a : Nat) (w : World) (ib base : Nat) (l : List Nat) (p k : Nat) (b : ByteArray) (W : World) : Prop :=
  At t0 l p ∧ W.heap[ib]? = some (.stringIter t0 p) ∧ Keep [] w W ∧ BufAt W w.heap.size base b ∧ b.size ≤ 4 * l.length ∧
  ((k ≤ a + 1 + p ∧ qd s (a + 1) ByteArray.empty = qd s (a + 1 + p) b) ∨ (a + 1 + p < k ∧ k ≤ s.size ∧ (∀ j, a + 1 + p ≤ j → j < k → byt s j < 128) ∧ qd s (a + 1) ByteArray.empty = qd s k b))
theorem WroteP.keeps {w W W' : World} {base : Nat} {x : ByteArray} (h : WroteP w.heap.size base x W W') (k : Keep [] w W) (hb : w.heap.size < base) : Keep [] w W' := by
  obtain ⟨_, _, L, hk, hL⟩ := h
  refine k.trans hk (fun y hy => ?_)
  rcases hL y hy with h | h
  · exact .inr (by omega)
  · exact .inr (by omega)

set_option maxHeartbeats 32000000 in
set_option maxRecDepth 100000 in
theorem quoted_any (s : ByteArray) (a : Nat) (w : World) (hz : s.size ≤ 100000000) (ha : a ≤ s.size) : Calls Tryd.prog 35 #[.string s, .int .i64 (a : Nat)] w fun e w' => e = .returned (.tuple #[.string (qtd s a).2.1, .int .i64 (qtd s a).2.2, .bool (qtd s a).1]) ∧ Keep [] w w' := by
  by_cases h0 : a < s.size
  · have hi0 := byte_z (s := s) (i := a) (z := (a : Nat)) h0 rfl
    have hb0 := byt_lt s a
    by_cases h1 : byt s a = 34
    · have HQ := Lib.hid (show qtd s a = qd s (a + 1) ByteArray.empty by unfold qtd; rw [if_pos ⟨h0, h1⟩])
      rw [h1] at hi0
      have hsl := slice_tail (s := s) (k := a + 1) (z := (a : Int) + 1) (by omega) (by omega)
      have ht0z := size_tail s (a + 1) (by omega)
      have HDF := Lib.hid (fun p => dec_from s (a + 1) p (by omega))
      generalize s.extract (a + 1) s.size = t0 at *
      have hg1 : decide ((s.size : Int) ≤ (a : Int)) = false := by simp; omega
      have hg2 : decide (s.size ≤ a) = false := by simp; omega
      clear h1 hb0
      go_enter Tryd.func35, Tryd.ntmps35
      go_wp2_with fail
      have ka := (Keep.refl [] w).alloc (.cells #[.pointer none, .slice none 0 0] 61)
      have hbl0 := World.alloc_heap_new w (.cells #[.pointer none, .slice none 0 0] 61)
      have B1 : Hid (BufAt (w.alloc (.cells #[.pointer none, .slice none 0 0] 61)) w.heap.size (w.heap.size + 1) ByteArray.empty) := Lib.hid ⟨_, _, hbl0, .inl rfl, World.ownsRow_nil _ _ _ _, by omega⟩
      have K1 := Lib.hid ka
      have hsz1 : (w.alloc (.cells #[.pointer none, .slice none 0 0] 61)).heap.size = w.heap.size + 1 := World.size_alloc _ _
      obtain ⟨W1, hW1⟩ : ∃ W1, W1 = w.alloc (.cells #[.pointer none, .slice none 0 0] 61) := ⟨_, rfl⟩
      rw [← hW1] at B1 K1 hsz1 ⊢
      clear hW1 ka hbl0
      obtain ⟨base, hbase⟩ : ∃ b, b = w.heap.size + 1 := ⟨_, rfl⟩
      rw [← hbase] at B1 hsz1 ⊢
      have hbb : w.heap.size < base := by omega
      clear hbase
      obtain ⟨ib, hib⟩ : ∃ i, i = base := ⟨_, rfl⟩
      have HIB := Lib.hid (show base ≤ ib by omega)
      have hitn := World.iter_heap W1 t0 0
      have kb := (Keep.refl [] W1).alloc (.stringIter t0 0)
      rw [← hib]
      rw [hsz1, ← hib] at hitn
      go_loopw [8] (fun sk wr => ∃ (l : List Nat) (p k : Nat) (b : ByteArray), QdI s t0 a w ib base l p k b wr ∧ sk = .int .i64 k) (fun _ wr => t0.size - wr.iterPos ib)
      case atStart =>
        refine ⟨[], 0, 0, ByteArray.empty, ⟨.zero, hitn, K1.out.trans0 kb, ?_, by simp, .inl ⟨by omega, rfl⟩⟩, rfl⟩
        obtain ⟨q, v, h1, h2, h3, h4⟩ := B1.out
        exact ⟨q, v, kb.at_ h1 (by simp), h2, kb.owns h3 (fun g hg => by simp), h4⟩
      case round =>
        clear B1 K1 hib hitn kb hsl hi0 hg1 hg2
        obtain ⟨l, p, k, b, ⟨hat, hit, hk, hbuf, hbz, hinv⟩, rfl⟩ := hrel
        have hll := hat.len
        have hple := hat.le
        have hib := lt_of_block hit
        have HA := Lib.hid hat; have HK := Lib.hid hk; have HBU := Lib.hid hbuf; have HINV := Lib.hid hinv; clear hat hk hbuf hinv
        by_cases hp : p < t0.size
        · have hn := dec_n hp
          have hnx : ∀ ty, _ := fun ty => next_in (P := Tryd.prog) hit hp ty
          have hit2 := Lib.iterAt_heap wr ib t0 p (p + (dec t0 p).2) hit
          have HST := Lib.hid (HA.out.step hp)
          have ki : Keep [ib] wr (wr.iterAt ib t0 (p + (dec t0 p).2)) := ⟨rfl, rfl, rfl, by rw [Lib.iterAt_size]; exact Nat.le_refl _, fun i _ hi => Lib.iterAt_other wr ib i t0 _ (by simpa using hi)⟩
          have hbi := HIB.out
          have HK2 := Lib.hid (HK.out.trans ki (fun x hx => by simp at hx; subst hx; exact .inr (by omega)))
          have hb2 : BufAt (wr.iterAt ib t0 (p + (dec t0 p).2)) w.heap.size base b := by
            obtain ⟨q, v, h1, h2, h3, h4⟩ := HBU.out
            have hni := own_not_iter h3 hit
            exact ⟨q, v, ki.at_ h1 (by simp; omega), h2, ki.owns h3 (fun g hg => by simp; intro e; subst e; exact hni (by simp [hg])), h4⟩
          have HB2 := Lib.hid hb2; clear hb2
          have HIT2 := Lib.hid hit2
          have HS2 := Lib.hid (show base ≤ (wr.iterAt ib t0 (p + (dec t0 p).2)).heap.size by rw [Lib.iterAt_size]; omega)
          clear hit2 ki hbi
          generalize hV : wr.iterAt ib t0 (p + (dec t0 p).2) = V at *
          have HPOS := Lib.hid (show wr.iterPos ib = p by simp only [World.iterPos, hit])
          clear hV hit
          have hdf := HDF.out p
          have his : a + 1 + p < s.size := by omega
          have hadd : (p : Int) + ((a : Int) + 1) = ((a + 1 + p : Nat) : Int) := by omega
          have HFIN : Hid (∀ (W' : World) (k' : Nat) (b' : ByteArray), Keep [] w W' → W'.heap[ib]? = some (.stringIter t0 (p + (dec t0 p).2)) → BufAt W' w.heap.size base b' → b'.size ≤ b.size + 4 →
              ((k' ≤ a + 1 + p + (dec s (a + 1 + p)).2 ∧ qd s (a + 1) ByteArray.empty = qd s (a + 1 + p + (dec s (a + 1 + p)).2) b') ∨ (a + 1 + p + (dec s (a + 1 + p)).2 < k' ∧ k' ≤ s.size ∧ (∀ j, a + 1 + p + (dec s (a + 1 + p)).2 ≤ j → j < k' → byt s j < 128) ∧ qd s (a + 1) ByteArray.empty = qd s k' b')) →
              Hid (QdI s t0 a w ib base (l ++ [p]) (p + (dec t0 p).2) k' b' W' ∧ t0.size - W'.iterPos ib < t0.size - wr.iterPos ib)) := Lib.hid (fun W' k' b' h1 h2 h3 h4 h5 => by
            refine ⟨⟨HST.out, h2, h1, h3, by rw [List.length_append, List.length_singleton]; omega, ?_⟩, ?_⟩
            · rw [hdf, ← Nat.add_assoc]; exact h5
            · rw [HPOS.out]; simp only [World.iterPos, h2]; omega)
          obtain ⟨i, hi⟩ : ∃ i, i = a + 1 + p := ⟨_, rfl⟩
          rw [hdf] at hnx hn HIT2 HFIN
          rw [← hi] at hadd his HFIN hnx hn HIT2 HINV
          clear hdf HST HPOS HA HBU HK
          have hdn := dec_n his
          have hq34 : (dec s i).1 = 34 → byt s i = 34 := fun e => by rw [low_of his (by omega)]; exact e
          have hq92 : (dec s i).1 = 92 → byt s i = 92 := fun e => by rw [low_of his (by omega)]; exact e
          have hn34 : (dec s i).1 ≠ 34 → byt s i ≠ 34 := fun e h => e (by rw [(dec_low his (by omega)).1, h])
          have hn92 : (dec s i).1 ≠ 92 → byt s i ≠ 92 := fun e h => e (by rw [(dec_low his (by omega)).1, h])
          have hhi : a + 1 ≤ i := by omega
          clear hi
          rcases HINV.out with ⟨hki, hq⟩ | ⟨hki, hks, hlow, hq⟩
          · have hlt1 : decide ((i : Int) < (k : Int)) = false := by simp; omega
            have hlt2 : decide (i < k) = false := by simp; omega
            have HHQ := Lib.hid hq; clear hq HINV
            by_cases c1 : (dec s i).1 = 34
            · have hb := hq34 c1
              have HR := Lib.hid (HHQ.out.trans (qd_q b his hb))
              rw [c1] at hnx
              clear hq34 hq92 hn34 hn92 hb HFIN HHQ c1
              go_wp2_with fail
              refine (Tryd.Builder_String_any_k w.heap.size w.heap.size _ _ HB2.out.builder (by have := HK2.out.size; omega)).mono ?_
              rintro r W6 ⟨rfl, _, hbw, _⟩
              have HK6 := Lib.hid (keep_below HK2.out hbw (Nat.le_refl _)); clear hbw
              go_wp2
              go_ret3
              rw [HQ.out, HR.out]
              exact ⟨rfl, HK6.out⟩
            by_cases c2 : (dec s i).1 = 92
            · have hb := hq92 c2
              have hd1 : (dec s i).2 = 1 := by rw [(dec_low his (by omega)).1]
              rw [c2] at hnx
              have hsl := slice_tail (s := s) (k := i + 1) (z := (i : Int) + 1) (by omega) (by omega)
              have HE := Lib.hid (fun W => escaped_any (s.extract (i + 1) s.size) W (by rw [size_tail s (i + 1) (by omega)]; omega))
              have hes := esc_spec (s.extract (i + 1) s.size)
              rw [size_tail s (i + 1) (by omega)] at hes
              have HES := Lib.hid hes; clear hes
              have HBAD := Lib.hid (qd_bad b his hb)
              have HESC := Lib.hid (qd_esc b his hb)
              have HBT := Lib.hid (byt_tail s (i + 1))
              generalize s.extract (i + 1) s.size = t1 at *
              clear hq34 hq92 hn34 hn92 c1 c2
              go_wp2_with fail
              refine (HE.out _).mono ?_
              rintro e W3 ⟨rfl, hk3⟩
              have HK3 := Lib.hid (HK2.out.trans0 hk3)
              have HB3 := Lib.hid (HB2.out.keep hk3)
              have HIT3 := Lib.hid (hk3.at_ HIT2.out (by simp))
              have HS3 := Lib.hid (show base ≤ W3.heap.size by have := HS2.out; have := hk3.size; omega)
              clear hk3 HE HB2 HIT2 HK2
              generalize (esc t1).1 = x at *
              generalize (esc t1).2 = n at *
              by_cases c3 : n = 0
              · subst c3
                have HR := Lib.hid (HHQ.out.trans (HBAD.out rfl))
                clear HFIN HESC HBAD
                go_wp2
                go_ret3
                rw [HQ.out, HR.out]
                exact ⟨rfl, HK3.out⟩
              · have HR := Lib.hid (HHQ.out.trans (HESC.out c3))
                have e1 : (((n : Nat) : Int) == 0) = false := by simp; omega
                have hnz : n ≤ s.size - (i + 1) := HES.out.1
                go_wp2_with fail
                refine (writeStr_any _ base _ _ W3 HB3.out (by have := HES.out.2.1; omega) (by omega) HS3.out).mono ?_
                rintro e W4 ⟨⟨k4, rfl⟩, hw4⟩
                have hf := HFIN.out W4 (i + 1 + n) (b ++ x) (hw4.keeps HK3.out hbb) (hw4.2.1 _ _ _ HIT3.out) hw4.1 (by have := HES.out.2.1; rw [ByteArray.size_append]; omega) (.inr ⟨by omega, by omega, fun j h1 h2 => by
                  have := HES.out.2.2 (j - (i + 1)) (by omega)
                  rw [HBT.out] at this
                  rw [show i + 1 + (j - (i + 1)) = j by omega] at this
                  exact this, HR.out⟩)
                clear HFIN hw4
                go_wp2
                go_roundw
                case rel => exact ⟨_, _, _, _, hf.out.1, by go_num⟩
                case measure => exact hf.out.2
            · have HRI : Hid ((((dec s i).1 : Nat) : Int) = (((dec s i).1 : Nat) : Int)) := Lib.hid rfl
              have HD := Lib.hid (decode_in s i V (by omega) his)
              have h34 := hn34 c1
              have h92 := hn92 c2
              unfold decV at HD
              have hdle := dec_le his
              have HOFF := Lib.hid (qd_off b his h34 h92)
              have HON := Lib.hid (qd_on b his h34 h92)
              have HISB := Lib.hid (show isB s i = decide (wid s i ≠ 0) from rfl)
              obtain ⟨ri, hri⟩ : ∃ ri : Int, ri = (((dec s i).1 : Nat) : Int) := ⟨_, rfl⟩
              rw [← hri] at hnx HD
              have e1 : (ri == 34) = false := by simp; omega
              have e2 : (ri == 92) = false := by simp; omega
              have hcs : (wid s i = 0 ∧ isB s i = false) ∨ (isB s i = true ∧ (dec s i).1 < 32 ∧ decide (ri < 32) = true) ∨ (isB s i = true ∧ (dec s i).1 = 127 ∧ decide (ri < 32) = false ∧ (ri == 127) = true) ∨ (¬ (wid s i = 0 ∨ (dec s i).1 < 32 ∨ (dec s i).1 = 127) ∧ isB s i = true ∧ decide (ri < 32) = false ∧ (ri == 127) = false) := by
                rw [HISB.out]
                by_cases a1 : wid s i = 0
                · exact .inl ⟨a1, by simp [a1]⟩
                · by_cases a2 : (dec s i).1 < 32
                  · exact .inr (.inl ⟨by simp [a1], a2, by simp; omega⟩)
                  · by_cases a3 : (dec s i).1 = 127
                    · exact .inr (.inr (.inl ⟨by simp [a1], a3, by simp; omega, by simp; omega⟩))
                    · exact .inr (.inr (.inr ⟨by omega, by simp [a1], by simp; omega, by simp; omega⟩))
              clear hq34 hq92 hn34 hn92 c1 c2 h34 h92 HISB HRI
              have HRI := Lib.hid hri; clear hri
              rcases hcs with ⟨a1, a2⟩ | ⟨a2, a1, a3⟩ | ⟨a2, a1, a3, a4⟩ | ⟨a1, a2, a3, a4⟩
              · have HR := Lib.hid (HHQ.out.trans (HOFF.out (.inl a1)))
                rw [a2] at HD
                clear HFIN HON HOFF a1 a2
                go_wp2_with fail
                refine HD.out.mono ?_
                rintro e W3 ⟨rfl, rfl⟩
                go_wp2
                go_ret3
                rw [HQ.out, HR.out]
                exact ⟨rfl, HK2.out⟩
              · have HR := Lib.hid (HHQ.out.trans (HOFF.out (.inr (.inl a1))))
                rw [a2] at HD
                clear HFIN HON HOFF a1 a2
                go_wp2_with fail
                refine HD.out.mono ?_
                rintro e W3 ⟨rfl, rfl⟩
                go_wp2
                go_ret3
                rw [HQ.out, HR.out]
                exact ⟨rfl, HK2.out⟩
              · have HR := Lib.hid (HHQ.out.trans (HOFF.out (.inr (.inr a1))))
                rw [a2] at HD
                clear HFIN HON HOFF a1 a2
                go_wp2_with fail
                refine HD.out.mono ?_
                rintro e W3 ⟨rfl, rfl⟩
                go_wp2
                go_ret3
                rw [HQ.out, HR.out]
                exact ⟨rfl, HK2.out⟩
              · have HR := Lib.hid (HHQ.out.trans (HON.out a1))
                rw [a2] at HD
                clear HON HOFF a1 a2
                have HDL := Lib.hid hdle; clear hdle
                go_wp2_with fail
                refine HD.out.mono ?_
                rintro e W3 ⟨rfl, rfl⟩
                go_wp2_with fail
                refine (writeRune_any _ base _ ri V HB2.out (by have := HRI.out; omega) (by have := HRI.out; have := HDL.out; omega) (by omega) HS2.out).mono ?_
                rintro e W4 ⟨⟨k4, rfl⟩, hw4⟩
                have hw : WroteP w.heap.size base (b ++ Utf8.encode ri) V W4 := hw4
                have hez := (enc_size ri).2
                have hf := HFIN.out W4 k (b ++ Utf8.encode ri) (hw.keeps HK2.out hbb) (hw.2.1 _ _ _ HIT2.out) hw.1 (by rw [ByteArray.size_append]; omega) (.inl ⟨by omega, by rw [HRI.out]; exact HR.out⟩)
                clear HFIN hw4 hw
                go_wp2
                go_roundw
                case rel => exact ⟨_, _, _, _, hf.out.1, rfl⟩
                case measure => exact hf.out.2
          · have hlt1 : decide ((i : Int) < (k : Int)) = true := by simp; omega
            have hlt2 : decide (i < k) = true := by simp; omega
            have hd1 : (dec s i).2 = 1 := by rw [(dec_low his (hlow i (Nat.le_refl _) hki)).1]
            have hf := HFIN.out V k b HK2.out HIT2.out HB2.out (by omega) (by
              rw [hd1]
              by_cases h : i + 1 < k
              · exact .inr ⟨h, hks, fun j h1 h2 => hlow j (by omega) h2, hq⟩
              · have : i + 1 = k := by omega
                rw [this]
                exact .inl ⟨Nat.le_refl _, hq⟩)
            clear hlow hq HINV hq34 hq92 hn34 hn92 HFIN hd1
            go_wp2
            exact ⟨⟨_, _, _, _, hf.out.1, rfl⟩, hf.out.2⟩
        · have hnx : ∀ ty, _ := fun ty => Lib.run_next_end_at (P := Tryd.prog) wr ib t0 p ty hit hp
          obtain ⟨rfl, rfl⟩ := HA.out.done hp
          have hkk : a + 1 + t0.size = s.size := by omega
          have hR : qd s (a + 1) ByteArray.empty = (false, ByteArray.empty, s.size) := by
            rcases HINV.out with ⟨_, hq⟩ | ⟨h1, h2, _⟩
            · rw [hq]; exact qd_end _ (by omega)
            · omega
          have HR := Lib.hid hR; clear hR
          go_wp2
          go_ret3
          rw [HQ.out, HR.out]
          exact ⟨rfl, HK.out⟩
    · have HQ := Lib.hid (show qtd s a = (false, ByteArray.empty, a) by unfold qtd; rw [if_neg (fun h => h1 h.2)])
      obtain ⟨c, hc⟩ : ∃ c : Int, c = ((byt s a : Nat) : Int) := ⟨_, rfl⟩
      rw [← hc] at hi0
      have e1 : (c == 34) = false := by simp; omega
      have e2 : (c != 34) = true := by simp; omega
      clear h1 hc hb0
      go_enter Tryd.func35, Tryd.ntmps35
      go_wp2
      go_ret3
      rw [HQ.out]
      exact ⟨rfl, (Keep.refl _ _).alloc _⟩
  · have HQ := Lib.hid (show qtd s a = (false, ByteArray.empty, a) by unfold qtd; rw [if_neg (fun h => h0 h.1)])
    obtain rfl : a = s.size := by omega
    go_enter Tryd.func35, Tryd.ntmps35
    go_wp2
    go_ret3
    rw [HQ.out]
    exact ⟨rfl, (Keep.refl _ _).alloc _⟩
end Go.Proofs.YtbidppjhenfjdaaDoor
