/-
  Quote.
-/
import Derived.Test.YtbidppjhenfjdaaGreatDoorQuoD
import Derived.Test.YtbidppjhenfjdaaGreatDoorGlyE
import Derived.Test.YtbidppjhenfjdaaGreatDoorRegFix
import Derived.Deep.CutRange
namespace Go.Proofs.YtbidppjhenfjdaaGreatDoor
open Go.RowKit
set_option linter.unusedVariables false
set_option linter.unusedSimpArgs false

theorem conv_hex {d : Nat} (h : d < 16) (W : World) : (convert 5 9 (.int .u8 (hexd d : Nat))).run Tryz.prog W = .ok (.string (one (hexd d))) W := by
  have hall : ∀ e : Fin 16, Utf8.encode ((hexd e.1 : Nat) : Int) = one (hexd e.1) := by decide +kernel
  have := hall ⟨d, h⟩
  simp only at this
  have hu := Tryz.underlying5
  have hs := Tryz.underlying9
  simp [go_sem, hu, hs, this]

theorem hex_at {d : Nat} (h : d < 16) (W : World) : (Instr.index 9 (.string ⟨#[48, 49, 50, 51, 52, 53, 54, 55, 56, 57, 97, 98, 99, 100, 101, 102]⟩) (.int .u8 (d : Nat))).run Tryz.prog W = .ok (.int .u8 (hexd d : Nat)) W := by
  rw [run_index_string (P := Tryz.prog) W 9 _ .u8 _ Tryz.underlying9]
  have hall : ∀ e : Fin 16, (⟨#[48, 49, 50, 51, 52, 53, 54, 55, 56, 57, 97, 98, 99, 100, 101, 102]⟩ : ByteArray).data.toList[e.1]?.map UInt8.toNat = some (hexd e.1) := by decide +kernel
  have h1 := hall ⟨d, h⟩
  rw [dif_pos (by show _ ∧ ((d : Nat) : Int) < ((16 : Nat) : Int); omega)]
  congr 2
  simp only [Int.toNat_natCast] at *
  obtain ⟨x, hx, hy⟩ := Option.map_eq_some_iff.1 h1
  rw [← hy]
  congr 2
  rw [Array.getElem?_toList] at hx
  obtain ⟨h2, h3⟩ := Array.getElem?_eq_some_iff.1 hx
  exact h3
theorem byte_at {s : ByteArray} {i : Nat} (h : i < s.size) (W : World) : (Instr.index 9 (.string s) (.int .i64 (i : Nat))).run Tryz.prog W = .ok (.int .u8 (byt s i : Nat)) W := by
  rw [run_index_string (P := Tryz.prog) W 9 s .i64 _ Tryz.underlying9, dif_pos (by omega)]
  congr 2
  rw [byt_at]
  rfl
theorem and8_15 : ∀ c : Nat, c < 256 → bits .and .u8 (c : Int) 15 = ((c % 16 : Nat) : Int) := fun c h => (by decide +kernel : ∀ y : Fin 256, bits BinOp.and .u8 (y.1 : Int) 15 = ((y.1 % 16 : Nat) : Int)) ⟨c, h⟩
theorem wp_cut {P : Program} {c : Code} {Q : Exit → Act → World → Prop} {a : Act} {w : World} (R : World → Prop) (h : R w) (hw : ∀ W, R W → c.wp P Q a W) : c.wp P Q a w := hw w h

theorem two_le (a b : Nat) : (((⟨#[92, 120]⟩ : ByteArray) ++ one a) ++ one b).size ≤ 1073741824 := by
  rw [ByteArray.size_append, ByteArray.size_append, one_size, one_size]
  exact (by decide : (2 + 1 + 1 : Nat) ≤ 1073741824)
theorem WroteP.ofDrew {b base : Nat} {x : ByteArray} {W W' : World} (h : WroteP b base x W.drew W') : WroteP b base x W W' := by
  obtain ⟨h1, h2, L, hk, hL⟩ := h
  exact ⟨h1, h2, L, ((Keep.refl L _).drew).trans hk (fun x hx => .inl hx), hL⟩
theorem BufAt.keep {w w' : World} {b base : Nat} {t : ByteArray} (h : BufAt w b base t) (k : Keep [] w w') : BufAt w' b base t := by
  obtain ⟨p, v, h1, h2, h3, h4⟩ := h
  exact ⟨p, v, k.at_ h1 (by simp), h2, k.owns h3 (fun g hg => by simp), h4⟩
theorem WroteP.ofKeep {b base : Nat} {x : ByteArray} {W W' W'' : World} (h : WroteP b base x W' W'') (k : Keep [] W W') : WroteP b base x W W'' := by
  obtain ⟨h1, h2, L, hk, hL⟩ := h
  exact ⟨h1, fun i s p hi => h2 i s p (k.at_ hi (by simp)), L, (k.mono (fun x hx => by simp at hx)).trans hk (fun x hx => .inl hx), hL⟩
theorem WroteP.join {b base : Nat} {x y : ByteArray} {W W' W'' : World} (h : WroteP b base x W W') (g : WroteP b base y W' W'') : WroteP b base y W W'' := by
  obtain ⟨h1, h2, L, hk, hL⟩ := h
  obtain ⟨g1, g2, M, gk, gM⟩ := g
  refine ⟨g1, fun i s p hi => g2 i s p (h2 i s p hi), L ++ M, ((hk.mono (fun x hx => .inl (List.mem_append_left _ hx))).trans gk (fun x hx => .inl (List.mem_append_right _ hx))), fun x hx => ?_⟩
  rcases List.mem_append.1 hx with h | h
  · exact hL x h
  · exact gM x h
theorem lett_lt (r : Nat) : lett r < 256 := by unfold lett; (repeat' split) <;> omega
theorem lss_no {a b : Int} (h : ¬ a < b) (W : World) : (binOp .lss 21 (.int .i32 a) (.int .i32 b)).run Tryz.prog W = .ok (.bool false) W := by
  have hu := Tryz.underlying21
  have hd : decide (a < b) = false := by simpa using h
  simp [go_sem, hu, hd]
theorem eql_no {a b : Int} (h : ¬ a = b) (W : World) : (binOp .eql 21 (.int .i32 a) (.int .i32 b)).run Tryz.prog W = .ok (.bool false) W := by
  have hu := Tryz.underlying21
  have hd : (a == b) = false := by simpa using h
  simp [go_sem, hu, hd]
/-- Between the pieces. -/
def QuoI (s : ByteArray) (w : World) (mk ib base : Nat) (l : List Nat) (p : Nat) (W : World) : Prop :=
  At s l p ∧ W.heap[ib]? = some (.stringIter s p) ∧ Keep [] w W ∧ BufAt W w.heap.size base (one 34 ++ qcat s l) ∧ W.heap[mk]? = some (.map escE 5)
theorem QuoI.wrote {s : ByteArray} {w W W' : World} {mk base : Nat} {x : ByteArray} (h1 : Keep [] w W) (h2 : W.heap[mk]? = some (.map escE 5)) (hmk : w.heap.size < mk ∧ mk < base) (hw : WroteP w.heap.size base x W W') : Keep [] w W' ∧ W'.heap[mk]? = some (.map escE 5) := by
  obtain ⟨_, _, L, hk, hL⟩ := hw
  refine ⟨h1.trans hk (fun y hy => ?_), hk.at_ h2 (fun hm => ?_)⟩
  · rcases hL y hy with h | h
    · exact .inr (by omega)
    · exact .inr (by omega)
  · rcases hL mk hm with h | h <;> omega

set_option maxRecDepth 100000 in
set_option maxHeartbeats 16000000 in
theorem quote_any (s : ByteArray) (w : World) (hz : s.size ≤ 100000000) (hT : TZ w) :
    Calls Tryz.prog 32 #[.string s] w fun e w' => e = .returned (.string (quo s)) ∧ Keep [] w w' := by
  have HT := Lib.hid hT; clear hT
  go_enter Tryz.func32, Tryz.ntmps32
  go_wp2_with fail
  have ka := (Keep.refl [] w).alloc
  refine (escapes_any _).mono ?_
  rintro e W1 ⟨mk, rfl, hmk0, hmk, hk1⟩
  have hb1 := hk1.at_ (World.alloc_heap_new w (.cells #[.pointer none, .slice none 0 0] 77)) (by simp)
  have K1 := Lib.hid ((ka _).trans0 hk1)
  clear ka
  rw [World.size_alloc] at hmk0
  have hmk1 := lt_of_block hmk
  have B1 : Hid (BufAt W1 w.heap.size W1.heap.size ByteArray.empty) := Lib.hid ⟨_, _, hb1, .inl rfl, World.ownsRow_nil _ _ _ _, by omega⟩
  have M1 := Lib.hid hmk
  clear hk1 hb1 hmk
  go_wp2_with fail
  refine (writeByte_any _ _ _ 34 _ B1.out (by decide) (by simp) (Nat.le_refl _)).mono ?_
  rintro e W2 ⟨rfl, hw2⟩
  obtain ⟨k2, m2⟩ := QuoI.wrote (s := s) K1.out M1.out ⟨by omega, hmk1⟩ hw2
  obtain ⟨base, hbase⟩ : ∃ b, b = W1.heap.size := ⟨_, rfl⟩
  rw [← hbase] at hw2 hmk1
  have B2 := Lib.hid hw2.1; have K2 := Lib.hid k2; have M2 := Lib.hid m2
  have HB := Lib.hid (show w.heap.size < mk ∧ mk < base ∧ base ≤ W2.heap.size by
    refine ⟨by omega, hmk1, ?_⟩
    obtain ⟨_, _, L, hk, _⟩ := hw2
    have := hk.size
    omega)
  clear k2 m2 hw2 hbase hmk0 hmk1 B1 M1 K1
  rw [ByteArray.empty_append] at B2
  go_wp2
  obtain ⟨ib, hib⟩ : ∃ i, i = W2.heap.size := ⟨_, rfl⟩
  have HIB := Lib.hid (show base ≤ ib by have := HB.out; omega)
  rw [← hib]
  go_loopw [] (fun wr => ∃ (l : List Nat) (p : Nat), QuoI s w mk ib base l p wr) (fun wr => s.size - wr.iterPos ib)
  case atStart =>
    have kb := (Keep.refl [] W2).alloc (.stringIter s 0)
    refine ⟨[], 0, .zero, by rw [hib]; exact World.iter_heap W2 s 0, K2.out.trans0 kb, ?_, kb.at_ M2.out (by simp)⟩
    obtain ⟨q, v, h1, h2, h3, h4⟩ := B2.out
    exact ⟨q, v, kb.at_ h1 (by simp), h2, by
      rw [show one 34 ++ qcat s [] = one 34 by simp [qcat]]
      exact kb.owns h3 (fun g hg => by simp), h4⟩
  case round =>
    clear B2 K2 M2 hib
    obtain ⟨l, p, hat, hit, hk, hbuf, hmap⟩ := hrel
    have hll := hat.len
    have hple := hat.le
    have hib := lt_of_block hit
    have hqs := qcat_size (s := s) (l := l) (fun i hi => by have := hat.lt i hi; omega)
    have HA := Lib.hid hat; have HK := Lib.hid hk; have HBU := Lib.hid hbuf; have HMP := Lib.hid hmap; clear hat hk hbuf hmap
    by_cases hp : p < s.size
    · have hn := dec_n hp
      have hnx : ∀ ty, _ := fun ty => next_in (P := Tryz.prog) hit hp ty
      have hit2 := Lib.iterAt_heap wr ib s p (p + (dec s p).2) hit
      have HST := Lib.hid (HA.out.step hp)
      have ki : Keep [ib] wr (wr.iterAt ib s (p + (dec s p).2)) := ⟨rfl, rfl, rfl, by rw [Lib.iterAt_size]; exact Nat.le_refl _, fun i _ hi => Lib.iterAt_other wr ib i s _ (by simpa using hi)⟩
      have hbx := HB.out
      have hbi := HIB.out
      have HK2 := Lib.hid (HK.out.trans ki (fun x hx => by simp at hx; subst hx; exact .inr (by omega)))
      have HM2 := Lib.hid (ki.at_ HMP.out (by simp; omega))
      have hb2 : BufAt (wr.iterAt ib s (p + (dec s p).2)) w.heap.size base (one 34 ++ qcat s l) := by
        obtain ⟨q, v, h1, h2, h3, h4⟩ := HBU.out
        have hni := own_not_iter h3 hit
        exact ⟨q, v, ki.at_ h1 (by simp; omega), h2, ki.owns h3 (fun g hg => by simp; intro e; subst e; exact hni (by simp [hg])), h4⟩
      have HB2 := Lib.hid hb2; clear hb2
      have HIT2 := Lib.hid hit2
      have HS2 := Lib.hid (show base ≤ (wr.iterAt ib s (p + (dec s p).2)).heap.size by rw [Lib.iterAt_size]; omega)
      clear hit2 ki hbx hbi
      generalize hV : wr.iterAt ib s (p + (dec s p).2) = V at *
      have hpos : wr.iterPos ib = p := by simp only [World.iterPos, hit]
      have hfin : ∀ W', WroteP w.heap.size base ((one 34 ++ qcat s l) ++ qp s p) V W' → Hid (QuoI s w mk ib base (l ++ [p]) (p + (dec s p).2) W' ∧ s.size - W'.iterPos ib < s.size - wr.iterPos ib) := fun W' hw => by
        obtain ⟨h1, h2⟩ := QuoI.wrote (s := s) HK2.out HM2.out ⟨HB.out.1, HB.out.2.1⟩ hw
        have h3 := hw.2.1 _ _ _ HIT2.out
        refine ⟨⟨HST.out, h3, h1, ?_, h2⟩, ?_⟩
        · rw [qcat_snoc, ← ByteArray.append_assoc]; exact hw.1
        · rw [hpos]; simp only [World.iterPos, h3]; omega
      have HFIN := Lib.hid hfin
      clear hfin hpos hV
      have hqz : (one 34 ++ qcat s l).size ≤ 1000000001 := by rw [ByteArray.size_append, one_size]; omega
      have HD := Lib.hid (decode_in s p V (by omega) hp)
      have hlk := esc_look HM2.out (dec s p).1
      have hval := dec_scalar hp
      have hdle := dec_le hp
      unfold decV at HD
      have hwz : isB s p = decide (wid s p ≠ 0) := rfl
      have HQ := Lib.hid (show qp s p = if wid s p = 0 then two (byt s p) else if lett (dec s p).1 ≠ 0 then one 92 ++ one (lett (dec s p).1) else if (dec s p).1 < 32 ∨ (dec s p).1 = 127 then two (byt s p) else if hr (dec s p).1 = true then braces (dec s p).1 else Utf8.encode (dec s p).1 from rfl)
      obtain ⟨ri, hri⟩ : ∃ ri : Int, (((dec s p).1 : Nat) : Int) = ri := ⟨_, rfl⟩
      rw [hri] at hlk HD hnx
      have HRI := Lib.hid hri; clear hri
      have hix := byte_at hp
      have hbl := byt_lt s p
      have hcases : (wid s p = 0) ∨ (wid s p ≠ 0 ∧ lett (dec s p).1 ≠ 0) ∨ (wid s p ≠ 0 ∧ lett (dec s p).1 = 0 ∧ (dec s p).1 < 32) ∨ (wid s p ≠ 0 ∧ lett (dec s p).1 = 0 ∧ ¬ (dec s p).1 < 32 ∧ (dec s p).1 = 127) ∨ (wid s p ≠ 0 ∧ lett (dec s p).1 = 0 ∧ ¬ (dec s p).1 < 32 ∧ (dec s p).1 ≠ 127) := by omega
      have h16 := hex_at (show byt s p / 16 < 16 by omega)
      have h15 := hex_at (show byt s p % 16 < 16 by omega)
      have c16 := conv_hex (show byt s p / 16 < 16 by omega)
      have c15 := conv_hex (show byt s p % 16 < 16 by omega)
      have hand := and8_15 (byt s p) hbl
      have HTW := Lib.hid (show two (byt s p) = (⟨#[92, 120]⟩ ++ one (hexd (byt s p / 16))) ++ one (hexd (byt s p % 16)) from rfl)
      have hshr : ((byt s p : Nat) : Int) / 16 = ((byt s p / 16 : Nat) : Int) := rfl
      clear hwz
      rcases hcases with h0 | ⟨h0, h1⟩ | ⟨h0, h1, h2⟩ | ⟨h0, h1, h2, h3⟩ | ⟨h0, h1, h2, h3⟩
      · have HQ2 : Hid (qp s p = two (byt s p)) := Lib.hid (by rw [HQ.out, if_pos h0])
        have tb : isB s p = false := by unfold isB; simpa using h0
        rw [tb] at HD
        clear tb h0 HQ
        generalize byt s p / 16 = b16 at *
        generalize byt s p % 16 = b15 at *
        go_wp2_with fail
        refine HD.out.mono ?_
        rintro e W3 ⟨rfl, rfl⟩
        generalize decide (lett (dec s p).1 ≠ 0) = lb at *
        go_upto_region 13 with (fail)
        refine (wpIn_wide (n := 0)).1 ?_
        refine wpIn_fix (.inl rfl) 14 [] (fun _ => V.drew) (fun w' => True)
          [.string s, .int .i64 (p : Nat), .int .u8 (byt s p : Nat), .int .u8 (b16 : Nat), .int .u8 (hexd b16 : Nat), .string (one (hexd b16)), .string (⟨#[92, 120]⟩ ++ one (hexd b16)), .string s, .int .i64 (p : Nat), .int .u8 (byt s p : Nat), .int .u8 (b15 : Nat), .int .u8 (hexd b15 : Nat), .string (one (hexd b15)), .string ((⟨#[92, 120]⟩ ++ one (hexd b16)) ++ one (hexd b15))]
          (by kernel_rfl) (by kernel_rfl) rfl rfl rfl (fun _ _ => trivial) ?rest13
        case rest13 =>
          intro A hA
          simp only [putVals, List.take, Act.put, List.setIfInBounds_toArray, List.set_cons_succ, List.set_cons_zero] at hA
          subst hA
          refine ⟨?_, fixWrites_nil, ?_⟩
          · iterate 14
              refine fixReads_cons rfl ?_ ?_
              · intro w1 hw1 K Q hK
                go_simp
                exact hK
            exact fixReads_nil
          · simp only [List.drop]
            gi_wp2_with fail
            refine ⟨trivial, rfl, (callsIn_wide.2 (writeStr_any _ base _ _ V.drew HB2.out (two_le _ _) (by omega) HS2.out)).mono ?_⟩
            rintro e W4 ⟨hke, hw4⟩
            rw [← HTW.out, ← HQ2.out] at hw4
            have hf := HFIN.out _ hw4.ofDrew
            obtain ⟨kk, rfl⟩ := ‹∃ k : Int, _›
            gi_wp2
            exact ⟨⟨_, _, hf.out.1⟩, hf.out.2⟩
      · have HQ2 : Hid (qp s p = one 92 ++ one (lett (dec s p).1)) := Lib.hid (by rw [HQ.out, if_neg h0, if_pos h1])
        have tb : isB s p = true := by unfold isB; simpa using h0
        rw [tb] at HD
        have hlb : decide (lett (dec s p).1 ≠ 0) = true := by simp [h1]
        rw [hlb] at hlk
        have hll2 := lett_lt (dec s p).1
        have hne : ri ≠ 127 := by have := HRI.out; intro h; exact h1 (by have : (dec s p).1 = 127 := by omega
                                                                         rw [this]; rfl)
        clear tb h0 HQ hlb
        have hsp : ri < 32 ∨ ¬ ri < 32 := by omega
        clear h1 HTW hand hshr h16 h15 c16 c15 HA HK HBU HMP HST
        generalize hlt : lett (dec s p).1 = lt at hlk HQ2 hll2
        have HLL := Lib.hid hll2
        have HQZ := Lib.hid hqz
        clear hll2 hlt hqz
        rcases hsp with hsp | hsp
        all_goals (
          go_wp2_with fail
          refine HD.out.mono ?_
          clear HD hnx
          rintro e W3 ⟨rfl, rfl⟩
          have HNE := Lib.hid hne
          clear hne hdle hbl hval hqs hp hn hit
          go_upto_region 2 with (fail)
          all_goals first
            | exact absurd rfl HNE.out
            | (exfalso; have h := HNE.out; omega)
            | (exfalso; have h := HNE.out; simp_all; done)
            | (refine (writeByte_any _ base _ 92 V HB2.out (by decide) (by have := HQZ.out; omega) HS2.out).mono ?_
               rintro e W4 ⟨rfl, hw4⟩
               go_wp2_with fail
               refine (writeByte_any _ base _ lt W4 hw4.1 HLL.out (by have := HQZ.out; rw [ByteArray.size_append, one_size]; omega) (by have := HS2.out; obtain ⟨_, _, L, hk, _⟩ := hw4; have := hk.size; omega)).mono ?_
               rintro e W5 ⟨rfl, hw5⟩
               have hw := hw4.join hw5
               rw [ByteArray.append_assoc, ← HQ2.out] at hw
               have hf := HFIN.out _ hw
               go_wp2
               exact ⟨⟨_, _, hf.out.1⟩, hf.out.2⟩))
      · have HQ2 : Hid (qp s p = two (byt s p)) := Lib.hid (by rw [HQ.out, if_neg h0, if_neg (by simp [h1]), if_pos (.inl h2)])
        have tb : isB s p = true := by unfold isB; simpa using h0
        rw [tb] at HD
        have hlt : ri < 32 := by have := HRI.out; omega
        have hl0 : ((lett (dec s p).1 : Nat) : Int) = 0 := by rw [h1]; rfl
        clear tb h0 HQ h2
        generalize byt s p / 16 = b16 at *
        generalize byt s p % 16 = b15 at *
        go_wp2_with fail
        refine HD.out.mono ?_
        rintro e W3 ⟨rfl, rfl⟩
        have hlb : decide (lett (dec s p).1 ≠ 0) = false := by simp [h1]
        rw [hlb] at *
        go_upto_region 13 with (fail)
        refine (wpIn_wide (n := 0)).1 ?_
        refine wpIn_fix (.inl rfl) 14 [] (fun _ => V.drew) (fun w' => True)
          [.string s, .int .i64 (p : Nat), .int .u8 (byt s p : Nat), .int .u8 (b16 : Nat), .int .u8 (hexd b16 : Nat), .string (one (hexd b16)), .string (⟨#[92, 120]⟩ ++ one (hexd b16)), .string s, .int .i64 (p : Nat), .int .u8 (byt s p : Nat), .int .u8 (b15 : Nat), .int .u8 (hexd b15 : Nat), .string (one (hexd b15)), .string ((⟨#[92, 120]⟩ ++ one (hexd b16)) ++ one (hexd b15))]
          (by kernel_rfl) (by kernel_rfl) rfl rfl rfl (fun _ _ => trivial) ?rest13
        case rest13 =>
          intro A hA
          simp only [putVals, List.take, Act.put, List.setIfInBounds_toArray, List.set_cons_succ, List.set_cons_zero] at hA
          subst hA
          refine ⟨?_, fixWrites_nil, ?_⟩
          · iterate 14
              refine fixReads_cons rfl ?_ ?_
              · intro w1 hw1 K Q hK
                go_simp
                exact hK
            exact fixReads_nil
          · simp only [List.drop]
            gi_wp2_with fail
            refine ⟨trivial, rfl, (callsIn_wide.2 (writeStr_any _ base _ _ V.drew HB2.out (two_le _ _) (by omega) HS2.out)).mono ?_⟩
            rintro e W4 ⟨hke, hw4⟩
            rw [← HTW.out, ← HQ2.out] at hw4
            have hf := HFIN.out _ hw4.ofDrew
            obtain ⟨kk, rfl⟩ := ‹∃ k : Int, _›
            gi_wp2
            exact ⟨⟨_, _, hf.out.1⟩, hf.out.2⟩
      · have HQ2 : Hid (qp s p = two (byt s p)) := Lib.hid (by rw [HQ.out, if_neg h0, if_neg (by simp [h1]), if_pos (.inr h3)])
        have tb : isB s p = true := by unfold isB; simpa using h0
        rw [tb] at HD
        have hri : ri = 127 := by have := HRI.out; omega
        have hl0 : ((lett (dec s p).1 : Nat) : Int) = 0 := by rw [h1]; rfl
        subst hri
        clear tb h0 HQ h2 h3
        generalize byt s p / 16 = b16 at *
        generalize byt s p % 16 = b15 at *
        go_wp2_with fail
        refine HD.out.mono ?_
        rintro e W3 ⟨rfl, rfl⟩
        have hlb : decide (lett (dec s p).1 ≠ 0) = false := by simp [h1]
        rw [hlb] at *
        go_upto_region 13 with (fail)
        refine (wpIn_wide (n := 0)).1 ?_
        refine wpIn_fix (.inl rfl) 14 [] (fun _ => V.drew) (fun w' => True)
          [.string s, .int .i64 (p : Nat), .int .u8 (byt s p : Nat), .int .u8 (b16 : Nat), .int .u8 (hexd b16 : Nat), .string (one (hexd b16)), .string (⟨#[92, 120]⟩ ++ one (hexd b16)), .string s, .int .i64 (p : Nat), .int .u8 (byt s p : Nat), .int .u8 (b15 : Nat), .int .u8 (hexd b15 : Nat), .string (one (hexd b15)), .string ((⟨#[92, 120]⟩ ++ one (hexd b16)) ++ one (hexd b15))]
          (by kernel_rfl) (by kernel_rfl) rfl rfl rfl (fun _ _ => trivial) ?rest13
        case rest13 =>
          intro A hA
          simp only [putVals, List.take, Act.put, List.setIfInBounds_toArray, List.set_cons_succ, List.set_cons_zero] at hA
          subst hA
          refine ⟨?_, fixWrites_nil, ?_⟩
          · iterate 14
              refine fixReads_cons rfl ?_ ?_
              · intro w1 hw1 K Q hK
                go_simp
                exact hK
            exact fixReads_nil
          · simp only [List.drop]
            gi_wp2_with fail
            refine ⟨trivial, rfl, (callsIn_wide.2 (writeStr_any _ base _ _ V.drew HB2.out (two_le _ _) (by omega) HS2.out)).mono ?_⟩
            rintro e W4 ⟨hke, hw4⟩
            rw [← HTW.out, ← HQ2.out] at hw4
            have hf := HFIN.out _ hw4.ofDrew
            obtain ⟨kk, rfl⟩ := ‹∃ k : Int, _›
            gi_wp2
            exact ⟨⟨_, _, hf.out.1⟩, hf.out.2⟩
      · have tb : isB s p = true := by unfold isB; simpa using h0
        rw [tb] at HD
        have hlb : decide (lett (dec s p).1 ≠ 0) = false := by simp [h1]
        rw [hlb] at hlk
        have HNE := Lib.hid (show ri ≠ 127 ∧ 32 ≤ ri by have := HRI.out; omega)
        have hsp : ¬ ri < 32 := by have := HRI.out; omega
        have hge : decide (ri < 32) = false := by have := HNE.out; simp; omega
        clear hge
        have HP := Lib.hid (show Go.Proofs.YtbidppjhenfjdaaGreatDoor.hp ri = hr (dec s p).1 by
          rw [← HRI.out]; exact hp_hr (by have := hval; simp [Utf8.valid] at this; omega))
        have HH := Lib.hid (fun W => hidden_any ri W)
        have HQ2 : Hid (qp s p = if hr (dec s p).1 = true then braces (dec s p).1 else Utf8.encode (dec s p).1) := Lib.hid (by rw [HQ.out, if_neg h0, if_neg (by simp [h1]), if_neg (by omega)])
        have hl1 : ∀ W, (binOp .lss 21 (.int .i32 ri) (.int .i32 32)).run Tryz.prog W = .ok (.bool false) W := fun W => lss_no (by have := HNE.out; omega) W
        have hl2 : ∀ W, (binOp .eql 21 (.int .i32 ri) (.int .i32 127)).run Tryz.prog W = .ok (.bool false) W := fun W => eql_no (by have := HNE.out; omega) W
        clear hsp
        clear tb h0 HQ hlb h1 h2 h3 HTW hand hshr h16 h15 c16 c15 HA HK HBU HMP HST
        have HQZ := Lib.hid hqz
        have HPS := Lib.hid hp
        clear hqz hval
        go_wp2_with fail
        refine HD.out.mono ?_
        clear HD hnx
        rintro e W3 ⟨rfl, rfl⟩
        generalize lett (dec s p).1 = lt at *
        have HDL := Lib.hid hdle
        clear hdle hbl hqs hn hp hit
        have HBR := Lib.hid (show braces (dec s p).1 = (⟨#[92, 117, 123]⟩ ++ hexs (dec s p).1) ++ ⟨#[125]⟩ from rfl)
        go_upto_region 2 with (fail)
        all_goals first
          | exact absurd rfl HNE.out.1
          | (exfalso; have h := HNE.out; omega)
          | (exfalso; have h := HNE.out; simp_all; done)
          | (refine (HH.out _).mono ?_
             rintro e W4 ⟨rfl, rfl⟩
             clear hl1 hl2 hlk hix
             cases hb : hr (dec s p).1
             · have hb2 : Go.Proofs.YtbidppjhenfjdaaGreatDoor.hp ri = false := by rw [HP.out, hb]
               rw [hb] at HQ2
               rw [hb2]
               clear hb hb2
               go_wp2_with fail
               refine (writeRune_any _ base _ ri V HB2.out (by have := HRI.out; omega) (by have := HRI.out; have := HDL.out; omega) (by have := HQZ.out; omega) HS2.out).mono ?_
               rintro e W5 ⟨⟨k5, rfl⟩, hw5⟩
               have hw : WroteP w.heap.size base (one 34 ++ qcat s l ++ Utf8.encode ri) V W5 := hw5
               rw [show Utf8.encode ri = qp s p by rw [HQ2.out, HRI.out]; rfl] at hw
               have hf := HFIN.out _ hw
               go_wp2
               exact ⟨⟨_, _, hf.out.1⟩, hf.out.2⟩
             · have hb2 : Go.Proofs.YtbidppjhenfjdaaGreatDoor.hp ri = true := by rw [HP.out, hb]
               rw [hb] at HQ2
               rw [hb2]
               clear hb hb2
               have HF := Lib.hid (fmt16_any (dec s p).1 V (by have := HRI.out; have := HNE.out; omega) (by have := HDL.out; omega) (HT.out.keep0 HK2.out))
               rw [HRI.out] at HF
               have hwr : wrap64 ri = ri := by unfold wrap64; have := HRI.out; have := HDL.out; omega
               go_wp2_with fail
               refine HF.out.mono ?_
               rintro e W5 ⟨rfl, hk5⟩
               have HK5 := Lib.hid hk5; clear hk5
               have hxs := hexs_size 6 (dec s p).1 (by have := HDL.out; omega) (by decide)
               have HXS := Lib.hid hxs; clear hxs
               generalize hexs (dec s p).1 = hx at *
               have hc1 : ∀ W, (Op.stringOp .add (⟨#[92, 117, 123]⟩ : ByteArray) hx).run Tryz.prog W = .ok (.string ((⟨#[92, 117, 123]⟩ : ByteArray) ++ hx)) W := fun W => Go.run_string_add_sum W _ _ (by have := HXS.out; show 3 + hx.size ≤ _; omega)
               have hc2 : ∀ W, (Op.stringOp .add ((⟨#[92, 117, 123]⟩ : ByteArray) ++ hx) (⟨#[125]⟩ : ByteArray)).run Tryz.prog W = .ok (.string (((⟨#[92, 117, 123]⟩ : ByteArray) ++ hx) ++ (⟨#[125]⟩ : ByteArray))) W := fun W => Go.run_string_add_sum W _ _ (by have := HXS.out; rw [ByteArray.size_append]; show 3 + hx.size + 1 ≤ _; omega)
               go_wp2_with fail
               have hz6 : (((⟨#[92, 117, 123]⟩ : ByteArray) ++ hx) ++ (⟨#[125]⟩ : ByteArray)).size ≤ 1073741824 := by
                 have := HXS.out
                 rw [ByteArray.size_append, ByteArray.size_append]
                 show 3 + hx.size + 1 ≤ 1073741824
                 omega
               refine (writeStr_any _ base _ _ W5 (HB2.out.keep HK5.out) hz6 (by have := HQZ.out; omega) (by have := HS2.out; have := HK5.out.size; omega)).mono ?_
               rintro e W6 ⟨⟨k6, rfl⟩, hw6⟩
               have hw := (show WroteP w.heap.size base ((one 34 ++ qcat s l) ++ qp s p) V W6 by
                 rw [show qp s p = (⟨#[92, 117, 123]⟩ ++ hx) ++ ⟨#[125]⟩ by rw [HQ2.out, if_pos trivial]; exact HBR.out]
                 exact hw6.ofKeep HK5.out)
               have hf := HFIN.out _ hw
               go_wp2
               exact ⟨⟨_, _, hf.out.1⟩, hf.out.2⟩)
    · have hnx : ∀ ty, _ := fun ty => Lib.run_next_end_at (P := Tryz.prog) wr ib s p ty hit hp
      obtain ⟨rfl, rfl⟩ := HA.out.done hp
      go_wp2_with fail
      refine (writeByte_any _ _ _ 34 _ HBU.out (by decide) (by rw [ByteArray.size_append, one_size]; omega) (by have := HB.out; have := HIB.out; omega)).mono ?_
      rintro e W5 ⟨rfl, hw5⟩
      obtain ⟨k5, m5⟩ := QuoI.wrote (s := s) HK.out HMP.out ⟨HB.out.1, HB.out.2.1⟩ hw5
      have B5 := Lib.hid hw5.1; have K5 := Lib.hid k5
      clear k5 m5 hw5
      go_wp2_with fail
      refine (Tryz.Builder_String_any_k w.heap.size w.heap.size _ _ B5.out.builder (by have := K5.out.size; omega)).mono ?_
      rintro r W6 ⟨rfl, _, hb, _⟩
      have HK6 := Lib.hid (keep_below K5.out hb (Nat.le_refl _)); clear hb
      go_wp2
      go_ret
      exact ⟨rfl, HK6.out⟩
end Go.Proofs.YtbidppjhenfjdaaGreatDoor
