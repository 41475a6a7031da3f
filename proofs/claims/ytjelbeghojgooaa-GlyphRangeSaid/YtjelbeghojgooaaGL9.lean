/-
  GlyphRange, walked.
-/
import Derived.Test.YtjelbeghojgooaaGL9a
import Derived.Deep.RegionHeld
namespace Go.Proofs.Ytjelbeghojgooaa
open Go.RowKit Go.Shelf
set_option linter.unusedVariables false
set_option linter.unusedSimpArgs false

theorem enters_gr1 (args : Array Value) (w : World) : (callFunc 33 args).run Try.prog w = .ok (.enter 33 args) w := enters_of Try.func33 (by kernel_rfl) rfl args w

/-- Behind the iterator: what the boxes hold. -/
structure RBox (B sb : Nat) (s : ByteArray) (ad6 ad7 : Option Addr) (c6 c7 n : Nat) (W : World) : Prop where
  p6 : W.cell? ⟨B, 0, none⟩ = some (.slice ad6 n c6)
  p7 : W.cell? ⟨B + 1, 0, none⟩ = some (.slice ad7 n c7)
  ps : W.cell? ⟨sb, 0, none⟩ = some (.string s)
  e6 : n ≠ 0 → ∃ b off, ad6 = some ⟨b, off, none⟩ ∧ ∀ (i : Nat) u, (plCs s n)[i]? = some u → W.cell? ⟨b, off + i, none⟩ = some u
  e7 : n ≠ 0 → ∃ b off, ad7 = some ⟨b, off, none⟩ ∧ ∀ (i : Nat) u, (rnCs s n)[i]? = some u → W.cell? ⟨b, off + i, none⟩ = some u
theorem RBox.keep {B sb : Nat} {s : ByteArray} {ad6 ad7 : Option Addr} {c6 c7 n : Nat} {W W' : World} (h : RBox B sb s ad6 ad7 c6 c7 n W) (k : Keep [] W W') : RBox B sb s ad6 ad7 c6 c7 n W' := by
  refine ⟨k.cellv h.p6 (by simp), k.cellv h.p7 (by simp), k.cellv h.ps (by simp), fun hn => ?_, fun hn => ?_⟩
  · obtain ⟨b, off, h1, h2⟩ := h.e6 hn
    exact ⟨b, off, h1, fun i u hu => k.cellv (h2 i u hu) (by simp)⟩
  · obtain ⟨b, off, h1, h2⟩ := h.e7 hn
    exact ⟨b, off, h1, fun i u hu => k.cellv (h2 i u hu) (by simp)⟩

theorem keepS {w W : World} {p q : Addr} {u v : Value} (o : Obj) (h : W.cell? p = some u ∧ W.cell? q = some v ∧ Keep [] w W) :
    (W.alloc o).drew.cell? p = some u ∧ (W.alloc o).drew.cell? q = some v ∧ Keep [] w (W.alloc o).drew :=
  have k := ((Keep.refl [] W).alloc o).drew
  ⟨k.cellv h.1 (by simp), k.cellv h.2.1 (by simp), h.2.2.trans0 k⟩
theorem keepK {w W W' : World} {p q : Addr} {u v : Value} (k : Keep [] W W') (h : W.cell? p = some u ∧ W.cell? q = some v ∧ Keep [] w W) :
    W'.cell? p = some u ∧ W'.cell? q = some v ∧ Keep [] w W' :=
  ⟨k.cellv h.1 (by simp), k.cellv h.2.1 (by simp), h.2.2.trans0 k⟩
theorem keepD {w W : World} {p q : Addr} {u v : Value} (h : W.cell? p = some u ∧ W.cell? q = some v ∧ Keep [] w W) :
    W.drew.cell? p = some u ∧ W.drew.cell? q = some v ∧ Keep [] w W.drew := keepK (Keep.refl [] W).drew h
theorem sr_sl0 (s : ByteArray) (W X : World) : SlAt (W.alloc (robj s X)) (.slice (some ⟨W.heap.size, 0, none⟩) (runs s 0).length (rcap s X)) (runs s 0).length ((runs s 0).map (Value.int .i32)) := by
  refine ⟨_, _, rfl, ⟨fun h0 => by rw [List.eq_nil_of_length_eq_zero h0]; rfl, fun h => by cases h⟩, fun _ => ⟨_, _, rfl, fun i u hu => ?_⟩⟩
  unfold robj
  rw [Nat.zero_add, cell_of_block (heap_alloc_new W _)]
  have hi := (List.getElem?_eq_some_iff.1 hu).1
  rw [Array.getElem?_append_left (by simpa using hi)]
  simpa using hu
theorem sr_sl2 (s : ByteArray) (W X : World) : SlAt (W.alloc (robj s X)).drew (.slice (some ⟨W.heap.size, 0, none⟩) (runs s 0).length (rcap s X)) (runs s 0).length ((runs s 0).map (Value.int .i32)) :=
  (sr_sl0 s W X).keep0 (Keep.refl [] _).drew
theorem sr_sl3 (s : ByteArray) (W X : World) : SlAt (W.alloc (robj s X)).drew.drew (.slice (some ⟨W.heap.size, 0, none⟩) (runs s 0).length (rcap s X)) (runs s 0).length ((runs s 0).map (Value.int .i32)) :=
  (sr_sl2 s W X).keep0 (Keep.refl [] _).drew

set_option maxRecDepth 100000 in
set_option maxHeartbeats 16000000 in
theorem glyphRange_walk (s : ByteArray) (va : Value) (l : List Int) (w : World) (hs : s.size ≤ maxLen) (ha : ElemsAt w va 1 (fun x => [Value.int .i32 x]) l) :
    Calls Try.prog 7 #[.string s, va] w fun e w' => e = .returned (.bool true) ∧ Keep [] w w' := by
  unfold maxLen at hs
  have hsl := ha.runes
  obtain ⟨ad, cap, rfl, hx1, hx2⟩ := hsl
  have HSL := Lib.hid (show SlAt w (.slice ad l.length cap) l.length (l.map (Value.int .i32)) from ⟨ad, cap, rfl, hx1, hx2⟩)
  clear hx1 hx2 ha
  obtain ⟨m, hm⟩ : ∃ m, m = l.length := ⟨_, rfl⟩
  rw [← hm] at HSL ⊢
  have HMM := Lib.hid hm; clear hm
  by_cases hz : s.size ≤ 20000
  · have hzd : decide ((20000 : Int) < (s.size : Int)) = false := by simp; omega
    by_cases hzl : m ≤ 20000
    · have hzld : decide ((20000 : Int) < (m : Int)) = false := by simp; omega
      have hcl := cut_len_le s 0 (Nat.zero_le _)
      have nf1 : ∀ w', (binOp .eql 39 (.func (.func 46) #[] #[.pointer (some ⟨w.heap.size + 1, 0, none⟩)]) Value.nilFunc).run Try.prog w' = .ok (.bool false) w' := fun _ => by kernel_rfl
      go_enter Try.func7, Try.ntmps7
      go_wp2_with fail
      refine (all_any s _).mono ?_
      rintro q w2 ⟨rfl, rfl⟩
      go_upto_region 8 with (fail)
      generalize hW0 : (((w.alloc (.cells #[.string s] 9)).alloc (.cells #[.string s] 9)).alloc (.cells #[.slice none 0 0] 36)).alloc (.cells #[.slice none 0 0] 31) = W0
      have x0 : W0.heap[w.heap.size]? = some (.cells #[.string s] 9 (0, 0)) := by
        rw [← hW0, Below.heap_alloc _ _ _ (by simp <;> omega), Below.heap_alloc _ _ _ (by simp <;> omega), Below.heap_alloc _ _ _ (by simp)]; exact World.alloc_heap_new w _
      have x1 : W0.heap[w.heap.size + 1]? = some (.cells #[.string s] 9 (0, 0)) := by
        rw [← hW0, Below.heap_alloc _ _ _ (by simp <;> omega), Below.heap_alloc _ _ _ (by simp <;> omega)]
        have := World.alloc_heap_new (w.alloc (.cells #[.string s] 9)) (.cells #[.string s] 9); rwa [World.size_alloc] at this
      have x2 : W0.heap[w.heap.size + 1 + 1]? = some (.cells #[.slice none 0 0] 36 (0, 0)) := by
        rw [← hW0, Below.heap_alloc _ _ _ (by simp <;> omega)]
        have := World.alloc_heap_new ((w.alloc (.cells #[.string s] 9)).alloc (.cells #[.string s] 9)) (.cells #[.slice none 0 0] 36); rwa [World.size_alloc, World.size_alloc] at this
      have x3 : W0.heap[w.heap.size + 1 + 1 + 1]? = some (.cells #[.slice none 0 0] 31 (0, 0)) := by
        rw [← hW0]
        have := World.alloc_heap_new (((w.alloc (.cells #[.string s] 9)).alloc (.cells #[.string s] 9)).alloc (.cells #[.slice none 0 0] 36)) (.cells #[.slice none 0 0] 31); rwa [World.size_alloc, World.size_alloc, World.size_alloc] at this
      have hk0 : Keep [] w W0 := by rw [← hW0]; exact ((((Keep.refl _ _).alloc _).alloc _).alloc _).alloc _
      have hs0 : W0.heap.size = w.heap.size + 1 + 1 + 2 := by rw [← hW0]; simp
      have hb0 : w.heap.size ≤ w.heap.size + 1 + 1 := by omega
      have hb1 : w.heap.size < w.heap.size + 1 + 1 := by omega
      have hb2 : w.heap.size + 1 < w.heap.size + 1 + 1 := by omega
      have X0 := Lib.hid x0; have X1 := Lib.hid x1; have X2 := Lib.hid x2; have X3 := Lib.hid x3; have K0 := Lib.hid hk0; have S0 := Lib.hid hs0
      have B0 := Lib.hid hb0; have B1 := Lib.hid hb1; have B2 := Lib.hid hb2
      clear x0 x1 x2 x3 hk0 hs0 hW0 nf1 hb0 hb1 hb2
      generalize w.heap.size + 1 + 1 = B at *
      generalize w.heap.size + 1 = ta at *
      generalize hsb : w.heap.size = sb at X0 S0 B1 ⊢
      have HSB := Lib.hid hsb; clear hsb
      have hcall := all1_iters ta s (by omega) (.func (.func 33) #[] #[.pointer (some ⟨B, 0, none⟩), .pointer (some ⟨B + 1, 0, none⟩), .pointer (some ⟨sb, 0, none⟩)])
        (RInv B sb s w) (fun _ _ _ => False) [B, B + 1] W0 X1.out (fun b hb => by cases hb)
        (fun b hb => by simp at hb; subst hb; have := B2.out; have := S0.out; simp; omega) (RInv.steady B0.out B1.out (by have := S0.out; omega)) (no_steady W0) (by
          intro k hk fp W1 hj
          rw [List.length_map] at hk
          rw [List.getElem_map]
          exact .inr ⟨_, _, rfl, enters_gr1, gr1_any B sb s w W1 k fp hk hz B0.out B1.out hj⟩) (fun b hb => by have := S0.out; simp at hb; omega)
        ⟨⟨_, _, ⟨X2.out, X3.out, World.ownsRow_nil _ _ _ _, World.ownsRow_nil _ _ _ _, by simp, by simp, (fun g hg => by cases hg), (fun g hg => by cases hg)⟩⟩, (fun b hb => by simp at hb; omega), X0.out, K0.out⟩
      have HCALL := Lib.hid hcall; clear hcall
      go_wp2_with fail
      refine HCALL.out.mono ?_
      clear HCALL
      rintro e W1 ⟨rfl, hpost⟩
      obtain ⟨fp, hpost⟩ : ∃ fp, RInv B sb s w (cut s 0).length fp W1 := by
        rcases hpost with ⟨fp', h⟩ | ⟨k, fp', hk, h⟩
        · rw [List.length_map] at h; exact ⟨fp', h⟩
        · exact h.elim
      obtain ⟨⟨v6, v7, ht⟩, hfp, htx, hkp⟩ := hpost
      obtain ⟨n, hn⟩ : ∃ n, n = (cut s 0).length := ⟨_, rfl⟩
      rw [← hn] at ht hcl
      have HNN := Lib.hid hn; clear hn
      obtain ⟨ad6, c6, rfl, _, h6⟩ := SlAt.of_owns ht.o6
      obtain ⟨ad7, c7, rfl, _, h7⟩ := SlAt.of_owns ht.o7
      have HR : Hid (RBox B sb s ad6 ad7 c6 c7 n W1) := Lib.hid ⟨cell_of_one ht.b6, cell_of_one ht.b7, cell_of_one htx, h6, h7⟩
      have HKP := Lib.hid hkp
      clear ht hfp htx hkp h6 h7
      have q6 := HR.out.p6
      have q7 := HR.out.p7
      have qs := HR.out.ps
      go_wp2
      go_loopw [8] (fun nn wr => ∃ (q : List Nat) (p : Nat), At s q p ∧ nn = .int .i64 q.length ∧ wr.heap[W1.heap.size]? = some (.stringIter s p) ∧ Keep [] W1 wr) (fun _ wr => s.size - wr.iterPos W1.heap.size)
      case atStart => exact ⟨[], 0, .zero, rfl, World.iter_heap W1 s 0, (Keep.refl _ _).alloc _⟩
      case round =>
        obtain ⟨q, p, hat, rfl, hit, hk⟩ := hrel
        have hll := hat.len
        have hple := hat.le
        have HA := Lib.hid hat; have HK := Lib.hid hk; clear hat hk q6 q7 qs
        by_cases hp : p < s.size
        · have hn := dec_n hp
          have hql : q.length < n := by rw [HNN.out]; exact HA.out.cnt hp
          have hke := HA.out.get hp
          obtain ⟨b6, o6, rfl, e6⟩ := HR.out.e6 (by omega)
          obtain ⟨b7, o7, rfl, e7⟩ := HR.out.e7 (by omega)
          have f6 := e6 q.length (.int .i64 p) (by unfold plCs; rw [HNN.out, List.take_length, List.getElem?_map, hke]; rfl)
          have f7 := e7 q.length (.int .i32 (dec s p).1) (by unfold rnCs; rw [HNN.out, List.take_length, List.getElem?_map, hke]; rfl)
          have hnx : ∀ ty, _ := fun ty => next_in (P := Try.prog) hit hp ty
          have hit2 := Lib.iterAt_heap wr W1.heap.size s p (p + (dec s p).2) hit
          have HST := Lib.hid (HA.out.step hp)
          have hk2 := keep_iterAt HK.out (Nat.le_refl _) s (p + (dec s p).2)
          generalize wr.iterAt W1.heap.size s (p + (dec s p).2) = wq at *
          have g6 := hk2.cellv f6 (by simp)
          have g7 := hk2.cellv f7 (by simp)
          have q6 := hk2.cellv HR.out.p6 (by simp)
          have q7 := hk2.cellv HR.out.p7 (by simp)
          have HK2 := Lib.hid hk2
          have HE6 := Lib.hid e6; have HE7 := Lib.hid e7
          clear hk2 f6 f7 e6 e7 hke
          generalize (dec s p).1 = r1 at *
          generalize (dec s p).2 = n1 at *
          have hqd : decide (n ≤ q.length) = false := by simp; omega
          have hqd2 : decide (q.length < n) = true := by simp; omega
          have hqi : ((q.length : Int) < (n : Int)) := by omega
          have hpp : ((p : Int) != (p : Int)) = false := by simp
          have hrr : ((r1 : Int) != (r1 : Int)) = false := by simp
          generalize hQ : q.length = ql at *
          have HQ := Lib.hid hQ; clear hQ
          go_wp2
          go_roundw
          case rel => exact ⟨q ++ [p], p + n1, HST.out, by rw [List.length_append, HQ.out]; go_num, hit2, HK2.out⟩
          case measure => simp only [World.iterPos, hit, hit2]; omega
        · have hnx : ∀ ty, _ := fun ty => Lib.run_next_end_at (P := Try.prog) wr W1.heap.size s p ty hit hp
          obtain ⟨rfl, rfl⟩ := HA.out.done hp
          have q6 := HK.out.cellv HR.out.p6 (by simp)
          have q7 := HK.out.cellv HR.out.p7 (by simp)
          have qs := HK.out.cellv HR.out.ps (by simp)
          rw [← HNN.out]
          have hnn : ((n : Int) == (n : Int)) = true := by simp
          have hkw := HKP.out.trans0 HK.out
          have HKW := Lib.hid hkw
          have HSA := Lib.hid (HSL.out.keep0 hkw)
          clear hkw HA hll hple hit
          go_upto_region 16 with (fail)
          clear hnx hnn
          have hS : wr.cell? ⟨B, 0, none⟩ = some (.slice ad6 n c6) ∧ wr.cell? ⟨sb, 0, none⟩ = some (.string s) ∧ Keep [] wr wr := ⟨q6, qs, Keep.refl _ _⟩
          have hrl : (runs s 0).length = n := by rw [HNN.out]; simp [runs]
          have hcv : ∀ W, _ := fun W => conv_sr s hz W
          have hcb : ∀ W, _ := fun W => conv_text (sr_sl2 s W W)
          have hru : ∀ W, Calls Try.prog 26 #[.string s] W (fun e w' => ∃ g, e = .returned (.slice (some ⟨g, 0, none⟩) n n) ∧ SlAt w' (.slice (some ⟨g, 0, none⟩) n n) n ((runs s 0).map (Value.int .i32)) ∧ Keep [] W w') := fun W =>
            (runes_any s W (by omega)).mono (fun e w' h => by
              obtain ⟨h1, h2, h3⟩ := h.sl
              rw [hrl] at h1 h2
              exact ⟨_, h1, h2, h3⟩)
          have hrt : ∀ va vb W, SlAt W va n ((runs s 0).map (Value.int .i32)) → SlAt W vb n ((runs s 0).map (Value.int .i32)) → Calls Try.prog 25 #[va, vb] W fun e w' => e = .returned (.bool true) ∧ Keep [] W w' := fun va vb W h1 h2 => by
            rw [← hrl] at h1 h2
            exact runes_true va vb (runs s 0) W h1 h2 (by omega)
          have hsr : ∀ W X : World, SlAt (W.alloc (robj s X)).drew (.slice (some ⟨W.heap.size, 0, none⟩) n (rcap s X)) n ((runs s 0).map (Value.int .i32)) := fun W X => by
            have := sr_sl2 s W X
            rw [hrl] at this; exact this
          have hsr3 : ∀ W X : World, SlAt (W.alloc (robj s X)).drew.drew (.slice (some ⟨W.heap.size, 0, none⟩) n (rcap s X)) n ((runs s 0).map (Value.int .i32)) := fun W X => by
            have := sr_sl3 s W X
            rw [hrl] at this; exact this
          have HSR3 := Lib.hid hsr3; clear hsr3
          have hct : ∀ W v, SlAt W v n ((runs s 0).map (Value.int .i32)) → (convert 31 9 v).run Try.prog W = .ok (.string (mend s)) W := fun W v h => by
            rw [← hrl] at h
            exact conv_text h
          have htx : ∀ W, Keep [] wr W → Calls Try.prog 30 #[.slice ad m cap] W (fun e w' => e = .returned (.string (txt l)) ∧ W = w') := fun W k => by
            have := HSA.out.keep0 k
            rw [HMM.out] at this ⊢
            exact text_any _ l W this
          have htc : ∀ W, Keep [] wr W → (convert 31 9 (.slice ad m cap)).run Try.prog W = .ok (.string (txt l)) W := fun W k => by
            have := HSA.out.keep0 k
            rw [HMM.out] at this ⊢
            exact conv_text this
          rw [hrl] at hcv hcb
          have hme : ∀ W, Calls Try.prog 23 #[.string s] W (fun e w' => e = .returned (.string (mend s)) ∧ Keep [] W w') := fun W => mend_any s W (by omega)
          have hcb2 : ∀ W, (convert 31 9 (.slice (some ⟨W.heap.size, 0, none⟩) n (rcap s W))).run Try.prog (W.alloc (robj s W)).drew = .ok (.string (mend s)) (W.alloc (robj s W)).drew := hcb
          have HSR := Lib.hid hsr; have HRU := Lib.hid hru; have HRT := Lib.hid hrt; have HCT := Lib.hid hct; have HTX := Lib.hid htx; have HTC := Lib.hid htc; have HME := Lib.hid hme
          clear hsr hru hrt hct htx htc hme hcb hrl q6 q7 qs
          generalize (runs s 0).map (Value.int .i32) = RR at *
          generalize mend s = ME at *
          generalize txt l = TX at *
          go_region_held (fun w' => w'.cell? ⟨B, 0, none⟩ = some (.slice ad6 n c6) ∧ w'.cell? ⟨sb, 0, none⟩ = some (.string s) ∧ Keep [] wr w') (first | assumption | exact keepD (by assumption) | exact keepS _ (by assumption) | exact keepD (keepS _ (by assumption)))
            (first
              | (go_at_call 26; refine (HRU.out _).mono ?_; rintro q wA ⟨g, rfl, hsA, hkA⟩; have hSA := keepK hkA (by assumption))
              | (go_at_call 25; refine (HRT.out _ _ _ ?h1 ?h2).mono ?_; (case h1 => first | exact hsA | exact hsA.keep0 ((Keep.refl [] _).alloc _).drew); (case h2 => first | exact HSR.out _ _ | exact (HSR.out _ _).keep0 hkA | exact HSR3.out _ _ | exact (HSR3.out _ _).keep0 hkA); rintro q wB ⟨rfl, hkB⟩; have hSB := keepK hkB (by assumption); have htcB := HTC.out _ hSB.2.2)
              | (go_at_call 30; refine (HTX.out _ ?h1).mono ?_; (case h1 => exact hSB.2.2); rintro q wT ⟨rfl, rfl⟩)
              | (go_at_call 23; refine (HME.out _).mono ?_; rintro q wM ⟨rfl, hkM⟩; have hSM := keepK hkM (by assumption); (try have hcM := HCT.out _ _ ((HSR.out _ _).keep0 hkM)))
              | (go_at_call 12; refine (known_true _).mono ?_; rintro q wK ⟨rfl, hkK⟩; have hSK := keepK hkK (by assumption)))
          all_goals (go_wp2; go_ret; exact ⟨rfl, HKW.out.trans0 hSK.2.2⟩)
    · have hzld : decide ((20000 : Int) < (m : Int)) = true := by simp; omega
      go_enter Try.func7, Try.ntmps7
      go_wp2_with fail
      refine (known_true _).mono ?_
      rintro q w3 ⟨rfl, hk3⟩
      have HK3 := Lib.hid (((Keep.refl [] w).alloc (.cells #[.string s] 9)).trans0 hk3); clear hk3
      go_wp2
      go_ret
      exact ⟨rfl, HK3.out⟩
  · have hzd : decide ((20000 : Int) < (s.size : Int)) = true := by simp; omega
    go_enter Try.func7, Try.ntmps7
    go_wp2_with fail
    refine (known_true _).mono ?_
    rintro q w3 ⟨rfl, hk3⟩
    have HK3 := Lib.hid (((Keep.refl [] w).alloc (.cells #[.string s] 9)).trans0 hk3); clear hk3
    go_wp2
    go_ret
    exact ⟨rfl, HK3.out⟩
end Go.Proofs.Ytjelbeghojgooaa
