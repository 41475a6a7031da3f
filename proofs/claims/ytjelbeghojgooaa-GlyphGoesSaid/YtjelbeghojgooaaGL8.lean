/-
  GlyphGoes, walked.
-/
import Derived.Test.YtjelbeghojgooaaGL8a
import Derived.Test.YtjelbeghojgooaaGlyK
import Derived.Laws.EntriesVeiled
import Derived.Deep.DeepCutAuto
namespace Go.Proofs.Ytjelbeghojgooaa
open Go.RowKit Go.Shelf
set_option linter.unusedVariables false
set_option linter.unusedSimpArgs false

/-- The law's boxes. -/
structure GoesW (bp bq ba bb ta tb : Nat) (v1 v2 : Value) (s : ByteArray) (W : World) : Prop where
  p : W.heap[bp]? = some (.cells #[v1] 45 (0, 0))
  q : W.heap[bq]? = some (.cells #[v2] 45 (0, 0))
  a : W.heap[ba]? = some (.cells #[.func (.func 46) #[] #[.pointer (some ⟨ta, 0, none⟩)]] 39 (0, 0))
  b : W.heap[bb]? = some (.cells #[.func (.func 47) #[] #[.pointer (some ⟨tb, 0, none⟩)]] 39 (0, 0))
  na : TxtNeed ta s W
  nb : TxtNeed tb s W
  p1 : PcAt W v1 s (cut s 0)
  p2 : PcAt W v2 s (cut s 0).reverse
  o1 : ∀ g, v1.ownBlock = some g → g < W.heap.size
  o2 : ∀ g, v2.ownBlock = some g → g < W.heap.size
theorem GoesW.keep {bp bq ba bb ta tb : Nat} {v1 v2 : Value} {s : ByteArray} {W W' : World} (h : GoesW bp bq ba bb ta tb v1 v2 s W) (k : Keep [] W W') : GoesW bp bq ba bb ta tb v1 v2 s W' :=
  ⟨k.at_ h.p (by simp), k.at_ h.q (by simp), k.at_ h.a (by simp), k.at_ h.b (by simp), h.na.keep k (by simp), h.nb.keep k (by simp), h.p1.keep0 k, h.p2.keep0 k, fun g hg => Nat.lt_of_lt_of_le (h.o1 g hg) k.size, fun g hg => Nat.lt_of_lt_of_le (h.o2 g hg) k.size⟩
theorem enters_all1 (args : Array Value) (w : World) : (callFunc 46 args).run Try.prog w = .ok (.enter 46 args) w := enters_of Try.func46 (by kernel_rfl) rfl args w
theorem enters_back1 (args : Array Value) (w : World) : (callFunc 47 args).run Try.prog w = .ok (.enter 47 args) w := enters_of Try.func47 (by kernel_rfl) rfl args w
theorem enters_gg1 (args : Array Value) (w : World) : (callFunc 38 args).run Try.prog w = .ok (.enter 38 args) w := enters_of Try.func38 (by kernel_rfl) rfl args w

theorem goes_all {bp bq ba bb ta tb : Nat} {v1 v2 : Value} {s : ByteArray} {W : World} (h : GoesW bp bq ba bb ta tb v1 v2 s W) (hz : s.size ≤ 20000) (stop : Int) (hs0 : -9223372036854775808 ≤ stop) (hs1 : stop ≤ 9223372036854775807) :
    Calls Try.prog 37 #[.func (.func 46) #[] #[.pointer (some ⟨ta, 0, none⟩)], v1, .int .i64 stop] W fun e w' => e = .returned (.bool true) ∧ Keep [] W w' := by
  have hcl := cut_len_le s 0 (Nat.zero_le _)
  exact goes_true _ _ [ta] (TxtNeed ta s) v1 s (cut s 0) stop W enters_all1 (all1_iters ta s (by omega)) (fun W' k => h.na.keep k (by simp)) (fun b hb => by simp at hb; subst hb; exact lt_of_block h.na) h.p1 h.o1 (by omega) hs0 hs1
theorem goes_back {bp bq ba bb ta tb : Nat} {v1 v2 : Value} {s : ByteArray} {W : World} (h : GoesW bp bq ba bb ta tb v1 v2 s W) (hz : s.size ≤ 20000) (stop : Int) (hs0 : -9223372036854775808 ≤ stop) (hs1 : stop ≤ 9223372036854775807) :
    Calls Try.prog 37 #[.func (.func 47) #[] #[.pointer (some ⟨tb, 0, none⟩)], v2, .int .i64 stop] W fun e w' => e = .returned (.bool true) ∧ Keep [] W w' := by
  have hcl := cut_len_le s 0 (Nat.zero_le _)
  exact goes_true _ _ [tb] (TxtNeed tb s) v2 s (cut s 0).reverse stop W enters_back1 (back1_iters tb s (by omega)) (fun W' k => h.nb.keep k (by simp)) (fun b hb => by simp at hb; subst hb; exact lt_of_block h.nb) h.p2 h.o2 (by rw [List.length_reverse]; omega) hs0 hs1

/-- What the law's own closure finds between two rounds. -/
def HInv (Wb : World) (k : Nat) (fp : List Nat) (W : World) : Prop :=
  W.heap[Wb.heap.size]? = some (.cells #[.int .i64 k] 3 (0, 0)) ∧ W.heap[Wb.heap.size + 1]? = some (.cells #[.bool true] 4 (0, 0)) ∧ k < 20 ∧ fp = [Wb.heap.size, Wb.heap.size + 1] ∧ Keep [] Wb W
def HStop (Wb : World) (k : Nat) (fp : List Nat) (W : World) : Prop :=
  W.heap[Wb.heap.size + 1]? = some (.cells #[.bool true] 4 (0, 0)) ∧ fp = [Wb.heap.size, Wb.heap.size + 1] ∧ Keep [] Wb W
theorem HInv.steady {Wb W : World} (hW : Wb.heap.size + 1 < W.heap.size) (k : Nat) : Steady [] W (HInv Wb k) := by
  rintro fp W1 W2 S ⟨h0, h1, h2, rfl, h4⟩ hk hS
  refine ⟨hk.at_ h0 (fun h => (hS _ h).1 (by simp)), hk.at_ h1 (fun h => (hS _ h).1 (by simp)), h2, rfl, h4.trans hk (fun x hx => .inr ?_)⟩
  rcases (hS x hx).2 with h | h
  · cases h
  · omega
theorem HStop.steady {Wb W : World} (hW : Wb.heap.size + 1 < W.heap.size) (k : Nat) : Steady [] W (HStop Wb k) := by
  rintro fp W1 W2 S ⟨h1, rfl, h4⟩ hk hS
  refine ⟨hk.at_ h1 (fun h => (hS _ h).1 (by simp)), rfl, h4.trans hk (fun x hx => .inr ?_)⟩
  rcases (hS x hx).2 with h | h
  · cases h
  · omega

set_option maxHeartbeats 8000000 in
theorem gg1_any {bp bq ba bb ta tb : Nat} {v1 v2 : Value} {s : ByteArray} (Wb W : World) (h : GoesW bp bq ba bb ta tb v1 v2 s Wb) (hz : s.size ≤ 20000) (k : Nat) (hk : k < (cut s 0).length) (hj : HInv Wb k [Wb.heap.size, Wb.heap.size + 1] W) :
    Calls Try.prog 38 #[.int .i64 (cut s 0)[k], .int .i32 (dec s (cut s 0)[k]).1, .pointer (some ⟨Wb.heap.size + 1, 0, none⟩), .pointer (some ⟨Wb.heap.size, 0, none⟩), .pointer (some ⟨bp, 0, none⟩), .pointer (some ⟨ba, 0, none⟩), .pointer (some ⟨bb, 0, none⟩), .pointer (some ⟨bq, 0, none⟩)] W
      (RoundPost (HInv Wb) (HStop Wb) k [Wb.heap.size, Wb.heap.size + 1] W) := by
  obtain ⟨h0, h1, h2, -, h4⟩ := hj
  have c0 := cell_of_one h0
  have c1 := cell_of_one h1
  have hW := h.keep h4
  have hp1 := hW.p1
  obtain ⟨ad, cap, hv1, hcs⟩ := hp1
  obtain ⟨b, off, hb, hcs2⟩ := hcs (by omega)
  subst hb
  subst hv1
  obtain ⟨d0, d1, _, _⟩ := hcs2 k _ (List.getElem?_eq_getElem hk)
  have cp := cell_of_one hW.p
  have cq := cell_of_one hW.q
  have ca := cell_of_one hW.a
  have cb := cell_of_one hW.b
  obtain ⟨ad2, cap2, hv2, _⟩ := hW.p2
  have HW := Lib.hid hW; have HCS := Lib.hid hcs2; have H4 := Lib.hid h4; have H0 := Lib.hid h0; have H1 := Lib.hid h1
  have hcl := cut_len_le s 0 (Nat.zero_le _)
  clear hW hcs hcs2 h4 h0 h1
  subst hv2
  have hkn' : decide (k < (cut s 0).length) = true := by simp; omega
  have HGA := Lib.hid (goes_all HW.out hz (1 + (k : Int) % 3) (by omega) (by omega))
  have HGB := Lib.hid (fun W' (hk' : Keep [] W W') => goes_back (HW.out.keep hk') hz (1 + (k : Int) % 2) (by omega) (by omega))
  simp only [List.length_reverse] at HGB
  generalize (dec s (cut s 0)[k]).1 = r1 at *
  generalize (cut s 0)[k] = x at *
  go_enter Try.func38, Try.ntmps38
  go_wp2_with fail
  (with_reducible refine HGA.out.mono ?_)
  rintro q W1 ⟨rfl, hk1⟩
  have e0 := hk1.cellv c0 (by simp)
  have ep := hk1.cellv cb (by simp)
  have eq := hk1.cellv cq (by simp)
  have e1 := hk1.cellv c1 (by simp)
  have K1 := Lib.hid hk1; clear hk1
  go_wp2_with fail
  (with_reducible refine (HGB.out W1 K1.out).mono ?_)
  rintro q W2 ⟨rfl, hk2⟩
  have hk2' := K1.out.trans0 hk2
  have b0 := hk2'.at_ H0.out (by simp)
  have b1 := hk2'.at_ H1.out (by simp)
  have g0 := cell_of_one b0
  have g1 := cell_of_one b1
  have u0 := free_of_one b0
  have u1 := free_of_one b1
  have hfin : Hid ((((W2.setCell ⟨Wb.heap.size + 1, 0, none⟩ (.bool true)).setCell ⟨Wb.heap.size, 0, none⟩ (.int .i64 ((k : Int) + 1))).heap[Wb.heap.size]? = some (.cells #[.int .i64 ((k : Int) + 1)] 3 (0, 0)) ∧
      ((W2.setCell ⟨Wb.heap.size + 1, 0, none⟩ (.bool true)).setCell ⟨Wb.heap.size, 0, none⟩ (.int .i64 ((k : Int) + 1))).heap[Wb.heap.size + 1]? = some (.cells #[.bool true] 4 (0, 0))) ∧
      Keep [Wb.heap.size, Wb.heap.size + 1] W ((W2.setCell ⟨Wb.heap.size + 1, 0, none⟩ (.bool true)).setCell ⟨Wb.heap.size, 0, none⟩ (.int .i64 ((k : Int) + 1)))) := by
    refine Lib.hid ⟨⟨?_, ?_⟩, (((hk2'.mono (by simp))).setCell (by simp) _).setCell (by simp) _⟩
    · exact one_setCell ((block_setCell_other _ (by simp)).trans b0)
    · exact (block_setCell_other _ (by simp)).trans (one_setCell b1)
  clear b0 b1 hk2' hk2 K1 e0 ep eq e1 c0 c1 cp cq ca cb
  by_cases hk20 : k + 1 < 20
  · have hkd : decide ((k : Int) + 1 < 20) = true := by simp; omega
    go_wp2
    go_ret
    obtain ⟨⟨q0, q1⟩, hkk⟩ := hfin.out
    exact .inl ⟨rfl, _, ⟨q0, q1, hk20, rfl, H4.out.trans hkk (by intro y hy; simp at hy; omega)⟩, hkk, FromNew.refl _ _⟩
  · have hkd : decide ((k : Int) + 1 < 20) = false := by simp; omega
    go_wp2
    go_ret
    obtain ⟨⟨q0, q1⟩, hkk⟩ := hfin.out
    exact .inr ⟨rfl, _, ⟨q1, rfl, H4.out.trans hkk (by intro y hy; simp at hy; omega)⟩, hkk, FromNew.refl _ _⟩

set_option maxRecDepth 100000 in
set_option maxHeartbeats 16000000 in
theorem glyphGoes_walk (s : ByteArray) (stop : Int) (w : World) (hs : s.size ≤ maxLen) (hn : -9223372036854775808 ≤ stop ∧ stop ≤ 9223372036854775807) :
    Calls Try.prog 11 #[.string s, .int .i64 stop] w fun e w' => e = .returned (.bool true) ∧ Keep [] w w' := by
  unfold maxLen at hs
  by_cases hz : s.size ≤ 20000
  · have hzd : decide ((20000 : Int) < (s.size : Int)) = false := by simp; omega
    have hcl := cut_len_le s 0 (Nat.zero_le _)
    go_enter Try.func11, Try.ntmps11
    go_wp2_with fail
    refine (pieces_any s _ (by omega)).mono ?_
    rintro q w1 ⟨v1, rfl, ho1, hk1, hnil1⟩
    clear hnil1
    have hpc1 := PcAt.of_owns ho1
    have hol1 : ∀ g, v1.ownBlock = some g → g < w1.heap.size := fun g hg => (ho1.lt g hg).2
    obtain ⟨ad1, cap1, rfl, hx1⟩ := PcAt.of_owns ho1
    clear hx1
    have HK1 := Lib.hid hk1; have HP1 := Lib.hid hpc1; have HL1 := Lib.hid hol1
    clear ho1 hk1 hpc1 hol1
    go_wp2_with fail
    refine (turned_any _ s (cut s 0) _ (HP1.out.keep0 ((Keep.refl _ _).alloc _)) (by omega)).mono ?_
    rintro q w2 ⟨v2, rfl, ho2, hk2, hnil2⟩
    clear hnil2
    have hpc2 := PcAt.of_owns ho2
    have hol2 : ∀ g, v2.ownBlock = some g → g < w2.heap.size := fun g hg => (ho2.lt g hg).2
    obtain ⟨ad2, cap2, rfl, hx2⟩ := PcAt.of_owns ho2
    clear hx2
    have hbp := hk2.at_ (heap_alloc_new w1 (.cells #[.slice ad1 (cut s 0).length cap1] 45)) (by simp)
    have hk2' : Keep [] w1 w2 := ((Keep.refl _ w1).alloc _).trans0 hk2
    have HBP := Lib.hid hbp; have HK2 := Lib.hid hk2'; have HP2 := Lib.hid hpc2; have HL2 := Lib.hid hol2
    clear ho2 hk2 hpc2 hol2 hbp hk2'
    have hrl : (cut s 0).reverse.length = (cut s 0).length := List.length_reverse
    rw [hrl] at HP2 HL2 ⊢
    clear hrl
    go_wp2_with fail
    refine (all_any s _).mono ?_
    rintro q w3 ⟨rfl, rfl⟩
    go_wp2_with fail
    refine (back_any s _).mono ?_
    rintro q w4 ⟨rfl, rfl⟩
    go_upto_region 7 with (fail)
    generalize hW5 : (((((w2.alloc (.cells #[.slice ad2 (cut s 0).length cap2] 45)).alloc (.cells #[.string s] 9)).alloc (.cells #[(Value.func (.func 46) #[] #[.pointer (some ⟨w2.heap.size + 1, 0, none⟩)])] 39)).alloc (.cells #[.string s] 9)).alloc (.cells #[(Value.func (.func 47) #[] #[.pointer (some ⟨w2.heap.size + 1 + 1 + 1, 0, none⟩)])] 39)) = W5
    have x0 : W5.heap[w2.heap.size]? = some (.cells #[.slice ad2 (cut s 0).length cap2] 45 (0, 0)) := by
      rw [← hW5, Below.heap_alloc _ _ _ (by simp <;> omega), Below.heap_alloc _ _ _ (by simp <;> omega), Below.heap_alloc _ _ _ (by simp <;> omega), Below.heap_alloc _ _ _ (by simp <;> omega)]
      have := World.alloc_heap_new w2 (.cells #[.slice ad2 (cut s 0).length cap2] 45); exact this
    have x1 : W5.heap[w2.heap.size + 1]? = some (.cells #[.string s] 9 (0, 0)) := by
      rw [← hW5, Below.heap_alloc _ _ _ (by simp <;> omega), Below.heap_alloc _ _ _ (by simp <;> omega), Below.heap_alloc _ _ _ (by simp <;> omega)]
      have := World.alloc_heap_new (w2.alloc (.cells #[.slice ad2 (cut s 0).length cap2] 45)) (.cells #[.string s] 9); rwa [World.size_alloc] at this
    have x2 : W5.heap[w2.heap.size + 1 + 1]? = some (.cells #[(Value.func (.func 46) #[] #[.pointer (some ⟨w2.heap.size + 1, 0, none⟩)])] 39 (0, 0)) := by
      rw [← hW5, Below.heap_alloc _ _ _ (by simp <;> omega), Below.heap_alloc _ _ _ (by simp <;> omega)]
      have := World.alloc_heap_new ((w2.alloc (.cells #[.slice ad2 (cut s 0).length cap2] 45)).alloc (.cells #[.string s] 9)) (.cells #[(Value.func (.func 46) #[] #[.pointer (some ⟨w2.heap.size + 1, 0, none⟩)])] 39); rwa [World.size_alloc, World.size_alloc] at this
    have x3 : W5.heap[w2.heap.size + 1 + 1 + 1]? = some (.cells #[.string s] 9 (0, 0)) := by
      rw [← hW5, Below.heap_alloc _ _ _ (by simp <;> omega)]
      have := World.alloc_heap_new (((w2.alloc (.cells #[.slice ad2 (cut s 0).length cap2] 45)).alloc (.cells #[.string s] 9)).alloc (.cells #[(Value.func (.func 46) #[] #[.pointer (some ⟨w2.heap.size + 1, 0, none⟩)])] 39)) (.cells #[.string s] 9); rwa [World.size_alloc, World.size_alloc, World.size_alloc] at this
    have x4 : W5.heap[w2.heap.size + 1 + 1 + 1 + 1]? = some (.cells #[(Value.func (.func 47) #[] #[.pointer (some ⟨w2.heap.size + 1 + 1 + 1, 0, none⟩)])] 39 (0, 0)) := by
      rw [← hW5]
      have := World.alloc_heap_new ((((w2.alloc (.cells #[.slice ad2 (cut s 0).length cap2] 45)).alloc (.cells #[.string s] 9)).alloc (.cells #[(Value.func (.func 46) #[] #[.pointer (some ⟨w2.heap.size + 1, 0, none⟩)])] 39)).alloc (.cells #[.string s] 9)) (.cells #[(Value.func (.func 47) #[] #[.pointer (some ⟨w2.heap.size + 1 + 1 + 1, 0, none⟩)])] 39); rwa [World.size_alloc, World.size_alloc, World.size_alloc, World.size_alloc] at this
    have hk5 : Keep [] w2 W5 := by rw [← hW5]; exact (((((Keep.refl _ _).alloc _).alloc _).alloc _).alloc _).alloc _
    have HG5 : Hid (GoesW w1.heap.size w2.heap.size (w2.heap.size + 1 + 1) (w2.heap.size + 1 + 1 + 1 + 1) (w2.heap.size + 1) (w2.heap.size + 1 + 1 + 1) (.slice ad1 (cut s 0).length cap1) (.slice ad2 (cut s 0).length cap2) s W5) :=
      Lib.hid ⟨hk5.at_ HBP.out (by simp), x0, x2, x4, x1, x3, (HP1.out.keep0 HK2.out).keep0 hk5, HP2.out.keep0 hk5, fun g hg => Nat.lt_of_lt_of_le (Nat.lt_of_lt_of_le (HL1.out g hg) HK2.out.size) hk5.size, fun g hg => Nat.lt_of_lt_of_le (HL2.out g hg) hk5.size⟩
    have HK5 := Lib.hid ((HK1.out.trans0 HK2.out).trans0 hk5)
    clear x0 x1 x2 x3 x4 hk5 hW5 HBP HK1 HK2 HP1 HP2 HL1 HL2
    generalize w2.heap.size + 1 + 1 + 1 + 1 = bb at *
    generalize w2.heap.size + 1 + 1 + 1 = tb at *
    generalize w2.heap.size + 1 + 1 = ba at *
    generalize w2.heap.size + 1 = ta at *
    generalize w2.heap.size = bq at *
    generalize w1.heap.size = bp at *
    have nf1 : ∀ w, (binOp .eql 39 (.func (.func 46) #[] #[.pointer (some ⟨ta, 0, none⟩)]) Value.nilFunc).run Try.prog w = .ok (.bool false) w := fun _ => by kernel_rfl
    have nf2 : ∀ w, (binOp .eql 39 (.func (.func 47) #[] #[.pointer (some ⟨tb, 0, none⟩)]) Value.nilFunc).run Try.prog w = .ok (.bool false) w := fun _ => by kernel_rfl
    have p5 := cell_of_one HG5.out.p
    have q5 := cell_of_one HG5.out.q
    have a5 := cell_of_one HG5.out.a
    have b5 := cell_of_one HG5.out.b
    go_wp2_with fail
    (with_reducible refine (goes_all HG5.out hz stop (by omega) (by omega)).mono ?_)
    rintro q W6 ⟨rfl, hk⟩
    have HG6 := Lib.hid (HG5.out.keep hk); have HK6 := Lib.hid (HK5.out.trans0 hk); clear hk HG5 HK5 p5 q5 a5 b5
    have p6 := cell_of_one HG6.out.p
    have q6 := cell_of_one HG6.out.q
    have a6 := cell_of_one HG6.out.a
    have b6 := cell_of_one HG6.out.b
    go_wp2_with fail
    (with_reducible refine (goes_all HG6.out hz 0 (by omega) (by omega)).mono ?_)
    rintro q W7 ⟨rfl, hk⟩
    have HG7 := Lib.hid (HG6.out.keep hk); have HK7 := Lib.hid (HK6.out.trans0 hk); clear hk HG6 HK6 p6 q6 a6 b6
    have p7 := cell_of_one HG7.out.p
    have q7 := cell_of_one HG7.out.q
    have a7 := cell_of_one HG7.out.a
    have b7 := cell_of_one HG7.out.b
    go_wp2_with fail
    (with_reducible refine (goes_back HG7.out hz stop (by omega) (by omega)).mono ?_)
    rintro q W8 ⟨rfl, hk⟩
    have HG8 := Lib.hid (HG7.out.keep hk); have HK8 := Lib.hid (HK7.out.trans0 hk); clear hk HG7 HK7 p7 q7 a7 b7
    have p8 := cell_of_one HG8.out.p
    have q8 := cell_of_one HG8.out.q
    have a8 := cell_of_one HG8.out.a
    have b8 := cell_of_one HG8.out.b
    go_wp2_with fail
    (with_reducible refine (goes_back HG8.out hz 0 (by omega) (by omega)).mono ?_)
    rintro q W9 ⟨rfl, hk⟩
    have HG9 := Lib.hid (HG8.out.keep hk); have HK9 := Lib.hid (HK8.out.trans0 hk); clear hk HG8 HK8 p8 q8 a8 b8
    have p9 := cell_of_one HG9.out.p
    have q9 := cell_of_one HG9.out.q
    have a9 := cell_of_one HG9.out.a
    have b9 := cell_of_one HG9.out.b
    go_upto_region 11 with (fail)
    generalize hW0 : (W9.alloc (.cells #[.int .i64 0] 3)).alloc (.cells #[.bool true] 4) = W0
    have y0 : W0.heap[W9.heap.size]? = some (.cells #[.int .i64 0] 3 (0, 0)) := by
      rw [← hW0, Below.heap_alloc _ _ _ (by simp)]; exact World.alloc_heap_new W9 _
    have y1 : W0.heap[W9.heap.size + 1]? = some (.cells #[.bool true] 4 (0, 0)) := by
      rw [← hW0]
      have := World.alloc_heap_new (W9.alloc (.cells #[.int .i64 0] 3)) (.cells #[.bool true] 4); rwa [World.size_alloc] at this
    have hk0 : Keep [] W9 W0 := by rw [← hW0]; exact ((Keep.refl _ _).alloc _).alloc _
    have hs0 : W0.heap.size = W9.heap.size + 2 := by rw [← hW0]; simp
    have a0 := hk0.cellv a9 (by simp)
    have Y0 := Lib.hid y0; have Y1 := Lib.hid y1; have K0 := Lib.hid hk0; have S0 := Lib.hid hs0
    clear y0 y1 hk0 hs0 hW0 p9 q9 a9 b9
    go_wp2_with fail
    have hcall := all1_iters ta s (by omega) (.func (.func 38) #[] #[.pointer (some ⟨W9.heap.size + 1, 0, none⟩), .pointer (some ⟨W9.heap.size, 0, none⟩), .pointer (some ⟨bp, 0, none⟩), .pointer (some ⟨ba, 0, none⟩), .pointer (some ⟨bb, 0, none⟩), .pointer (some ⟨bq, 0, none⟩)])
      (HInv W9) (HStop W9) [W9.heap.size, W9.heap.size + 1] W0 (HG9.out.na.keep K0.out (by simp)) (fun b hb => by cases hb)
      (fun b hb => by have h1 := lt_of_block HG9.out.na; have := S0.out; simp at hb; subst hb; simp; omega) (HInv.steady (by have := S0.out; omega)) (HStop.steady (by have := S0.out; omega)) (by
        intro k hk fp W1 hj
        rw [List.length_map] at hk
        have hfp := hj.2.2.2.1
        subst hfp
        rw [List.getElem_map]
        exact .inr ⟨_, _, rfl, enters_gg1, gg1_any W9 W1 HG9.out hz k hk hj⟩) (fun b hb => by have := S0.out; simp at hb; omega) ⟨Y0.out, Y1.out, by decide, rfl, K0.out⟩
    have HCALL := Lib.hid hcall; clear hcall
    refine HCALL.out.mono ?_
    clear HCALL
    rintro e W10 ⟨rfl, hpost⟩
    have hfin : ∃ fp', HStop W9 0 fp' W10 := by
      rcases hpost with ⟨fp', h0, h1, h2, h3, h4⟩ | ⟨k, fp', hk, h1, h3, h4⟩
      · exact ⟨fp', h1, h3, h4⟩
      · exact ⟨fp', h1, h3, h4⟩
    obtain ⟨fp', h1, _, hk10⟩ := hfin
    have o1 := cell_of_one h1
    have HG10 := Lib.hid (HG9.out.keep hk10)
    have b10 := cell_of_one HG10.out.b
    have q10 := cell_of_one HG10.out.q
    have HK10 := Lib.hid (HK9.out.trans0 hk10)
    clear hpost h1 hk10 HG9 HK9 Y0 Y1 K0 S0 a0
    go_wp2_with fail
    (with_reducible refine (goes_back HG10.out hz 0 (by omega) (by omega)).mono ?_)
    rintro q W11 ⟨rfl, hk⟩
    have HK11 := Lib.hid (HK10.out.trans0 hk); clear hk HG10 HK10 b10 q10 o1
    go_wp2_with fail
    refine (known_true _).mono ?_
    rintro q W12 ⟨rfl, hk⟩
    have HK12 := Lib.hid (HK11.out.trans0 hk); clear hk
    go_wp2
    go_ret
    exact ⟨rfl, HK12.out⟩
  · have hzd : decide ((20000 : Int) < (s.size : Int)) = true := by simp; omega
    go_enter Try.func11, Try.ntmps11
    go_wp2_with fail
    refine (known_true _).mono ?_
    rintro q w3 ⟨rfl, hk3⟩
    have HK3 := Lib.hid hk3; clear hk3
    go_wp2
    go_ret
    exact ⟨rfl, HK3.out⟩
end Go.Proofs.Ytjelbeghojgooaa
