/-
  ClumpAlls, walked: the whole.
-/
import Derived.Test.YthbcancckogloaaCL3
import Derived.Test.YthbcancckogloaaQuietT
namespace Go.Proofs.Ythbcancckogloaa
open Go.RowKit
set_option linter.unusedVariables false
set_option linter.unusedSimpArgs false

theorem enters_a1 (args : Array Value) (w : World) : (callFunc 21 args).run Try.prog w = .ok (.enter 21 args) w := enters_of Try.func21 (by kernel_rfl) rfl args w
theorem enters_a2 (args : Array Value) (w : World) : (callFunc 23 args).run Try.prog w = .ok (.enter 23 args) w := enters_of Try.func23 (by kernel_rfl) rfl args w

/-- The run of the outer closure. -/
theorem alls_outer (ib wb sb tb ob nb pb : Nat) (vw : Value) (s : ByteArray) (stop : Int) (w : World) (hz : s.size ≤ 20000) (hs0 : -9223372036854775808 ≤ stop) (hs1 : stop ≤ 9223372036854775807) (hE : AllsW ib wb sb tb vw s stop w)
    (hne : ∀ b, b = ob ∨ b = nb ∨ b = pb → b ≠ ib ∧ b ≠ wb ∧ b ≠ sb ∧ b ≠ tb ∧ ∀ g, vw.ownBlock = some g → b ≠ g) (hon : ob ≠ nb) (hop : ob ≠ pb) (hnp : nb ≠ pb)
    (h1 : w.heap[ob]? = some (.cells #[.bool true] 4 (0, 0))) (h2 : w.heap[nb]? = some (.cells #[.int .i64 0] 3 (0, 0))) (h3 : w.heap[pb]? = some (.cells #[.int .i64 0] 3 (0, 0))) :
    Calls Try.prog 36 #[.func (.func 21) #[] #[.pointer (some ⟨ob, 0, none⟩), .pointer (some ⟨nb, 0, none⟩), .pointer (some ⟨wb, 0, none⟩), .pointer (some ⟨pb, 0, none⟩), .pointer (some ⟨ib, 0, none⟩), .pointer (some ⟨sb, 0, none⟩)], .pointer (some ⟨tb, 0, none⟩)] w
      fun e w' => e = .returned (.tuple #[]) ∧ w'.heap[ob]? = some (.cells #[.bool true] 4 (0, 0)) ∧ w'.heap[nb]? = some (.cells #[.int .i64 ((clumps s).length : Nat)] 3 (0, 0)) ∧ Keep [ob, nb, pb] w w' := by
  refine (clu1_iters tb s (by omega) (.func (.func 21) #[] #[.pointer (some ⟨ob, 0, none⟩), .pointer (some ⟨nb, 0, none⟩), .pointer (some ⟨wb, 0, none⟩), .pointer (some ⟨pb, 0, none⟩), .pointer (some ⟨ib, 0, none⟩), .pointer (some ⟨sb, 0, none⟩)])
      (OuJ ob nb pb s w) (fun _ _ _ => False) [ob, nb, pb] w ⟨_, _, rfl⟩ hE.txt (fun b hb => by cases hb)
      (fun b hb => by
        simp at hb; subst hb
        exact ⟨lt_of_block hE.txt, fun h => by
          have h' : b = ob ∨ b = nb ∨ b = pb := by simpa using h
          exact (hne b h').2.2.2.1 rfl⟩)
      (OuJ.steady (Nat.le_refl _)) (fun _ _ _ _ _ h => h.elim) (by
        intro k hk fp W1 hj
        rw [List.length_map] at hk
        have hfp := hj.2.2.2.1
        subst hfp
        rw [List.getElem_map, (clumps_at hk).1]
        exact .inr ⟨_, _, rfl, enters_a1, alls1_any ib wb sb tb ob nb pb vw s stop w W1 k hz hs0 hs1 hE hne hon hop hnp hk hj⟩)
      (fun b hb => by
        simp at hb
        rcases hb with rfl | rfl | rfl
        · exact lt_of_block h1
        · exact lt_of_block h2
        · exact lt_of_block h3) ⟨h1, h2, by rw [plc_zero]; exact h3, rfl, Keep.refl _ _⟩).mono ?_
  rintro e W ⟨rfl, ⟨fp', j1, j2, j3, _, j5⟩ | ⟨k, fp', hk, hF⟩⟩
  · rw [List.length_map] at j2
    exact ⟨rfl, j1, j2, j5⟩
  · exact hF.elim

/-- The third closure, between two rounds. -/
def ThJ (nb : Nat) (stop : Int) (w : World) (k : Nat) (fp : List Nat) (W : World) : Prop :=
  W.heap[nb]? = some (.cells #[.int .i64 k] 3 (0, 0)) ∧ (stop ≤ 0 ∨ (k : Int) < stop) ∧ fp = [nb] ∧ Keep [nb] w W
def ThX (nb : Nat) (stop : Int) (w : World) (k : Nat) (fp : List Nat) (W : World) : Prop :=
  W.heap[nb]? = some (.cells #[.int .i64 stop] 3 (0, 0)) ∧ fp = [nb] ∧ Keep [nb] w W
theorem ThJ.steady {nb : Nat} {stop : Int} {w W : World} (hW : w.heap.size ≤ W.heap.size) (k : Nat) : Steady [] W (ThJ nb stop w k) := by
  rintro fp W1 W2 S ⟨h1, h3, rfl, h6⟩ hk hS
  refine ⟨hk.at_ h1 (fun h => (hS _ h).1 (by simp)), h3, rfl, h6.trans hk (fun x hx => .inr ?_)⟩
  rcases (hS x hx).2 with h | h
  · cases h
  · omega
theorem ThX.steady {nb : Nat} {stop : Int} {w W : World} (hW : w.heap.size ≤ W.heap.size) (k : Nat) : Steady [] W (ThX nb stop w k) := by
  rintro fp W1 W2 S ⟨h1, rfl, h6⟩ hk hS
  refine ⟨hk.at_ h1 (fun h => (hS _ h).1 (by simp)), rfl, h6.trans hk (fun x hx => .inr ?_)⟩
  rcases (hS x hx).2 with h | h
  · cases h
  · omega
theorem alls2_any (nb sb : Nat) (stop : Int) (w W : World) (k : Nat) (a : Nat) (t : ByteArray) (hk : k ≤ 30000) (hsb : sb ≠ nb) (hs : w.heap[sb]? = some (.cells #[.int .i64 stop] 3 (0, 0))) (h : ThJ nb stop w k [nb] W) :
    Calls Try.prog 23 #[.int .i64 a, .string t, .pointer (some ⟨nb, 0, none⟩), .pointer (some ⟨sb, 0, none⟩)] W (RoundPost (ThJ nb stop w) (ThX nb stop w) k [nb] W) := by
  obtain ⟨h1, h3, -, hkp⟩ := h
  have hs2 := hkp.at_ hs (by simpa using hsb)
  have cn := cell_of_one h1
  have fn := free_of_one h1
  have cs := cell_of_one hs2
  have cs2 := cell_of_one ((block_setCell_other (w := W) (a := ⟨nb, 0, none⟩) (.int .i64 ((k : Int) + 1)) hsb).trans hs2)
  have hfin := Lib.hid (one_setCell (u := .int .i64 ((k : Int) + 1)) h1)
  have hk1 : Keep [nb] W (W.setCell ⟨nb, 0, none⟩ (.int .i64 ((k : Int) + 1))) := (Keep.refl _ _).setCell (by simp) _
  have HK1 := Lib.hid hk1; have HKP := Lib.hid hkp
  clear hkp hk1 h1 hs2 hs
  by_cases hst : stop = (k : Int) + 1
  · have hse : (((k : Int) + 1) != stop) = false := by simp; omega
    have HS := Lib.hid hst; clear hst
    go_enter Try.func23, Try.ntmps23
    go_wp2
    go_ret
    exact .inr ⟨rfl, _, ⟨by rw [HS.out]; exact hfin.out, rfl, HKP.out.trans' HK1.out⟩, HK1.out, FromNew.refl _ _⟩
  · have hse : (((k : Int) + 1) != stop) = true := by simp; omega
    go_enter Try.func23, Try.ntmps23
    go_wp2
    go_ret
    exact .inl ⟨rfl, _, ⟨hfin.out, by omega, rfl, HKP.out.trans' HK1.out⟩, HK1.out, FromNew.refl _ _⟩
theorem alls_third (ib wb sb tb nb : Nat) (vw : Value) (s : ByteArray) (stop : Int) (w : World) (hz : s.size ≤ 20000) (hE : AllsW ib wb sb tb vw s stop w) (hns : sb ≠ nb) (hnt : tb ≠ nb) (h1 : w.heap[nb]? = some (.cells #[.int .i64 0] 3 (0, 0))) :
    Calls Try.prog 36 #[.func (.func 23) #[] #[.pointer (some ⟨nb, 0, none⟩), .pointer (some ⟨sb, 0, none⟩)], .pointer (some ⟨tb, 0, none⟩)] w
      fun e w' => e = .returned (.tuple #[]) ∧ (∃ q : Int, (q = (clumps s).length ∨ q = stop) ∧ w'.heap[nb]? = some (.cells #[.int .i64 q] 3 (0, 0))) ∧ Keep [nb] w w' := by
  have hcl := clumps_len s
  have hbl := brk_len s
  by_cases hst : stop ≤ 0 ∨ ((0 : Nat) : Int) < stop
  · refine (clu1_iters tb s (by omega) (.func (.func 23) #[] #[.pointer (some ⟨nb, 0, none⟩), .pointer (some ⟨sb, 0, none⟩)])
      (ThJ nb stop w) (ThX nb stop w) [nb] w ⟨_, _, rfl⟩ hE.txt (fun b hb => by cases hb)
      (fun b hb => by
        simp at hb; subst hb
        exact ⟨lt_of_block hE.txt, fun h => hnt (by simpa using h)⟩)
      (ThJ.steady (Nat.le_refl _)) (ThX.steady (Nat.le_refl _)) (by
        intro k hk fp W1 hj
        rw [List.length_map] at hk
        have hfp := hj.2.2.1
        subst hfp
        rw [List.getElem_map, (clumps_at hk).1]
        exact .inr ⟨_, _, rfl, enters_a2, alls2_any nb sb stop w W1 k _ _ (by omega) hns hE.stp hj⟩)
      (fun b hb => by simp at hb; subst hb; exact lt_of_block h1) ⟨h1, hst, rfl, Keep.refl _ _⟩).mono ?_
    rintro e W ⟨rfl, ⟨fp', j1, j2, _, j5⟩ | ⟨k, fp', hk, j1, _, j5⟩⟩
    · rw [List.length_map] at j1
      exact ⟨rfl, ⟨_, .inl rfl, j1⟩, j5⟩
    · exact ⟨rfl, ⟨_, .inr rfl, j1⟩, j5⟩
  · omega

theorem alloc_at {w w' : World} {o : Obj} (h : Keep [] (w.alloc o) w') : w'.heap[w.heap.size]? = some o := h.at_ (World.alloc_heap_new w o) (by simp)

set_option maxRecDepth 100000 in
set_option maxHeartbeats 16000000 in
theorem clumpAlls_walk (s : ByteArray) (stop : Int) (w : World) (hs : s.size ≤ maxLen) (hst : -9223372036854775808 ≤ stop ∧ stop ≤ 9223372036854775807) :
    Calls Try.prog 5 #[.string s, .int .i64 stop] w fun e w' => e = .returned (.bool true) ∧ Keep [] w w' := by
  unfold maxLen at hs
  by_cases hz : s.size ≤ 20000
  · have hzd : decide ((20000 : Int) < (s.size : Int)) = false := by simp; omega
    obtain ⟨hs0, hs1⟩ := hst
    go_enter Try.func5, Try.ntmps5
    go_wp2_with fail
    obtain ⟨w0, hw0⟩ : ∃ w0, w0 = w.alloc (.cells #[.int .i64 stop] 3) := ⟨_, rfl⟩
    have hk0 : Keep [] w w0 := by rw [hw0]; exact (Keep.refl _ _).alloc _
    have hb0 : w0.heap[w.heap.size]? = some (.cells #[.int .i64 stop] 3 (0, 0)) := by rw [hw0]; exact World.alloc_heap_new w _
    rw [← hw0]
    have K0 := Lib.hid hk0; have B0 := Lib.hid hb0
    clear hw0 hk0 hb0
    refine (rall_any s _ (by omega)).mono ?_
    intro r w1 hN
    obtain ⟨ad, cap, rfl, hsl, hk1, hown⟩ := hN.at_
    have hol : ∀ g, (Value.slice ad (clumps s).length cap).ownBlock = some g → g < w1.heap.size := fun g hg => (hown.lt g hg).2
    have K1 := Lib.hid (K0.out.trans0 hk1); have B1 := Lib.hid (hk1.at_ B0.out (by simp)); have SL := Lib.hid hsl; have OL := Lib.hid hol
    clear hN hsl hk1 hown hol
    go_wp2_with fail
    refine (call_any s _).mono ?_
    rintro q w2 ⟨rfl, rfl⟩
    rw [World.size_alloc]
    go_upto_region 5 with (fail)
    obtain ⟨W4, hW4⟩ : ∃ W4, W4 = ((w1.alloc (.cells #[.slice ad (clumps s).length cap] 31)).alloc (.cells #[.string s] 9)).alloc (.cells #[(Value.func (.func 36) #[] #[.pointer (some ⟨w1.heap.size + 1, 0, none⟩)])] 34) := ⟨_, rfl⟩
    rw [← hW4]
    have hk4 : Keep [] w1 W4 := by rw [hW4]; exact (((Keep.refl _ _).alloc _).alloc _).alloc _
    have x0 : W4.heap[w1.heap.size]? = some (.cells #[.slice ad (clumps s).length cap] 31 (0, 0)) := by
      rw [hW4, Below.heap_alloc _ _ _ (by simp <;> omega), Below.heap_alloc _ _ _ (by simp)]; exact World.alloc_heap_new w1 _
    have x1 : W4.heap[w1.heap.size + 1]? = some (.cells #[.string s] 9 (0, 0)) := by
      rw [hW4, Below.heap_alloc _ _ _ (by simp)]
      have := World.alloc_heap_new (w1.alloc (.cells #[.slice ad (clumps s).length cap] 31)) (.cells #[.string s] 9); rwa [World.size_alloc] at this
    have x2 : W4.heap[w1.heap.size + 1 + 1]? = some (.cells #[(Value.func (.func 36) #[] #[.pointer (some ⟨w1.heap.size + 1, 0, none⟩)])] 34 (0, 0)) := by
      rw [hW4]
      have := World.alloc_heap_new ((w1.alloc (.cells #[.slice ad (clumps s).length cap] 31)).alloc (.cells #[.string s] 9)) (.cells #[(Value.func (.func 36) #[] #[.pointer (some ⟨w1.heap.size + 1, 0, none⟩)])] 34); rwa [World.size_alloc, World.size_alloc] at this
    have HE : Hid (AllsW (w1.heap.size + 1 + 1) w1.heap.size w.heap.size (w1.heap.size + 1) (.slice ad (clumps s).length cap) s stop W4) :=
      Lib.hid ⟨x2, x0, hk4.at_ B1.out (by simp), x1, SL.out.keep0 hk4, fun g hg => Nat.lt_of_lt_of_le (OL.out g hg) hk4.size⟩
    have K4 := Lib.hid (K1.out.trans0 hk4)
    clear x0 x1 x2 hk4 hW4 B0 B1 K0 K1 SL OL
    generalize w1.heap.size + 1 + 1 = ib at *
    generalize w1.heap.size + 1 = tb at *
    generalize w1.heap.size = wb at *
    generalize hsb : w.heap.size = sb at *
    clear hsb
    have nf1 : ∀ w, (binOp .eql 34 (.func (.func 36) #[] #[.pointer (some ⟨tb, 0, none⟩)]) Value.nilFunc).run Try.prog w = .ok (.bool false) w := fun _ => by kernel_rfl
    have ci := cell_of_one HE.out.it
    have cw := cell_of_one HE.out.want
    have hcl := clumps_len s
    have hbl := brk_len s
    have hcn : (clumps s).length ≤ 20000 := by omega
    have HCC := Lib.hid (fun W => ccount_any s W (by omega))
    clear hcl hbl
    obtain ⟨m, hm⟩ : ∃ m, m = (clumps s).length := ⟨_, rfl⟩
    rw [← hm] at cw hcn HCC HE ⊢
    have HM := Lib.hid hm; clear hm
    obtain ⟨I, f, hf1, hf2⟩ := kept_class W4
    have q0 : ∀ i, (f i).cell? _ = _ := fun i => (hf1 i).cellv ci (by simp)
    have q1 : ∀ i, (f i).cell? _ = _ := fun i => (hf1 i).cellv cw (by simp)
    obtain ⟨iw, hiw⟩ := hf2 W4.drew (Keep.refl _ _).drew
    haveI : Nonempty I := ⟨iw⟩
    have HF1 := Lib.hid hf1; have HF2 := Lib.hid hf2
    have hmm : ((m : Int) != (m : Int)) = false := by simp
    clear ci cw hf1 hf2
    refine wp_quiet_tail 8 f ⟨iw, hiw⟩ (by kernel_rfl) (by kernel_rfl) ?_
    clear hiw iw
    simp only [List.take_succ_cons, List.take_zero, List.drop_succ_cons, List.drop_zero]
    repeat (quiet_step (((with_reducible refine (HCC.out _).mono ?_); rintro e w'' ⟨rfl, hk⟩; exact ⟨rfl, HF2.out _ ((HF1.out _).trans0 hk)⟩)))
    refine wpQuiet_nil ?_
    intro i
    have hkq := Lib.hid (K4.out.trans0 (HF1.out i))
    have HE5 := Lib.hid (HE.out.keep0 (HF1.out i))
    clear q0 q1 HF1 HF2 HE K4 HCC nf1
    generalize f i = W5 at *
    clear i f
    go_wp2
    go_loopw [7] (fun i W => ∃ k : Nat, k ≤ 2 ∧ i = .int .i64 k ∧ Keep [] W5 W) (fun i _ => 2 - (intOf i).toNat)
    case atStart => exact ⟨0, by omega, rfl, Keep.refl _ _⟩
    case round =>
      rename World => W6
      obtain ⟨k, hk, rfl, hkp⟩ := hrel
      have HE6 := Lib.hid (HE5.out.keep0 hkp)
      have K6 := Lib.hid hkp
      clear hkp
      by_cases hlt : k < 2
      · have hltd : decide ((k : Int) < 2) = true := by simp; omega
        go_upto_region 13 with (fail)
        obtain ⟨W7, hW7⟩ : ∃ W7, W7 = ((W6.alloc (.cells #[.int .i64 0] 3)).alloc (.cells #[.int .i64 0] 3)).alloc (.cells #[.bool true] 4) := ⟨_, rfl⟩
        rw [← hW7]
        have hk7 : Keep [] W6 W7 := by rw [hW7]; exact (((Keep.refl _ _).alloc _).alloc _).alloc _
        have x0 : W7.heap[W6.heap.size]? = some (.cells #[.int .i64 0] 3 (0, 0)) := by
          rw [hW7, Below.heap_alloc _ _ _ (by simp <;> omega), Below.heap_alloc _ _ _ (by simp)]; exact World.alloc_heap_new W6 _
        have x1 : W7.heap[W6.heap.size + 1]? = some (.cells #[.int .i64 0] 3 (0, 0)) := by
          rw [hW7, Below.heap_alloc _ _ _ (by simp)]
          have := World.alloc_heap_new (W6.alloc (.cells #[.int .i64 0] 3)) (.cells #[.int .i64 0] 3); rwa [World.size_alloc] at this
        have x2 : W7.heap[W6.heap.size + 1 + 1]? = some (.cells #[.bool true] 4 (0, 0)) := by
          rw [hW7]
          have := World.alloc_heap_new ((W6.alloc (.cells #[.int .i64 0] 3)).alloc (.cells #[.int .i64 0] 3)) (.cells #[.bool true] 4); rwa [World.size_alloc, World.size_alloc] at this
        have hE7 := HE6.out.keep0 hk7
        have ci := cell_of_one hE7.it
        have hnn : ∀ b, b = W6.heap.size + 1 + 1 ∨ b = W6.heap.size ∨ b = W6.heap.size + 1 → b ≠ ib ∧ b ≠ wb ∧ b ≠ sb ∧ b ≠ tb ∧ ∀ g, (Value.slice ad m cap).ownBlock = some g → b ≠ g := fun b hb => by
          have u1 := lt_of_block HE6.out.it
          have u2 := lt_of_block HE6.out.want
          have u3 := lt_of_block HE6.out.stp
          have u4 := lt_of_block HE6.out.txt
          exact ⟨by omega, by omega, by omega, by omega, fun g hg => by have := HE6.out.own g hg; omega⟩
        have HOU := Lib.hid (alls_outer ib wb sb tb (W6.heap.size + 1 + 1) W6.heap.size (W6.heap.size + 1) _ s stop W7 hz hs0 hs1 hE7 hnn (by omega) (by omega) (by omega) x2 x0 x1)
        have HE7 := Lib.hid hE7
        have K7 := Lib.hid hk7
        have HSZ := Lib.hid (show ∀ b, b = W6.heap.size + 1 + 1 ∨ b = W6.heap.size ∨ b = W6.heap.size + 1 → W6.heap.size ≤ b from fun b hb => by omega)
        have HNN := Lib.hid hnn
        clear hW7 x0 x1 x2 hE7 hk7 hnn
        generalize W6.heap.size + 1 + 1 = ob at *
        generalize W6.heap.size + 1 = pb at *
        generalize hnb : W6.heap.size = nb at *
        have HNB := Lib.hid hnb; clear hnb
        go_wp2_with fail
        (with_reducible refine HOU.out.mono ?_)
        rintro e W8 ⟨rfl, y1, y2, yk⟩
        rw [← HM.out] at y2
        have cn := cell_of_one y2
        have co := cell_of_one y1
        have HE8 := HE7.out.keep yk (fun b hb => HNN.out b (by simpa using hb))
        have cw := cell_of_one HE8.want
        have K8 := Lib.hid (K7.out.trans yk (fun b hb => .inr (by have := HSZ.out b (by simpa using hb); have := HNB.out; omega)))
        clear y1 y2 yk HE8 HOU ci
        go_wp2
        exact ⟨⟨k + 1, by omega, by go_num, K6.out.trans0 K8.out⟩, by simp [intOf]; omega⟩
      · have hltd : decide ((k : Int) < 2) = false := by simp; omega
        go_upto_region 17 with (fail)
        obtain ⟨W7, hW7⟩ : ∃ W7, W7 = W6.alloc (.cells #[.int .i64 0] 3) := ⟨_, rfl⟩
        rw [← hW7]
        have hk7 : Keep [] W6 W7 := by rw [hW7]; exact (Keep.refl _ _).alloc _
        have x0 : W7.heap[W6.heap.size]? = some (.cells #[.int .i64 0] 3 (0, 0)) := by
          rw [hW7]; exact World.alloc_heap_new W6 _
        have hE7 := HE6.out.keep0 hk7
        have ci := cell_of_one hE7.it
        have u3 := lt_of_block HE6.out.stp
        have u4 := lt_of_block HE6.out.txt
        have HTH := Lib.hid (alls_third ib wb sb tb W6.heap.size _ s stop W7 hz hE7 (by omega) (by omega) x0)
        have HE7 := Lib.hid hE7
        have K7 := Lib.hid hk7
        have HNN := Lib.hid (show ∀ b, b = W6.heap.size → b ≠ ib ∧ b ≠ wb ∧ b ≠ sb ∧ b ≠ tb ∧ ∀ g, (Value.slice ad m cap).ownBlock = some g → b ≠ g from fun b hb => by
          have u1 := lt_of_block HE6.out.it
          have u2 := lt_of_block HE6.out.want
          exact ⟨by omega, by omega, by omega, by omega, fun g hg => by have := HE6.out.own g hg; omega⟩)
        clear hW7 x0 hE7 hk7 u3 u4
        generalize hnb : W6.heap.size = nb at *
        have HNB := Lib.hid hnb; clear hnb
        go_wp2_with fail
        (with_reducible refine HTH.out.mono ?_)
        rintro e W8 ⟨rfl, ⟨q, hq, y2⟩, yk⟩
        rw [← HM.out] at hq
        have cn := cell_of_one y2
        have HE8 := HE7.out.keep yk (fun b hb => HNN.out b (by simpa using hb))
        have cw := cell_of_one HE8.want
        have cs := cell_of_one HE8.stp
        have K8 := Lib.hid (K7.out.trans yk (fun b hb => .inr (by simp at hb; have := HNB.out; omega)))
        clear y2 yk HE8 HTH ci
        by_cases hqm : q = (m : Int)
        · have hqd : (q == (m : Int)) = true := by simpa using hqm
          clear hq hqm
          go_wp2_with fail
          refine (known_true _).mono ?_
          rintro x w9 ⟨rfl, hk9⟩
          have K9 := Lib.hid hk9; clear hk9
          go_wp2
          go_ret
          exact ⟨rfl, ((hkq.out.trans0 K6.out).trans0 K8.out).trans0 K9.out⟩
        · have hqd : (q == (m : Int)) = false := by simpa using hqm
          have hqs : (q == stop) = true := by simpa using hq.resolve_left hqm
          clear hq hqm
          go_wp2_with fail
          refine (known_true _).mono ?_
          rintro x w9 ⟨rfl, hk9⟩
          have K9 := Lib.hid hk9; clear hk9
          go_wp2
          go_ret
          exact ⟨rfl, ((hkq.out.trans0 K6.out).trans0 K8.out).trans0 K9.out⟩
  · have hzd : decide ((20000 : Int) < (s.size : Int)) = true := by simp; omega
    go_enter Try.func5, Try.ntmps5
    go_wp2_with fail
    refine (known_true _).mono ?_
    rintro q w3 ⟨rfl, hk3⟩
    have HK3 := Lib.hid (((Keep.refl [] w).alloc _).trans0 hk3); clear hk3
    go_wp2
    go_ret
    exact ⟨rfl, HK3.out⟩
end Go.Proofs.Ythbcancckogloaa
