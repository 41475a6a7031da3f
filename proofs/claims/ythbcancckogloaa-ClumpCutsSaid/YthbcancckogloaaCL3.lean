/-
  ClumpAlls, walked.
-/
import Derived.Test.YthbcancckogloaaClmL
import Derived.Test.YthbcancckogloaaClmK
import Derived.Laws.EntriesVeiled
import Derived.WalkMore
import Derived.Deep.CutRange
namespace Go.Proofs.Ythbcancckogloaa
open Go.RowKit
set_option linter.unusedVariables false
set_option linter.unusedSimpArgs false

/-- What the closures read and nobody writes. -/
structure AllsW (ib wb sb tb : Nat) (vw : Value) (s : ByteArray) (stop : Int) (W : World) : Prop where
  it : W.heap[ib]? = some (.cells #[.func (.func 36) #[] #[.pointer (some ⟨tb, 0, none⟩)]] 34 (0, 0))
  want : W.heap[wb]? = some (.cells #[vw] 31 (0, 0))
  stp : W.heap[sb]? = some (.cells #[.int .i64 stop] 3 (0, 0))
  txt : TxtNeed tb s W
  sl : SlAt W vw (clumps s).length (cluV s)
  own : ∀ g, vw.ownBlock = some g → g < W.heap.size
theorem AllsW.keep {ib wb sb tb : Nat} {vw : Value} {s : ByteArray} {stop : Int} {W W' : World} {L : List Nat} (h : AllsW ib wb sb tb vw s stop W) (k : Keep L W W') (hL : ∀ b ∈ L, b ≠ ib ∧ b ≠ wb ∧ b ≠ sb ∧ b ≠ tb ∧ ∀ g, vw.ownBlock = some g → b ≠ g) : AllsW ib wb sb tb vw s stop W' :=
  ⟨k.at_ h.it (fun m => (hL _ m).1 rfl), k.at_ h.want (fun m => (hL _ m).2.1 rfl), k.at_ h.stp (fun m => (hL _ m).2.2.1 rfl), h.txt.keep k (fun m => (hL _ m).2.2.2.1 rfl),
    h.sl.keep k (fun g hg m => (hL _ m).2.2.2.2 g hg rfl), fun g hg => Nat.lt_of_lt_of_le (h.own g hg) k.size⟩
theorem AllsW.keep0 {ib wb sb tb : Nat} {vw : Value} {s : ByteArray} {stop : Int} {W W' : World} (h : AllsW ib wb sb tb vw s stop W) (k : Keep [] W W') : AllsW ib wb sb tb vw s stop W' := h.keep k (by simp)
theorem AllsW.keepN {ib wb sb tb : Nat} {vw : Value} {s : ByteArray} {stop : Int} {W W' : World} {L : List Nat} {w : World} (h : AllsW ib wb sb tb vw s stop w) (h' : Keep [] w W) (k : Keep L W W') (hL : ∀ b ∈ L, w.heap.size ≤ b) : AllsW ib wb sb tb vw s stop W' :=
  h.keep0 (h'.trans k (fun b hb => .inr (hL b hb)))

/-- The place of the k-th clump. -/
def plc (s : ByteArray) (k : Nat) : Nat := (brk s)[k]?.getD 0
theorem clumps_at {s : ByteArray} {k : Nat} (h : k < (clumps s).length) : (clumps s)[k] = (plc s k, plc s (k + 1)) ∧ plc s k < plc s (k + 1) ∧ plc s (k + 1) ≤ s.size := by
  have hl := clumps_len s
  have h1 := List.getElem?_eq_getElem (show k < (brk s).length by omega)
  have h2 := List.getElem?_eq_getElem (show k + 1 < (brk s).length by omega)
  have h3 := prs_get _ _ _ _ h1 h2
  have e1 : plc s k = (brk s)[k] := by unfold plc; rw [h1]; rfl
  have e2 : plc s (k + 1) = (brk s)[k + 1] := by unfold plc; rw [h2]; rfl
  have := brk_rise h1 h2
  refine ⟨?_, by rw [e1, e2]; exact this⟩
  rw [e1, e2]
  exact (List.getElem?_eq_some_iff.1 h3).2
theorem plc_zero (s : ByteArray) : plc s 0 = 0 := by
  obtain ⟨l, hl⟩ := brk_head s
  unfold plc; rw [hl]; rfl
theorem cluV_at {s : ByteArray} {k : Nat} (h : k < (clumps s).length) : (cluV s)[k]? = some (.string (s.extract (plc s k) (plc s (k + 1)))) := by
  unfold cluV
  rw [List.getElem?_map, List.getElem?_eq_getElem h, (clumps_at h).1]; rfl

/-- The inner closure, between two rounds. -/
def InJ (ob kb : Nat) (stop : Int) (w : World) (k : Nat) (fp : List Nat) (W : World) : Prop :=
  W.heap[ob]? = some (.cells #[.bool true] 4 (0, 0)) ∧ W.heap[kb]? = some (.cells #[.int .i64 k] 3 (0, 0)) ∧ (stop ≤ 0 ∨ (k : Int) < stop) ∧ fp = [ob, kb] ∧ Keep [ob, kb] w W
def InX (ob kb : Nat) (stop : Int) (w : World) (k : Nat) (fp : List Nat) (W : World) : Prop :=
  W.heap[ob]? = some (.cells #[.bool true] 4 (0, 0)) ∧ W.heap[kb]? = some (.cells #[.int .i64 stop] 3 (0, 0)) ∧ fp = [ob, kb] ∧ Keep [ob, kb] w W
theorem InJ.steady {ob kb : Nat} {stop : Int} {w W : World} (hW : w.heap.size ≤ W.heap.size) (k : Nat) : Steady [] W (InJ ob kb stop w k) := by
  rintro fp W1 W2 S ⟨h1, h2, h3, rfl, h6⟩ hk hS
  refine ⟨hk.at_ h1 (fun h => (hS _ h).1 (by simp)), hk.at_ h2 (fun h => (hS _ h).1 (by simp)), h3, rfl, h6.trans hk (fun x hx => .inr ?_)⟩
  rcases (hS x hx).2 with h | h
  · cases h
  · omega
theorem InX.steady {ob kb : Nat} {stop : Int} {w W : World} (hW : w.heap.size ≤ W.heap.size) (k : Nat) : Steady [] W (InX ob kb stop w k) := by
  rintro fp W1 W2 S ⟨h1, h2, rfl, h6⟩ hk hS
  refine ⟨hk.at_ h1 (fun h => (hS _ h).1 (by simp)), hk.at_ h2 (fun h => (hS _ h).1 (by simp)), rfl, h6.trans hk (fun x hx => .inr ?_)⟩
  rcases (hS x hx).2 with h | h
  · cases h
  · omega

set_option maxHeartbeats 8000000 in
/-- One round of the inner closure. -/
theorem alls11_any (ib wb sb tb ob kb : Nat) (vw : Value) (s : ByteArray) (stop : Int) (w W : World) (k : Nat) (hz : s.size ≤ 20000) (hE : AllsW ib wb sb tb vw s stop w) (hne : ∀ b, b = ob ∨ b = kb → b ≠ ib ∧ b ≠ wb ∧ b ≠ sb ∧ b ≠ tb ∧ ∀ g, vw.ownBlock = some g → b ≠ g) (hok : ob ≠ kb)
    (hk : k < (clumps s).length) (h : InJ ob kb stop w k [ob, kb] W) :
    Calls Try.prog 22 #[.int .i64 (plc s k), .string (s.extract (plc s k) (plc s (k + 1))), .pointer (some ⟨ob, 0, none⟩), .pointer (some ⟨kb, 0, none⟩), .pointer (some ⟨wb, 0, none⟩), .pointer (some ⟨sb, 0, none⟩)] W
      (RoundPost (InJ ob kb stop w) (InX ob kb stop w) k [ob, kb] W) := by
  obtain ⟨h1, h2, h3, -, hkp⟩ := h
  have hE' := hE.keep hkp (fun b hb => hne b (by simpa using hb))
  have hcl := clumps_len s
  have hbl := brk_len s
  obtain ⟨_, hpl, hps⟩ := clumps_at hk
  have hv := cluV_at hk
  have hsl := hE'.sl
  obtain ⟨bv, off, cap, hvw, hcs⟩ := hsl.at_ (by omega)
  subst hvw
  have cw := cell_of_one hE'.want
  have cs := cell_of_one hE'.stp
  have co := cell_of_one h1
  have fo := free_of_one h1
  have ck := cell_of_one h2
  have fk := free_of_one h2
  have cv := hcs k _ hv
  have hp0 : k = 0 → plc s k = 0 := fun h => by rw [h]; exact plc_zero s
  have hfing : ∀ q : Int, Hid (((W.setCell ⟨ob, 0, none⟩ (.bool true)).setCell ⟨kb, 0, none⟩ (.int .i64 q)).heap[ob]? = some (.cells #[.bool true] 4 (0, 0)) ∧
      ((W.setCell ⟨ob, 0, none⟩ (.bool true)).setCell ⟨kb, 0, none⟩ (.int .i64 q)).heap[kb]? = some (.cells #[.int .i64 q] 3 (0, 0)) ∧
      Keep [ob, kb] W ((W.setCell ⟨ob, 0, none⟩ (.bool true)).setCell ⟨kb, 0, none⟩ (.int .i64 q))) := fun q =>
    Lib.hid ⟨(block_setCell_other _ hok).trans (one_setCell h1), one_setCell ((block_setCell_other _ (fun e => hok e.symm)).trans h2), ((Keep.refl _ _).setCell (by simp) _).setCell (by simp) _⟩
  have HKP := Lib.hid hkp
  have hcn : (clumps s).length ≤ s.size := by omega
  clear hE hE' hkp h1 h2 hsl hcs hv hcl
  generalize s.extract (plc s k) (plc s (k + 1)) = t at *
  generalize plc s k = a at *
  clear hpl hps
  obtain ⟨m, hm⟩ : ∃ m, m = (clumps s).length := ⟨_, rfl⟩
  rw [← hm] at hk hcn cw
  clear hm
  have hss : (t.toList == t.toList) = true := by simp
  by_cases hk0 : k = 0
  · have ha0 := hp0 hk0
    subst hk0
    have hae : a = 0 := ha0 
    subst hae
    replace cv : W.cell? ⟨bv, off, none⟩ = some (.string t) := cv
    have hfin := hfing 1
    clear hp0 ha0 hfing
    have hkd : decide (0 < m) = true := by simpa using hk
    by_cases hs : stop = 1
    · have hse : ((1 : Int) != stop) = false := by simp; omega
      have HS := Lib.hid hs; clear hs
      go_enter Try.func22, Try.ntmps22
      go_wp2
      go_ret
      obtain ⟨q1, q2, q3⟩ := hfin.out
      exact .inr ⟨rfl, _, ⟨q1, by rw [HS.out]; exact q2, rfl, HKP.out.trans' q3⟩, q3, FromNew.refl _ _⟩
    · have hse : ((1 : Int) != stop) = true := by simp; omega
      go_enter Try.func22, Try.ntmps22
      go_wp2
      go_ret
      obtain ⟨q1, q2, q3⟩ := hfin.out
      exact .inl ⟨rfl, _, ⟨q1, q2, by omega, rfl, HKP.out.trans' q3⟩, q3, FromNew.refl _ _⟩
  · have hkd : decide (k < m) = true := by simpa using hk
    have hkz : decide ((0 : Int) < (k : Int)) = true := by simp; omega
    have hfin := hfing ((k : Int) + 1)
    clear hp0 hfing
    by_cases hs : stop = (k : Int) + 1
    · have hse : (((k : Int) + 1) != stop) = false := by simp; omega
      have HS := Lib.hid hs; clear hs
      go_enter Try.func22, Try.ntmps22
      go_wp2
      go_ret
      obtain ⟨q1, q2, q3⟩ := hfin.out
      exact .inr ⟨rfl, _, ⟨q1, by rw [HS.out]; exact q2, rfl, HKP.out.trans' q3⟩, q3, FromNew.refl _ _⟩
    · have hse : (((k : Int) + 1) != stop) = true := by simp; omega
      go_enter Try.func22, Try.ntmps22
      go_wp2
      go_ret
      obtain ⟨q1, q2, q3⟩ := hfin.out
      exact .inl ⟨rfl, _, ⟨q1, q2, by omega, rfl, HKP.out.trans' q3⟩, q3, FromNew.refl _ _⟩

/-- The inner run: the iterator with the inner closure. -/
theorem enters_a11 (args : Array Value) (w : World) : (callFunc 22 args).run Try.prog w = .ok (.enter 22 args) w := enters_of Try.func22 (by kernel_rfl) rfl args w
theorem alls_inner (ib wb sb tb ob kb : Nat) (vw : Value) (s : ByteArray) (stop : Int) (w : World) (hz : s.size ≤ 20000) (hE : AllsW ib wb sb tb vw s stop w) (hne : ∀ b, b = ob ∨ b = kb → b ≠ ib ∧ b ≠ wb ∧ b ≠ sb ∧ b ≠ tb ∧ ∀ g, vw.ownBlock = some g → b ≠ g) (hok : ob ≠ kb)
    (h1 : w.heap[ob]? = some (.cells #[.bool true] 4 (0, 0))) (h2 : w.heap[kb]? = some (.cells #[.int .i64 0] 3 (0, 0))) :
    Calls Try.prog 36 #[.func (.func 22) #[] #[.pointer (some ⟨ob, 0, none⟩), .pointer (some ⟨kb, 0, none⟩), .pointer (some ⟨wb, 0, none⟩), .pointer (some ⟨sb, 0, none⟩)], .pointer (some ⟨tb, 0, none⟩)] w
      fun e w' => e = .returned (.tuple #[]) ∧ w'.heap[ob]? = some (.cells #[.bool true] 4 (0, 0)) ∧ (∃ q : Int, (q = (clumps s).length ∨ q = stop) ∧ w'.heap[kb]? = some (.cells #[.int .i64 q] 3 (0, 0))) ∧ Keep [ob, kb] w w' := by
  by_cases hst : stop ≤ 0 ∨ ((0 : Nat) : Int) < stop
  · refine (clu1_iters tb s (by omega) (.func (.func 22) #[] #[.pointer (some ⟨ob, 0, none⟩), .pointer (some ⟨kb, 0, none⟩), .pointer (some ⟨wb, 0, none⟩), .pointer (some ⟨sb, 0, none⟩)])
      (InJ ob kb stop w) (InX ob kb stop w) [ob, kb] w ⟨_, _, rfl⟩ hE.txt (fun b hb => by cases hb)
      (fun b hb => by
        simp at hb; subst hb
        exact ⟨lt_of_block hE.txt, fun h => by
          have h' : b = ob ∨ b = kb := by simpa using h
          exact (hne b h').2.2.2.1 rfl⟩)
      (InJ.steady (Nat.le_refl _)) (InX.steady (Nat.le_refl _)) (by
        intro k hk fp W1 hj
        rw [List.length_map] at hk
        have hfp := hj.2.2.2.1
        subst hfp
        rw [List.getElem_map, (clumps_at hk).1]
        exact .inr ⟨_, _, rfl, enters_a11, alls11_any ib wb sb tb ob kb vw s stop w W1 k hz hE hne hok hk hj⟩)
      (fun b hb => by
        simp at hb
        rcases hb with rfl | rfl
        · exact lt_of_block h1
        · exact lt_of_block h2) ⟨h1, h2, hst, rfl, Keep.refl _ _⟩).mono ?_
    rintro e W ⟨rfl, ⟨fp', j1, j2, j3, _, j5⟩ | ⟨k, fp', hk, j1, j2, _, j5⟩⟩
    · rw [List.length_map] at j2
      exact ⟨rfl, j1, ⟨_, .inl rfl, j2⟩, j5⟩
    · exact ⟨rfl, j1, ⟨_, .inr rfl, j2⟩, j5⟩
  · omega

/-- The outer closure, between two rounds. -/
def OuJ (ob nb pb : Nat) (s : ByteArray) (w : World) (k : Nat) (fp : List Nat) (W : World) : Prop :=
  W.heap[ob]? = some (.cells #[.bool true] 4 (0, 0)) ∧ W.heap[nb]? = some (.cells #[.int .i64 k] 3 (0, 0)) ∧ W.heap[pb]? = some (.cells #[.int .i64 (plc s k : Nat)] 3 (0, 0)) ∧ fp = [ob, nb, pb] ∧ Keep [ob, nb, pb] w W
theorem OuJ.steady {ob nb pb : Nat} {s : ByteArray} {w W : World} (hW : w.heap.size ≤ W.heap.size) (k : Nat) : Steady [] W (OuJ ob nb pb s w k) := by
  rintro fp W1 W2 S ⟨h1, h2, h3, rfl, h6⟩ hk hS
  refine ⟨hk.at_ h1 (fun h => (hS _ h).1 (by simp)), hk.at_ h2 (fun h => (hS _ h).1 (by simp)), hk.at_ h3 (fun h => (hS _ h).1 (by simp)), rfl, h6.trans hk (fun x hx => .inr ?_)⟩
  rcases (hS x hx).2 with h | h
  · cases h
  · omega

set_option maxHeartbeats 16000000 in
/-- One round of the outer closure. -/
theorem alls1_any (ib wb sb tb ob nb pb : Nat) (vw : Value) (s : ByteArray) (stop : Int) (w W : World) (k : Nat) (hz : s.size ≤ 20000) (hs0 : -9223372036854775808 ≤ stop) (hs1 : stop ≤ 9223372036854775807) (hE : AllsW ib wb sb tb vw s stop w)
    (hne : ∀ b, b = ob ∨ b = nb ∨ b = pb → b ≠ ib ∧ b ≠ wb ∧ b ≠ sb ∧ b ≠ tb ∧ ∀ g, vw.ownBlock = some g → b ≠ g) (hon : ob ≠ nb) (hop : ob ≠ pb) (hnp : nb ≠ pb)
    (hk : k < (clumps s).length) (h : OuJ ob nb pb s w k [ob, nb, pb] W) :
    Calls Try.prog 21 #[.int .i64 (plc s k), .string (s.extract (plc s k) (plc s (k + 1))), .pointer (some ⟨ob, 0, none⟩), .pointer (some ⟨nb, 0, none⟩), .pointer (some ⟨wb, 0, none⟩), .pointer (some ⟨pb, 0, none⟩), .pointer (some ⟨ib, 0, none⟩), .pointer (some ⟨sb, 0, none⟩)] W
      (RoundPost (OuJ ob nb pb s w) (fun _ _ _ => False) k [ob, nb, pb] W) := by
  obtain ⟨h1, h2, h3, -, hkp⟩ := h
  have hE' := hE.keep hkp (fun b hb => hne b (by simpa using hb))
  have hcl := clumps_len s
  have hbl := brk_len s
  obtain ⟨_, hpl, hps⟩ := clumps_at hk
  have hv := cluV_at hk
  have hsl := hE'.sl
  obtain ⟨bv, off, cap, hvw, hcs⟩ := hsl.at_ (by omega)
  subst hvw
  have cw := cell_of_one hE'.want
  have cs := cell_of_one hE'.stp
  have co := cell_of_one h1
  have fo := free_of_one h1
  have ck := cell_of_one h2
  have fk := free_of_one h2
  have cp := cell_of_one h3
  have fp := free_of_one h3
  have cv := hcs k _ hv
  have hsz : (s.extract (plc s k) (plc s (k + 1))).size = plc s (k + 1) - plc s k := size_ext _ _ _ hps
  have HSUM : Hid ((plc s k : Int) + ((s.extract (plc s k) (plc s (k + 1))).size : Int) = (plc s (k + 1) : Int)) := Lib.hid (by omega)
  have hcn : (clumps s).length ≤ s.size := by omega
  have HKP := Lib.hid hkp; have HE := Lib.hid hE'
  have H1 := Lib.hid h1; have H2 := Lib.hid h2; have H3 := Lib.hid h3
  clear hkp hsl hcs hv hsz hcl
  generalize s.extract (plc s k) (plc s (k + 1)) = t at *
  generalize hpp : plc s (k + 1) = p at *
  have HPP := Lib.hid hpp; clear hpp
  generalize plc s k = a at *
  have hkd : decide (k < (clumps s).length) = true := by simpa using hk
  have hss : (t.toList == t.toList) = true := by simp
  have hW1g : ∀ q : Int, ∃ W1, W1 = ((W.setCell ⟨ob, 0, none⟩ (.bool true)).setCell ⟨pb, 0, none⟩ (.int .i64 p)).setCell ⟨nb, 0, none⟩ (.int .i64 q) ∧ Hid (W1.heap[ob]? = some (.cells #[.bool true] 4 (0, 0)) ∧
      W1.heap[nb]? = some (.cells #[.int .i64 q] 3 (0, 0)) ∧ W1.heap[pb]? = some (.cells #[.int .i64 p] 3 (0, 0)) ∧ Keep [ob, nb, pb] W W1) := fun q => by
    refine ⟨_, rfl, Lib.hid ⟨?_, ?_, ?_, ?_⟩⟩
    · exact (block_setCell_other _ hon).trans ((block_setCell_other _ hop).trans (one_setCell h1))
    · exact one_setCell ((block_setCell_other _ hnp).trans ((block_setCell_other _ (fun e => hon e.symm)).trans h2))
    · exact (block_setCell_other _ (fun e => hnp e.symm)).trans (one_setCell ((block_setCell_other _ (fun e => hop e.symm)).trans h3))
    · exact (((Keep.refl _ _).setCell (by simp) _).setCell (by simp) _).setCell (by simp) _
  clear h1 h2 h3
  obtain ⟨m, hm⟩ : ∃ m, m = (clumps s).length := ⟨_, rfl⟩
  rw [← hm] at hk hkd hcn cw
  have HM := Lib.hid hm
  clear hm
  have hsum := HSUM.out
  by_cases hk2 : k = 1
  · subst hk2
    obtain ⟨W1, hW1, HW1⟩ := hW1g 2
    have HAI := Lib.hid (fun (W2 : World) (h0 : Keep [] W1 W2) (kb : Nat) (hkb : W1.heap.size ≤ kb) (hkc : W2.heap[kb]? = some (.cells #[.int .i64 0] 3 (0, 0))) =>
      alls_inner ib wb sb tb ob kb _ s stop W2 hz ((HE.out.keep HW1.out.2.2.2 (fun b hb => hne b (by simpa using hb))).keep0 h0) (fun b hb => by
        rcases hb with rfl | rfl
        · exact hne b (.inl rfl)
        · have hE1 := HE.out.keep HW1.out.2.2.2 (fun b hb => hne b (by simpa using hb))
          have u1 := lt_of_block hE1.it
          have u2 := lt_of_block hE1.want
          have u3 := lt_of_block hE1.stp
          have u4 := lt_of_block hE1.txt
          exact ⟨by omega, by omega, by omega, by omega, fun g hg => by have := hE1.own g hg; omega⟩)
        (by have := lt_of_block HW1.out.1; omega) (h0.at_ HW1.out.1 (by simp)) hkc)
    have hkd1 : decide (1 < m) = true := hkd
    clear hW1g
    have hE1 := HE.out.keep HW1.out.2.2.2 (fun b hb => hne b (by simpa using hb))
    have HE1 := Lib.hid hE1
    clear hE1
    go_enter Try.func21, Try.ntmps21
    go_upto_region 5 with (fail)
    rw [← hW1]
    clear hW1 fo fk fp ck cp co cw cs cv
    obtain ⟨W2, hW2⟩ : ∃ W2, W2 = W1.alloc (.cells #[.int .i64 0] 3) := ⟨_, rfl⟩
    have hk2 : Keep [] W1 W2 := by rw [hW2]; exact (Keep.refl _ _).alloc _
    have hb2 : W2.heap[W1.heap.size]? = some (.cells #[.int .i64 0] 3 (0, 0)) := by rw [hW2]; exact World.alloc_heap_new W1 _
    have cit : (W1.alloc (.cells #[.int .i64 0] 3)).cell? ⟨ib, 0, none⟩ = _ := cell_of_one (((Keep.refl [] W1).alloc _).at_ HE1.out.it (by simp))
    have HK2 := Lib.hid hk2; have HB2 := Lib.hid hb2
    clear hk2 hb2
    go_wp2_with fail
    rw [← hW2]
    clear hW2 cit
    refine (HAI.out W2 HK2.out W1.heap.size (Nat.le_refl _) HB2.out).mono ?_
    rintro e W3 ⟨rfl, i1, ⟨q, hq, i2⟩, ik⟩
    have hkb : ∀ x, x < W1.heap.size → x ≠ ob → x ∉ [ob, W1.heap.size] := fun x hx hne h => by simp at h; omega
    have u1 := lt_of_block HE1.out.it
    have u2 := lt_of_block HE1.out.want
    have u3 := lt_of_block HE1.out.stp
    have u4 := lt_of_block HE1.out.txt
    have v1 := lt_of_block HW1.out.1
    have v2 := lt_of_block HW1.out.2.1
    have v3 := lt_of_block HW1.out.2.2.1
    have hno := hne ob (.inl rfl)
    have e1 := ik.at_ (HK2.out.at_ HE1.out.want (by simp)) (hkb wb u2 (fun e => hno.2.1 e.symm))
    have e2 := ik.at_ (HK2.out.at_ HE1.out.stp (by simp)) (hkb sb u3 (fun e => hno.2.2.1 e.symm))
    have n1 := ik.at_ (HK2.out.at_ HW1.out.2.1 (by simp)) (hkb nb v2 (fun e => hon e.symm))
    have p1 := ik.at_ (HK2.out.at_ HW1.out.2.2.1 (by simp)) (hkb pb v3 (fun e => hop e.symm))
    have cw3 := cell_of_one e1
    have cs3 := cell_of_one e2
    have co3 := cell_of_one i1
    have fo3 := free_of_one i1
    have ck3 := cell_of_one i2
    have HFIN : Hid (OuJ ob nb pb s w (1 + 1) [ob, nb, pb] (W3.setCell ⟨ob, 0, none⟩ (.bool true)) ∧ Keep [ob, nb, pb] W (W3.setCell ⟨ob, 0, none⟩ (.bool true))) := by
      have hkk : Keep [ob, nb, pb] W (W3.setCell ⟨ob, 0, none⟩ (.bool true)) :=
        (((HW1.out.2.2.2).trans0 HK2.out).trans ik (fun x hx => by
          have hs := HW1.out.2.2.2.size
          simp at hx
          rcases hx with rfl | rfl
          · exact .inl (by simp)
          · exact .inr hs)).setCell (.inl (by simp)) _
      exact Lib.hid ⟨⟨one_setCell i1, (block_setCell_other _ (fun e => hon e.symm)).trans n1, by rw [HPP.out]; exact (block_setCell_other _ (fun e => hop e.symm)).trans p1, rfl, HKP.out.trans' hkk⟩, hkk⟩
    clear e1 e2 n1 p1 i1 i2 ik hno u1 u2 u3 u4 v1 v2 v3 hkb HAI HE1 HW1 HK2 HB2
    rw [← HM.out] at hq cw3
    by_cases hqm : q = (m : Int)
    · have hqd : (q == (m : Int)) = true := by simpa using hqm
      clear hq hqm
      go_wp2
      go_ret
      exact .inl ⟨rfl, _, HFIN.out.1, HFIN.out.2, FromNew.refl _ _⟩
    · have hqd : (q == (m : Int)) = false := by simpa using hqm
      have hqs : (q == stop) = true := by simpa using hq.resolve_left hqm
      clear hq hqm
      go_wp2
      go_ret
      exact .inl ⟨rfl, _, HFIN.out.1, HFIN.out.2, FromNew.refl _ _⟩
  · have hk2d : (((k : Int) + 1) == 2) = false := by simp; omega
    obtain ⟨W1, hW1, HW1⟩ := hW1g ((k : Int) + 1)
    clear hW1g
    go_enter Try.func21, Try.ntmps21
    go_wp2
    rw [← hW1]
    go_ret
    obtain ⟨B1, B2, B3, BK⟩ := HW1.out
    exact .inl ⟨rfl, _, ⟨B1, B2, by rw [HPP.out]; exact B3, rfl, HKP.out.trans' BK⟩, BK, FromNew.refl _ _⟩
end Go.Proofs.Ythbcancckogloaa
