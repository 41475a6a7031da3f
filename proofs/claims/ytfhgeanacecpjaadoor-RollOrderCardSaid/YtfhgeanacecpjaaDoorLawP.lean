/-
  RollPlays and RollBack, walked.
-/
import Derived.Test.YtfhgeanacecpjaaDoorRollInv
import Derived.Test.YtfhgeanacecpjaaDoorLawC
import Derived.Test.YtfhgeanacecpjaaDoorOpen
namespace Go.Proofs.YtfhgeanacecpjaaDoor
open Go.RowKit Go.Shelf
set_option linter.unusedVariables false

/-- A step's cells. -/
def stepCells (x : Bool × Int) : List Value := [.bool x.1, .int .i64 x.2]
abbrev StepsAt (w : World) (v : Value) (xs : List (Bool × Int)) : Prop := ElemsAt w v 2 stepCells xs

theorem ElemsAt.cells2 {w w' : World} {b off : Nat} {xs : List (Bool × Int)} (hc : ∀ (i : Nat) (x : Bool × Int), xs[i]? = some x → ∀ j u, (stepCells x)[j]? = some u → w.cell? ⟨b, off + (i * 2 + j), none⟩ = some u) (hk : Keep [] w w')
    (k : Nat) (hlt : k < xs.length) : w'.cell? ⟨b, off + k * 2, none⟩ = some (.bool xs[k].1) ∧ w'.cell? ⟨b, off + k * 2 + 1, none⟩ = some (.int .i64 xs[k].2) := by
  have h0 := hc k _ (List.getElem?_eq_getElem hlt) 0 _ rfl
  have h1 := hc k _ (List.getElem?_eq_getElem hlt) 1 _ rfl
  exact ⟨hk.cellv h0 (by simp), hk.cellv (p := ⟨b, off + (k * 2 + 1), none⟩) h1 (by simp)⟩

def BothS (w : World) (b c : Nat) (s : St) : Prop := Both w b c s.1 s.2.1 s.2.2
def RollS (w : World) (b : Nat) (s : St) : Prop := RollAt w b s.1 s.2.1 s.2.2

theorem RollS.keep {w w' : World} {b : Nat} {s : St} {L : List Nat} (h : RollS w b s) (k : Keep L w w') (hb : b ∉ L) : RollS w' b s := RollAt.keep h k hb
theorem BothS.keep {w w' : World} {b c : Nat} {s : St} {L : List Nat} (h : BothS w b c s) (k : Keep L w w') (hb : b ∉ L) (hc : c ∉ L) : BothS w' b c s := Both.keep h k hb hc

theorem step_s (b c : Nat) (s : St) (x : Bool × Int) (w : World) (h : BothS w b c s) (hi : Inv s) :
    Calls Tryd.prog 21 #[.pointer (some ⟨b, 0, none⟩), .pointer (some ⟨c, 0, none⟩), .agg #[.bool x.1, .int .i64 x.2]] w fun e w' => e = .returned (.bool true) ∧ BothS w' b c (stepS s x) ∧ Keep [b, c] w w' := by
  have hb := hi.bounds
  exact step_any b c s.1 s.2.1 s.2.2 x.2 x.1 w h hb.1 (by omega)
theorem do_s (b : Nat) (s : St) (x : Bool × Int) (w : World) (h : RollS w b s) (hi : Inv s) :
    Calls Tryd.prog 12 #[.pointer (some ⟨b, 0, none⟩), .agg #[.bool x.1, .int .i64 x.2]] w fun e w' => e = .returned (.bool (stepR x.1 s.1 s.2.1 x.2)) ∧ RollS w' b (stepS s x) ∧ Keep [b] w w' := by
  have hb := hi.bounds
  exact do_any b s.1 s.2.1 s.2.2 x.2 x.1 w h hb.1 (by omega)

set_option maxHeartbeats 2000000 in
theorem rollPlays_walk (v : Value) (xs : List (Bool × Int)) (n : Int) (w : World) (hv : StepsAt w v xs) (hT : TabW w) :
    Calls Tryd.prog 5 #[v, .int .i64 n] w fun e w' => e = .returned (.bool true) ∧ Keep [] w w' := by
  have HT := Lib.hid hT; clear hT
  obtain ⟨ad, cap, rfl, h1, _⟩ := hv
  have H1 := Lib.hid h1; clear h1
  by_cases hlen : xs.length ≤ 300
  · have hlen' : ¬ ((300 : Int) < (xs.length : Int)) := by omega
    go_enter Tryd.func5, Tryd.ntmps5
    go_wp2_with fail
    refine (new_any w).mono ?_
    rintro r w1 ⟨rfl, hw1⟩
    have hr1 : RollAt w1 w.heap.size 0 0 0 := by rw [hw1]; exact ⟨by decide, by decide, heap_alloc_new w _⟩
    have hk1 : Keep [] w w1 := by rw [hw1]; exact (Keep.refl _ _).alloc _
    have hs1 : w1.heap.size = w.heap.size + 1 := by rw [hw1]; simp
    clear hw1
    have R1 := Lib.hid hr1; have K1 := Lib.hid hk1; have S1 := Lib.hid hs1; clear hr1 hk1 hs1
    go_wp2_with fail
    refine (rnew_any w1).mono ?_
    rintro r w2 ⟨rfl, hr2, hk2⟩
    have hB : BothS w2 w.heap.size w1.heap.size (0, 0, 0) := ⟨R1.out.keep hk2 (by simp), hr2, by have := S1.out; omega, by decide, by decide⟩
    obtain ⟨b, hb⟩ : ∃ b, b = w.heap.size := ⟨_, rfl⟩
    obtain ⟨c, hc⟩ : ∃ c, c = w1.heap.size := ⟨_, rfl⟩
    rw [← hb, ← hc] at hB
    rw [← hb, ← hc]
    have hbc : w.heap.size ≤ b ∧ w.heap.size ≤ c := by have := S1.out; omega
    have HBC := Lib.hid hbc
    have K2 := Lib.hid (K1.out.trans0 hk2)
    clear hk2 hr2 R1 S1 K1 hb hc hbc
    go_wp2
    go_loopw [7] (fun i wr => ∃ k : Nat, k ≤ xs.length ∧ i = .int .i64 k ∧ BothS wr b c (runS (0, 0, 0) (xs.take k)) ∧ Keep [] w wr) (fun i _ => xs.length - (intOf i).toNat)
    case atStart => exact ⟨0, Nat.zero_le _, rfl, hB, K2.out⟩
    case round =>
      clear hB K2
      obtain ⟨k, hk, rfl, hB, hK⟩ := hrel
      have HB := Lib.hid hB; have HK := Lib.hid hK; clear hB hK
      have HI := Lib.hid (Inv.new.run (xs.take k))
      by_cases hlt : k < xs.length
      · obtain ⟨bs, off, rfl, hcs⟩ := H1.out (by omega)
        obtain ⟨c1, c2⟩ := ElemsAt.cells2 hcs HK.out k hlt
        have htake := List.take_succ_eq_append_getElem hlt
        have HTK := Lib.hid htake; have HCS := Lib.hid hcs; clear htake hcs
        have hst := step_s b c _ xs[k] wr HB.out HI.out
        have HI2 := Lib.hid (HI.out.step xs[k])
        generalize xs[k] = x at *
        have HST := Lib.hid hst; clear hst
        go_wp2_with fail
        refine HST.out.mono ?_
        rintro r w3 ⟨rfl, hB3, hk3⟩
        have HB3 := Lib.hid hB3; have HK3 := Lib.hid (HK.out.trans hk3 (by have := HBC.out; simp; omega)); clear hB3 hk3
        go_wp2_with fail
        refine (alike_any b c _ _ _ w3 HB3.out (HT.out.keep HK3.out (by simp))).mono ?_
        rintro r w4 ⟨rfl, hk4⟩
        have HB4 := Lib.hid (HB3.out.keep hk4 (by simp) (by simp)); have HK4 := Lib.hid (HK3.out.trans0 hk4); clear hk4
        go_wp2
        go_roundw
        case rel => exact ⟨k + 1, hlt, by go_num, by rw [HTK.out, runS_snoc]; exact HB4.out, HK4.out⟩
        case measure => simp [intOf]; omega
      · obtain rfl : k = xs.length := by omega
        clear hlt hk
        generalize runS (0, 0, 0) (xs.take xs.length) = s at *
        have hjl := HI.out.jl; have hll := HI.out.ll
        go_wp2_with fail
        refine (alike_any b c _ _ _ wr HB.out (HT.out.keep HK.out (by simp))).mono ?_
        rintro r w4 ⟨rfl, hk4⟩
        have HB4 := Lib.hid (HB.out.keep hk4 (by simp) (by simp)); have HK4 := Lib.hid (HK.out.trans0 hk4); clear hk4
        go_wp2_with fail
        refine (has_any b _ _ _ n w4 HB4.out.p).mono ?_
        rintro r w5 ⟨rfl, hd1⟩
        have D1 := Lib.hid (show Drawn w4 w5 from hd1); clear hd1
        go_wp2_with fail
        refine (rhas_any c _ _ _ n w5 (HB4.out.r.keep D1.out.keep (by simp)) hjl hll).mono ?_
        rintro r w6 ⟨rfl, rfl⟩
        have hb1 : (hasB s.1 s.2.1 n == hasB s.1 s.2.1 n) = true := by simp
        go_wp2_with fail
        refine (known_any b _ _ _ n w5 (HB4.out.p.keep D1.out.keep (by simp))).mono ?_
        rintro r w6 ⟨rfl, hd2⟩
        have D2 := Lib.hid (show Drawn w4 w6 from D1.out.trans hd2); clear hd2
        go_wp2_with fail
        refine (rknown_any c _ _ _ n w6 (HB4.out.r.keep D2.out.keep (by simp))).mono ?_
        rintro r w7 ⟨rfl, rfl⟩
        have hb2 : (knownB s.1 s.2.1 n == knownB s.1 s.2.1 n) = true := by simp
        have HK5 := Lib.hid (HK4.out.trans0 D2.out.keep)
        go_wp2_with fail
        refine (known_true w6 (HT.out.keep HK5.out (by simp))).mono ?_
        rintro r w7 ⟨rfl, hk7⟩
        go_wp2
        go_ret
        exact ⟨rfl, HK5.out.trans0 hk7⟩
  · have hlen' : ((300 : Int) < (xs.length : Int)) := by omega
    go_enter Tryd.func5, Tryd.ntmps5
    go_wp2_with fail
    refine (known_true w HT.out).mono ?_
    rintro r w3 ⟨rfl, hk⟩
    go_wp2
    go_ret
    exact ⟨rfl, hk⟩
end Go.Proofs.YtfhgeanacecpjaaDoor
