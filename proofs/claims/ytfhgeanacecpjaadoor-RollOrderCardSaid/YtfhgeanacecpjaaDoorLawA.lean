/-
  Walks of the law's helpers: ints, do, same.
-/
import Derived.Test.YtfhgeanacecpjaaDoorRefD
namespace Go.Proofs.YtfhgeanacecpjaaDoor
open Go.RowKit Go.Shelf
set_option linter.unusedVariables false

/-- Two rows of numbers. -/
def sameB (xs ys : List Int) : Bool := decide (xs = ys)
theorem sameB_self (xs : List Int) : sameB xs xs = true := by simp [sameB]

theorem Drawn.refl (w : World) : Drawn w w := ⟨0, rfl⟩
theorem Drawn.more {w w' : World} (h : Drawn w w') (n : Nat) : Drawn w (w'.drewN n) := by obtain ⟨k, rfl⟩ := h; exact ⟨k + n, drewN_add _ _ _⟩
theorem Drawn.trans {w w' w'' : World} (h : Drawn w w') (h' : Drawn w' w'') : Drawn w w'' := by obtain ⟨k, rfl⟩ := h'; exact h.more k
theorem Drawn.cell {w w' : World} (h : Drawn w w') (a : Addr) : w'.cell? a = w.cell? a := by obtain ⟨k, rfl⟩ := h; rfl

set_option maxHeartbeats 1000000 in
theorem ints_any (va vb : Value) (xs ys : List Int) (w : World) (ha : SlAt w va xs.length (xs.map (Value.int .i64))) (hb : SlAt w vb ys.length (ys.map (Value.int .i64)))
    (hx : xs.length ≤ 4611686018427387904) (hy : ys.length ≤ 4611686018427387904) :
    Calls Tryd.prog 19 #[va, vb] w fun e w' => e = .returned (.bool (sameB xs ys)) ∧ Drawn w w' := by
  obtain ⟨ada, ca, rfl, ha0, ha1⟩ := ha
  obtain ⟨adb, cb, rfl, hb0, hb1⟩ := hb
  have HA := Lib.hid ha1; have HB := Lib.hid hb1; clear ha0 hb0 ha1 hb1
  by_cases hl : xs.length = ys.length
  · have hl1 : ((xs.length : Int) != (ys.length : Int)) = false := by simp [hl]
    have HL := Lib.hid hl; clear hl
    go_enter Tryd.func19, Tryd.ntmps19
    go_wp2
    go_loopw [5] (fun i wr => ∃ k : Nat, k ≤ xs.length ∧ i = .int .i64 k ∧ Drawn w wr ∧ xs.take k = ys.take k) (fun i _ => xs.length - (intOf i).toNat)
    case atStart => exact ⟨0, Nat.zero_le _, rfl, Drawn.refl _, rfl⟩
    case round =>
      obtain ⟨k, hk, rfl, hd, ht⟩ := hrel
      have HT := Lib.hid ht; have HD := Lib.hid hd; clear ht hd
      by_cases hlt : k < xs.length
      · have hlt' : k < ys.length := by have := HL.out; omega
        obtain ⟨b1, o1, rfl, c1⟩ := HA.out (by omega)
        obtain ⟨b2, o2, rfl, c2⟩ := HB.out (by omega)
        have hc1 : wr.cell? ⟨b1, o1 + k, none⟩ = some (.int .i64 xs[k]) := by rw [HD.out.cell]; exact c1 k _ (by rw [List.getElem?_map, List.getElem?_eq_getElem hlt]; rfl)
        have hc2 : wr.cell? ⟨b2, o2 + k, none⟩ = some (.int .i64 ys[k]) := by rw [HD.out.cell]; exact c2 k _ (by rw [List.getElem?_map, List.getElem?_eq_getElem hlt']; rfl)
        have C1 := Lib.hid c1; have C2 := Lib.hid c2; clear c1 c2
        have htx := List.take_succ_eq_append_getElem hlt
        have hty := List.take_succ_eq_append_getElem hlt'
        have HTX := Lib.hid htx; have HTY := Lib.hid hty; clear htx hty
        by_cases he : xs[k] = ys[k]
        · have he1 : (xs[k] != ys[k]) = false := by simp [he]
          have HE := Lib.hid he; clear he
          generalize xs[k] = x at *
          generalize ys[k] = y at *
          go_wp2
          go_quiet (fail)
          go_wp2
          go_roundw
          case rel => exact ⟨k + 1, hlt, by go_num, HD.out.more _, by rw [HTX.out, HTY.out, HT.out, HE.out]⟩
          case measure => simp [intOf]; omega
        · have he1 : (xs[k] != ys[k]) = true := by simp [he]
          have hne : sameB xs ys = false := by
            simp only [sameB, decide_eq_false_iff_not]
            intro h; subst h; exact he rfl
          have HN := Lib.hid hne; clear hne he
          generalize xs[k] = x at *
          generalize ys[k] = y at *
          go_wp2
          go_quiet (fail)
          go_wp2
          go_ret
          exact ⟨by rw [HN.out]; rfl, HD.out.more _⟩
      · obtain rfl : k = xs.length := by omega
        go_wp2
        go_ret
        have ht := HT.out
        have : xs = ys := by
          rw [List.take_of_length_le (Nat.le_refl _), List.take_of_length_le (by have := HL.out; omega)] at ht; exact ht
        exact ⟨by rw [this, sameB_self]; rfl, HD.out⟩
  · have hl1 : ((xs.length : Int) != (ys.length : Int)) = true := by simp; omega
    have hne : sameB xs ys = false := by
      simp only [sameB, decide_eq_false_iff_not]
      intro h; subst h; exact hl rfl
    have HN := Lib.hid hne; clear hne hl
    go_enter Tryd.func19, Tryd.ntmps19
    go_wp2
    go_ret
    exact ⟨by rw [HN.out]; rfl, Drawn.refl _⟩

/-- What a step does to the state. -/
def stepJ (lv : Bool) (j : Nat) (n : Int) : Nat := if lv = true then j else withBit j n
def stepL (lv : Bool) (l : Nat) (n : Int) : Nat := if lv = true then withBit l n else l
def stepR (lv : Bool) (j l : Nat) (n : Int) : Bool := if lv = true then leaveR j l n else joinR j l n
theorem stepJ_lt (lv : Bool) (j : Nat) (n : Int) (h : j < 131072) : stepJ lv j n < 131072 := by unfold stepJ; split; exact h; exact withBit_lt _ _ h
theorem stepL_lt (lv : Bool) (j : Nat) (n : Int) (h : j < 131072) : stepL lv j n < 131072 := by unfold stepL; split; exact withBit_lt _ _ h; exact h

theorem do_any (b : Nat) (j l : Nat) (e n : Int) (lv : Bool) (w : World) (h : RollAt w b j l e) (he0 : 0 ≤ e) (he1 : e ≤ 4611686018427387904) :
    Calls Tryd.prog 12 #[.pointer (some ⟨b, 0, none⟩), .agg #[.bool lv, .int .i64 n]] w (TurnPost b (stepR lv j l n) (stepJ lv j n) (stepL lv l n) e w) := by
  have hk : Keep [b] w (w.alloc (.cells #[.bool lv, .int .i64 n] 28)) := (Keep.refl _ _).alloc _
  have h1 := h.keep ((Keep.refl [] w).alloc (.cells #[.bool lv, .int .i64 n] 28)) (by simp)
  cases lv
  · go_enter Tryd.func12, Tryd.ntmps12
    go_wp2_with fail
    refine (join_any b j l e n _ h1 he0 he1).mono ?_
    rintro r w1 ⟨rfl, h2, h3⟩
    go_wp2
    go_ret
    exact ⟨rfl, h2, hk.trans' h3⟩
  · go_enter Tryd.func12, Tryd.ntmps12
    go_wp2_with fail
    refine (leave_any b j l e n _ h1 he0 he1).mono ?_
    rintro r w1 ⟨rfl, h2, h3⟩
    go_wp2
    go_ret
    exact ⟨rfl, h2, hk.trans' h3⟩
end Go.Proofs.YtfhgeanacecpjaaDoor
