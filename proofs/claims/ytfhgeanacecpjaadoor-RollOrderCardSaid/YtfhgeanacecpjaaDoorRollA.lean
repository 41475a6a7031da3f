/-
  Walks of package roll: New, site, Has, Known, turn, Join, Leave, Epoch.
-/
import Derived.Test.YtfhgeanacecpjaaDoorProg
import Derived.Test.YtfhgeanacecpjaaDoorKeep
import Derived.Test.YtfhgeanacecpjaaDoorRollMath
namespace Go.Proofs.YtfhgeanacecpjaaDoor
open Go.RowKit
set_option linter.unusedVariables false

theorem site_any (n : Int) (w : World) : Calls Tryd.prog 41 #[.int .i64 n] w fun e w' => e = .returned (.bool (siteB n)) ∧ w = w' := by
  by_cases h1 : 1 ≤ n
  · by_cases h2 : n ≤ 16
    · have e : siteB n = true := by simp [siteB, h1, h2]
      rw [e]
      go_enter Tryd.func41, Tryd.ntmps41
      go_wp2
      go_ret
      exact ⟨rfl, rfl⟩
    · have e : siteB n = false := by simp [siteB]; omega
      rw [e]
      go_enter Tryd.func41, Tryd.ntmps41
      go_wp2
      go_ret
      exact ⟨rfl, rfl⟩
  · have e : siteB n = false := by simp [siteB]; omega
    rw [e]
    go_enter Tryd.func41, Tryd.ntmps41
    go_wp2
    go_ret
    exact ⟨rfl, rfl⟩

/-- A Roll in memory: who joined, who left, the count. -/
structure RollAt (w : World) (b : Nat) (j l : Nat) (e : Int) : Prop where
  jl : j < 131072
  ll : l < 131072
  blk : w.heap[b]? = some (.cells #[.int .u32 (j : Int), .int .u32 (l : Int), .int .i64 e] 51 (0, 0))

theorem RollAt.keep {w w' : World} {b : Nat} {j l : Nat} {e : Int} {L : List Nat} (h : RollAt w b j l e) (k : Keep L w w') (hb : b ∉ L) : RollAt w' b j l e := ⟨h.jl, h.ll, k.at_ h.blk hb⟩
theorem RollAt.drewN {w : World} {b : Nat} {j l : Nat} {e : Int} (h : RollAt w b j l e) (n : Nat) : RollAt (w.drewN n) b j l e := ⟨h.jl, h.ll, h.blk⟩
theorem RollAt.drew {w : World} {b : Nat} {j l : Nat} {e : Int} (h : RollAt w b j l e) : RollAt w.drew b j l e := ⟨h.jl, h.ll, h.blk⟩
theorem RollAt.lt {w : World} {b : Nat} {j l : Nat} {e : Int} (h : RollAt w b j l e) : b < w.heap.size := lt_of_block h.blk

theorem new_any (w : World) : Calls Tryd.prog 11 #[] w fun e w' => e = .returned (.pointer (some ⟨w.heap.size, 0, none⟩)) ∧ w' = w.alloc (.cells #[.int .u32 0, .int .u32 0, .int .i64 0] 51) := by
  go_enter Tryd.func11, Tryd.ntmps11
  go_wp2
  go_ret
  exact ⟨rfl, rfl⟩

set_option maxHeartbeats 400000 in
theorem has_any (b : Nat) (j l : Nat) (e n : Int) (w : World) (h : RollAt w b j l e) :
    Calls Tryd.prog 23 #[.pointer (some ⟨b, 0, none⟩), .int .i64 n] w fun e w' => e = .returned (.bool (hasB j l n)) ∧ ∃ k, w' = w.drewN k := by
  obtain ⟨hj, hl, hb⟩ := h
  have c0 : w.cell? ⟨b, 0, none⟩ = some (.int .u32 (j : Int)) := cell_of_block hb 0
  have c1 : w.cell? ⟨b, 1, none⟩ = some (.int .u32 (l : Int)) := cell_of_block hb 1
  clear hb
  cases hs : siteB n
  · have e : hasB j l n = false := by simp [hasB, hs]
    rw [e]
    have HS := Lib.hid hs; clear hs
    go_enter Tryd.func23, Tryd.ntmps23
    go_wp2
    go_quiet ((go_at_call 41; exact Calls.quiet_of_same ((site_any n _).mono (fun e w' ⟨h1, h2⟩ => ⟨by rw [h1, HS.out], h2.symm⟩))))
    go_wp2
    go_ret
    exact ⟨rfl, _, rfl⟩
  · have h1 : 1 ≤ n := (site_yes hs).1
    have h2 : n ≤ 16 := (site_yes hs).2
    have HS := Lib.hid hs; clear hs
    go_enter Tryd.func23, Tryd.ntmps23
    go_wp2
    go_quiet ((go_at_call 41; exact Calls.quiet_of_same ((site_any n _).mono (fun e w' ⟨h1, h2⟩ => ⟨by rw [h1, HS.out], h2.symm⟩))))
    go_wp2
    go_ret
    refine ⟨?_, _, rfl⟩
    show Ending.returned (Value.bool (bits BinOp.and IntKind.u32 (bits BinOp.andNot IntKind.u32 ↑j ↑l / 2 ^ n.toNat) 1 == 1)) = _
    rw [u32_andNot_nat _ _ (by omega) (by omega)]
    have e1 : ((j &&& (4294967295 - l) : Nat) : Int) / 2 ^ n.toNat = ((butNot j l / 2 ^ n.toNat : Nat) : Int) := by unfold butNot; simp
    have hlt := butNot_lt j l hj
    rw [e1, show (1 : Int) = ((1 : Nat) : Int) from rfl, u32_and_nat _ _ (Nat.lt_of_le_of_lt (Nat.div_le_self _ _) (by omega)) (by omega)]
    unfold hasB
    rw [HS.out, Bool.true_and, ← bit_test]; rfl

set_option maxHeartbeats 400000 in
theorem known_any (b : Nat) (j l : Nat) (e n : Int) (w : World) (h : RollAt w b j l e) :
    Calls Tryd.prog 25 #[.pointer (some ⟨b, 0, none⟩), .int .i64 n] w fun e w' => e = .returned (.bool (knownB j l n)) ∧ ∃ k, w' = w.drewN k := by
  obtain ⟨hj, hl, hb⟩ := h
  have c0 : w.cell? ⟨b, 0, none⟩ = some (.int .u32 (j : Int)) := cell_of_block hb 0
  have c1 : w.cell? ⟨b, 1, none⟩ = some (.int .u32 (l : Int)) := cell_of_block hb 1
  clear hb
  cases hs : siteB n
  · have e : knownB j l n = false := by simp [knownB, hs]
    rw [e]
    have HS := Lib.hid hs; clear hs
    go_enter Tryd.func25, Tryd.ntmps25
    go_wp2
    go_quiet ((go_at_call 41; exact Calls.quiet_of_same ((site_any n _).mono (fun e w' ⟨h1, h2⟩ => ⟨by rw [h1, HS.out], h2.symm⟩))))
    go_wp2
    go_ret
    exact ⟨rfl, _, rfl⟩
  · have h1 : 1 ≤ n := (site_yes hs).1
    have h2 : n ≤ 16 := (site_yes hs).2
    have HS := Lib.hid hs; clear hs
    go_enter Tryd.func25, Tryd.ntmps25
    go_wp2
    go_quiet ((go_at_call 41; exact Calls.quiet_of_same ((site_any n _).mono (fun e w' ⟨h1, h2⟩ => ⟨by rw [h1, HS.out], h2.symm⟩))))
    go_wp2
    go_ret
    refine ⟨?_, _, rfl⟩
    show Ending.returned (Value.bool (bits BinOp.and IntKind.u32 (bits BinOp.or IntKind.u32 ↑j ↑l / 2 ^ n.toNat) 1 == 1)) = _
    rw [u32_or_nat _ _ (by omega) (by omega)]
    have e1 : ((j ||| l : Nat) : Int) / 2 ^ n.toNat = (((j ||| l) / 2 ^ n.toNat : Nat) : Int) := by simp
    have hlt := or_lt17 j l hj hl
    rw [e1, show (1 : Int) = ((1 : Nat) : Int) from rfl, u32_and_nat _ _ (Nat.lt_of_le_of_lt (Nat.div_le_self _ _) (by omega)) (by omega)]
    unfold knownB
    rw [HS.out, Bool.true_and, ← bit_test]; rfl

theorem epoch_any (b : Nat) (j l : Nat) (e : Int) (w : World) (h : RollAt w b j l e) :
    Calls Tryd.prog 16 #[.pointer (some ⟨b, 0, none⟩)] w fun r w' => r = .returned (.int .i64 e) ∧ w = w' := by
  obtain ⟨hj, hl, hb⟩ := h
  have c0 : w.cell? ⟨b, 2, none⟩ = some (.int .i64 e) := cell_of_block hb 2
  clear hb
  go_enter Tryd.func16, Tryd.ntmps16
  go_wp2
  go_ret
  exact ⟨rfl, rfl⟩
end Go.Proofs.YtfhgeanacecpjaaDoor
