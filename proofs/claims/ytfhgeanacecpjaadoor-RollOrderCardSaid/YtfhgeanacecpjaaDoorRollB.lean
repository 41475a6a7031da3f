/-
  Walks of package roll: turn, Join, Leave.
-/
import Derived.Test.YtfhgeanacecpjaaDoorRollA
import Derived.BigRegion
namespace Go.Proofs.YtfhgeanacecpjaaDoor
open Go.RowKit
set_option linter.unusedVariables false

theorem bit_or (j : Nat) (n : Int) (hj : j < 131072) (hs : siteB n = true) : bits .or .u32 (j : Int) (2 ^ n.toNat % 4294967296) = ((withBit j n : Nat) : Int) := by
  have hp := pow_lt17 hs
  have e : ((2 : Int) ^ n.toNat % 4294967296) = ((2 ^ n.toNat : Nat) : Int) := by
    have : ((2 : Int) ^ n.toNat) = ((2 ^ n.toNat : Nat) : Int) := by simp
    rw [this]
    generalize (2 : Nat) ^ n.toNat = x at hp ⊢
    omega
  rw [e, u32_or_nat _ _ (by omega) (by omega)]
  simp [withBit, hs]

theorem RollAt.setJ {w : World} {b : Nat} {j l : Nat} {e : Int} (h : RollAt w b j l e) (x : Nat) (hx : x < 131072) : RollAt (w.setCell ⟨b, 0, none⟩ (.int .u32 (x : Int))) b x l e :=
  ⟨hx, h.ll, block_setCell h.blk 0 _⟩
theorem RollAt.setL {w : World} {b : Nat} {j l : Nat} {e : Int} (h : RollAt w b j l e) (x : Nat) (hx : x < 131072) : RollAt (w.setCell ⟨b, 1, none⟩ (.int .u32 (x : Int))) b j x e :=
  ⟨h.jl, hx, block_setCell h.blk 1 _⟩
theorem RollAt.setE {w : World} {b : Nat} {j l : Nat} {e : Int} (h : RollAt w b j l e) (x : Int) : RollAt (w.setCell ⟨b, 2, none⟩ (.int .i64 x)) b j l x :=
  ⟨h.jl, h.ll, block_setCell h.blk 2 _⟩

/-- What Join and Leave end in. -/
def TurnPost (b : Nat) (r : Bool) (j l : Nat) (e : Int) (w : World) (x : Ending) (w' : World) : Prop :=
  x = .returned (.bool r) ∧ RollAt w' b j l (if r = true then e + 1 else e) ∧ Keep [b] w w'

set_option maxHeartbeats 1000000 in
theorem turn_join (b : Nat) (j l : Nat) (e n : Int) (w : World) (h : RollAt w b j l e) (he0 : 0 ≤ e) (he1 : e ≤ 4611686018427387904) :
    Calls Tryd.prog 44 #[.pointer (some ⟨b, 0, none⟩), .pointer (some ⟨b, 0, none⟩), .int .i64 n] w (TurnPost b (joinR j l n) (withBit j n) l e w) := by
  cases hs : siteB n
  · have hr : joinR j l n = false := by simp [joinR, withBit, hs]
    have hw : withBit j n = j := by simp [withBit, hs]
    rw [hr, hw]
    have HS := Lib.hid hs; clear hs
    go_enter Tryd.func44, Tryd.ntmps44
    go_wp2_with fail
    refine (site_any n _).mono ?_
    rintro r w1 ⟨rfl, rfl⟩
    rw [HS.out]
    go_wp2
    go_ret
    exact ⟨rfl, h, Keep.refl _ _⟩
  · have h1 : 1 ≤ n := (site_yes hs).1
    have h2 : n ≤ 16 := (site_yes hs).2
    have HB := Lib.hid (bit_or j n h.jl hs)
    have HS := Lib.hid hs; clear hs
    go_enter Tryd.func44, Tryd.ntmps44
    go_wp2_with fail
    refine (site_any n _).mono ?_
    rintro r w1 ⟨rfl, rfl⟩
    rw [HS.out]
    go_wp2_with fail
    refine (has_any b j l e n _ h).mono ?_
    rintro r w1 ⟨rfl, k1, hw1⟩
    have hR1 : RollAt w1 b j l e := by rw [hw1]; exact h.drewN _
    have hK1 : Keep [b] w w1 := by rw [hw1]; exact (Keep.refl _ _).drewN _
    clear hw1
    have c0 : w1.cell? ⟨b, 0, none⟩ = some (.int .u32 (j : Int)) := cell_of_block hR1.blk 0
    have f0 : w1.frozen? ⟨b, 0, none⟩ = false := free_of_block hR1.blk 0
    go_wp2
    go_region
    clear c0 f0
    rw [HB.out]
    have hR2 := (hR1.setJ (withBit j n) (withBit_lt _ _ h.jl)).drew
    have hK2 := (hK1.setCell (p := ⟨b, 0, none⟩) (by simp) (.int .u32 (withBit j n : Int))).drew
    generalize (w1.setCell ⟨b, 0, none⟩ (.int .u32 (withBit j n : Int))).drew = w2 at *
    go_wp2_with fail
    refine (has_any b (withBit j n) l e n _ hR2).mono ?_
    rintro r w3 ⟨rfl, k3, hw3⟩
    have hR3 : RollAt w3 b (withBit j n) l e := by rw [hw3]; exact hR2.drewN _
    have hK3 : Keep [b] w w3 := by rw [hw3]; exact hK2.drewN _
    clear hw3 hR2 hK2 hR1 hK1
    have c2 : w3.cell? ⟨b, 2, none⟩ = some (.int .i64 e) := cell_of_block hR3.blk 2
    have f2 : w3.frozen? ⟨b, 2, none⟩ = false := free_of_block hR3.blk 2
    cases hr : joinR j l n
    · have hd : (hasB (withBit j n) l n == hasB j l n) = true := by simpa [joinR] using hr
      have HR := Lib.hid hr; clear hr
      go_wp2
      go_ret
      exact ⟨by rw [HR.out]; rfl, by rw [HR.out]; exact hR3, hK3⟩
    · have hd : (hasB (withBit j n) l n == hasB j l n) = false := by simpa [joinR] using hr
      have HR := Lib.hid hr; clear hr
      go_wp2
      go_ret
      exact ⟨by rw [HR.out]; rfl, by rw [HR.out]; exact hR3.setE _, hK3.setCell (by simp) _⟩

set_option maxHeartbeats 1000000 in
theorem turn_leave (b : Nat) (j l : Nat) (e n : Int) (w : World) (h : RollAt w b j l e) (he0 : 0 ≤ e) (he1 : e ≤ 4611686018427387904) :
    Calls Tryd.prog 44 #[.pointer (some ⟨b, 0, none⟩), .pointer (some ⟨b, 1, none⟩), .int .i64 n] w (TurnPost b (leaveR j l n) j (withBit l n) e w) := by
  cases hs : siteB n
  · have hr : leaveR j l n = false := by simp [leaveR, withBit, hs]
    have hw : withBit l n = l := by simp [withBit, hs]
    rw [hr, hw]
    have HS := Lib.hid hs; clear hs
    go_enter Tryd.func44, Tryd.ntmps44
    go_wp2_with fail
    refine (site_any n _).mono ?_
    rintro r w1 ⟨rfl, rfl⟩
    rw [HS.out]
    go_wp2
    go_ret
    exact ⟨rfl, h, Keep.refl _ _⟩
  · have h1 : 1 ≤ n := (site_yes hs).1
    have h2 : n ≤ 16 := (site_yes hs).2
    have HB := Lib.hid (bit_or l n h.ll hs)
    have HS := Lib.hid hs; clear hs
    go_enter Tryd.func44, Tryd.ntmps44
    go_wp2_with fail
    refine (site_any n _).mono ?_
    rintro r w1 ⟨rfl, rfl⟩
    rw [HS.out]
    go_wp2_with fail
    refine (has_any b j l e n _ h).mono ?_
    rintro r w1 ⟨rfl, k1, hw1⟩
    have hR1 : RollAt w1 b j l e := by rw [hw1]; exact h.drewN _
    have hK1 : Keep [b] w w1 := by rw [hw1]; exact (Keep.refl _ _).drewN _
    clear hw1
    have c0 : w1.cell? ⟨b, 1, none⟩ = some (.int .u32 (l : Int)) := cell_of_block hR1.blk 1
    have f0 : w1.frozen? ⟨b, 1, none⟩ = false := free_of_block hR1.blk 1
    go_wp2
    go_region
    clear c0 f0
    rw [HB.out]
    have hR2 := (hR1.setL (withBit l n) (withBit_lt _ _ h.ll)).drew
    have hK2 := (hK1.setCell (p := ⟨b, 1, none⟩) (by simp) (.int .u32 (withBit l n : Int))).drew
    generalize (w1.setCell ⟨b, 1, none⟩ (.int .u32 (withBit l n : Int))).drew = w2 at *
    go_wp2_with fail
    refine (has_any b j (withBit l n) e n _ hR2).mono ?_
    rintro r w3 ⟨rfl, k3, hw3⟩
    have hR3 : RollAt w3 b j (withBit l n) e := by rw [hw3]; exact hR2.drewN _
    have hK3 : Keep [b] w w3 := by rw [hw3]; exact hK2.drewN _
    clear hw3 hR2 hK2 hR1 hK1
    have c2 : w3.cell? ⟨b, 2, none⟩ = some (.int .i64 e) := cell_of_block hR3.blk 2
    have f2 : w3.frozen? ⟨b, 2, none⟩ = false := free_of_block hR3.blk 2
    cases hr : leaveR j l n
    · have hd : (hasB j (withBit l n) n == hasB j l n) = true := by simpa [leaveR] using hr
      have HR := Lib.hid hr; clear hr
      go_wp2
      go_ret
      exact ⟨by rw [HR.out]; rfl, by rw [HR.out]; exact hR3, hK3⟩
    · have hd : (hasB j (withBit l n) n == hasB j l n) = false := by simpa [leaveR] using hr
      have HR := Lib.hid hr; clear hr
      go_wp2
      go_ret
      exact ⟨by rw [HR.out]; rfl, by rw [HR.out]; exact hR3.setE _, hK3.setCell (by simp) _⟩

theorem join_any (b : Nat) (j l : Nat) (e n : Int) (w : World) (h : RollAt w b j l e) (he0 : 0 ≤ e) (he1 : e ≤ 4611686018427387904) :
    Calls Tryd.prog 28 #[.pointer (some ⟨b, 0, none⟩), .int .i64 n] w (TurnPost b (joinR j l n) (withBit j n) l e w) := by
  go_enter Tryd.func28, Tryd.ntmps28
  go_wp2_with fail
  refine (turn_join b j l e n _ h he0 he1).mono ?_
  rintro r w1 ⟨rfl, h1, h2⟩
  go_wp2
  go_ret
  exact ⟨rfl, h1, h2⟩

theorem leave_any (b : Nat) (j l : Nat) (e n : Int) (w : World) (h : RollAt w b j l e) (he0 : 0 ≤ e) (he1 : e ≤ 4611686018427387904) :
    Calls Tryd.prog 29 #[.pointer (some ⟨b, 0, none⟩), .int .i64 n] w (TurnPost b (leaveR j l n) j (withBit l n) e w) := by
  go_enter Tryd.func29, Tryd.ntmps29
  go_wp2_with fail
  refine (turn_leave b j l e n _ h he0 he1).mono ?_
  rintro r w1 ⟨rfl, h1, h2⟩
  go_wp2
  go_ret
  exact ⟨rfl, h1, h2⟩
end Go.Proofs.YtfhgeanacecpjaaDoor
