/-
  Walks of math/bits: TrailingZeros32 at a word that is not 0, OnesCount32 at a word of 17 bits.
-/
import Derived.Test.YtfhgeanacecpjaaDoorRollA
import Derived.Lib.TrailingZeros
namespace Go.Proofs.YtfhgeanacecpjaaDoor
open Go.RowKit
set_option linter.unusedVariables false

/-- The table of math/bits in its variable. -/
def TabW (w : World) : Prop := ∀ j, j < Lib.deBruijn32tab.length → w.cell? ⟨0, j, none⟩ = some (.int .u8 (Lib.deBruijn32tab.getD j 0))
theorem TabW.keep {w w' : World} {L : List Nat} (h : TabW w) (k : Keep L w w') (hb : 0 ∉ L) : TabW w' := fun j hj => k.cellv (h j hj) hb
theorem TabW.drewN {w : World} (h : TabW w) (n : Nat) : TabW (w.drewN n) := h

set_option maxHeartbeats 1000000 in
theorem tz32_core (x k idx : Nat) (w : World) (hx0 : ((x : Int) == 0) = false)
    (key : bits BinOp.and IntKind.u32 (x : Int) (-(x : Int) % 4294967296) * 125613361 % 4294967296 / 134217728 = (idx : Int))
    (hi : idx < 32) (hk : k < 32) (hcell : w.cell? ⟨0, idx, none⟩ = some (.int .u8 k)) :
    Calls Tryd.prog 48 #[.int .u32 x] w fun e w' => e = .returned (.int .i64 k) ∧ w = w' := by
  go_enter Tryd.func48, Tryd.ntmps48
  go_wp2_with (simp only [key])
  go_ret
  exact ⟨rfl, rfl⟩

theorem tz32_key (x a : Nat) (hx : x < 4294967296) (hx0 : x ≠ 0) (hlow : x &&& (4294967296 - x) = a) :
    bits BinOp.and IntKind.u32 (x : Int) (-(x : Int) % 4294967296) * 125613361 % 4294967296 / 134217728 = ((a * 125613361 % 4294967296 / 134217728 : Nat) : Int) := by
  have e1 : -(x : Int) % 4294967296 = ((4294967296 - x : Nat) : Int) := by omega
  rw [e1, u32_and_nat x _ hx (by omega), hlow]
  omega
theorem tz32_any (x : Nat) (hx : x < 131072) (hx0 : x ≠ 0) (w : World) (hT : TabW w) :
    Calls Tryd.prog 48 #[.int .u32 x] w fun e w' => e = .returned (.int .i64 (Lib.ctz 32 x)) ∧ w = w' := by
  obtain ⟨hlow, hk⟩ := Lib.lowest_bit 32 x hx0 (by omega)
  obtain ⟨hi, htab⟩ := Lib.deBruijn32_at _ hk
  have hcell := hT _ hi
  rw [htab] at hcell
  exact tz32_core x _ _ w (by simp; omega) (tz32_key x _ (by omega) hx0 hlow) hi hk hcell

set_option maxRecDepth 100000 in
set_option maxHeartbeats 1000000 in
theorem ones_core (x a b c : Nat) (hx : x < 131072) (ha : a < 256) (hb : b < 256) (hc : c < 256) (w : World) (h24 : (x : Int) / 16777216 = 0)
    (h16 : bits .and .u32 ((x : Int) / 65536) 255 = (a : Int)) (h8 : bits .and .u32 ((x : Int) / 256) 255 = (b : Int)) (h0 : bits .and .u32 (x : Int) 255 = (c : Int)) :
    Calls Tryd.prog 33 #[.int .u32 x] w fun e w' => e = .returned (.int .i64 ((pop8 a + pop8 b + pop8 c : Nat) : Int)) ∧ ∃ k, w' = w.drewN k := by
  go_enter Tryd.func33, Tryd.ntmps33
  go_wp2
  generalize hS : ({ data := _ } : ByteArray) = S
  have hsz : S.size = 256 := by rw [← hS]; rfl
  have hall : ∀ i : Fin 256, (S.data.toList.getD i.val 0).toNat = pop8 i.val := by rw [← hS]; decide +kernel
  have hget : ∀ i (h : i < S.size), S[i].toNat = pop8 i := fun i h => by
    have := hall ⟨i, by omega⟩
    rw [← this]
    have : S[i] = S.data[i]'h := rfl
    rw [this, List.getD_eq_getElem?_getD, Array.getElem?_toList, Array.getElem?_eq_getElem h]
    rfl
  have l0 : 0 < S.size := by omega
  have la : a < S.size := by omega
  have lb : b < S.size := by omega
  have lc : c < S.size := by omega
  have HG := Lib.hid hget; clear hget hall
  have HS := Lib.hid hS; clear hS
  have HZ := Lib.hid hsz; clear hsz
  go_quiet (fail)
  go_wp2
  go_ret
  refine ⟨?_, _, rfl⟩
  show Ending.returned (Value.int IntKind.i64 (((S[0].toNat : Int) + (S[a].toNat : Int) + (S[b].toNat : Int) + (S[c].toNat : Int)) % 256)) = _
  rw [HG.out, HG.out, HG.out, HG.out]
  have z : pop8 0 = 0 := by decide
  have bd := pop8_le
  have := bd a; have := bd b; have := bd c
  rw [z]
  congr 2
  omega

theorem ones_any (x : Nat) (hx : x < 131072) (w : World) :
    Calls Tryd.prog 33 #[.int .u32 x] w fun e w' => e = .returned (.int .i64 (popC x : Int)) ∧ ∃ k, w' = w.drewN k := by
  rw [popC_split x (x / 65536 % 256) (x / 256 % 256) (x % 256) hx rfl rfl rfl]
  refine ones_core x _ _ _ hx (by omega) (by omega) (by omega) w (by omega) ?_ ?_ ?_
  · rw [show (x : Int) / 65536 = ((x / 65536 : Nat) : Int) by omega, show (255 : Int) = ((255 : Nat) : Int) from rfl, u32_and_nat _ _ (by omega) (by omega), nat_mask8]
  · rw [show (x : Int) / 256 = ((x / 256 : Nat) : Int) by omega, show (255 : Int) = ((255 : Nat) : Int) from rfl, u32_and_nat _ _ (by omega) (by omega), nat_mask8]
  · rw [show (255 : Int) = ((255 : Nat) : Int) from rfl, u32_and_nat _ _ (by omega) (by omega), nat_mask8]
end Go.Proofs.YtfhgeanacecpjaaDoor
