/-
  Walks of the reference's digits, and of what it writes in braces.
-/
import Derived.Test.YtbidppjhenfjdaaDoorQuoP
import Derived.Test.YtbidppjhenfjdaaDoorGlyZ
import Derived.Test.YtbidppjhenfjdaaDoorChecked
namespace Go.Proofs.YtbidppjhenfjdaaDoor
open Go.RowKit
set_option linter.unusedVariables false
set_option linter.unusedSimpArgs false

/-- A hexadecimal digit's value; 16: it is none. -/
def hx (c : Nat) : Nat := if 48 ≤ c ∧ c ≤ 57 then c - 48 else if 97 ≤ c ∧ c ≤ 102 then c - 87 else 16
def hxi (c : Nat) : Int := if hx c < 16 then (hx c : Int) else -1
theorem hx_le (c : Nat) : hx c ≤ 16 := by unfold hx; (repeat' split) <;> omega
theorem hxi_lt {c : Nat} (h : hx c < 16) : hxi c = hx c := by unfold hxi; rw [if_pos h]
theorem hxi_no {c : Nat} (h : ¬ hx c < 16) : hxi c = -1 := by unfold hxi; rw [if_neg h]
theorem hx_hexd : ∀ {d : Nat}, d < 16 → hx (hexd d) = d := by
  intro d h
  unfold hx hexd
  (repeat' split) <;> omega

theorem conv_one (c : Nat) (w : World) (h : c < 256) : (convert 29 9 (.slice (some ⟨w.heap.size, 0, none⟩) 1 1)).run Tryd.prog (w.alloc (.cells #[.int .u8 (c : Nat)] 5)) = .ok (.string (one c)) (w.alloc (.cells #[.int .u8 (c : Nat)] 5)) := by
  refine conv_new w [(c : Int)] (one c) ?_ rfl
  show _ = [((UInt8.ofNat c).toNat : Int)]
  rw [u8_of c h]
theorem conv_two (a b : Nat) (w : World) (ha : a < 256) (hb : b < 256) : (convert 29 9 (.slice (some ⟨w.heap.size, 0, none⟩) 2 2)).run Tryd.prog (w.alloc (.cells #[.int .u8 (a : Nat), .int .u8 (b : Nat)] 5)) = .ok (.string (one a ++ one b)) (w.alloc (.cells #[.int .u8 (a : Nat), .int .u8 (b : Nat)] 5)) := by
  refine conv_new w [(a : Int), (b : Int)] (one a ++ one b) ?_ rfl
  show _ = [((UInt8.ofNat a).toNat : Int), ((UInt8.ofNat b).toNat : Int)]
  rw [u8_of a ha, u8_of b hb]

end Go.Proofs.YtbidppjhenfjdaaDoor
