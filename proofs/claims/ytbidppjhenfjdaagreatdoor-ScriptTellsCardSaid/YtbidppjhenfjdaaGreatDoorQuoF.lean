/-
  Walks of the reference's digits, and of what it writes in braces.
-/
import Derived.Test.YtbidppjhenfjdaaGreatDoorQuoP
import Derived.Test.YtbidppjhenfjdaaGreatDoorGlyZ
import Derived.Test.YtbidppjhenfjdaaGreatDoorChecked
namespace Go.Proofs.YtbidppjhenfjdaaGreatDoor
open Go.RowKit
set_option linter.unusedVariables false
set_option linter.unusedSimpArgs false

/-- A hexadecimal digit's value; 16: it is none. -/
def hx (c : Nat) : Nat := if 48 ≤ c ∧ c ≤ 57 then c - 48 else if 97 ≤ c ∧ c ≤ 102 then c - 87 else 16
def hxi (c : Nat) : Int := if hx c < 16 then (hx c : Int) else -1
theorem hx_le (c : Nat) : hx c ≤ 16 := by unfold hx; (repeat' split) <;> omega
theorem hxi_lt {c : Nat} (h : hx c < 16) : hxi c = hx c := by unfold hxi; rw [if_pos h]
theorem hxi_no {c : Nat} (h : ¬ hx c < 16) : hxi c = -1 := by unfold hxi; rw [if_neg h]
theorem hx_hexd : ∀ {d : Nat}, d < 16 → hx (hexd d) = d := by
  intro d h
  unfold hx hexd
  (repeat' split) <;> omega

theorem digit_any (d : Nat) (w : World) (h : d < 16) : Calls Tryz.prog 91 #[.int .i64 (d : Nat)] w fun e w' => e = .returned (.int .u8 (hexd d : Nat)) ∧ w = w' := by
  by_cases h1 : d < 10
  · have HD := Lib.hid (show ((hexd d : Nat) : Int) = 48 + (d : Int) by unfold hexd; rw [if_pos h1]; omega)
    go_enter Tryz.func91, Tryz.ntmps91
    go_wp2
    go_ret
    rw [HD.out]
    exact ⟨rfl, rfl⟩
  · have HD := Lib.hid (show ((hexd d : Nat) : Int) = 97 + (d : Int) - 10 by unfold hexd; rw [if_neg h1]; omega)
    go_enter Tryz.func91, Tryz.ntmps91
    go_wp2
    go_ret
    rw [HD.out]
    exact ⟨rfl, rfl⟩

set_option maxHeartbeats 4000000 in
theorem value_any (c : Nat) (w : World) (h : c < 256) : Calls Tryz.prog 101 #[.int .u8 (c : Nat)] w fun e w' => e = .returned (.int .i64 (hxi c)) ∧ w = w' := by
  by_cases h1 : 48 ≤ c
  · by_cases h2 : c ≤ 57
    · have HD := Lib.hid (show hxi c = (c : Int) - 48 by rw [hxi_lt (by unfold hx; rw [if_pos ⟨h1, h2⟩]; omega)]; unfold hx; rw [if_pos ⟨h1, h2⟩]; omega)
      go_enter Tryz.func101, Tryz.ntmps101
      go_wp2
      go_ret
      rw [HD.out]
      exact ⟨rfl, rfl⟩
    · by_cases h3 : 97 ≤ c
      · by_cases h4 : c ≤ 102
        · have e : hx c = c - 87 := by unfold hx; rw [if_neg (by omega), if_pos ⟨h3, h4⟩]
          have HD := Lib.hid (show hxi c = (c : Int) - 97 + 10 by rw [hxi_lt (by omega), e]; omega)
          clear e
          go_enter Tryz.func101, Tryz.ntmps101
          go_wp2
          go_ret
          rw [HD.out]
          exact ⟨rfl, rfl⟩
        · have HD := Lib.hid (show hxi c = -1 by apply hxi_no; unfold hx; rw [if_neg (by omega), if_neg (by omega)]; omega)
          go_enter Tryz.func101, Tryz.ntmps101
          go_wp2
          go_ret
          rw [HD.out]
          exact ⟨rfl, rfl⟩
      · have HD := Lib.hid (show hxi c = -1 by apply hxi_no; unfold hx; rw [if_neg (by omega), if_neg (by omega)]; omega)
        go_enter Tryz.func101, Tryz.ntmps101
        go_wp2
        go_ret
        rw [HD.out]
        exact ⟨rfl, rfl⟩
  · have HD := Lib.hid (show hxi c = -1 by apply hxi_no; unfold hx; rw [if_neg (by omega), if_neg (by omega)]; omega)
    go_enter Tryz.func101, Tryz.ntmps101
    go_wp2
    go_ret
    rw [HD.out]
    exact ⟨rfl, rfl⟩

theorem conv_one (c : Nat) (w : World) (h : c < 256) : (convert 38 9 (.slice (some ⟨w.heap.size, 0, none⟩) 1 1)).run Tryz.prog (w.alloc (.cells #[.int .u8 (c : Nat)] 5)) = .ok (.string (one c)) (w.alloc (.cells #[.int .u8 (c : Nat)] 5)) := by
  refine conv_new w [(c : Int)] (one c) ?_ rfl
  show _ = [((UInt8.ofNat c).toNat : Int)]
  rw [u8_of c h]
theorem conv_two (a b : Nat) (w : World) (ha : a < 256) (hb : b < 256) : (convert 38 9 (.slice (some ⟨w.heap.size, 0, none⟩) 2 2)).run Tryz.prog (w.alloc (.cells #[.int .u8 (a : Nat), .int .u8 (b : Nat)] 5)) = .ok (.string (one a ++ one b)) (w.alloc (.cells #[.int .u8 (a : Nat), .int .u8 (b : Nat)] 5)) := by
  refine conv_new w [(a : Int), (b : Int)] (one a ++ one b) ?_ rfl
  show _ = [((UInt8.ofNat a).toNat : Int), ((UInt8.ofNat b).toNat : Int)]
  rw [u8_of a ha, u8_of b hb]

set_option maxHeartbeats 4000000 in
theorem two_any (c : Nat) (w : World) (h : c < 256) : Calls Tryz.prog 67 #[.int .u8 (c : Nat)] w fun e w' => e = .returned (.string (two c)) ∧ Keep [] w w' := by
  have HT := Lib.hid (show two c = (⟨#[92, 120]⟩ : ByteArray) ++ (one (hexd (c / 16)) ++ one (hexd (c % 16))) by rw [← ByteArray.append_assoc]; rfl)
  have hcv := conv_two (hexd (c / 16)) (hexd (c % 16)) w (by have := hexd_lt (show c / 16 < 16 by omega); omega) (by have := hexd_lt (show c % 16 < 16 by omega); omega)
  have H1 := Lib.hid (digit_any (c / 16) w (by omega))
  have H2 := Lib.hid (digit_any (c % 16) w (by omega))
  have hadd : ∀ W, (Op.stringOp .add (⟨#[92, 120]⟩ : ByteArray) (one (hexd (c / 16)) ++ one (hexd (c % 16)))).run Tryz.prog W = .ok (.string ((⟨#[92, 120]⟩ : ByteArray) ++ (one (hexd (c / 16)) ++ one (hexd (c % 16))))) W := fun W => Go.run_string_add_sum W _ _ (by rw [ByteArray.size_append, one_size, one_size]; exact (by decide : (2 + (1 + 1) : Nat) ≤ 9223372036854775807))
  have hq : ((c : Nat) : Int) / 16 = ((c / 16 : Nat) : Int) := rfl
  have hr : ((c : Nat) : Int) % 16 = ((c % 16 : Nat) : Int) := rfl
  generalize c / 16 = p at *
  generalize c % 16 = q at *
  generalize hexd p = x at *
  generalize hexd q = y at *
  go_enter Tryz.func67, Tryz.ntmps67
  go_wp2_with fail
  refine H1.out.mono ?_
  rintro e w1 ⟨rfl, rfl⟩
  go_wp2_with fail
  refine H2.out.mono ?_
  rintro e w1 ⟨rfl, rfl⟩
  go_wp2
  go_ret
  rw [HT.out]
  exact ⟨rfl, (Keep.refl _ _).alloc _⟩

set_option maxHeartbeats 4000000 in
theorem braces_any (r : Nat) (w : World) (h0 : 0 < r) (h1 : r < 16777216) : Calls Tryz.prog 69 #[.int .i32 (r : Nat)] w fun e w' => e = .returned (.string (braces r)) ∧ Keep [] w w' := by
  have hz := hexs_size 6 r (by omega) (by decide)
  have HZ := Lib.hid hz; clear hz
  go_enter Tryz.func69, Tryz.ntmps69
  go_wp2
  go_loopw [3, 4] (fun v n wr => ∃ (m : Nat) (x : ByteArray), v = .string x ∧ n = .int .i64 (m : Nat) ∧ m < 16777216 ∧ (m = 0 → x = hexs r) ∧ (0 < m → hexs m ++ x = hexs r) ∧ Keep [] w wr) (fun _ n _ => (intOf n).toNat)
  case atStart => exact ⟨r, ByteArray.empty, rfl, rfl, h1, fun h => by omega, fun _ => by simp, Keep.refl _ _⟩
  case round =>
    obtain ⟨m, x, rfl, rfl, hm, he, hs, hk⟩ := hrel
    have HE := Lib.hid he; have HS := Lib.hid hs; have HK := Lib.hid hk; clear he hs hk
    by_cases hp : 0 < m
    · have hsz : (hexs m).size + x.size = (hexs r).size := by rw [← ByteArray.size_append, HS.out hp]
      have HX := Lib.hid (show x.size ≤ 6 by have := HZ.out; omega); clear hsz
      have hcv := fun wr => conv_one (hexd (m % 16)) wr (by have := hexd_lt (show m % 16 < 16 by omega); omega)
      have H1 := Lib.hid (digit_any (m % 16) wr (by omega))
      have hadd : ∀ W, (Op.stringOp .add (one (hexd (m % 16))) x).run Tryz.prog W = .ok (.string (one (hexd (m % 16)) ++ x)) W := fun W => Go.run_string_add_sum W _ _ (by have := HX.out; rw [one_size]; omega)
      have hq : ((m : Nat) : Int) / 16 = ((m / 16 : Nat) : Int) := rfl
      have hr : ((m : Nat) : Int) % 16 = ((m % 16 : Nat) : Int) := rfl
      have HN := Lib.hid (show (m / 16 = 0 → one (hexd (m % 16)) ++ x = hexs r) ∧ (0 < m / 16 → hexs (m / 16) ++ (one (hexd (m % 16)) ++ x) = hexs r) ∧ m / 16 < m by
        refine ⟨fun h => ?_, fun h => ?_, by omega⟩
        · rw [← HS.out hp, hexs_small (n := m) (by omega), Nat.mod_eq_of_lt (by omega)]
        · rw [← ByteArray.append_assoc, ← hexs_big (n := m) (by omega), HS.out hp])
      generalize m / 16 = q at *
      generalize hexd (m % 16) = y at *
      generalize m % 16 = z at *
      go_wp2_with fail
      refine H1.out.mono ?_
      rintro e w1 ⟨rfl, rfl⟩
      go_wp2
      go_roundw
      case rel => exact ⟨q, _, rfl, rfl, by have := HN.out.2.2; omega, HN.out.1, HN.out.2.1, HK.out.alloc _⟩
      case measure => have := HN.out.2.2; simp [intOf]; omega
    · obtain rfl : m = 0 := by omega
      obtain rfl := HE.out rfl
      have HB := Lib.hid (show braces r = (⟨#[92, 117, 123]⟩ ++ hexs r) ++ ⟨#[125]⟩ from rfl)
      generalize hexs r = x at *
      have hc1 : ∀ W, (Op.stringOp .add (⟨#[92, 117, 123]⟩ : ByteArray) x).run Tryz.prog W = .ok (.string ((⟨#[92, 117, 123]⟩ : ByteArray) ++ x)) W := fun W => Go.run_string_add_sum W _ _ (by have := HZ.out; show 3 + x.size ≤ _; omega)
      have hc2 : ∀ W, (Op.stringOp .add ((⟨#[92, 117, 123]⟩ : ByteArray) ++ x) (⟨#[125]⟩ : ByteArray)).run Tryz.prog W = .ok (.string (((⟨#[92, 117, 123]⟩ : ByteArray) ++ x) ++ (⟨#[125]⟩ : ByteArray))) W := fun W => Go.run_string_add_sum W _ _ (by have := HZ.out; rw [ByteArray.size_append]; show 3 + x.size + 1 ≤ _; omega)
      go_wp2
      go_ret
      rw [HB.out]
      exact ⟨rfl, HK.out⟩
end Go.Proofs.YtbidppjhenfjdaaGreatDoor
