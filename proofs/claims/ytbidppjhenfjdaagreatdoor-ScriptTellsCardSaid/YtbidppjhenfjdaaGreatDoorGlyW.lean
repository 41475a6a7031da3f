/-
  Walks of the reference's IsRune, Encode.
-/
import Derived.Test.YtbidppjhenfjdaaGreatDoorGlyV
import Derived.Test.YtbidppjhenfjdaaGreatDoorKeep
import Derived.Test.YtbidppjhenfjdaaGreatDoorChecked
import Derived.Shelf.Abstract
namespace Go.Proofs.YtbidppjhenfjdaaGreatDoor
open Go.RowKit
set_option linter.unusedVariables false
set_option linter.unusedSimpArgs false

theorem valid_t {n : Int} (h : (0 ≤ n ∧ n < 55296) ∨ (57344 ≤ n ∧ n ≤ 1114111)) : Utf8.valid n = true := by simp only [Utf8.valid, Bool.or_eq_true, Bool.and_eq_true, decide_eq_true_eq]; omega
theorem valid_f {n : Int} (h : ¬ ((0 ≤ n ∧ n < 55296) ∨ (57344 ≤ n ∧ n ≤ 1114111))) : Utf8.valid n = false := by
  cases hv : Utf8.valid n
  · rfl
  · simp only [Utf8.valid, Bool.or_eq_true, Bool.and_eq_true, decide_eq_true_eq] at hv; omega

set_option maxHeartbeats 4000000 in
theorem isrune_any (n : Int) (w : World) : Calls Tryz.prog 102 #[.int .i32 n] w fun e w' => e = .returned (.bool (Utf8.valid n)) ∧ w = w' := by
  by_cases h1 : 0 ≤ n
  · by_cases h2 : n ≤ 1114111
    · by_cases h3 : n < 55296
      · rw [valid_t (by omega)]
        go_enter Tryz.func102, Tryz.ntmps102
        go_wp2
        go_ret
        exact ⟨rfl, rfl⟩
      · by_cases h4 : 57343 < n
        · rw [valid_t (by omega)]
          go_enter Tryz.func102, Tryz.ntmps102
          go_wp2
          go_ret
          exact ⟨rfl, rfl⟩
        · rw [valid_f (by omega)]
          go_enter Tryz.func102, Tryz.ntmps102
          go_wp2
          go_ret
          exact ⟨rfl, rfl⟩
    · rw [valid_f (by omega)]
      go_enter Tryz.func102, Tryz.ntmps102
      go_wp2
      go_ret
      exact ⟨rfl, rfl⟩
  · rw [valid_f (by omega)]
    go_enter Tryz.func102, Tryz.ntmps102
    go_wp2
    go_ret
    exact ⟨rfl, rfl⟩

theorem addr0_add (b j : Nat) : (⟨b, 0, none⟩ : Addr).add j = ⟨b, j, none⟩ := by
  simp only [Addr.add]
  split <;> simp_all
/-- A text made of new bytes. -/
theorem conv_new (w : World) (zs : List Int) (s : ByteArray) (h : zs = s.data.toList.map fun b => (b.toNat : Int)) (hz : zs.length = s.size) :
    (convert 38 9 (.slice (some ⟨w.heap.size, 0, none⟩) zs.length zs.length)).run Tryz.prog (w.alloc (.cells (zs.map (Value.int .u8)).toArray 5)) = .ok (.string s) (w.alloc (.cells (zs.map (Value.int .u8)).toArray 5)) := by
  have hl : zs.length = s.data.toList.length := by rw [h]; simp
  have := run_convert_bytes_back (P := Tryz.prog) (w.alloc (.cells (zs.map (Value.int .u8)).toArray 5)) 38 9 5 ⟨w.heap.size, 0, none⟩ zs.length s.data.toList
    Tryz.underlying38 Tryz.underlying5 Tryz.underlying9 (fun j hj => by
      have hb := heap_alloc_new w (.cells (zs.map (Value.int .u8)).toArray 5)
      rw [addr0_add, cell_of_block hb]
      simp [h, List.getElem?_eq_getElem hj])
  rw [← hl] at this
  exact this
theorem u8z (n : Int) (h0 : 0 ≤ n) (h1 : n < 256) : ((UInt8.ofNat n.toNat).toNat : Int) = n := by rw [u8_of _ (by omega)]; omega

theorem conv_enc_1 (n : Int) (w : World) (h0 : 0 ≤ n) (h1 : n < 128) : (convert 38 9 (.slice (some ⟨w.heap.size, 0, none⟩) 1 1)).run Tryz.prog (w.alloc (.cells #[.int .u8 (n)] 5)) = .ok (.string (Utf8.encode n)) (w.alloc (.cells #[.int .u8 (n)] 5)) := by
  obtain ⟨c, rfl⟩ := Int.eq_ofNat_of_zero_le (show 0 ≤ n by omega)
  have he : Utf8.encode ((c : Nat) : Int) = _ := enc_1 (by omega)
  refine conv_new w [(c : Int)] (Utf8.encode c) ?_ (by rw [he]; rfl)
  rw [he]
  show _ = [((UInt8.ofNat (c)).toNat : Int)]
  rw [u8_of (c) (by omega)]

set_option maxRecDepth 100000 in
set_option maxHeartbeats 4000000 in
theorem rencode_1 (n : Int) (w : World) (h0 : 0 ≤ n) (h1 : n < 128) : Calls Tryz.prog 103 #[.int .i32 n] w fun e w' => e = .returned (.string (Utf8.encode n)) ∧ Keep [] w w' := by
  have HV := Lib.hid (valid_t (n := n) (by omega))
  have hc := conv_enc_1 n w h0 h1
  go_enter Tryz.func103, Tryz.ntmps103
  go_wp2_with fail
  refine (isrune_any _ _).mono ?_
  rintro r w1 ⟨rfl, rfl⟩
  rw [HV.out]
  go_wp2
  go_ret
  exact ⟨rfl, (Keep.refl _ _).alloc _⟩

theorem conv_enc_2 (n : Int) (w : World) (h0 : 128 ≤ n) (h1 : n < 2048) : (convert 38 9 (.slice (some ⟨w.heap.size, 0, none⟩) 2 2)).run Tryz.prog (w.alloc (.cells #[.int .u8 (192 + n / 64), .int .u8 (128 + n % 64)] 5)) = .ok (.string (Utf8.encode n)) (w.alloc (.cells #[.int .u8 (192 + n / 64), .int .u8 (128 + n % 64)] 5)) := by
  obtain ⟨c, rfl⟩ := Int.eq_ofNat_of_zero_le (show 0 ≤ n by omega)
  have he : Utf8.encode ((c : Nat) : Int) = _ := enc_2 (by omega) (by omega)
  refine conv_new w [192 + (c : Int) / 64, 128 + (c : Int) % 64] (Utf8.encode c) ?_ (by rw [he]; rfl)
  rw [he]
  show _ = [((UInt8.ofNat (192 + c / 64)).toNat : Int), ((UInt8.ofNat (128 + c % 64)).toNat : Int)]
  rw [u8_of (192 + c / 64) (by omega), u8_of (128 + c % 64) (by omega)]
  first | rfl | simp

set_option maxRecDepth 100000 in
set_option maxHeartbeats 4000000 in
theorem rencode_2 (n : Int) (w : World) (h0 : 128 ≤ n) (h1 : n < 2048) : Calls Tryz.prog 103 #[.int .i32 n] w fun e w' => e = .returned (.string (Utf8.encode n)) ∧ Keep [] w w' := by
  have HV := Lib.hid (valid_t (n := n) (by omega))
  have hc := conv_enc_2 n w h0 h1
  go_enter Tryz.func103, Tryz.ntmps103
  go_wp2_with fail
  refine (isrune_any _ _).mono ?_
  rintro r w1 ⟨rfl, rfl⟩
  rw [HV.out]
  go_wp2
  go_ret
  exact ⟨rfl, (Keep.refl _ _).alloc _⟩

theorem conv_enc_3 (n : Int) (w : World) (h0 : 2048 ≤ n) (h1 : n < 65536) (h2 : n < 55296 ∨ 57344 ≤ n) : (convert 38 9 (.slice (some ⟨w.heap.size, 0, none⟩) 3 3)).run Tryz.prog (w.alloc (.cells #[.int .u8 (224 + n / 4096), .int .u8 (128 + n / 64 % 64), .int .u8 (128 + n % 64)] 5)) = .ok (.string (Utf8.encode n)) (w.alloc (.cells #[.int .u8 (224 + n / 4096), .int .u8 (128 + n / 64 % 64), .int .u8 (128 + n % 64)] 5)) := by
  obtain ⟨c, rfl⟩ := Int.eq_ofNat_of_zero_le (show 0 ≤ n by omega)
  have he : Utf8.encode ((c : Nat) : Int) = _ := enc_3 (by omega) (by omega) (by omega)
  refine conv_new w [224 + (c : Int) / 4096, 128 + (c : Int) / 64 % 64, 128 + (c : Int) % 64] (Utf8.encode c) ?_ (by rw [he]; rfl)
  rw [he]
  show _ = [((UInt8.ofNat (224 + c / 4096)).toNat : Int), ((UInt8.ofNat (128 + c / 64 % 64)).toNat : Int), ((UInt8.ofNat (128 + c % 64)).toNat : Int)]
  rw [u8_of (224 + c / 4096) (by omega), u8_of (128 + c / 64 % 64) (by omega), u8_of (128 + c % 64) (by omega)]
  first | rfl | simp

set_option maxRecDepth 100000 in
set_option maxHeartbeats 4000000 in
theorem rencode_3 (n : Int) (w : World) (h0 : 2048 ≤ n) (h1 : n < 65536) (h2 : n < 55296 ∨ 57344 ≤ n) : Calls Tryz.prog 103 #[.int .i32 n] w fun e w' => e = .returned (.string (Utf8.encode n)) ∧ Keep [] w w' := by
  have HV := Lib.hid (valid_t (n := n) (by omega))
  have hc := conv_enc_3 n w h0 h1 h2
  go_enter Tryz.func103, Tryz.ntmps103
  go_wp2_with fail
  refine (isrune_any _ _).mono ?_
  rintro r w1 ⟨rfl, rfl⟩
  rw [HV.out]
  go_wp2
  go_ret
  exact ⟨rfl, (Keep.refl _ _).alloc _⟩

theorem conv_enc_4 (n : Int) (w : World) (h0 : 65536 ≤ n) (h1 : n ≤ 1114111) : (convert 38 9 (.slice (some ⟨w.heap.size, 0, none⟩) 4 4)).run Tryz.prog (w.alloc (.cells #[.int .u8 (240 + n / 262144), .int .u8 (128 + n / 4096 % 64), .int .u8 (128 + n / 64 % 64), .int .u8 (128 + n % 64)] 5)) = .ok (.string (Utf8.encode n)) (w.alloc (.cells #[.int .u8 (240 + n / 262144), .int .u8 (128 + n / 4096 % 64), .int .u8 (128 + n / 64 % 64), .int .u8 (128 + n % 64)] 5)) := by
  obtain ⟨c, rfl⟩ := Int.eq_ofNat_of_zero_le (show 0 ≤ n by omega)
  have he : Utf8.encode ((c : Nat) : Int) = _ := enc_4 (by omega) (by omega)
  refine conv_new w [240 + (c : Int) / 262144, 128 + (c : Int) / 4096 % 64, 128 + (c : Int) / 64 % 64, 128 + (c : Int) % 64] (Utf8.encode c) ?_ (by rw [he]; rfl)
  rw [he]
  show _ = [((UInt8.ofNat (240 + c / 262144)).toNat : Int), ((UInt8.ofNat (128 + c / 4096 % 64)).toNat : Int), ((UInt8.ofNat (128 + c / 64 % 64)).toNat : Int), ((UInt8.ofNat (128 + c % 64)).toNat : Int)]
  rw [u8_of (240 + c / 262144) (by omega), u8_of (128 + c / 4096 % 64) (by omega), u8_of (128 + c / 64 % 64) (by omega), u8_of (128 + c % 64) (by omega)]
  first | rfl | simp

set_option maxRecDepth 100000 in
set_option maxHeartbeats 4000000 in
theorem rencode_4 (n : Int) (w : World) (h0 : 65536 ≤ n) (h1 : n ≤ 1114111) : Calls Tryz.prog 103 #[.int .i32 n] w fun e w' => e = .returned (.string (Utf8.encode n)) ∧ Keep [] w w' := by
  have HV := Lib.hid (valid_t (n := n) (by omega))
  have hc := conv_enc_4 n w h0 h1
  go_enter Tryz.func103, Tryz.ntmps103
  go_wp2_with fail
  refine (isrune_any _ _).mono ?_
  rintro r w1 ⟨rfl, rfl⟩
  rw [HV.out]
  go_wp2
  go_ret
  exact ⟨rfl, (Keep.refl _ _).alloc _⟩

set_option maxRecDepth 100000 in
set_option maxHeartbeats 4000000 in
theorem rencode_bad (n : Int) (w : World) (hv : Utf8.valid n = false) : Calls Tryz.prog 103 #[.int .i32 n] w fun e w' => e = .returned (.string (Utf8.encode n)) ∧ Keep [] w w' := by
  have HV := Lib.hid hv
  have HE := Lib.hid (enc_bad hv)
  have hc := conv_enc_3 65533 w (by decide) (by decide) (by decide)
  have e1 : (224 : Int) + 65533 / 4096 = 239 := by decide
  have e2 : (128 : Int) + 65533 / 64 % 64 = 191 := by decide
  have e3 : (128 : Int) + 65533 % 64 = 189 := by decide
  rw [e1, e2, e3] at hc
  clear e1 e2 e3 hv
  go_enter Tryz.func103, Tryz.ntmps103
  go_wp2_with fail
  refine (isrune_any _ _).mono ?_
  rintro r w1 ⟨rfl, rfl⟩
  rw [HV.out]
  go_wp2
  go_ret
  exact ⟨by rw [HE.out]; rfl, (Keep.refl _ _).alloc _⟩

theorem rencode_any (n : Int) (w : World) : Calls Tryz.prog 103 #[.int .i32 n] w fun e w' => e = .returned (.string (Utf8.encode n)) ∧ Keep [] w w' := by
  by_cases hv : (0 ≤ n ∧ n < 55296) ∨ (57344 ≤ n ∧ n ≤ 1114111)
  · by_cases h1 : n < 128
    · exact rencode_1 n w (by omega) h1
    by_cases h2 : n < 2048
    · exact rencode_2 n w (by omega) h2
    by_cases h3 : n < 65536
    · exact rencode_3 n w (by omega) h3 (by omega)
    · exact rencode_4 n w (by omega) (by omega)
  · exact rencode_bad n w (valid_f hv)
end Go.Proofs.YtbidppjhenfjdaaGreatDoor
