/-
  Walks of the reference's IsRune, Encode.
-/
import Derived.Test.YtbidppjhenfjdaaDoorGlyV
import Derived.Test.YtbidppjhenfjdaaDoorKeep
import Derived.Test.YtbidppjhenfjdaaDoorChecked
import Derived.Shelf.Abstract
namespace Go.Proofs.YtbidppjhenfjdaaDoor
open Go.RowKit
set_option linter.unusedVariables false
set_option linter.unusedSimpArgs false

theorem valid_t {n : Int} (h : (0 ≤ n ∧ n < 55296) ∨ (57344 ≤ n ∧ n ≤ 1114111)) : Utf8.valid n = true := by simp only [Utf8.valid, Bool.or_eq_true, Bool.and_eq_true, decide_eq_true_eq]; omega
theorem valid_f {n : Int} (h : ¬ ((0 ≤ n ∧ n < 55296) ∨ (57344 ≤ n ∧ n ≤ 1114111))) : Utf8.valid n = false := by
  cases hv : Utf8.valid n
  · rfl
  · simp only [Utf8.valid, Bool.or_eq_true, Bool.and_eq_true, decide_eq_true_eq] at hv; omega

theorem addr0_add (b j : Nat) : (⟨b, 0, none⟩ : Addr).add j = ⟨b, j, none⟩ := by
  simp only [Addr.add]
  split <;> simp_all
/-- A text made of new bytes. -/
theorem conv_new (w : World) (zs : List Int) (s : ByteArray) (h : zs = s.data.toList.map fun b => (b.toNat : Int)) (hz : zs.length = s.size) :
    (convert 29 9 (.slice (some ⟨w.heap.size, 0, none⟩) zs.length zs.length)).run Tryd.prog (w.alloc (.cells (zs.map (Value.int .u8)).toArray 5)) = .ok (.string s) (w.alloc (.cells (zs.map (Value.int .u8)).toArray 5)) := by
  have hl : zs.length = s.data.toList.length := by rw [h]; simp
  have := run_convert_bytes_back (P := Tryd.prog) (w.alloc (.cells (zs.map (Value.int .u8)).toArray 5)) 29 9 5 ⟨w.heap.size, 0, none⟩ zs.length s.data.toList
    Tryd.underlying29 Tryd.underlying5 Tryd.underlying9 (fun j hj => by
      have hb := heap_alloc_new w (.cells (zs.map (Value.int .u8)).toArray 5)
      rw [addr0_add, cell_of_block hb]
      simp [h, List.getElem?_eq_getElem hj])
  rw [← hl] at this
  exact this
theorem u8z (n : Int) (h0 : 0 ≤ n) (h1 : n < 256) : ((UInt8.ofNat n.toNat).toNat : Int) = n := by rw [u8_of _ (by omega)]; omega

theorem conv_enc_1 (n : Int) (w : World) (h0 : 0 ≤ n) (h1 : n < 128) : (convert 29 9 (.slice (some ⟨w.heap.size, 0, none⟩) 1 1)).run Tryd.prog (w.alloc (.cells #[.int .u8 (n)] 5)) = .ok (.string (Utf8.encode n)) (w.alloc (.cells #[.int .u8 (n)] 5)) := by
  obtain ⟨c, rfl⟩ := Int.eq_ofNat_of_zero_le (show 0 ≤ n by omega)
  have he : Utf8.encode ((c : Nat) : Int) = _ := enc_1 (by omega)
  refine conv_new w [(c : Int)] (Utf8.encode c) ?_ (by rw [he]; rfl)
  rw [he]
  show _ = [((UInt8.ofNat (c)).toNat : Int)]
  rw [u8_of (c) (by omega)]

theorem conv_enc_2 (n : Int) (w : World) (h0 : 128 ≤ n) (h1 : n < 2048) : (convert 29 9 (.slice (some ⟨w.heap.size, 0, none⟩) 2 2)).run Tryd.prog (w.alloc (.cells #[.int .u8 (192 + n / 64), .int .u8 (128 + n % 64)] 5)) = .ok (.string (Utf8.encode n)) (w.alloc (.cells #[.int .u8 (192 + n / 64), .int .u8 (128 + n % 64)] 5)) := by
  obtain ⟨c, rfl⟩ := Int.eq_ofNat_of_zero_le (show 0 ≤ n by omega)
  have he : Utf8.encode ((c : Nat) : Int) = _ := enc_2 (by omega) (by omega)
  refine conv_new w [192 + (c : Int) / 64, 128 + (c : Int) % 64] (Utf8.encode c) ?_ (by rw [he]; rfl)
  rw [he]
  show _ = [((UInt8.ofNat (192 + c / 64)).toNat : Int), ((UInt8.ofNat (128 + c % 64)).toNat : Int)]
  rw [u8_of (192 + c / 64) (by omega), u8_of (128 + c % 64) (by omega)]
  first | rfl | simp

theorem conv_enc_3 (n : Int) (w : World) (h0 : 2048 ≤ n) (h1 : n < 65536) (h2 : n < 55296 ∨ 57344 ≤ n) : (convert 29 9 (.slice (some ⟨w.heap.size, 0, none⟩) 3 3)).run Tryd.prog (w.alloc (.cells #[.int .u8 (224 + n / 4096), .int .u8 (128 + n / 64 % 64), .int .u8 (128 + n % 64)] 5)) = .ok (.string (Utf8.encode n)) (w.alloc (.cells #[.int .u8 (224 + n / 4096), .int .u8 (128 + n / 64 % 64), .int .u8 (128 + n % 64)] 5)) := by
  obtain ⟨c, rfl⟩ := Int.eq_ofNat_of_zero_le (show 0 ≤ n by omega)
  have he : Utf8.encode ((c : Nat) : Int) = _ := enc_3 (by omega) (by omega) (by omega)
  refine conv_new w [224 + (c : Int) / 4096, 128 + (c : Int) / 64 % 64, 128 + (c : Int) % 64] (Utf8.encode c) ?_ (by rw [he]; rfl)
  rw [he]
  show _ = [((UInt8.ofNat (224 + c / 4096)).toNat : Int), ((UInt8.ofNat (128 + c / 64 % 64)).toNat : Int), ((UInt8.ofNat (128 + c % 64)).toNat : Int)]
  rw [u8_of (224 + c / 4096) (by omega), u8_of (128 + c / 64 % 64) (by omega), u8_of (128 + c % 64) (by omega)]
  first | rfl | simp

theorem conv_enc_4 (n : Int) (w : World) (h0 : 65536 ≤ n) (h1 : n ≤ 1114111) : (convert 29 9 (.slice (some ⟨w.heap.size, 0, none⟩) 4 4)).run Tryd.prog (w.alloc (.cells #[.int .u8 (240 + n / 262144), .int .u8 (128 + n / 4096 % 64), .int .u8 (128 + n / 64 % 64), .int .u8 (128 + n % 64)] 5)) = .ok (.string (Utf8.encode n)) (w.alloc (.cells #[.int .u8 (240 + n / 262144), .int .u8 (128 + n / 4096 % 64), .int .u8 (128 + n / 64 % 64), .int .u8 (128 + n % 64)] 5)) := by
  obtain ⟨c, rfl⟩ := Int.eq_ofNat_of_zero_le (show 0 ≤ n by omega)
  have he : Utf8.encode ((c : Nat) : Int) = _ := enc_4 (by omega) (by omega)
  refine conv_new w [240 + (c : Int) / 262144, 128 + (c : Int) / 4096 % 64, 128 + (c : Int) / 64 % 64, 128 + (c : Int) % 64] (Utf8.encode c) ?_ (by rw [he]; rfl)
  rw [he]
  show _ = [((UInt8.ofNat (240 + c / 262144)).toNat : Int), ((UInt8.ofNat (128 + c / 4096 % 64)).toNat : Int), ((UInt8.ofNat (128 + c / 64 % 64)).toNat : Int), ((UInt8.ofNat (128 + c % 64)).toNat : Int)]
  rw [u8_of (240 + c / 262144) (by omega), u8_of (128 + c / 4096 % 64) (by omega), u8_of (128 + c / 64 % 64) (by omega), u8_of (128 + c % 64) (by omega)]
  first | rfl | simp

end Go.Proofs.YtbidppjhenfjdaaDoor
