/-
  strconv.FormatInt at base 16.
-/
import Derived.Test.YtbidppjhenfjdaaGreatDoorQuoP
namespace Go.Proofs.YtbidppjhenfjdaaGreatDoor
open Go.RowKit
set_option linter.unusedVariables false
set_option linter.unusedSimpArgs false

/-- What FormatInt reads of the listed table, at base 16. -/
def TZ (w : World) : Prop := w.cell? ⟨5, 15, none⟩ = some (.int .u8 4)
theorem TZ.keep {w w' : World} {L : List Nat} (h : TZ w) (k : Keep L w w') (hL : 5 ∉ L) : TZ w' := k.cellv h hL
theorem TZ.keep0 {w w' : World} (h : TZ w) (k : Keep [] w w') : TZ w' := h.keep k (by simp)

theorem tz64_16 (w : World) (h : TZ w) : Calls Tryz.prog 129 #[.int .u64 16] w fun e w' => e = .returned (.int .i64 4) ∧ w = w' := by
  unfold TZ at h
  have key : IntKind.u64.wrap (bits BinOp.and IntKind.u64 16 (IntKind.u64.wrap (-16)) * 285870213051353865) / 288230376151711744 = 15 := by decide +kernel
  go_enter Tryz.func129, Tryz.ntmps129
  go_wp2_with (simp only [key])
  go_ret
  exact ⟨rfl, rfl⟩
theorem tz_16 (w : World) (h : TZ w) : Calls Tryz.prog 124 #[.int .u64 16] w fun e w' => e = .returned (.int .i64 4) ∧ w = w' := by
  go_enter Tryz.func124, Tryz.ntmps124
  go_wp2_with fail
  refine (tz64_16 _ h).mono ?_
  rintro e w1 ⟨rfl, rfl⟩
  go_wp2
  go_ret
  exact ⟨rfl, rfl⟩
theorem pow2_16 (w : World) : Calls Tryz.prog 123 #[.int .i64 16] w fun e w' => e = .returned (.bool true) ∧ w = w' := by
  have hw : IntKind.i64.wrap 15 = 15 := by decide
  have key : (bits BinOp.and IntKind.i64 16 15 == 0) = true := by decide +kernel
  go_enter Tryz.func123, Tryz.ntmps123
  go_wp2
  go_ret
  exact ⟨rfl, rfl⟩
theorem and_15 {u : Nat} (h : u < 18446744073709551616) : bits .and .u64 (u : Int) 15 = ((u % 16 : Nat) : Int) := by
  have := u64_and_nat u 15 h (by decide)
  rw [show ((15 : Nat) : Int) = 15 from rfl] at this
  rw [this, show (15 : Nat) = 2 ^ 4 - 1 from rfl, Nat.and_two_pow_sub_one_eq_mod]
theorem digit_at {d : Nat} (h : d < 16) (W : World) : (Instr.index 9 (.string ⟨#[48, 49, 50, 51, 52, 53, 54, 55, 56, 57, 97, 98, 99, 100, 101, 102, 103, 104, 105, 106, 107, 108, 109, 110, 111, 112, 113, 114, 115, 116, 117, 118, 119, 120, 121, 122]⟩) (.int .u64 (d : Nat))).run Tryz.prog W = .ok (.int .u8 (hexd d : Nat)) W := by
  rw [run_index_string (P := Tryz.prog) W 9 _ .u64 _ Tryz.underlying9]
  have hall : ∀ e : Fin 16, (⟨#[48, 49, 50, 51, 52, 53, 54, 55, 56, 57, 97, 98, 99, 100, 101, 102, 103, 104, 105, 106, 107, 108, 109, 110, 111, 112, 113, 114, 115, 116, 117, 118, 119, 120, 121, 122]⟩ : ByteArray).data.toList[e.1]?.map UInt8.toNat = some (hexd e.1) := by decide +kernel
  have h1 := hall ⟨d, h⟩
  rw [dif_pos (by show _ ∧ ((d : Nat) : Int) < ((36 : Nat) : Int); omega)]
  congr 2
  simp only [Int.toNat_natCast] at *
  obtain ⟨x, hx, hy⟩ := Option.map_eq_some_iff.1 h1
  rw [← hy]
  congr 2
  rw [Array.getElem?_toList] at hx
  obtain ⟨h2, h3⟩ := Array.getElem?_eq_some_iff.1 hx
  exact h3
theorem drop_set_self {α : Type} {l : List α} {m : Nat} {a : α} (h : m < l.length) : (l.set m a).drop m = a :: l.drop (m + 1) := by
  rw [List.drop_eq_getElem_cons (by simpa using h), List.getElem_set_self, List.drop_set_of_lt (by omega)]
/-- The digits that have been written, at the array's end. -/
def Tail65 (W : World) (b : Nat) (x : ByteArray) : Prop := x.size ≤ 65 ∧ ∃ arr : Array Value, W.heap[b]? = some (.cells arr 191 (0, 0)) ∧ arr.size = 65 ∧ arr.toList.drop (65 - x.size) = Lib.strCells x
theorem Tail65.push {W : World} {b c : Nat} {x : ByteArray} (h : Tail65 W b x) (hc : c < 256) (hx : x.size < 65) : Tail65 (W.setCell ⟨b, 64 - x.size, none⟩ (.int .u8 (c : Nat))) b (one c ++ x) := by
  obtain ⟨h0, arr, h1, h2, h3⟩ := h
  refine ⟨by rw [ByteArray.size_append, one_size]; omega, _, block_setCell h1 _ _, by simp [h2], ?_⟩
  rw [ByteArray.size_append, one_size, strCells_append, one_cells hc]
  rw [show 65 - (1 + x.size) = 64 - x.size by omega, Array.toList_setIfInBounds, drop_set_self (by simp [h2]; omega), show 64 - x.size + 1 = 65 - x.size by omega, h3]
  rfl
theorem Tail65.keep {W W' : World} {b : Nat} {x : ByteArray} (h : Tail65 W b x) (k : Keep [] W W') : Tail65 W' b x := by
  obtain ⟨h0, arr, h1, h2, h3⟩ := h
  exact ⟨h0, arr, k.at_ h1 (by simp), h2, h3⟩
theorem Tail65.cell {W : World} {b : Nat} {x : ByteArray} (h : Tail65 W b x) {i : Nat} (hi : i < 65) : (∃ v, W.cell? ⟨b, i, none⟩ = some v) ∧ W.frozen? ⟨b, i, none⟩ = false ∧ b < W.heap.size := by
  obtain ⟨h0, arr, h1, h2, h3⟩ := h
  exact ⟨⟨arr[i]'(by omega), by rw [cell_of_block h1, Array.getElem?_eq_getElem]⟩, free_of_block h1 _, lt_of_block h1⟩
theorem Tail65.slice {W : World} {b : Nat} {x : ByteArray} (h : Tail65 W b x) : SlAt W (.slice (some ⟨b, 65 - x.size, none⟩) x.size x.size) x.size (Lib.strCells x) := by
  obtain ⟨h0, arr, h1, h2, h3⟩ := h
  refine ⟨_, _, rfl, ⟨fun h => ?_, fun h => by cases h⟩, fun _ => ⟨_, _, rfl, fun i u hu => ?_⟩⟩
  · rw [← h3, h, List.drop_of_length_le (by simp [h2])]
  · rw [cell_of_block h1, ← Array.getElem?_toList, ← List.getElem?_drop, h3]
    exact hu
theorem conv_sl {w : World} {b off n cap : Nat} {s : ByteArray} (hn : n = s.size) (h : SlAt w (.slice (some ⟨b, off, none⟩) n cap) n (Lib.strCells s)) : (convert 38 9 (.slice (some ⟨b, off, none⟩) n cap)).run Tryz.prog w = .ok (.string s) w := by
  subst hn
  obtain ⟨ad, cap', e, ⟨h0, _⟩, h1⟩ := h
  simp only [Value.slice.injEq] at e
  obtain ⟨rfl, _, rfl⟩ := e
  have := run_convert_bytes_back (P := Tryz.prog) w 38 9 5 ⟨b, off, none⟩ cap s.data.toList Tryz.underlying38 Tryz.underlying5 Tryz.underlying9 (fun j hj => by
    have hs : (Lib.strCells s)[j]? = some (.int .u8 (s.data.toList[j].toNat : Int)) := by simp [Lib.strCells, List.getElem?_eq_getElem hj]
    obtain ⟨b', off', e', hc⟩ := h1 (by intro h; have e2 : s.data.toList.length = s.size := by rw [Array.length_toList]; rfl
                                        omega)
    simp only [Option.some.injEq, Addr.mk.injEq] at e'
    obtain ⟨rfl, rfl, _⟩ := e'
    have := hc j _ hs
    unfold Addr.add
    split
    · rename_i hj0; subst hj0; simpa using this
    · exact this)
  have e : s.data.toList.length = s.size := by rw [Array.length_toList]; rfl
  rw [e] at this
  exact this

theorem slice65 (b i : Nat) (hi : i < 65) (W : World) : (Instr.sliceAt 191 (.pointer (some ⟨b, 0, none⟩)) (some (.int .i64 (i : Nat))) none none).run Tryz.prog W = .ok (.slice (some ⟨b, i, none⟩) (65 - i) (65 - i)) W := by
  have h65 : Tryz.prog.arrayLen 191 = 65 := by kernel_rfl
  have hs : (sizeOf (Tryz.prog.elem 191)).run Tryz.prog W = .ok 1 W := by kernel_rfl
  rw [run_sliceAt_array_l (P := Tryz.prog) W 191 ⟨b, 0, none⟩ (by kernel_rfl) .i64 (i : Nat) (by omega) (by rw [h65]; omega), hs, h65]
  have ha : (⟨b, 0, none⟩ : Addr).add (i * 1) = ⟨b, i, none⟩ := by
    rw [Nat.mul_one]
    unfold Addr.add
    split
    · rename_i h; rw [h]
    · simp
  simp only [Result.andThen, slicedAt, Int.toNat_natCast]
  rw [if_neg (by omega), ha]

set_option maxRecDepth 100000 in
set_option maxHeartbeats 8000000 in
theorem bits16_any (r : Nat) (w : World) (h0 : 0 < r) (h1 : r < 16777216) (hT : TZ w) :
    Calls Tryz.prog 108 #[.slice none 0 0, .int .u64 (r : Nat), .int .i64 16, .bool false, .bool false] w fun e w' => e = .returned (.tuple #[.slice none 0 0, .string (hexs r)]) ∧ Keep [] w w' := by
  have HT := Lib.hid hT; clear hT
  go_enter Tryz.func108, Tryz.ntmps108
  go_wp2_with fail
  refine (pow2_16 _).mono ?_
  rintro e w1 ⟨rfl, rfl⟩
  have ka := (Keep.refl [] w).alloc
  go_wp2_with fail
  refine (tz_16 _ (HT.out.keep0 (ka _))).mono ?_
  rintro e w1 ⟨rfl, rfl⟩
  clear ka
  have hz65 : ∀ W : World, Tail65 (W.alloc (.cells Tryz.zeroCells191 191)) W.heap.size ByteArray.empty := fun W => ⟨by decide, _, World.alloc_heap_new W _, by kernel_rfl, by rw [List.drop_of_length_le (Nat.le_of_eq (by kernel_rfl))]; rfl⟩
  have HZ := Lib.hid hz65; clear hz65
  go_wp2
  go_loopw [1, 13] (fun uu ii wr => ∃ (u : Nat) (x : ByteArray), 0 < u ∧ u ≤ r ∧ uu = .int .u64 (u : Nat) ∧ ii = .int .i64 ((65 - x.size : Nat) : Int) ∧ hexs r = hexs u ++ x ∧ x.size + (if u < 16 then 1 else if u < 256 then 2 else if u < 4096 then 3 else if u < 65536 then 4 else if u < 1048576 then 5 else 6) ≤ 6 ∧ Tail65 wr w.heap.size x ∧ Keep [] w wr) (fun uu _ _ => (intOf uu).toNat)
  case atStart =>
    refine ⟨r, ByteArray.empty, h0, Nat.le_refl _, rfl, rfl, by simp, ?_, HZ.out w, (Keep.refl _ _).alloc _⟩
    simp
    split <;> (try split) <;> (try split) <;> (try split) <;> (try split) <;> omega
  case round =>
    obtain ⟨u, x, hu0, hur, rfl, rfl, hhex, hsz, htl, hk⟩ := hrel
    have hxs : x.size ≤ 5 := by
      revert hsz
      split <;> (try split) <;> (try split) <;> (try split) <;> (try split) <;> omega
    obtain ⟨⟨v, hv⟩, hf, hbl⟩ := htl.cell (i := 64 - x.size) (by omega)
    have hwi : IntKind.i64.wrap (((65 - x.size : Nat) : Int) - 1) = ((64 - x.size : Nat) : Int) := by rw [IntKind.wrap_i64]; omega
    have hi0 : (0 : Int) ≤ ((64 - x.size : Nat) : Int) := by omega
    have hi1 : ((64 - x.size : Nat) : Int) < 65 := by omega
    have hi2 : 64 - x.size < 65 := by omega
    by_cases hub : u < 16
    · have hud : decide (16 ≤ u) = false := by simp; omega
      have hdg := digit_at hub
      have htl2 := htl.push (c := hexd u) (by have := hexd_lt hub; omega) (by omega)
      have hhx : hexs r = one (hexd u) ++ x := by rw [hhex, hexs_small hub]
      have hcs := conv_sl (n := (one (hexd u) ++ x).size) rfl htl2.slice
      have hsz2 : (one (hexd u) ++ x).size = x.size + 1 := by rw [ByteArray.size_append, one_size]; omega
      rw [hsz2, show 65 - (x.size + 1) = 64 - x.size by omega] at hcs
      have HK := Lib.hid (hk.setCell (p := ⟨w.heap.size, 64 - x.size, none⟩) (.inr (Nat.le_refl _)) (.int .u8 (hexd u : Nat))); have HH := Lib.hid hhx
      have HL := Lib.hid hcs
      have hsl := slice65 w.heap.size (64 - x.size) (by omega)
      rw [show 65 - (64 - x.size) = x.size + 1 by omega] at hsl
      clear htl htl2 hk hhex hhx hsz hsz2 HL
      generalize 64 - x.size = i1 at *
      go_wp2
      go_ret2
      rw [HH.out]
      exact ⟨rfl, HK.out⟩
    · have hud : decide (16 ≤ u) = true := by simp; omega
      have hand := and_15 (u := u) (by omega)
      have hm16 : u % 16 < 16 := Nat.mod_lt _ (by decide)
      have hdg := digit_at hm16
      have htl2 := htl.push (c := hexd (u % 16)) (by have := hexd_lt hm16; omega) (by omega)
      have HH := Lib.hid (show hexs r = hexs (u / 16) ++ (one (hexd (u % 16)) ++ x) by rw [hhex, hexs_big hub, ByteArray.append_assoc])
      have hsz2 : (one (hexd (u % 16)) ++ x).size = x.size + 1 := by rw [ByteArray.size_append, one_size]; omega
      have HS := Lib.hid (show (one (hexd (u % 16)) ++ x).size + (if u / 16 < 16 then 1 else if u / 16 < 256 then 2 else if u / 16 < 4096 then 3 else if u / 16 < 65536 then 4 else if u / 16 < 1048576 then 5 else 6) ≤ 6 by
        rw [hsz2]
        revert hsz
        rw [if_neg hub]
        split <;> (try split) <;> (try split) <;> (try split) <;> (repeat' split) <;> omega)
      have HI := Lib.hid (show ((64 - x.size : Nat) : Int) = ((65 - (one (hexd (u % 16)) ++ x).size : Nat) : Int) by rw [hsz2]; omega)
      have HK := Lib.hid (hk.setCell (p := ⟨w.heap.size, 64 - x.size, none⟩) (.inr (Nat.le_refl _)) (.int .u8 (hexd (u % 16) : Nat)))
      have HL := Lib.hid htl2
      clear htl htl2 hk hhex hsz hsz2
      generalize 64 - x.size = i1 at *
      generalize u % 16 = d at *
      go_wp2
      exact ⟨⟨u / 16, _, by omega, by omega, by go_num, by rw [← HI.out], HH.out, HS.out, HL.out, HK.out⟩, by simp [intOf]; omega⟩
theorem ifmt16_any (r : Nat) (w : World) (h0 : 0 < r) (h1 : r < 16777216) (hT : TZ w) :
    Calls Tryz.prog 86 #[.int .i64 (r : Nat), .int .i64 16] w fun e w' => e = .returned (.string (hexs r)) ∧ Keep [] w w' := by
  have HB := Lib.hid (bits16_any r w h0 h1 hT); clear hT
  have t1 : decide ((r : Int) < 0) = false := by simp
  have hw : IntKind.u64.wrap (r : Int) = (r : Int) := by rw [IntKind.wrap_u64]; omega
  clear h0 h1
  go_enter Tryz.func86, Tryz.ntmps86
  go_wp2_with fail
  refine HB.out.mono ?_
  rintro e w1 ⟨rfl, hk⟩
  have HK := Lib.hid hk; clear hk
  go_wp2
  go_ret
  exact ⟨rfl, HK.out⟩
theorem fmt16_any (r : Nat) (w : World) (h0 : 0 < r) (h1 : r < 16777216) (hT : TZ w) :
    Calls Tryz.prog 61 #[.int .i64 (r : Nat), .int .i64 16] w fun e w' => e = .returned (.string (hexs r)) ∧ Keep [] w w' := by
  have HB := Lib.hid (ifmt16_any r w h0 h1 hT); clear hT
  go_enter Tryz.func61, Tryz.ntmps61
  go_wp2_with fail
  refine HB.out.mono ?_
  rintro e w1 ⟨rfl, hk⟩
  have HK := Lib.hid hk; clear hk
  go_wp2
  go_ret
  exact ⟨rfl, HK.out⟩
end Go.Proofs.YtbidppjhenfjdaaGreatDoor
