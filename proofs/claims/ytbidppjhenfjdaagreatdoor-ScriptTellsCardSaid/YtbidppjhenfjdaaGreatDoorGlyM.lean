/-
  Walks of Mend, and of strings.Builder under it.
-/
import Derived.Test.YtbidppjhenfjdaaGreatDoorGlyF
import Derived.Test.YtbidppjhenfjdaaGreatDoorShelf
namespace Go.Proofs.YtbidppjhenfjdaaGreatDoor
open Go.RowKit
set_option linter.unusedVariables false
set_option linter.unusedSimpArgs false

theorem info_builder : (Tryz.prog.info? 77).map (fun i => i.size) = some 2 := by kernel_rfl

set_option maxHeartbeats 4000000 in
set_option maxRecDepth 100000 in
theorem copyCheck_nil (b : Nat) (v : Value) (w : World) (h : w.heap[b]? = some (.cells #[.pointer none, v] 77 (0, 0))) :
    Calls Tryz.prog 56 #[.pointer (some ⟨b, 0, none⟩)] w fun e w' => e = .returned (.tuple #[]) ∧ w'.heap[b]? = some (.cells #[.pointer (some ⟨b, 0, none⟩), v] 77 (0, 0)) ∧ Keep [b] w w' := by
  obtain ⟨j, hj, hjs⟩ := Option.map_eq_some_iff.1 info_builder
  have c0 : w.cell? ⟨b, 0, none⟩ = some (.pointer none) := by rw [cell_of_block h]; rfl
  have f0 := free_of_block h 0
  have hsh : w.shape? b = some (77, 2) := by simp [World.shape?, h]
  have hs := block_setCell h 0 (.pointer (some ⟨b, 0, none⟩))
  have HS := Lib.hid hs; have H := Lib.hid h; have HSH := Lib.hid hsh; have HJ := Lib.hid hj; have HJS := Lib.hid hjs; clear h hs hsh hj hjs
  go_enter Tryz.func56, Tryz.ntmps56
  go_wp2
  rw [Lib.run_to_unsafe w ⟨b, 0, none⟩ Tryz.underlying75 Tryz.underlying155 HJ.out (by rw [HJS.out]; decide) HSH.out (Nat.zero_lt_succ 1)]
  simp only [Result.andThen]
  rw [Oper.upon_value]
  go_wp2
  rw [run_callFunc_extern Tryz.func85 (by kernel_rfl) (by kernel_rfl) (by kernel_rfl) (e := Extern.AbiNoEscape.same) (by kernel_rfl)]
  rw [Lib.run_noEscape]
  simp only [Result.andThen]
  rw [Oper.upon_value]
  go_wp2
  rw [Lib.run_from_unsafe w ⟨b, 0, none⟩ Tryz.underlying155 Tryz.underlying75 HJ.out HSH.out (by kernel_rfl)]
  simp only [Result.andThen]
  rw [Oper.upon_value]
  go_wp2
  go_end0
  exact ⟨rfl, HS.out, (Keep.refl _ _).setCell (by simp) _⟩

set_option maxHeartbeats 4000000 in
set_option maxRecDepth 100000 in
theorem copyCheck_self (b : Nat) (v : Value) (w : World) (h : w.heap[b]? = some (.cells #[.pointer (some ⟨b, 0, none⟩), v] 77 (0, 0))) :
    Calls Tryz.prog 56 #[.pointer (some ⟨b, 0, none⟩)] w fun e w' => e = .returned (.tuple #[]) ∧ w = w' := by
  obtain ⟨j, hj, hjs⟩ := Option.map_eq_some_iff.1 info_builder
  have c0 : w.cell? ⟨b, 0, none⟩ = some (.pointer (some ⟨b, 0, none⟩)) := by rw [cell_of_block h]; rfl
  have H := Lib.hid h; have HJ := Lib.hid hj; have HJS := Lib.hid hjs; clear h hj hjs
  go_enter Tryz.func56, Tryz.ntmps56
  go_wp2
  rw [Lib.run_neq_ptr_same w _ Tryz.underlying75 HJ.out]
  go_wp2
  go_end0
  exact ⟨rfl, rfl⟩

/-- A Builder of the call's own, which holds t; its row lies from base on. -/
def BufAt (w : World) (b base : Nat) (t : ByteArray) : Prop :=
  ∃ p v, w.heap[b]? = some (.cells #[p, v] 77 (0, 0)) ∧ (p = .pointer none ∨ p = .pointer (some ⟨b, 0, none⟩)) ∧ w.ownsRow base 5 1 v t.size (Lib.strCells t) ∧ b < base

theorem copyCheck_any (b base : Nat) (t : ByteArray) (w : World) (h : BufAt w b base t) :
    Calls Tryz.prog 56 #[.pointer (some ⟨b, 0, none⟩)] w fun e w' => e = .returned (.tuple #[]) ∧ (∃ v, w'.heap[b]? = some (.cells #[.pointer (some ⟨b, 0, none⟩), v] 77 (0, 0)) ∧ w'.ownsRow base 5 1 v t.size (Lib.strCells t)) ∧ Keep [b] w w' := by
  obtain ⟨p, v, h1, h2, h3, h4⟩ := h
  rcases h2 with rfl | rfl
  · refine (copyCheck_nil b v w h1).mono ?_
    rintro e w' ⟨rfl, hb, hk⟩
    exact ⟨rfl, ⟨v, hb, hk.owns h3 (fun g hg => by have := (h3.lt g hg).1; simp; omega)⟩, hk⟩
  · refine (copyCheck_self b v w h1).mono ?_
    rintro e w' ⟨rfl, rfl⟩
    exact ⟨rfl, ⟨v, h1, h3⟩, Keep.refl _ _⟩

theorem runeCells_enc (n : Int) : Lib.runeCells n = Lib.strCells (Utf8.encode n) := by
  by_cases hv : (0 ≤ n ∧ n < 55296) ∨ (57344 ≤ n ∧ n ≤ 1114111)
  · obtain ⟨c, rfl⟩ := Int.eq_ofNat_of_zero_le (show 0 ≤ n by omega)
    unfold Lib.runeCells Lib.strCells
    by_cases h1 : c < 128
    · rw [Lib.encodeRuneZ_one (by omega) (by omega), enc_1 h1]
      show [_] = [Value.int .u8 ((UInt8.ofNat c).toNat : Int)]
      rw [u8_of _ (by omega)]
    by_cases h2 : c < 2048
    · rw [Lib.encodeRuneZ_two (by omega) (by omega), enc_2 (by omega) h2]
      show [_, _] = [Value.int .u8 ((UInt8.ofNat (192 + c / 64)).toNat : Int), Value.int .u8 ((UInt8.ofNat (128 + c % 64)).toNat : Int)]
      rw [u8_of _ (by omega), u8_of _ (by omega)]
      simp
    by_cases h3 : c < 65536
    · rw [Lib.encodeRuneZ_three (by omega), enc_3 (by omega) h3 (by omega)]
      show [_, _, _] = [Value.int .u8 ((UInt8.ofNat (224 + c / 4096)).toNat : Int), Value.int .u8 ((UInt8.ofNat (128 + c / 64 % 64)).toNat : Int), Value.int .u8 ((UInt8.ofNat (128 + c % 64)).toNat : Int)]
      rw [u8_of _ (by omega), u8_of _ (by omega), u8_of _ (by omega)]
      simp
    · rw [Lib.encodeRuneZ_four (by omega) (by omega), enc_4 (by omega) (by omega)]
      show [_, _, _, _] = [Value.int .u8 ((UInt8.ofNat (240 + c / 262144)).toNat : Int), Value.int .u8 ((UInt8.ofNat (128 + c / 4096 % 64)).toNat : Int), Value.int .u8 ((UInt8.ofNat (128 + c / 64 % 64)).toNat : Int), Value.int .u8 ((UInt8.ofNat (128 + c % 64)).toNat : Int)]
      rw [u8_of _ (by omega), u8_of _ (by omega), u8_of _ (by omega), u8_of _ (by omega)]
      simp
  · rw [enc_bad (valid_f hv)]
    unfold Lib.runeCells
    rw [Lib.encodeRuneZ_bad (by omega)]
    rfl

/-- What WriteRune leaves. -/
def WrotePost (b base : Nat) (t : ByteArray) (w : World) (e : Ending) (w' : World) : Prop :=
  (∃ k : Int, e = .returned (.tuple #[.int .i64 k, .nilIface])) ∧ BufAt w' b base t ∧ (∀ (i : Nat) (s : ByteArray) (p : Nat), w.heap[i]? = some (Obj.stringIter s p) → w'.heap[i]? = some (Obj.stringIter s p)) ∧ ∃ L, Keep L w w' ∧ ∀ x ∈ L, x = b ∨ base ≤ x

theorem own_not_iter {w : World} {base : Nat} {e : TypeId} {v : Value} {n : Nat} {xs : List Value} {i : Nat} {s : ByteArray} {p : Nat} (h : w.ownsRow base e 1 v n xs) (hi : w.heap[i]? = some (.stringIter s p)) : i ∉ v.ownBlock.toList := by
  intro hm
  simp at hm
  rcases h.2 with ⟨rfl, _⟩ | ⟨g, cap, cur, rfl, _, hg, _⟩
  · simp [Value.ownBlock] at hm
  · simp [Value.ownBlock] at hm
    subst hm
    rw [hg] at hi; cases hi

set_option maxHeartbeats 8000000 in
theorem writeRune_any (b base : Nat) (t : ByteArray) (n : Int) (w : World) (h : BufAt w b base t) (h0 : -2147483648 ≤ n) (h1 : n ≤ 2147483647) (hl : t.size ≤ 140737488355324) (hb : base ≤ w.heap.size) :
    Calls Tryz.prog 62 #[.pointer (some ⟨b, 0, none⟩), .int .i32 n] w (WrotePost b base (t ++ Utf8.encode n) w) := by
  have hbb : b < base := by obtain ⟨_, _, _, _, _, hbb⟩ := h; exact hbb
  have H := Lib.hid h; clear h
  go_enter Tryz.func62, Tryz.ntmps62
  go_wp2_with fail
  refine (copyCheck_any b base t w H.out).mono ?_
  rintro r w1 ⟨rfl, ⟨v, hb1, ho1⟩, hk1⟩
  obtain ⟨ad, cap, rfl, _⟩ := SlAt.of_owns ho1
  have c1 : w1.cell? ⟨b, 1, none⟩ = some (.slice ad t.size cap) := by rw [cell_of_block hb1]; rfl
  have hsz1 := hk1.size
  have HB1 := Lib.hid hb1; have HO1 := Lib.hid ho1; have HK1 := Lib.hid hk1; clear hb1 ho1 hk1
  go_wp2_with fail
  refine (Tryz.utf8_AppendRune_plain base _ _ _ n h0 h1 _ HO1.out (by omega) (by omega)).mono ?_
  rintro r w2 ⟨v', rfl, ho2, o, hg2⟩
  rw [runeCells_enc, Lib.strCells_length, ← strCells_append] at ho2
  have hes := enc_size n
  have hk2 : Keep ((Value.slice ad t.size cap).ownBlock.toList) w1 w2 := ((Keep.refl _ w1).alloc o).trans' (keep_of_grown hg2)
  have hge : ∀ g, (Value.slice ad t.size cap).ownBlock = some g → base ≤ g := fun g hg => (HO1.out.lt g hg).1
  have hb2 := hk2.at_ HB1.out (by intro hm; simp at hm; have := hge _ (by simpa using hm); omega)
  obtain ⟨ad', cap', hv', _⟩ := SlAt.of_owns ho2
  rw [hv'] at ho2
  subst hv'
  have f1 := free_of_block hb2 1
  have c2 : w2.cell? ⟨b, 1, none⟩ = some (.slice ad t.size cap) := by rw [cell_of_block hb2]; rfl
  have hset := block_setCell hb2 1 (.slice ad' (t.size + (Utf8.encode n).size) cap')
  have hlt2 := lt_of_block hb2
  have hkA : Keep (b :: (Value.slice ad t.size cap).ownBlock.toList) w w2 := (HK1.out.mono (by simp)).trans hk2 (by intro x hx; simp [hx])
  have HKA := Lib.hid hkA
  have HK2 := Lib.hid hk2; have HO2 := Lib.hid ho2; have HSET := Lib.hid hset; have HGE := Lib.hid hge
  clear hkA hk2 ho2 hset hge hb2 hg2
  go_wp2
  go_ret2
  refine ⟨⟨_, rfl⟩, ⟨_, _, HSET.out, .inr rfl, ?_, hbb⟩, ?_, ⟨_, HKA.out.setCell (by simp) _, ?_⟩⟩
  · rw [ByteArray.size_append]
    refine ownsRow_setCell_other HO2.out (fun e => ?_) _
    have := (HO2.out.lt _ e).1
    simp at this; omega
  · intro i s p hi
    have hib : i ≠ b := by
      intro e; subst e
      obtain ⟨p', v', hbb', _⟩ := H.out
      rw [hbb'] at hi; cases hi
    have h1 := HK1.out.at_ hi (by simp; omega)
    have h2 := HK2.out.at_ h1 (own_not_iter HO1.out h1)
    exact (block_setCell_other _ hib).trans h2
  · intro x hx
    rcases List.mem_cons.1 hx with h | h
    · exact .inl h
    · exact .inr (HGE.out x (by simpa using h))

theorem keep_lot {w wr w' : World} {L : List Nat} (h : Keep [] w wr) (k : Keep L wr w') (hL : ∀ x ∈ L, w.heap.size ≤ x) : Keep [] w w' := h.trans k (fun x hx => .inr (hL x hx))
theorem keep_below {w wr w' : World} {B : Nat} (h : Keep [] w wr) (k : Below B wr w') (hB : w.heap.size ≤ B) : Keep [] w w' :=
  ⟨k.os.trans h.os, k.tape.trans h.tape, k.output.trans h.output, Nat.le_trans h.size k.size, fun i hi _ => (k.block i (by omega)).trans (h.block i hi (by simp))⟩
theorem BufAt.builder {w : World} {b base : Nat} {t : ByteArray} (h : BufAt w b base t) : Lib.IsBuilderF 77 5 b b (Lib.byteCells t.data.toList) w := by
  obtain ⟨p, v, h1, h2, h3, h4⟩ := h
  have hne : v.ownBlock ≠ some b := fun e => by have := (h3.lt b e).1; omega
  have hl : (Lib.byteCells t.data.toList).length = t.size := by rw [Lib.byteCells_length, Array.length_toList]; rfl
  have ho : w.ownsRow b 5 1 v (Lib.byteCells t.data.toList).length (Lib.byteCells t.data.toList) := by rw [hl]; exact owns_mono h3 (by omega)
  rcases h2 with rfl | rfl
  · exact .inl (Lib.BuilderAtF.of ⟨Nat.le_refl _, v, h1, ho, hne⟩)
  · exact .inr (Lib.BuilderAtF.of ⟨Nat.le_refl _, v, h1, ho, hne⟩)

end Go.Proofs.YtbidppjhenfjdaaGreatDoor
