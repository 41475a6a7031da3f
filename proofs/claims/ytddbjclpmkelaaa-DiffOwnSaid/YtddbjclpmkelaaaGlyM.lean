/-
  Walks of Mend, and of strings.Builder under it.
-/
import Derived.Test.YtddbjclpmkelaaaGlyF
import Derived.Test.YtddbjclpmkelaaaShelf
namespace Go.Proofs.Ytddbjclpmkelaaa
open Go.RowKit
set_option linter.unusedVariables false
set_option linter.unusedSimpArgs false

theorem info_builder : (Try.prog.info? 70).map (fun i => i.size) = some 2 := by kernel_rfl

set_option maxHeartbeats 4000000 in
set_option maxRecDepth 100000 in
theorem copyCheck_nil (b : Nat) (v : Value) (w : World) (h : w.heap[b]? = some (.cells #[.pointer none, v] 70 (0, 0))) :
    Calls Try.prog 50 #[.pointer (some ⟨b, 0, none⟩)] w fun e w' => e = .returned (.tuple #[]) ∧ w'.heap[b]? = some (.cells #[.pointer (some ⟨b, 0, none⟩), v] 70 (0, 0)) ∧ Keep [b] w w' := by
  obtain ⟨j, hj, hjs⟩ := Option.map_eq_some_iff.1 info_builder
  have c0 : w.cell? ⟨b, 0, none⟩ = some (.pointer none) := by rw [cell_of_block h]; rfl
  have f0 := free_of_block h 0
  have hsh : w.shape? b = some (70, 2) := by simp [World.shape?, h]
  have hs := block_setCell h 0 (.pointer (some ⟨b, 0, none⟩))
  have HS := Lib.hid hs; have H := Lib.hid h; have HSH := Lib.hid hsh; have HJ := Lib.hid hj; have HJS := Lib.hid hjs; clear h hs hsh hj hjs
  go_enter Try.func50, Try.ntmps50
  go_wp2
  rw [Lib.run_to_unsafe w ⟨b, 0, none⟩ Try.underlying67 Try.underlying96 HJ.out (by rw [HJS.out]; decide) HSH.out (Nat.zero_lt_succ 1)]
  simp only [Result.andThen]
  rw [Oper.upon_value]
  go_wp2
  rw [run_callFunc_extern Try.func55 (by kernel_rfl) (by kernel_rfl) (by kernel_rfl) (e := Extern.AbiNoEscape.same) (by kernel_rfl)]
  rw [Lib.run_noEscape]
  simp only [Result.andThen]
  rw [Oper.upon_value]
  go_wp2
  rw [Lib.run_from_unsafe w ⟨b, 0, none⟩ Try.underlying96 Try.underlying67 HJ.out HSH.out (by kernel_rfl)]
  simp only [Result.andThen]
  rw [Oper.upon_value]
  go_wp2
  go_end0
  exact ⟨rfl, HS.out, (Keep.refl _ _).setCell (by simp) _⟩

set_option maxHeartbeats 4000000 in
set_option maxRecDepth 100000 in
theorem copyCheck_self (b : Nat) (v : Value) (w : World) (h : w.heap[b]? = some (.cells #[.pointer (some ⟨b, 0, none⟩), v] 70 (0, 0))) :
    Calls Try.prog 50 #[.pointer (some ⟨b, 0, none⟩)] w fun e w' => e = .returned (.tuple #[]) ∧ w = w' := by
  obtain ⟨j, hj, hjs⟩ := Option.map_eq_some_iff.1 info_builder
  have c0 : w.cell? ⟨b, 0, none⟩ = some (.pointer (some ⟨b, 0, none⟩)) := by rw [cell_of_block h]; rfl
  have H := Lib.hid h; have HJ := Lib.hid hj; have HJS := Lib.hid hjs; clear h hj hjs
  go_enter Try.func50, Try.ntmps50
  go_wp2
  rw [Lib.run_neq_ptr_same w _ Try.underlying67 HJ.out]
  go_wp2
  go_end0
  exact ⟨rfl, rfl⟩

/-- A Builder of the call's own, which holds t; its row lies from base on. -/
def BufAt (w : World) (b base : Nat) (t : ByteArray) : Prop :=
  ∃ p v, w.heap[b]? = some (.cells #[p, v] 70 (0, 0)) ∧ (p = .pointer none ∨ p = .pointer (some ⟨b, 0, none⟩)) ∧ w.ownsRow base 5 1 v t.size (Lib.strCells t) ∧ b < base

theorem copyCheck_any (b base : Nat) (t : ByteArray) (w : World) (h : BufAt w b base t) :
    Calls Try.prog 50 #[.pointer (some ⟨b, 0, none⟩)] w fun e w' => e = .returned (.tuple #[]) ∧ (∃ v, w'.heap[b]? = some (.cells #[.pointer (some ⟨b, 0, none⟩), v] 70 (0, 0)) ∧ w'.ownsRow base 5 1 v t.size (Lib.strCells t)) ∧ Keep [b] w w' := by
  obtain ⟨p, v, h1, h2, h3, h4⟩ := h
  rcases h2 with rfl | rfl
  · refine (copyCheck_nil b v w h1).mono ?_
    rintro e w' ⟨rfl, hb, hk⟩
    exact ⟨rfl, ⟨v, hb, hk.owns h3 (fun g hg => by have := (h3.lt g hg).1; simp; omega)⟩, hk⟩
  · refine (copyCheck_self b v w h1).mono ?_
    rintro e w' ⟨rfl, rfl⟩
    exact ⟨rfl, ⟨v, h1, h3⟩, Keep.refl _ _⟩

theorem runeCells_enc (n : Int) : Lib.runeCells n = Lib.strCells (Utf8.encode n) := by
  by_cases hv : (0 ≤ n ∧ n < 55296) ∨ (57344 ≤ n ∧ n ≤ 1114111)
  · obtain ⟨c, rfl⟩ := Int.eq_ofNat_of_zero_le (show 0 ≤ n by omega)
    unfold Lib.runeCells Lib.strCells
    by_cases h1 : c < 128
    · rw [Lib.encodeRuneZ_one (by omega) (by omega), enc_1 h1]
      show [_] = [Value.int .u8 ((UInt8.ofNat c).toNat : Int)]
      rw [u8_of _ (by omega)]
    by_cases h2 : c < 2048
    · rw [Lib.encodeRuneZ_two (by omega) (by omega), enc_2 (by omega) h2]
      show [_, _] = [Value.int .u8 ((UInt8.ofNat (192 + c / 64)).toNat : Int), Value.int .u8 ((UInt8.ofNat (128 + c % 64)).toNat : Int)]
      rw [u8_of _ (by omega), u8_of _ (by omega)]
      simp
    by_cases h3 : c < 65536
    · rw [Lib.encodeRuneZ_three (by omega), enc_3 (by omega) h3 (by omega)]
      show [_, _, _] = [Value.int .u8 ((UInt8.ofNat (224 + c / 4096)).toNat : Int), Value.int .u8 ((UInt8.ofNat (128 + c / 64 % 64)).toNat : Int), Value.int .u8 ((UInt8.ofNat (128 + c % 64)).toNat : Int)]
      rw [u8_of _ (by omega), u8_of _ (by omega), u8_of _ (by omega)]
      simp
    · rw [Lib.encodeRuneZ_four (by omega) (by omega), enc_4 (by omega) (by omega)]
      show [_, _, _, _] = [Value.int .u8 ((UInt8.ofNat (240 + c / 262144)).toNat : Int), Value.int .u8 ((UInt8.ofNat (128 + c / 4096 % 64)).toNat : Int), Value.int .u8 ((UInt8.ofNat (128 + c / 64 % 64)).toNat : Int), Value.int .u8 ((UInt8.ofNat (128 + c % 64)).toNat : Int)]
      rw [u8_of _ (by omega), u8_of _ (by omega), u8_of _ (by omega), u8_of _ (by omega)]
      simp
  · rw [enc_bad (valid_f hv)]
    unfold Lib.runeCells
    rw [Lib.encodeRuneZ_bad (by omega)]
    rfl

/-- What WriteRune leaves. -/
def WrotePost (b base : Nat) (t : ByteArray) (w : World) (e : Ending) (w' : World) : Prop :=
  (∃ k : Int, e = .returned (.tuple #[.int .i64 k, .nilIface])) ∧ BufAt w' b base t ∧ (∀ (i : Nat) (s : ByteArray) (p : Nat), w.heap[i]? = some (Obj.stringIter s p) → w'.heap[i]? = some (Obj.stringIter s p)) ∧ ∃ L, Keep L w w' ∧ ∀ x ∈ L, x = b ∨ base ≤ x

theorem own_not_iter {w : World} {base : Nat} {e : TypeId} {v : Value} {n : Nat} {xs : List Value} {i : Nat} {s : ByteArray} {p : Nat} (h : w.ownsRow base e 1 v n xs) (hi : w.heap[i]? = some (.stringIter s p)) : i ∉ v.ownBlock.toList := by
  intro hm
  simp at hm
  rcases h.2 with ⟨rfl, _⟩ | ⟨g, cap, cur, rfl, _, hg, _⟩
  · simp [Value.ownBlock] at hm
  · simp [Value.ownBlock] at hm
    subst hm
    rw [hg] at hi; cases hi

set_option maxHeartbeats 8000000 in
theorem writeRune_any (b base : Nat) (t : ByteArray) (n : Int) (w : World) (h : BufAt w b base t) (h0 : -2147483648 ≤ n) (h1 : n ≤ 2147483647) (hl : t.size ≤ 140737488355324) (hb : base ≤ w.heap.size) :
    Calls Try.prog 40 #[.pointer (some ⟨b, 0, none⟩), .int .i32 n] w (WrotePost b base (t ++ Utf8.encode n) w) := by
  have hbb : b < base := by obtain ⟨_, _, _, _, _, hbb⟩ := h; exact hbb
  have H := Lib.hid h; clear h
  go_enter Try.func40, Try.ntmps40
  go_wp2_with fail
  refine (copyCheck_any b base t w H.out).mono ?_
  rintro r w1 ⟨rfl, ⟨v, hb1, ho1⟩, hk1⟩
  obtain ⟨ad, cap, rfl, _⟩ := SlAt.of_owns ho1
  have c1 : w1.cell? ⟨b, 1, none⟩ = some (.slice ad t.size cap) := by rw [cell_of_block hb1]; rfl
  have hsz1 := hk1.size
  have HB1 := Lib.hid hb1; have HO1 := Lib.hid ho1; have HK1 := Lib.hid hk1; clear hb1 ho1 hk1
  go_wp2_with fail
  refine (Try.utf8_AppendRune_plain base _ _ _ n h0 h1 _ HO1.out (by omega) (by omega)).mono ?_
  rintro r w2 ⟨v', rfl, ho2, o, hg2⟩
  rw [runeCells_enc, Lib.strCells_length, ← strCells_append] at ho2
  have hes := enc_size n
  have hk2 : Keep ((Value.slice ad t.size cap).ownBlock.toList) w1 w2 := ((Keep.refl _ w1).alloc o).trans' (keep_of_grown hg2)
  have hge : ∀ g, (Value.slice ad t.size cap).ownBlock = some g → base ≤ g := fun g hg => (HO1.out.lt g hg).1
  have hb2 := hk2.at_ HB1.out (by intro hm; simp at hm; have := hge _ (by simpa using hm); omega)
  obtain ⟨ad', cap', hv', _⟩ := SlAt.of_owns ho2
  rw [hv'] at ho2
  subst hv'
  have f1 := free_of_block hb2 1
  have c2 : w2.cell? ⟨b, 1, none⟩ = some (.slice ad t.size cap) := by rw [cell_of_block hb2]; rfl
  have hset := block_setCell hb2 1 (.slice ad' (t.size + (Utf8.encode n).size) cap')
  have hlt2 := lt_of_block hb2
  have hkA : Keep (b :: (Value.slice ad t.size cap).ownBlock.toList) w w2 := (HK1.out.mono (by simp)).trans hk2 (by intro x hx; simp [hx])
  have HKA := Lib.hid hkA
  have HK2 := Lib.hid hk2; have HO2 := Lib.hid ho2; have HSET := Lib.hid hset; have HGE := Lib.hid hge
  clear hkA hk2 ho2 hset hge hb2 hg2
  go_wp2
  go_ret2
  refine ⟨⟨_, rfl⟩, ⟨_, _, HSET.out, .inr rfl, ?_, hbb⟩, ?_, ⟨_, HKA.out.setCell (by simp) _, ?_⟩⟩
  · rw [ByteArray.size_append]
    refine ownsRow_setCell_other HO2.out (fun e => ?_) _
    have := (HO2.out.lt _ e).1
    simp at this; omega
  · intro i s p hi
    have hib : i ≠ b := by
      intro e; subst e
      obtain ⟨p', v', hbb', _⟩ := H.out
      rw [hbb'] at hi; cases hi
    have h1 := HK1.out.at_ hi (by simp; omega)
    have h2 := HK2.out.at_ h1 (own_not_iter HO1.out h1)
    exact (block_setCell_other _ hib).trans h2
  · intro x hx
    rcases List.mem_cons.1 hx with h | h
    · exact .inl h
    · exact .inr (HGE.out x (by simpa using h))

theorem keep_lot {w wr w' : World} {L : List Nat} (h : Keep [] w wr) (k : Keep L wr w') (hL : ∀ x ∈ L, w.heap.size ≤ x) : Keep [] w w' := h.trans k (fun x hx => .inr (hL x hx))
theorem keep_below {w wr w' : World} {B : Nat} (h : Keep [] w wr) (k : Below B wr w') (hB : w.heap.size ≤ B) : Keep [] w w' :=
  ⟨k.os.trans h.os, k.tape.trans h.tape, k.output.trans h.output, Nat.le_trans h.size k.size, fun i hi _ => (k.block i (by omega)).trans (h.block i hi (by simp))⟩
theorem BufAt.builder {w : World} {b base : Nat} {t : ByteArray} (h : BufAt w b base t) : Lib.IsBuilderF 70 5 b b (Lib.byteCells t.data.toList) w := by
  obtain ⟨p, v, h1, h2, h3, h4⟩ := h
  have hne : v.ownBlock ≠ some b := fun e => by have := (h3.lt b e).1; omega
  have hl : (Lib.byteCells t.data.toList).length = t.size := by rw [Lib.byteCells_length, Array.length_toList]; rfl
  have ho : w.ownsRow b 5 1 v (Lib.byteCells t.data.toList).length (Lib.byteCells t.data.toList) := by rw [hl]; exact owns_mono h3 (by omega)
  rcases h2 with rfl | rfl
  · exact .inl (Lib.BuilderAtF.of ⟨Nat.le_refl _, v, h1, ho, hne⟩)
  · exact .inr (Lib.BuilderAtF.of ⟨Nat.le_refl _, v, h1, ho, hne⟩)

set_option maxHeartbeats 8000000 in
theorem mend_any (s : ByteArray) (w : World) (hz : s.size ≤ 1073741824) : Calls Try.prog 25 #[.string s] w fun e w' => e = .returned (.string (mend s)) ∧ Keep [] w w' := by
  go_enter Try.func25, Try.ntmps25
  go_wp2
  go_loopw [] (fun wr => ∃ (l : List Nat) (p : Nat), At s l p ∧ wr.heap[w.heap.size + 1]? = some (.stringIter s p) ∧ Keep [] w wr ∧ BufAt wr w.heap.size (w.heap.size + 1) (txt (l.map fun i => ((dec s i).1 : Int)))) (fun wr => s.size - wr.iterPos (w.heap.size + 1))
  case atStart =>
    have hit := World.iter_heap (w.alloc (.cells #[.pointer none, .slice none 0 0] 70)) s 0
    rw [World.size_alloc] at hit
    refine ⟨[], 0, .zero, hit, ((Keep.refl _ _).alloc _).alloc _, _, _, ?_, .inl rfl, World.ownsRow_nil _ _ _ _, by omega⟩
    exact (Below.heap_alloc _ _ _ (by simp)).trans (heap_alloc_new w _)
  case round =>
    obtain ⟨l, p, hat, hit, hk, hbuf⟩ := hrel
    have hll := hat.len
    have hple := hat.le
    have hlt := lt_of_block hit
    have hts := txt_size (l.map fun i => ((dec s i).1 : Int))
    rw [List.length_map] at hts
    have HA := Lib.hid hat; have HK := Lib.hid hk; have HB := Lib.hid hbuf; clear hat hk hbuf
    by_cases hp : p < s.size
    · have hn := dec_n hp
      have hnx : ∀ ty, _ := fun ty => next_in (P := Try.prog) hit hp ty
      have hit2 := Lib.iterAt_heap wr (w.heap.size + 1) s p (p + (dec s p).2) hit
      have HST := Lib.hid (HA.out.step hp)
      have HK2 := Lib.hid (keep_iterAt (k := w.heap.size + 1) HK.out (by omega) s (p + (dec s p).2))
      have hb2 : BufAt (wr.iterAt (w.heap.size + 1) s (p + (dec s p).2)) w.heap.size (w.heap.size + 1) (txt (l.map fun i => ((dec s i).1 : Int))) := by
        obtain ⟨q, v, h1, h2, h3, h4⟩ := HB.out
        have hni := own_not_iter h3 hit
        refine ⟨q, v, (Lib.iterAt_other wr (w.heap.size + 1) w.heap.size s _ (by omega)).trans h1, h2, ?_, h4⟩
        have hk : Keep [w.heap.size + 1] wr (wr.iterAt (w.heap.size + 1) s (p + (dec s p).2)) := ⟨rfl, rfl, rfl, by rw [Lib.iterAt_size]; exact Nat.le_refl _, fun i _ hi => Lib.iterAt_other wr _ i s _ (by simpa using hi)⟩
        exact hk.owns h3 (fun g hg => by simp; intro e; subst e; exact hni (by simp [hg]))
      have HB2 := Lib.hid hb2; clear hb2
      have hr1 := dec_le hp
      have hes : Hid (txt ((l ++ [p]).map fun i => ((dec s i).1 : Int)) = txt (l.map fun i => ((dec s i).1 : Int)) ++ Utf8.encode (dec s p).1) := by show _ = _; rw [List.map_append, List.map_cons, List.map_nil, txt_snoc]
      have hsz2 : (wr.iterAt (w.heap.size + 1) s (p + (dec s p).2)).heap.size = wr.heap.size := Lib.iterAt_size _ _ _ _
      have HSZ := Lib.hid hsz2; clear hsz2
      generalize (dec s p).1 = r1 at *
      generalize (dec s p).2 = n1 at *
      go_wp2_with fail
      refine (writeRune_any w.heap.size (w.heap.size + 1) _ r1 _ HB2.out (by omega) (by omega) (by omega) (by rw [HSZ.out]; omega)).mono ?_
      rintro r w2 ⟨⟨k, rfl⟩, hb3, hit3, L, hk3, hL⟩
      have HK3 := Lib.hid (keep_lot HK2.out hk3 (fun x hx => by rcases hL x hx with h | h <;> omega))
      have HIT := Lib.hid (hit3 _ _ _ hit2)
      have HB3 := Lib.hid hb3; clear hk3 hL hit3 hb3
      go_wp2
      go_roundw
      case rel => exact ⟨l ++ [p], p + n1, HST.out, HIT.out, HK3.out, by rw [hes.out]; exact HB3.out⟩
      case measure => simp only [World.iterPos, hit, HIT.out]; omega
    · have hnx : ∀ ty, _ := fun ty => Lib.run_next_end_at (P := Try.prog) wr (w.heap.size + 1) s p ty hit hp
      obtain ⟨rfl, rfl⟩ := HA.out.done hp
      go_wp2_with fail
      refine (Try.Builder_String_any_k w.heap.size w.heap.size _ _ HB.out.builder (by omega)).mono ?_
      rintro r w2 ⟨rfl, _, hb, _⟩
      have HK2 := Lib.hid (keep_below HK.out hb (Nat.le_refl _)); clear hb
      go_wp2
      go_ret
      exact ⟨rfl, HK2.out⟩
end Go.Proofs.Ytddbjclpmkelaaa
