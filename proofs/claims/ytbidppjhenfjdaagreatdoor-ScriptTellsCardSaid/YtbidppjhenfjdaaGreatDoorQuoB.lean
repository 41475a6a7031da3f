/-
  strings.Builder: WriteByte, WriteString.
-/
import Derived.Test.YtbidppjhenfjdaaGreatDoorGlyM
import Derived.Lib.AppendStr
namespace Go.Proofs.YtbidppjhenfjdaaGreatDoor
open Go.RowKit
set_option linter.unusedVariables false
set_option linter.unusedSimpArgs false

/-- What a write leaves. -/
def WroteP (b base : Nat) (t : ByteArray) (w w' : World) : Prop :=
  BufAt w' b base t ∧ (∀ (i : Nat) (s : ByteArray) (p : Nat), w.heap[i]? = some (Obj.stringIter s p) → w'.heap[i]? = some (Obj.stringIter s p)) ∧ ∃ L, Keep L w w' ∧ ∀ x ∈ L, x = b ∨ base ≤ x
/-- The byte c as a text. -/
def one (c : Nat) : ByteArray := ⟨#[UInt8.ofNat c]⟩
theorem one_size (c : Nat) : (one c).size = 1 := rfl
theorem one_cells {c : Nat} (h : c < 256) : Lib.strCells (one c) = [.int .u8 (c : Nat)] := by
  show [Value.int .u8 (((UInt8.ofNat c).toNat : Nat) : Int)] = _
  rw [u8_of c h]

set_option maxHeartbeats 8000000 in
theorem writeStr_any (b base : Nat) (t s : ByteArray) (w : World) (h : BufAt w b base t) (hs : s.size ≤ 1073741824) (hl : t.size ≤ 10000000000000) (hb : base ≤ w.heap.size) :
    Calls Tryz.prog 25 #[.pointer (some ⟨b, 0, none⟩), .string s] w fun e w' => (∃ k : Int, e = .returned (.tuple #[.int .i64 k, .nilIface])) ∧ WroteP b base (t ++ s) w w' := by
  obtain ⟨i0, hi, hz0, hz1, hz2⟩ := info_parts info_u8
  have HI := Lib.hid hi; have HZ0 := Lib.hid hz0; have HZ1 := Lib.hid hz1; have HZ2 := Lib.hid hz2
  clear hi hz0 hz1 hz2
  have hbb : b < base := by obtain ⟨_, _, _, _, _, hbb⟩ := h; exact hbb
  have H := Lib.hid h; clear h
  go_enter Tryz.func25, Tryz.ntmps25
  go_wp2_with fail
  refine (copyCheck_any b base t w H.out).mono ?_
  rintro r w1 ⟨rfl, ⟨v, hb1, ho1⟩, hk1⟩
  obtain ⟨ad, cap, rfl, _⟩ := SlAt.of_owns ho1
  have c1 : w1.cell? ⟨b, 1, none⟩ = some (.slice ad t.size cap) := by rw [cell_of_block hb1]; rfl
  have hsz1 := hk1.size
  have HB1 := Lib.hid hb1; have HO1 := Lib.hid ho1; have HK1 := Lib.hid hk1; clear hb1 ho1 hk1
  go_wp2_with (with_reducible refine park_append 12 13 _ rfl ?_)
  refine Lib.wpList_append_own_string _ rfl (.tmp 12) (.tmp 13) 38 9 rfl base 5 i0 Tryz.underlying38 Tryz.underlying9 HI.out HZ0.out HZ1.out HZ2.out _ _ _ rfl HO1.out s rfl (by unfold maxLen; omega) (by omega) (by omega) ?_
  intro v' w2 ho2 hg2 _
  rw [← strCells_append] at ho2
  have hk2 : Keep ((Value.slice ad t.size cap).ownBlock.toList) w1 w2 := keep_of_grown hg2
  have hge : ∀ g, (Value.slice ad t.size cap).ownBlock = some g → base ≤ g := fun g hg => (HO1.out.lt g hg).1
  have hb2 := hk2.at_ HB1.out (by intro hm; simp at hm; have := hge _ (by simpa using hm); omega)
  obtain ⟨ad', cap', hv', _⟩ := SlAt.of_owns ho2
  rw [hv'] at ho2
  subst hv'
  have f1 := free_of_block hb2 1
  have c2 : w2.cell? ⟨b, 1, none⟩ = some (.slice ad t.size cap) := by rw [cell_of_block hb2]; rfl
  have hset := block_setCell hb2 1 (.slice ad' (t.size + s.size) cap')
  have hlt2 := lt_of_block hb2
  have hkA : Keep (b :: (Value.slice ad t.size cap).ownBlock.toList) w w2 := (HK1.out.mono (by simp)).trans hk2 (by intro x hx; simp [hx])
  have HKA := Lib.hid hkA
  have HK2 := Lib.hid hk2; have HO2 := Lib.hid ho2; have HSET := Lib.hid hset; have HGE := Lib.hid hge
  clear hkA hk2 ho2 hset hge hb2 hg2
  go_wp2
  go_ret2
  refine ⟨⟨_, rfl⟩, ⟨_, _, HSET.out, .inr rfl, ?_, hbb⟩, ?_, ⟨_, HKA.out.setCell (by simp) _, ?_⟩⟩
  · rw [ByteArray.size_append]
    refine ownsRow_setCell_other HO2.out (fun e => ?_) _
    have := (HO2.out.lt _ e).1
    simp at this; omega
  · intro i s p hi
    have hib : i ≠ b := by
      intro e; subst e
      obtain ⟨p', v', hbb', _⟩ := H.out
      rw [hbb'] at hi; cases hi
    have h1 := HK1.out.at_ hi (by simp; omega)
    have h2 := HK2.out.at_ h1 (own_not_iter HO1.out h1)
    exact (block_setCell_other _ hib).trans h2
  · intro x hx
    rcases List.mem_cons.1 hx with h | h
    · exact .inl h
    · exact .inr (HGE.out x (by simpa using h))

set_option maxHeartbeats 8000000 in
theorem writeByte_any (b base : Nat) (t : ByteArray) (c : Nat) (w : World) (h : BufAt w b base t) (hc : c < 256) (hl : t.size ≤ 10000000000000) (hb : base ≤ w.heap.size) :
    Calls Tryz.prog 30 #[.pointer (some ⟨b, 0, none⟩), .int .u8 (c : Nat)] w fun e w' => e = .returned .nilIface ∧ WroteP b base (t ++ one c) w w' := by
  obtain ⟨i0, hi, hz0, hz1, hz2⟩ := info_parts info_u8
  have HI := Lib.hid hi; have HZ0 := Lib.hid hz0; have HZ1 := Lib.hid hz1; have HZ2 := Lib.hid hz2
  clear hi hz0 hz1 hz2
  have hbb : b < base := by obtain ⟨_, _, _, _, _, hbb⟩ := h; exact hbb
  have H := Lib.hid h; clear h
  go_enter Tryz.func30, Tryz.ntmps30
  go_wp2_with fail
  refine (copyCheck_any b base t w H.out).mono ?_
  rintro r w1 ⟨rfl, ⟨v, hb1, ho1⟩, hk1⟩
  obtain ⟨ad, cap, rfl, _⟩ := SlAt.of_owns ho1
  have c1 : w1.cell? ⟨b, 1, none⟩ = some (.slice ad t.size cap) := by rw [cell_of_block hb1]; rfl
  have hsz1 := hk1.size
  have HB1 := Lib.hid hb1; have HO1 := Lib.hid ho1; have HK1 := Lib.hid hk1; clear hb1 ho1 hk1
  go_wp2_with (with_reducible refine park_append 11 13 _ rfl ?_)
  refine wpList_append_mine _ rfl (.tmp 11) (.tmp 13) 38 rfl base 5 i0 (.int .u8 0) 1 1 Tryz.underlying38 HI.out HZ0.out HZ1.out HZ2.out rfl (by decide) _ _ _ rfl (HO1.out.alloc _) ⟨w1.heap.size, 0, none⟩ 1 1 [.int .u8 (c : Nat)] rfl rfl (cell_new_row _ _ _) (by simp [Value.oneCell']) (by unfold maxLen; omega) (by omega) (by simp; omega) ?_
  intro v' w2 hp2
  obtain ⟨ho2, hk2', hv2, _⟩ := hp2
  rw [show Lib.strCells t ++ [Value.int .u8 (c : Nat)] = Lib.strCells (t ++ one c) by rw [strCells_append, one_cells hc]] at ho2
  have hk2 : Keep ((Value.slice ad t.size cap).ownBlock.toList) w1 w2 := Keep.trans' (((Keep.refl [] w1).alloc _).mono (by simp)) hk2'
  have hge : ∀ g, (Value.slice ad t.size cap).ownBlock = some g → base ≤ g := fun g hg => (HO1.out.lt g hg).1
  have hb2 := hk2.at_ HB1.out (by intro hm; simp at hm; have := hge _ (by simpa using hm); omega)
  obtain ⟨ad', cap', hv', _⟩ := SlAt.of_owns ho2
  rw [hv'] at ho2
  subst hv'
  have f1 := free_of_block hb2 1
  have c2 : w2.cell? ⟨b, 1, none⟩ = some (.slice ad t.size cap) := by rw [cell_of_block hb2]; rfl
  have hset := block_setCell hb2 1 (.slice ad' (t.size + 1) cap')
  have hlt2 := lt_of_block hb2
  have hkA : Keep (b :: (Value.slice ad t.size cap).ownBlock.toList) w w2 := (HK1.out.mono (by simp)).trans hk2 (by intro x hx; simp [hx])
  have HKA := Lib.hid hkA
  have HK2 := Lib.hid hk2; have HO2 := Lib.hid ho2; have HSET := Lib.hid hset; have HGE := Lib.hid hge
  clear hkA hk2 hk2' hv2 ho2 hset hge hb2
  go_wp2
  go_ret
  refine ⟨rfl, ⟨_, _, HSET.out, .inr rfl, ?_, hbb⟩, ?_, ⟨_, HKA.out.setCell (by simp) _, ?_⟩⟩
  · rw [ByteArray.size_append, one_size]
    refine ownsRow_setCell_other HO2.out (fun e => ?_) _
    have := (HO2.out.lt _ e).1
    simp at this; omega
  · intro i s p hi
    have hib : i ≠ b := by
      intro e; subst e
      obtain ⟨p', v', hbb', _⟩ := H.out
      rw [hbb'] at hi; cases hi
    have h1 := HK1.out.at_ hi (by simp; omega)
    have h2 := HK2.out.at_ h1 (own_not_iter HO1.out h1)
    exact (block_setCell_other _ hib).trans h2
  · intro x hx
    rcases List.mem_cons.1 hx with h | h
    · exact .inl h
    · exact .inr (HGE.out x (by simpa using h))
end Go.Proofs.YtbidppjhenfjdaaGreatDoor
