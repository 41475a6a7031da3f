/-
  Texts made of runes, cut and joined: plain.
-/
import Derived.Test.YtbmapellhcdipaaDoorGlyZ
namespace Go.Proofs.YtbmapellhcdipaaDoor
set_option linter.unusedVariables false
set_option linter.unusedSimpArgs false

theorem cut_places (L : List Int) : ∀ (p : ByteArray) (k : Nat), k < L.length → (cut (p ++ txt L) p.size)[k]? = some (p.size + (txt (L.take k)).size) := by
  induction L with
  | nil => intro p k h; simp at h
  | cons n L ih =>
    intro p k hk
    have hr := rune_mid p (txt L) n
    have hd := hr.dec
    have hlt : p.size < (p ++ txt (n :: L)).size := by have := enc_size n; rw [ByteArray.size_append, size_txt_cons]; omega
    change dec (p ++ txt (n :: L)) p.size = _ at hd
    rw [cut_step hlt, hd]
    cases k with
    | zero => simp [txt]
    | succ k =>
      have := ih (p ++ Utf8.encode n) k (by simpa using hk)
      have e : p ++ Utf8.encode n ++ txt L = p ++ txt (n :: L) := by simp [txt, ByteArray.append_assoc]
      rw [e, ByteArray.size_append] at this
      rw [List.getElem?_cons_succ, this, List.take_succ_cons, size_txt_cons, Nat.add_assoc]
theorem ext_left (a b : ByteArray) : (a ++ b).extract 0 a.size = a := by
  have hz : a.size ≤ (a ++ b).size := by rw [ByteArray.size_append]; omega
  apply ext_byt
  · rw [size_ext _ _ _ hz]; omega
  · intro i hi
    rw [size_ext _ _ _ hz] at hi
    rw [byt_extract _ _ _ _ (by omega) hz, Nat.zero_add, byt_append_left _ _ _ (by omega)]
theorem ext_right (a b : ByteArray) : (a ++ b).extract a.size (a ++ b).size = b := by
  apply ext_byt
  · rw [size_ext _ _ _ (Nat.le_refl _), ByteArray.size_append]; omega
  · intro i hi
    rw [byt_tail, byt_append_right]
theorem cutV_txt (L : List Int) (n : Int) : cutV (txt L) n = .tuple #[.string (txt (L.take n.toNat)), .string (txt (L.drop n.toNat))] := by
  by_cases h : n.toNat < L.length
  · have hp := cut_places L ByteArray.empty n.toNat h
    simp only [ByteArray.empty_append, ByteArray.size_empty, Nat.zero_add] at hp
    have e : txt L = txt (L.take n.toNat) ++ txt (L.drop n.toNat) := by rw [← txt_append, List.take_append_drop]
    rw [cutV_in hp]
    have h1 : (txt L).extract 0 (txt (L.take n.toNat)).size = txt (L.take n.toNat) := by
      have := ext_left (txt (L.take n.toNat)) (txt (L.drop n.toNat))
      rwa [← e] at this
    have h2 : (txt L).extract (txt (L.take n.toNat)).size (txt L).size = txt (L.drop n.toNat) := by
      have := ext_right (txt (L.take n.toNat)) (txt (L.drop n.toNat))
      rwa [← e] at this
    rw [h1, h2]
  · rw [cutV_end (by rw [cut_txt_len]; omega), List.take_of_length_le (by omega), List.drop_eq_nil_of_le (by omega)]
    rfl
end Go.Proofs.YtbmapellhcdipaaDoor
