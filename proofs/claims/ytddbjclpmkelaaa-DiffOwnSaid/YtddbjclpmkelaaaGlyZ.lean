/-
  Walks of the reference's Text, Mend, Cut.
-/
import Derived.Test.YtddbjclpmkelaaaGlyY
import Derived.Lib.AppendStr
namespace Go.Proofs.Ytddbjclpmkelaaa
open Go.RowKit
set_option linter.unusedVariables false
set_option linter.unusedSimpArgs false

theorem strCells_append (a b : ByteArray) : Lib.strCells (a ++ b) = Lib.strCells a ++ Lib.strCells b := by
  simp [Lib.strCells, ByteArray.data_append]
set_option maxRecDepth 100000 in
theorem conv_nil (w : World) : (convert 68 9 (.slice none 0 0)).run Try.prog w = .ok (.string ByteArray.empty) w := by
  rw [run_convert_bytes_string w _ _ _ _ _ _ Try.underlying68 Try.underlying5 Try.underlying9]
  rfl
theorem conv_own {w : World} {base : Nat} {v : Value} {s : ByteArray} (h : w.ownsRow base 5 1 v s.size (Lib.strCells s)) : (convert 68 9 v).run Try.prog w = .ok (.string s) w := by
  obtain ⟨hl, h⟩ := h
  rcases h with ⟨rfl, h0⟩ | ⟨g, cap, cur, rfl, _, hg, h1, h2, h3, h4⟩
  · have : s = ByteArray.empty := ext_byt h0 (fun i hi => by omega)
    rw [this]; exact conv_nil w
  · have := run_convert_bytes_back (P := Try.prog) w 68 9 5 ⟨g, 0, none⟩ cap s.data.toList Try.underlying68 Try.underlying5 Try.underlying9 (fun j hj => by
      rw [addr0_add, cell_of_block hg]
      have hs : (Lib.strCells s)[j]? = some (.int .u8 (s.data.toList[j].toNat : Int)) := by
        simp [Lib.strCells, List.getElem?_eq_getElem hj]
      rw [← h4, List.getElem?_take] at hs
      split at hs
      · simpa using hs
      · cases hs)
    have e : s.data.toList.length = s.size := by rw [Array.length_toList]; rfl
    rw [e] at this
    exact this

theorem info_u8 : (Try.prog.info? 5).map (fun i => (i.zero, i.size, i.bytes)) = some (some (.int .u8 0), 1, 1) := by kernel_rfl

theorem txt_take {l : List Int} {k : Nat} (h : k < l.length) : txt (l.take (k + 1)) = txt (l.take k) ++ Utf8.encode l[k] := by
  rw [List.take_succ_eq_append_getElem h, txt_snoc]

theorem own_next_str {e : TypeId} {sz n : Nat} {cs : List Value} {w wr w2 : World} {v : Value} (h1 : wr.ownsRow w.heap.size e sz v n cs) (h2 : Keep [] w wr) (hg : wr.grownBy w2 v.ownBlock) : Keep [] w w2 :=
  h2.trans (keep_of_grown hg) (fun b hb => by simp at hb; exact .inr (h1.lt b hb).1)

set_option maxHeartbeats 8000000 in
theorem rtext_any (va : Value) (l : List Int) (w : World) (hs : SlAt w va l.length (l.map (Value.int .i32))) (hl : l.length ≤ 1073741824) :
    Calls Try.prog 34 #[va] w fun e w' => e = .returned (.string (txt l)) ∧ Keep [] w w' := by
  obtain ⟨i0, hi, hz0, hz1, hz2⟩ := info_parts info_u8
  have HI := Lib.hid hi; have HZ0 := Lib.hid hz0; have HZ1 := Lib.hid hz1; have HZ2 := Lib.hid hz2
  clear hi hz0 hz1 hz2
  obtain ⟨ad, cap, rfl, _, hc⟩ := hs
  have HC := Lib.hid hc; clear hc
  obtain ⟨n, hn⟩ : ∃ n, n = l.length := ⟨_, rfl⟩
  rw [← hn] at hl ⊢
  have HNN := Lib.hid hn; clear hn
  go_enter Try.func34, Try.ntmps34
  go_wp2
  go_loopw [3, 4] (fun v i wr => ∃ k : Nat, k ≤ n ∧ i = .int .i64 k ∧ Keep [] w wr ∧ wr.ownsRow w.heap.size 5 1 v (txt (l.take k)).size (Lib.strCells (txt (l.take k)))) (fun _ i _ => n - (intOf i).toNat)
  case atStart => exact ⟨0, Nat.zero_le _, rfl, Keep.refl _ _, World.ownsRow_nil _ _ _ _⟩
  case round =>
    obtain ⟨k, hk, rfl, hkp, hown⟩ := hrel
    have hts := txt_size (l.take k)
    rw [List.length_take] at hts
    have HO := Lib.hid hown; have HK1 := Lib.hid hkp
    clear hown hkp
    by_cases hlt : k < n
    · have hltd : decide (k < n) = true := by simpa using hlt
      obtain ⟨b, off, rfl, hcs⟩ := HC.out (by rw [← HNN.out]; omega)
      have hkl : k < l.length := by rw [← HNN.out]; exact hlt
      have hc1 := hcs k (.int .i32 l[k]) (by rw [List.getElem?_map, List.getElem?_eq_getElem hkl]; rfl)
      have hc2 := HK1.out.cellv hc1 (by simp)
      have HT := Lib.hid (txt_take hkl)
      have HCS := Lib.hid hcs; clear hcs hc1
      generalize l[k] = x at *
      obtain ⟨y, hy⟩ : ∃ y, y = txt (l.take k) := ⟨_, rfl⟩
      rw [← hy] at hts HT
      have HY := Lib.hid hy; clear hy
      have ho := HO.out
      rw [← HY.out] at ho
      have HO1 := Lib.hid ho; clear HO ho
      have hes := enc_size x
      go_wp2_with fail
      refine (rencode_any x _).mono ?_
      rintro r w1 ⟨rfl, hk2⟩
      have HO2 := Lib.hid (hk2.owns HO1.out (by simp)); have HK2 := Lib.hid (HK1.out.trans0 hk2); clear hk2
      have hsz := HK2.out.size
      generalize Utf8.encode x = z at *
      go_wp2_with (with_reducible refine park_append 11 16 _ rfl ?_)
      refine Lib.wpList_append_own_string _ rfl (.tmp 11) (.tmp 16) 68 9 rfl w.heap.size 5 i0 Try.underlying68 Try.underlying9 HI.out HZ0.out HZ1.out HZ2.out _ _ _ rfl HO2.out z rfl (by unfold maxLen; omega) (by omega) hsz ?_
      intro v' W2 ho2 hg2 _
      have hfin := Lib.hid (own_next_str HO2.out HK2.out hg2)
      have hfo := Lib.hid ho2
      clear ho2 hg2
      go_wp2
      go_roundw
      case rel => exact ⟨k + 1, by omega, by go_num, hfin.out, by rw [HT.out, strCells_append, ByteArray.size_append]; exact hfo.out⟩
      case measure => simp [intOf]; omega
    · have hltd : decide (k < n) = false := by simpa using hlt
      obtain rfl : k = n := by omega
      have ho := HO.out
      rw [List.take_of_length_le (by rw [← HNN.out]; omega)] at ho
      have hcv := conv_own ho
      have HO2 := Lib.hid ho; clear ho HO hts
      go_wp2
      go_ret
      exact ⟨rfl, HK1.out⟩

/-- Where a text is cut that is cut behind n runes. -/
def cutAt (s : ByteArray) (n : Int) : Nat := ((cut s 0)[n.toNat]?).getD s.size
def cutV (s : ByteArray) (n : Int) : Value := .tuple #[.string (s.extract 0 (cutAt s n)), .string (s.extract (cutAt s n) s.size)]
theorem ext_end (s : ByteArray) : s.extract s.size s.size = ByteArray.empty := ext_byt (by rw [size_ext _ _ _ (Nat.le_refl _)]; simp) (fun i hi => by rw [size_ext _ _ _ (Nat.le_refl _)] at hi; omega)
theorem cutV_end {s : ByteArray} {n : Int} (h : (cut s 0).length ≤ n.toNat) : cutV s n = .tuple #[.string s, .string ByteArray.empty] := by
  unfold cutV cutAt
  rw [List.getElem?_eq_none h, Option.getD_none, ext_all, ext_end]
theorem cutV_in {s : ByteArray} {n : Int} {i : Nat} (h : (cut s 0)[n.toNat]? = some i) : cutV s n = .tuple #[.string (s.extract 0 i), .string (s.extract i s.size)] := by
  unfold cutV cutAt
  rw [h, Option.getD_some]
theorem cutV_neg {s : ByteArray} {n : Int} (h : n < 0) : cutV s n = cutV s 0 := by
  unfold cutV cutAt
  rw [show n.toNat = (0 : Int).toNat by omega]

end Go.Proofs.Ytddbjclpmkelaaa
