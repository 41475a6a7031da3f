/-
  Walks of the reference's Text, Mend, Cut.
-/
import Derived.Test.YtjelbeghojgooaaGlyY
import Derived.Lib.AppendStr
namespace Go.Proofs.Ytjelbeghojgooaa
open Go.RowKit
set_option linter.unusedVariables false
set_option linter.unusedSimpArgs false

theorem strCells_append (a b : ByteArray) : Lib.strCells (a ++ b) = Lib.strCells a ++ Lib.strCells b := by
  simp [Lib.strCells, ByteArray.data_append]
set_option maxRecDepth 100000 in
theorem conv_nil (w : World) : (convert 55 9 (.slice none 0 0)).run Try.prog w = .ok (.string ByteArray.empty) w := by
  rw [run_convert_bytes_string w _ _ _ _ _ _ Try.underlying55 Try.underlying5 Try.underlying9]
  rfl
theorem conv_own {w : World} {base : Nat} {v : Value} {s : ByteArray} (h : w.ownsRow base 5 1 v s.size (Lib.strCells s)) : (convert 55 9 v).run Try.prog w = .ok (.string s) w := by
  obtain ⟨hl, h⟩ := h
  rcases h with ⟨rfl, h0⟩ | ⟨g, cap, cur, rfl, _, hg, h1, h2, h3, h4⟩
  · have : s = ByteArray.empty := ext_byt h0 (fun i hi => by omega)
    rw [this]; exact conv_nil w
  · have := run_convert_bytes_back (P := Try.prog) w 55 9 5 ⟨g, 0, none⟩ cap s.data.toList Try.underlying55 Try.underlying5 Try.underlying9 (fun j hj => by
      rw [addr0_add, cell_of_block hg]
      have hs : (Lib.strCells s)[j]? = some (.int .u8 (s.data.toList[j].toNat : Int)) := by
        simp [Lib.strCells, List.getElem?_eq_getElem hj]
      rw [← h4, List.getElem?_take] at hs
      split at hs
      · simpa using hs
      · cases hs)
    have e : s.data.toList.length = s.size := by rw [Array.length_toList]; rfl
    rw [e] at this
    exact this

theorem info_u8 : (Try.prog.info? 5).map (fun i => (i.zero, i.size, i.bytes)) = some (some (.int .u8 0), 1, 1) := by kernel_rfl

theorem txt_take {l : List Int} {k : Nat} (h : k < l.length) : txt (l.take (k + 1)) = txt (l.take k) ++ Utf8.encode l[k] := by
  rw [List.take_succ_eq_append_getElem h, txt_snoc]

theorem own_next_str {e : TypeId} {sz n : Nat} {cs : List Value} {w wr w2 : World} {v : Value} (h1 : wr.ownsRow w.heap.size e sz v n cs) (h2 : Keep [] w wr) (hg : wr.grownBy w2 v.ownBlock) : Keep [] w w2 :=
  h2.trans (keep_of_grown hg) (fun b hb => by simp at hb; exact .inr (h1.lt b hb).1)

set_option maxHeartbeats 8000000 in
theorem rtext_any (va : Value) (l : List Int) (w : World) (hs : SlAt w va l.length (l.map (Value.int .i32))) (hl : l.length ≤ 1073741824) :
    Calls Try.prog 31 #[va] w fun e w' => e = .returned (.string (txt l)) ∧ Keep [] w w' := by
  obtain ⟨i0, hi, hz0, hz1, hz2⟩ := info_parts info_u8
  have HI := Lib.hid hi; have HZ0 := Lib.hid hz0; have HZ1 := Lib.hid hz1; have HZ2 := Lib.hid hz2
  clear hi hz0 hz1 hz2
  obtain ⟨ad, cap, rfl, _, hc⟩ := hs
  have HC := Lib.hid hc; clear hc
  obtain ⟨n, hn⟩ : ∃ n, n = l.length := ⟨_, rfl⟩
  rw [← hn] at hl ⊢
  have HNN := Lib.hid hn; clear hn
  go_enter Try.func31, Try.ntmps31
  go_wp2
  go_loopw [3, 4] (fun v i wr => ∃ k : Nat, k ≤ n ∧ i = .int .i64 k ∧ Keep [] w wr ∧ wr.ownsRow w.heap.size 5 1 v (txt (l.take k)).size (Lib.strCells (txt (l.take k)))) (fun _ i _ => n - (intOf i).toNat)
  case atStart => exact ⟨0, Nat.zero_le _, rfl, Keep.refl _ _, World.ownsRow_nil _ _ _ _⟩
  case round =>
    obtain ⟨k, hk, rfl, hkp, hown⟩ := hrel
    have hts := txt_size (l.take k)
    rw [List.length_take] at hts
    have HO := Lib.hid hown; have HK1 := Lib.hid hkp
    clear hown hkp
    by_cases hlt : k < n
    · have hltd : decide (k < n) = true := by simpa using hlt
      obtain ⟨b, off, rfl, hcs⟩ := HC.out (by rw [← HNN.out]; omega)
      have hkl : k < l.length := by rw [← HNN.out]; exact hlt
      have hc1 := hcs k (.int .i32 l[k]) (by rw [List.getElem?_map, List.getElem?_eq_getElem hkl]; rfl)
      have hc2 := HK1.out.cellv hc1 (by simp)
      have HT := Lib.hid (txt_take hkl)
      have HCS := Lib.hid hcs; clear hcs hc1
      generalize l[k] = x at *
      obtain ⟨y, hy⟩ : ∃ y, y = txt (l.take k) := ⟨_, rfl⟩
      rw [← hy] at hts HT
      have HY := Lib.hid hy; clear hy
      have ho := HO.out
      rw [← HY.out] at ho
      have HO1 := Lib.hid ho; clear HO ho
      have hes := enc_size x
      go_wp2_with fail
      refine (rencode_any x _).mono ?_
      rintro r w1 ⟨rfl, hk2⟩
      have HO2 := Lib.hid (hk2.owns HO1.out (by simp)); have HK2 := Lib.hid (HK1.out.trans0 hk2); clear hk2
      have hsz := HK2.out.size
      generalize Utf8.encode x = z at *
      go_wp2_with (with_reducible refine park_append 11 16 _ rfl ?_)
      refine Lib.wpList_append_own_string _ rfl (.tmp 11) (.tmp 16) 55 9 rfl w.heap.size 5 i0 Try.underlying55 Try.underlying9 HI.out HZ0.out HZ1.out HZ2.out _ _ _ rfl HO2.out z rfl (by unfold maxLen; omega) (by omega) hsz ?_
      intro v' W2 ho2 hg2 _
      have hfin := Lib.hid (own_next_str HO2.out HK2.out hg2)
      have hfo := Lib.hid ho2
      clear ho2 hg2
      go_wp2
      go_roundw
      case rel => exact ⟨k + 1, by omega, by go_num, hfin.out, by rw [HT.out, strCells_append, ByteArray.size_append]; exact hfo.out⟩
      case measure => simp [intOf]; omega
    · have hltd : decide (k < n) = false := by simpa using hlt
      obtain rfl : k = n := by omega
      have ho := HO.out
      rw [List.take_of_length_le (by rw [← HNN.out]; omega)] at ho
      have hcv := conv_own ho
      have HO2 := Lib.hid ho; clear ho HO hts
      go_wp2
      go_ret
      exact ⟨rfl, HK1.out⟩

theorem rmend_any (s : ByteArray) (w : World) (hz : s.size ≤ 1073741824) :
    Calls Try.prog 24 #[.string s] w fun e w' => e = .returned (.string (mend s)) ∧ Keep [] w w' := by
  have hcl := cut_len_le s 0 (Nat.zero_le _)
  have hrl : (runs s 0).length = (cut s 0).length := by simp [runs]
  have HL := Lib.hid (show (runs s 0).length ≤ 1073741824 by omega); clear hrl hcl
  go_enter Try.func24, Try.ntmps24
  go_wp2_with fail
  refine (rrunes_any s w (by omega)).mono ?_
  rintro r w1 ⟨v, rfl, ho, hk, _⟩
  have HS := Lib.hid (SlAt.of_owns ho); have HK := Lib.hid hk; clear ho hk
  go_wp2_with fail
  refine (rtext_any v (runs s 0) _ HS.out HL.out).mono ?_
  rintro r w2 ⟨rfl, hk⟩
  have HK2 := Lib.hid (HK.out.trans0 hk); clear hk
  go_wp2
  go_ret
  exact ⟨rfl, HK2.out⟩

/-- Where a text is cut that is cut behind n runes. -/
def cutAt (s : ByteArray) (n : Int) : Nat := ((cut s 0)[n.toNat]?).getD s.size
def cutV (s : ByteArray) (n : Int) : Value := .tuple #[.string (s.extract 0 (cutAt s n)), .string (s.extract (cutAt s n) s.size)]
theorem ext_end (s : ByteArray) : s.extract s.size s.size = ByteArray.empty := ext_byt (by rw [size_ext _ _ _ (Nat.le_refl _)]; simp) (fun i hi => by rw [size_ext _ _ _ (Nat.le_refl _)] at hi; omega)
theorem cutV_end {s : ByteArray} {n : Int} (h : (cut s 0).length ≤ n.toNat) : cutV s n = .tuple #[.string s, .string ByteArray.empty] := by
  unfold cutV cutAt
  rw [List.getElem?_eq_none h, Option.getD_none, ext_all, ext_end]
theorem cutV_in {s : ByteArray} {n : Int} {i : Nat} (h : (cut s 0)[n.toNat]? = some i) : cutV s n = .tuple #[.string (s.extract 0 i), .string (s.extract i s.size)] := by
  unfold cutV cutAt
  rw [h, Option.getD_some]
theorem cutV_neg {s : ByteArray} {n : Int} (h : n < 0) : cutV s n = cutV s 0 := by
  unfold cutV cutAt
  rw [show n.toNat = (0 : Int).toNat by omega]

set_option maxHeartbeats 8000000 in
theorem rcut_nat (s : ByteArray) (k : Nat) (w : World) (hz : s.size ≤ 1073741824) (n : Int) (hn : (n = k ∧ decide (n < 0) = false) ∨ (k = 0 ∧ decide (n < 0) = true)) :
    Calls Try.prog 18 #[.string s, .int .i64 n] w fun e w' => e = .returned (cutV s k) ∧ Keep [] w w' := by
  have hcl := cut_len_le s 0 (Nat.zero_le _)
  rcases hn with ⟨rfl, hd⟩ | ⟨rfl, hd⟩
  all_goals
    go_enter Try.func18, Try.ntmps18
    go_wp2_with fail
    refine (pieces_any s w (by omega)).mono ?_
    rintro r w1 ⟨v, rfl, ho, hk, _⟩
    obtain ⟨ad, cap, rfl, hc⟩ := PcAt.of_owns ho
    have HC := Lib.hid hc
    have HK := Lib.hid hk; clear hk ho hc
    obtain ⟨n, hn⟩ : ∃ n, n = (cut s 0).length := ⟨_, rfl⟩
    rw [← hn] at hcl ⊢
    have HNN := Lib.hid hn; clear hn
    skip
  · by_cases hlt : k < n
    · have hltd : decide (n ≤ k) = false := by simpa using hlt
      obtain ⟨b, off, rfl, hcs⟩ := HC.out (by rw [← HNN.out]; omega)
      have hkl : k < (cut s 0).length := by rw [← HNN.out]; exact hlt
      have hke := List.getElem?_eq_getElem hkl
      obtain ⟨hat, his⟩ := at_get s k hkl
      obtain ⟨c0, _, _, _⟩ := hcs k _ hke
      have HV := Lib.hid (cutV_in (s := s) (n := (k : Int)) (i := (cut s 0)[k]) hke)
      generalize (cut s 0)[k] = i at *
      have HCS := Lib.hid hcs; clear hcs hke hat
      have hki : ((k : Int) < (n : Int)) := by omega
      go_wp2_with fail
      go_quiet (fail)
      go_wp2
      go_ret2
      exact ⟨by rw [HV.out]; rfl, HK.out.drewN _⟩
    · have hltd : decide (n ≤ k) = true := by simp; omega
      have HV := Lib.hid (cutV_end (s := s) (n := (k : Int)) (by rw [← HNN.out]; simp; omega))
      go_wp2_with fail
      go_ret2
      exact ⟨by rw [HV.out]; rfl, HK.out⟩
  · by_cases hlt : 0 < n
    · have hltd : decide ((n : Int) ≤ 0) = false := by simp; omega
      obtain ⟨b, off, rfl, hcs⟩ := HC.out (by rw [← HNN.out]; omega)
      have hkl : 0 < (cut s 0).length := by rw [← HNN.out]; exact hlt
      have hke := List.getElem?_eq_getElem hkl
      obtain ⟨hat, his⟩ := at_get s 0 hkl
      obtain ⟨c0, _, _, _⟩ := hcs 0 _ hke
      have HV := Lib.hid (cutV_in (s := s) (n := (0 : Nat)) (i := (cut s 0)[0]) hke)
      generalize (cut s 0)[0] = i at *
      have HCS := Lib.hid hcs; clear hcs hke hat
      simp only [Nat.zero_mul, Nat.add_zero] at c0
      have hki : ((0 : Int) < (n : Int)) := by omega
      go_wp2_with fail
      go_quiet (fail)
      go_wp2
      go_ret2
      exact ⟨by rw [HV.out]; rfl, HK.out.drewN _⟩
    · have hltd : decide ((n : Int) ≤ 0) = true := by simp; omega
      have HV := Lib.hid (cutV_end (s := s) (n := ((0 : Nat) : Int)) (by rw [← HNN.out]; simp; omega))
      go_wp2_with fail
      go_ret2
      exact ⟨by rw [HV.out]; rfl, HK.out⟩
theorem rcut_any (s : ByteArray) (n : Int) (w : World) (hz : s.size ≤ 1073741824) :
    Calls Try.prog 18 #[.string s, .int .i64 n] w fun e w' => e = .returned (cutV s n) ∧ Keep [] w w' := by
  by_cases h : n < 0
  · rw [cutV_neg h]; exact rcut_nat s 0 w hz n (.inr ⟨rfl, by simpa using h⟩)
  · obtain ⟨k, rfl⟩ := Int.eq_ofNat_of_zero_le (show 0 ≤ n by omega)
    exact rcut_nat s k w hz k (.inl ⟨rfl, by simp⟩)
end Go.Proofs.Ytjelbeghojgooaa
