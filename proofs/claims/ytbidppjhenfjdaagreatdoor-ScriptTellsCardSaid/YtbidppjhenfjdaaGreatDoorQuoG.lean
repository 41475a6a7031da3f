/-
  Walk of the reference's Quote.
-/
import Derived.Test.YtbidppjhenfjdaaGreatDoorQuoE
import Derived.Test.YtbidppjhenfjdaaGreatDoorQuoF
import Derived.Test.YtbidppjhenfjdaaGreatDoorStillIn
namespace Go.Proofs.YtbidppjhenfjdaaGreatDoor
open Go.RowKit
set_option linter.unusedVariables false
set_option linter.unusedSimpArgs false

theorem lss_yes {a b : Int} (h : a < b) (W : World) : (binOp .lss 21 (.int .i32 a) (.int .i32 b)).run Tryz.prog W = .ok (.bool true) W := by
  have hu := Tryz.underlying21
  have hd : decide (a < b) = true := by simpa using h
  simp [go_sem, hu, hd]
theorem small_rune {s : ByteArray} {p : Nat} (hp : p < s.size) (hw : wid s p ≠ 0) (h : (dec s p).1 < 128) : byt s p = (dec s p).1 := by
  obtain ⟨_, h'⟩ := rune_of_wid hp hw
  omega
theorem lett_0 {r : Nat} (h : lett r = 0) : r ≠ 34 ∧ r ≠ 92 ∧ r ≠ 10 ∧ r ≠ 13 ∧ r ≠ 9 := by
  unfold lett at h
  (repeat' split at h) <;> omega
theorem lett_1 {r : Nat} (h : lett r ≠ 0) : r = 34 ∨ r = 92 ∨ r = 10 ∨ r = 13 ∨ r = 9 := by
  unfold lett at h
  (repeat' split at h) <;> omega
theorem eql_yes {a b : Int} (h : a = b) (W : World) : (binOp .eql 21 (.int .i32 a) (.int .i32 b)).run Tryz.prog W = .ok (.bool true) W := by
  have hu := Tryz.underlying21
  have hd : (a == b) = true := by simpa using h
  simp [go_sem, hu, hd]
theorem conv_i32_u8 {ri : Int} {c : Nat} (h : ri = (c : Nat) ∧ c < 256) (W : World) : (convert 21 5 (.int .i32 ri)).run Tryz.prog W = .ok (.int .u8 (c : Nat)) W := by
  obtain ⟨rfl, h⟩ := h
  have hu := Tryz.underlying5
  have hv := Tryz.underlying21
  have hw : IntKind.u8.wrap (c : Int) = (c : Int) := by rw [IntKind.wrap_u8]; omega
  simp [go_sem, hu, hv, hw]
theorem slice_str {s : ByteArray} {p n : Nat} (h : p + n ≤ s.size) (W : World) : (Instr.slice 9 (.string s) (some (.int .i64 (p : Nat))) (some (.int .i64 ((p : Int) + (n : Int)))) none).run Tryz.prog W = .ok (.string (s.extract p (p + n))) W := by
  have hu := Tryz.underlying9
  have h1 : (p : Int) + (n : Int) ≤ (s.size : Int) := by omega
  have h2 : ((p : Int) + (n : Int)).toNat = p + n := by omega
  simp [go_sem, hu, h1, h2]
  rw [if_pos (by omega), if_pos (by omega)]
/-- The text so far. -/
def qso (s : ByteArray) (k : Nat) : ByteArray := one 34 ++ qcat s ((cut s 0).take k)
theorem qso_succ {s : ByteArray} {k p : Nat} (h : (cut s 0)[k]? = some p) : qso s (k + 1) = qso s k ++ qp s p := by
  unfold qso
  rw [List.take_add_one, h, ByteArray.append_assoc]
  simp only [Option.toList]
  rw [qcat_snoc]
theorem qso_size {s : ByteArray} (k : Nat) (hz : s.size ≤ 100000000) : (qso s k).size ≤ 1000000001 := by
  unfold qso
  have h1 := cut_len_le s 0 (Nat.zero_le _)
  have h2 := qcat_size (s := s) (l := (cut s 0).take k) (fun i hi => by
    obtain ⟨j, hj, rfl⟩ := List.getElem_of_mem (List.mem_of_mem_take hi)
    exact (at_get s j hj).2)
  rw [List.length_take] at h2
  rw [ByteArray.size_append, one_size]
  omega
theorem qso_all (s : ByteArray) : qso s (cut s 0).length ++ one 34 = quo s := by
  unfold qso quo
  rw [List.take_of_length_le (Nat.le_refl _)]
/-- A row of bytes that grows. -/
theorem row_next {B : Nat} {w1 wr w2 w3 : World} {v v' : Value} {x y : ByteArray} {news : List Value} (h1 : wr.ownsRow w1.heap.size 5 1 v x.size (Lib.strCells x)) (hk : Keep [] w1 wr) (hk2 : Keep [] wr w2) (hn : news = Lib.strCells y)
    (ha : AppPost w2 w1.heap.size 5 1 v x.size (Lib.strCells x) y.size news v' w3) : w3.ownsRow w1.heap.size 5 1 v' (x ++ y).size (Lib.strCells (x ++ y)) ∧ Keep [] w1 w3 := by
  obtain ⟨a1, a2, a3, a4⟩ := ha
  refine ⟨?_, (hk.trans0 hk2).trans a2 (fun b hb => by simp at hb; exact .inr (h1.lt b hb).1)⟩
  rw [ByteArray.size_append, strCells_append, ← hn]
  exact a1
theorem row_str {w1 wr w3 : World} {v v' : Value} {x y : ByteArray} (h1 : wr.ownsRow w1.heap.size 5 1 v x.size (Lib.strCells x)) (hk : Keep [] w1 wr)
    (ho : w3.ownsRow w1.heap.size 5 1 v' (x.size + y.size) (Lib.strCells x ++ Lib.strCells y)) (hg : wr.grownBy w3 v.ownBlock) : w3.ownsRow w1.heap.size 5 1 v' (x ++ y).size (Lib.strCells (x ++ y)) ∧ Keep [] w1 w3 := by
  refine ⟨?_, hk.trans (keep_of_grown hg) (fun b hb => by simp at hb; exact .inr (h1.lt b hb).1)⟩
  rw [ByteArray.size_append, strCells_append]
  exact ho

set_option maxRecDepth 100000 in
set_option maxHeartbeats 16000000 in
theorem rquote_any (s : ByteArray) (w : World) (hz : s.size ≤ 100000000) :
    Calls Tryz.prog 37 #[.string s] w fun e w' => e = .returned (.string (quo s)) ∧ Keep [] w w' := by
  obtain ⟨i0, hi, hz0, hz1, hz2⟩ := info_parts info_u8
  have HI := Lib.hid hi; have HZ0 := Lib.hid hz0; have HZ1 := Lib.hid hz1; have HZ2 := Lib.hid hz2
  clear hi hz0 hz1 hz2
  have hcl := cut_len_le s 0 (Nat.zero_le _)
  go_enter Tryz.func37, Tryz.ntmps37
  go_wp2_with fail
  refine (pieces_any s w (by omega)).mono ?_
  rintro r w1 ⟨v, rfl, ho, hk, _⟩
  obtain ⟨ad, cap, rfl, hc⟩ := PcAt.of_owns ho
  have HC := Lib.hid hc
  have HK := Lib.hid hk; clear hk ho hc
  obtain ⟨n, hn⟩ : ∃ n, n = (cut s 0).length := ⟨_, rfl⟩
  rw [← hn] at hcl ⊢
  have HNN := Lib.hid hn; clear hn
  have c34 : [Value.int .u8 34] = Lib.strCells (one 34) := rfl
  go_wp2_with (at_builtin; refine wpList_append_mine _ rfl (.tmp 9) (.tmp 10) 38 rfl w1.heap.size 5 i0 (.int .u8 0) 1 1 Tryz.underlying38 HI.out HZ0.out HZ1.out HZ2.out rfl (by decide) _ _ _ rfl (World.ownsRow_nil _ _ _ _) ⟨w1.heap.size, 0, none⟩ 1 1 [.int .u8 34] rfl rfl (cell_new_row _ _ _) (by simp [Value.oneCell']) (by unfold maxLen; omega) (by omega) (by simp) ?_; intro v2 W2 hp2; have hfin := Lib.hid (row_next (B := 0) (x := ByteArray.empty) (y := one 34) (World.ownsRow_nil _ _ _ _) (Keep.refl [] w1) ((Keep.refl _ _).alloc _) c34 hp2); clear hp2)
  rw [ByteArray.empty_append] at hfin
  go_loopw [4, 5] (fun v i wr => ∃ k : Nat, k ≤ n ∧ i = .int .i64 k ∧ Keep [] w1 wr ∧ wr.ownsRow w1.heap.size 5 1 v (qso s k).size (Lib.strCells (qso s k))) (fun _ i _ => n - (intOf i).toNat)
  case atStart => exact ⟨0, Nat.zero_le _, rfl, hfin.out.2, by rw [show qso s 0 = one 34 by simp [qso, qcat]]; exact hfin.out.1⟩
  case round =>
    clear hfin
    obtain ⟨k, hk, rfl, hkp, hown⟩ := hrel
    have hqz := qso_size k hz
    have HO := Lib.hid hown; have HK1 := Lib.hid hkp; clear hown hkp
    by_cases hlt : k < n
    · have hltd : decide (k < n) = true := by simpa using hlt
      obtain ⟨b, off, rfl, hcs⟩ := HC.out (by rw [← HNN.out]; omega)
      have hkl : k < (cut s 0).length := by rw [← HNN.out]; exact hlt
      have hke := List.getElem?_eq_getElem hkl
      obtain ⟨hat, his⟩ := at_get s k hkl
      obtain ⟨d0, d1, d2, d3⟩ := hcs k _ hke
      generalize (cut s 0)[k] = p at *
      have c0 := HK1.out.cellv d0 (by simp)
      have c1 := HK1.out.cellv d1 (by simp)
      have c2 := HK1.out.cellv d2 (by simp)
      have c3 := HK1.out.cellv d3 (by simp)
      have HSU := Lib.hid (qso_succ hke)
      have hsz1 := HK1.out.size
      clear d0 d1 d2 d3 hcs hat hkl hke
      generalize qso s k = x at *
      have hix := byte_at his
      have hn := dec_n his
      have hbl := byt_lt s p
      have HRI : Hid ((((dec s p).1 : Nat) : Int) = (((dec s p).1 : Nat) : Int)) := Lib.hid rfl
      have hdle := dec_le his
      have HQ := Lib.hid (show qp s p = if wid s p = 0 then two (byt s p) else if lett (dec s p).1 ≠ 0 then one 92 ++ one (lett (dec s p).1) else if (dec s p).1 < 32 ∨ (dec s p).1 = 127 then two (byt s p) else if hr (dec s p).1 = true then braces (dec s p).1 else Utf8.encode (dec s p).1 from rfl)
      have hcases : (wid s p = 0) ∨ (wid s p ≠ 0 ∧ lett (dec s p).1 ≠ 0) ∨ (wid s p ≠ 0 ∧ lett (dec s p).1 = 0 ∧ (dec s p).1 < 32) ∨ (wid s p ≠ 0 ∧ lett (dec s p).1 = 0 ∧ ¬ (dec s p).1 < 32 ∧ (dec s p).1 = 127) ∨ (wid s p ≠ 0 ∧ lett (dec s p).1 = 0 ∧ ¬ (dec s p).1 < 32 ∧ (dec s p).1 ≠ 127) := by omega
      rcases hcases with h0 | ⟨h0, h1⟩ | ⟨h0, h1, h2⟩ | ⟨h0, h1, h2, h3⟩ | ⟨h0, h1, h2, h3⟩
      · have HQ2 : Hid (qp s p = two (byt s p)) := Lib.hid (by rw [HQ.out, if_pos h0])
        have tb : isB s p = false := by unfold isB; simpa using h0
        rw [tb] at c3
        clear tb h0 HQ hdle hn
        generalize (((dec s p).1 : Nat) : Int) = ri at *
        generalize (((dec s p).2 : Nat) : Int) = ni at *
        go_wp2_with fail
        refine (two_any (byt s p) wr hbl).mono ?_
        rintro e w2 ⟨rfl, hk2⟩
        have HO2 := Lib.hid (hk2.owns HO.out (by simp)); have HK2 := Lib.hid (HK1.out.trans0 hk2)
        have HS2 := Lib.hid HK2.out.size
        clear hk2
        have HSZ := Lib.hid (show _ ∧ x.size ≤ 1000000001 from ⟨two_size (byt s p), hqz⟩); clear hqz
        generalize two (byt s p) = z at *
        go_wp2_with (with_reducible refine park_append 50 58 _ rfl ?_)
        refine Lib.wpList_append_own_string _ rfl (.tmp 50) (.tmp 58) 38 9 rfl w1.heap.size 5 i0 Tryz.underlying38 Tryz.underlying9 HI.out HZ0.out HZ1.out HZ2.out _ _ _ rfl HO2.out z rfl (by have := HSZ.out; unfold maxLen; omega) (by have := HSZ.out; omega) HS2.out ?_
        intro v3 W3 ho3 hg3 _
        have hfin := Lib.hid (row_str HO2.out HK2.out ho3 hg3)
        clear ho3 hg3
        rw [← HQ2.out, ← HSU.out] at hfin
        go_wp2
        go_roundw
        case rel => exact ⟨k + 1, by omega, by go_num, hfin.out.2, hfin.out.1⟩
        case measure => simp [intOf]; omega
      · have HQ2 : Hid (qp s p = one 92 ++ one (lett (dec s p).1)) := Lib.hid (by rw [HQ.out, if_neg h0, if_pos h1])
        have tb : isB s p = true := by unfold isB; simpa using h0
        rw [tb] at c3
        have hr5 := lett_1 h1
        clear tb h0 HQ hdle hn h1 HRI
        generalize (((dec s p).2 : Nat) : Int) = ni at *
        rcases hr5 with h | h | h | h | h
        · rw [h] at c1 HQ2
          have hl : lett 34 = 34 := by decide
          rw [hl] at HQ2
          clear hl h
          have cs : [Value.int .u8 92, .int .u8 34] = Lib.strCells (one 92 ++ one 34) := by rw [strCells_append]; rfl
          go_wp2_with (at_builtin; refine wpList_append_mine _ rfl (.tmp 63) (.tmp 64) 38 rfl w1.heap.size 5 i0 (.int .u8 0) 1 1 Tryz.underlying38 HI.out HZ0.out HZ1.out HZ2.out rfl (by decide) _ _ _ rfl (HO.out.alloc _) ⟨wr.heap.size, 0, none⟩ 2 2 [.int .u8 92, .int .u8 34] rfl rfl (cell_new_row _ _ _) (by simp [Value.oneCell']) (by unfold maxLen; omega) (by omega) (by simp; omega) ?_; intro v2 W2 hp2; have hfin := Lib.hid (row_next (B := 0) (y := one 92 ++ one 34) HO.out HK1.out ((Keep.refl _ _).alloc _) cs hp2); clear hp2)
          rw [← HQ2.out, ← HSU.out] at hfin
          go_roundw
          case rel => exact ⟨k + 1, by omega, by go_num, hfin.out.2, hfin.out.1⟩
          case measure => simp [intOf]; omega
        · rw [h] at c1 HQ2
          have hl : lett 92 = 92 := by decide
          rw [hl] at HQ2
          clear hl h
          have cs : [Value.int .u8 92, .int .u8 92] = Lib.strCells (one 92 ++ one 92) := by rw [strCells_append]; rfl
          go_wp2_with (at_builtin; refine wpList_append_mine _ rfl (.tmp 69) (.tmp 70) 38 rfl w1.heap.size 5 i0 (.int .u8 0) 1 1 Tryz.underlying38 HI.out HZ0.out HZ1.out HZ2.out rfl (by decide) _ _ _ rfl (HO.out.alloc _) ⟨wr.heap.size, 0, none⟩ 2 2 [.int .u8 92, .int .u8 92] rfl rfl (cell_new_row _ _ _) (by simp [Value.oneCell']) (by unfold maxLen; omega) (by omega) (by simp; omega) ?_; intro v2 W2 hp2; have hfin := Lib.hid (row_next (B := 0) (y := one 92 ++ one 92) HO.out HK1.out ((Keep.refl _ _).alloc _) cs hp2); clear hp2)
          rw [← HQ2.out, ← HSU.out] at hfin
          go_roundw
          case rel => exact ⟨k + 1, by omega, by go_num, hfin.out.2, hfin.out.1⟩
          case measure => simp [intOf]; omega
        · rw [h] at c1 HQ2
          have hl : lett 10 = 110 := by decide
          rw [hl] at HQ2
          clear hl h
          have cs : [Value.int .u8 92, .int .u8 110] = Lib.strCells (one 92 ++ one 110) := by rw [strCells_append]; rfl
          go_wp2_with (at_builtin; refine wpList_append_mine _ rfl (.tmp 75) (.tmp 76) 38 rfl w1.heap.size 5 i0 (.int .u8 0) 1 1 Tryz.underlying38 HI.out HZ0.out HZ1.out HZ2.out rfl (by decide) _ _ _ rfl (HO.out.alloc _) ⟨wr.heap.size, 0, none⟩ 2 2 [.int .u8 92, .int .u8 110] rfl rfl (cell_new_row _ _ _) (by simp [Value.oneCell']) (by unfold maxLen; omega) (by omega) (by simp; omega) ?_; intro v2 W2 hp2; have hfin := Lib.hid (row_next (B := 0) (y := one 92 ++ one 110) HO.out HK1.out ((Keep.refl _ _).alloc _) cs hp2); clear hp2)
          rw [← HQ2.out, ← HSU.out] at hfin
          go_roundw
          case rel => exact ⟨k + 1, by omega, by go_num, hfin.out.2, hfin.out.1⟩
          case measure => simp [intOf]; omega
        · rw [h] at c1 HQ2
          have hl : lett 13 = 114 := by decide
          rw [hl] at HQ2
          clear hl h
          have cs : [Value.int .u8 92, .int .u8 114] = Lib.strCells (one 92 ++ one 114) := by rw [strCells_append]; rfl
          go_wp2_with (at_builtin; refine wpList_append_mine _ rfl (.tmp 81) (.tmp 82) 38 rfl w1.heap.size 5 i0 (.int .u8 0) 1 1 Tryz.underlying38 HI.out HZ0.out HZ1.out HZ2.out rfl (by decide) _ _ _ rfl (HO.out.alloc _) ⟨wr.heap.size, 0, none⟩ 2 2 [.int .u8 92, .int .u8 114] rfl rfl (cell_new_row _ _ _) (by simp [Value.oneCell']) (by unfold maxLen; omega) (by omega) (by simp; omega) ?_; intro v2 W2 hp2; have hfin := Lib.hid (row_next (B := 0) (y := one 92 ++ one 114) HO.out HK1.out ((Keep.refl _ _).alloc _) cs hp2); clear hp2)
          rw [← HQ2.out, ← HSU.out] at hfin
          go_roundw
          case rel => exact ⟨k + 1, by omega, by go_num, hfin.out.2, hfin.out.1⟩
          case measure => simp [intOf]; omega
        · rw [h] at c1 HQ2
          have hl : lett 9 = 116 := by decide
          rw [hl] at HQ2
          clear hl h
          have cs : [Value.int .u8 92, .int .u8 116] = Lib.strCells (one 92 ++ one 116) := by rw [strCells_append]; rfl
          go_wp2_with (at_builtin; refine wpList_append_mine _ rfl (.tmp 87) (.tmp 88) 38 rfl w1.heap.size 5 i0 (.int .u8 0) 1 1 Tryz.underlying38 HI.out HZ0.out HZ1.out HZ2.out rfl (by decide) _ _ _ rfl (HO.out.alloc _) ⟨wr.heap.size, 0, none⟩ 2 2 [.int .u8 92, .int .u8 116] rfl rfl (cell_new_row _ _ _) (by simp [Value.oneCell']) (by unfold maxLen; omega) (by omega) (by simp; omega) ?_; intro v2 W2 hp2; have hfin := Lib.hid (row_next (B := 0) (y := one 92 ++ one 116) HO.out HK1.out ((Keep.refl _ _).alloc _) cs hp2); clear hp2)
          rw [← HQ2.out, ← HSU.out] at hfin
          go_roundw
          case rel => exact ⟨k + 1, by omega, by go_num, hfin.out.2, hfin.out.1⟩
          case measure => simp [intOf]; omega
      · have HQ2 : Hid (qp s p = two (byt s p)) := Lib.hid (by rw [HQ.out, if_neg h0, if_neg (by simp [h1]), if_pos (.inl h2)])
        have tb : isB s p = true := by unfold isB; simpa using h0
        rw [tb] at c3
        have hl5 := lett_0 h1
        have hby := small_rune his h0 (by omega)
        rw [← hby] at c1 hl5 h2
        clear tb h0 HQ hdle hn h1 HRI hby 
        generalize (((dec s p).2 : Nat) : Int) = ni at *
        generalize hri : (((byt s p : Nat)) : Int) = ri at c1
        have e1 : (ri == 34) = false := by simp; omega
        have e2 : (ri == 92) = false := by simp; omega
        have e3 : (ri == 10) = false := by simp; omega
        have e4 : (ri == 13) = false := by simp; omega
        have e5 : (ri == 9) = false := by simp; omega
        have e6 : decide (ri < 32) = true := by simp; omega
        have hcv : ∀ W, (convert 21 5 (.int .i32 ri)).run Tryz.prog W = .ok (.int .u8 (byt s p : Nat)) W := fun W => conv_i32_u8 (by omega) W
        clear hl5 h2 hri
        go_wp2_with fail
        refine (two_any (byt s p) wr hbl).mono ?_
        rintro e w2 ⟨rfl, hk2⟩
        have HO2 := Lib.hid (hk2.owns HO.out (by simp)); have HK2 := Lib.hid (HK1.out.trans0 hk2)
        have HS2 := Lib.hid HK2.out.size
        clear hk2
        have HSZ := Lib.hid (show _ ∧ x.size ≤ 1000000001 from ⟨two_size (byt s p), hqz⟩); clear hqz
        generalize two (byt s p) = z at *
        clear e1 e2 e3 e4 e5 e6 hcv hix hbl
        go_wp2_with (with_reducible refine park_append 97 100 _ rfl ?_)
        refine Lib.wpList_append_own_string _ rfl (.tmp 97) (.tmp 100) 38 9 rfl w1.heap.size 5 i0 Tryz.underlying38 Tryz.underlying9 HI.out HZ0.out HZ1.out HZ2.out _ _ _ rfl HO2.out z rfl (by have := HSZ.out; unfold maxLen; omega) (by have := HSZ.out; omega) HS2.out ?_
        intro v3 W3 ho3 hg3 _
        have hfin := Lib.hid (row_str HO2.out HK2.out ho3 hg3)
        clear ho3 hg3
        rw [← HQ2.out, ← HSU.out] at hfin
        go_wp2
        go_roundw
        case rel => exact ⟨k + 1, by omega, by go_num, hfin.out.2, hfin.out.1⟩
        case measure => simp [intOf]; omega
      · have HQ2 : Hid (qp s p = two (byt s p)) := Lib.hid (by rw [HQ.out, if_neg h0, if_neg (by simp [h1]), if_pos (.inr h3)])
        have tb : isB s p = true := by unfold isB; simpa using h0
        rw [tb] at c3
        have hl5 := lett_0 h1
        have hby := small_rune his h0 (by omega)
        rw [← hby] at c1 hl5 h3
        clear tb h0 HQ hdle hn h1 HRI hby h2
        generalize (((dec s p).2 : Nat) : Int) = ni at *
        generalize hri : (((byt s p : Nat)) : Int) = ri at c1
        have e1 : (ri == 34) = false := by simp; omega
        have e2 : (ri == 92) = false := by simp; omega
        have e3 : (ri == 10) = false := by simp; omega
        have e4 : (ri == 13) = false := by simp; omega
        have e5 : (ri == 9) = false := by simp; omega
        have e6 : decide (ri < 32) = false := by simp; omega
        have e7 : (ri == 127) = true := by simp; omega
        have hcv : ∀ W, (convert 21 5 (.int .i32 ri)).run Tryz.prog W = .ok (.int .u8 (byt s p : Nat)) W := fun W => conv_i32_u8 (by omega) W
        clear hl5 h3 hri
        go_wp2_with fail
        refine (two_any (byt s p) wr hbl).mono ?_
        rintro e w2 ⟨rfl, hk2⟩
        have HO2 := Lib.hid (hk2.owns HO.out (by simp)); have HK2 := Lib.hid (HK1.out.trans0 hk2)
        have HS2 := Lib.hid HK2.out.size
        clear hk2
        have HSZ := Lib.hid (show _ ∧ x.size ≤ 1000000001 from ⟨two_size (byt s p), hqz⟩); clear hqz
        generalize two (byt s p) = z at *
        clear e1 e2 e3 e4 e5 e6 hcv hix hbl
        go_wp2_with (with_reducible refine park_append 97 100 _ rfl ?_)
        refine Lib.wpList_append_own_string _ rfl (.tmp 97) (.tmp 100) 38 9 rfl w1.heap.size 5 i0 Tryz.underlying38 Tryz.underlying9 HI.out HZ0.out HZ1.out HZ2.out _ _ _ rfl HO2.out z rfl (by have := HSZ.out; unfold maxLen; omega) (by have := HSZ.out; omega) HS2.out ?_
        intro v3 W3 ho3 hg3 _
        have hfin := Lib.hid (row_str HO2.out HK2.out ho3 hg3)
        clear ho3 hg3
        rw [← HQ2.out, ← HSU.out] at hfin
        go_wp2
        go_roundw
        case rel => exact ⟨k + 1, by omega, by go_num, hfin.out.2, hfin.out.1⟩
        case measure => simp [intOf]; omega
      · have HQ2 : Hid (qp s p = if hr (dec s p).1 = true then braces (dec s p).1 else Utf8.encode (dec s p).1) := Lib.hid (by rw [HQ.out, if_neg h0, if_neg (by simp [h1]), if_neg (by omega)])
        have tb : isB s p = true := by unfold isB; simpa using h0
        rw [tb] at c3
        have hl5 := lett_0 h1
        have HV := Lib.hid (show hr (dec s p).1 = hr (dec s p).1 ∧ 0 < (dec s p).1 ∧ (dec s p).1 ≤ 1114111 from ⟨rfl, by omega, hdle⟩)
        have HEN := Lib.hid ((rune_of_wid his h0).enc)
        have hnw := wid_snd h0
        rw [← hnw] at HEN
        have HH := Lib.hid (rhidden_any ((dec s p).1 : Nat) wr)
        have HB := Lib.hid (braces_any (dec s p).1 wr (by omega) (by omega))
        have HBZ := Lib.hid (braces_size hdle)
        generalize hgo : hr ((dec s p).1 : Nat) = hv at HH HQ2
        generalize hri : (((dec s p).1 : Nat) : Int) = ri at c1 HH HB
        have e1 : (ri == 34) = false := by simp; omega
        have e2 : (ri == 92) = false := by simp; omega
        have e3 : (ri == 10) = false := by simp; omega
        have e4 : (ri == 13) = false := by simp; omega
        have e5 : (ri == 9) = false := by simp; omega
        have e6 : decide (ri < 32) = false := by simp; omega
        have e7 : (ri == 127) = false := by simp; omega
        clear tb h0 HQ hdle h1 h2 h3 hl5 hnw hri HRI
        clear hgo
        cases hv
        · rw [if_neg (by simp)] at HQ2
          rw [HEN.out] at HQ2
          clear HEN HB HBZ HV
          generalize (dec s p).2 = nn at *
          obtain ⟨z, hz⟩ : ∃ z, z = s.extract p (p + nn) := ⟨_, rfl⟩
          have hzz : z.size ≤ 4 := by rw [hz, ByteArray.size_extract]; omega
          rw [← hz] at HQ2
          have hsl : ∀ W, (Instr.slice 9 (.string s) (some (.int .i64 (p : Nat))) (some (.int .i64 ((p : Int) + (nn : Int)))) none).run Tryz.prog W = .ok (.string z) W := by rw [hz]; exact fun W => slice_str hn.2.2 W
          clear hz
          go_wp2_with fail
          refine HH.out.mono ?_
          rintro e w2 ⟨rfl, rfl⟩
          clear HH e1 e2 e3 e4 e5 e6 e7
          go_wp2_with fail
          have hw1 : IntKind.i64.wrap ((p : Int) + (nn : Int)) = (p : Int) + (nn : Int) := by rw [IntKind.wrap_i64]; omega
          refine wp_still_tail_drew 19 (by kernel_rfl) (by kernel_rfl) ?_
          simp only [List.take_succ_cons, List.take_zero, List.drop_succ_cons, List.drop_zero]
          repeat still_step
          refine wpStill_nil ?_
          have HO2 := Lib.hid (((Keep.refl [] wr).drew).owns HO.out (by simp)); have HK2 := Lib.hid HK1.out.drew
          have HS2 := Lib.hid HK2.out.size
          have HSZ := Lib.hid (show _ ∧ x.size ≤ 1000000001 from ⟨hzz, hqz⟩); clear hqz hzz
          go_wp2_with (with_reducible refine park_append 23 41 _ rfl ?_)
          refine Lib.wpList_append_own_string _ rfl (.tmp 23) (.tmp 41) 38 9 rfl w1.heap.size 5 i0 Tryz.underlying38 Tryz.underlying9 HI.out HZ0.out HZ1.out HZ2.out _ _ _ rfl HO2.out z rfl (by have := HSZ.out; unfold maxLen; omega) (by have := HSZ.out; omega) HS2.out ?_
          intro v3 W3 ho3 hg3 _
          have hfin := Lib.hid (row_str HO2.out HK2.out ho3 hg3)
          clear ho3 hg3
          rw [← HQ2.out, ← HSU.out] at hfin
          go_wp2
          go_roundw
          case rel => exact ⟨k + 1, by omega, by go_num, hfin.out.2, hfin.out.1⟩
          case measure => simp [intOf]; omega
        · rw [if_pos rfl] at HQ2
          clear HEN HV
          go_wp2_with fail
          refine HH.out.mono ?_
          rintro e w2 ⟨rfl, rfl⟩
          clear HH e1 e2 e3 e4 e5 e6 e7
          generalize braces (dec s p).1 = z at *
          have hzz := HBZ.out; clear HBZ
          go_wp2_with fail
          refine (HB.out).mono ?_
          rintro e w2 ⟨rfl, hk2⟩
          have HO2 := Lib.hid (hk2.owns HO.out (by simp)); have HK2 := Lib.hid (HK1.out.trans0 hk2)
          have HS2 := Lib.hid HK2.out.size
          clear hk2
          have HSZ := Lib.hid (show _ ∧ x.size ≤ 1000000001 from ⟨hzz, hqz⟩); clear hqz
          clear hzz HB
          go_wp2_with (with_reducible refine park_append 105 107 _ rfl ?_)
          refine Lib.wpList_append_own_string _ rfl (.tmp 105) (.tmp 107) 38 9 rfl w1.heap.size 5 i0 Tryz.underlying38 Tryz.underlying9 HI.out HZ0.out HZ1.out HZ2.out _ _ _ rfl HO2.out z rfl (by have := HSZ.out; unfold maxLen; omega) (by have := HSZ.out; omega) HS2.out ?_
          intro v3 W3 ho3 hg3 _
          have hfin := Lib.hid (row_str HO2.out HK2.out ho3 hg3)
          clear ho3 hg3
          rw [← HQ2.out, ← HSU.out] at hfin
          go_wp2
          go_roundw
          case rel => exact ⟨k + 1, by omega, by go_num, hfin.out.2, hfin.out.1⟩
          case measure => simp [intOf]; omega
    · have hltd : decide (k < n) = false := by simpa using hlt
      obtain rfl : k = n := by omega
      have HQA := Lib.hid (qso_all s)
      rw [← HNN.out] at HQA
      generalize qso s k = x at *
      have hsz1 := HK1.out.size
      go_wp2_with (at_builtin; refine wpList_append_mine _ rfl (.tmp 109) (.tmp 110) 38 rfl w1.heap.size 5 i0 (.int .u8 0) 1 1 Tryz.underlying38 HI.out HZ0.out HZ1.out HZ2.out rfl (by decide) _ _ _ rfl (HO.out.alloc _) ⟨wr.heap.size, 0, none⟩ 1 1 [.int .u8 34] rfl rfl (cell_new_row _ _ _) (by simp [Value.oneCell']) (by unfold maxLen; omega) (by omega) (by simp; omega) ?_; intro v2 W2 hp2; have hfin := Lib.hid (row_next (B := 0) (y := one 34) HO.out HK1.out ((Keep.refl _ _).alloc _) c34 hp2); clear hp2; rw [HQA.out] at hfin; have hcv := conv_own hfin.out.1)
      go_ret
      exact ⟨rfl, HK.out.trans0 hfin.out.2⟩
end Go.Proofs.YtbidppjhenfjdaaGreatDoor
