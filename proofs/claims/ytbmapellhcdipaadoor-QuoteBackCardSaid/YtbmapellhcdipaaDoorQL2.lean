/-
  Walk of the law QuoteUnquotes.
-/
import Derived.Test.YtbmapellhcdipaaDoorQuoT
import Derived.Test.YtbmapellhcdipaaDoorQuoG
import Derived.Laws.IdiomStrings
import Derived.Deep.CutRange
namespace Go.Proofs.YtbmapellhcdipaaDoor
open Go.RowKit
set_option linter.unusedVariables false
set_option linter.unusedSimpArgs false

theorem quo_size {s : ByteArray} (hz : s.size ≤ 20000) : (quo s).size ≤ 200002 ∧ 2 ≤ (quo s).size := by
  have h1 := cut_len_le s 0 (Nat.zero_le _)
  have h2 := qcat_size (s := s) (l := cut s 0) (fun i hi => by
    obtain ⟨j, hj, rfl⟩ := List.getElem_of_mem hi
    exact (at_get s j hj).2)
  unfold quo
  rw [ByteArray.size_append, ByteArray.size_append, one_size]
  omega

/-- []byte(q): a row that holds the text's bytes. -/
def BytesB (W : World) (g : Nat) (q : ByteArray) : Prop := ∃ (c : Array Value) (m : Nat), W.heap[g]? = some (.cells c 5 (m, m + 1)) ∧ q.size ≤ m ∧ ∀ j, j < q.size → c[j]? = some (.int .u8 (byt q j : Nat))
theorem BytesB.cell {W : World} {g : Nat} {q : ByteArray} (h : BytesB W g q) {j : Nat} (hj : j < q.size) : W.cell? ⟨g, j, none⟩ = some (.int .u8 (byt q j : Nat)) ∧ W.frozen? ⟨g, j, none⟩ = false := by
  obtain ⟨c, m, hb, hm, hc⟩ := h
  refine ⟨by rw [cell_of_block hb]; exact hc j hj, ?_⟩
  have h1 : ¬ m ≤ j := by omega
  simp [World.frozen?, hb, h1]
theorem conv_sb (q : ByteArray) (W : World) : ∃ cap W', (convert 9 30 (.string q)).run Tryd.prog W = .ok (.slice (some ⟨W.heap.size, 0, none⟩) q.size cap) W' ∧ Keep [] W W' ∧ BytesB W' W.heap.size q := by
  refine ⟨_, _, Go.run_bytes_of_string (P := Tryd.prog) W 9 30 5 q Tryd.underlying9 Tryd.underlying30 Tryd.underlying5, ((Keep.refl [] W).drew).alloc _, _, _, World.alloc_heap_new W.drew _, ?_, fun j hj => ?_⟩
  · unfold bytesRow
    have h0 : q.data.size = q.size := rfl
    rw [Array.size_append, Array.size_map]
    omega
  · unfold bytesRow
    rw [Array.getElem?_append_left (by simp; exact hj)]
    have hj' : j < q.data.size := hj
    simp [byt, hj, hj']
    try rfl
/-- A text with one byte turned. -/
def turned (q : ByteArray) (j b : Nat) : ByteArray := ⟨(q.data.toList.set j (UInt8.ofNat b)).toArray⟩
theorem turned_size (q : ByteArray) (j b : Nat) : (turned q j b).size = q.size := by
  show (q.data.toList.set j (UInt8.ofNat b)).toArray.size = q.data.size
  simp
theorem turned_byt {q : ByteArray} {j b k : Nat} (hb : b < 256) (hk : k < q.size) : byt (turned q j b) k = if k = j then b else byt q k := by
  unfold turned
  rw [mk_byt, List.getElem?_set]
  have hk' : k < q.data.toList.length := by simpa using hk
  have hk2 : k < q.data.size := hk
  by_cases h : k = j
  · subst h
    rw [if_pos rfl, if_pos rfl, if_pos hk']
    show (UInt8.ofNat b).toNat = b
    exact u8_of b hb
  · rw [if_neg (fun e => h e.symm), if_neg h]
    simp [byt, hk, hk2]
    try rfl
theorem BytesB.turn {W : World} {g : Nat} {q : ByteArray} (h : BytesB W g q) {j b : Nat} (hj : j < q.size) (hb : b < 256) : BytesB (W.setCell ⟨g, j, none⟩ (.int .u8 (b : Nat))) g (turned q j b) := by
  obtain ⟨c, m, hbk, hm, hc⟩ := h
  refine ⟨_, m, block_setCell hbk j _, by rw [turned_size]; exact hm, fun k hk => ?_⟩
  rw [turned_size] at hk
  rw [turned_byt hb hk, Array.getElem?_setIfInBounds]
  by_cases h : j = k
  · subst h
    have := hc j hj
    have hlt : j < c.size := by
      rw [Array.getElem?_eq_some_iff] at this
      exact this.1
    simp [hlt]
  · rw [if_neg h, if_neg (fun e => h e.symm), hc k hk]
theorem BytesB.conv {W : World} {g cap : Nat} {q : ByteArray} (h : BytesB W g q) : (convert 30 9 (.slice (some ⟨g, 0, none⟩) q.size cap)).run Tryd.prog W = .ok (.string q) W := by
  have := run_convert_bytes_back (P := Tryd.prog) W 30 9 5 ⟨g, 0, none⟩ cap q.data.toList Tryd.underlying30 Tryd.underlying5 Tryd.underlying9 (fun j hj => by
    have hj' : j < q.size := by simpa using hj
    rw [addr0_add, (h.cell hj').1, ← byt_at hj']
    rfl)
  have e : q.data.toList.length = q.size := by rw [Array.length_toList]; rfl
  rw [e] at this
  exact this
theorem BytesB.keep {W W' : World} {g : Nat} {q : ByteArray} (h : BytesB W g q) (k : Keep [] W W') : BytesB W' g q := by
  obtain ⟨c, m, hbk, hm, hc⟩ := h
  exact ⟨c, m, k.at_ hbk (by simp), hm, hc⟩
theorem tmod_in (n : Int) (L : Nat) (h : 0 < L) : n.tmod L < L ∧ -L < n.tmod L := by
  have := Int.natAbs_tmod n L
  have h2 := Nat.mod_lt n.natAbs (show 0 < L from h)
  rw [Int.natAbs_natCast] at this
  omega

set_option maxHeartbeats 8000000 in
theorem quoteUnquotes_walk (s : ByteArray) (n b : Int) (w : World) (hn : -9223372036854775808 ≤ n ∧ n ≤ 9223372036854775807) (hb : 0 ≤ b ∧ b ≤ 255) (hT : TZ w) :
    Calls Tryd.prog 4 #[.string s, .int .i64 n, .int .u8 b] w fun e w' => e = .returned (.bool true) ∧ Keep [] w w' := by
  by_cases hz : s.size ≤ 20000
  · have f1 := dec_lt_f (show ¬ (20000 : Int) < (s.size : Int) by omega)
    have f2 := dec_ltn_f (show ¬ 20000 < s.size by omega)
    have HU := Lib.hid (fun W => unquote_any s W (by omega))
    have HR := Lib.hid (fun W => runquote_any s W (by omega))
    have HQ := Lib.hid (fun W => rquote_any s W (by omega))
    have HT := Lib.hid hT; clear hT
    have HQZ := Lib.hid (quo_size hz)
    generalize quo s = q at *
    obtain ⟨x, y, c⟩ := unq s
    have hss : (x.toList == x.toList) = true := by simp
    have hsn : (x.toList != x.toList) = false := by simp
    go_enter Tryd.func4, Tryd.ntmps4
    go_wp2_with fail
    refine (HU.out _).mono ?_
    rintro e W1 ⟨rfl, hk1⟩
    have K1 := Lib.hid hk1; clear hk1
    go_wp2_with fail
    refine (HR.out _).mono ?_
    rintro e W2 ⟨rfl, hk2⟩
    have K2 := Lib.hid (K1.out.trans0 hk2); clear hk2
    go_wp2_with fail
    refine (HQ.out _).mono ?_
    rintro e W3 ⟨rfl, hk3⟩
    have K3 := Lib.hid (K2.out.trans0 hk3); clear hk3
    obtain ⟨cap, W4, hcv, hk4, hb4⟩ := conv_sb q W3
    have HK4 := Lib.hid (K3.out.trans0 hk4); have HB4 := Lib.hid hb4
    have hz2 : 2 ≤ q.size := HQZ.out.2
    have hz3 : q.size ≤ 200002 := HQZ.out.1
    have hg0 := K3.out.size
    have hcap : q.size ≤ cap ∨ True := .inr trivial
    clear hk4 hb4
    go_upto_region 9 with (fail)
    clear hcv
    obtain ⟨g, hg⟩ : ∃ g, g = W3.heap.size := ⟨_, rfl⟩
    obtain ⟨a0, ha0⟩ : ∃ a0, a0 = n.tmod (q.size : Int) := ⟨_, rfl⟩
    have htm := tmod_in n q.size (by omega)
    rw [← hg, ← ha0]
    rw [← hg] at HB4 hg0
    rw [← ha0] at htm
    clear hg ha0
    obtain ⟨bn, rfl⟩ := Int.eq_ofNat_of_zero_le hb.1
    have hj : ∃ j : Nat, j < q.size ∧ ((decide (a0 < 0) = true ∧ a0 + (q.size : Int) = (j : Int)) ∨ (decide (a0 < 0) = false ∧ a0 = (j : Int))) := by
      by_cases h : a0 < 0
      · exact ⟨(a0 + q.size).toNat, by omega, .inl ⟨by simpa using h, by omega⟩⟩
      · exact ⟨a0.toNat, by omega, .inr ⟨by simpa using h, by omega⟩⟩
    obtain ⟨j, hjl, hj⟩ := hj
    obtain ⟨c0, z0⟩ := HB4.out.cell hjl
    have HB5 := Lib.hid (HB4.out.turn hjl (show bn < 256 by omega))
    have HK5 := Lib.hid (HK4.out.setCell (p := ⟨g, j, none⟩) (.inr hg0) (.int .u8 (bn : Nat)))
    obtain ⟨q2, hq2⟩ : ∃ q2, q2 = turned q j bn := ⟨_, rfl⟩
    have hqz2 : q2.size = q.size := by rw [hq2, turned_size]
    rw [← hq2] at HB5
    clear hq2
    have HU2 := Lib.hid (fun W => unquote_any q2 W (by omega))
    have HR2 := Lib.hid (fun W => runquote_any q2 W (by omega))
    have HQZ2 := Lib.hid hqz2
    generalize unq q2 = u2 at *
    obtain ⟨x2, y2, e2⟩ := u2
    have hss2 : (x2.toList == x2.toList) = true := by simp
    have f3 := dec_lt_t (show (j : Int) < (q.size : Int) by omega)
    have f4 := dec_ltn_t hjl
    have hcv5 : ∀ W, Keep [] (W4.setCell ⟨g, j, none⟩ (.int .u8 (bn : Nat))) W → (convert 30 9 (.slice (some ⟨g, 0, none⟩) q.size cap)).run Tryd.prog W = .ok (.string q2) W := fun W hk => by
      have := (HB5.out.keep hk).conv (cap := cap)
      rw [HQZ2.out] at this
      exact this
    have HCV := Lib.hid hcv5
    clear hqz2 hcv5
    have cv5 := HCV.out _ (Keep.refl [] _)
    rcases hj with ⟨f5, f6⟩ | ⟨f5, rfl⟩
    all_goals
      go_wp2_with fail
      refine (HU2.out _).mono ?_
      rintro e W6 ⟨rfl, hk6⟩
      have HK6 := Lib.hid (HK5.out.trans0 hk6)
      have cv6 := HCV.out _ hk6
      clear hk6 cv5
      go_wp2_with fail
      refine (HR2.out _).mono ?_
      rintro e W7 ⟨rfl, hk7⟩
      have HK7 := Lib.hid (HK6.out.trans0 hk7)
      clear hk7 cv6
      go_wp2_with fail
      refine (known_true _ (HT.out.keep0 HK7.out)).mono ?_
      rintro e W8 ⟨rfl, hk8⟩
      have HK8 := Lib.hid (HK7.out.trans0 hk8); clear hk8
      go_wp2
      go_ret
      exact ⟨rfl, HK8.out⟩
  · have f1 := dec_lt_t (show (20000 : Int) < (s.size : Int) by omega)
    have f2 := dec_ltn_t (show 20000 < s.size by omega)
    go_enter Tryd.func4, Tryd.ntmps4
    go_wp2_with fail
    refine (known_true _ hT).mono ?_
    rintro e W3 ⟨rfl, hk3⟩
    have K3 := Lib.hid hk3; clear hk3
    go_wp2
    go_ret
    exact ⟨rfl, K3.out⟩
end Go.Proofs.YtbmapellhcdipaaDoor
