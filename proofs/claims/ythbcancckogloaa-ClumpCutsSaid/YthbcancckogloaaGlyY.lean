/-
  Walks of the reference's Count, BadAt, Runes.
-/
import Derived.Test.YthbcancckogloaaGlyX
namespace Go.Proofs.Ythbcancckogloaa
open Go.RowKit
set_option linter.unusedVariables false
set_option linter.unusedSimpArgs false

theorem owns_mono {w : World} {b b' : Nat} {e : TypeId} {sz n : Nat} {v : Value} {xs : List Value} (h : w.ownsRow b e sz v n xs) (hb : b' ≤ b) : w.ownsRow b' e sz v n xs := by
  refine ⟨h.1, ?_⟩
  rcases h.2 with h | ⟨g, cap, cur, h1, h2, h3⟩
  · exact .inl h
  · exact .inr ⟨g, cap, cur, h1, Nat.le_trans hb h2, h3⟩
/-- Pieces in memory, read. -/
def PcAt (w : World) (v : Value) (s : ByteArray) (l : List Nat) : Prop :=
  ∃ ad cap, v = .slice ad l.length cap ∧ (l.length ≠ 0 → ∃ b off, ad = some ⟨b, off, none⟩ ∧ ∀ (k i : Nat), l[k]? = some i → w.cell? ⟨b, off + k * 4, none⟩ = some (.int .i64 i) ∧ w.cell? ⟨b, off + k * 4 + 1, none⟩ = some (.int .i32 (dec s i).1) ∧ w.cell? ⟨b, off + k * 4 + 2, none⟩ = some (.int .i64 (dec s i).2) ∧ w.cell? ⟨b, off + k * 4 + 3, none⟩ = some (.bool (isB s i)))
theorem PcAt.of_owns {w : World} {base : Nat} {e : TypeId} {v : Value} {s : ByteArray} {l : List Nat} (h : w.ownsRow base e 4 v l.length (piecesCells s l)) : PcAt w v s l := by
  obtain ⟨ad, cap, rfl, _, h1⟩ := SlAt.of_owns h
  refine ⟨ad, cap, rfl, fun h0 => ?_⟩
  obtain ⟨b, off, rfl, hc⟩ := h1 h0
  refine ⟨b, off, rfl, fun k i hk => ?_⟩
  have f := fun j u (hj : j < 4) (hu : (pieceCells s i)[j]? = some u) => hc (k * 4 + j) u ((flat4 s l k i j hk hj).trans hu)
  exact ⟨f 0 _ (by decide) rfl, f 1 _ (by decide) rfl, f 2 _ (by decide) rfl, f 3 _ (by decide) rfl⟩
theorem PcAt.keep0 {w w' : World} {v : Value} {s : ByteArray} {l : List Nat} (h : PcAt w v s l) (hk : Keep [] w w') : PcAt w' v s l := by
  obtain ⟨ad, cap, rfl, h1⟩ := h
  refine ⟨ad, cap, rfl, fun h0 => ?_⟩
  obtain ⟨b, off, rfl, hc⟩ := h1 h0
  refine ⟨b, off, rfl, fun k i hi => ?_⟩
  obtain ⟨a, b, c, d⟩ := hc k i hi
  exact ⟨hk.cellv a (by simp), hk.cellv b (by simp), hk.cellv c (by simp), hk.cellv d (by simp)⟩

/-- The first byte that begins no rune. -/
def badAt (s : ByteArray) : Int := match (cut s 0).find? (fun j => wid s j == 0) with | some j => j | none => -1
theorem badAt_some {s : ByteArray} {l : List Nat} {i : Nat} (h : At s l i) (hi : i < s.size) (hg : ∀ j ∈ l, wid s j ≠ 0) (hw : wid s i = 0) : badAt s = i := by
  unfold badAt
  rw [h.cut, cut_step hi, List.find?_append, List.find?_eq_none.2 (by simpa using hg)]
  simp [hw]
theorem badAt_none {s : ByteArray} (hg : ∀ j ∈ cut s 0, wid s j ≠ 0) : badAt s = -1 := by
  unfold badAt
  rw [List.find?_eq_none.2 (by simpa using hg)]
theorem mem_take_succ {l : List Nat} {k i : Nat} (h : l[k]? = some i) {P : Nat → Prop} (h1 : ∀ j ∈ l.take k, P j) (h2 : P i) : ∀ j ∈ l.take (k + 1), P j := by
  intro j hj
  rw [List.take_add_one, h] at hj
  rcases List.mem_append.1 hj with hj | hj
  · exact h1 j hj
  · simp at hj; subst hj; exact h2

theorem info_rune : (Try.prog.info? 21).map (fun i => (i.zero, i.size, i.bytes)) = some (some (.int .i32 0), 1, 4) := by kernel_rfl
/-- The runes of the first pieces, in memory. -/
def runeCs (s : ByteArray) (l : List Nat) : List Value := l.map fun i => .int .i32 (dec s i).1
theorem runeCs_take {s : ByteArray} {l : List Nat} {k i : Nat} (h : l[k]? = some i) : runeCs s (l.take (k + 1)) = runeCs s (l.take k) ++ [.int .i32 (dec s i).1] := by
  unfold runeCs
  rw [List.take_add_one, h]
  simp
theorem runeCs_runs (s : ByteArray) : runeCs s (cut s 0) = (runs s 0).map (Value.int .i32) := by unfold runeCs runs; simp

set_option maxHeartbeats 8000000 in
theorem rrunes_any (s : ByteArray) (w : World) (hz : s.size ≤ 4294967296) :
    Calls Try.prog 13 #[.string s] w (NewSl 21 1 (runs s 0).length ((runs s 0).map (Value.int .i32)) w) := by
  obtain ⟨i0, hi, hz0, hz1, hz2⟩ := info_parts info_rune
  have HI := Lib.hid hi; have HZ0 := Lib.hid hz0; have HZ1 := Lib.hid hz1; have HZ2 := Lib.hid hz2
  clear hi hz0 hz1 hz2
  have hcl := cut_len_le s 0 (Nat.zero_le _)
  go_enter Try.func13, Try.ntmps13
  go_wp2_with fail
  refine (pieces_any s w hz).mono ?_
  rintro r w1 ⟨v, rfl, ho, hk, _⟩
  obtain ⟨ad, cap, rfl, hc⟩ := PcAt.of_owns ho
  have HC := Lib.hid hc
  have HK := Lib.hid hk; clear hk ho hc
  obtain ⟨n, hn⟩ : ∃ n, n = (cut s 0).length := ⟨_, rfl⟩
  rw [← hn] at hcl ⊢
  have HNN := Lib.hid hn; clear hn
  go_wp2
  go_loopw [3, 5] (fun v i wr => ∃ k : Nat, k ≤ n ∧ i = .int .i64 k ∧ Keep [] w1 wr ∧ wr.ownsRow w1.heap.size 21 1 v k (runeCs s ((cut s 0).take k)) ∧ (v = .slice none 0 0 ↔ k = 0)) (fun _ i _ => n - (intOf i).toNat)
  case atStart => exact ⟨0, Nat.zero_le _, rfl, Keep.refl _ _, World.ownsRow_nil _ _ _ _, by simp⟩
  case round =>
    obtain ⟨k, hk, rfl, hkp, hown, hnil⟩ := hrel
    have HO := Lib.hid hown; have HK1 := Lib.hid hkp; have HN := Lib.hid hnil
    clear hown hkp hnil
    by_cases hlt : k < n
    · have hltd : decide (k < n) = true := by simpa using hlt
      obtain ⟨b, off, rfl, hcs⟩ := HC.out (by rw [← HNN.out]; omega)
      have hkl : k < (cut s 0).length := by rw [← HNN.out]; exact hlt
      have hke := List.getElem?_eq_getElem hkl
      obtain ⟨_, c1, _, _⟩ := hcs k _ hke
      have c1' := HK1.out.cellv c1 (by simp)
      have HT := Lib.hid (runeCs_take (s := s) hke)
      clear c1
      generalize (dec s (cut s 0)[k]).1 = r1 at *
      have HCS := Lib.hid hcs; clear hcs hke
      have hsz := HK1.out.size
      go_wp2_with (at_builtin; refine wpList_append_mine _ rfl (.tmp 14) (.tmp 20) 24 rfl w1.heap.size 21 i0 (.int .i32 0) 1 4 Try.underlying24 HI.out HZ0.out HZ1.out HZ2.out rfl (by decide) _ _ _ rfl (HO.out.alloc _) ⟨wr.heap.size, 0, none⟩ 1 1 [.int .i32 r1] rfl rfl (cell_one_new _ _ _) (by simp [Value.oneCell']) (by unfold maxLen; omega) (by omega) (by simp; omega) ?_; intro v' W2 hp2; have hfin := Lib.hid (own_next HO.out HK1.out ((Keep.refl _ _).alloc _) hp2 (by omega)); clear hp2)
      go_roundw
      case rel => exact ⟨k + 1, by omega, by go_num, hfin.out.2.1, by rw [HT.out]; exact hfin.out.1, hfin.out.2.2⟩
      case measure => simp [intOf]; omega
    · have hltd : decide (k < n) = false := by simpa using hlt
      obtain rfl : k = n := by omega
      have ho := HO.out
      rw [List.take_of_length_le (by rw [← HNN.out]; omega), runeCs_runs] at ho
      have HO2 := Lib.hid ho; clear ho
      have HL : Hid ((runs s 0).length = k) := by show _ = _; rw [HNN.out]; simp [runs]
      go_wp2
      go_ret
      exact ⟨_, rfl, by rw [HL.out]; exact owns_mono HO2.out HK.out.size, HK.out.trans0 HK1.out, by rw [HL.out]; exact HN.out⟩
end Go.Proofs.Ythbcancckogloaa
