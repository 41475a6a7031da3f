/-
  Walk of the law's parts.
-/
import Derived.Test.YthbcancckogloaaCL3
import Derived.Test.YthbcancckogloaaQuietT
import Derived.Lib.Strings
namespace Go.Proofs.Ythbcancckogloaa
open Go.RowKit
set_option linter.unusedVariables false
set_option linter.unusedSimpArgs false

theorem plc_end (s : ByteArray) : plc s (clumps s).length = s.size := by
  rw [clumps_len]
  unfold plc brk
  split
  · rename_i h; rw [h]; rfl
  · rw [List.length_append, List.length_singleton, Nat.add_sub_cancel, List.getElem?_append_right (Nat.le_refl _)]
    simp

/-- Between two rounds of parts' closure. -/
def PaJ (B : Nat) (s : ByteArray) (w : World) (k : Nat) (fp : List Nat) (W : World) : Prop :=
  ∃ v, W.heap[B]? = some (.cells #[v] 31 (0, 0)) ∧ W.heap[B + 1]? = some (.cells #[.int .i64 (plc s k : Nat)] 3 (0, 0)) ∧ W.heap[B + 2]? = some (.cells #[.bool true] 4 (0, 0)) ∧
    W.ownsRow (B + 3) 9 1 v k ((cluV s).take k) ∧ fp = v.ownBlock.toList ++ [B, B + 1, B + 2] ∧ Keep [] w W
theorem PaJ.steady {B : Nat} {s : ByteArray} {w W : World} (hW : w.heap.size ≤ W.heap.size) (k : Nat) : Steady [] W (PaJ B s w k) := by
  rintro fp W1 W2 S ⟨v, h1, h2, h3, h4, rfl, h6⟩ hk hS
  refine ⟨v, hk.at_ h1 (fun h => (hS _ h).1 (by simp)), hk.at_ h2 (fun h => (hS _ h).1 (by simp)), hk.at_ h3 (fun h => (hS _ h).1 (by simp)), hk.owns h4 (fun g hg h => (hS _ h).1 (by simp [hg])), rfl, h6.trans hk (fun x hx => .inr ?_)⟩
  rcases (hS x hx).2 with h | h
  · cases h
  · omega
theorem cluV_take {s : ByteArray} {k : Nat} (h : k < (clumps s).length) : (cluV s).take (k + 1) = (cluV s).take k ++ [.string (s.extract (plc s k) (plc s (k + 1)))] := by
  rw [List.take_add_one, cluV_at h]; rfl

set_option maxHeartbeats 16000000 in
/-- One round of parts' closure. -/
theorem parts1_any (B sb : Nat) (s : ByteArray) (w W : World) (k : Nat) (fp : List Nat) (hz : s.size ≤ 40000) (hB : w.heap.size ≤ B) (hsB : sb < B) (hs : W.heap[sb]? = some (.cells #[.string s] 9 (0, 0)))
    (hk : k < (clumps s).length) (h : PaJ B s w k fp W) :
    Calls Try.prog 38 #[.int .i64 (plc s k), .string (s.extract (plc s k) (plc s (k + 1))), .pointer (some ⟨B + 2, 0, none⟩), .pointer (some ⟨B + 1, 0, none⟩), .pointer (some ⟨B, 0, none⟩), .pointer (some ⟨sb, 0, none⟩)] W
      (RoundPost (PaJ B s w) (fun _ _ _ => False) k fp W) := by
  obtain ⟨i0, hi, hz0, hz1, hz2⟩ := info_parts info_strb
  have HI := Lib.hid hi; have HZ0 := Lib.hid hz0; have HZ1 := Lib.hid hz1; have HZ2 := Lib.hid hz2
  clear hi hz0 hz1 hz2
  obtain ⟨v, h1, h2, h3, h4, hfp, hkp⟩ := h
  have hcl := clumps_len s
  have hbl := brk_len s
  obtain ⟨_, hpl, hps⟩ := clumps_at hk
  have hct := cluV_take hk
  have hsl := SlAt.of_owns h4
  obtain ⟨ad, cap, rfl⟩ := hsl.empty
  have hsz : (s.extract (plc s k) (plc s (k + 1))).size = plc s (k + 1) - plc s k := size_ext _ _ _ hps
  have HSUM : Hid ((plc s k : Int) + ((s.extract (plc s k) (plc s (k + 1))).size : Int) = (plc s (k + 1) : Int)) := Lib.hid (by omega)
  have hne : (s.extract (plc s k) (plc s (k + 1))).toList.isEmpty = false := by
    rw [Lib.toList_data]
    cases hd : (s.extract (plc s k) (plc s (k + 1))).data.toList with
    | cons x l => rfl
    | nil =>
      exfalso
      have : (s.extract (plc s k) (plc s (k + 1))).data.toList.length = 0 := by rw [hd]; rfl
      rw [Array.length_toList] at this
      have h2 : (s.extract (plc s k) (plc s (k + 1))).size = 0 := this
      omega
  have hks : k ≤ s.size := by omega
  have hksd : decide (k ≤ s.size) = true := by simpa using hks
  have HCT := Lib.hid hct; have HKP := Lib.hid hkp; have HFP := Lib.hid hfp;
  have c1 := cell_of_one h1
  have c2 := cell_of_one h2
  have c3 := cell_of_one h3
  have cs := cell_of_one hs
  have f1 := free_of_one h1
  have f2 := free_of_one h2
  have f3 := free_of_one h3
  have H1 := Lib.hid h1; have H2 := Lib.hid h2; have H3 := Lib.hid h3; have H4 := Lib.hid h4
  clear hct hkp hfp hsl h1 h2 h3 h4 hcl hsz hs
  generalize s.extract (plc s k) (plc s (k + 1)) = t at *
  generalize hpp : plc s (k + 1) = p at *
  have HPP := Lib.hid hpp; clear hpp
  generalize plc s k = a at *
  have hsum := HSUM.out
  go_enter Try.func38, Try.ntmps38
  go_upto_region 3 with (fail)
  obtain ⟨W1, hW1⟩ : ∃ W1, W1 = ((W.setCell ⟨B + 2, 0, none⟩ (.bool true)).setCell ⟨B + 1, 0, none⟩ (.int .i64 p)) := ⟨_, rfl⟩
  rw [← hW1]
  have b1 : W1.heap[B]? = some (.cells #[.slice ad k cap] 31 (0, 0)) := by
    rw [hW1]; exact (block_setCell_other _ (by simp)).trans ((block_setCell_other _ (by simp)).trans H1.out)
  have b2 : W1.heap[B + 1]? = some (.cells #[.int .i64 p] 3 (0, 0)) := by
    rw [hW1]; exact one_setCell ((block_setCell_other _ (by simp)).trans H2.out)
  have b3 : W1.heap[B + 2]? = some (.cells #[.bool true] 4 (0, 0)) := by
    rw [hW1]; exact (block_setCell_other _ (by simp)).trans (one_setCell H3.out)
  have hge : ∀ g, (Value.slice ad k cap).ownBlock = some g → B + 3 ≤ g := fun g hg => (H4.out.lt g hg).1
  have b4 : W1.ownsRow (B + 3) 9 1 (.slice ad k cap) k ((cluV s).take k) := by
    rw [hW1]
    exact ownsRow_setCell_other (ownsRow_setCell_other H4.out (fun e => by have := hge _ e; simp at this) _) (fun e => by have := hge _ e; simp at this) _
  have bk : Keep [B, B + 1, B + 2] W W1 := by rw [hW1]; exact ((Keep.refl _ _).setCell (by simp) _).setCell (by simp) _
  have hW1s : B + 2 < W1.heap.size := lt_of_block b3
  have c1 := cell_of_one b1
  have B1 := Lib.hid b1; have B2 := Lib.hid b2; have B3 := Lib.hid b3; have B4 := Lib.hid b4; have BK := Lib.hid bk; have HGE := Lib.hid hge
  clear b1 b2 b3 b4 bk hge hW1 c2 c3 cs f1 f2 f3
  go_wp2_with (with_reducible refine park_append 30 32 _ rfl ?_)
  refine wpList_append_mine _ rfl (.tmp 30) (.tmp 32) 31 rfl (B + 3) 9 i0 (.string ByteArray.empty) 1 16 Try.underlying31 HI.out HZ0.out HZ1.out HZ2.out rfl (by decide) _ k _ rfl (B4.out.alloc _) ⟨W1.heap.size, 0, none⟩ 1 1 [.string t] rfl rfl (cell_new_row _ _ _) (by simp [Value.oneCell']) (by unfold maxLen; omega) (by omega) (by simp; omega) ?_
  intro v' W3 hp2
  obtain ⟨ad2, cap2, hv2⟩ := (SlAt.of_owns hp2.1).empty
  subst hv2
  obtain ⟨p1, p2, p3, p4⟩ := hp2
  have hge' : ∀ g, (Value.slice ad2 (k + 1) cap2).ownBlock = some g → B + 3 ≤ g := fun g hg => (p1.lt g hg).1
  have hka : Keep [] W1 (W1.alloc (.cells #[.string t] 9)) := (Keep.refl _ _).alloc _
  have hnot : ∀ x, x < B + 3 → x ∉ (Value.slice ad k cap).ownBlock.toList := fun x hx h => by
    simp at h; have := HGE.out x h; omega
  have d1 := p2.at_ (hka.at_ B1.out (by simp)) (hnot B (by omega))
  have d2 := p2.at_ (hka.at_ B2.out (by simp)) (hnot (B + 1) (by omega))
  have d3 := p2.at_ (hka.at_ B3.out (by simp)) (hnot (B + 2) (by omega))
  have e1 := cell_of_one d1
  have g1 := free_of_one d1
  have e3 := cell_of_one ((block_setCell_other (w := W3) (a := ⟨B, 0, none⟩) (.slice ad2 (k + 1) cap2) (b := B + 2) (by simp)).trans d3)
  have hkk : Keep fp W (W3.setCell ⟨B, 0, none⟩ (.slice ad2 (k + 1) cap2)) := by
    have k1 : Keep fp W W1 := BK.out.mono (fun x hx => .inl (by rw [HFP.out]; exact List.mem_append_right _ hx))
    have k2 : Keep fp W W3 := (k1.trans0 hka).trans p2 (fun x hx => .inl (by rw [HFP.out]; exact List.mem_append_left _ hx))
    exact k2.setCell (.inl (by rw [HFP.out]; simp)) _
  have hW1W : W1.heap.size = W.heap.size ∨ W.heap.size ≤ W1.heap.size := .inr BK.out.size
  have HFIN : Hid (PaJ B s w (k + 1) ((Value.slice ad2 (k + 1) cap2).ownBlock.toList ++ [B, B + 1, B + 2]) (W3.setCell ⟨B, 0, none⟩ (.slice ad2 (k + 1) cap2)) ∧ Keep fp W (W3.setCell ⟨B, 0, none⟩ (.slice ad2 (k + 1) cap2)) ∧ FromNew fp ((Value.slice ad2 (k + 1) cap2).ownBlock.toList ++ [B, B + 1, B + 2]) W) := by
    refine Lib.hid ⟨⟨.slice ad2 (k + 1) cap2, one_setCell d1, (block_setCell_other _ (by simp)).trans (by rw [HPP.out]; exact d2), (block_setCell_other _ (by simp)).trans d3, ?_, rfl, ?_⟩, hkk, fun x hx => ?_⟩
    · rw [HCT.out]
      exact ownsRow_setCell_other p1 (fun e => by have := hge' _ e; simp at this; omega) _
    · refine HKP.out.trans hkk (fun x hx => .inr ?_)
      rw [HFP.out] at hx
      rcases List.mem_append.1 hx with h | h
      · simp at h; have := HGE.out x h; omega
      · simp at h; omega
    · rcases List.mem_append.1 hx with h | h
      · simp at h
        rcases p3 x h with h' | h'
        · have h2 : (Value.slice ad k cap).ownBlock = some x := h'
          exact .inl (by rw [HFP.out]; exact List.mem_append_left _ (by rw [h2]; simp))
        · have := BK.out.size
          have h2 : (W1.alloc (.cells #[.string t] 9)).heap.size = W1.heap.size + 1 := by simp
          exact .inr (by omega)
      · exact .inl (by rw [HFP.out]; exact List.mem_append_right _ h)
  clear p1 p2 p3 p4 hge' hka hnot d1 d2 d3 hkk B1 B2 B3 B4 BK c1
  go_wp2
  go_ret
  exact .inl ⟨rfl, _, HFIN.out.1, HFIN.out.2.1, HFIN.out.2.2⟩

theorem enters_p1 (args : Array Value) (w : World) : (callFunc 38 args).run Try.prog w = .ok (.enter 38 args) w := enters_of Try.func38 (by kernel_rfl) rfl args w
theorem parts_run (B sb tb : Nat) (s : ByteArray) (w W : World) (hz : s.size ≤ 40000) (hB : w.heap.size ≤ B) (hsB : sb < B) (hs : W.heap[sb]? = some (.cells #[.string s] 9 (0, 0))) (ht : TxtNeed tb s W) (htB : tb ≠ B ∧ tb ≠ B + 1 ∧ tb ≠ B + 2)
    (h1 : W.heap[B]? = some (.cells #[.slice none 0 0] 31 (0, 0))) (h2 : W.heap[B + 1]? = some (.cells #[.int .i64 0] 3 (0, 0))) (h3 : W.heap[B + 2]? = some (.cells #[.bool true] 4 (0, 0))) (hk : Keep [] w W) :
    Calls Try.prog 36 #[.func (.func 38) #[] #[.pointer (some ⟨B + 2, 0, none⟩), .pointer (some ⟨B + 1, 0, none⟩), .pointer (some ⟨B, 0, none⟩), .pointer (some ⟨sb, 0, none⟩)], .pointer (some ⟨tb, 0, none⟩)] W
      fun e w' => e = .returned (.tuple #[]) ∧ (∃ fp, PaJ B s w (clumps s).length fp w') ∧ w'.heap[sb]? = some (.cells #[.string s] 9 (0, 0)) := by
  refine (clu1_iters tb s (by omega) (.func (.func 38) #[] #[.pointer (some ⟨B + 2, 0, none⟩), .pointer (some ⟨B + 1, 0, none⟩), .pointer (some ⟨B, 0, none⟩), .pointer (some ⟨sb, 0, none⟩)])
      (fun k fp W' => PaJ B s w k fp W' ∧ W'.heap[sb]? = some (.cells #[.string s] 9 (0, 0)) ∧ sb ∉ fp) (fun _ _ _ => False) [B, B + 1, B + 2] W ⟨_, _, rfl⟩ ht (fun b hb => by cases hb)
      (fun b hb => by
        simp at hb; subst hb
        exact ⟨lt_of_block ht, fun h => by simp at h; omega⟩)
      (fun k fp W1 W2 S hj hkk hS => ⟨PaJ.steady hk.size k fp W1 W2 S hj.1 hkk hS, hkk.at_ hj.2.1 (fun h => by rcases (hS sb h).2 with h' | h'; cases h'; have := lt_of_block hs; omega), hj.2.2⟩)
      (fun _ _ _ _ _ h => h.elim) (by
        intro k hk' fp W1 hj
        rw [List.length_map] at hk'
        rw [List.getElem_map, (clumps_at hk').1]
        refine .inr ⟨_, _, rfl, enters_p1, (parts1_any B sb s w W1 k fp hz hB hsB hj.2.1 hk' hj.1).mono ?_⟩
        rintro e W2 (⟨rfl, fp', j1, j2, j3⟩ | ⟨_, fp', hF, _⟩)
        · refine .inl ⟨rfl, fp', ⟨j1, j2.at_ hj.2.1 hj.2.2, fun h => ?_⟩, j2, j3⟩
          rcases j3 sb h with h' | h'
          · exact hj.2.2 h'
          · have := lt_of_block hj.2.1; omega
        · exact hF.elim)
      (fun b hb => by
        simp at hb
        rcases hb with rfl | rfl | rfl
        · exact lt_of_block h1
        · exact lt_of_block h2
        · exact lt_of_block h3)
      ⟨⟨_, h1, by rw [plc_zero]; exact h2, h3, ⟨rfl, .inl ⟨rfl, rfl⟩⟩, rfl, hk⟩, hs, by simp; omega⟩).mono ?_
  rintro e W2 ⟨rfl, ⟨fp', j1, j2, _⟩ | ⟨k, fp', hk', hF⟩⟩
  · rw [List.length_map] at j1
    exact ⟨rfl, ⟨fp', j1⟩, j2⟩
  · exact hF.elim
set_option maxHeartbeats 16000000 in
theorem parts_any (s : ByteArray) (w : World) (hz : s.size ≤ 40000) :
    Calls Try.prog 28 #[.string s] w fun e w' => ∃ ad cap, e = .returned (.tuple #[.slice ad (clumps s).length cap, .bool true]) ∧ w'.ownsRow w.heap.size 9 1 (.slice ad (clumps s).length cap) (clumps s).length (cluV s) ∧ Keep [] w w' := by
  go_enter Try.func28, Try.ntmps28
  go_upto_region 4 with (fail)
  obtain ⟨W0, hW0⟩ : ∃ W0, W0 = (((w.alloc (.cells #[.string s] 9)).alloc (.cells #[.slice none 0 0] 31)).alloc (.cells #[.int .i64 0] 3)).alloc (.cells #[.bool true] 4) := ⟨_, rfl⟩
  rw [← hW0]
  have hk0 : Keep [] w W0 := by rw [hW0]; exact ((((Keep.refl _ _).alloc _).alloc _).alloc _).alloc _
  have x0 : W0.heap[w.heap.size]? = some (.cells #[.string s] 9 (0, 0)) := by
    rw [hW0, Below.heap_alloc _ _ _ (by simp <;> omega), Below.heap_alloc _ _ _ (by simp <;> omega), Below.heap_alloc _ _ _ (by simp)]; exact World.alloc_heap_new w _
  have x1 : W0.heap[w.heap.size + 1]? = some (.cells #[.slice none 0 0] 31 (0, 0)) := by
    rw [hW0, Below.heap_alloc _ _ _ (by simp <;> omega), Below.heap_alloc _ _ _ (by simp)]
    have := World.alloc_heap_new (w.alloc (.cells #[.string s] 9)) (.cells #[.slice none 0 0] 31); rwa [World.size_alloc] at this
  have x2 : W0.heap[w.heap.size + 1 + 1]? = some (.cells #[.int .i64 0] 3 (0, 0)) := by
    rw [hW0, Below.heap_alloc _ _ _ (by simp)]
    have := World.alloc_heap_new ((w.alloc (.cells #[.string s] 9)).alloc (.cells #[.slice none 0 0] 31)) (.cells #[.int .i64 0] 3); rwa [World.size_alloc, World.size_alloc] at this
  have x3 : W0.heap[w.heap.size + 1 + 2]? = some (.cells #[.bool true] 4 (0, 0)) := by
    rw [hW0]
    have := World.alloc_heap_new (((w.alloc (.cells #[.string s] 9)).alloc (.cells #[.slice none 0 0] 31)).alloc (.cells #[.int .i64 0] 3)) (.cells #[.bool true] 4); rwa [World.size_alloc, World.size_alloc, World.size_alloc] at this
  have hs0 : W0.heap.size = w.heap.size + 4 := by rw [hW0]; simp
  have cs := cell_of_one x0
  have X0 := Lib.hid x0; have X1 := Lib.hid x1; have X2 := Lib.hid x2; have X3 := Lib.hid x3; have K0 := Lib.hid hk0; have S0 := Lib.hid hs0
  clear hW0 hk0 x0 x1 x2 x3 hs0
  generalize hsb : w.heap.size = sb at *
  have SB := Lib.hid hsb; clear hsb
  go_wp2_with fail
  refine (call_any s _).mono ?_
  rintro q w2 ⟨rfl, rfl⟩
  obtain ⟨W1, hW1⟩ : ∃ W1, W1 = W0.alloc (.cells #[.string s] 9) := ⟨_, rfl⟩
  rw [← hW1]
  have hk1 : Keep [] W0 W1 := by rw [hW1]; exact (Keep.refl _ _).alloc _
  have xt : W1.heap[W0.heap.size]? = some (.cells #[.string s] 9 (0, 0)) := by rw [hW1]; exact World.alloc_heap_new W0 _
  have HR := Lib.hid (parts_run (sb + 1) sb W0.heap.size s w W1 hz (by have := SB.out; omega) (by omega) (hk1.at_ X0.out (by simp)) xt (by have := S0.out; omega) (hk1.at_ X1.out (by simp)) (hk1.at_ X2.out (by simp)) (hk1.at_ X3.out (by simp)) (K0.out.trans0 hk1))
  clear hW1 hk1 xt X0 X1 X2 X3 cs
  generalize W0.heap.size = tb at *
  have nf1 : ∀ w, (binOp .eql 34 (.func (.func 36) #[] #[.pointer (some ⟨tb, 0, none⟩)]) Value.nilFunc).run Try.prog w = .ok (.bool false) w := fun _ => by kernel_rfl
  go_wp2_with fail
  (with_reducible refine HR.out.mono ?_)
  rintro e W2 ⟨rfl, ⟨fp, v, j1, j2, j3, j4, -, j6⟩, j7⟩
  rw [plc_end] at j2
  rw [show (clumps s).length = (cluV s).length by simp [cluV], List.take_length, show (cluV s).length = (clumps s).length by simp [cluV]] at j4
  obtain ⟨ad, cap, rfl⟩ := (SlAt.of_owns j4).empty
  have c1 := cell_of_one j1
  have c2 := cell_of_one j2
  have c3 := cell_of_one j3
  have c4 := cell_of_one j7
  have HF := Lib.hid (show W2.ownsRow sb 9 1 (.slice ad (clumps s).length cap) (clumps s).length (cluV s) ∧ Keep [] w W2 from ⟨owns_mono j4 (by omega), j6⟩)
  clear j1 j2 j3 j4 j6 j7 HR nf1
  generalize hn : (clumps s).length = n at *
  have HN := Lib.hid hn; clear hn
  go_wp2
  go_quiet (fail)
  go_wp2
  go_ret2
  rw [HN.out, SB.out]
  exact ⟨ad, cap, rfl, HF.out.1, HF.out.2.drewN _⟩
end Go.Proofs.Ythbcancckogloaa
