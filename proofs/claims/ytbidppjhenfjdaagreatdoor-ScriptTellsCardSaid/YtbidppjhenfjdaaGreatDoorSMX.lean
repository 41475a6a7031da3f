/-
  ScriptTells: whatever the step and the answer, Tell says the document's text of them; no condition but the five listed variables of the library.
-/
import Derived.Test.YtbidppjhenfjdaaGreatDoorSMV
import Derived.Test.YtbidppjhenfjdaaGreatDoorSMU
import Derived.Test.YtbidppjhenfjdaaGreatDoorSMB
import Derived.Test.YtbidppjhenfjdaaGreatDoorCards
import Derived.Test.YtbidppjhenfjdaaGreatDoorTie
import Derived.Test.YtbidppjhenfjdaaGreatDoorSMS
import Derived.WalkKit
import Derived.ProofKit
import Derived.OpenShut
import Derived.Deep.DeepHandedRow
import Derived.Lib.LaidTab
import Derived.Lib.TrailingZeros
import Derived.Lib.ItoaNum
import Derived.SizedLaws
import Derived.Carry
import Derived.Stop.LaidErr
namespace Go.Proofs.YtbidppjhenfjdaaGreatDoor
open Go.RowKit
set_option linter.unusedVariables false
set_option linter.unusedSimpArgs false

set_option maxHeartbeats 16000000 in
set_option maxRecDepth 100000 in
theorem rsight_any (x : SightN) (vv bv hv mv pv : Value) (W : World) (h : SgRd W x vv bv hv mv pv) (hok : SgOk x) :
    Calls Tryz.prog 39 #[.agg (sgV x vv bv hv mv pv)] W fun e W' => e = .returned (.string (sgR x)) ∧ Keep [] W W' := by
  have HR := Lib.hid h
  have HOK := Lib.hid hok
  obtain ⟨adv, capv, rfl⟩ := h.1.1.empty
  obtain ⟨adb, capb, rfl⟩ := h.2.1.1.empty
  obtain ⟨adh, caph, rfl⟩ := h.2.2.1.1.empty
  obtain ⟨adm, capm, rfl⟩ := h.2.2.2.1.1.empty
  obtain ⟨adp, capp, hpv, _⟩ := id h.2.2.2.2
  subst hpv
  have HSB := Lib.hid (show sgR x = ⟨#[32, 32, 115, 105, 116, 101]⟩ ++ sdB [x.site] ++ mbB x.act ⟨#[97, 99, 116, 105, 118, 101]⟩ ++ mbB x.leav ⟨#[108, 101, 97, 118, 105, 110, 103]⟩ ++ nmB [(⟨#[99, 108, 111, 99, 107]⟩, x.clk), (⟨#[116, 105, 99, 107]⟩, x.tick), (⟨#[108, 111, 103]⟩, x.log), (⟨#[107, 101, 112, 116]⟩, x.kept), (⟨#[101, 112, 111, 99, 104]⟩, x.ep)] ++ ⟨#[10]⟩ ++ ⟨#[32, 32, 118, 101, 99, 116, 111, 114]⟩ ++ sdB x.vec ++ ⟨#[10, 32, 32, 98, 97, 115, 101]⟩ ++ sdB x.bas ++ ⟨#[10, 32, 32, 104, 101, 108, 100]⟩ ++ sdB x.held ++ ⟨#[10, 32, 32, 109, 101, 109, 98, 101, 114, 115]⟩ ++ sdB x.mem ++ ⟨#[10]⟩ ++ pesR x.prs from rfl)
  obtain ⟨sg, hsg⟩ : ∃ sg, sg = sgR x := ⟨_, rfl⟩
  rw [← hsg] at HSB ⊢
  clear h hok hsg
  unfold sgV
  obtain ⟨site, act, leav, vec, nv, bas, nb, clk, tick, held, nh, log, kept, mem, nm, ep, prs⟩ := x
  simp only at HR HOK HSB ⊢
  have HOK := Lib.hid (show I64 site ∧ I64 clk ∧ I64 tick ∧ I64 log ∧ I64 kept ∧ I64 ep ∧ AllI vec ∧ AllI bas ∧ AllI held ∧ AllI mem ∧ nv ≤ 10000 ∧ nb ≤ 10000 ∧ nh ≤ 10000 ∧ nm ≤ 10000 ∧ (∀ p ∈ prs, PeerOk p) ∧ prs.length ≤ 1000 from HOK.out)
  have lv : vec.length = nv * 2 := HR.out.1.2
  have lb : bas.length = nb * 2 := HR.out.2.1.2
  have lh : held.length = nh * 2 := HR.out.2.2.1.2
  have lm : mem.length = nm * 1 := HR.out.2.2.2.1.2
  have bv := HOK.out.2.2.2.2.2.2.2.2.2.2.1
  have bb := HOK.out.2.2.2.2.2.2.2.2.2.2.2.1
  have bh := HOK.out.2.2.2.2.2.2.2.2.2.2.2.2.1
  have bm := HOK.out.2.2.2.2.2.2.2.2.2.2.2.2.2.1
  have s1 := (sd1_ok HOK.out.1).1
  have s2 := mbB_size act ⟨#[97, 99, 116, 105, 118, 101]⟩
  have s3 := mbB_size leav ⟨#[108, 101, 97, 118, 105, 110, 103]⟩
  have s4 := nmB_size (z5_ok HOK.out.2.1 HOK.out.2.2.1 HOK.out.2.2.2.1 HOK.out.2.2.2.2.1 HOK.out.2.2.2.2.2.1)
  have s5 : (sdB vec).size ≤ 440000 := by have := sdB_size (HOK.out.2.2.2.2.2.2.1 : AllI vec); omega
  have s6 : (sdB bas).size ≤ 440000 := by have := sdB_size (HOK.out.2.2.2.2.2.2.2.1 : AllI bas); omega
  have s7 : (sdB held).size ≤ 440000 := by have := sdB_size (HOK.out.2.2.2.2.2.2.2.2.1 : AllI held); omega
  have s8 : (sdB mem).size ≤ 440000 := by have := sdB_size (HOK.out.2.2.2.2.2.2.2.2.2.1 : AllI mem); omega
  have e1 : (⟨#[97, 99, 116, 105, 118, 101]⟩ : ByteArray).size = 6 := rfl
  have e2 : (⟨#[108, 101, 97, 118, 105, 110, 103]⟩ : ByteArray).size = 7 := rfl
  simp only [List.length_cons, List.length_nil] at s4
  rw [e1] at s2
  rw [e2] at s3
  obtain ⟨p1, h1⟩ : ∃ p, p = sdB [site] := ⟨_, rfl⟩
  obtain ⟨m1, h2⟩ : ∃ p, p = mbB act ⟨#[97, 99, 116, 105, 118, 101]⟩ := ⟨_, rfl⟩
  obtain ⟨m2, h3⟩ : ∃ p, p = mbB leav ⟨#[108, 101, 97, 118, 105, 110, 103]⟩ := ⟨_, rfl⟩
  obtain ⟨n1, h4⟩ : ∃ p, p = nmB [(⟨#[99, 108, 111, 99, 107]⟩, clk), (⟨#[116, 105, 99, 107]⟩, tick), (⟨#[108, 111, 103]⟩, log), (⟨#[107, 101, 112, 116]⟩, kept), (⟨#[101, 112, 111, 99, 104]⟩, ep)] := ⟨_, rfl⟩
  obtain ⟨d1, h5⟩ : ∃ p, p = sdB vec := ⟨_, rfl⟩
  obtain ⟨d2, h6⟩ : ∃ p, p = sdB bas := ⟨_, rfl⟩
  obtain ⟨d3, h7⟩ : ∃ p, p = sdB held := ⟨_, rfl⟩
  obtain ⟨d4, h8⟩ : ∃ p, p = sdB mem := ⟨_, rfl⟩
  rw [← h1, ← h2, ← h3, ← h4, ← h5, ← h6, ← h7, ← h8] at HSB
  rw [← h1] at s1
  rw [← h2] at s2
  rw [← h3] at s3
  rw [← h4] at s4
  rw [← h5] at s5
  rw [← h6] at s6
  rw [← h7] at s7
  rw [← h8] at s8
  have E1 := Lib.hid h1
  have E2 := Lib.hid h2
  have E3 := Lib.hid h3
  have E4 := Lib.hid h4
  have E5 := Lib.hid h5
  have E6 := Lib.hid h6
  have E7 := Lib.hid h7
  have E8 := Lib.hid h8
  obtain ⟨np, hnp⟩ : ∃ np, np = prs.length := ⟨_, rfl⟩
  rw [← hnp] at HR ⊢
  have HNP := Lib.hid hnp
  clear h1 h2 h3 h4 h5 h6 h7 h8 hnp e1 e2 lv lb lh lm
  go_enter Tryz.func39, Tryz.ntmps39
  go_upto_region 1 with (fail)
  obtain ⟨w1, hw1⟩ : ∃ w1, w1 = W.alloc (.cells #[.int .i64 site, .bool act, .bool leav, .slice adv nv capv, .slice adb nb capb, .int .i64 clk, .int .i64 tick, .slice adh nh caph, .int .i64 log, .int .i64 kept, .slice adm nm capm, .int .i64 ep, .slice adp np capp] 52) := ⟨_, rfl⟩
  have hkx : Keep [] W w1 := by rw [hw1]; exact (Keep.refl _ _).alloc _
  have hbb : w1.heap[W.heap.size]? = some (.cells #[.int .i64 site, .bool act, .bool leav, .slice adv nv capv, .slice adb nb capb, .int .i64 clk, .int .i64 tick, .slice adh nh caph, .int .i64 log, .int .i64 kept, .slice adm nm capm, .int .i64 ep, .slice adp np capp] 52 (0, 0)) := by rw [hw1]; exact World.alloc_heap_new W _
  rw [← hw1]
  obtain ⟨bx, hbx⟩ : ∃ bx, bx = W.heap.size := ⟨_, rfl⟩
  rw [← hbx] at hbb ⊢
  have HK1 := Lib.hid hkx
  have HB := Lib.hid hbb
  clear hw1 hkx hbb hbx
  refine wp_asn2 13 [.pure (.pointer (some ⟨bx, 0, none⟩)), .pure (.int .i64 site), .mem (fun v w => SlAt w v 1 [.int .i64 site]), .pure (.string p1), .pure (.string (⟨#[32, 32, 115, 105, 116, 101]⟩ ++ p1)), .pure (.pointer (some ⟨bx, 1, none⟩)), .pure (.bool act), .pure (.string m1), .pure (.string (⟨#[32, 32, 115, 105, 116, 101]⟩ ++ p1 ++ m1)), .pure (.pointer (some ⟨bx, 2, none⟩)), .pure (.bool leav), .pure (.string m2), .pure (.string (⟨#[32, 32, 115, 105, 116, 101]⟩ ++ p1 ++ m1 ++ m2))] (by kernel_rfl) (by kernel_rfl) ?_
  intro Q0 hQ0
  refine asn_pure rfl ?_ ?_
  · intro w' hw' hf K' Q' hK
    clear hf hw'
    go_simp
    exact hK _ (Keep.refl _ _)
  try simp only [Act.put, List.setIfInBounds_toArray, List.set_cons_succ, List.set_cons_zero]
  refine asn_pure rfl ?_ ?_
  · intro w' hw' hf K' Q' hK
    have y0 := cell_of_block (hw'.at_ HB.out (by simp)) 0
    simp at y0
    clear hf
    go_simp
    exact hK _ (Keep.refl _ _)
  try simp only [Act.put, List.setIfInBounds_toArray, List.set_cons_succ, List.set_cons_zero]
  refine asn_mem (p := fun v w => SlAt w v 1 [.int .i64 site]) rfl (fun v w w' h k => h.keep0 k) ?_ ?_
  · intro w' hw' hf K' Q' hK
    clear hf hw'
    go_simp
    exact hK _ _ ((Keep.refl _ _).alloc _) (new_slV [.int .i64 site] 1 (by decide) (by simp))
  intro v
  try simp only [Act.put, List.setIfInBounds_toArray, List.set_cons_succ, List.set_cons_zero]
  refine asn_pure rfl ?_ ?_
  · intro w' hw' hf K' Q' hK
    go_simp
    refine (said_any [site] v w' (hf.2 (by kernel_rfl)) (sd1_ok HOK.out.1).2 (by simp)).mono ?_
    rintro e w2 ⟨rfl, hk2⟩
    rw [← E1.out]
    exact hK _ hk2
  try simp only [Act.put, List.setIfInBounds_toArray, List.set_cons_succ, List.set_cons_zero]
  refine asn_pure rfl ?_ ?_
  · intro w' hw' hf K' Q' hK
    clear hf hw'
    go_simp
    rw [if_neg]
    · exact hK _ (Keep.refl _ _)
    · omega
  try simp only [Act.put, List.setIfInBounds_toArray, List.set_cons_succ, List.set_cons_zero]
  refine asn_pure rfl ?_ ?_
  · intro w' hw' hf K' Q' hK
    clear hf hw'
    go_simp
    exact hK _ (Keep.refl _ _)
  try simp only [Act.put, List.setIfInBounds_toArray, List.set_cons_succ, List.set_cons_zero]
  refine asn_pure rfl ?_ ?_
  · intro w' hw' hf K' Q' hK
    have y1 := cell_of_block (hw'.at_ HB.out (by simp)) 1
    simp at y1
    clear hf
    go_simp
    exact hK _ (Keep.refl _ _)
  try simp only [Act.put, List.setIfInBounds_toArray, List.set_cons_succ, List.set_cons_zero]
  refine asn_pure rfl ?_ ?_
  · intro w' hw' hf K' Q' hK
    go_simp
    refine (rmaybe_any act ⟨#[97, 99, 116, 105, 118, 101]⟩ w' (by decide)).mono ?_
    rintro e w2 ⟨rfl, hk2⟩
    rw [← E2.out]
    exact hK _ hk2
  try simp only [Act.put, List.setIfInBounds_toArray, List.set_cons_succ, List.set_cons_zero]
  refine asn_pure rfl ?_ ?_
  · intro w' hw' hf K' Q' hK
    clear hf hw'
    go_simp
    rw [if_neg]
    · exact hK _ (Keep.refl _ _)
    · omega
  try simp only [Act.put, List.setIfInBounds_toArray, List.set_cons_succ, List.set_cons_zero]
  refine asn_pure rfl ?_ ?_
  · intro w' hw' hf K' Q' hK
    clear hf hw'
    go_simp
    exact hK _ (Keep.refl _ _)
  try simp only [Act.put, List.setIfInBounds_toArray, List.set_cons_succ, List.set_cons_zero]
  refine asn_pure rfl ?_ ?_
  · intro w' hw' hf K' Q' hK
    have y2 := cell_of_block (hw'.at_ HB.out (by simp)) 2
    simp at y2
    clear hf
    go_simp
    exact hK _ (Keep.refl _ _)
  try simp only [Act.put, List.setIfInBounds_toArray, List.set_cons_succ, List.set_cons_zero]
  refine asn_pure rfl ?_ ?_
  · intro w' hw' hf K' Q' hK
    go_simp
    refine (rmaybe_any leav ⟨#[108, 101, 97, 118, 105, 110, 103]⟩ w' (by decide)).mono ?_
    rintro e w2 ⟨rfl, hk2⟩
    rw [← E3.out]
    exact hK _ hk2
  try simp only [Act.put, List.setIfInBounds_toArray, List.set_cons_succ, List.set_cons_zero]
  refine asn_pure rfl ?_ ?_
  · intro w' hw' hf K' Q' hK
    clear hf hw'
    go_simp
    rw [if_neg]
    · exact hK _ (Keep.refl _ _)
    · omega
  try simp only [Act.put, List.setIfInBounds_toArray, List.set_cons_succ, List.set_cons_zero]
  refine asn_last rfl rfl ?_
  intro w' hw' hf K' Q' hK
  clear hf
  go_simp
  refine hK _ _ (hQ0 _ _ ?_)
  clear hK hQ0 K' Q' Q0
  have HK2 := Lib.hid (show Keep [] w1 w' from (Keep.refl [] w1).drew.trans0 hw')
  clear hw'
  rename World => w2
  have HB2 := Lib.hid (HK2.out.at_ HB.out (by simp))
  obtain ⟨q1, hq1⟩ : ∃ q, q = ⟨#[32, 32, 115, 105, 116, 101]⟩ ++ p1 ++ m1 ++ m2 := ⟨_, rfl⟩
  have z1 : q1.size ≤ 200 := by rw [hq1]; simp only [ByteArray.size_append]; have c1 : (⟨#[32, 32, 115, 105, 116, 101]⟩ : ByteArray).size = 6 := rfl; omega
  rw [← hq1]
  have HQ1 := Lib.hid hq1
  clear hq1 HB
  have c5 := cell_of_block HB2.out 5
  have c6 := cell_of_block HB2.out 6
  have c8 := cell_of_block HB2.out 8
  have c9 := cell_of_block HB2.out 9
  have c11 := cell_of_block HB2.out 11
  simp at c5 c6 c8 c9 c11
  have hblt : bx < w2.heap.size := lt_of_block HB2.out
  go_wp2_with fail
  obtain ⟨w3, hw3⟩ : ∃ w3, w3 = w2.alloc (.cells #[.string ⟨#[99, 108, 111, 99, 107]⟩, .string ⟨#[116, 105, 99, 107]⟩, .string ⟨#[108, 111, 103]⟩, .string ⟨#[107, 101, 112, 116]⟩, .string ⟨#[101, 112, 111, 99, 104]⟩] 9) := ⟨_, rfl⟩
  have hk3 : Keep [] w2 w3 := by rw [hw3]; exact (Keep.refl _ _).alloc _
  have hsl3 : SlAt w3 (.slice (some ⟨w2.heap.size, 0, none⟩) 5 5) 5 [.string ⟨#[99, 108, 111, 99, 107]⟩, .string ⟨#[116, 105, 99, 107]⟩, .string ⟨#[108, 111, 103]⟩, .string ⟨#[107, 101, 112, 116]⟩, .string ⟨#[101, 112, 111, 99, 104]⟩] := by rw [hw3]; exact new_slV _ 5 (by decide) (by simp)
  rw [← hw3]
  clear c5 c6 c8 c9 c11
  have c5 := cell_of_block (hk3.at_ HB2.out (by simp)) 5
  have c6 := cell_of_block (hk3.at_ HB2.out (by simp)) 6
  have c8 := cell_of_block (hk3.at_ HB2.out (by simp)) 8
  have c9 := cell_of_block (hk3.at_ HB2.out (by simp)) 9
  have c11 := cell_of_block (hk3.at_ HB2.out (by simp)) 11
  simp at c5 c6 c8 c9 c11
  have hsz3 : w3.heap.size = w2.heap.size + 1 := by rw [hw3, World.size_alloc]
  clear hw3 hblt
  obtain ⟨g3, hg3⟩ : ∃ g, g = w2.heap.size := ⟨_, rfl⟩
  rw [← hg3] at hsl3 hsz3 ⊢
  have HSZ3 := Lib.hid hsz3
  clear hsz3
  clear hg3
  go_wp2_with fail
  obtain ⟨w4, hw4⟩ : ∃ w4, w4 = w3.alloc (.cells #[.int .i64 clk, .int .i64 tick, .int .i64 log, .int .i64 kept, .int .i64 ep] 3) := ⟨_, rfl⟩
  have hk4 : Keep [] w3 w4 := by rw [hw4]; exact (Keep.refl _ _).alloc _
  have hsl4 : SlAt w4 (.slice (some ⟨g3 + 1, 0, none⟩) 5 5) 5 [.int .i64 clk, .int .i64 tick, .int .i64 log, .int .i64 kept, .int .i64 ep] := by rw [hw4, ← HSZ3.out]; exact new_slV _ 5 (by decide) (by simp)
  rw [← hw4]
  clear hw4
  have hzz : ZOk [(⟨#[99, 108, 111, 99, 107]⟩, clk), (⟨#[116, 105, 99, 107]⟩, tick), (⟨#[108, 111, 103]⟩, log), (⟨#[107, 101, 112, 116]⟩, kept), (⟨#[101, 112, 111, 99, 104]⟩, ep)] := z5_ok HOK.out.2.1 HOK.out.2.2.1 HOK.out.2.2.2.1 HOK.out.2.2.2.2.1 HOK.out.2.2.2.2.2.1
  have hA : SlAt w4 (.slice (some ⟨g3, 0, none⟩) 5 5) ([(⟨#[99, 108, 111, 99, 107]⟩, clk), (⟨#[116, 105, 99, 107]⟩, tick), (⟨#[108, 111, 103]⟩, log), (⟨#[107, 101, 112, 116]⟩, kept), (⟨#[101, 112, 111, 99, 104]⟩, ep)] : List (ByteArray × Int)).length (([(⟨#[99, 108, 111, 99, 107]⟩, clk), (⟨#[116, 105, 99, 107]⟩, tick), (⟨#[108, 111, 103]⟩, log), (⟨#[107, 101, 112, 116]⟩, kept), (⟨#[101, 112, 111, 99, 104]⟩, ep)] : List (ByteArray × Int)).map (fun z => .string z.1)) := hsl3.keep0 hk4
  have hB : SlAt w4 (.slice (some ⟨g3 + 1, 0, none⟩) 5 5) ([(⟨#[99, 108, 111, 99, 107]⟩, clk), (⟨#[116, 105, 99, 107]⟩, tick), (⟨#[108, 111, 103]⟩, log), (⟨#[107, 101, 112, 116]⟩, kept), (⟨#[101, 112, 111, 99, 104]⟩, ep)] : List (ByteArray × Int)).length (intsV (([(⟨#[99, 108, 111, 99, 107]⟩, clk), (⟨#[116, 105, 99, 107]⟩, tick), (⟨#[108, 111, 103]⟩, log), (⟨#[107, 101, 112, 116]⟩, kept), (⟨#[101, 112, 111, 99, 104]⟩, ep)] : List (ByteArray × Int)).map (·.2))) := hsl4
  refine (rnamed_any [(⟨#[99, 108, 111, 99, 107]⟩, clk), (⟨#[116, 105, 99, 107]⟩, tick), (⟨#[108, 111, 103]⟩, log), (⟨#[107, 101, 112, 116]⟩, kept), (⟨#[101, 112, 111, 99, 104]⟩, ep)] _ _ w4 hA hB hzz (by simp)).mono ?_
  rintro e w5 ⟨rfl, hk5⟩
  rw [← E4.out]
  have HK5 := Lib.hid (HK2.out.trans0 ((hk3.trans0 hk4).trans0 hk5))
  have HB := Lib.hid ((hk3.trans0 (hk4.trans0 hk5)).at_ HB2.out (by simp))
  clear hk3 hk4 hk5 hsl3 hsl4 c5 c6 c8 c9 c11 HB2
  go_upto_region 3 with (fail)
  obtain ⟨q2, hq2⟩ : ∃ q, q = q1 ++ n1 ++ ⟨#[10]⟩ := ⟨_, rfl⟩
  have z2 : q2.size ≤ 2000 := by rw [hq2]; simp only [ByteArray.size_append]; have c1 : (⟨#[10]⟩ : ByteArray).size = 1 := rfl; omega
  rw [← hq2]
  have HQ2 := Lib.hid hq2
  clear hq2
  have HW := Lib.hid (fun (w' : World) (h : Keep [] w5.drew w') => show Keep [] W w' from HK1.out.trans0 (HK5.out.trans0 ((Keep.refl [] w5).drew.trans0 h)))
  refine wp_asn2 22 [.pure (.string q2), .pure (.string (q2 ++ ⟨#[32, 32, 118, 101, 99, 116, 111, 114]⟩)), .pure (.pointer (some ⟨bx, 3, none⟩)), .pure (.slice adv nv capv), .pure (.string d1), .pure (.string (q2 ++ ⟨#[32, 32, 118, 101, 99, 116, 111, 114]⟩ ++ d1)), .pure (.string (q2 ++ ⟨#[32, 32, 118, 101, 99, 116, 111, 114]⟩ ++ d1 ++ ⟨#[10, 32, 32, 98, 97, 115, 101]⟩)), .pure (.pointer (some ⟨bx, 4, none⟩)), .pure (.slice adb nb capb), .pure (.string d2), .pure (.string (q2 ++ ⟨#[32, 32, 118, 101, 99, 116, 111, 114]⟩ ++ d1 ++ ⟨#[10, 32, 32, 98, 97, 115, 101]⟩ ++ d2)), .pure (.string (q2 ++ ⟨#[32, 32, 118, 101, 99, 116, 111, 114]⟩ ++ d1 ++ ⟨#[10, 32, 32, 98, 97, 115, 101]⟩ ++ d2 ++ ⟨#[10, 32, 32, 104, 101, 108, 100]⟩)), .pure (.pointer (some ⟨bx, 7, none⟩)), .pure (.slice adh nh caph), .pure (.string d3), .pure (.string (q2 ++ ⟨#[32, 32, 118, 101, 99, 116, 111, 114]⟩ ++ d1 ++ ⟨#[10, 32, 32, 98, 97, 115, 101]⟩ ++ d2 ++ ⟨#[10, 32, 32, 104, 101, 108, 100]⟩ ++ d3)), .pure (.string (q2 ++ ⟨#[32, 32, 118, 101, 99, 116, 111, 114]⟩ ++ d1 ++ ⟨#[10, 32, 32, 98, 97, 115, 101]⟩ ++ d2 ++ ⟨#[10, 32, 32, 104, 101, 108, 100]⟩ ++ d3 ++ ⟨#[10, 32, 32, 109, 101, 109, 98, 101, 114, 115]⟩)), .pure (.pointer (some ⟨bx, 10, none⟩)), .pure (.slice adm nm capm), .pure (.string d4), .pure (.string (q2 ++ ⟨#[32, 32, 118, 101, 99, 116, 111, 114]⟩ ++ d1 ++ ⟨#[10, 32, 32, 98, 97, 115, 101]⟩ ++ d2 ++ ⟨#[10, 32, 32, 104, 101, 108, 100]⟩ ++ d3 ++ ⟨#[10, 32, 32, 109, 101, 109, 98, 101, 114, 115]⟩ ++ d4)), .pure (.string (q2 ++ ⟨#[32, 32, 118, 101, 99, 116, 111, 114]⟩ ++ d1 ++ ⟨#[10, 32, 32, 98, 97, 115, 101]⟩ ++ d2 ++ ⟨#[10, 32, 32, 104, 101, 108, 100]⟩ ++ d3 ++ ⟨#[10, 32, 32, 109, 101, 109, 98, 101, 114, 115]⟩ ++ d4 ++ ⟨#[10]⟩))] (by kernel_rfl) (by kernel_rfl) ?_
  intro Q0 hQ0
  refine asn_pure rfl ?_ ?_
  · intro w' hw' hf K' Q' hK
    clear hf hw'
    go_simp
    exact hK _ (Keep.refl _ _)
  try simp only [Act.put, List.setIfInBounds_toArray, List.set_cons_succ, List.set_cons_zero]
  refine asn_pure rfl ?_ ?_
  · intro w' hw' hf K' Q' hK
    clear hf hw'
    go_simp
    rw [if_neg]
    · exact hK _ (Keep.refl _ _)
    · omega
  try simp only [Act.put, List.setIfInBounds_toArray, List.set_cons_succ, List.set_cons_zero]
  refine asn_pure rfl ?_ ?_
  · intro w' hw' hf K' Q' hK
    clear hf hw'
    go_simp
    exact hK _ (Keep.refl _ _)
  try simp only [Act.put, List.setIfInBounds_toArray, List.set_cons_succ, List.set_cons_zero]
  refine asn_pure rfl ?_ ?_
  · intro w' hw' hf K' Q' hK
    have y3 := cell_of_block (hw'.at_ HB.out (by simp)) 3
    simp at y3
    clear hf
    go_simp
    exact hK _ (Keep.refl _ _)
  try simp only [Act.put, List.setIfInBounds_toArray, List.set_cons_succ, List.set_cons_zero]
  refine asn_pure rfl ?_ ?_
  · intro w' hw' hf K' Q' hK
    go_simp
    refine (rdots_any _ nv vec w' (HR.out.1.keep0 (HW.out w' hw')) HOK.out.2.2.2.2.2.2.1 HOK.out.2.2.2.2.2.2.2.2.2.2.1).mono ?_
    rintro e w2 ⟨rfl, hk2⟩
    rw [← E5.out]
    exact hK _ hk2
  try simp only [Act.put, List.setIfInBounds_toArray, List.set_cons_succ, List.set_cons_zero]
  refine asn_pure rfl ?_ ?_
  · intro w' hw' hf K' Q' hK
    clear hf hw'
    go_simp
    rw [if_neg]
    · exact hK _ (Keep.refl _ _)
    · omega
  try simp only [Act.put, List.setIfInBounds_toArray, List.set_cons_succ, List.set_cons_zero]
  refine asn_pure rfl ?_ ?_
  · intro w' hw' hf K' Q' hK
    clear hf hw'
    go_simp
    rw [if_neg]
    · exact hK _ (Keep.refl _ _)
    · omega
  try simp only [Act.put, List.setIfInBounds_toArray, List.set_cons_succ, List.set_cons_zero]
  refine asn_pure rfl ?_ ?_
  · intro w' hw' hf K' Q' hK
    clear hf hw'
    go_simp
    exact hK _ (Keep.refl _ _)
  try simp only [Act.put, List.setIfInBounds_toArray, List.set_cons_succ, List.set_cons_zero]
  refine asn_pure rfl ?_ ?_
  · intro w' hw' hf K' Q' hK
    have y4 := cell_of_block (hw'.at_ HB.out (by simp)) 4
    simp at y4
    clear hf
    go_simp
    exact hK _ (Keep.refl _ _)
  try simp only [Act.put, List.setIfInBounds_toArray, List.set_cons_succ, List.set_cons_zero]
  refine asn_pure rfl ?_ ?_
  · intro w' hw' hf K' Q' hK
    go_simp
    refine (rdots_any _ nb bas w' (HR.out.2.1.keep0 (HW.out w' hw')) HOK.out.2.2.2.2.2.2.2.1 HOK.out.2.2.2.2.2.2.2.2.2.2.2.1).mono ?_
    rintro e w2 ⟨rfl, hk2⟩
    rw [← E6.out]
    exact hK _ hk2
  try simp only [Act.put, List.setIfInBounds_toArray, List.set_cons_succ, List.set_cons_zero]
  refine asn_pure rfl ?_ ?_
  · intro w' hw' hf K' Q' hK
    clear hf hw'
    go_simp
    rw [if_neg]
    · exact hK _ (Keep.refl _ _)
    · omega
  try simp only [Act.put, List.setIfInBounds_toArray, List.set_cons_succ, List.set_cons_zero]
  refine asn_pure rfl ?_ ?_
  · intro w' hw' hf K' Q' hK
    clear hf hw'
    go_simp
    rw [if_neg]
    · exact hK _ (Keep.refl _ _)
    · omega
  try simp only [Act.put, List.setIfInBounds_toArray, List.set_cons_succ, List.set_cons_zero]
  refine asn_pure rfl ?_ ?_
  · intro w' hw' hf K' Q' hK
    clear hf hw'
    go_simp
    exact hK _ (Keep.refl _ _)
  try simp only [Act.put, List.setIfInBounds_toArray, List.set_cons_succ, List.set_cons_zero]
  refine asn_pure rfl ?_ ?_
  · intro w' hw' hf K' Q' hK
    have y7 := cell_of_block (hw'.at_ HB.out (by simp)) 7
    simp at y7
    clear hf
    go_simp
    exact hK _ (Keep.refl _ _)
  try simp only [Act.put, List.setIfInBounds_toArray, List.set_cons_succ, List.set_cons_zero]
  refine asn_pure rfl ?_ ?_
  · intro w' hw' hf K' Q' hK
    go_simp
    refine (rdots_any _ nh held w' (HR.out.2.2.1.keep0 (HW.out w' hw')) HOK.out.2.2.2.2.2.2.2.2.1 HOK.out.2.2.2.2.2.2.2.2.2.2.2.2.1).mono ?_
    rintro e w2 ⟨rfl, hk2⟩
    rw [← E7.out]
    exact hK _ hk2
  try simp only [Act.put, List.setIfInBounds_toArray, List.set_cons_succ, List.set_cons_zero]
  refine asn_pure rfl ?_ ?_
  · intro w' hw' hf K' Q' hK
    clear hf hw'
    go_simp
    rw [if_neg]
    · exact hK _ (Keep.refl _ _)
    · omega
  try simp only [Act.put, List.setIfInBounds_toArray, List.set_cons_succ, List.set_cons_zero]
  refine asn_pure rfl ?_ ?_
  · intro w' hw' hf K' Q' hK
    clear hf hw'
    go_simp
    rw [if_neg]
    · exact hK _ (Keep.refl _ _)
    · omega
  try simp only [Act.put, List.setIfInBounds_toArray, List.set_cons_succ, List.set_cons_zero]
  refine asn_pure rfl ?_ ?_
  · intro w' hw' hf K' Q' hK
    clear hf hw'
    go_simp
    exact hK _ (Keep.refl _ _)
  try simp only [Act.put, List.setIfInBounds_toArray, List.set_cons_succ, List.set_cons_zero]
  refine asn_pure rfl ?_ ?_
  · intro w' hw' hf K' Q' hK
    have y10 := cell_of_block (hw'.at_ HB.out (by simp)) 10
    simp at y10
    clear hf
    go_simp
    exact hK _ (Keep.refl _ _)
  try simp only [Act.put, List.setIfInBounds_toArray, List.set_cons_succ, List.set_cons_zero]
  refine asn_pure rfl ?_ ?_
  · intro w' hw' hf K' Q' hK
    go_simp
    refine (said_any mem _ w' (by have h1 : mem.length = nm * 1 := HR.out.2.2.2.1.2; have h2 := HR.out.2.2.2.1.1.keep0 (HW.out w' hw'); simp only [Nat.mul_one] at h1 h2; rw [h1]; exact h2) HOK.out.2.2.2.2.2.2.2.2.2.1 (by have h1 : mem.length = nm * 1 := HR.out.2.2.2.1.2; omega)).mono ?_
    rintro e w2 ⟨rfl, hk2⟩
    rw [← E8.out]
    exact hK _ hk2
  try simp only [Act.put, List.setIfInBounds_toArray, List.set_cons_succ, List.set_cons_zero]
  refine asn_pure rfl ?_ ?_
  · intro w' hw' hf K' Q' hK
    clear hf hw'
    go_simp
    rw [if_neg]
    · exact hK _ (Keep.refl _ _)
    · omega
  try simp only [Act.put, List.setIfInBounds_toArray, List.set_cons_succ, List.set_cons_zero]
  refine asn_pure rfl ?_ ?_
  · intro w' hw' hf K' Q' hK
    clear hf hw'
    go_simp
    rw [if_neg]
    · exact hK _ (Keep.refl _ _)
    · omega
  try simp only [Act.put, List.setIfInBounds_toArray, List.set_cons_succ, List.set_cons_zero]
  refine asn_last rfl rfl ?_
  intro w' hw' hf K' Q' hK
  clear hf
  go_simp
  refine hK _ _ (hQ0 _ _ ?_)
  clear hK hQ0 K' Q' Q0
  have HK6 := Lib.hid (HW.out _ hw')
  have HB2 := Lib.hid (hw'.at_ HB.out (by simp))
  clear hw' HW HB HK5 HK1 HK2
  rename World => w6
  obtain ⟨q3, hq3⟩ : ∃ q, q = q2 ++ ⟨#[32, 32, 118, 101, 99, 116, 111, 114]⟩ ++ d1 ++ ⟨#[10, 32, 32, 98, 97, 115, 101]⟩ ++ d2 ++ ⟨#[10, 32, 32, 104, 101, 108, 100]⟩ ++ d3 ++ ⟨#[10, 32, 32, 109, 101, 109, 98, 101, 114, 115]⟩ ++ d4 ++ ⟨#[10]⟩ := ⟨_, rfl⟩
  have z3 : q3.size ≤ 2000000 := by
    rw [hq3]
    simp only [ByteArray.size_append]
    have c1 : (⟨#[32, 32, 118, 101, 99, 116, 111, 114]⟩ : ByteArray).size = 8 := rfl
    have c2 : (⟨#[10, 32, 32, 98, 97, 115, 101]⟩ : ByteArray).size = 7 := rfl
    have c3 : (⟨#[10, 32, 32, 104, 101, 108, 100]⟩ : ByteArray).size = 7 := rfl
    have c4 : (⟨#[10, 32, 32, 109, 101, 109, 98, 101, 114, 115]⟩ : ByteArray).size = 10 := rfl
    have c5 : (⟨#[10]⟩ : ByteArray).size = 1 := rfl
    omega
  rw [← hq3]
  have HFI := Lib.hid (show sg = q3 ++ pesR prs by rw [HSB.out, hq3, HQ2.out, HQ1.out])
  clear hq3 HSB HQ1 HQ2 E1 E2 E3 E4 E5 E6 E7 E8 s1 s2 s3 s4 s5 s6 s7 s8 z1 z2 bv bb bh bm
  have hnp1 : np ≤ 1000 := by have := HOK.out.2.2.2.2.2.2.2.2.2.2.2.2.2.2.2; have := HNP.out; omega
  go_upto_region 5 with (fail)
  go_loopw [3, 4] (fun sv iv wr => ∃ k : Nat, sv = .string (q3 ++ pesR (prs.take k)) ∧ iv = .int .i64 k ∧ k ≤ np ∧ Keep [] w6 wr) (fun _ iv _ => np - (intOf iv).toNat)
  case atStart => exact ⟨0, by simp [pesR], rfl, Nat.zero_le _, Keep.refl _ _⟩
  case round =>
    rename World => wr
    obtain ⟨k, rfl, rfl, hk, hkr⟩ := hrel
    have HKR := Lib.hid hkr
    clear hkr
    have HBR := Lib.hid (HKR.out.at_ HB2.out (by simp))
    have c12 := cell_of_block HBR.out 12
    simp at c12
    by_cases hlt : k < np
    · have HLT := Lib.hid hlt
      have g1 := dec_lt_t (show (k : Int) < (np : Int) by omega)
      have g2 := dec_ltn_t hlt
      have hkL : k < prs.length := by rw [← HNP.out]; exact hlt
      obtain ⟨ad, cp, e, hel⟩ := HR.out.2.2.2.2
      simp only at e hel
      injection e with e1 e2 e3
      obtain ⟨gb, off, rfl, hcl⟩ := hel (by omega)
      subst e1
      obtain ⟨rv, uv, fv, hpr, hu⟩ := hcl k hkL
      have hall : ∀ p ∈ prs, PeerOk p := HOK.out.2.2.2.2.2.2.2.2.2.2.2.2.2.2.1
      have hpok := hall _ (List.getElem_mem hkL)
      have htk : prs.take (k + 1) = prs.take k ++ [prs[k]] := by rw [List.take_add_one, List.getElem?_eq_getElem hkL]; rfl
      have hsz : (q3 ++ pesR (prs.take k)).size ≤ 2000000000 := by
        have key : ∀ m, m ≤ prs.length → (pesR (prs.take m)).size ≤ m * 1200000 := by
          intro m
          induction m with
          | zero => intro _; simp [pesR]
          | succ m ih =>
            intro hm
            obtain ⟨rv, uv, fv, hpr, _⟩ := hcl m (by omega)
            rw [List.take_add_one, List.getElem?_eq_getElem (by omega), pesR_app, ByteArray.size_append]
            have h1 := ih (by omega)
            have h2 := peR_size (hall _ (List.getElem_mem (show m < prs.length by omega))) hpr.1.2 hpr.2.1.2 hpr.2.2.2
            show _ + (peR prs[m] ++ ByteArray.empty).size ≤ _
            rw [ByteArray.append_empty]
            omega
        have h := key k (by omega)
        rw [ByteArray.size_append]
        omega
      generalize prs[k] = p at hpr hu hpok htk
      have HTK := Lib.hid (show q3 ++ pesR (prs.take (k + 1)) = (q3 ++ pesR (prs.take k)) ++ peR p by
        rw [htk, pesR_app, ByteArray.append_assoc]
        simp [pesR])
      obtain ⟨adr, capr, rfl⟩ := hpr.1.1.empty
      obtain ⟨adu, capu, rfl⟩ := hpr.2.1.1.empty
      obtain ⟨adf, capf, rfl⟩ := hpr.2.2.1.empty
      have HPE := Lib.hid (show peR p = ⟨#[32, 32, 112, 101, 101, 114]⟩ ++ sdB [p.peer] ++ mbB p.heard ⟨#[104, 101, 97, 114, 100]⟩ ++ nmB [(⟨#[103, 111, 116]⟩, p.got), (⟨#[99, 114, 101, 100, 105, 116]⟩, p.credit), (⟨#[103, 97, 112]⟩, p.gap), (⟨#[100, 117, 101]⟩, p.due)] ++ ⟨#[10]⟩ ++ ⟨#[32, 32, 32, 32, 114, 111, 119]⟩ ++ sdB p.row ++ ⟨#[10, 32, 32, 32, 32, 117, 115, 97, 98, 108, 101]⟩ ++ sdB p.us ++ ⟨#[10, 32, 32, 32, 32, 102, 108, 105, 103, 104, 116]⟩ ++ sdB p.fl ++ ⟨#[10]⟩ from rfl)
      obtain ⟨pp, hpp⟩ : ∃ pp, pp = peR p := ⟨_, rfl⟩
      rw [← hpp] at HPE HTK
      have HPR := Lib.hid hpr
      have HPOK := Lib.hid hpok
      unfold peV at hu
      obtain ⟨peer, heard, row, nr, us, nu, fl, nf, got, credit, gap, due⟩ := p
      simp only at HPE HPR HPOK hu
      have hkk : Keep [] W wr := HK6.out.trans0 HKR.out
      have v0 : wr.cell? ⟨gb, off + k * 9, none⟩ = some (.int .i64 peer) := hkk.cellv (hu 0 _ rfl) (by simp)
      have v1 : wr.cell? ⟨gb, off + k * 9 + 1, none⟩ = some (.bool heard) := hkk.cellv (hu 1 _ rfl) (by simp)
      have v2 : wr.cell? ⟨gb, off + k * 9 + 2, none⟩ = some (.slice adr nr capr) := hkk.cellv (hu 2 _ rfl) (by simp)
      have v3 : wr.cell? ⟨gb, off + k * 9 + 3, none⟩ = some (.slice adu nu capu) := hkk.cellv (hu 3 _ rfl) (by simp)
      have v4 : wr.cell? ⟨gb, off + k * 9 + 4, none⟩ = some (.slice adf nf capf) := hkk.cellv (hu 4 _ rfl) (by simp)
      have v5 : wr.cell? ⟨gb, off + k * 9 + 5, none⟩ = some (.int .i64 got) := hkk.cellv (hu 5 _ rfl) (by simp)
      have v6 : wr.cell? ⟨gb, off + k * 9 + 6, none⟩ = some (.int .i64 credit) := hkk.cellv (hu 6 _ rfl) (by simp)
      have v7 : wr.cell? ⟨gb, off + k * 9 + 7, none⟩ = some (.int .i64 gap) := hkk.cellv (hu 7 _ rfl) (by simp)
      have v8 : wr.cell? ⟨gb, off + k * 9 + 8, none⟩ = some (.int .i64 due) := hkk.cellv (hu 8 _ rfl) (by simp)
      have HPOK := Lib.hid (show I64 peer ∧ I64 got ∧ I64 credit ∧ I64 gap ∧ I64 due ∧ AllI row ∧ AllI us ∧ AllI fl ∧ nr ≤ 10000 ∧ nu ≤ 10000 ∧ nf ≤ 10000 from HPOK.out)
      have lr : row.length = nr * 2 := HPR.out.1.2
      have lu : us.length = nu * 2 := HPR.out.2.1.2
      have lf : fl.length = nf * 1 := HPR.out.2.2.2
      have br := HPOK.out.2.2.2.2.2.2.2.2.1
      have bu := HPOK.out.2.2.2.2.2.2.2.2.2.1
      have bf := HPOK.out.2.2.2.2.2.2.2.2.2.2
      have s1 := (sd1_ok HPOK.out.1).1
      have s2 := mbB_size heard ⟨#[104, 101, 97, 114, 100]⟩
      have s4 := nmB_size (z4_ok HPOK.out.2.1 HPOK.out.2.2.1 HPOK.out.2.2.2.1 HPOK.out.2.2.2.2.1)
      have s5 : (sdB row).size ≤ 440000 := by have := sdB_size (HPOK.out.2.2.2.2.2.1 : AllI row); omega
      have s6 : (sdB us).size ≤ 440000 := by have := sdB_size (HPOK.out.2.2.2.2.2.2.1 : AllI us); omega
      have s7 : (sdB fl).size ≤ 440000 := by have := sdB_size (HPOK.out.2.2.2.2.2.2.2.1 : AllI fl); omega
      have e1 : (⟨#[104, 101, 97, 114, 100]⟩ : ByteArray).size = 5 := rfl
      simp only [List.length_cons, List.length_nil] at s4
      rw [e1] at s2
      obtain ⟨p1, h1⟩ : ∃ p, p = sdB [peer] := ⟨_, rfl⟩
      obtain ⟨m1, h2⟩ : ∃ p, p = mbB heard ⟨#[104, 101, 97, 114, 100]⟩ := ⟨_, rfl⟩
      obtain ⟨n1, h4⟩ : ∃ p, p = nmB [(⟨#[103, 111, 116]⟩, got), (⟨#[99, 114, 101, 100, 105, 116]⟩, credit), (⟨#[103, 97, 112]⟩, gap), (⟨#[100, 117, 101]⟩, due)] := ⟨_, rfl⟩
      obtain ⟨d1, h5⟩ : ∃ p, p = sdB row := ⟨_, rfl⟩
      obtain ⟨d2, h6⟩ : ∃ p, p = sdB us := ⟨_, rfl⟩
      obtain ⟨d3, h7⟩ : ∃ p, p = sdB fl := ⟨_, rfl⟩
      rw [← h1, ← h2, ← h4, ← h5, ← h6, ← h7] at HPE
      rw [← h1] at s1
      rw [← h2] at s2
      rw [← h4] at s4
      rw [← h5] at s5
      rw [← h6] at s6
      rw [← h7] at s7
      have E1 := Lib.hid h1
      have E2 := Lib.hid h2
      have E4 := Lib.hid h4
      have E5 := Lib.hid h5
      have E6 := Lib.hid h6
      have E7 := Lib.hid h7
      obtain ⟨s0, hs0⟩ : ∃ s0, s0 = q3 ++ pesR (prs.take k) := ⟨_, rfl⟩
      rw [← hs0] at hsz HTK ⊢
      clear h1 h2 h4 h5 h6 h7 hs0 hpp hpr hpok hu hcl hel hkL e2 e3 hlt hkk lr lu lf htk hall e1
      go_upto_region 8 with (fail)
      obtain ⟨wp, hwp⟩ : ∃ wp, wp = wr.alloc (.cells #[.int .i64 peer, .bool heard, .slice adr nr capr, .slice adu nu capu, .slice adf nf capf, .int .i64 got, .int .i64 credit, .int .i64 gap, .int .i64 due] 88) := ⟨_, rfl⟩
      have hkp : Keep [] wr wp := by rw [hwp]; exact (Keep.refl _ _).alloc _
      have hbp : wp.heap[wr.heap.size]? = some (.cells #[.int .i64 peer, .bool heard, .slice adr nr capr, .slice adu nu capu, .slice adf nf capf, .int .i64 got, .int .i64 credit, .int .i64 gap, .int .i64 due] 88 (0, 0)) := by rw [hwp]; exact World.alloc_heap_new wr _
      rw [← hwp]
      obtain ⟨bp, hbpe⟩ : ∃ bp, bp = wr.heap.size := ⟨_, rfl⟩
      rw [← hbpe] at hbp ⊢
      have HBP := Lib.hid hbp
      have HKP := Lib.hid (HKR.out.trans0 hkp)
      clear hwp hkp hbp hbpe v0 v1 v2 v3 v4 v5 v6 v7 v8 c12
      refine wp_asn2 24 [.pure (.string s0), .pure (.string (s0 ++ ⟨#[32, 32, 112, 101, 101, 114]⟩)), .pure (.pointer (some ⟨bp, 0, none⟩)), .pure (.int .i64 peer), .mem (fun v w => SlAt w v 1 [.int .i64 peer]), .pure (.string p1), .pure (.string (s0 ++ ⟨#[32, 32, 112, 101, 101, 114]⟩ ++ p1)), .pure (.pointer (some ⟨bp, 1, none⟩)), .pure (.bool heard), .pure (.string m1), .pure (.string (s0 ++ ⟨#[32, 32, 112, 101, 101, 114]⟩ ++ p1 ++ m1)), .mem (fun v w => SlAt w v 4 [.string ⟨#[103, 111, 116]⟩, .string ⟨#[99, 114, 101, 100, 105, 116]⟩, .string ⟨#[103, 97, 112]⟩, .string ⟨#[100, 117, 101]⟩]), .pure (.pointer (some ⟨bp, 5, none⟩)), .pure (.int .i64 got), .pure (.pointer (some ⟨bp, 6, none⟩)), .pure (.int .i64 credit), .pure (.pointer (some ⟨bp, 7, none⟩)), .pure (.int .i64 gap), .pure (.pointer (some ⟨bp, 8, none⟩)), .pure (.int .i64 due), .mem (fun v w => SlAt w v 4 [.int .i64 got, .int .i64 credit, .int .i64 gap, .int .i64 due]), .pure (.string n1), .pure (.string (s0 ++ ⟨#[32, 32, 112, 101, 101, 114]⟩ ++ p1 ++ m1 ++ n1)), .pure (.string (s0 ++ ⟨#[32, 32, 112, 101, 101, 114]⟩ ++ p1 ++ m1 ++ n1 ++ ⟨#[10]⟩))] (by kernel_rfl) (by kernel_rfl) ?_
      intro Q0 hQ0
      refine asn_pure rfl ?_ ?_
      · intro w' hw' hf K' Q' hK
        clear hf hw'
        go_simp
        exact hK _ (Keep.refl _ _)
      try simp only [Act.put, List.setIfInBounds_toArray, List.set_cons_succ, List.set_cons_zero]
      refine asn_pure rfl ?_ ?_
      · intro w' hw' hf K' Q' hK
        clear hf hw'
        go_simp
        rw [if_neg]
        · exact hK _ (Keep.refl _ _)
        · omega
      try simp only [Act.put, List.setIfInBounds_toArray, List.set_cons_succ, List.set_cons_zero]
      refine asn_pure rfl ?_ ?_
      · intro w' hw' hf K' Q' hK
        clear hf hw'
        go_simp
        exact hK _ (Keep.refl _ _)
      try simp only [Act.put, List.setIfInBounds_toArray, List.set_cons_succ, List.set_cons_zero]
      refine asn_pure rfl ?_ ?_
      · intro w' hw' hf K' Q' hK
        have y0 := cell_of_block (hw'.at_ HBP.out (by simp)) 0
        simp at y0
        clear hf
        go_simp
        exact hK _ (Keep.refl _ _)
      try simp only [Act.put, List.setIfInBounds_toArray, List.set_cons_succ, List.set_cons_zero]
      refine asn_mem (p := fun v w => SlAt w v 1 [.int .i64 peer]) rfl (fun v w w' h k => h.keep0 k) ?_ ?_
      · intro w' hw' hf K' Q' hK
        clear hf hw'
        go_simp
        exact hK _ _ ((Keep.refl _ _).alloc _) (new_slV [.int .i64 peer] 1 (by decide) (by simp))
      intro v
      try simp only [Act.put, List.setIfInBounds_toArray, List.set_cons_succ, List.set_cons_zero]
      refine asn_pure rfl ?_ ?_
      · intro w' hw' hf K' Q' hK
        go_simp
        refine (said_any [peer] v w' (hf.2 (by kernel_rfl)) (sd1_ok HPOK.out.1).2 (by simp)).mono ?_
        rintro e w2 ⟨rfl, hk2⟩
        rw [← E1.out]
        exact hK _ hk2
      try simp only [Act.put, List.setIfInBounds_toArray, List.set_cons_succ, List.set_cons_zero]
      refine asn_pure rfl ?_ ?_
      · intro w' hw' hf K' Q' hK
        clear hf hw'
        go_simp
        rw [if_neg]
        · exact hK _ (Keep.refl _ _)
        · omega
      try simp only [Act.put, List.setIfInBounds_toArray, List.set_cons_succ, List.set_cons_zero]
      refine asn_pure rfl ?_ ?_
      · intro w' hw' hf K' Q' hK
        clear hf hw'
        go_simp
        exact hK _ (Keep.refl _ _)
      try simp only [Act.put, List.setIfInBounds_toArray, List.set_cons_succ, List.set_cons_zero]
      refine asn_pure rfl ?_ ?_
      · intro w' hw' hf K' Q' hK
        have y1 := cell_of_block (hw'.at_ HBP.out (by simp)) 1
        simp at y1
        clear hf
        go_simp
        exact hK _ (Keep.refl _ _)
      try simp only [Act.put, List.setIfInBounds_toArray, List.set_cons_succ, List.set_cons_zero]
      refine asn_pure rfl ?_ ?_
      · intro w' hw' hf K' Q' hK
        go_simp
        refine (rmaybe_any heard ⟨#[104, 101, 97, 114, 100]⟩ w' (by decide)).mono ?_
        rintro e w2 ⟨rfl, hk2⟩
        rw [← E2.out]
        exact hK _ hk2
      try simp only [Act.put, List.setIfInBounds_toArray, List.set_cons_succ, List.set_cons_zero]
      refine asn_pure rfl ?_ ?_
      · intro w' hw' hf K' Q' hK
        clear hf hw'
        go_simp
        rw [if_neg]
        · exact hK _ (Keep.refl _ _)
        · omega
      try simp only [Act.put, List.setIfInBounds_toArray, List.set_cons_succ, List.set_cons_zero]
      refine asn_mem (p := fun v w => SlAt w v 4 [.string ⟨#[103, 111, 116]⟩, .string ⟨#[99, 114, 101, 100, 105, 116]⟩, .string ⟨#[103, 97, 112]⟩, .string ⟨#[100, 117, 101]⟩]) rfl (fun v w w' h k => h.keep0 k) ?_ ?_
      · intro w' hw' hf K' Q' hK
        clear hf hw'
        go_simp
        exact hK _ _ ((Keep.refl _ _).alloc _) (new_slV [.string ⟨#[103, 111, 116]⟩, .string ⟨#[99, 114, 101, 100, 105, 116]⟩, .string ⟨#[103, 97, 112]⟩, .string ⟨#[100, 117, 101]⟩] 4 (by decide) (by simp))
      intro v2
      try simp only [Act.put, List.setIfInBounds_toArray, List.set_cons_succ, List.set_cons_zero]
      refine asn_pure rfl ?_ ?_
      · intro w' hw' hf K' Q' hK
        clear hf hw'
        go_simp
        exact hK _ (Keep.refl _ _)
      try simp only [Act.put, List.setIfInBounds_toArray, List.set_cons_succ, List.set_cons_zero]
      refine asn_pure rfl ?_ ?_
      · intro w' hw' hf K' Q' hK
        have y5 := cell_of_block (hw'.at_ HBP.out (by simp)) 5
        simp at y5
        clear hf
        go_simp
        exact hK _ (Keep.refl _ _)
      try simp only [Act.put, List.setIfInBounds_toArray, List.set_cons_succ, List.set_cons_zero]
      refine asn_pure rfl ?_ ?_
      · intro w' hw' hf K' Q' hK
        clear hf hw'
        go_simp
        exact hK _ (Keep.refl _ _)
      try simp only [Act.put, List.setIfInBounds_toArray, List.set_cons_succ, List.set_cons_zero]
      refine asn_pure rfl ?_ ?_
      · intro w' hw' hf K' Q' hK
        have y6 := cell_of_block (hw'.at_ HBP.out (by simp)) 6
        simp at y6
        clear hf
        go_simp
        exact hK _ (Keep.refl _ _)
      try simp only [Act.put, List.setIfInBounds_toArray, List.set_cons_succ, List.set_cons_zero]
      refine asn_pure rfl ?_ ?_
      · intro w' hw' hf K' Q' hK
        clear hf hw'
        go_simp
        exact hK _ (Keep.refl _ _)
      try simp only [Act.put, List.setIfInBounds_toArray, List.set_cons_succ, List.set_cons_zero]
      refine asn_pure rfl ?_ ?_
      · intro w' hw' hf K' Q' hK
        have y7 := cell_of_block (hw'.at_ HBP.out (by simp)) 7
        simp at y7
        clear hf
        go_simp
        exact hK _ (Keep.refl _ _)
      try simp only [Act.put, List.setIfInBounds_toArray, List.set_cons_succ, List.set_cons_zero]
      refine asn_pure rfl ?_ ?_
      · intro w' hw' hf K' Q' hK
        clear hf hw'
        go_simp
        exact hK _ (Keep.refl _ _)
      try simp only [Act.put, List.setIfInBounds_toArray, List.set_cons_succ, List.set_cons_zero]
      refine asn_pure rfl ?_ ?_
      · intro w' hw' hf K' Q' hK
        have y8 := cell_of_block (hw'.at_ HBP.out (by simp)) 8
        simp at y8
        clear hf
        go_simp
        exact hK _ (Keep.refl _ _)
      try simp only [Act.put, List.setIfInBounds_toArray, List.set_cons_succ, List.set_cons_zero]
      refine asn_mem (p := fun v w => SlAt w v 4 [.int .i64 got, .int .i64 credit, .int .i64 gap, .int .i64 due]) rfl (fun v w w' h k => h.keep0 k) ?_ ?_
      · intro w' hw' hf K' Q' hK
        clear hf hw'
        go_simp
        exact hK _ _ ((Keep.refl _ _).alloc _) (new_slV [.int .i64 got, .int .i64 credit, .int .i64 gap, .int .i64 due] 4 (by decide) (by simp))
      intro v3
      try simp only [Act.put, List.setIfInBounds_toArray, List.set_cons_succ, List.set_cons_zero]
      refine asn_pure rfl ?_ ?_
      · intro w' hw' hf K' Q' hK
        go_simp
        refine (rnamed_any [(⟨#[103, 111, 116]⟩, got), (⟨#[99, 114, 101, 100, 105, 116]⟩, credit), (⟨#[103, 97, 112]⟩, gap), (⟨#[100, 117, 101]⟩, due)] v2 v3 w' (hf.1.2 (by kernel_rfl)) (hf.2 (by kernel_rfl)) (z4_ok HPOK.out.2.1 HPOK.out.2.2.1 HPOK.out.2.2.2.1 HPOK.out.2.2.2.2.1) (by simp)).mono ?_
        rintro e w2 ⟨rfl, hk2⟩
        rw [← E4.out]
        exact hK _ hk2
      try simp only [Act.put, List.setIfInBounds_toArray, List.set_cons_succ, List.set_cons_zero]
      refine asn_pure rfl ?_ ?_
      · intro w' hw' hf K' Q' hK
        clear hf hw'
        go_simp
        rw [if_neg]
        · exact hK _ (Keep.refl _ _)
        · omega
      try simp only [Act.put, List.setIfInBounds_toArray, List.set_cons_succ, List.set_cons_zero]
      refine asn_pure rfl ?_ ?_
      · intro w' hw' hf K' Q' hK
        clear hf hw'
        go_simp
        rw [if_neg]
        · exact hK _ (Keep.refl _ _)
        · omega
      try simp only [Act.put, List.setIfInBounds_toArray, List.set_cons_succ, List.set_cons_zero]
      refine asn_last rfl rfl ?_
      intro w' hw' hf K' Q' hK
      clear hf
      go_simp
      refine hK _ _ (hQ0 _ _ ?_)
      clear hK hQ0 K' Q' Q0
      have HKQ := Lib.hid (HKP.out.trans0 ((Keep.refl [] wp).drew.trans0 hw'))
      have HBQ := Lib.hid (hw'.at_ HBP.out (by simp))
      clear hw' HBP HKP
      rename World => wq
      obtain ⟨q4, hq4⟩ : ∃ q, q = s0 ++ ⟨#[32, 32, 112, 101, 101, 114]⟩ ++ p1 ++ m1 ++ n1 ++ ⟨#[10]⟩ := ⟨_, rfl⟩
      have z4 : q4.size ≤ 2100000000 := by
        rw [hq4]
        simp only [ByteArray.size_append]
        have c1 : (⟨#[32, 32, 112, 101, 101, 114]⟩ : ByteArray).size = 6 := rfl
        have c5 : (⟨#[10]⟩ : ByteArray).size = 1 := rfl
        omega
      rw [← hq4]
      have HQ4 := Lib.hid hq4
      clear hq4
      go_upto_region 9 with (fail)
      have HW := Lib.hid (fun (w' : World) (h : Keep [] wq.drew w') => show Keep [] W w' from HK6.out.trans0 (HKQ.out.trans0 ((Keep.refl [] wq).drew.trans0 h)))
      refine wp_asn2 17 [.pure (.string q4), .pure (.string (q4 ++ ⟨#[32, 32, 32, 32, 114, 111, 119]⟩)), .pure (.pointer (some ⟨bp, 2, none⟩)), .pure (.slice adr nr capr), .pure (.string d1), .pure (.string (q4 ++ ⟨#[32, 32, 32, 32, 114, 111, 119]⟩ ++ d1)), .pure (.string (q4 ++ ⟨#[32, 32, 32, 32, 114, 111, 119]⟩ ++ d1 ++ ⟨#[10, 32, 32, 32, 32, 117, 115, 97, 98, 108, 101]⟩)), .pure (.pointer (some ⟨bp, 3, none⟩)), .pure (.slice adu nu capu), .pure (.string d2), .pure (.string (q4 ++ ⟨#[32, 32, 32, 32, 114, 111, 119]⟩ ++ d1 ++ ⟨#[10, 32, 32, 32, 32, 117, 115, 97, 98, 108, 101]⟩ ++ d2)), .pure (.string (q4 ++ ⟨#[32, 32, 32, 32, 114, 111, 119]⟩ ++ d1 ++ ⟨#[10, 32, 32, 32, 32, 117, 115, 97, 98, 108, 101]⟩ ++ d2 ++ ⟨#[10, 32, 32, 32, 32, 102, 108, 105, 103, 104, 116]⟩)), .pure (.pointer (some ⟨bp, 4, none⟩)), .pure (.slice adf nf capf), .pure (.string d3), .pure (.string (q4 ++ ⟨#[32, 32, 32, 32, 114, 111, 119]⟩ ++ d1 ++ ⟨#[10, 32, 32, 32, 32, 117, 115, 97, 98, 108, 101]⟩ ++ d2 ++ ⟨#[10, 32, 32, 32, 32, 102, 108, 105, 103, 104, 116]⟩ ++ d3)), .pure (.string (q4 ++ ⟨#[32, 32, 32, 32, 114, 111, 119]⟩ ++ d1 ++ ⟨#[10, 32, 32, 32, 32, 117, 115, 97, 98, 108, 101]⟩ ++ d2 ++ ⟨#[10, 32, 32, 32, 32, 102, 108, 105, 103, 104, 116]⟩ ++ d3 ++ ⟨#[10]⟩))] (by kernel_rfl) (by kernel_rfl) ?_
      intro Q0 hQ0
      refine asn_pure rfl ?_ ?_
      · intro w' hw' hf K' Q' hK
        clear hf hw'
        go_simp
        exact hK _ (Keep.refl _ _)
      try simp only [Act.put, List.setIfInBounds_toArray, List.set_cons_succ, List.set_cons_zero]
      refine asn_pure rfl ?_ ?_
      · intro w' hw' hf K' Q' hK
        clear hf hw'
        go_simp
        rw [if_neg]
        · exact hK _ (Keep.refl _ _)
        · omega
      try simp only [Act.put, List.setIfInBounds_toArray, List.set_cons_succ, List.set_cons_zero]
      refine asn_pure rfl ?_ ?_
      · intro w' hw' hf K' Q' hK
        clear hf hw'
        go_simp
        exact hK _ (Keep.refl _ _)
      try simp only [Act.put, List.setIfInBounds_toArray, List.set_cons_succ, List.set_cons_zero]
      refine asn_pure rfl ?_ ?_
      · intro w' hw' hf K' Q' hK
        have y2 := cell_of_block (hw'.at_ HBQ.out (by simp)) 2
        simp at y2
        clear hf
        go_simp
        exact hK _ (Keep.refl _ _)
      try simp only [Act.put, List.setIfInBounds_toArray, List.set_cons_succ, List.set_cons_zero]
      refine asn_pure rfl ?_ ?_
      · intro w' hw' hf K' Q' hK
        go_simp
        refine (rdots_any _ nr row w' (HPR.out.1.keep0 (HW.out w' hw')) HPOK.out.2.2.2.2.2.1 HPOK.out.2.2.2.2.2.2.2.2.1).mono ?_
        rintro e w2 ⟨rfl, hk2⟩
        rw [← E5.out]
        exact hK _ hk2
      try simp only [Act.put, List.setIfInBounds_toArray, List.set_cons_succ, List.set_cons_zero]
      refine asn_pure rfl ?_ ?_
      · intro w' hw' hf K' Q' hK
        clear hf hw'
        go_simp
        rw [if_neg]
        · exact hK _ (Keep.refl _ _)
        · omega
      try simp only [Act.put, List.setIfInBounds_toArray, List.set_cons_succ, List.set_cons_zero]
      refine asn_pure rfl ?_ ?_
      · intro w' hw' hf K' Q' hK
        clear hf hw'
        go_simp
        rw [if_neg]
        · exact hK _ (Keep.refl _ _)
        · omega
      try simp only [Act.put, List.setIfInBounds_toArray, List.set_cons_succ, List.set_cons_zero]
      refine asn_pure rfl ?_ ?_
      · intro w' hw' hf K' Q' hK
        clear hf hw'
        go_simp
        exact hK _ (Keep.refl _ _)
      try simp only [Act.put, List.setIfInBounds_toArray, List.set_cons_succ, List.set_cons_zero]
      refine asn_pure rfl ?_ ?_
      · intro w' hw' hf K' Q' hK
        have y3 := cell_of_block (hw'.at_ HBQ.out (by simp)) 3
        simp at y3
        clear hf
        go_simp
        exact hK _ (Keep.refl _ _)
      try simp only [Act.put, List.setIfInBounds_toArray, List.set_cons_succ, List.set_cons_zero]
      refine asn_pure rfl ?_ ?_
      · intro w' hw' hf K' Q' hK
        go_simp
        refine (rdots_any _ nu us w' (HPR.out.2.1.keep0 (HW.out w' hw')) HPOK.out.2.2.2.2.2.2.1 HPOK.out.2.2.2.2.2.2.2.2.2.1).mono ?_
        rintro e w2 ⟨rfl, hk2⟩
        rw [← E6.out]
        exact hK _ hk2
      try simp only [Act.put, List.setIfInBounds_toArray, List.set_cons_succ, List.set_cons_zero]
      refine asn_pure rfl ?_ ?_
      · intro w' hw' hf K' Q' hK
        clear hf hw'
        go_simp
        rw [if_neg]
        · exact hK _ (Keep.refl _ _)
        · omega
      try simp only [Act.put, List.setIfInBounds_toArray, List.set_cons_succ, List.set_cons_zero]
      refine asn_pure rfl ?_ ?_
      · intro w' hw' hf K' Q' hK
        clear hf hw'
        go_simp
        rw [if_neg]
        · exact hK _ (Keep.refl _ _)
        · omega
      try simp only [Act.put, List.setIfInBounds_toArray, List.set_cons_succ, List.set_cons_zero]
      refine asn_pure rfl ?_ ?_
      · intro w' hw' hf K' Q' hK
        clear hf hw'
        go_simp
        exact hK _ (Keep.refl _ _)
      try simp only [Act.put, List.setIfInBounds_toArray, List.set_cons_succ, List.set_cons_zero]
      refine asn_pure rfl ?_ ?_
      · intro w' hw' hf K' Q' hK
        have y4 := cell_of_block (hw'.at_ HBQ.out (by simp)) 4
        simp at y4
        clear hf
        go_simp
        exact hK _ (Keep.refl _ _)
      try simp only [Act.put, List.setIfInBounds_toArray, List.set_cons_succ, List.set_cons_zero]
      refine asn_pure rfl ?_ ?_
      · intro w' hw' hf K' Q' hK
        go_simp
        refine (said_any fl _ w' (by have h1 : fl.length = nf * 1 := HPR.out.2.2.2; have h2 := HPR.out.2.2.1.keep0 (HW.out w' hw'); simp only [Nat.mul_one] at h1 h2; rw [h1]; exact h2) HPOK.out.2.2.2.2.2.2.2.1 (by have h1 : fl.length = nf * 1 := HPR.out.2.2.2; omega)).mono ?_
        rintro e w2 ⟨rfl, hk2⟩
        rw [← E7.out]
        exact hK _ hk2
      try simp only [Act.put, List.setIfInBounds_toArray, List.set_cons_succ, List.set_cons_zero]
      refine asn_pure rfl ?_ ?_
      · intro w' hw' hf K' Q' hK
        clear hf hw'
        go_simp
        rw [if_neg]
        · exact hK _ (Keep.refl _ _)
        · omega
      try simp only [Act.put, List.setIfInBounds_toArray, List.set_cons_succ, List.set_cons_zero]
      refine asn_pure rfl ?_ ?_
      · intro w' hw' hf K' Q' hK
        clear hf hw'
        go_simp
        rw [if_neg]
        · exact hK _ (Keep.refl _ _)
        · omega
      try simp only [Act.put, List.setIfInBounds_toArray, List.set_cons_succ, List.set_cons_zero]
      refine asn_last rfl rfl ?_
      intro w' hw' hf K' Q' hK
      clear hf
      go_simp
      refine hK _ _ (hQ0 _ _ ?_)
      clear hK hQ0 K' Q' Q0
      have HKE := Lib.hid (show Keep [] w6 _ from HKQ.out.trans0 ((Keep.refl [] wq).drew.trans0 hw'))
      clear hw'
      go_wp2
      go_roundw
      case rel => exact ⟨k + 1, by rw [HTK.out, HPE.out, HQ4.out]; simp only [ByteArray.append_assoc], by go_num, by have := HLT.out; omega, HKE.out⟩
      case measure => have := HLT.out; simp [intOf]; omega
    · obtain rfl : k = np := by omega
      have g1 := dec_lt_f (show ¬ (k : Int) < (k : Int) by omega)
      have g2 := dec_ltn_f hlt
      have HFE := Lib.hid (show sg = q3 ++ pesR (prs.take k) by rw [List.take_of_length_le (by rw [HNP.out]; exact Nat.le_refl _), HFI.out])
      clear hlt
      go_wp2
      go_ret
      exact ⟨by rw [HFE.out]; rfl, HK6.out.trans0 HKR.out⟩
end Go.Proofs.YtbidppjhenfjdaaGreatDoor
namespace Go.Proofs.YtbidppjhenfjdaaGreatDoor
open Go.RowKit
set_option linter.unusedVariables false
set_option linter.unusedSimpArgs false

def cpZ (c : Cpy) : List (ByteArray × Int) := [(⟨#[102, 114, 111, 109]⟩, c.src), (⟨#[116, 111]⟩, c.dst), (⟨#[115, 101, 110, 116]⟩, c.sent)]
def cpR (c : Cpy) : ByteArray := ⟨#[32, 32, 99, 111, 112, 121]⟩ ++ sdB [c.num] ++ nmB (cpZ c) ++ mbB c.bad ⟨#[98, 97, 100]⟩ ++ ⟨#[32]⟩ ++ quo c.data ++ ⟨#[10]⟩
def cpsR : List Cpy → ByteArray
  | [] => ByteArray.empty
  | c :: L => cpR c ++ cpsR L
theorem cpsR_app (A B : List Cpy) : cpsR (A ++ B) = cpsR A ++ cpsR B := by
  induction A with
  | nil => simp [cpsR]
  | cons c A ih => simp [cpsR, ih, ByteArray.append_assoc]
theorem cp_line (c : Cpy) : lineB' (cpT c) = cpR c := by
  have h : cpT c = .str ⟨#[32, 32]⟩ :: .str ⟨#[99, 111, 112, 121]⟩ :: (((toksN [c.num] ++ zT (cpZ c)) ++ if c.bad = true then [.str ⟨#[98, 97, 100]⟩] else []) ++ [.str (quo c.data)]) := by
    unfold cpT cpA
    simp [toksN, zT, cpZ, in2]
  rw [h, line_bl2 (by decide +kernel) (by decide +kernel) (fun y hy => by
    rcases List.mem_append.1 hy with hy | hy
    · rcases List.mem_append.1 hy with hy | hy
      · rcases List.mem_append.1 hy with hy | hy
        · exact gap_toksN _ y hy
        · refine gap_z (fun z hz => ?_) y hy
          unfold cpZ at hz
          simp only [List.mem_cons, List.not_mem_nil, or_false] at hz
          rcases hz with rfl | rfl | rfl <;> (dsimp only; decide +kernel)
      · exact gap_ite (by decide +kernel) y hy
    · simp only [List.mem_cons, List.not_mem_nil, or_false] at hy
      subst hy
      exact gap_quo _)]
  simp only [blT_app, blT_toksN, blT_maybe, blT_z, tokB]
  rw [show blT [.str (quo c.data)] = (⟨#[32]⟩ : ByteArray) ++ quo c.data from by simp [blT, tokB]; rfl]
  unfold cpR
  rw [show (⟨#[32, 32, 99, 111, 112, 121]⟩ : ByteArray) = ⟨#[32, 32]⟩ ++ ⟨#[99, 111, 112, 121]⟩ from by decide +kernel, show one 10 = (⟨#[10]⟩ : ByteArray) from rfl]
  simp only [ByteArray.append_assoc]
theorem cps_line : ∀ L : List Cpy, cpsB L = cpsR L
  | [] => rfl
  | c :: L => by
    show lineB' (cpT c) ++ cpsB L = cpR c ++ cpsR L
    rw [cp_line, cps_line L]
theorem err_line (e : Int) : lineB' [.str ⟨#[32, 32]⟩, .str ⟨#[101, 114, 114, 111, 114]⟩, .num e] = ⟨#[32, 32, 101, 114, 114, 111, 114]⟩ ++ sdB [e] ++ ⟨#[10]⟩ := by
  rw [show ([.str ⟨#[32, 32]⟩, .str ⟨#[101, 114, 114, 111, 114]⟩, .num e] : List Tok) = .str ⟨#[32, 32]⟩ :: .str ⟨#[101, 114, 114, 111, 114]⟩ :: toksN [e] from rfl, line_bl2 (by decide +kernel) (by decide +kernel) (gap_toksN _), blT_toksN]
  rw [show (⟨#[32, 32, 101, 114, 114, 111, 114]⟩ : ByteArray) = ⟨#[32, 32]⟩ ++ ⟨#[101, 114, 114, 111, 114]⟩ from by decide +kernel]
  rfl
theorem txt_line (t : ByteArray) : lineB' [.str ⟨#[32, 32]⟩, .str ⟨#[116, 101, 120, 116]⟩, .str (quo t)] = ⟨#[32, 32, 116, 101, 120, 116, 32]⟩ ++ quo t ++ ⟨#[10]⟩ := by
  rw [line_bl2 (by decide +kernel) (by decide +kernel) (fun y hy => by
    simp only [List.mem_cons, List.not_mem_nil, or_false] at hy
    subst hy
    exact gap_quo _)]
  rw [show (⟨#[32, 32, 116, 101, 120, 116, 32]⟩ : ByteArray) = ⟨#[32, 32]⟩ ++ ⟨#[116, 101, 120, 116]⟩ ++ ⟨#[32]⟩ from by decide +kernel, show blT [.str (quo t)] = (⟨#[32]⟩ : ByteArray) ++ quo t from by simp [blT, tokB]; rfl]
  simp only [tokB, ByteArray.append_assoc]
  rfl
theorem one_line (a : ByteArray) : lineB' [.str a] = a ++ ⟨#[10]⟩ := by
  unfold lineB' lineG lineG gapB tokB
  simp
  rfl
theorem step_line (k : Int) : lineB' [.str ⟨#[115, 116, 101, 112]⟩, .num k] = ⟨#[115, 116, 101, 112]⟩ ++ sdB [k] ++ ⟨#[10]⟩ := by
  unfold lineB'
  show (gapB none ++ ⟨#[115, 116, 101, 112]⟩ ++ lineG (some (.str ⟨#[115, 116, 101, 112]⟩)) [.num k]) ++ one 10 = _
  rw [lineG_bl _ _ (by decide +kernel) (by intro x hx; simp only [List.mem_cons, List.not_mem_nil, or_false] at hx; subst hx; rfl), show [Tok.num k] = toksN [k] from rfl, blT_toksN, show gapB none = ByteArray.empty from rfl, ByteArray.empty_append]
  rfl
theorem rlB_some {s : Stp} (h : 1 ≤ s.kind ∧ s.kind ≤ 14) : (rlB s).size ≠ 0 := by
  unfold rlB
  rw [if_pos h, ByteArray.size_append]
  have : (tabW s.kind.toNat).size ≠ 0 := by
    have h1 : 1 ≤ s.kind.toNat := by omega
    have h2 : s.kind.toNat ≤ 14 := by omega
    generalize s.kind.toNat = k at h1 h2
    have : k = 1 ∨ k = 2 ∨ k = 3 ∨ k = 4 ∨ k = 5 ∨ k = 6 ∨ k = 7 ∨ k = 8 ∨ k = 9 ∨ k = 10 ∨ k = 11 ∨ k = 12 ∨ k = 13 ∨ k = 14 := by omega
    rcases this with rfl | rfl | rfl | rfl | rfl | rfl | rfl | rfl | rfl | rfl | rfl | rfl | rfl | rfl <;> decide
  omega
/-- The step's own line. -/
theorem fst_some {s : Stp} (h : 1 ≤ s.kind ∧ s.kind ≤ 14) : fstB s = rlB s ++ ⟨#[10]⟩ := by
  unfold fstB
  rw [rlB_say h]
  exact one_line _
theorem fst_none {s : Stp} (h : ¬ (1 ≤ s.kind ∧ s.kind ≤ 14)) : fstB s = ⟨#[115, 116, 101, 112]⟩ ++ sdB [s.kind] ++ ⟨#[10]⟩ := by
  unfold fstB sayO
  rw [if_neg h]
  exact step_line _
theorem rlB_none {s : Stp} (h : ¬ (1 ≤ s.kind ∧ s.kind ≤ 14)) : rlB s = ByteArray.empty := by
  unfold rlB
  rw [if_neg h]
end Go.Proofs.YtbidppjhenfjdaaGreatDoor
namespace Go.Proofs.YtbidppjhenfjdaaGreatDoor
open Go.RowKit
set_option linter.unusedVariables false
set_option linter.unusedSimpArgs false

/-- Between the parts: the step's block, the answer's. -/
def TelR (W : World) (st an : Array Value) (wx : World) : Prop :=
  Keep [] W wx ∧ wx.heap[W.heap.size]? = some (.cells st 40 (0, 0)) ∧ wx.heap[W.heap.size + 1]? = some (.cells an 55 (0, 0))
theorem TelR.keep {W wx w' : World} {st an : Array Value} (h : TelR W st an wx) (k : Keep [] wx w') : TelR W st an w' := by
  obtain ⟨h1, h3, h4⟩ := h
  exact ⟨h1.trans0 k, k.at_ h3 (by simp), k.at_ h4 (by simp)⟩
set_option maxHeartbeats 16000000 in
set_option maxRecDepth 100000 in
theorem rtell_any (s : Stp) (dv bv : Value) (x : AnsN) (xd xg vv xb hv mv pv cv : Value) (W : World)
    (h : StRd W s dv bv) (hok : StpOk s) (hsm : StpSmall s) (ho : OpRd W x.op xd xg) (hsg : SgRd W x.sg vv xb hv mv pv) (hc : Cps W cv x.cps) (hx : AnOk x) (hz : (tellB s x).size ≤ 100000000000) (hT : TQ W) :
    Calls Tryz.prog 17 #[.agg (stV s dv bv), .agg (anV x.err x.text x.op xd xg x.sg vv xb hv mv pv cv)] W fun e W' => e = .returned (.string (tellB s x)) ∧ Keep [] W W' := by
  have HRD := Lib.hid h
  have HOK := Lib.hid hok
  have HSM := Lib.hid hsm
  obtain ⟨err, text, o, sg, cps⟩ := x
  simp only at ho hsg hc hx ⊢
  have HOP := Lib.hid ho
  have HSG := Lib.hid hsg
  have HC := Lib.hid hc
  have HX := Lib.hid hx
  have HT := Lib.hid hT
  obtain ⟨ad1, cap1, hdv⟩ := h.1.empty
  obtain ⟨ad2, cap2, hbv⟩ := h.2.empty
  subst hdv
  subst hbv
  obtain ⟨add, capd, rfl⟩ := ho.1.1.empty
  obtain ⟨adg, capg, rfl⟩ := ho.2.1.empty
  obtain ⟨adv, capv, rfl⟩ := hsg.1.1.empty
  obtain ⟨adb, capb, rfl⟩ := hsg.2.1.1.empty
  obtain ⟨adh, caph, rfl⟩ := hsg.2.2.1.1.empty
  obtain ⟨adm, capm, rfl⟩ := hsg.2.2.2.1.1.empty
  obtain ⟨adp, capp, hpv, _⟩ := id hsg.2.2.2.2
  subst hpv
  obtain ⟨adc, capc, hcv, _⟩ := id hc
  subst hcv
  clear h hok hsm ho hsg hc hx hT
  obtain ⟨tb, htb⟩ : ∃ tb, tb = tellB s ⟨err, text, o, sg, cps⟩ := ⟨_, rfl⟩
  rw [← htb] at hz ⊢
  have htb2 : tb = fstB s ++ errB err ++ txtB s.kind err text ++ oprB o ++ sghB sg ++ cpsB cps := htb
  obtain ⟨l1, h1⟩ : ∃ l, l = fstB s := ⟨_, rfl⟩
  obtain ⟨l2, h2⟩ : ∃ l, l = errB err := ⟨_, rfl⟩
  obtain ⟨l3, h3⟩ : ∃ l, l = txtB s.kind err text := ⟨_, rfl⟩
  obtain ⟨l4, h4⟩ : ∃ l, l = oprB o := ⟨_, rfl⟩
  obtain ⟨l5, h5⟩ : ∃ l, l = sghB sg := ⟨_, rfl⟩
  rw [← h1, ← h2, ← h3, ← h4, ← h5] at htb2
  have HZ := Lib.hid (show l1.size + l2.size + l3.size + l4.size + l5.size + (cpsB cps).size ≤ 100000000000 by
    rw [htb2] at hz
    simp only [ByteArray.size_append] at hz
    omega)
  have HL1 := Lib.hid h1
  have HL2 := Lib.hid h2
  have HL3 := Lib.hid h3
  have HL4 := Lib.hid h4
  have HL5 := Lib.hid h5
  have HTB := Lib.hid htb2
  clear htb htb2 h1 h2 h3 h4 h5 hz
  obtain ⟨nd, hnd⟩ : ∃ nd, nd = s.draws.length := ⟨_, rfl⟩
  obtain ⟨nb, hnb⟩ : ∃ nb, nb = s.data.size := ⟨_, rfl⟩
  obtain ⟨n, hnl⟩ : ∃ n, n = cps.length := ⟨_, rfl⟩
  obtain ⟨ndd, hndd⟩ : ∃ ndd, ndd = o.nd := ⟨_, rfl⟩
  obtain ⟨ngg, hngg⟩ : ∃ ngg, ngg = o.ng := ⟨_, rfl⟩
  obtain ⟨nv, hnv⟩ : ∃ nv, nv = sg.nv := ⟨_, rfl⟩
  obtain ⟨nbb, hnbb⟩ : ∃ nbb, nbb = sg.nb := ⟨_, rfl⟩
  obtain ⟨nh, hnh⟩ : ∃ nh, nh = sg.nh := ⟨_, rfl⟩
  obtain ⟨nm, hnm⟩ : ∃ nm, nm = sg.nm := ⟨_, rfl⟩
  obtain ⟨np, hnp⟩ : ∃ np, np = sg.prs.length := ⟨_, rfl⟩
  rw [← hnd, ← hnb] at HRD ⊢
  rw [← hnl] at HC ⊢
  rw [← hndd, ← hngg] at HOP ⊢
  rw [← hnv, ← hnbb, ← hnh, ← hnm, ← hnp] at HSG ⊢
  have hn : n ≤ 1000 := by rw [hnl]; exact HX.out.2.2.2.2.2
  have HN := Lib.hid hnl
  clear hnd hnb hnl hndd hngg hnv hnbb hnh hnm hnp
  have HOPV := Lib.hid (show opV o (.slice add ndd capd) (.slice adg ngg capg) = #[.int .i64 o.d1, .int .i64 o.d2, .slice add ndd capd, .int .i64 o.kind, .int .i64 o.i1, .int .i64 o.i2, .int .i64 o.r1, .int .i64 o.r2, .string o.text, .slice adg ngg capg, .int .i64 o.site] from rfl)
  have HSGV := Lib.hid (show sgV sg (.slice adv nv capv) (.slice adb nbb capb) (.slice adh nh caph) (.slice adm nm capm) (.slice adp np capp) = #[.int .i64 sg.site, .bool sg.act, .bool sg.leav, .slice adv nv capv, .slice adb nbb capb, .int .i64 sg.clk, .int .i64 sg.tick, .slice adh nh caph, .int .i64 sg.log, .int .i64 sg.kept, .slice adm nm capm, .int .i64 sg.ep, .slice adp np capp] from rfl)
  unfold stV anV ansV
  go_enter Tryz.func17, Tryz.ntmps17
  go_upto_region 1 with (fail)
  obtain ⟨st, hst⟩ : ∃ st : Array Value, st = #[.int .i64 s.kind, .int .i64 s.site, .int .i64 s.peer, .int .i64 s.unit, .int .i64 s.at_, .int .i64 s.n, .string s.text, .slice ad1 nd cap1, .slice ad2 nb cap2] := ⟨_, rfl⟩
  obtain ⟨an, han⟩ : ∃ an : Array Value, an = #[.int .i64 err, .string text, .int .i64 o.d1, .int .i64 o.d2, .slice add ndd capd, .int .i64 o.kind, .int .i64 o.i1, .int .i64 o.i2, .int .i64 o.r1, .int .i64 o.r2, .string o.text, .slice adg ngg capg, .int .i64 o.site, .int .i64 sg.site, .bool sg.act, .bool sg.leav, .slice adv nv capv, .slice adb nbb capb, .int .i64 sg.clk, .int .i64 sg.tick, .slice adh nh caph, .int .i64 sg.log, .int .i64 sg.kept, .slice adm nm capm, .int .i64 sg.ep, .slice adp np capp, .slice adc n capc] := ⟨_, rfl⟩
  obtain ⟨w1, hw1⟩ : ∃ w1, w1 = allocs W [.cells st 40, .cells an 55] := ⟨_, rfl⟩
  have hI : TelR W st an w1 := by
    have hat := fun i o (h : [Obj.cells st 40, .cells an 55][i]? = some o) => allocs_at _ W i o h
    rw [hw1]
    exact ⟨allocs_keep _ _, hat 0 _ rfl, hat 1 _ rfl⟩
  have HI1 := Lib.hid hI
  have hw1' : (W.alloc (.cells st 40)).alloc (.cells an 55) = w1 := hw1.symm
  rw [hst, han] at hw1'
  rw [hw1']
  obtain ⟨G, hG⟩ : ∃ G, G = W.heap.size := ⟨_, rfl⟩
  rw [← hG]
  have HG := Lib.hid hG
  have HST := Lib.hid hst
  have HAN := Lib.hid han
  clear hI hw1 hw1' hst han
  have c0 := cell_of_block HI1.out.2.1 0
  have c1 := cell_of_block HI1.out.2.1 1
  have c2 := cell_of_block HI1.out.2.1 2
  have c3 := cell_of_block HI1.out.2.1 3
  have c4 := cell_of_block HI1.out.2.1 4
  have c5 := cell_of_block HI1.out.2.1 5
  have c6 := cell_of_block HI1.out.2.1 6
  have c7 := cell_of_block HI1.out.2.1 7
  have c8 := cell_of_block HI1.out.2.1 8
  rw [HST.out, ← HG.out] at c0 c1 c2 c3 c4 c5 c6 c7 c8
  simp at c0 c1 c2 c3 c4 c5 c6 c7 c8
  clear hG
  go_wp2_with fail
  refine (rline_any s (.slice ad1 nd cap1) (.slice ad2 nb cap2) _ (HRD.out.keep0 HI1.out.1) HOK.out HSM.out).mono ?_
  rintro e w2 ⟨rfl, hk2⟩
  have HI2 := Lib.hid (HI1.out.keep hk2)
  obtain ⟨r0, hr0⟩ : ∃ r, r = rlB s := ⟨_, rfl⟩
  rw [← hr0]
  have HR0 := Lib.hid hr0
  clear hk2 hr0
  clear c0 c1 c2 c3 c4 c5 c6 c7 c8
  go_upto_if 11 with (fail)
  obtain ⟨bq, hbq⟩ : ∃ bq : Bool, bq = r0.toList.isEmpty := ⟨_, rfl⟩
  rw [← hbq]
  have HBQ := Lib.hid hbq
  clear hbq
  go_cut [5] from 12 to 16 (fun s5 wx => ∃ t, s5 = .string t ∧ l1 = t ++ ⟨#[10]⟩ ∧ TelR W st an wx)
  case first =>
    cases bq with
    | false =>
      have hk : 1 ≤ s.kind ∧ s.kind ≤ 14 := by
        refine Classical.byContradiction fun hn => ?_
        have h1 := HBQ.out
        rw [HR0.out, rlB_none hn, ByteArray.toList_eq] at h1
        cases h1
      have HFB := Lib.hid (show l1 = r0 ++ ⟨#[10]⟩ by rw [HL1.out, fst_some hk, HR0.out])
      clear hk
      go_wp2
      go_meet
      exact ⟨_, rfl, HFB.out, HI2.out⟩
    | true =>
      have hk : ¬ (1 ≤ s.kind ∧ s.kind ≤ 14) := by
        intro hk
        have h1 := (ne_empty (rlB_some hk)).2.1
        rw [← HR0.out, ← HBQ.out] at h1
        cases h1
      have hs3 := (sd1_ok HOK.out.1).1
      obtain ⟨q1, hq1⟩ : ∃ p, p = sdB [s.kind] := ⟨_, rfl⟩
      rw [← hq1] at hs3
      have HQ1 := Lib.hid hq1
      have HFB := Lib.hid (show l1 = ⟨#[115, 116, 101, 112]⟩ ++ q1 ++ ⟨#[10]⟩ by rw [HL1.out, fst_none hk, HQ1.out])
      clear hk hq1
      have c0 := cell_of_block HI2.out.2.1 0
      rw [HST.out, ← HG.out] at c0
      simp at c0
      go_wp2_with fail
      refine (said_any [s.kind] _ _ (new_slV [.int .i64 s.kind] 1 (by decide) (by simp)) (sd1_ok HOK.out.1).2 (by simp)).mono ?_
      rintro e w3 ⟨rfl, hk3⟩
      rw [← HQ1.out]
      have HI3 := Lib.hid (HI2.out.keep (((Keep.refl [] w2).alloc _).trans0 hk3))
      clear hk3 c0
      go_wp2
      go_meet
      exact ⟨_, rfl, HFB.out, HI3.out⟩
  case rest =>
    obtain ⟨t0, rfl, hl1, hcut⟩ := hcut
    rename World => wa
    have HA := Lib.hid hcut
    have HT0 := Lib.hid hl1
    clear hcut hl1 HI1 HI2 HR0 HBQ
    have hzt : t0.size ≤ 100000000000 := by have h1 := HZ.out; rw [HT0.out, ByteArray.size_append] at h1; omega
    go_upto_region 5 with (fail)
    rw [← HT0.out]
    clear hzt
    have e0 := cell_of_block HA.out.2.2 0
    rw [HAN.out, ← HG.out] at e0
    simp at e0
    go_upto_if 21 with (fail)
    obtain ⟨bq, hbq⟩ : ∃ bq : Bool, bq = (err != 0) := ⟨_, rfl⟩
    rw [← hbq]
    have HBQ := Lib.hid hbq
    clear hbq
    go_cut [5] from 22 to 29 (fun s5 wx => s5 = .string (l1 ++ l2) ∧ TelR W st an wx)
    case first =>
      clear e0
      cases bq with
      | false =>
        have he : err = 0 := by have := HBQ.out; simpa using this.symm
        have HFB := Lib.hid (show l2 = ByteArray.empty by rw [HL2.out]; unfold errB; rw [if_pos he])
        clear he
        go_wp2
        go_meet
        exact ⟨by rw [HFB.out, ByteArray.append_empty], HA.out⟩
      | true =>
        have he : ¬ err = 0 := by have := HBQ.out; simpa using this.symm
        have hs3 := (sd1_ok HX.out.1).1
        simp only at hs3
        obtain ⟨q1, hq1⟩ : ∃ p, p = sdB [err] := ⟨_, rfl⟩
        rw [← hq1] at hs3
        have HQ1 := Lib.hid hq1
        have HFB := Lib.hid (show l2 = ⟨#[32, 32, 101, 114, 114, 111, 114]⟩ ++ q1 ++ ⟨#[10]⟩ by rw [HL2.out]; unfold errB; rw [if_neg he, err_line, HQ1.out])
        have hzz := HZ.out
        clear he hq1
        have e0 := cell_of_block HA.out.2.2 0
        rw [HAN.out, ← HG.out] at e0
        simp at e0
        go_wp2_with fail
        refine (said_any [err] _ _ (new_slV [.int .i64 err] 1 (by decide) (by simp)) (sd1_ok HX.out.1).2 (by simp)).mono ?_
        rintro e w3 ⟨rfl, hk3⟩
        rw [← HQ1.out]
        have HI3 := Lib.hid (HA.out.keep (((Keep.refl [] wa).alloc _).trans0 hk3))
        clear hk3 e0
        go_wp2
        go_meet
        exact ⟨by rw [HFB.out]; simp only [ByteArray.append_assoc], HI3.out⟩
    case rest =>
      obtain ⟨rfl, hcut⟩ := hcut
      rename World => wb
      have HB := Lib.hid hcut
      clear hcut HA HBQ
      obtain ⟨cc, hcc⟩ : ∃ cc : Bool, cc = decide (s.kind = 12 ∧ err = 0) := ⟨_, rfl⟩
      have HCC := Lib.hid hcc
      clear hcc
      have e0 := cell_of_block HB.out.2.2 0
      rw [HAN.out, ← HG.out] at e0
      simp at e0
      have c0 := cell_of_block HB.out.2.1 0
      rw [HST.out, ← HG.out] at c0
      simp at c0
      go_upto_region 7 with (fail)
      go_cut [37] from 30 to 37 (fun s37 wx => s37 = .bool cc ∧ wb = wx)
      case first =>
        by_cases hk12 : s.kind = 12
        · have g1 : (s.kind == 12) = true := by simp [hk12]
          by_cases he : err = 0
          · have g2 : (err == 0) = true := by simp [he]
            have hc1 : cc = true := by rw [HCC.out]; simp [hk12, he]
            clear hk12 he
            go_wp2
            go_meet
            exact ⟨by rw [hc1], rfl⟩
          · have g2 : (err == 0) = false := by simp [he]
            have hc1 : cc = false := by rw [HCC.out]; simp [he]
            clear hk12 he
            go_wp2
            go_meet
            exact ⟨by rw [hc1], rfl⟩
        · have g1 : (s.kind == 12) = false := by simp [hk12]
          have hc1 : cc = false := by rw [HCC.out]; simp [hk12]
          clear hk12
          go_wp2
          go_meet
          exact ⟨by rw [hc1], rfl⟩
      case rest =>
        obtain ⟨rfl, rfl⟩ := hcut
        clear c0 e0
        go_upto_if 37 with (fail)
        go_cut [5] from 38 to 44 (fun s5 wx => s5 = .string (l1 ++ l2 ++ l3) ∧ TelR W st an wx)
        case first =>
          cases cc with
          | false =>
            have hn12 := HCC.out
            have HFB := Lib.hid (show l3 = ByteArray.empty by rw [HL3.out]; unfold txtB; rw [if_neg (by simpa using hn12.symm)])
            clear hn12
            go_wp2
            go_meet
            exact ⟨by rw [HFB.out, ByteArray.append_empty], HB.out⟩
          | true =>
            have hn12 := HCC.out
            have htz : text.size ≤ 1000000 := HX.out.2.1
            have hqz := quo_size text
            obtain ⟨q, hq⟩ : ∃ q, q = quo text := ⟨_, rfl⟩
            have HFB := Lib.hid (show l3 = ⟨#[32, 32, 116, 101, 120, 116, 32]⟩ ++ q ++ ⟨#[10]⟩ by rw [HL3.out]; unfold txtB; rw [if_pos (by simpa using hn12.symm), txt_line, hq])
            rw [← hq] at hqz
            have HQ := Lib.hid hq
            have hzz := HZ.out
            clear hn12 hq
            have e1 := cell_of_block HB.out.2.2 1
            rw [HAN.out, ← HG.out] at e1
            simp at e1
            go_wp2_with fail
            refine (rquote_any text _ (by omega)).mono ?_
            rintro e wq ⟨rfl, hkq⟩
            rw [← HQ.out]
            have HBQ := Lib.hid (HB.out.keep hkq)
            clear hkq e1
            go_wp2
            go_meet
            exact ⟨by rw [HFB.out]; simp only [ByteArray.append_assoc], HBQ.out⟩
        case rest =>
          obtain ⟨rfl, hcut⟩ := hcut
          rename World => wc
          have HCW := Lib.hid hcut
          clear hcut HB
          have e2 := cell_of_block HCW.out.2.2 2
          have e3 := cell_of_block HCW.out.2.2 3
          have e4 := cell_of_block HCW.out.2.2 4
          have e5 := cell_of_block HCW.out.2.2 5
          have e6 := cell_of_block HCW.out.2.2 6
          have e7 := cell_of_block HCW.out.2.2 7
          have e8 := cell_of_block HCW.out.2.2 8
          have e9 := cell_of_block HCW.out.2.2 9
          have e10 := cell_of_block HCW.out.2.2 10
          have e11 := cell_of_block HCW.out.2.2 11
          have e12 := cell_of_block HCW.out.2.2 12
          rw [HAN.out, ← HG.out] at e2 e3 e4 e5 e6 e7 e8 e9 e10 e11 e12
          simp at e2 e3 e4 e5 e6 e7 e8 e9 e10 e11 e12
          go_upto_if 48 with (fail)
          obtain ⟨bq, hbq⟩ : ∃ bq : Bool, bq = (o.kind != 0) := ⟨_, rfl⟩
          rw [← hbq]
          have HBQ := Lib.hid hbq
          clear hbq
          go_cut [5] from 49 to 55 (fun s5 wx => s5 = .string (l1 ++ l2 ++ l3 ++ l4) ∧ TelR W st an wx)
          case first =>
            cases bq with
            | false =>
              have he : o.kind = 0 := by have := HBQ.out; simpa using this.symm
              have HFB := Lib.hid (show l4 = ByteArray.empty by rw [HL4.out]; unfold oprB; rw [if_pos he])
              clear he
              go_wp2
              go_meet
              exact ⟨by rw [HFB.out, ByteArray.append_empty], HCW.out⟩
            | true =>
              have he : ¬ o.kind = 0 := by have := HBQ.out; simpa using this.symm
              obtain ⟨q, hq⟩ : ∃ q, q = opsB o := ⟨_, rfl⟩
              have HFB := Lib.hid (show l4 = ⟨#[32, 32]⟩ ++ q ++ ⟨#[10]⟩ by rw [HL4.out]; unfold oprB; rw [if_neg he, op_line, hq]; rfl)
              have HQ := Lib.hid hq
              have hzz := HZ.out
              have hqz : q.size ≤ l4.size := by rw [HFB.out]; simp only [ByteArray.size_append]; omega
              clear he hq
              go_wp2_with fail
              rw [← HOPV.out]
              refine (roperation_any o _ _ wc (HOP.out.keep0 HCW.out.1) HX.out.2.2.1 (HT.out.keep0 HCW.out.1)).mono ?_
              rintro e wq ⟨rfl, hkq⟩
              rw [← HQ.out]
              have HBQ2 := Lib.hid (HCW.out.keep hkq)
              clear hkq e2 e3 e4 e5 e6 e7 e8 e9 e10 e11 e12
              go_wp2
              go_meet
              exact ⟨by rw [HFB.out]; simp only [ByteArray.append_assoc], HBQ2.out⟩
          case rest =>
            obtain ⟨rfl, hcut⟩ := hcut
            rename World => wd
            have HD := Lib.hid hcut
            clear hcut HCW e2 e3 e4 e5 e6 e7 e8 e9 e10 e11 e12 HBQ
            have e13 := cell_of_block HD.out.2.2 13
            have e14 := cell_of_block HD.out.2.2 14
            have e15 := cell_of_block HD.out.2.2 15
            have e16 := cell_of_block HD.out.2.2 16
            have e17 := cell_of_block HD.out.2.2 17
            have e18 := cell_of_block HD.out.2.2 18
            have e19 := cell_of_block HD.out.2.2 19
            have e20 := cell_of_block HD.out.2.2 20
            have e21 := cell_of_block HD.out.2.2 21
            have e22 := cell_of_block HD.out.2.2 22
            have e23 := cell_of_block HD.out.2.2 23
            have e24 := cell_of_block HD.out.2.2 24
            have e25 := cell_of_block HD.out.2.2 25
            rw [HAN.out, ← HG.out] at e13 e14 e15 e16 e17 e18 e19 e20 e21 e22 e23 e24 e25
            simp at e13 e14 e15 e16 e17 e18 e19 e20 e21 e22 e23 e24 e25
            go_upto_if 59 with (fail)
            obtain ⟨bq, hbq⟩ : ∃ bq : Bool, bq = (sg.site != 0) := ⟨_, rfl⟩
            rw [← hbq]
            have HBQ := Lib.hid hbq
            clear hbq
            go_cut [5] from 60 to 64 (fun s5 wx => s5 = .string (l1 ++ l2 ++ l3 ++ l4 ++ l5) ∧ TelR W st an wx)
            case first =>
              cases bq with
              | false =>
                have he : sg.site = 0 := by have := HBQ.out; simpa using this.symm
                have HFB := Lib.hid (show l5 = ByteArray.empty by rw [HL5.out]; unfold sghB; rw [if_pos he])
                clear he
                go_wp2
                go_meet
                exact ⟨by rw [HFB.out, ByteArray.append_empty], HD.out⟩
              | true =>
                have he : ¬ sg.site = 0 := by have := HBQ.out; simpa using this.symm
                obtain ⟨q, hq⟩ : ∃ q, q = sgR sg := ⟨_, rfl⟩
                have HFB := Lib.hid (show l5 = q by rw [HL5.out]; unfold sghB; rw [if_neg he, sg_line, hq])
                have HQ := Lib.hid hq
                have hzz := HZ.out
                have hqz : q.size ≤ l5.size := by rw [HFB.out]; exact Nat.le_refl _
                clear he hq
                go_wp2_with fail
                rw [← HSGV.out]
                refine (rsight_any sg _ _ _ _ _ wd (HSG.out.keep0 HD.out.1) HX.out.2.2.2.1).mono ?_
                rintro e wq ⟨rfl, hkq⟩
                rw [← HQ.out]
                have HBQ2 := Lib.hid (HD.out.keep hkq)
                clear hkq e13 e14 e15 e16 e17 e18 e19 e20 e21 e22 e23 e24 e25
                go_wp2
                go_meet
                exact ⟨by rw [HFB.out], HBQ2.out⟩
            case rest =>
              obtain ⟨rfl, hcut⟩ := hcut
              rename World => we
              have HE := Lib.hid hcut
              clear hcut HD e13 e14 e15 e16 e17 e18 e19 e20 e21 e22 e23 e24 e25 HBQ
              have e26 := cell_of_block HE.out.2.2 26
              rw [HAN.out, ← HG.out] at e26
              simp at e26
              go_upto_region 14 with (fail)
              obtain ⟨tl, htl⟩ : ∃ tl, tl = l1 ++ l2 ++ l3 ++ l4 ++ l5 := ⟨_, rfl⟩
              rw [← htl]
              have hzb : tl.size + (cpsR cps).size ≤ 100000000000 := by rw [htl, ← cps_line]; have := HZ.out; simp only [ByteArray.size_append]; omega
              have HTL := Lib.hid (show tb = tl ++ cpsR cps by rw [HTB.out, htl, cps_line])
              clear htl e26 HTB
              go_loopw [5, 6] (fun sv iv wr => ∃ k : Nat, sv = .string (tl ++ cpsR (cps.take k)) ∧ iv = .int .i64 k ∧ k ≤ n ∧ TelR W st an wr) (fun _ iv _ => n - (intOf iv).toNat)
              case atStart => exact ⟨0, by simp [cpsR], rfl, Nat.zero_le _, HE.out⟩
              case round =>
                rename World => wr
                obtain ⟨k, rfl, rfl, hk, hir⟩ := hrel
                have HIR := Lib.hid hir
                clear hir
                have e26 := cell_of_block HIR.out.2.2 26
                rw [HAN.out, ← HG.out] at e26
                simp at e26
                by_cases hlt : k < n
                · have HLT := Lib.hid hlt
                  have g1 := dec_lt_t (show (k : Int) < (n : Int) by omega)
                  have g2 := dec_ltn_t hlt
                  have hkL : k < cps.length := by rw [← HN.out]; exact hlt
                  obtain ⟨ad, cp, e, hel⟩ := HC.out
                  injection e with e1 e2 e3
                  obtain ⟨gb, off, rfl, hcl⟩ := hel (by omega)
                  subst e1
                  obtain ⟨ad3, cap3, hsl, hu⟩ := hcl k hkL
                  have hcok := HX.out.2.2.2.2.1 _ (List.getElem_mem hkL)
                  have htk : cps.take (k + 1) = cps.take k ++ [cps[k]] := by rw [List.take_add_one, List.getElem?_eq_getElem hkL]; rfl
                  have hsz : (tl ++ cpsR (cps.take k)).size ≤ 100000000000 := by
                    have h1 : cpsR cps = cpsR (cps.take k) ++ cpsR (cps.drop k) := by rw [← cpsR_app, List.take_append_drop]
                    have h2 := congrArg ByteArray.size h1
                    simp only [ByteArray.size_append] at h2 ⊢
                    omega
                  generalize cps[k] = c at hsl hu hcok htk
                  have u0 : wr.cell? ⟨gb, off + k * 6, none⟩ = some (.int .i64 c.num) := HIR.out.1.cellv (hu 0 _ rfl) (by simp)
                  have u1 : wr.cell? ⟨gb, off + k * 6 + 1, none⟩ = some (.int .i64 c.src) := HIR.out.1.cellv (hu 1 _ rfl) (by simp)
                  have u2 : wr.cell? ⟨gb, off + k * 6 + 2, none⟩ = some (.int .i64 c.dst) := HIR.out.1.cellv (hu 2 _ rfl) (by simp)
                  have u3 : wr.cell? ⟨gb, off + k * 6 + 3, none⟩ = some (.slice ad3 c.data.size cap3) := HIR.out.1.cellv (hu 3 _ rfl) (by simp)
                  have u4 : wr.cell? ⟨gb, off + k * 6 + 4, none⟩ = some (.int .i64 c.sent) := HIR.out.1.cellv (hu 4 _ rfl) (by simp)
                  have u5 : wr.cell? ⟨gb, off + k * 6 + 5, none⟩ = some (.bool c.bad) := HIR.out.1.cellv (hu 5 _ rfl) (by simp)
                  have HSL := Lib.hid hsl
                  have HCK := Lib.hid hcok
                  have HTK := Lib.hid (show tl ++ cpsR (cps.take (k + 1)) = (tl ++ cpsR (cps.take k)) ++ cpR c by
                    rw [htk, cpsR_app, ByteArray.append_assoc]
                    simp [cpsR])
                  obtain ⟨m, hm⟩ : ∃ m, m = c.data.size := ⟨_, rfl⟩
                  rw [← hm] at HSL u3
                  have HM := Lib.hid hm
                  have hzc : ZOk [(⟨#[102, 114, 111, 109]⟩, c.src), (⟨#[116, 111]⟩, c.dst), (⟨#[115, 101, 110, 116]⟩, c.sent)] := by
                    intro z hz
                    simp only [List.mem_cons, List.not_mem_nil, or_false] at hz
                    rcases hz with rfl | rfl | rfl
                    · exact ⟨(by dsimp only; decide), HCK.out.2.1⟩
                    · exact ⟨(by dsimp only; decide), HCK.out.2.2.1⟩
                    · exact ⟨(by dsimp only; decide), HCK.out.2.2.2.1⟩
                  have s1 := (sd1_ok HCK.out.1).1
                  have s2 := nmB_size hzc
                  have s3 := mbB_size c.bad ⟨#[98, 97, 100]⟩
                  have s4 := quo_size c.data
                  have s5 := HCK.out.2.2.2.2
                  have HZC := Lib.hid hzc
                  have e1 : (⟨#[98, 97, 100]⟩ : ByteArray).size = 3 := rfl
                  rw [e1] at s3
                  simp only [List.length_cons, List.length_nil] at s2
                  have HCP := Lib.hid (show cpR c = ⟨#[32, 32, 99, 111, 112, 121]⟩ ++ sdB [c.num] ++ nmB [(⟨#[102, 114, 111, 109]⟩, c.src), (⟨#[116, 111]⟩, c.dst), (⟨#[115, 101, 110, 116]⟩, c.sent)] ++ mbB c.bad ⟨#[98, 97, 100]⟩ ++ ⟨#[32]⟩ ++ quo c.data ++ ⟨#[10]⟩ from rfl)
                  obtain ⟨p1, h1⟩ : ∃ p, p = sdB [c.num] := ⟨_, rfl⟩
                  obtain ⟨n1, h2⟩ : ∃ p, p = nmB [(⟨#[102, 114, 111, 109]⟩, c.src), (⟨#[116, 111]⟩, c.dst), (⟨#[115, 101, 110, 116]⟩, c.sent)] := ⟨_, rfl⟩
                  obtain ⟨m1, h3⟩ : ∃ p, p = mbB c.bad ⟨#[98, 97, 100]⟩ := ⟨_, rfl⟩
                  obtain ⟨q, h4⟩ : ∃ p, p = quo c.data := ⟨_, rfl⟩
                  rw [← h1, ← h2, ← h3, ← h4] at HCP
                  rw [← h1] at s1
                  rw [← h2] at s2
                  rw [← h3] at s3
                  rw [← h4] at s4
                  have HP1 := Lib.hid h1
                  have HN1 := Lib.hid h2
                  have HM1 := Lib.hid h3
                  have HQ := Lib.hid h4
                  obtain ⟨s0, hs0⟩ : ∃ s0, s0 = tl ++ cpsR (cps.take k) := ⟨_, rfl⟩
                  rw [← hs0] at hsz HTK ⊢
                  clear hel hcl hsl hu hcok htk hm hkL e2 e3 hlt e1 h1 h2 h3 h4 hs0 hzc
                  go_upto_region 17 with (fail)
                  obtain ⟨bc, hbc⟩ : ∃ bc, bc = wr.heap.size := ⟨_, rfl⟩
                  obtain ⟨w5, hw5⟩ : ∃ w5, w5 = wr.alloc (.cells #[.int .i64 c.num, .int .i64 c.src, .int .i64 c.dst, .slice ad3 m cap3, .int .i64 c.sent, .bool c.bad] 60) := ⟨_, rfl⟩
                  have hk5 : Keep [] wr w5 := by rw [hw5]; exact (Keep.refl _ _).alloc _
                  have hb5 : w5.heap[bc]? = some (.cells #[.int .i64 c.num, .int .i64 c.src, .int .i64 c.dst, .slice ad3 m cap3, .int .i64 c.sent, .bool c.bad] 60 (0, 0)) := by rw [hw5, hbc]; exact World.alloc_heap_new wr _
                  rw [← hw5, ← hbc]
                  have HI5 := Lib.hid (HIR.out.keep hk5)
                  have HB5 := Lib.hid hb5
                  have HCV := Lib.hid (fun (w' : World) (y1 : Keep [] W w') => show (convert 38 9 (.slice ad3 m cap3)).run Tryz.prog w' = .ok (.string c.data) w' from conv_bsl (by
                    have h := HSL.out.keep0 y1
                    rw [← HM.out]
                    exact h))
                  clear hw5 hbc hk5 hb5 u0 u1 u2 u3 u4 u5 e26
                  have HW := Lib.hid (fun (w' : World) (h : Keep [] w5.drew w') => show Keep [] W w' from HI5.out.1.trans0 ((Keep.refl [] w5).drew.trans0 h))
                  refine wp_asn2 28 [.pure (.string s0), .pure (.string (s0 ++ ⟨#[32, 32, 99, 111, 112, 121]⟩)), .pure (.pointer (some ⟨bc, 0, none⟩)), .pure (.int .i64 c.num), .mem (fun v w => SlAt w v 1 [.int .i64 c.num]), .pure (.string p1), .pure (.string (s0 ++ ⟨#[32, 32, 99, 111, 112, 121]⟩ ++ p1)), .mem (fun v w => SlAt w v 3 [.string ⟨#[102, 114, 111, 109]⟩, .string ⟨#[116, 111]⟩, .string ⟨#[115, 101, 110, 116]⟩]), .pure (.pointer (some ⟨bc, 1, none⟩)), .pure (.int .i64 c.src), .pure (.pointer (some ⟨bc, 2, none⟩)), .pure (.int .i64 c.dst), .pure (.pointer (some ⟨bc, 4, none⟩)), .pure (.int .i64 c.sent), .mem (fun v w => SlAt w v 3 [.int .i64 c.src, .int .i64 c.dst, .int .i64 c.sent]), .pure (.string n1), .pure (.string (s0 ++ ⟨#[32, 32, 99, 111, 112, 121]⟩ ++ p1 ++ n1)), .pure (.pointer (some ⟨bc, 5, none⟩)), .pure (.bool c.bad), .pure (.string m1), .pure (.string (s0 ++ ⟨#[32, 32, 99, 111, 112, 121]⟩ ++ p1 ++ n1 ++ m1)), .pure (.string (s0 ++ ⟨#[32, 32, 99, 111, 112, 121]⟩ ++ p1 ++ n1 ++ m1 ++ ⟨#[32]⟩)), .pure (.pointer (some ⟨bc, 3, none⟩)), .pure (.slice ad3 m cap3), .pure (.string c.data), .pure (.string q), .pure (.string (s0 ++ ⟨#[32, 32, 99, 111, 112, 121]⟩ ++ p1 ++ n1 ++ m1 ++ ⟨#[32]⟩ ++ q)), .pure (.string (s0 ++ ⟨#[32, 32, 99, 111, 112, 121]⟩ ++ p1 ++ n1 ++ m1 ++ ⟨#[32]⟩ ++ q ++ ⟨#[10]⟩))] (by kernel_rfl) (by kernel_rfl) ?_
                  intro Q0 hQ0
                  refine asn_pure rfl ?_ ?_
                  · intro w' hw' hf K' Q' hK
                    clear hf hw'
                    go_simp
                    exact hK _ (Keep.refl _ _)
                  try simp only [Act.put, List.setIfInBounds_toArray, List.set_cons_succ, List.set_cons_zero]
                  refine asn_pure rfl ?_ ?_
                  · intro w' hw' hf K' Q' hK
                    clear hf hw'
                    go_simp
                    rw [if_neg]
                    · exact hK _ (Keep.refl _ _)
                    · omega
                  try simp only [Act.put, List.setIfInBounds_toArray, List.set_cons_succ, List.set_cons_zero]
                  refine asn_pure rfl ?_ ?_
                  · intro w' hw' hf K' Q' hK
                    clear hf hw'
                    go_simp
                    exact hK _ (Keep.refl _ _)
                  try simp only [Act.put, List.setIfInBounds_toArray, List.set_cons_succ, List.set_cons_zero]
                  refine asn_pure rfl ?_ ?_
                  · intro w' hw' hf K' Q' hK
                    have y0 := cell_of_block (hw'.at_ HB5.out (by simp)) 0
                    simp at y0
                    clear hf
                    go_simp
                    exact hK _ (Keep.refl _ _)
                  try simp only [Act.put, List.setIfInBounds_toArray, List.set_cons_succ, List.set_cons_zero]
                  refine asn_mem (p := fun v w => SlAt w v 1 [.int .i64 c.num]) rfl (fun v w w' h k => h.keep0 k) ?_ ?_
                  · intro w' hw' hf K' Q' hK
                    clear hf hw'
                    go_simp
                    exact hK _ _ ((Keep.refl _ _).alloc _) (new_slV [.int .i64 c.num] 1 (by decide) (by simp))
                  intro v
                  try simp only [Act.put, List.setIfInBounds_toArray, List.set_cons_succ, List.set_cons_zero]
                  refine asn_pure rfl ?_ ?_
                  · intro w' hw' hf K' Q' hK
                    go_simp
                    refine (said_any [c.num] v w' (hf.2 (by kernel_rfl)) (sd1_ok HCK.out.1).2 (by simp)).mono ?_
                    rintro e w2 ⟨rfl, hk2⟩
                    rw [← HP1.out]
                    exact hK _ hk2
                  try simp only [Act.put, List.setIfInBounds_toArray, List.set_cons_succ, List.set_cons_zero]
                  refine asn_pure rfl ?_ ?_
                  · intro w' hw' hf K' Q' hK
                    clear hf hw'
                    go_simp
                    rw [if_neg]
                    · exact hK _ (Keep.refl _ _)
                    · omega
                  try simp only [Act.put, List.setIfInBounds_toArray, List.set_cons_succ, List.set_cons_zero]
                  refine asn_mem (p := fun v w => SlAt w v 3 [.string ⟨#[102, 114, 111, 109]⟩, .string ⟨#[116, 111]⟩, .string ⟨#[115, 101, 110, 116]⟩]) rfl (fun v w w' h k => h.keep0 k) ?_ ?_
                  · intro w' hw' hf K' Q' hK
                    clear hf hw'
                    go_simp
                    exact hK _ _ ((Keep.refl _ _).alloc _) (new_slV [.string ⟨#[102, 114, 111, 109]⟩, .string ⟨#[116, 111]⟩, .string ⟨#[115, 101, 110, 116]⟩] 3 (by decide) (by simp))
                  intro v2
                  try simp only [Act.put, List.setIfInBounds_toArray, List.set_cons_succ, List.set_cons_zero]
                  refine asn_pure rfl ?_ ?_
                  · intro w' hw' hf K' Q' hK
                    clear hf hw'
                    go_simp
                    exact hK _ (Keep.refl _ _)
                  try simp only [Act.put, List.setIfInBounds_toArray, List.set_cons_succ, List.set_cons_zero]
                  refine asn_pure rfl ?_ ?_
                  · intro w' hw' hf K' Q' hK
                    have y1 := cell_of_block (hw'.at_ HB5.out (by simp)) 1
                    simp at y1
                    clear hf
                    go_simp
                    exact hK _ (Keep.refl _ _)
                  try simp only [Act.put, List.setIfInBounds_toArray, List.set_cons_succ, List.set_cons_zero]
                  refine asn_pure rfl ?_ ?_
                  · intro w' hw' hf K' Q' hK
                    clear hf hw'
                    go_simp
                    exact hK _ (Keep.refl _ _)
                  try simp only [Act.put, List.setIfInBounds_toArray, List.set_cons_succ, List.set_cons_zero]
                  refine asn_pure rfl ?_ ?_
                  · intro w' hw' hf K' Q' hK
                    have y2 := cell_of_block (hw'.at_ HB5.out (by simp)) 2
                    simp at y2
                    clear hf
                    go_simp
                    exact hK _ (Keep.refl _ _)
                  try simp only [Act.put, List.setIfInBounds_toArray, List.set_cons_succ, List.set_cons_zero]
                  refine asn_pure rfl ?_ ?_
                  · intro w' hw' hf K' Q' hK
                    clear hf hw'
                    go_simp
                    exact hK _ (Keep.refl _ _)
                  try simp only [Act.put, List.setIfInBounds_toArray, List.set_cons_succ, List.set_cons_zero]
                  refine asn_pure rfl ?_ ?_
                  · intro w' hw' hf K' Q' hK
                    have y4 := cell_of_block (hw'.at_ HB5.out (by simp)) 4
                    simp at y4
                    clear hf
                    go_simp
                    exact hK _ (Keep.refl _ _)
                  try simp only [Act.put, List.setIfInBounds_toArray, List.set_cons_succ, List.set_cons_zero]
                  refine asn_mem (p := fun v w => SlAt w v 3 [.int .i64 c.src, .int .i64 c.dst, .int .i64 c.sent]) rfl (fun v w w' h k => h.keep0 k) ?_ ?_
                  · intro w' hw' hf K' Q' hK
                    clear hf hw'
                    go_simp
                    exact hK _ _ ((Keep.refl _ _).alloc _) (new_slV [.int .i64 c.src, .int .i64 c.dst, .int .i64 c.sent] 3 (by decide) (by simp))
                  intro v3
                  try simp only [Act.put, List.setIfInBounds_toArray, List.set_cons_succ, List.set_cons_zero]
                  refine asn_pure rfl ?_ ?_
                  · intro w' hw' hf K' Q' hK
                    go_simp
                    refine (rnamed_any [(⟨#[102, 114, 111, 109]⟩, c.src), (⟨#[116, 111]⟩, c.dst), (⟨#[115, 101, 110, 116]⟩, c.sent)] v2 v3 w' (hf.1.2 (by kernel_rfl)) (hf.2 (by kernel_rfl)) HZC.out (by simp)).mono ?_
                    rintro e w2 ⟨rfl, hk2⟩
                    rw [← HN1.out]
                    exact hK _ hk2
                  try simp only [Act.put, List.setIfInBounds_toArray, List.set_cons_succ, List.set_cons_zero]
                  refine asn_pure rfl ?_ ?_
                  · intro w' hw' hf K' Q' hK
                    clear hf hw'
                    go_simp
                    rw [if_neg]
                    · exact hK _ (Keep.refl _ _)
                    · omega
                  try simp only [Act.put, List.setIfInBounds_toArray, List.set_cons_succ, List.set_cons_zero]
                  refine asn_pure rfl ?_ ?_
                  · intro w' hw' hf K' Q' hK
                    clear hf hw'
                    go_simp
                    exact hK _ (Keep.refl _ _)
                  try simp only [Act.put, List.setIfInBounds_toArray, List.set_cons_succ, List.set_cons_zero]
                  refine asn_pure rfl ?_ ?_
                  · intro w' hw' hf K' Q' hK
                    have y5 := cell_of_block (hw'.at_ HB5.out (by simp)) 5
                    simp at y5
                    clear hf
                    go_simp
                    exact hK _ (Keep.refl _ _)
                  try simp only [Act.put, List.setIfInBounds_toArray, List.set_cons_succ, List.set_cons_zero]
                  refine asn_pure rfl ?_ ?_
                  · intro w' hw' hf K' Q' hK
                    go_simp
                    refine (rmaybe_any c.bad ⟨#[98, 97, 100]⟩ w' (by decide)).mono ?_
                    rintro e w2 ⟨rfl, hk2⟩
                    rw [← HM1.out]
                    exact hK _ hk2
                  try simp only [Act.put, List.setIfInBounds_toArray, List.set_cons_succ, List.set_cons_zero]
                  refine asn_pure rfl ?_ ?_
                  · intro w' hw' hf K' Q' hK
                    clear hf hw'
                    go_simp
                    rw [if_neg]
                    · exact hK _ (Keep.refl _ _)
                    · omega
                  try simp only [Act.put, List.setIfInBounds_toArray, List.set_cons_succ, List.set_cons_zero]
                  refine asn_pure rfl ?_ ?_
                  · intro w' hw' hf K' Q' hK
                    clear hf hw'
                    go_simp
                    rw [if_neg]
                    · exact hK _ (Keep.refl _ _)
                    · omega
                  try simp only [Act.put, List.setIfInBounds_toArray, List.set_cons_succ, List.set_cons_zero]
                  refine asn_pure rfl ?_ ?_
                  · intro w' hw' hf K' Q' hK
                    clear hf hw'
                    go_simp
                    exact hK _ (Keep.refl _ _)
                  try simp only [Act.put, List.setIfInBounds_toArray, List.set_cons_succ, List.set_cons_zero]
                  refine asn_pure rfl ?_ ?_
                  · intro w' hw' hf K' Q' hK
                    have y3 := cell_of_block (hw'.at_ HB5.out (by simp)) 3
                    simp at y3
                    clear hf
                    go_simp
                    exact hK _ (Keep.refl _ _)
                  try simp only [Act.put, List.setIfInBounds_toArray, List.set_cons_succ, List.set_cons_zero]
                  refine asn_pure rfl ?_ ?_
                  · intro w' hw' hf K' Q' hK
                    have xc := HCV.out w' (HW.out w' hw')
                    clear hf
                    go_simp
                    exact hK _ (Keep.refl _ _)
                  try simp only [Act.put, List.setIfInBounds_toArray, List.set_cons_succ, List.set_cons_zero]
                  refine asn_pure rfl ?_ ?_
                  · intro w' hw' hf K' Q' hK
                    go_simp
                    refine (rquote_any c.data w' (by have := HCK.out.2.2.2.2; omega)).mono ?_
                    rintro e w2 ⟨rfl, hk2⟩
                    rw [← HQ.out]
                    exact hK _ hk2
                  try simp only [Act.put, List.setIfInBounds_toArray, List.set_cons_succ, List.set_cons_zero]
                  refine asn_pure rfl ?_ ?_
                  · intro w' hw' hf K' Q' hK
                    clear hf hw'
                    go_simp
                    rw [if_neg]
                    · exact hK _ (Keep.refl _ _)
                    · omega
                  try simp only [Act.put, List.setIfInBounds_toArray, List.set_cons_succ, List.set_cons_zero]
                  refine asn_pure rfl ?_ ?_
                  · intro w' hw' hf K' Q' hK
                    clear hf hw'
                    go_simp
                    rw [if_neg]
                    · exact hK _ (Keep.refl _ _)
                    · omega
                  try simp only [Act.put, List.setIfInBounds_toArray, List.set_cons_succ, List.set_cons_zero]
                  refine asn_last rfl rfl ?_
                  intro w' hw' hf K' Q' hK
                  clear hf
                  go_simp
                  refine hK _ _ (hQ0 _ _ ?_)
                  clear hK hQ0 K' Q' Q0
                  have HI6 := Lib.hid (HI5.out.keep ((Keep.refl [] w5).drew.trans0 hw'))
                  clear hw'
                  go_wp2
                  go_roundw
                  case rel => exact ⟨k + 1, by rw [HTK.out, HCP.out]; simp only [ByteArray.append_assoc], by go_num, by have := HLT.out; omega, HI6.out⟩
                  case measure => have := HLT.out; simp [intOf]; omega
                · obtain rfl : k = n := by omega
                  have g1 := dec_lt_f (show ¬ (k : Int) < (k : Int) by omega)
                  have g2 := dec_ltn_f hlt
                  have HFE := Lib.hid (show tb = tl ++ cpsR (cps.take k) by rw [List.take_of_length_le (by rw [HN.out]; exact Nat.le_refl _), HTL.out])
                  clear hlt
                  go_wp2
                  go_ret
                  exact ⟨by rw [HFE.out]; rfl, HIR.out.1⟩
end Go.Proofs.YtbidppjhenfjdaaGreatDoor
namespace Go.Proofs.YtbidppjhenfjdaaGreatDoor
open Go.ChangeShapes Go.WideShapes Go.RowKit
set_option linter.unusedVariables false
set_option linter.unusedSimpArgs false

theorem cellsDotA : Tryz.prog.cellsOf 42 = 2 := by kernel_rfl
theorem cellsIDA : Tryz.prog.cellsOf 46 = 2 := by kernel_rfl
theorem cellsRunA : Tryz.prog.cellsOf 140 = 3 := by kernel_rfl
theorem cellsVecA : Tryz.prog.cellsOf 44 = 1 := by kernel_rfl
theorem cellsRunsA : Tryz.prog.cellsOf 47 = 1 := by kernel_rfl
theorem cellsDotsA : Tryz.prog.cellsOf 43 = 1 := by kernel_rfl
theorem cellsPesA : Tryz.prog.cellsOf 50 = 1 := by kernel_rfl
theorem cellsCpsA : Tryz.prog.cellsOf 53 = 1 := by kernel_rfl
theorem cellsPeA : Tryz.prog.cellsOf 88 = 9 := by kernel_rfl
theorem cellsCpA : Tryz.prog.cellsOf 60 = 6 := by kernel_rfl
theorem cellsOpA : Tryz.prog.cellsOf 49 = 11 := by kernel_rfl
theorem cellsSgA : Tryz.prog.cellsOf 52 = 13 := by kernel_rfl
theorem cellsAnA : Tryz.prog.cellsOf 55 = 27 := by kernel_rfl
theorem cellsErA : Tryz.prog.cellsOf 24 = 1 := by kernel_rfl
theorem cellsBoolA : Tryz.prog.cellsOf 4 = 1 := by kernel_rfl
/-- A cell's number. -/
def cellN (w : World) (b k : Nat) : Int :=
  match w.cell? ⟨b, k, none⟩ with
  | some (.int _ n) => n
  | _ => 0
section
variable {H : Type} {enc : TypeId × Value → H} {w : World}
set_option maxRecDepth 100000 in
/-- A list of things of c numbers each. -/
theorem grp_reads {c : Nat} {t e : TypeId} {n : Nat} {cs : List Value} {y : DataW H × List MemPlace} (hc0 : 0 < c) (ht : Tryz.prog.underlying t = some (.slice e)) (hc : Tryz.prog.cellsOf e = c)
    (hel : ∀ (m : Nat) (cs' : List Value) (y' : DataW H × List MemPlace), DataW.trod enc Tryz.prog w 0 (fun _ => true) true m e cs' = some y' → ∃ zs : List Int, cs' = intsV zs ∧ zs.length = c ∧ AllI zs)
    (h : DataW.trod enc Tryz.prog w 0 (fun _ => true) true n t cs = some y) :
    ∃ (v : Value) (k : Nat) (D : List Int), cs = [v] ∧ Grp c w v k D ∧ AllI D := by
  rcases Go.Deep.open_slice ht h with ⟨rfl, _⟩ | ⟨a, len, cap, m, n', Dd, Pl, rfl, _, hl, _, hm, _, hi⟩
  · exact ⟨_, 0, [], rfl, ⟨⟨none, 0, rfl, ⟨fun _ => rfl, fun _ => rfl⟩, fun h => absurd rfl h⟩, by simp⟩, fun n h => by cases h⟩
  · have hm' : m = cap := by simpa using hm
    subst hm'
    rw [hc] at hi
    have hex : ∀ i, i < len → ∃ zs : List Int, zs.length = c ∧ AllI zs ∧ ∀ j u, (intsV zs)[j]? = some u → w.cell? (a.add (i * c + j)) = some u := fun i hil => by
      obtain ⟨cs', hcell, htrod⟩ := hi i (by omega)
      obtain ⟨zs, rfl, h1, h2⟩ := hel _ _ _ htrod
      obtain ⟨_, hlen, hat⟩ := World.cells?_some hcell
      refine ⟨zs, h1, h2, fun j u hu => ?_⟩
      have hj : j < c := by
        have := (List.getElem?_eq_some_iff.1 hu).1
        rw [← h1]
        simpa [intsV] using this
      rw [← Go.Deep.add_add, hat j hj, hu]
    have hspot : len ≠ 0 → a.spot = none := fun h0 => by
      obtain ⟨zs, h1, _, hcz⟩ := hex 0 (by omega)
      have h2 := hcz 0 _ (intsV_at (by omega))
      rw [Nat.zero_mul, Nat.zero_add] at h2
      exact addr_one h2
    have hat : ∀ k, k < len * c → I64 (cellN w a.block (a.off + k)) ∧ w.cell? ⟨a.block, a.off + k, none⟩ = some (.int .i64 (cellN w a.block (a.off + k))) := fun k hk => by
      have hi0 : k / c < len := Nat.div_lt_of_lt_mul (by rw [Nat.mul_comm]; exact hk)
      have hj0 : k % c < c := Nat.mod_lt _ hc0
      have hkk : k / c * c + k % c = k := by rw [Nat.mul_comm]; exact Nat.div_add_mod k c
      obtain ⟨zs, h1, h2, h3⟩ := hex _ hi0
      have h4 := h3 (k % c) _ (intsV_at (by omega))
      rw [hkk, addr_plain (hspot (Nat.ne_of_gt (Nat.lt_of_le_of_lt (Nat.zero_le _) hi0)))] at h4
      have h5 : cellN w a.block (a.off + k) = zs[k % c]'(by omega) := by unfold cellN; rw [h4]
      rw [h5]
      exact ⟨h2 _ (List.getElem_mem _), h4⟩
    refine ⟨_, len, (List.range (len * c)).map fun k => cellN w a.block (a.off + k), rfl, ⟨⟨some a, m, rfl, ⟨fun h0 => by simp [h0, intsV], fun h => (by cases h)⟩, fun h0 => ?_⟩, by simp⟩, fun z hz => ?_⟩
    · refine ⟨a.block, a.off, congrArg some (addr_is (hspot h0)), fun i u hu => ?_⟩
      have hi' : i < len * c := by
        have := (List.getElem?_eq_some_iff.1 hu).1
        simpa [intsV] using this
      rw [intsV_at (by simpa using hi')] at hu
      injection hu with hu
      subst hu
      rw [(hat i hi').2]
      simp
    · obtain ⟨k, hk, rfl⟩ := List.mem_map.1 hz
      exact (hat k (List.mem_range.1 hk)).1
set_option maxRecDepth 100000 in
theorem int_el {m : Nat} {cs : List Value} {y : DataW H × List MemPlace} (h : DataW.trod enc Tryz.prog w 0 (fun _ => true) true m 3 cs = some y) : ∃ zs : List Int, cs = intsV zs ∧ zs.length = 1 ∧ AllI zs := by
  obtain ⟨n0, e0, _, k0⟩ := DataW.trod_int Tryz.underlying3 h
  exact ⟨[n0], e0, rfl, fun n hn => by simp at hn; subst hn; exact i64_wf k0⟩
set_option maxRecDepth 100000 in
theorem dot_el {m : Nat} {cs : List Value} {y : DataW H × List MemPlace} (h : DataW.trod enc Tryz.prog w 0 (fun _ => true) true m 42 cs = some y) : ∃ zs : List Int, cs = intsV zs ∧ zs.length = 2 ∧ AllI zs := by
  obtain ⟨xs, m, _, rfl, hl, hlen, hf⟩ := DataW.trod_struct Tryz.underlying42 h
  rw [cellsDotA] at hl
  match xs, hlen, cs, hl with
  | [y0, y1], _, [c0, c1], _ =>
    have g0 := hf 0 _ rfl
    have g1 := hf 1 _ rfl
    simp [cellsIntA] at g0 g1
    obtain ⟨n0, e0, _, k0⟩ := DataW.trod_int Tryz.underlying3 g0
    obtain ⟨n1, e1, _, k1⟩ := DataW.trod_int Tryz.underlying3 g1
    simp at e0 e1
    subst e0; subst e1
    exact ⟨[n0, n1], rfl, rfl, fun n hn => by simp at hn; rcases hn with rfl | rfl; exact i64_wf k0; exact i64_wf k1⟩
set_option maxRecDepth 100000 in
theorem id_el {m : Nat} {cs : List Value} {y : DataW H × List MemPlace} (h : DataW.trod enc Tryz.prog w 0 (fun _ => true) true m 46 cs = some y) : ∃ zs : List Int, cs = intsV zs ∧ zs.length = 2 ∧ AllI zs := by
  obtain ⟨xs, m, _, rfl, hl, hlen, hf⟩ := DataW.trod_struct Tryz.underlying46 h
  rw [cellsIDA] at hl
  match xs, hlen, cs, hl with
  | [y0, y1], _, [c0, c1], _ =>
    have g0 := hf 0 _ rfl
    have g1 := hf 1 _ rfl
    simp [cellsIntA] at g0 g1
    obtain ⟨n0, e0, _, k0⟩ := DataW.trod_int Tryz.underlying3 g0
    obtain ⟨n1, e1, _, k1⟩ := DataW.trod_int Tryz.underlying3 g1
    simp at e0 e1
    subst e0; subst e1
    exact ⟨[n0, n1], rfl, rfl, fun n hn => by simp at hn; rcases hn with rfl | rfl; exact i64_wf k0; exact i64_wf k1⟩
theorem two_of {cs : List Value} {zs : List Int} (h : cs = intsV zs) (h2 : zs.length = 2) (h3 : AllI zs) : ∃ a b, cs = [.int .i64 a, .int .i64 b] ∧ I64 a ∧ I64 b := by
  match zs, h2 with
  | [a, b], _ => exact ⟨a, b, h, h3 a (by simp), h3 b (by simp)⟩
set_option maxRecDepth 100000 in
theorem run_el {m : Nat} {cs : List Value} {y : DataW H × List MemPlace} (h : DataW.trod enc Tryz.prog w 0 (fun _ => true) true m 140 cs = some y) : ∃ zs : List Int, cs = intsV zs ∧ zs.length = 3 ∧ AllI zs := by
  obtain ⟨xs, m, _, rfl, hl, hlen, hf⟩ := DataW.trod_struct Tryz.underlying140 h
  rw [cellsRunA] at hl
  match xs, hlen, cs, hl with
  | [y0, y1], _, [c0, c1, c2], _ =>
    have g0 := hf 0 _ rfl
    have g1 := hf 1 _ rfl
    simp [cellsIntA, cellsIDA] at g0 g1
    obtain ⟨z0, e0, l0, k0⟩ := id_el g0
    obtain ⟨a, b, e2, ka, kb⟩ := two_of e0 l0 k0
    obtain ⟨n1, e1, _, k1⟩ := DataW.trod_int Tryz.underlying3 g1
    simp at e1 e2
    obtain ⟨rfl, rfl⟩ := e2
    subst e1
    exact ⟨[a, b, n1], rfl, rfl, fun n hn => by simp at hn; rcases hn with rfl | rfl | rfl; exact ka; exact kb; exact i64_wf k1⟩
set_option maxRecDepth 100000 in
/-- Rows of whatever is read. -/
theorem rows_reads {α : Type} {c : Nat} {t e : TypeId} {n : Nat} {cs : List Value} {y : DataW H × List MemPlace} (R : α → List Value → Prop) (hc0 : 0 < c) (ht : Tryz.prog.underlying t = some (.slice e)) (hc : Tryz.prog.cellsOf e = c)
    (hel : ∀ (m : Nat) (cs' : List Value) (y' : DataW H × List MemPlace), DataW.trod enc Tryz.prog w 0 (fun _ => true) true m e cs' = some y' → (y'.1.weights Tryz.prog e).all (· ≤ reachBytes) = true → ∃ x, R x cs')
    (h : DataW.trod enc Tryz.prog w 0 (fun _ => true) true n t cs = some y) (hw : (y.1.weights Tryz.prog t).all (· ≤ reachBytes) = true) :
    ∃ (ad : Option Addr) (cap : Nat) (L : List α), cs = [.slice ad L.length cap] ∧ (L.length ≠ 0 → ∃ b off, ad = some ⟨b, off, none⟩ ∧ ∀ (k : Nat) (hk : k < L.length), ∃ cs', R L[k] cs' ∧ ∀ j u, cs'[j]? = some u → w.cell? ⟨b, off + k * c + j, none⟩ = some u) := by
  rcases Go.Deep.open_slice ht h with ⟨rfl, _⟩ | ⟨a, len, cap, m, n', Dd, Pl, rfl, _, hl, _, hm, hx, hi⟩
  · exact ⟨none, 0, [], rfl, fun h => absurd rfl h⟩
  · have hm' : m = cap := by simpa using hm
    subst hm'
    rw [hc] at hi
    subst hx
    have hwd : ∀ i, i < len → ((Dd i).weights Tryz.prog e).all (· ≤ reachBytes) = true := by
      intro i hi
      simp only [DataW.weights, ht, List.all_cons, List.all_append, Bool.and_eq_true] at hw
      have h1 := hw.2.1
      clear hw
      have key : ∀ (l : List (DataW H)), (DataW.weightsAll Tryz.prog e l).all (· ≤ reachBytes) = true → ∀ d ∈ l, (d.weights Tryz.prog e).all (· ≤ reachBytes) = true := by
        intro l
        induction l with
        | nil => intro _ d hd; cases hd
        | cons x l ih =>
          intro h d hd
          simp only [DataW.weightsAll, List.all_append, Bool.and_eq_true] at h
          rcases List.mem_cons.1 hd with rfl | hd
          · exact h.1
          · exact ih h.2 d hd
      exact key _ h1 _ (List.mem_map.2 ⟨i, List.mem_range.2 hi, rfl⟩)
    have hex : ∀ i : Fin len, ∃ x : α, ∃ cs', R x cs' ∧ cs'.length = c ∧ ∀ j u, cs'[j]? = some u → w.cell? (a.add (i.val * c + j)) = some u := fun i => by
      obtain ⟨cs', hcell, htrod⟩ := hi i.val (by omega)
      obtain ⟨x, h1⟩ := hel _ _ _ htrod (hwd i.val i.isLt)
      obtain ⟨_, hlen, hat⟩ := World.cells?_some hcell
      refine ⟨x, cs', h1, hlen, fun j u hu => ?_⟩
      have hj : j < c := by rw [← hlen]; exact (List.getElem?_eq_some_iff.1 hu).1
      rw [← Go.Deep.add_add, hat j hj, hu]
    have hspot : len ≠ 0 → a.spot = none := fun h0 => by
      obtain ⟨x, cs', _, hlc, hcz⟩ := hex ⟨0, by omega⟩
      have h2 := hcz 0 _ (List.getElem?_eq_getElem (by omega))
      simp only [Nat.zero_mul, Nat.zero_add] at h2
      exact addr_one h2
    refine ⟨some a, m, (List.finRange len).map fun i => Classical.choose (hex i), by simp, fun h0 => ?_⟩
    have hl0 : len ≠ 0 := by simpa using h0
    have hs := hspot hl0
    refine ⟨a.block, a.off, congrArg some (addr_is hs), fun i hi => ?_⟩
    have hil : i < len := by simpa using hi
    obtain ⟨cs', h1, _, h3⟩ := Classical.choose_spec (hex ⟨i, hil⟩)
    refine ⟨cs', ?_, fun j u hu => ?_⟩
    · rw [List.getElem_map]
      simpa using h1
    · have := h3 j u hu
      rw [addr_plain hs] at this
      rw [Nat.add_assoc]
      exact this
set_option maxRecDepth 100000 in
theorem vec_reads {n : Nat} {cs : List Value} {y : DataW H × List MemPlace} (h : DataW.trod enc Tryz.prog w 0 (fun _ => true) true n 44 cs = some y) : ∃ (v : Value) (k : Nat) (D : List Int), cs = [v] ∧ Grp 2 w v k D ∧ AllI D :=
  grp_reads (by decide) Tryz.underlying44 cellsDotA (fun _ _ _ h => dot_el h) h
set_option maxRecDepth 100000 in
theorem dots_reads {n : Nat} {cs : List Value} {y : DataW H × List MemPlace} (h : DataW.trod enc Tryz.prog w 0 (fun _ => true) true n 43 cs = some y) : ∃ (v : Value) (k : Nat) (D : List Int), cs = [v] ∧ Grp 2 w v k D ∧ AllI D :=
  grp_reads (by decide) Tryz.underlying43 cellsDotA (fun _ _ _ h => dot_el h) h
set_option maxRecDepth 100000 in
theorem runs_reads {n : Nat} {cs : List Value} {y : DataW H × List MemPlace} (h : DataW.trod enc Tryz.prog w 0 (fun _ => true) true n 47 cs = some y) : ∃ (v : Value) (k : Nat) (D : List Int), cs = [v] ∧ Grp 3 w v k D ∧ AllI D :=
  grp_reads (by decide) Tryz.underlying47 cellsRunA (fun _ _ _ h => run_el h) h
set_option maxRecDepth 100000 in
theorem nums_reads {n : Nat} {cs : List Value} {y : DataW H × List MemPlace} (h : DataW.trod enc Tryz.prog w 0 (fun _ => true) true n 37 cs = some y) : ∃ (v : Value) (k : Nat) (D : List Int), cs = [v] ∧ Grp 1 w v k D ∧ AllI D :=
  grp_reads (by decide) Tryz.underlying37 cellsIntA (fun _ _ _ h => int_el h) h
set_option maxRecDepth 100000 in
theorem op_reads {n : Nat} {cs : List Value} {y : DataW H × List MemPlace} (h : DataW.trod enc Tryz.prog w 0 (fun _ => true) true n 49 cs = some y) :
    ∃ (o : OpN) (dv gv : Value), cs = (opV o dv gv).toList ∧ OpRd w o dv gv ∧ OpI o := by
  obtain ⟨xs, m, _, rfl, hl, hlen, hf⟩ := DataW.trod_struct Tryz.underlying49 h
  rw [cellsOpA] at hl
  match xs, hlen, cs, hl with
  | [y0, y1, y2, y3, y4, y5, y6, y7], _, [c0, c1, c2, c3, c4, c5, c6, c7, c8, c9, c10], _ =>
    have g0 := hf 0 _ rfl
    have g1 := hf 1 _ rfl
    have g2 := hf 2 _ rfl
    have g3 := hf 3 _ rfl
    have g4 := hf 4 _ rfl
    have g5 := hf 5 _ rfl
    have g6 := hf 6 _ rfl
    have g7 := hf 7 _ rfl
    simp [cellsIntA, cellsStrA, cellsDotA, cellsIDA, cellsVecA, cellsRunsA] at g0 g1 g2 g3 g4 g5 g6 g7
    obtain ⟨z0, e0, l0, k0⟩ := dot_el g0
    obtain ⟨d1, d2, e0, kd1, kd2⟩ := two_of e0 l0 k0
    obtain ⟨v1, n1, D1, e1, r1, k1⟩ := vec_reads g1
    obtain ⟨n2, e2, _, k2⟩ := DataW.trod_int Tryz.underlying3 g2
    obtain ⟨z3, e3, l3, k3⟩ := id_el g3
    obtain ⟨i1, i2, e3, ki1, ki2⟩ := two_of e3 l3 k3
    obtain ⟨z4, e4, l4, k4⟩ := id_el g4
    obtain ⟨r1', r2', e4, kr1, kr2⟩ := two_of e4 l4 k4
    obtain ⟨s5, e5, _, k5⟩ := DataW.trod_string Tryz.underlying9 g5
    obtain ⟨v6, n6, D6, e6, r6, k6⟩ := runs_reads g6
    obtain ⟨n7, e7, _, k7⟩ := DataW.trod_int Tryz.underlying3 g7
    simp at e0 e1 e2 e3 e4 e5 e6 e7
    obtain ⟨rfl, rfl⟩ := e0
    subst e1
    subst e2
    obtain ⟨rfl, rfl⟩ := e3
    obtain ⟨rfl, rfl⟩ := e4
    subst e5
    subst e6
    subst e7
    exact ⟨{ d1 := d1, d2 := d2, nd := n1, deps := D1, kind := n2, i1 := i1, i2 := i2, r1 := r1', r2 := r2', text := s5, ng := n6, gone := D6, site := n7 }, c2, c9, rfl, ⟨r1, r6⟩, kd1, kd2, i64_wf k2, ki1, ki2, kr1, kr2, i64_wf k7, k1, k6⟩
set_option maxRecDepth 100000 in
theorem peer_reads {n : Nat} {cs : List Value} {y : DataW H × List MemPlace} (h : DataW.trod enc Tryz.prog w 0 (fun _ => true) true n 88 cs = some y) :
    ∃ (p : PeerN) (rv uv fv : Value), cs = (peV p rv uv fv).toList ∧ PeRd w p rv uv fv ∧ PeerI p := by
  obtain ⟨xs, m, _, rfl, hl, hlen, hf⟩ := DataW.trod_struct Tryz.underlying88 h
  rw [cellsPeA] at hl
  match xs, hlen, cs, hl with
  | [y0, y1, y2, y3, y4, y5, y6, y7, y8], _, [c0, c1, c2, c3, c4, c5, c6, c7, c8], _ =>
    have g0 := hf 0 _ rfl
    have g1 := hf 1 _ rfl
    have g2 := hf 2 _ rfl
    have g3 := hf 3 _ rfl
    have g4 := hf 4 _ rfl
    have g5 := hf 5 _ rfl
    have g6 := hf 6 _ rfl
    have g7 := hf 7 _ rfl
    have g8 := hf 8 _ rfl
    simp [cellsIntA, cellsBoolA, cellsVecA, cellsIntsA] at g0 g1 g2 g3 g4 g5 g6 g7 g8
    obtain ⟨n0, e0, _, k0⟩ := DataW.trod_int Tryz.underlying3 g0
    obtain ⟨b1, e1, _⟩ := DataW.trod_bool Tryz.underlying4 g1
    obtain ⟨v2, n2, D2, e2, r2, k2⟩ := vec_reads g2
    obtain ⟨v3, n3, D3, e3, r3, k3⟩ := vec_reads g3
    obtain ⟨v4, n4, D4, e4, r4, k4⟩ := nums_reads g4
    obtain ⟨n5, e5, _, k5⟩ := DataW.trod_int Tryz.underlying3 g5
    obtain ⟨n6, e6, _, k6⟩ := DataW.trod_int Tryz.underlying3 g6
    obtain ⟨n7, e7, _, k7⟩ := DataW.trod_int Tryz.underlying3 g7
    obtain ⟨n8, e8, _, k8⟩ := DataW.trod_int Tryz.underlying3 g8
    simp at e0 e1 e2 e3 e4 e5 e6 e7 e8
    subst e0; subst e1; subst e2; subst e3; subst e4; subst e5; subst e6; subst e7; subst e8
    exact ⟨{ peer := n0, heard := b1, row := D2, nr := n2, us := D3, nu := n3, fl := D4, nf := n4, got := n5, credit := n6, gap := n7, due := n8 }, c2, c3, c4, rfl, ⟨r2, r3, r4⟩, i64_wf k0, i64_wf k5, i64_wf k6, i64_wf k7, i64_wf k8, k2, k3, k4⟩
set_option maxRecDepth 100000 in
theorem peers_reads {n : Nat} {cs : List Value} {y : DataW H × List MemPlace} (h : DataW.trod enc Tryz.prog w 0 (fun _ => true) true n 50 cs = some y) (hw : (y.1.weights Tryz.prog 50).all (· ≤ reachBytes) = true) :
    ∃ (v : Value) (L : List PeerN), cs = [v] ∧ PeersRd w v L ∧ ∀ p ∈ L, PeerI p := by
  obtain ⟨ad, cap, L, rfl, hL⟩ := rows_reads (w := w) (fun (p : PeerN) cs => ∃ rv uv fv, cs = (peV p rv uv fv).toList ∧ PeRd w p rv uv fv ∧ PeerI p) (c := 9) (by decide) Tryz.underlying50 cellsPeA (fun _ _ _ h _ => peer_reads h) h hw
  refine ⟨_, L, rfl, ⟨ad, cap, rfl, fun h0 => ?_⟩, fun p hp => ?_⟩
  · obtain ⟨b, off, rfl, hc⟩ := hL h0
    refine ⟨b, off, rfl, fun k hk => ?_⟩
    obtain ⟨cs', ⟨rv, uv, fv, rfl, hr, _⟩, hu⟩ := hc k hk
    exact ⟨rv, uv, fv, hr, fun j u hj => hu j u (by rw [Array.getElem?_toList]; exact hj)⟩
  · obtain ⟨k, hk, rfl⟩ := List.getElem_of_mem hp
    obtain ⟨b, off, _, hc⟩ := hL (by omega)
    obtain ⟨cs', ⟨rv, uv, fv, _, _, hi⟩, _⟩ := hc k hk
    exact hi
set_option maxRecDepth 100000 in
theorem copy_reads {n : Nat} {cs : List Value} {y : DataW H × List MemPlace} (h : DataW.trod enc Tryz.prog w 0 (fun _ => true) true n 60 cs = some y) (hw : (y.1.weights Tryz.prog 60).all (· ≤ reachBytes) = true) :
    ∃ (c : Cpy), ∃ ad1 cap1, cs = (cpV c (.slice ad1 c.data.size cap1)).toList ∧ SlAt w (.slice ad1 c.data.size cap1) c.data.size (bytV c.data) ∧ CpyI c ∧ c.data.size ≤ 140737488355327 := by
  obtain ⟨xs, m, _, rfl, hl, hlen, hf⟩ := DataW.trod_struct Tryz.underlying60 h
  rw [cellsCpA] at hl
  match xs, hlen, cs, hl with
  | [y0, y1, y2, y3, y4, y5], _, [c0, c1, c2, c3, c4, c5], _ =>
    have g0 := hf 0 _ rfl
    have g1 := hf 1 _ rfl
    have g2 := hf 2 _ rfl
    have g3 := hf 3 _ rfl
    have g4 := hf 4 _ rfl
    have g5 := hf 5 _ rfl
    simp [cellsIntA, cellsBoolA, cellsBytA] at g0 g1 g2 g3 g4 g5
    simp only [DataW.weights, Tryz.underlying60, List.map_cons, List.map_nil, DataW.weightsEach, List.all_append, Bool.and_eq_true] at hw
    obtain ⟨w0, w1, w2, w3, w4, w5, _⟩ := hw
    obtain ⟨n0, e0, _, k0⟩ := DataW.trod_int Tryz.underlying3 g0
    obtain ⟨n1, e1, _, k1⟩ := DataW.trod_int Tryz.underlying3 g1
    obtain ⟨n2, e2, _, k2⟩ := DataW.trod_int Tryz.underlying3 g2
    obtain ⟨v3, z3, e3, s3, k3, r3⟩ := ints_reads Tryz.underlying38 Tryz.underlying5 cellsU8A (by rw [bytesU8A]; decide) g3 w3
    obtain ⟨n4, e4, _, k4⟩ := DataW.trod_int Tryz.underlying3 g4
    obtain ⟨b5, e5, _⟩ := DataW.trod_bool Tryz.underlying4 g5
    simp at e0 e1 e2 e3 e4 e5
    subst e0; subst e1; subst e2; subst e3; subst e4; subst e5
    have hb3 : ∀ z ∈ z3, 0 ≤ z ∧ z < 256 := fun z hz => u8_wf (k3 z hz)
    have hs : SlAt w c3 (byL z3).size (bytV (byL z3)) := by
      rw [byL_size, byL_bytV hb3]
      exact s3
    obtain ⟨ad1, cap1, rfl⟩ := hs.empty
    exact ⟨{ num := n0, src := n1, dst := n2, data := byL z3, sent := n4, bad := b5 }, ad1, cap1, rfl, hs, ⟨i64_wf k0, i64_wf k1, i64_wf k2, i64_wf k4⟩, by show (byL z3).size ≤ _; rw [byL_size]; omega⟩
set_option maxRecDepth 100000 in
theorem copies_reads {n : Nat} {cs : List Value} {y : DataW H × List MemPlace} (h : DataW.trod enc Tryz.prog w 0 (fun _ => true) true n 53 cs = some y) (hw : (y.1.weights Tryz.prog 53).all (· ≤ reachBytes) = true) :
    ∃ (v : Value) (L : List Cpy), cs = [v] ∧ Cps w v L ∧ ∀ c ∈ L, CpyI c ∧ c.data.size ≤ 140737488355327 := by
  obtain ⟨ad, cap, L, rfl, hL⟩ := rows_reads (w := w) (fun (c : Cpy) cs => ∃ ad1 cap1, cs = (cpV c (.slice ad1 c.data.size cap1)).toList ∧ SlAt w (.slice ad1 c.data.size cap1) c.data.size (bytV c.data) ∧ CpyI c ∧ c.data.size ≤ 140737488355327) (c := 6) (by decide) Tryz.underlying53 cellsCpA (fun _ _ _ h hw => copy_reads h hw) h hw
  refine ⟨_, L, rfl, ⟨ad, cap, rfl, fun h0 => ?_⟩, fun p hp => ?_⟩
  · obtain ⟨b, off, rfl, hc⟩ := hL h0
    refine ⟨b, off, rfl, fun k hk => ?_⟩
    obtain ⟨cs', ⟨ad1, cap1, rfl, hr, _⟩, hu⟩ := hc k hk
    exact ⟨ad1, cap1, hr, fun j u hj => hu j u (by rw [Array.getElem?_toList]; exact hj)⟩
  · obtain ⟨k, hk, rfl⟩ := List.getElem_of_mem hp
    obtain ⟨b, off, _, hc⟩ := hL (by omega)
    obtain ⟨cs', ⟨_, _, _, _, hi⟩, _⟩ := hc k hk
    exact hi
set_option maxRecDepth 100000 in
theorem sight_reads {n : Nat} {cs : List Value} {y : DataW H × List MemPlace} (h : DataW.trod enc Tryz.prog w 0 (fun _ => true) true n 52 cs = some y) (hw : (y.1.weights Tryz.prog 52).all (· ≤ reachBytes) = true) :
    ∃ (x : SightN) (vv bv hv mv pv : Value), cs = (sgV x vv bv hv mv pv).toList ∧ SgRd w x vv bv hv mv pv ∧ SgI64 x := by
  obtain ⟨xs, m, _, rfl, hl, hlen, hf⟩ := DataW.trod_struct Tryz.underlying52 h
  rw [cellsSgA] at hl
  match xs, hlen, cs, hl with
  | [y0, y1, y2, y3, y4, y5, y6, y7, y8, y9, y10, y11, y12], _, [c0, c1, c2, c3, c4, c5, c6, c7, c8, c9, c10, c11, c12], _ =>
    have g0 := hf 0 _ rfl
    have g1 := hf 1 _ rfl
    have g2 := hf 2 _ rfl
    have g3 := hf 3 _ rfl
    have g4 := hf 4 _ rfl
    have g5 := hf 5 _ rfl
    have g6 := hf 6 _ rfl
    have g7 := hf 7 _ rfl
    have g8 := hf 8 _ rfl
    have g9 := hf 9 _ rfl
    have g10 := hf 10 _ rfl
    have g11 := hf 11 _ rfl
    have g12 := hf 12 _ rfl
    simp [cellsIntA, cellsBoolA, cellsVecA, cellsIntsA, cellsDotsA, cellsPesA] at g0 g1 g2 g3 g4 g5 g6 g7 g8 g9 g10 g11 g12
    simp only [DataW.weights, Tryz.underlying52, List.map_cons, List.map_nil, DataW.weightsEach, List.all_append, Bool.and_eq_true] at hw
    obtain ⟨_, _, _, _, _, _, _, _, _, _, _, _, w12, _⟩ := hw
    obtain ⟨n0, e0, _, k0⟩ := DataW.trod_int Tryz.underlying3 g0
    obtain ⟨b1, e1, _⟩ := DataW.trod_bool Tryz.underlying4 g1
    obtain ⟨b2, e2, _⟩ := DataW.trod_bool Tryz.underlying4 g2
    obtain ⟨v3, n3, D3, e3, r3, k3⟩ := vec_reads g3
    obtain ⟨v4, n4, D4, e4, r4, k4⟩ := vec_reads g4
    obtain ⟨n5, e5, _, k5⟩ := DataW.trod_int Tryz.underlying3 g5
    obtain ⟨n6, e6, _, k6⟩ := DataW.trod_int Tryz.underlying3 g6
    obtain ⟨v7, n7, D7, e7, r7, k7⟩ := dots_reads g7
    obtain ⟨n8, e8, _, k8⟩ := DataW.trod_int Tryz.underlying3 g8
    obtain ⟨n9, e9, _, k9⟩ := DataW.trod_int Tryz.underlying3 g9
    obtain ⟨v10, n10, D10, e10, r10, k10⟩ := nums_reads g10
    obtain ⟨n11, e11, _, k11⟩ := DataW.trod_int Tryz.underlying3 g11
    obtain ⟨v12, L12, e12, r12, k12⟩ := peers_reads g12 w12
    simp at e0 e1 e2 e3 e4 e5 e6 e7 e8 e9 e10 e11 e12
    subst e0; subst e1; subst e2; subst e3; subst e4; subst e5; subst e6; subst e7; subst e8; subst e9; subst e10; subst e11; subst e12
    exact ⟨{ site := n0, act := b1, leav := b2, vec := D3, nv := n3, bas := D4, nb := n4, clk := n5, tick := n6, held := D7, nh := n7, log := n8, kept := n9, mem := D10, nm := n10, ep := n11, prs := L12 }, c3, c4, c7, c10, c12, rfl, ⟨r3, r4, r7, r10, r12⟩,
      i64_wf k0, i64_wf k5, i64_wf k6, i64_wf k8, i64_wf k9, i64_wf k11, k3, k4, k7, k10, k12⟩
set_option maxRecDepth 100000 in
theorem answer_reads {n : Nat} {cs : List Value} {y : DataW H × List MemPlace} (h : DataW.trod enc Tryz.prog w 0 (fun _ => true) true n 55 cs = some y) (hw : (y.1.weights Tryz.prog 55).all (· ≤ reachBytes) = true) :
    ∃ (x : AnsN) (xd xg vv xb hv mv pv cv : Value), cs = (anV x.err x.text x.op xd xg x.sg vv xb hv mv pv cv).toList ∧ OpRd w x.op xd xg ∧ SgRd w x.sg vv xb hv mv pv ∧ Cps w cv x.cps ∧ AnI x ∧ AnFit x := by
  obtain ⟨xs, m, _, rfl, hl, hlen, hf⟩ := DataW.trod_struct Tryz.underlying55 h
  rw [cellsAnA] at hl
  match xs, hlen, cs, hl with
  | [y0, y1, y2, y3, y4], _, [c0, c1, c2, c3, c4, c5, c6, c7, c8, c9, c10, c11, c12, c13, c14, c15, c16, c17, c18, c19, c20, c21, c22, c23, c24, c25, c26], _ =>
    have g0 := hf 0 _ rfl
    have g1 := hf 1 _ rfl
    have g2 := hf 2 _ rfl
    have g3 := hf 3 _ rfl
    have g4 := hf 4 _ rfl
    simp [cellsErA, cellsStrA, cellsOpA, cellsSgA, cellsCpsA] at g0 g1 g2 g3 g4
    simp only [DataW.weights, Tryz.underlying55, List.map_cons, List.map_nil, DataW.weightsEach, List.all_append, Bool.and_eq_true] at hw
    obtain ⟨_, _, _, w3, w4, _⟩ := hw
    obtain ⟨n0, e0, _, k0⟩ := DataW.trod_int Tryz.underlying24 g0
    obtain ⟨s1, e1, _, k1⟩ := DataW.trod_string Tryz.underlying9 g1
    obtain ⟨o2, dv, gv, e2, r2, k2⟩ := op_reads g2
    obtain ⟨x3, vv, bv, hv, mv, pv, e3, r3, k3⟩ := sight_reads g3 w3
    obtain ⟨v4, L4, e4, r4, k4⟩ := copies_reads g4 w4
    unfold opV at e2
    unfold sgV at e3
    simp at e0 e1 e2 e3 e4
    subst e0
    subst e1
    obtain ⟨rfl, rfl, rfl, rfl, rfl, rfl, rfl, rfl, rfl, rfl, rfl⟩ := e2
    obtain ⟨rfl, rfl, rfl, rfl, rfl, rfl, rfl, rfl, rfl, rfl, rfl, rfl, rfl⟩ := e3
    subst e4
    exact ⟨{ err := n0, text := s1, op := o2, sg := x3, cps := L4 }, c4, c11, c16, c17, c20, c23, c25, c26, rfl, r2, r3, r4, ⟨i64_wf k0, k2, k3, fun c hc => (k4 c hc).1⟩, fun c hc => (k4 c hc).2⟩
set_option maxRecDepth 100000 in
/-- AN ARGUMENT THAT IS A STEP, opened. -/
theorem open_step {v : Value} {d : DataW H} {ps : List MemPlace} {r : Reach} {b0 : Nat} (hv : Value.okWide Tryz.prog w r b0 40 v) (h : DataW.Trod enc Tryz.prog w 0 (fun _ => true) true 40 v d ps) (hw : (d.weights Tryz.prog 40).all (· ≤ reachBytes) = true) :
    ∃ (s : Stp) (dv bv : Value), v = .agg (stV s dv bv) ∧ StRd w s dv bv ∧ StpOk s ∧ StpFit s := by
  obtain ⟨cs, rfl, _⟩ := okWide_struct Tryz.underlying40 hv
  obtain ⟨fuel, hf⟩ := h
  obtain ⟨s, dv, bv, e, h1, h2, h3⟩ := step_reads (y := (d, ps)) hf hw
  have e' : cs = stV s dv bv := by simpa [Value.cells] using e
  subst e'
  exact ⟨s, dv, bv, rfl, h1, h2, h3⟩
set_option maxRecDepth 100000 in
/-- AN ARGUMENT THAT IS AN ANSWER, opened. -/
theorem open_answer {v : Value} {d : DataW H} {ps : List MemPlace} {r : Reach} {b0 : Nat} (hv : Value.okWide Tryz.prog w r b0 55 v) (h : DataW.Trod enc Tryz.prog w 0 (fun _ => true) true 55 v d ps) (hw : (d.weights Tryz.prog 55).all (· ≤ reachBytes) = true) :
    ∃ (x : AnsN) (xd xg vv xb hv mv pv cv : Value), v = .agg (anV x.err x.text x.op xd xg x.sg vv xb hv mv pv cv) ∧ OpRd w x.op xd xg ∧ SgRd w x.sg vv xb hv mv pv ∧ Cps w cv x.cps ∧ AnI x ∧ AnFit x := by
  obtain ⟨cs, rfl, _⟩ := okWide_struct Tryz.underlying55 hv
  obtain ⟨fuel, hf⟩ := h
  obtain ⟨x, xd, xg, vv, xb, hv', mv, pv, cv, e, h1, h2, h3, h4, h5⟩ := answer_reads (y := (d, ps)) hf hw
  have e' : cs = anV x.err x.text x.op xd xg x.sg vv xb hv' mv pv cv := by simpa [Value.cells] using e
  subst e'
  exact ⟨x, xd, xg, vv, xb, hv', mv, pv, cv, rfl, h1, h2, h3, h4, h5⟩
end
end Go.Proofs.YtbidppjhenfjdaaGreatDoor
namespace Go.Proofs.YtbidppjhenfjdaaGreatDoor
open Go.RowKit
set_option linter.unusedVariables false
set_option linter.unusedSimpArgs false

/-- The two boxes of the call: the answer, the sight. -/
def GrI (W : World) (an sb : Array Value) (wx : World) : Prop :=
  Keep [] W wx ∧ wx.heap[W.heap.size]? = some (.cells an 55 (0, 0)) ∧ wx.heap[W.heap.size + 1]? = some (.cells sb 52 (0, 0))
theorem tot_cps {L : List Cpy} {n : Nat} (h : ∀ k (hk : k < L.length), L[k].data.size ≤ n) : ∀ c ∈ L, c.data.size ≤ n := fun c hc => by
  obtain ⟨k, hk, rfl⟩ := List.getElem_of_mem hc
  exact h k hk
set_option maxHeartbeats 32000000 in
set_option maxRecDepth 100000 in
theorem great_any (x : AnsN) (xd xg vv xb hv mv pv cv : Value) (W : World)
    (ho : OpRd W x.op xd xg) (hsg : SgRd W x.sg vv xb hv mv pv) (hc : Cps W cv x.cps) (hft : AnFit x) :
    Calls Tryz.prog 15 #[.agg (anV x.err x.text x.op xd xg x.sg vv xb hv mv pv cv)] W fun e W' => Keep [] W W' ∧ ∃ b, e = .returned (.bool b) ∧ (b = false → AnFew x) := by
  obtain ⟨err, text, o, sg, cps⟩ := x
  simp only at ho hsg hc ⊢
  have HOP := Lib.hid ho
  have HSG := Lib.hid hsg
  have HC := Lib.hid hc
  have HFT := Lib.hid (show ∀ c ∈ cps, c.data.size ≤ 140737488355327 from hft)
  obtain ⟨add, capd, rfl⟩ := ho.1.1.empty
  obtain ⟨adg, capg, rfl⟩ := ho.2.1.empty
  obtain ⟨adv, capv, rfl⟩ := hsg.1.1.empty
  obtain ⟨adb, capb, rfl⟩ := hsg.2.1.1.empty
  obtain ⟨adh, caph, rfl⟩ := hsg.2.2.1.1.empty
  obtain ⟨adm, capm, rfl⟩ := hsg.2.2.2.1.1.empty
  obtain ⟨adp, capp, hpv, hpr0⟩ := id hsg.2.2.2.2
  subst hpv
  obtain ⟨adc, capc, hcv, hcp0⟩ := id hc
  subst hcv
  clear ho hsg hc hft hpr0 hcp0
  obtain ⟨n, hnl⟩ : ∃ n, n = cps.length := ⟨_, rfl⟩
  obtain ⟨ndd, hndd⟩ : ∃ ndd, ndd = o.nd := ⟨_, rfl⟩
  obtain ⟨ngg, hngg⟩ : ∃ ngg, ngg = o.ng := ⟨_, rfl⟩
  obtain ⟨nv, hnv⟩ : ∃ nv, nv = sg.nv := ⟨_, rfl⟩
  obtain ⟨nbb, hnbb⟩ : ∃ nbb, nbb = sg.nb := ⟨_, rfl⟩
  obtain ⟨nh, hnh⟩ : ∃ nh, nh = sg.nh := ⟨_, rfl⟩
  obtain ⟨nm, hnm⟩ : ∃ nm, nm = sg.nm := ⟨_, rfl⟩
  obtain ⟨np, hnp⟩ : ∃ np, np = sg.prs.length := ⟨_, rfl⟩
  obtain ⟨ot, hot⟩ : ∃ ot, ot = o.text := ⟨_, rfl⟩
  have HN := Lib.hid (show (n = cps.length ∧ ndd = o.nd ∧ ngg = o.ng ∧ nv = sg.nv) ∧ nbb = sg.nb ∧ nh = sg.nh ∧ nm = sg.nm ∧ np = sg.prs.length ∧ ot = o.text from ⟨⟨hnl, hndd, hngg, hnv⟩, hnbb, hnh, hnm, hnp, hot⟩)
  unfold anV ansV
  rw [← hndd, ← hngg] at HOP ⊢
  rw [← hnl] at HC ⊢
  rw [← hnv, ← hnbb, ← hnh, ← hnm, ← hnp] at HSG ⊢
  rw [← hot]
  clear hnl hndd hngg hnv hnbb hnh hnm hnp hot
  go_enter Tryz.func15, Tryz.ntmps15
  go_upto_region 2 with (fail)
  obtain ⟨an, han⟩ : ∃ an : Array Value, an = #[.int .i64 err, .string text, .int .i64 o.d1, .int .i64 o.d2, .slice add ndd capd, .int .i64 o.kind, .int .i64 o.i1, .int .i64 o.i2, .int .i64 o.r1, .int .i64 o.r2, .string ot, .slice adg ngg capg, .int .i64 o.site, .int .i64 sg.site, .bool sg.act, .bool sg.leav, .slice adv nv capv, .slice adb nbb capb, .int .i64 sg.clk, .int .i64 sg.tick, .slice adh nh caph, .int .i64 sg.log, .int .i64 sg.kept, .slice adm nm capm, .int .i64 sg.ep, .slice adp np capp, .slice adc n capc] := ⟨_, rfl⟩
  obtain ⟨sb, hsb⟩ : ∃ sb : Array Value, sb = #[.int .i64 sg.site, .bool sg.act, .bool sg.leav, .slice adv nv capv, .slice adb nbb capb, .int .i64 sg.clk, .int .i64 sg.tick, .slice adh nh caph, .int .i64 sg.log, .int .i64 sg.kept, .slice adm nm capm, .int .i64 sg.ep, .slice adp np capp] := ⟨_, rfl⟩
  obtain ⟨w1, hw1⟩ : ∃ w1, w1 = allocs W [.cells an 55, .cells sb 52] := ⟨_, rfl⟩
  have hI : GrI W an sb w1 := by
    have hat := fun i o (h : [Obj.cells an 55, .cells sb 52][i]? = some o) => allocs_at _ W i o h
    rw [hw1]
    exact ⟨allocs_keep _ _, hat 0 _ rfl, hat 1 _ rfl⟩
  have HI1 := Lib.hid hI
  have hw1' : (W.alloc (.cells an 55)).alloc (.cells sb 52) = w1 := hw1.symm
  rw [han, hsb] at hw1'
  rw [hw1']
  obtain ⟨G, hG⟩ : ∃ G, G = W.heap.size := ⟨_, rfl⟩
  rw [← hG]
  have HG := Lib.hid hG
  have HAN := Lib.hid han
  have HSB := Lib.hid hsb
  clear hI hw1 hw1' han hsb hG
  have c1 := cell_of_block HI1.out.2.1 1
  have c4 := cell_of_block HI1.out.2.1 4
  have c10 := cell_of_block HI1.out.2.1 10
  have c11 := cell_of_block HI1.out.2.1 11
  have c26 := cell_of_block HI1.out.2.1 26
  have s3 := cell_of_block HI1.out.2.2 3
  have s4 := cell_of_block HI1.out.2.2 4
  have s7 := cell_of_block HI1.out.2.2 7
  have s10 := cell_of_block HI1.out.2.2 10
  have s12 := cell_of_block HI1.out.2.2 12
  rw [HAN.out, ← HG.out] at c1 c4 c10 c11 c26
  simp at c1 c4 c10 c11 c26
  rw [HSB.out, ← HG.out] at s3 s4 s7 s10 s12
  simp at s3 s4 s7 s10 s12
  by_cases ht : 30000 < text.size
  · have f0 := dec_lt_t (show (30000 : Int) < (text.size : Int) by omega)
    have e0 := dec_ltn_t ht
    clear ht
    go_wp2
    go_ret
    exact ⟨HI1.out.1, true, rfl, fun h => by cases h⟩
  have f0 := dec_lt_f (show ¬ (30000 : Int) < (text.size : Int) by omega)
  have e0 := dec_ltn_f ht
  have Hht := Lib.hid (Nat.le_of_not_lt ht)
  clear ht
  by_cases hn : 60 < n
  · have f1 := dec_lt_t (show (60 : Int) < (n : Int) by omega)
    have e1 := dec_ltn_t hn
    clear hn
    go_wp2
    go_ret
    exact ⟨HI1.out.1, true, rfl, fun h => by cases h⟩
  have f1 := dec_lt_f (show ¬ (60 : Int) < (n : Int) by omega)
  have e1 := dec_ltn_f hn
  have Hhn := Lib.hid (Nat.le_of_not_lt hn)
  clear hn
  by_cases hd : 400 < ndd
  · have f2 := dec_lt_t (show (400 : Int) < (ndd : Int) by omega)
    have e2 := dec_ltn_t hd
    clear hd
    go_wp2
    go_ret
    exact ⟨HI1.out.1, true, rfl, fun h => by cases h⟩
  have f2 := dec_lt_f (show ¬ (400 : Int) < (ndd : Int) by omega)
  have e2 := dec_ltn_f hd
  have Hhd := Lib.hid (Nat.le_of_not_lt hd)
  clear hd
  by_cases hg : 400 < ngg
  · have f3 := dec_lt_t (show (400 : Int) < (ngg : Int) by omega)
    have e3 := dec_ltn_t hg
    clear hg
    go_wp2
    go_ret
    exact ⟨HI1.out.1, true, rfl, fun h => by cases h⟩
  have f3 := dec_lt_f (show ¬ (400 : Int) < (ngg : Int) by omega)
  have e3 := dec_ltn_f hg
  have Hhg := Lib.hid (Nat.le_of_not_lt hg)
  clear hg
  by_cases ho : 30000 < ot.size
  · have f4 := dec_lt_t (show (30000 : Int) < (ot.size : Int) by omega)
    have e4 := dec_ltn_t ho
    clear ho
    go_wp2
    go_ret
    exact ⟨HI1.out.1, true, rfl, fun h => by cases h⟩
  have f4 := dec_lt_f (show ¬ (30000 : Int) < (ot.size : Int) by omega)
  have e4 := dec_ltn_f ho
  have Hho := Lib.hid (Nat.le_of_not_lt ho)
  clear ho
  by_cases hv : 400 < nv
  · have f5 := dec_lt_t (show (400 : Int) < (nv : Int) by omega)
    have e5 := dec_ltn_t hv
    clear hv
    go_wp2
    go_ret
    exact ⟨HI1.out.1, true, rfl, fun h => by cases h⟩
  have f5 := dec_lt_f (show ¬ (400 : Int) < (nv : Int) by omega)
  have e5 := dec_ltn_f hv
  have Hhv := Lib.hid (Nat.le_of_not_lt hv)
  clear hv
  by_cases hb : 400 < nbb
  · have f6 := dec_lt_t (show (400 : Int) < (nbb : Int) by omega)
    have e6 := dec_ltn_t hb
    clear hb
    go_wp2
    go_ret
    exact ⟨HI1.out.1, true, rfl, fun h => by cases h⟩
  have f6 := dec_lt_f (show ¬ (400 : Int) < (nbb : Int) by omega)
  have e6 := dec_ltn_f hb
  have Hhb := Lib.hid (Nat.le_of_not_lt hb)
  clear hb
  by_cases hh : 400 < nh
  · have f7 := dec_lt_t (show (400 : Int) < (nh : Int) by omega)
    have e7 := dec_ltn_t hh
    clear hh
    go_wp2
    go_ret
    exact ⟨HI1.out.1, true, rfl, fun h => by cases h⟩
  have f7 := dec_lt_f (show ¬ (400 : Int) < (nh : Int) by omega)
  have e7 := dec_ltn_f hh
  have Hhh := Lib.hid (Nat.le_of_not_lt hh)
  clear hh
  by_cases hm : 400 < nm
  · have f8 := dec_lt_t (show (400 : Int) < (nm : Int) by omega)
    have e8 := dec_ltn_t hm
    clear hm
    go_wp2
    go_ret
    exact ⟨HI1.out.1, true, rfl, fun h => by cases h⟩
  have f8 := dec_lt_f (show ¬ (400 : Int) < (nm : Int) by omega)
  have e8 := dec_ltn_f hm
  have Hhm := Lib.hid (Nat.le_of_not_lt hm)
  clear hm
  by_cases hp : 40 < np
  · have f9 := dec_lt_t (show (40 : Int) < (np : Int) by omega)
    have e9 := dec_ltn_t hp
    clear hp
    go_wp2
    go_ret
    exact ⟨HI1.out.1, true, rfl, fun h => by cases h⟩
  have f9 := dec_lt_f (show ¬ (40 : Int) < (np : Int) by omega)
  have e9 := dec_ltn_f hp
  have Hhp := Lib.hid (Nat.le_of_not_lt hp)
  clear hp
  go_upto_region 4 with (fail)
  clear f0 e0 f1 e1 f2 e2 f3 e3 f4 e4 f5 e5 f6 e6 f7 e7 f8 e8 f9 e9 c1 c4 c10 c11 s3 s4 s7 s10 c26 s12
  go_upto_region 6 with (fail)
  go_loopw [4, 5] (fun mv iv wr => ∃ k m : Nat, mv = .int .i64 m ∧ iv = .int .i64 k ∧ k ≤ n ∧ m ≤ 30000 ∧ (∀ j (hj : j < cps.length), j < k → cps[j].data.size ≤ m) ∧ GrI W an sb wr) (fun _ iv _ => n - (intOf iv).toNat)
  case atStart => exact ⟨0, 0, rfl, rfl, Nat.zero_le _, Nat.zero_le _, fun j _ hj => absurd hj (Nat.not_lt_zero _), HI1.out⟩
  case round =>
    rename World => wr
    obtain ⟨k, m, rfl, rfl, hk, hm, hfew, hir⟩ := hrel
    have HFEW := Lib.hid hfew
    have HIR := Lib.hid hir
    clear hfew hir HI1
    have c26 := cell_of_block HIR.out.2.1 26
    rw [HAN.out, ← HG.out] at c26
    simp at c26
    have hn60 : n ≤ 60 := Hhn.out
    by_cases hlt : k < n
    · have HLT := Lib.hid hlt
      have g1 := dec_lt_t (show (k : Int) < (n : Int) by omega)
      have g2 := dec_ltn_t hlt
      have hkL : k < cps.length := by rw [← HN.out.1.1]; exact hlt
      obtain ⟨ad9, cap9, hav, hel⟩ := HC.out.keep0 HIR.out.1
      injection hav with e1 e2 e3
      subst e1
      clear e2 e3
      obtain ⟨gb, off, e, hel2⟩ := hel (by omega)
      subst e
      obtain ⟨ad1, cap1, hrd, hcl⟩ := hel2 k hkL
      have hft := HFT.out _ (List.getElem_mem hkL)
      have HNX := Lib.hid (fun (m' : Nat) (h1 : m ≤ m') (hs : cps[k].data.size ≤ m') => show ∀ j (hj : j < cps.length), j < k + 1 → cps[j].data.size ≤ m' from fun j hj hjk => by
        by_cases e : j = k
        · subst e; exact hs
        · exact Nat.le_trans (HFEW.out j hj (by omega)) h1)
      obtain ⟨nb, hnb⟩ : ∃ nb, nb = cps[k].data.size := ⟨_, rfl⟩
      rw [← hnb] at hft HNX
      have c3 : wr.cell? ⟨gb, off + k * 6 + 3, none⟩ = some (.slice ad1 nb cap1) := by
        rw [hnb]
        exact hcl 3 _ rfl
      clear hel hel2 hcl hrd hkL hnb
      have hw1 : IntKind.i64.wrap ((m : Int) + (nb : Int)) = (m : Int) + (nb : Int) := by rw [IntKind.wrap_i64]; omega
      by_cases h2 : m + nb ≤ 30000
      · have g5 := dec_lt_f (show ¬ (30000 : Int) < (m : Int) + (nb : Int) by omega)
        have HM9 := Lib.hid h2
        clear h2 hft hm
        go_wp2
        go_roundw
        case rel => exact ⟨k + 1, m + nb, by go_num, by go_num, by have := HLT.out; omega, HM9.out, HNX.out _ (by omega) (by omega), HIR.out⟩
        case measure => have := HLT.out; simp [intOf]; omega
      · have g5 := dec_lt_t (show (30000 : Int) < (m : Int) + (nb : Int) by omega)
        clear h2 hm
        go_wp2
        go_ret
        exact ⟨HIR.out.1, true, rfl, fun h => by cases h⟩
    · obtain rfl : k = n := by omega
      have g1 := dec_lt_f (show ¬ (k : Int) < (k : Int) by omega)
      have g2 := dec_ltn_f hlt
      have HDA := Lib.hid (show ∀ c ∈ cps, c.data.size ≤ 30000 from tot_cps fun j hj => by
        have := HFEW.out j hj (by rw [HN.out.1.1]; exact hj)
        omega)
      clear hlt HFEW
      go_upto_region 11 with (fail)
      clear c26 g1 g2
      go_upto_region 12 with (fail)
      go_loopw [6] (fun iv wr => ∃ j : Nat, iv = .int .i64 j ∧ j ≤ np ∧ (∀ i (hi : i < sg.prs.length), i < j → PeerFew sg.prs[i]) ∧ GrI W an sb wr) (fun iv _ => np - (intOf iv).toNat)
      case atStart => exact ⟨0, rfl, Nat.zero_le _, fun i _ hi => absurd hi (Nat.not_lt_zero _), HIR.out⟩
      case round =>
        rename_i HIR0 _ _ _ _ _ _
        rename World => wq
        obtain ⟨j, rfl, hj, hfew, hir⟩ := hrel
        have HFEW := Lib.hid hfew
        have HIQ := Lib.hid hir
        clear hfew hir
        have s12 := cell_of_block HIQ.out.2.2 12
        rw [HSB.out, ← HG.out] at s12
        simp at s12
        have hp40 : np ≤ 40 := Hhp.out
        by_cases hlt : j < np
        · have HLT := Lib.hid hlt
          have g1 := dec_lt_t (show (j : Int) < (np : Int) by omega)
          have g2 := dec_ltn_t hlt
          have hjL : j < sg.prs.length := by rw [← HN.out.2.2.2.2.1]; exact hlt
          obtain ⟨ad9, cap9, hav, hel⟩ := HSG.out.2.2.2.2.keep0 HIQ.out.1
          injection hav with e1 e2 e3
          subst e1
          clear e2 e3
          obtain ⟨gb, off, e, hel2⟩ := hel (by omega)
          subst e
          obtain ⟨rv, uv, fv, hrd, hcl⟩ := hel2 j hjL
          have HNX := Lib.hid (fun (hs : PeerFew sg.prs[j]) => show ∀ i (hi : i < sg.prs.length), i < j + 1 → PeerFew sg.prs[i] from fun i hi hij => by
            by_cases e : i = j
            · subst e; exact hs
            · exact HFEW.out i hi (by omega))
          generalize sg.prs[j] = p at hrd hcl HNX
          obtain ⟨ad2, cap2, rfl⟩ := hrd.1.1.empty
          obtain ⟨ad3, cap3, rfl⟩ := hrd.2.1.1.empty
          obtain ⟨ad4, cap4, rfl⟩ := hrd.2.2.1.empty
          have k2 : wq.cell? ⟨gb, off + j * 9 + 2, none⟩ = some (.slice ad2 p.nr cap2) := hcl 2 _ rfl
          have k3 : wq.cell? ⟨gb, off + j * 9 + 3, none⟩ = some (.slice ad3 p.nu cap3) := hcl 3 _ rfl
          have k4 : wq.cell? ⟨gb, off + j * 9 + 4, none⟩ = some (.slice ad4 p.nf cap4) := hcl 4 _ rfl
          unfold PeerFew at HNX
          obtain ⟨pr, hpr⟩ : ∃ pr, pr = p.nr := ⟨_, rfl⟩
          obtain ⟨pu, hpu⟩ : ∃ pu, pu = p.nu := ⟨_, rfl⟩
          obtain ⟨pf, hpf⟩ : ∃ pf, pf = p.nf := ⟨_, rfl⟩
          rw [← hpr] at k2
          rw [← hpu] at k3
          rw [← hpf] at k4
          rw [← hpr, ← hpu, ← hpf] at HNX
          clear hel hel2 hcl hrd hjL hpr hpu hpf hlt hj
          by_cases q1 : 400 < pr
          · have f0 := dec_lt_t (show (400 : Int) < (pr : Int) by omega)
            have e0 := dec_ltn_t q1
            clear q1
            go_wp2
            go_ret
            exact ⟨HIQ.out.1, true, rfl, fun h => by cases h⟩
          have f0 := dec_lt_f (show ¬ (400 : Int) < (pr : Int) by omega)
          have e0 := dec_ltn_f q1
          have Hq1 := Lib.hid (Nat.le_of_not_lt q1)
          clear q1
          by_cases q2 : 400 < pu
          · have f1 := dec_lt_t (show (400 : Int) < (pu : Int) by omega)
            have e1 := dec_ltn_t q2
            clear q2
            go_wp2
            go_ret
            exact ⟨HIQ.out.1, true, rfl, fun h => by cases h⟩
          have f1 := dec_lt_f (show ¬ (400 : Int) < (pu : Int) by omega)
          have e1 := dec_ltn_f q2
          have Hq2 := Lib.hid (Nat.le_of_not_lt q2)
          clear q2
          by_cases q3 : 400 < pf
          · have f2 := dec_lt_t (show (400 : Int) < (pf : Int) by omega)
            have e2 := dec_ltn_t q3
            clear q3
            go_wp2
            go_ret
            exact ⟨HIQ.out.1, true, rfl, fun h => by cases h⟩
          have f2 := dec_lt_f (show ¬ (400 : Int) < (pf : Int) by omega)
          have e2 := dec_ltn_f q3
          have Hq3 := Lib.hid (Nat.le_of_not_lt q3)
          clear q3
          go_wp2
          go_roundw
          case rel => exact ⟨j + 1, by go_num, by have := HLT.out; omega, HNX.out ⟨Hq1.out, Hq2.out, Hq3.out⟩, HIQ.out⟩
          case measure => have := HLT.out; simp [intOf]; omega
        · obtain rfl : j = np := by omega
          have g1 := dec_lt_f (show ¬ (j : Int) < (j : Int) by omega)
          have g2 := dec_ltn_f hlt
          have HPR := Lib.hid (show ∀ p ∈ sg.prs, PeerFew p from fun p hp => by
            obtain ⟨i, hi, rfl⟩ := List.getElem_of_mem hp
            exact HFEW.out i hi (by rw [HN.out.2.2.2.2.1]; exact hi))
          clear hlt
          go_wp2
          go_ret
          obtain ⟨⟨a1, a2, a3, a4⟩, a5, a6, a7, a8, a9⟩ := HN.out
          refine ⟨HIQ.out.1, false, rfl, fun _ => ⟨Hht.out, ?_, ?_, ?_, ?_, ?_, ?_, ?_, ?_, ?_, HDA.out, HPR.out⟩⟩
          · show cps.length ≤ 60; rw [← a1]; exact Hhn.out
          · show o.nd ≤ 400; rw [← a2]; exact Hhd.out
          · show o.ng ≤ 400; rw [← a3]; exact Hhg.out
          · show o.text.size ≤ 30000; rw [← a9]; exact Hho.out
          · show sg.nv ≤ 400; rw [← a4]; exact Hhv.out
          · show sg.nb ≤ 400; rw [← a5]; exact Hhb.out
          · show sg.nh ≤ 400; rw [← a6]; exact Hhh.out
          · show sg.nm ≤ 400; rw [← a7]; exact Hhm.out
          · show sg.prs.length ≤ 40; rw [← a8]; exact Hhp.out
end Go.Proofs.YtbidppjhenfjdaaGreatDoor
namespace Go.Proofs.YtbidppjhenfjdaaGreatDoor
open Go.RowKit
set_option linter.unusedVariables false
set_option linter.unusedSimpArgs false

/-- The two boxes of the call: the step, the answer. -/
def StI (W : World) (st an : Array Value) (wx : World) : Prop :=
  Keep [] W wx ∧ wx.heap[W.heap.size]? = some (.cells st 40 (0, 0)) ∧ wx.heap[W.heap.size + 1]? = some (.cells an 55 (0, 0)) ∧ W.heap.size + 2 ≤ wx.heap.size
theorem StI.keep {W wx w' : World} {st an : Array Value} (h : StI W st an wx) (k : Keep [] wx w') : StI W st an w' := ⟨h.1.trans0 k, k.at_ h.2.1 (by simp), k.at_ h.2.2.1 (by simp), by have := k.size; have := h.2.2.2; omega⟩
theorem steps_one {w : World} {s : Stp} {dv bv : Value} {g : Nat} {f : Nat × Nat} (hr : StRd w s dv bv) (hg : w.heap[g]? = some (.cells (stV s dv bv) 40 f)) : Steps w (.slice (some ⟨g, 0, none⟩) 1 1) [s] := by
  refine ⟨some ⟨g, 0, none⟩, 1, rfl, fun _ => ⟨g, 0, rfl, fun k s' hk => ?_⟩, fun h => (by cases h), Nat.le_refl _⟩
  match k, hk with
  | 0, hk =>
    obtain rfl : s = s' := by simpa using hk
    refine ⟨dv, bv, hr, fun j u hu => ?_⟩
    rw [show 0 + (0 * 9 + j) = j by omega, cell_of_block hg]
    exact hu
  | k + 1, hk => simp at hk
theorem oper_load_eq {P : Program} {o : Oper} {a : Act} {w w' : World} {K : Act → World → Prop} {Q : Exit → Act → World → Prop} (ty : TypeId) (x : Operand) (ho : o.op = .load ty x) {v : Value} (hr : (Instr.loadAt ty (a.eval x)).run P w = .ok v w') (h : K (a.put o.dst v) w') : o.wp P a w K Q := by
  unfold Oper.wp execOp
  simp only [ho, hr, Sem.run_bind, Sem.run_pure, Result.andThen_ok]
  exact h
theorem an_load {w : World} {g : Nat} {an : Array Value} {f : Nat × Nat} (hg : w.heap[g]? = some (.cells an 55 f)) (hn : an.size = 27) : (Instr.loadAt 55 (.pointer (some ⟨g, 0, none⟩))).run Tryz.prog w = .ok (.agg an) w :=
  load_row Tryz.underlying55 rfl (by kernel_rfl) hg hn
set_option maxHeartbeats 32000000 in
set_option maxRecDepth 100000 in
theorem scriptTells_walk (s : Stp) (dv bv : Value) (x : AnsN) (xd xg vv xb hv mv pv cv : Value) (W : World)
    (h : StRd W s dv bv) (hok : StpOk s) (hft : StpFit s) (ho : OpRd W x.op xd xg) (hsg : SgRd W x.sg vv xb hv mv pv) (hc : Cps W cv x.cps) (hi : AnI x) (haf : AnFit x) (hT : TQ W) :
    Calls Tryz.prog 5 #[.agg (stV s dv bv), .agg (anV x.err x.text x.op xd xg x.sg vv xb hv mv pv cv)] W fun e W' => e = .returned (.bool true) ∧ Keep [] W W' := by
  obtain ⟨err, text, o, sg, cps⟩ := x
  simp only at ho hsg hc ⊢
  have HRD := Lib.hid h
  have HOK := Lib.hid hok
  have HFT := Lib.hid hft
  have HOP := Lib.hid ho
  have HSG := Lib.hid hsg
  have HC := Lib.hid hc
  have HI := Lib.hid hi
  have HAF := Lib.hid haf
  have HT := Lib.hid hT
  obtain ⟨ad1, cap1, hdv⟩ := h.1.empty
  obtain ⟨ad2, cap2, hbv⟩ := h.2.empty
  subst hdv
  subst hbv
  obtain ⟨add, capd, rfl⟩ := ho.1.1.empty
  obtain ⟨adg, capg, rfl⟩ := ho.2.1.empty
  obtain ⟨adv, capv, rfl⟩ := hsg.1.1.empty
  obtain ⟨adb, capb, rfl⟩ := hsg.2.1.1.empty
  obtain ⟨adh, caph, rfl⟩ := hsg.2.2.1.1.empty
  obtain ⟨adm, capm, rfl⟩ := hsg.2.2.2.1.1.empty
  obtain ⟨adp, capp, hpv, hpr0⟩ := id hsg.2.2.2.2
  subst hpv
  obtain ⟨adc, capc, hcv, hcp0⟩ := id hc
  subst hcv
  clear h hok hft ho hsg hc hi haf hT hpr0 hcp0
  obtain ⟨nd, hnd⟩ : ∃ nd, nd = s.draws.length := ⟨_, rfl⟩
  obtain ⟨nb, hnb⟩ : ∃ nb, nb = s.data.size := ⟨_, rfl⟩
  obtain ⟨n, hnl⟩ : ∃ n, n = cps.length := ⟨_, rfl⟩
  obtain ⟨ndd, hndd⟩ : ∃ ndd, ndd = o.nd := ⟨_, rfl⟩
  obtain ⟨ngg, hngg⟩ : ∃ ngg, ngg = o.ng := ⟨_, rfl⟩
  obtain ⟨nv, hnv⟩ : ∃ nv, nv = sg.nv := ⟨_, rfl⟩
  obtain ⟨nbb, hnbb⟩ : ∃ nbb, nbb = sg.nb := ⟨_, rfl⟩
  obtain ⟨nh, hnh⟩ : ∃ nh, nh = sg.nh := ⟨_, rfl⟩
  obtain ⟨nm, hnm⟩ : ∃ nm, nm = sg.nm := ⟨_, rfl⟩
  obtain ⟨np, hnp⟩ : ∃ np, np = sg.prs.length := ⟨_, rfl⟩
  rw [← hnd, ← hnb] at HRD ⊢
  rw [← hnl] at HC ⊢
  rw [← hndd, ← hngg] at HOP ⊢
  rw [← hnv, ← hnbb, ← hnh, ← hnm, ← hnp] at HSG ⊢
  clear hnd hnb hnl hndd hngg hnv hnbb hnh hnm hnp
  have HSTV := Lib.hid (show stV s (.slice ad1 nd cap1) (.slice ad2 nb cap2) = #[.int .i64 s.kind, .int .i64 s.site, .int .i64 s.peer, .int .i64 s.unit, .int .i64 s.at_, .int .i64 s.n, .string s.text, .slice ad1 nd cap1, .slice ad2 nb cap2] from rfl)
  obtain ⟨an, han⟩ : ∃ an : Array Value, an = anV err text o (.slice add ndd capd) (.slice adg ngg capg) sg (.slice adv nv capv) (.slice adb nbb capb) (.slice adh nh caph) (.slice adm nm capm) (.slice adp np capp) (.slice adc n capc) := ⟨_, rfl⟩
  rw [← han]
  have HAN := Lib.hid han
  have HAS := Lib.hid (show an.size = 27 by rw [han]; rfl)
  clear han
  unfold stV
  go_enter Tryz.func5, Tryz.ntmps5
  go_upto_region 1 with (fail)
  obtain ⟨st, hst⟩ : ∃ st : Array Value, st = #[.int .i64 s.kind, .int .i64 s.site, .int .i64 s.peer, .int .i64 s.unit, .int .i64 s.at_, .int .i64 s.n, .string s.text, .slice ad1 nd cap1, .slice ad2 nb cap2] := ⟨_, rfl⟩
  obtain ⟨w1, hw1⟩ : ∃ w1, w1 = allocs W [.cells st 40, .cells an 55] := ⟨_, rfl⟩
  have hI : StI W st an w1 := by
    have hat := fun i o (h : [Obj.cells st 40, .cells an 55][i]? = some o) => allocs_at _ W i o h
    rw [hw1]
    refine ⟨allocs_keep _ _, hat 0 _ rfl, hat 1 _ rfl, ?_⟩
    rw [allocs_size]
    exact Nat.le_refl _
  have HI1 := Lib.hid hI
  have hw1' : (W.alloc (.cells st 40)).alloc (.cells an 55) = w1 := hw1.symm
  rw [hst] at hw1'
  rw [hw1']
  obtain ⟨G, hG⟩ : ∃ G, G = W.heap.size := ⟨_, rfl⟩
  rw [← hG]
  have HG := Lib.hid hG
  have HST := Lib.hid hst
  clear hI hw1 hw1' hst hG
  have c0 := cell_of_block HI1.out.2.1 0
  have c1 := cell_of_block HI1.out.2.1 1
  have c2 := cell_of_block HI1.out.2.1 2
  have c3 := cell_of_block HI1.out.2.1 3
  have c4 := cell_of_block HI1.out.2.1 4
  have c5 := cell_of_block HI1.out.2.1 5
  have c6 := cell_of_block HI1.out.2.1 6
  have c7 := cell_of_block HI1.out.2.1 7
  have c8 := cell_of_block HI1.out.2.1 8
  rw [HST.out, ← HG.out] at c0 c1 c2 c3 c4 c5 c6 c7 c8
  simp at c0 c1 c2 c3 c4 c5 c6 c7 c8
  go_wp2_with fail
  clear c0 c1 c2 c3 c4 c5 c6 c7 c8
  obtain ⟨w2, hw2⟩ : ∃ w2, w2 = w1.alloc (.cells #[.int .i64 s.kind, .int .i64 s.site, .int .i64 s.peer, .int .i64 s.unit, .int .i64 s.at_, .int .i64 s.n, .string s.text, .slice ad1 nd cap1, .slice ad2 nb cap2] 40) := ⟨_, rfl⟩
  have hk2 : Keep [] w1 w2 := by rw [hw2]; exact (Keep.refl _ _).alloc _
  have hb2 : w2.heap[w1.heap.size]? = some (.cells #[.int .i64 s.kind, .int .i64 s.site, .int .i64 s.peer, .int .i64 s.unit, .int .i64 s.at_, .int .i64 s.n, .string s.text, .slice ad1 nd cap1, .slice ad2 nb cap2] 40 (0, 0)) := by rw [hw2]; exact World.alloc_heap_new w1 _
  rw [← HSTV.out] at hb2
  have HI2 := Lib.hid (HI1.out.keep hk2)
  have hss := steps_one (HRD.out.keep0 HI2.out.1) hb2
  rw [← hw2]
  obtain ⟨g1, hg1⟩ : ∃ g1, g1 = w1.heap.size := ⟨_, rfl⟩
  rw [← hg1] at hss ⊢
  clear hw2 hk2 hb2 hg1 HI1
  refine (much_any _ [s] w2 hss (fun s' hs => by rw [List.mem_singleton.1 hs]; exact HFT.out)).mono ?_
  clear hss
  rintro e w3 ⟨hk3, b1, rfl, hb1⟩
  have HI3 := Lib.hid (HI2.out.keep hk3)
  have HB1 := Lib.hid hb1
  clear hk3 hb1 HI2
  cases b1 with
  | true =>
    go_wp2_with fail
    refine (known_true w3 (HT.out.keep0 HI3.out.1)).mono ?_
    rintro e w9 ⟨rfl, hk9⟩
    have HK9 := Lib.hid (HI3.out.1.trans0 hk9)
    clear hk9
    go_wp2
    go_ret
    exact ⟨rfl, HK9.out⟩
  | false =>
  have HFW := Lib.hid (HB1.out rfl)
  have HSM := Lib.hid (show StpSmall s from by
    obtain ⟨a, b, c⟩ := HFW.out.2.1 s (by simp)
    exact ⟨by omega, by omega, by omega⟩)
  clear HB1
  have hgr := great_any ⟨err, text, o, sg, cps⟩ _ _ _ _ _ _ _ _ w3 (HOP.out.keep0 HI3.out.1) (HSG.out.keep0 HI3.out.1) (HC.out.keep0 HI3.out.1) HAF.out
  rw [← HAN.out] at hgr
  have HGR := Lib.hid hgr
  clear hgr
  have ldb := HI3.out.2.2.1
  rw [← HG.out] at ldb
  go_wp2_with (with_reducible refine park_load 3 _ rfl ?_)
  refine wpList_load_eq rfl 55 (.tmp 3) rfl (an_load ldb HAS.out) ?_
  clear ldb
  go_wp2_with fail
  refine HGR.out.mono ?_
  clear HGR
  rintro e w4 ⟨hk4, b2, rfl, hb2⟩
  have HI4 := Lib.hid (HI3.out.keep hk4)
  have HB2 := Lib.hid hb2
  clear hk4 hb2 HI3
  cases b2 with
  | true =>
    go_wp2_with fail
    refine (known_true w4 (HT.out.keep0 HI4.out.1)).mono ?_
    rintro e w9 ⟨rfl, hk9⟩
    have HK9 := Lib.hid (HI4.out.1.trans0 hk9)
    clear hk9
    go_wp2
    go_ret
    exact ⟨rfl, HK9.out⟩
  | false =>
  have HAW := Lib.hid (HB2.out rfl)
  have HAO := Lib.hid (AnOk.of_few HI.out HAW.out)
  have HZ := Lib.hid (tellB_small HOK.out HSM.out HOP.out HSG.out HI.out HAW.out)
  clear HB2
  go_upto_region 3 with (fail)
  obtain ⟨tb, htb⟩ : ∃ tb, tb = tellB s ⟨err, text, o, sg, cps⟩ := ⟨_, rfl⟩
  have HTB := Lib.hid htb
  have hss : (tb.toList == tb.toList) = true := by simp
  clear htb
  refine wp_plan (StI W st an) (.take 0 (.take 1 (.take 3 (.take 4 (.force 2 (.force 5 (.force 6 (.force 7 (.force 8 (.force 9 (.force 10 .done))))))))))) (by kernel_rfl) (by kernel_rfl) (HI4.out.keep ((Keep.refl _ _).drew)) ?_
  intro Q0 hQ0
  refine plan_takeL rfl rfl (.agg #[.int .i64 s.kind, .int .i64 s.site, .int .i64 s.peer, .int .i64 s.unit, .int .i64 s.at_, .int .i64 s.n, .string s.text, .slice ad1 nd cap1, .slice ad2 nb cap2]) ?_ ?_
  · intro w' hw' K Q hK
    have c0 := cell_of_block hw'.2.1 0
    have c1 := cell_of_block hw'.2.1 1
    have c2 := cell_of_block hw'.2.1 2
    have c3 := cell_of_block hw'.2.1 3
    have c4 := cell_of_block hw'.2.1 4
    have c5 := cell_of_block hw'.2.1 5
    have c6 := cell_of_block hw'.2.1 6
    have c7 := cell_of_block hw'.2.1 7
    have c8 := cell_of_block hw'.2.1 8
    rw [HST.out, ← HG.out] at c0 c1 c2 c3 c4 c5 c6 c7 c8
    simp at c0 c1 c2 c3 c4 c5 c6 c7 c8
    go_simp
    exact hK
  try simp only [Act.put, List.setIfInBounds_toArray, List.set_cons_succ, List.set_cons_zero]
  refine plan_takeL rfl rfl (.agg an) ?_ ?_
  · intro w' hw' K Q hK
    have ldb := hw'.2.2.1
    rw [← HG.out] at ldb
    exact oper_load_eq 55 (.tmp 3) rfl (an_load ldb HAS.out) hK
  try simp only [Act.put, List.setIfInBounds_toArray, List.set_cons_succ, List.set_cons_zero]
  refine plan_takeL rfl rfl (.agg #[.int .i64 s.kind, .int .i64 s.site, .int .i64 s.peer, .int .i64 s.unit, .int .i64 s.at_, .int .i64 s.n, .string s.text, .slice ad1 nd cap1, .slice ad2 nb cap2]) ?_ ?_
  · intro w' hw' K Q hK
    have c0 := cell_of_block hw'.2.1 0
    have c1 := cell_of_block hw'.2.1 1
    have c2 := cell_of_block hw'.2.1 2
    have c3 := cell_of_block hw'.2.1 3
    have c4 := cell_of_block hw'.2.1 4
    have c5 := cell_of_block hw'.2.1 5
    have c6 := cell_of_block hw'.2.1 6
    have c7 := cell_of_block hw'.2.1 7
    have c8 := cell_of_block hw'.2.1 8
    rw [HST.out, ← HG.out] at c0 c1 c2 c3 c4 c5 c6 c7 c8
    simp at c0 c1 c2 c3 c4 c5 c6 c7 c8
    go_simp
    exact hK
  try simp only [Act.put, List.setIfInBounds_toArray, List.set_cons_succ, List.set_cons_zero]
  refine plan_takeL rfl rfl (.agg an) ?_ ?_
  · intro w' hw' K Q hK
    have ldb := hw'.2.2.1
    rw [← HG.out] at ldb
    exact oper_load_eq 55 (.tmp 3) rfl (an_load ldb HAS.out) hK
  try simp only [Act.put, List.setIfInBounds_toArray, List.set_cons_succ, List.set_cons_zero]
  refine plan_forceL rfl rfl fun K hK => ?_
  have hte := tell_any s _ _ ⟨err, text, o, sg, cps⟩ _ _ _ _ _ _ _ _ _ (HRD.out.keep0 HI4.out.1.drew) HOK.out HSM.out (HOP.out.keep0 HI4.out.1.drew) (HSG.out.keep0 HI4.out.1.drew) (HC.out.keep0 HI4.out.1.drew) HAO.out HZ.out (HT.out.keep0 HI4.out.1.drew)
  rw [← HAN.out, HSTV.out] at hte
  have HTE := Lib.hid hte
  clear hte
  go_simp
  refine HTE.out.mono ?_
  clear HTE
  rintro e w5 ⟨rfl, hk5⟩
  have HI5 := Lib.hid ((HI4.out.keep ((Keep.refl [] _).drew)).keep hk5)
  rw [← HTB.out]
  refine hK _ _ HI5.out ?_
  clear hK K hk5
  try simp only [Act.put, List.setIfInBounds_toArray, List.set_cons_succ, List.set_cons_zero]
  refine plan_forceL rfl rfl fun K hK => ?_
  have hte := rtell_any s _ _ ⟨err, text, o, sg, cps⟩ _ _ _ _ _ _ _ _ _ (HRD.out.keep0 HI5.out.1) HOK.out HSM.out (HOP.out.keep0 HI5.out.1) (HSG.out.keep0 HI5.out.1) (HC.out.keep0 HI5.out.1) HAO.out HZ.out (HT.out.keep0 HI5.out.1)
  rw [← HAN.out, HSTV.out] at hte
  have HTE := Lib.hid hte
  clear hte
  go_simp
  refine HTE.out.mono ?_
  clear HTE
  rintro e w6 ⟨rfl, hk6⟩
  have HI6 := Lib.hid (HI5.out.keep hk6)
  rw [← HTB.out]
  refine hK _ _ HI6.out ?_
  clear hK K hk6
  try simp only [Act.put, List.setIfInBounds_toArray, List.set_cons_succ, List.set_cons_zero]
  refine plan_forceL rfl rfl fun K hK => ?_
  go_simp
  refine hK _ _ HI6.out ?_
  clear hK K
  try simp only [Act.put, List.setIfInBounds_toArray, List.set_cons_succ, List.set_cons_zero]
  refine plan_forceL rfl rfl fun K hK => ?_
  go_simp
  refine hK _ _ HI6.out ?_
  clear hK K
  try simp only [Act.put, List.setIfInBounds_toArray, List.set_cons_succ, List.set_cons_zero]
  refine plan_forceL rfl rfl fun K hK => ?_
  go_simp
  refine (known_true w6 (HT.out.keep0 HI6.out.1)).mono ?_
  rintro e w7 ⟨rfl, hk7⟩
  have HI7 := Lib.hid (HI6.out.keep hk7)
  refine hK _ _ HI7.out ?_
  clear hK K hk7
  try simp only [Act.put, List.setIfInBounds_toArray, List.set_cons_succ, List.set_cons_zero]
  refine plan_forceL rfl rfl fun K hK => ?_
  go_simp
  refine hK _ _ HI7.out ?_
  clear hK K
  try simp only [Act.put, List.setIfInBounds_toArray, List.set_cons_succ, List.set_cons_zero]
  refine plan_forceL rfl rfl fun K hK => ?_
  go_simp
  refine hK _ _ HI7.out ?_
  refine hQ0 _ _ ?_
  clear hK K
  go_wp2
  go_ret
  exact ⟨rfl, HI7.out.1⟩
end Go.Proofs.YtbidppjhenfjdaaGreatDoor
namespace Go.Proofs.YtbidppjhenfjdaaGreatDoor
open Go.ChangeShapes Go.WideShapes Go.ChangeAt Go.RowKit
set_option linter.unusedVariables false

theorem own : ownKnob Tryz.prog.godebug = none := by kernel_rfl
theorem gTab : Tryz.prog.globalNamed "math/bits.deBruijn64tab" = some 5 := by kernel_rfl
theorem gTabType : (Tryz.prog.globals[5]?).map (·.type) = some 200 := by kernel_rfl
theorem gPType : (Tryz.prog.globals[2]?).map (·.type) = some 190 := by kernel_rfl
theorem gSType : (Tryz.prog.globals[0]?).map (·.type) = some 81 := by kernel_rfl
theorem gRType : (Tryz.prog.globals[1]?).map (·.type) = some 81 := by kernel_rfl
theorem cellsTab : Tryz.prog.cellsOf 200 = 64 := by kernel_rfl
theorem cellsU8 : Tryz.prog.cellsOf 5 = 1 := by kernel_rfl
theorem cellsP : Tryz.prog.cellsOf 190 = 20 := by kernel_rfl
theorem cellsU64 : Tryz.prog.cellsOf 171 = 1 := by kernel_rfl
theorem cellsES : Tryz.prog.cellsOf 197 = 1 := by kernel_rfl
theorem cellsStr : Tryz.prog.cellsOf 9 = 1 := by kernel_rfl
theorem laidOut : laidOutB Tryz.prog = true := by kernel_rfl
theorem esStar : "*" ++ "errors.errorString" = "*errors.errorString" := by decide
theorem esRow (u : TypeId) (h : Tryz.prog.typeName? 3 u = some "*errors.errorString") : u = 195 :=
  typeName_ptr_named (nm := "errors.errorString") (by rw [esStar]; kernel_rfl) (by kernel_rfl) (by decide) u (by rw [esStar]; exact h)

/-- What each row lists. -/
def laid1 : List (String × DataW Unit) := [("math/bits.deBruijn32tab", Rows.laid_math_bits_deBruijn32tab), ("math/bits.deBruijn64tab", Rows.laid_math_bits_deBruijn64tab), ("internal/strconv.uint64pow10", Rows.laid_internal_strconv_uint64pow10), ("strconv.ErrRange", Rows.laid_strconv_ErrRange), ("strconv.ErrSyntax", Rows.laid_strconv_ErrSyntax)]

theorem tab_head {P : Program} {W : World} {name : String} {k : IntKind} {zs : List Int} {rest : List (String × DataW Unit)} {g : Nat} {t e : TypeId} {n : Nat}
    (hg : P.globalNamed name = some g) (hty : (P.globals[g]?).map (·.type) = some t) (ht : P.underlying t = some (.array n e)) (he : P.underlying e = some (.int k)) (hce : P.cellsOf e = 1) (hct : P.cellsOf t = n)
    (h : laidMet P ((name, Lib.tabData k zs) :: rest) W) : Lib.TabIs P W name k zs := by
  obtain ⟨ps, ⟨g', t', cs, fuel, p, q, hg', ht', hvar, hd, _, _⟩, _⟩ := h
  obtain rfl := Option.some.inj (hg.symm.trans hg')
  obtain rfl := Option.some.inj (hty.symm.trans ht')
  unfold Lib.TabIs
  rw [hvar, ← Lib.cells_of_tab ht he hce hct hd]

/-- WHAT THE ROW's LIST GIVES. -/
theorem table {W : World} (h : laidMetH Tryz.prog laid1 W) : TQ W := by
  have h0 : laidMet Tryz.prog (("math/bits.deBruijn32tab", Rows.laid_math_bits_deBruijn32tab) :: ("math/bits.deBruijn64tab", Rows.laid_math_bits_deBruijn64tab) :: ("internal/strconv.uint64pow10", Rows.laid_internal_strconv_uint64pow10) :: ("strconv.ErrRange", Rows.laid_strconv_ErrRange) :: ("strconv.ErrSyntax", Rows.laid_strconv_ErrSyntax) :: []) W := h
  have h1 := h0.tail
  have h2 := h1.tail
  have h3 := h2.tail
  have h4 := h3.tail
  have t1 : Lib.TabIs Tryz.prog W "math/bits.deBruijn64tab" .u8 (Lib.deBruijn64tab.map Int.ofNat) := tab_head gTab gTabType Tryz.underlying200 Tryz.underlying5 cellsU8 cellsTab h1
  have t2 : Lib.TabIs Tryz.prog W "internal/strconv.uint64pow10" .u64 Lib.pow10Tab := tab_head gP gPType Tryz.underlying190 Tryz.underlying171 cellsU64 cellsP h2
  refine ⟨by have := t1.cell gTab 15 (by decide); exact this, t2, ?_, ?_⟩
  · obtain ⟨a, s, hv, _⟩ := laid_sentinel h4 gS gSType Tryz.underlying81 esRow Tryz.underlying195 Tryz.underlying197 rfl rfl Tryz.underlying9 cellsES cellsStr
    exact ⟨_, _, hv⟩
  · obtain ⟨a, s, hv, _⟩ := laid_sentinel h3 gR gRType Tryz.underlying81 esRow Tryz.underlying195 Tryz.underlying197 rfl rfl Tryz.underlying9 cellsES cellsStr
    exact ⟨_, _, hv⟩

def rangeS : ByteArray := { data := #[118, 97, 108, 117, 101, 32, 111, 117, 116, 32, 111, 102, 32, 114, 97, 110, 103, 101] }
def syntaxS : ByteArray := { data := #[105, 110, 118, 97, 108, 105, 100, 32, 115, 121, 110, 116, 97, 120] }
/-- So many blocks has the settled world. -/
noncomputable def low : Nat := (World.holding Tryz.prog default ⟨#[], #[], []⟩).heap.size
/-- A WORLD FOR THE WITNESS: the settled one, the tables' blocks holding what their initialisers lay; two blocks more, of the errors. -/
noncomputable def laidWorld (os : Os) : World :=
  let w0 := World.holding Tryz.prog os ⟨#[.cells #[.string rangeS] 197, .cells #[.string syntaxS] 197], #[], []⟩
  { w0 with heap := ((((w0.heap.modify 4 (fun
      | .cells _ t frozen => .cells (Lib.deBruijn32tab.map fun (z : Nat) => Value.int .u8 z).toArray t frozen
      | o => o)).modify 5 (fun
      | .cells _ t frozen => .cells (Lib.deBruijn64tab.map fun (z : Nat) => Value.int .u8 z).toArray t frozen
      | o => o)).modify 2 (fun
      | .cells _ t frozen => .cells (Lib.pow10Tab.map fun (z : Int) => Value.int .u64 z).toArray t frozen
      | o => o)).modify 1 (fun
      | .cells _ t frozen => .cells #[.iface 195 (.pointer (some ⟨low, 0, none⟩))] t frozen
      | o => o)).modify 0 (fun
      | .cells _ t frozen => .cells #[.iface 195 (.pointer (some ⟨low + 1, 0, none⟩))] t frozen
      | o => o) }
end Go.Proofs.YtbidppjhenfjdaaGreatDoor
namespace Go.Proofs.YtbidppjhenfjdaaGreatDoor.scriptTells
open Go.ChangeShapes Go.WideShapes Go.ChangeAt Go.RowKit
open Go.ChangeMaps (open_string shut_string)
set_option linter.unusedVariables false

set_option maxRecDepth 100000 in
theorem contract (H : Type) (enc : TypeId × Value → H) (W : World) (base : Nat) (args : Array Value) (ds gs : List (DataW H)) (before : List MemPlace)
    (hval : ∀ (j : Nat) t v, Tryz.f5.params[j]? = some t → args[j]? = some v → Value.okWide Tryz.prog W .any base t v)
    (hW : DataW.Whole enc Tryz.prog Tryz.f5.params.toList Rows.scriptTellsSpec.vars false W args.toList ds gs before) (hL : laidMetH Tryz.prog laid1 W) (hWt : (DataW.weightsEach Tryz.prog (Tryz.f5.params.toList ++ []) (ds ++ gs)).all (· ≤ reachBytes) = true) :
    Calls Tryz.prog 5 args W fun e W' => ∃ v, e = .returned v ∧ Rows.scriptTellsSpec.post enc Tryz.prog Tryz.f5 false true false false W args v W' := by
  have hW' := hW
  obtain ⟨p, q, hA0, hV, rfl, hfz, hnd⟩ := hW
  have hA : DataW.TrodAll enc Tryz.prog W 0 (fun _ => true) true Tryz.f5.params.toList args.toList ds p := hA0
  rw [Tryz.params5] at hA hval hWt
  obtain ⟨v0, vs0, d0, ds0, p0, q0, hargs, rfl, rfl, h0, r0⟩ := trodAll_cons hA
  obtain ⟨v1, vs1, d1, ds1, p1, q1, rfl, rfl, rfl, h1, r1⟩ := trodAll_cons r0
  obtain ⟨rfl, rfl, rfl⟩ := trodAll_nil r1
  obtain rfl : args = #[v0, v1] := by cases args; simp_all
  obtain ⟨rfl, rfl⟩ := trodVars_none hV
  have hWt' : (DataW.weightsEach Tryz.prog [40, 55] [d0, d1]).all (· ≤ reachBytes) = true := hWt
  simp only [DataW.weightsEach, List.all_append, Bool.and_eq_true] at hWt'
  obtain ⟨w0, w1, _⟩ := hWt'
  clear hA0
  simp only [List.append_nil] at hW'
  have hlt : ∀ x ∈ p0 ++ (p1), x.block < W.heap.size := fun x hx => by simpa using hW'.lt x (by simpa using hx)
  have k0 := h0
  obtain ⟨s0, dv0, bv0, rfl, hx0, ho0, hf0⟩ := open_step (hval 0 40 v0 rfl rfl) h0 w0
  have k1 := h1
  obtain ⟨x1, xd1, xg1, vv1, xb1, hv1, mv1, pv1, cv1, rfl, xo1, xs1, xc1, xi1, xf1⟩ := open_answer (hval 1 55 v1 rfl rfl) h1 w1
  refine (scriptTells_walk s0 dv0 bv0 x1 xd1 xg1 vv1 xb1 hv1 mv1 pv1 cv1 W hx0 ho0 hf0 xo1 xs1 xc1 xi1 xf1 (table hL)).mono fun e W' ⟨he, hk⟩ => ?_
  subst he
  have hb := hk.below
  exact ⟨_, rfl, _, _, _, [], p0 ++ (p1 ++ []), [], hW', trodAll_cons_mk (shut_bool Tryz.underlying4 _) trodAll_mk0, trodAll_cons_mk (Below.trod laidOut (by kernel_rfl) (of_decide_eq_true (by kernel_rfl)) k0 hb (fun x hx => hlt x (by simp [hx]))) (trodAll_cons_mk (Below.trod laidOut (by kernel_rfl) (of_decide_eq_true (by kernel_rfl)) k1 hb (fun x hx => hlt x (by simp [hx]))) trodAll_mk0), rfl, hb.frame _, fun h => by cases h⟩

theorem laid_met (os : Os) : laidMet Tryz.prog laid1 ((laidWorld os).forCall (fun _ _ => 0) ⟨#[], #[.agg #[.int .i64 0, .int .i64 0, .int .i64 0, .int .i64 0, .int .i64 0, .int .i64 0, .string ByteArray.empty, .slice none 0 0, .slice none 0 0], .agg #[.int .i64 0, .string ByteArray.empty, .int .i64 0, .int .i64 0, .slice none 0 0, .int .i64 0, .int .i64 0, .int .i64 0, .int .i64 0, .int .i64 0, .string ByteArray.empty, .slice none 0 0, .int .i64 0, .int .i64 0, .bool false, .bool false, .slice none 0 0, .slice none 0 0, .int .i64 0, .int .i64 0, .slice none 0 0, .int .i64 0, .int .i64 0, .slice none 0 0, .int .i64 0, .slice none 0 0, .slice none 0 0]], []⟩).memory :=
  laidMet_of_run' 8 (by kernel_rfl) (by kernel_rfl)
theorem reads (os : Os) {H : Type} (enc : TypeId × Value → H) : ∃ places, DataW.whole enc Tryz.prog ((laidWorld os).forCall (fun _ _ => 0) ⟨#[], #[.agg #[.int .i64 0, .int .i64 0, .int .i64 0, .int .i64 0, .int .i64 0, .int .i64 0, .string ByteArray.empty, .slice none 0 0, .slice none 0 0], .agg #[.int .i64 0, .string ByteArray.empty, .int .i64 0, .int .i64 0, .slice none 0 0, .int .i64 0, .int .i64 0, .int .i64 0, .int .i64 0, .int .i64 0, .string ByteArray.empty, .slice none 0 0, .int .i64 0, .int .i64 0, .bool false, .bool false, .slice none 0 0, .slice none 0 0, .int .i64 0, .int .i64 0, .slice none 0 0, .int .i64 0, .int .i64 0, .slice none 0 0, .int .i64 0, .slice none 0 0, .slice none 0 0]], []⟩).memory Tryz.f5.params.toList Rows.scriptTellsSpec.vars false #[(.agg #[.int .i64 0, .int .i64 0, .int .i64 0, .int .i64 0, .int .i64 0, .int .i64 0, .string ByteArray.empty, .slice none 0 0, .slice none 0 0] : Value), .agg #[.int .i64 0, .string ByteArray.empty, .int .i64 0, .int .i64 0, .slice none 0 0, .int .i64 0, .int .i64 0, .int .i64 0, .int .i64 0, .int .i64 0, .string ByteArray.empty, .slice none 0 0, .int .i64 0, .int .i64 0, .bool false, .bool false, .slice none 0 0, .slice none 0 0, .int .i64 0, .int .i64 0, .slice none 0 0, .int .i64 0, .int .i64 0, .slice none 0 0, .int .i64 0, .slice none 0 0, .slice none 0 0]].toList 8 = some ([.agg [.lit (.int .i64 0), .lit (.int .i64 0), .lit (.int .i64 0), .lit (.int .i64 0), .lit (.int .i64 0), .lit (.int .i64 0), .lit (.string []), .nil, .nil], .agg [.lit (.int .i64 0), .lit (.string []), .agg [.agg [.lit (.int .i64 0), .lit (.int .i64 0)], .nil, .lit (.int .i64 0), .agg [.lit (.int .i64 0), .lit (.int .i64 0)], .agg [.lit (.int .i64 0), .lit (.int .i64 0)], .lit (.string []), .nil, .lit (.int .i64 0)], .agg [.lit (.int .i64 0), .lit (.bool false), .lit (.bool false), .nil, .nil, .lit (.int .i64 0), .lit (.int .i64 0), .nil, .lit (.int .i64 0), .lit (.int .i64 0), .nil, .lit (.int .i64 0), .nil], .nil]], [], places) :=
  ⟨[], by kernel_rfl⟩

set_option maxRecDepth 100000 in
theorem lifted (os : Os) (started : os.Started) (H : Type) (enc : TypeId × Value → H) (F : Stop.Interp) :
    ReturnsInHanded {} Tryz.checked os 5 .any ((OpenSpec.ofChange Rows.scriptTellsSpec).preRow enc Tryz.prog Tryz.f5 Rows.scriptTellsRow.domain false Rows.scriptTellsRow.laid) (((OpenSpec.ofChange Rows.scriptTellsSpec).at F).post enc Tryz.prog Tryz.f5 false true false false) := by
  obtain ⟨places, hx⟩ := reads os enc
  refine returnsInHanded_of_row (C := Tryz.checked) (s := OpenSpec.ofChange Rows.scriptTellsSpec) own started (by kernel_rfl) Tryz.func5
    (witness_row_at (enc := enc) (C := Tryz.checked) false (laidWorld os) #[.agg #[.int .i64 0, .int .i64 0, .int .i64 0, .int .i64 0, .int .i64 0, .int .i64 0, .string ByteArray.empty, .slice none 0 0, .slice none 0 0], .agg #[.int .i64 0, .string ByteArray.empty, .int .i64 0, .int .i64 0, .slice none 0 0, .int .i64 0, .int .i64 0, .int .i64 0, .int .i64 0, .int .i64 0, .string ByteArray.empty, .slice none 0 0, .int .i64 0, .int .i64 0, .bool false, .bool false, .slice none 0 0, .slice none 0 0, .int .i64 0, .int .i64 0, .slice none 0 0, .int .i64 0, .int .i64 0, .slice none 0 0, .int .i64 0, .slice none 0 0, .slice none 0 0]] rfl (by kernel_rfl) (by kernel_rfl) (by kernel_rfl)
      (OpenSpec.preRow_of_cond 8 hx (by kernel_rfl) (fun k hk => by cases hk) (by kernel_rfl) (laid_met os))) ?_
  intro W base args ds gs before hval hW _ _ hWt hL _ _
  exact contract H enc W base args ds gs before hval hW hL hWt

theorem said : Rows.ScriptTellsSaid :=
  OpenClaim.holds_of_cond 5 Tryz.f5 rfl rfl rfl rfl rfl rfl rfl ⟨rfl, rfl, rfl, rfl, rfl⟩ rfl rfl rfl rfl rfl (by kernel_rfl) Tryz.func5 (by kernel_rfl)
    (of_decide_eq_true (by kernel_rfl)) (by unfold Func.isWrapper; first | (rw [if_pos (by decide +kernel)]; kernel_rfl) | (rw [if_neg (by decide +kernel)]; exact ⟨rfl, rfl⟩))
    (fun os started H enc _ F => by rw [OpenClaim.pre_eq_preRow]; exact lifted os started H enc F)

/-- No parameter wants a stand-in; the program's own looks are off. -/
theorem plain (f : FuncId) (fn : Func) (hf : Tryz.pinned.checked.prog.funcNamed "hearsay/hearsaylaw22.ScriptTells" = some f) (hfn : Tryz.pinned.checked.prog.funcs[f]? = some fn) :
    true = Tryz.pinned.checked.prog.looks [] ∧ ∀ (j : Nat) t, fn.params[j]? = some t → Tryz.pinned.checked.prog.wantsStandIn t = false := by
  obtain rfl : f = 5 := Option.some.inj ((show Tryz.prog.funcNamed "hearsay/hearsaylaw22.ScriptTells" = some 5 by kernel_rfl).symm.trans hf) |>.symm
  obtain rfl : fn = Tryz.f5 := (Option.some.inj (Tryz.func5.symm.trans hfn)).symm
  refine ⟨by kernel_rfl, fun j t ht => ?_⟩
  rw [Tryz.params5] at ht
  have hm := Array.mem_of_getElem? ht
  simp at hm
  have hm' : t = 40 ∨ t = 55 := by simpa using hm
  rcases hm' with rfl | rfl
  · exact (show Tryz.prog.wantsStandIn 40 = false by kernel_rfl)
  · exact (show Tryz.prog.wantsStandIn 55 = false by kernel_rfl)

/-- THE CARD. -/
theorem card : Rows.ScriptTellsCardSaid :=
  Claim7.holds_tied_plain_at .later [] _ _ _ _ said (fun _ h => by cases h) (by kernel_rfl) (fun _ h => by cases h) scriptTells_row_tie rfl ⟨rfl, rfl⟩ (by kernel_rfl) rfl plain (by kernel_rfl)
end Go.Proofs.YtbidppjhenfjdaaGreatDoor.scriptTells
