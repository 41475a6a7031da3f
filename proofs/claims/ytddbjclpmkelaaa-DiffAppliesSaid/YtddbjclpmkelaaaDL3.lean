/-
  DiffApplies, walked.
-/
import Derived.Test.YtddbjclpmkelaaaDifX
namespace Go.Proofs.Ytddbjclpmkelaaa
open Go.RowKit
set_option linter.unusedVariables false
set_option linter.unusedSimpArgs false

theorem edv_get (l : List EdV) : ∀ (j : Nat) (u : Value), (edvCells l)[j]? = some u → ∃ (i r : Nat) (e : EdV), j = i * 3 + r ∧ r < 3 ∧ l[i]? = some e ∧ (edvCell e)[r]? = some u := by
  intro j u h
  have hj : j < (edvCells l).length := (List.getElem?_eq_some_iff.1 h).1
  rw [edvCells_length] at hj
  have hi : j / 3 < l.length := by omega
  have := edv_flat l (j / 3) (j % 3) l[j / 3] (List.getElem?_eq_getElem hi) (by omega)
  rw [show j / 3 * 3 + j % 3 = j by omega, h] at this
  exact ⟨j / 3, j % 3, l[j / 3], by omega, by omega, List.getElem?_eq_getElem hi, this.symm⟩
/-- A change that comes in, cell by cell. -/
theorem ElemsAt.slE {w : World} {v : Value} {xs : List EdB} (h : ElemsAt w v 3 encB xs) : SlAt w v xs.length (edvCells (xs.map Subtype.val)) := by
  have he := h.eds
  obtain ⟨ad, cap, rfl, h1, h2, h3⟩ := h
  refine ⟨ad, cap, rfl, ⟨fun h0 => by rw [List.eq_nil_of_length_eq_zero h0]; rfl, h2⟩, fun hn => ?_⟩
  obtain ⟨ad', cap', e, hc⟩ := he
  simp only [Value.slice.injEq] at e
  obtain ⟨rfl, _, rfl⟩ := e
  obtain ⟨b, off, rfl, hcc⟩ := hc (by rw [List.length_map]; exact hn)
  refine ⟨b, off, rfl, fun j u hu => ?_⟩
  obtain ⟨i, r, e, rfl, hr, hi, hu2⟩ := edv_get _ j u hu
  obtain ⟨c0, c1, c2⟩ := hcc i e hi
  match r, hr, hu2 with
  | 0, _, hu2 => simp only [edvCell, List.getElem?_cons_zero, Option.some.injEq] at hu2; rw [← hu2, Nat.add_zero]; exact c0
  | 1, _, hu2 => simp only [edvCell, List.getElem?_cons_zero, List.getElem?_cons_succ, Option.some.injEq] at hu2; rw [← hu2, ← Nat.add_assoc]; exact c1
  | 2, _, hu2 => simp only [edvCell, List.getElem?_cons_zero, List.getElem?_cons_succ, Option.some.injEq] at hu2; rw [← hu2, ← Nat.add_assoc]; exact c2
theorem edv_one (l : List EdV) : ∀ u ∈ edvCells l, u.oneCell' = true := by
  intro u hu
  obtain ⟨j, hj⟩ := List.getElem?_of_mem hu
  obtain ⟨i, r, e, _, hr, _, h⟩ := edv_get l j u hj
  match r, hr, h with
  | 0, _, h => simp [edvCell] at h; rw [← h]; rfl
  | 1, _, h => simp [edvCell] at h; rw [← h]; rfl
  | 2, _, h => simp [edvCell] at h; rw [← h]; rfl
theorem EdAt.of_cells {W : World} {g n c : Nat} {l : List EdV} {cs : List Value} (hn : n = l.length) (h : ∀ (j : Nat) (u : Value), (edvCells l ++ cs)[j]? = some u → W.cell? ⟨g, j, none⟩ = some u) : EdAt W (.slice (some ⟨g, 0, none⟩) n c) l := by
  subst hn
  refine ⟨_, _, rfl, fun _ => ⟨g, 0, rfl, fun i e he => ?_⟩⟩
  have hi : i < l.length := (List.getElem?_eq_some_iff.1 he).1
  have key : ∀ r u, r < 3 → (edvCell e)[r]? = some u → W.cell? ⟨g, 0 + i * 3 + r, none⟩ = some u := fun r u hr hu => by
    refine h _ u ?_
    rw [Nat.zero_add, List.getElem?_append_left (by rw [edvCells_length]; omega), edv_flat l i r e he hr]
    exact hu
  exact ⟨by have := key 0 _ (by omega) rfl; simpa using this, key 1 _ (by omega) rfl, key 2 _ (by omega) rfl⟩
theorem invL_le : ∀ (l : List EdV) (gs : List (List Int)), (invL l gs).length ≤ l.length
  | [], _ => by simp [invL]
  | e :: l, [] => by simp [invL]
  | e :: l, g :: gs => by simp [invL]; exact invL_le l gs
theorem invOut_le (a : ByteArray) (l : List EdV) : (invOut a l).2.length ≤ l.length := by
  unfold invOut; split
  · exact invL_le _ _
  · simp
theorem slice_eds (g n c k : Nat) (h : k ≤ c) (W : World) : (Instr.slice 23 (.slice (some ⟨g, 0, none⟩) n c) none (some (.int .i64 (k : Int))) none).run Try.prog W = .ok (.slice (some ⟨g, 0, none⟩) k c) W := by
  have hs : (sizeOf (Try.prog.elem 23)).run Try.prog W = .ok 3 W := by kernel_rfl
  rw [run_slice_any (P := Try.prog) W 23 (some ⟨g, 0, none⟩) n c (by kernel_rfl)]
  have hb : (Instr.sliceBounds true n c none (some (.int .i64 (k : Int))) none).run Try.prog W = .ok (0, k, c) W := by simp [Instr.sliceBounds, run_sliceBound, h]
  rw [hb]
  simp only [Result.andThen, hs, sliced, Nat.zero_mul, Option.map_some, Nat.sub_zero]
  split <;> rfl

set_option maxRecDepth 100000 in
set_option maxHeartbeats 16000000 in
theorem diffApplies_walk (a : ByteArray) (va : Value) (xs : List EdB) (w : World) (hsa : a.size ≤ maxLen) (hE : ElemsAt w va 3 encB xs) :
    Calls Try.prog 5 #[.string a, va] w fun e w' => e = .returned (.bool true) ∧ Keep [] w w' := by
  obtain ⟨i0, hi, hz0, hz1, hz2⟩ := info_parts info_edit
  have HI := Lib.hid hi; have HZ0 := Lib.hid hz0; have HZ1 := Lib.hid hz1; have HZ2 := Lib.hid hz2
  clear hi hz0 hz1 hz2
  unfold maxLen at hsa
  have HED := Lib.hid hE.eds; have HSL := Lib.hid hE.slE; have HBD := Lib.hid (eds_bound xs)
  have hlm : (xs.map Subtype.val).length = xs.length := List.length_map ..
  obtain ⟨ad, cap, rfl, _, _, hlc⟩ := hE
  generalize xs.map Subtype.val = l at *
  rw [← hlm] at HSL HED
  obtain ⟨n, hn⟩ : ∃ n, n = l.length := ⟨_, rfl⟩
  rw [← hlm, ← hn]
  have HNN := Lib.hid hn; clear hn hlm hlc
  rw [← HNN.out] at HSL HED
  by_cases hza : a.size ≤ 8000
  · have hzd : ¬ ((8000 : Int) < (a.size : Int)) := by omega
    go_enter Try.func5, Try.ntmps5
    go_wp2_with fail
    refine (heavy_any _ l w HED.out (fun e he => (HBD.out e he).2.2.2.2)).mono ?_
    rintro r w1 ⟨b, rfl, hb, hk1⟩
    have HK1 := Lib.hid hk1; clear hk1
    cases b with
    | true =>
      go_wp2_with fail
      refine (known_true _).mono ?_
      rintro r w4 ⟨rfl, k4⟩
      have K4 := Lib.hid (HK1.out.trans0 k4); clear k4
      go_wp2_with fail
      go_ret
      exact ⟨rfl, K4.out⟩
    | false =>
      have HLI := Lib.hid (hb rfl); clear hb
      have hn300 : n ≤ 300 := by rw [HNN.out]; exact HLI.out.1
      have hsl := HSL.out.keep0 HK1.out
      have hfw : Hid (∀ e ∈ l, -9223372036854775808 ≤ e.1 ∧ e.1 ≤ 9223372036854775807 ∧ -9223372036854775808 ≤ e.2.1 ∧ e.2.1 ≤ 9223372036854775807 ∧ e.2.2.size ≤ 10000) := Lib.hid (fun e he => by
        obtain ⟨b1, b2, b3, b4, _⟩ := HBD.out e he
        have := HLI.out.2.1 e he
        exact ⟨b1, b2, b3, b4, by omega⟩)
      have hfv : Hid (∀ e ∈ l, -9223372036854775808 ≤ e.2.1 ∧ e.2.1 ≤ 9223372036854775807 ∧ e.2.2.size ≤ 1073741824) := Lib.hid (fun e he => by
        obtain ⟨b1, b2, b3, b4, b5⟩ := hfw.out e he
        exact ⟨b3, b4, by omega⟩)
      have HS1 := Lib.hid hsl; clear hsl
      have hec := edvCells_length l
      rw [← HNN.out] at hec
      have HEC := Lib.hid hec; clear hec
      go_wp2_with (with_reducible refine park_append 23 24 _ rfl ?_)
      have hk1s := HK1.out.size
      refine wpList_append_sl _ rfl (.tmp 23) (.tmp 24) 23 rfl w.heap.size 32 i0 (.agg #[.int .i64 0, .int .i64 0, .string ByteArray.empty]) 3 32 Try.underlying23 HI.out HZ0.out HZ1.out HZ2.out rfl (by decide) _ _ _ rfl (World.ownsRow_nil w1 w.heap.size 32 3) (.slice ad n cap) n (edvCells l) rfl HS1.out HEC.out (edv_one l) (by unfold maxLen; omega) (by omega) (by omega) ?_
      intro v2 w2 hp2
      have hr2 := hp2.row0
      obtain ⟨ad2, cp2, rfl, _⟩ := SlAt.of_owns hr2
      have hk2 : Keep [] w w2 := (HK1.out.mono (L' := []) (by simp)).trans hp2.2.1 (by intro b hb; cases hb)
      have HR2 := Lib.hid hr2; have HK2 := Lib.hid hk2
      clear hr2 hk2 hp2
      have hk2s := HK2.out.size
      go_wp2_with (with_reducible refine park_append 26 28 _ rfl ?_)
      refine wpList_append_mine _ rfl (.tmp 26) (.tmp 28) 23 rfl w.heap.size 32 i0 (.agg #[.int .i64 0, .int .i64 0, .string ByteArray.empty]) 3 32 Try.underlying23 HI.out HZ0.out HZ1.out HZ2.out rfl (by decide) _ _ _ rfl (HR2.out.alloc _) ⟨w2.heap.size, 0, none⟩ 1 1 [.int .i64 777, .int .i64 0, .string ⟨#[]⟩] rfl rfl (cell_new_row _ _ _) (by simp [Value.oneCell']) (by unfold maxLen; omega) (by omega) (by simp; omega) ?_
      intro v3 w3 hp3
      obtain ⟨a1, a2, a3, a4⟩ := own_next2 (w := w) (wr := w2) (base := w.heap.size) (by omega) HR2.out HK2.out ((Keep.refl _ _).alloc _) hp3 (by omega)
      obtain ⟨g, c3, rfl⟩ : ∃ g c3, v3 = .slice (some ⟨g, 0, none⟩) (n + 1) c3 := by
        rcases a1.2 with ⟨_, h⟩ | ⟨g, c3, cur, h, _⟩
        · omega
        · exact ⟨g, c3, h⟩
      have hc3 := owns_cap a1
      have hcl := a1.cells (g := g) rfl
      have HK3 := Lib.hid a2
      have hcl2 : ∀ (j : Nat) (u : Value), (edvCells l ++ [.int .i64 777, .int .i64 0, .string ⟨#[]⟩])[j]? = some u → w3.cell? ⟨g, j, none⟩ = some u := fun j u hu => by have := hcl j u hu; rwa [addr0_add] at this
      have c777 : w3.cell? ⟨g, n * 3, none⟩ = some (.int .i64 777) := hcl2 (n * 3) _ (by rw [List.getElem?_append_right (by rw [HEC.out]; omega), HEC.out]; simp)
      have he3 := EdAt.of_cells (n := n) (c := c3) HNN.out hcl2
      have HE3 := Lib.hid he3; have HC7 := Lib.hid c777
      have hsx := slice_eds g (n + 1) c3 n (by omega)
      clear a1 a2 a3 a4 hp3 hcl hcl2 he3 c777 HR2 HS1 HSL
      have HA := Lib.hid (fun (W : World) (h : EdAt W (.slice (some ⟨g, 0, none⟩) n c3) l) => apply_any a _ l W h (by rw [← HNN.out]; omega) (by omega) hfw.out)
      have HRA := Lib.hid (fun (W : World) (h : EdAt W (.slice ad n cap) l) => (rapply_any a _ l W h (by rw [← HNN.out]; omega) (by omega) hfw.out).mono (R' := fun e w' => (∃ v, e = .returned (.tuple #[.string (txt (apAll a l).2.1), v, .int .i64 (apAll a l).1])) ∧ Keep [] W w') (fun _ _ h => by obtain ⟨v, h1, _, h2, _⟩ := h; exact ⟨⟨v, h1⟩, h2⟩))
      have HIV := Lib.hid (fun (W : World) (h : EdAt W (.slice (some ⟨g, 0, none⟩) n c3) l) => (invert_any a _ l W h (by rw [← HNN.out]; omega) (by omega) hfw.out).mono (fun _ _ h => h.r))
      have HRI := Lib.hid (fun (W : World) (h : EdAt W (.slice ad n cap) l) => (rinvert_any a _ l W h (by rw [← HNN.out]; omega) (by omega) hfw.out).mono (fun _ _ h => h.r))
      have HWT := Lib.hid (fun (W : World) (h : EdAt W (.slice (some ⟨g, 0, none⟩) n c3) l) => weight_any _ l W h (by rw [← HNN.out]; omega) hfv.out)
      have HRW := Lib.hid (fun (W : World) (h : EdAt W (.slice ad n cap) l) => rweight_any _ l W h (by rw [← HNN.out]; omega) hfv.out)
      have hile := invOut_le a l
      rw [← HNN.out] at hile
      generalize txt (apAll a l).2.1 = tx at *
      generalize (apAll a l).1 = oc at *
      generalize (invOut a l).1 = ic at *
      generalize (invOut a l).2 = il at *
      generalize wsat 0 l = wt at *
      have hed3 := HED.out.keep0 HK3.out
      have HD3 := Lib.hid hed3; clear hed3
      go_wp2_with fail
      refine (HA.out _ HE3.out).mono ?_
      rintro r w4 ⟨rfl, k4⟩
      have K4 := Lib.hid (HK3.out.trans0 k4); have E4 := Lib.hid (HE3.out.keep0 k4); have D4 := Lib.hid (HD3.out.keep0 k4); have C4 := Lib.hid (k4.cellv HC7.out (by simp)); clear k4 HE3 HD3 HC7
      go_wp2_with fail
      refine (HRA.out _ D4.out).mono ?_
      rintro r w5 ⟨⟨v5, rfl⟩, k5⟩
      have K5 := Lib.hid (K4.out.trans0 k5); have E5 := Lib.hid (E4.out.keep0 k5); have D5 := Lib.hid (D4.out.keep0 k5); have C5 := Lib.hid (k5.cellv C4.out (by simp)); clear k5 E4 D4 C4
      go_wp2_with fail
      refine (HIV.out _ E5.out).mono ?_
      rintro r w6 ⟨ad6, c6, rfl, f6, k6⟩
      have K6 := Lib.hid (K5.out.trans0 k6); have E6 := Lib.hid (E5.out.keep0 k6); have D6 := Lib.hid (D5.out.keep0 k6); have C6 := Lib.hid (k6.cellv C5.out (by simp)); have F6 := Lib.hid f6; clear k6 f6 E5 D5 C5
      go_wp2_with fail
      refine (HRI.out _ D6.out).mono ?_
      rintro r w7 ⟨ad7, c7, rfl, g7, k7⟩
      have K7 := Lib.hid (K6.out.trans0 k7); have E7 := Lib.hid (E6.out.keep0 k7); have D7 := Lib.hid (D6.out.keep0 k7); have C7 := Lib.hid (k7.cellv C6.out (by simp)); have F7 := Lib.hid (F6.out.keep0 k7); have G7 := Lib.hid g7; clear k7 g7 E6 D6 C6 F6
      go_wp2_with fail
      refine (edits_true _ _ il _ F7.out G7.out (by omega)).mono ?_
      rintro r w8 ⟨rfl, k8⟩
      have K8 := Lib.hid (K7.out.trans0 k8); have E8 := Lib.hid (E7.out.keep0 k8); have D8 := Lib.hid (D7.out.keep0 k8); have C8 := Lib.hid (k8.cellv C7.out (by simp)); clear k8 E7 D7 C7 F7 G7
      go_wp2_with fail
      refine (HWT.out _ E8.out).mono ?_
      rintro r w9 ⟨rfl, k9⟩
      have K9 := Lib.hid (K8.out.trans0 k9); have E9 := Lib.hid (E8.out.keep0 k9); have D9 := Lib.hid (D8.out.keep0 k9); have C9 := Lib.hid (k9.cellv C8.out (by simp)); clear k9 E8 D8 C8
      go_wp2_with fail
      refine (HRW.out _ D9.out).mono ?_
      rintro r wa ⟨rfl, ka⟩
      have KA := Lib.hid (K9.out.trans0 ka); have EA := Lib.hid (E9.out.keep0 ka); have DA := Lib.hid (D9.out.keep0 ka); have CA := Lib.hid (ka.cellv C9.out (by simp)); clear ka E9 D9 C9
      go_wp2_with fail
      refine (edits_true _ _ l _ EA.out DA.out (by rw [← HNN.out]; omega)).mono ?_
      rintro r wb ⟨rfl, kb⟩
      have KB := Lib.hid (KA.out.trans0 kb); have hcb := kb.cellv CA.out (by simp); clear kb EA DA CA
      have hnn1 : ((n : Int) < (n : Int) + 1) := by omega
      go_wp2_with fail
      refine (known_true _).mono ?_
      rintro r wc ⟨rfl, kc⟩
      have KC := Lib.hid (KB.out.trans0 kc); clear kc
      go_wp2_with fail
      go_ret
      exact ⟨rfl, KC.out⟩
  · have hzd : ((8000 : Int) < (a.size : Int)) := by omega
    go_enter Try.func5, Try.ntmps5
    go_wp2_with fail
    refine (known_true _).mono ?_
    rintro r w4 ⟨rfl, k4⟩
    have K4 := Lib.hid k4; clear k4
    go_wp2_with fail
    go_ret
    exact ⟨rfl, K4.out⟩
end Go.Proofs.Ytddbjclpmkelaaa
