/-
  The table, walked.
-/
import Derived.Test.YtddbjclpmkelaaaDifG
import Derived.BigRegionIn
import Derived.Test.YtddbjclpmkelaaaStillIn
namespace Go.Proofs.Ytddbjclpmkelaaa
open Go.RowKit Go.Shelf
set_option linter.unusedVariables false
set_option linter.unusedSimpArgs false
attribute [local go_sem] Oper.semAt_some

theorem info_int1 : (Try.prog.info? 3).map (fun i => (i.zero, i.size, i.bytes)) = some (some (.int .i64 0), 1, 8) := by kernel_rfl
theorem info_ints1 : (Try.prog.info? 56).map (fun i => (i.zero, i.size, i.bytes)) = some (some (.slice none 0 0), 1, 24) := by kernel_rfl
theorem make_ints (n : Nat) (hn : n ≤ 1000) (W : World) : (Instr.makeSlice 56 (.int .i64 ((n : Int) + 1)) (.int .i64 ((n : Int) + 1))).run Try.prog W =
    .ok (.slice (some ⟨W.heap.size, 0, none⟩) (n + 1) (n + 1)) (W.alloc (.cells (madeCells #[.int .i64 0] (n + 1)) 3)) := by
  obtain ⟨i, hi, hz, hs, hb⟩ := info_parts info_int1
  have := run_make (P := Try.prog) W 56 3 i (.int .i64 0) Try.underlying56 hi hz .i64 .i64 ((n : Int) + 1) ((n : Int) + 1) (by omega) (by omega) (by rw [hb]; omega) (by omega)
  rw [this, hs, Nat.mul_one]
  rfl
theorem make_rows (n : Nat) (hn : n ≤ 1000) (W : World) : (Instr.makeSlice 53 (.int .i64 ((n : Int) + 1)) (.int .i64 ((n : Int) + 1))).run Try.prog W =
    .ok (.slice (some ⟨W.heap.size, 0, none⟩) (n + 1) (n + 1)) (W.alloc (.cells (madeCells #[.slice none 0 0] (n + 1)) 56)) := by
  obtain ⟨i, hi, hz, hs, hb⟩ := info_parts info_ints1
  have := run_make (P := Try.prog) W 53 56 i (.slice none 0 0) Try.underlying53 hi hz .i64 .i64 ((n : Int) + 1) ((n : Int) + 1) (by omega) (by omega) (by rw [hb]; omega) (by omega)
  rw [this, hs, Nat.mul_one]
  rfl

set_option maxRecDepth 100000 in
set_option maxHeartbeats 16000000 in
theorem table_any (va vb : Value) (x y : List Int) (w : World) (ha : SlAt w va x.length (x.map (Value.int .i32))) (hb : SlAt w vb y.length (y.map (Value.int .i32))) (hx : x.length ≤ 1000) (hy : y.length ≤ 1000) :
    Calls Try.prog 26 #[va, vb] w fun e w' => ∃ v, e = .returned v ∧ TabAt w' v x y ∧ Keep [] w w' := by
  obtain ⟨ada, ca, rfl, ha0, ha1⟩ := ha
  obtain ⟨adb, cb, rfl, hb0, hb1⟩ := hb
  have HA := Lib.hid ha1; have HB := Lib.hid hb1; clear ha0 hb0 ha1 hb1
  obtain ⟨n, hn⟩ : ∃ n, n = x.length := ⟨_, rfl⟩
  obtain ⟨m, hm⟩ : ∃ m, m = y.length := ⟨_, rfl⟩
  rw [← hn] at hx; rw [← hm] at hy
  rw [← hn, ← hm]
  have HN := Lib.hid hn; have HM := Lib.hid hm; clear hn hm
  have hmkr := make_rows n hx
  obtain ⟨orows, hor⟩ : ∃ o, o = Obj.cells (madeCells #[.slice none 0 0] (n + 1)) 56 := ⟨_, rfl⟩
  rw [← hor] at hmkr
  have HOR := Lib.hid hor; clear hor
  refine (callsIn_wide (n := 0)).1 ?_
  refine callsIn_of_wp_marks Try.func26 rfl trivial ?_
  simp only [Try.ntmps26, List.size_toArray, List.length_cons, List.length_nil, Nat.reduceAdd, Nat.reduceSub, Array.replicate_succ, Array.replicate_zero, List.push_toArray, List.append_toArray, List.nil_append, List.cons_append]
  gi_wp2_with fail
  refine ⟨trivial, rfl, ?_⟩
  refine (callsIn_wide.2 (downs_any _ _ _ _)).mono ?_
  rintro r w1 ⟨rfl, hw1⟩
  have hsz : w1.heap.size = w.heap.size + 1 + 1 + 1 + 1 + 1 := by rw [hw1]; simp
  have hbA : w1.heap[w.heap.size]? = some (.cells #[.slice ada n ca] 44 (0, 0)) := by
    rw [hw1]
    refine (Below.heap_alloc _ _ _ (by simp <;> omega)).trans ?_
    refine (Below.heap_alloc _ _ _ (by simp <;> omega)).trans ?_
    refine (Below.heap_alloc _ _ _ (by simp <;> omega)).trans ?_
    refine (Below.heap_alloc _ _ _ (by simp)).trans ?_
    exact heap_alloc_new _ _
  have hbB : w1.heap[w.heap.size + 1]? = some (.cells #[.slice adb m cb] 44 (0, 0)) := by
    rw [hw1]
    refine (Below.heap_alloc _ _ _ (by simp <;> omega)).trans ?_
    refine (Below.heap_alloc _ _ _ (by simp <;> omega)).trans ?_
    refine (Below.heap_alloc _ _ _ (by simp)).trans ?_
    have := heap_alloc_new (w.alloc (.cells #[.slice ada n ca] 44)) (.cells #[.slice adb m cb] 44)
    rwa [World.size_alloc] at this
  have hbT : w1.heap[w.heap.size + 1 + 1]? = some orows := by
    rw [hw1]
    refine (Below.heap_alloc _ _ _ (by simp <;> omega)).trans ?_
    refine (Below.heap_alloc _ _ _ (by simp)).trans ?_
    have := heap_alloc_new ((w.alloc (.cells #[.slice ada n ca] 44)).alloc (.cells #[.slice adb m cb] 44)) orows
    rwa [World.size_alloc, World.size_alloc] at this
  have hbt : w1.heap[w.heap.size + 1 + 1 + 1]? = some (.cells #[.slice (some ⟨w.heap.size + 1 + 1, 0, none⟩) (n + 1) (n + 1)] 53 (0, 0)) := by
    rw [hw1]
    refine (Below.heap_alloc _ _ _ (by simp)).trans ?_
    have := heap_alloc_new (((w.alloc (.cells #[.slice ada n ca] 44)).alloc (.cells #[.slice adb m cb] 44)).alloc orows) (.cells #[.slice (some ⟨w.heap.size + 1 + 1, 0, none⟩) (n + 1) (n + 1)] 53)
    rwa [World.size_alloc, World.size_alloc, World.size_alloc] at this
  have hbi : SlcNeed (w.heap.size + 1 + 1 + 1 + 1) 53 (w.heap.size + 1 + 1) (n + 1) w1 := by
    unfold SlcNeed
    rw [hw1]
    have := heap_alloc_new ((((w.alloc (.cells #[.slice ada n ca] 44)).alloc (.cells #[.slice adb m cb] 44)).alloc orows).alloc (.cells #[.slice (some ⟨w.heap.size + 1 + 1, 0, none⟩) (n + 1) (n + 1)] 53)) (.cells #[.slice (some ⟨w.heap.size + 1 + 1, 0, none⟩) (n + 1) (n + 1)] 53)
    rwa [World.size_alloc, World.size_alloc, World.size_alloc, World.size_alloc] at this
  have hk1 : Keep [] w w1 := by rw [hw1]; exact (((((Keep.refl [] w).alloc _).alloc _).alloc _).alloc _).alloc _
  simp only [World.size_alloc]
  have HSZ := Lib.hid hsz; have HBA := Lib.hid hbA; have HBB := Lib.hid hbB; have HBT := Lib.hid hbT; have HBt := Lib.hid hbt; have HBI := Lib.hid hbi; have HK1 := Lib.hid hk1
  clear hsz hbA hbB hbT hbt hbi hk1 hw1
  gi_wp2_with fail
  refine wpIn_rangeB (gf := 52) (lb := #[.pointer (some ⟨w.heap.size + 1 + 1 + 1 + 1, 0, none⟩)]) rfl (enters_of Try.func52 (by kernel_rfl) rfl)
    (downs1_iters (w.heap.size + 1 + 1 + 1 + 1) (w.heap.size + 1 + 1) (n + 1) (by omega)) (fun W hk => HBI.out.keep hk (by simp)) ?ps [w.heap.size + 1 + 1]
    (fun b hb => by cases hb) (fun b hb => by simp at hb; subst hb; have := HSZ.out; simp; omega) (fun b hb => by simp at hb; subst hb; have := HSZ.out; omega)
    (fun k fp W => TabInv w1 (w.heap.size + 1 + 1) x y (n + 1 - k) fp W) ?rd (fun _ _ _ _ => False) (fun k => TabInv.steady _ _ _ _ _) (fun _ _ _ _ _ _ h _ _ => h)
    ?start (fun k fp W h => h.2.2.1) (fun k => .cells #[.int .i64 ((n - k : Nat) : Int)] 3) (fun k B => { tmps := #[.slice ada n ca, .slice adb m cb, .pointer (some ⟨w.heap.size, 0, none⟩), .pointer (some ⟨w.heap.size + 1, 0, none⟩), .slice none 0 0, .pointer (some ⟨w.heap.size + 1 + 1 + 1, 0, none⟩), .pointer (some ⟨B, 0, none⟩), undef, .slice ada n ca, .int .i64 (n : Int), .int .i64 ((n : Int) + 1), .slice (some ⟨w.heap.size + 1 + 1, 0, none⟩) (n + 1) (n + 1), .slice (some ⟨w.heap.size + 1 + 1, 0, none⟩) (n + 1) (n + 1), .func (.func 52) #[] #[.pointer (some ⟨w.heap.size + 1 + 1 + 1 + 1, 0, none⟩)], .int .i64 ((n - k : Nat) : Int), .slice none 0 0, undef, undef, undef, undef, undef, undef, undef, undef, undef, undef, undef, undef, undef, undef, undef, undef, undef, undef, undef, undef, undef, undef, undef, undef, undef, undef, undef, undef, undef, undef, undef, undef, undef, undef, undef, undef, undef, undef, undef, undef, undef, undef, undef, undef, undef, undef, undef, undef, undef, undef, undef, undef, undef, undef, undef, undef, undef, undef, undef, undef, undef, undef, undef, undef, undef, undef, undef, undef, undef, undef, undef, undef, undef, undef, undef, undef, undef, undef, undef, undef, undef, undef, undef, undef, undef, undef, undef, undef, undef, undef, undef, undef, undef, undef], defers := [] }) ?assign ?body ?done ?stop
  case ps => intro x hx; simp only [downArgs, List.mem_map] at hx; obtain ⟨k, _, rfl⟩ := hx; rfl
  case rd =>
    rintro k hk fp W ⟨_, _, _, _, cur, h1, h2, h3, h4⟩
    rw [downArgs_length] at hk
    have := HN.out
    rw [cell_of_block h1]
    exact h3 _ (by omega) (by omega)
  case start =>
    refine ⟨Keep.refl _ _, by simp, fun b hb => ?_, fun b hb => .inl (by simpa using hb), _, by rw [HBT.out, HOR.out], ?_, fun i hi hi2 => ?_, fun i hi hi2 => ?_⟩
    · simp at hb; subst hb; have := HSZ.out; omega
    · rw [size_madeCells, HN.out]
    · exact made_get _ _ _ (by have := HN.out; omega)
    · have := HN.out; omega
  case assign =>
    intro l k hk W K hK
    rw [downArgs_length] at hk
    rw [downArgs_get (.slice none 0 0) (n + 1) k (n - k) (by rw [downArgs_length]; omega) (by omega)]
    generalize ((n - k : Nat) : Int) = q at hK ⊢
    gi_wp2
    exact hK
  case body =>
    rintro l k hk fp B W ⟨t1, t2, t3, t4, cur, r1, r2, r3, r4⟩ hB hBf hwB hl hlf hwl
    rw [downArgs_length] at hk
    obtain ⟨i, hi⟩ : ∃ i, i = n - k := ⟨_, rfl⟩
    rw [← hi] at hB ⊢
    have hin : i ≤ n := by omega
    have hcA := t1.cellv (cell_of_one HBA.out) (by simp <;> omega)
    have hcB := t1.cellv (cell_of_one HBB.out) (by simp <;> omega)
    have hct := t1.cellv (cell_of_one HBt.out) (by simp <;> omega)
    have hci : W.cell? ⟨B, 0, none⟩ = some (.int .i64 i) := cell_of_one hB
    have hcT : W.cell? ⟨w.heap.size + 1 + 1, i, none⟩ = some (.slice none 0 0) := by rw [cell_of_block r1]; exact r3 i (by omega) (by have := HN.out; omega)
    have hfT := free_of_block r1 i
    have hi1 : ((i : Int) < (n : Int) + 1) := by omega
    have hmki := make_ints m hy
    obtain ⟨oints, hoi⟩ : ∃ o, o = Obj.cells (madeCells #[.int .i64 0] (m + 1)) 3 := ⟨_, rfl⟩
    rw [← hoi] at hmki
    have HOI := Lib.hid hoi; clear hoi
    have hwr : IntKind.i64.wrap ((m : Int) + 1) = (m : Int) + 1 := by rw [IntKind.wrap_i64]; omega
    have hTlt : w.heap.size + 1 + 1 < W.heap.size := by have := t1.size; have := HSZ.out; omega
    have hcT2 : (W.alloc oints).cell? ⟨w.heap.size + 1 + 1, i, none⟩ = some (.slice none 0 0) := ((Keep.refl [] W).alloc oints).cellv hcT (by simp)
    have hfT2 : (W.alloc oints).frozen? ⟨w.heap.size + 1 + 1, i, none⟩ = false := by rw [((Keep.refl [] W).alloc oints).frozen (p := ⟨w.heap.size + 1 + 1, i, none⟩) hTlt (by simp)]; exact hfT
    have hci2 : (W.alloc oints).cell? ⟨B, 0, none⟩ = some (.int .i64 i) := ((Keep.refl [] W).alloc oints).cellv hci (by simp)
    have hct2 : (W.alloc oints).cell? ⟨w.heap.size + 1 + 1 + 1, 0, none⟩ = _ := ((Keep.refl [] W).alloc oints).cellv hct (by simp)
    have HI := Lib.hid hi; have HW1 := Lib.hid t1; have HT2 := Lib.hid t2; have HT3 := Lib.hid t3; have HT4 := Lib.hid t4; have HR1 := Lib.hid r1; have HR2 := Lib.hid r2; have HR3 := Lib.hid r3; have HR4 := Lib.hid r4; have HBO := Lib.hid hB; have HL := Lib.hid hl
    clear hi t1 t2 t3 t4 r1 r2 r3 r4 hB hl
    gi_wp2_with fail
    refine wpIn_one ?_
    apply Exists.intro
    apply Exists.intro
    refine ⟨?_, ?_⟩
    · gi_region
      all_goals exact ⟨rfl, rfl, rfl⟩
    generalize hW2 : ((W.setCell ⟨w.heap.size + 1 + 1, i, none⟩ (.slice (some ⟨W.heap.size, 0, none⟩) (m + 1) (m + 1))).alloc oints).drew = W2
    obtain ⟨G, hG⟩ : ∃ G, G = W.heap.size := ⟨_, rfl⟩
    rw [← hG] at hW2 ⊢
    have hset : (W.setCell ⟨w.heap.size + 1 + 1, i, none⟩ (.slice (some ⟨G, 0, none⟩) (m + 1) (m + 1))).heap.size = G := by rw [hG]; simp [World.setCell]
    have hk2 : Keep [w.heap.size + 1 + 1] W W2 := by rw [← hW2]; exact (((Keep.refl _ _).setCell (by simp) _).alloc _).drew
    have hs2 : W2.heap.size = G + 1 := by rw [← hW2]; show (World.alloc _ _).heap.size = _; rw [World.size_alloc, hset]
    have hb2 : W2.heap[w.heap.size + 1 + 1]? = some (.cells (cur.setIfInBounds i (.slice (some ⟨G, 0, none⟩) (m + 1) (m + 1))) 56 (0, 0)) := by
      rw [← hW2]
      show (World.alloc _ _).heap[_]? = _
      rw [Below.heap_alloc _ _ _ (by rw [hset]; omega)]
      exact block_setCell HR1.out i _
    have hf2 : FillAt W2 G (m + 1) (m + 1) (fun k => lf x y i k) := by
      rw [← hW2, HOI.out]
      have := FillAt.made (W.setCell ⟨w.heap.size + 1 + 1, i, none⟩ (.slice (some ⟨G, 0, none⟩) (m + 1) (m + 1))) (m + 1) (fun k => lf x y i k)
      rw [hset] at this
      exact this
    have hcA2 := hk2.cellv hcA (by simp <;> omega)
    have hcB2 := hk2.cellv hcB (by simp <;> omega)
    have hct2' := hk2.cellv hct (by simp <;> omega)
    have hci2' := hk2.cellv hci (by simp; intro h; exact hBf (h ▸ HT2.out))
    have hcT3 : W2.cell? ⟨w.heap.size + 1 + 1, i, none⟩ = some (.slice (some ⟨G, 0, none⟩) (m + 1) (m + 1)) := by
      rw [cell_of_block hb2, Array.getElem?_setIfInBounds, if_pos rfl, if_pos (by rw [HR2.out, ← HN.out]; omega)]
    have hrow : i < n → ∃ g, W2.cell? ⟨w.heap.size + 1 + 1, i + 1, none⟩ = some (.slice (some ⟨g, 0, none⟩) (m + 1) (m + 1)) ∧ g ≠ G ∧ FillAt W2 g (m + 1) 0 (fun k => lf x y (i + 1) k) := fun hi => by
      obtain ⟨g, g1, g2, g3, g4⟩ := HR4.out (i + 1) (by have := HI.out; omega) (by rw [← HN.out]; omega)
      rw [← HM.out] at g1 g4
      refine ⟨g, ?_, by have := HT3.out g g3; omega, g4.keep hk2 (by simpa using g2)⟩
      rw [cell_of_block hb2, Array.getElem?_setIfInBounds, if_neg (by omega), g1]
    have HW2 := Lib.hid hk2; have HS2 := Lib.hid hs2; have HB2 := Lib.hid hb2; have HF2 := Lib.hid hf2; have HROW := Lib.hid hrow; have HGG := Lib.hid hG
    have HBf := Lib.hid hBf
    have HL2 : Hid (∃ r, W2.heap[l]? = some (.loop r)) := Lib.hid (by obtain ⟨r, hr⟩ := HL.out; exact ⟨r, hk2.at_ hr (by simp; intro h; exact hlf (h ▸ HT2.out))⟩)
    clear hW2 hset hk2 hs2 hb2 hf2 hrow hcA hcB hct hci hcT hfT hcT2 hfT2 hci2 hct2 hG hBf hmki hwr HOI
    gi_wp2_with fail
    refine ⟨trivial, rfl, ?_⟩
    refine ((callsIn_wide.2 (down_any _ _ _ _)).inRound l).mono ?_
    rintro r W3 ⟨rfl, hW3⟩
    have hk3 : Keep [] W2 W3 := by rw [hW3]; exact (Keep.refl _ _).alloc _
    have hs3 : W3.heap.size = G + 1 + 1 := by rw [hW3, World.size_alloc, HS2.out]
    have hbi3 : SlcNeed (G + 1) 56 G (m + 1) W3 := by
      unfold SlcNeed; rw [hW3]
      have := heap_alloc_new W2 (.cells #[.slice (some ⟨G, 0, none⟩) (m + 1) (m + 1)] 56)
      rwa [HS2.out] at this
    have dA := hk3.cellv hcA2 (by simp)
    have dB := hk3.cellv hcB2 (by simp)
    have dt := hk3.cellv hct2' (by simp)
    have di := hk3.cellv hci2' (by simp)
    have dT := hk3.cellv hcT3 (by simp)
    rw [HS2.out]
    have HK3 := Lib.hid hk3; have HS3 := Lib.hid hs3; have HBI3 := Lib.hid hbi3
    have HDA := Lib.hid dA; have HDB := Lib.hid dB; have HDt := Lib.hid dt; have HDi := Lib.hid di; have HDT := Lib.hid dT
    clear hW3 hk3 hs3 hbi3 hcA2 hcB2 hct2' hci2' hcT3 dA dB dt di dT
    gi_wp2_with fail
    refine wpIn_rangeN (l₀ := l) (gf := 53) (lb := #[.pointer (some ⟨G + 1, 0, none⟩)]) (by obtain ⟨r, hr⟩ := HL2.out; exact ⟨r, HK3.out.at_ hr (by simp)⟩) rfl (enters_of Try.func53 (by kernel_rfl) rfl)
      (down1_iters (G + 1) G (m + 1) (by omega)) (fun W hk => HBI3.out.keep hk (by simp)) ?ps2 [G]
      (fun b hb => by cases hb) (fun b hb => by simp at hb; subst hb; have := HS3.out; simp; omega) (fun b hb => by simp at hb; subst hb; have := HS3.out; omega)
      (fun k fp V => fp = [G] ∧ Keep [G] W3 V ∧ FillAt V G (m + 1) (m + 1 - k) (fun k => lf x y i k)) ?rd2 (fun _ _ _ _ => False) ?st2 (fun _ _ _ _ _ _ h _ _ => h)
      ⟨rfl, Keep.refl _ _, HF2.out.keep HK3.out (by simp)⟩ (fun k => { tmps := #[.slice ada n ca, .slice adb m cb, .pointer (some ⟨w.heap.size, 0, none⟩), .pointer (some ⟨w.heap.size + 1, 0, none⟩), .slice none 0 0, .pointer (some ⟨w.heap.size + 1 + 1 + 1, 0, none⟩), .pointer (some ⟨B, 0, none⟩), .int .i64 ((m - k : Nat) : Int), .slice ada n ca, .int .i64 (n : Int), .int .i64 ((n : Int) + 1), .slice (some ⟨w.heap.size + 1 + 1, 0, none⟩) (n + 1) (n + 1), .slice (some ⟨w.heap.size + 1 + 1, 0, none⟩) (n + 1) (n + 1), .func (.func 52) #[] #[.pointer (some ⟨w.heap.size + 1 + 1 + 1 + 1, 0, none⟩)], .int .i64 (i : Int), .slice none 0 0, .slice (some ⟨w.heap.size + 1 + 1, 0, none⟩) (n + 1) (n + 1), .int .i64 (i : Int), .slice adb m cb, .int .i64 (m : Int), .int .i64 ((m : Int) + 1), .slice (some ⟨G, 0, none⟩) (m + 1) (m + 1), .pointer (some ⟨w.heap.size + 1 + 1, i, none⟩), .slice (some ⟨w.heap.size + 1 + 1, 0, none⟩) (n + 1) (n + 1), .int .i64 (i : Int), .pointer (some ⟨w.heap.size + 1 + 1, i, none⟩), .slice (some ⟨G, 0, none⟩) (m + 1) (m + 1), .func (.func 53) #[] #[.pointer (some ⟨G + 1, 0, none⟩)], .int .i64 ((m - k : Nat) : Int), .int .i64 0, undef, undef, undef, undef, undef, undef, undef, undef, undef, undef, undef, undef, undef, undef, undef, undef, undef, undef, undef, undef, undef, undef, undef, undef, undef, undef, undef, undef, undef, undef, undef, undef, undef, undef, undef, undef, undef, undef, undef, undef, undef, undef, undef, undef, undef, undef, undef, undef, undef, undef, undef, undef, undef, undef, undef, undef, undef, undef, undef, undef, undef, undef, undef, undef, undef, undef, undef, undef, undef, undef, undef, undef, undef, undef, undef, undef, undef, undef, undef, undef], defers := [] }) ?assign2 ?body2 ?done2 (fun _ _ _ _ _ h => h.elim)
    case ps2 => intro x hx; simp only [downArgs, List.mem_map] at hx; obtain ⟨k, _, rfl⟩ := hx; rfl
    case rd2 =>
      rintro k hk fp V ⟨_, _, hf⟩
      rw [downArgs_length] at hk
      exact hf.zero (by omega) (by omega)
    case st2 =>
      rintro k fp W1 W2 S ⟨rfl, h1, h2⟩ hk hS
      have hG' : G ∉ S := fun h => (hS _ h).1 (by simp)
      exact ⟨rfl, h1.trans hk (fun b hb => .inr (by rcases (hS b hb).2 with h | h; cases h; exact h)), h2.keep hk hG'⟩
    case assign2 =>
      intro l' k' hk' V K hK
      rw [downArgs_length] at hk'
      rw [downArgs_get (.int .i64 0) (m + 1) k' (m - k') (by rw [downArgs_length]; omega) (by omega)]
      generalize ((m - k' : Nat) : Int) = q at hK ⊢
      gi_wp2
      exact hK
    case done2 =>
      rintro fp' V ⟨rfl, hk4, hf4⟩
      rw [downArgs_length, Nat.sub_self] at hf4
      have hGb : w.heap.size + 1 + 1 + 1 + 1 < G := by have := HW1.out.size; have := HSZ.out; have := HGG.out; omega
      have kW : Keep [w.heap.size + 1 + 1] W V := (HW2.out.trans0 HK3.out).trans hk4 (by intro b hb; simp at hb; subst hb; right; have := HGG.out; omega)
      have hbT : V.heap[w.heap.size + 1 + 1]? = some (.cells (cur.setIfInBounds i (.slice (some ⟨G, 0, none⟩) (m + 1) (m + 1))) 56 (0, 0)) := hk4.at_ (HK3.out.at_ HB2.out (by simp)) (by simp <;> omega)
      have hVs : G < V.heap.size := hf4.lt
      have hfin : TabInv w1 (w.heap.size + 1 + 1) x y (n + 1 - (k + 1)) (G :: fp) V := by
        refine ⟨HW1.out.trans' kW, List.mem_cons_of_mem _ HT2.out, fun b hb => ?_, fun b hb => ?_, _, hbT, by simpa using HR2.out, fun i' hi' hi2 => ?_, fun i' hi' hi2 => ?_⟩
        · rcases List.mem_cons.1 hb with h | h
          · omega
          · exact Nat.lt_of_lt_of_le (HT3.out b h) kW.size
        · rcases List.mem_cons.1 hb with h | h
          · right; have := HW1.out.size; have := HGG.out; omega
          · exact HT4.out b h
        · have := HI.out
          rw [Array.getElem?_setIfInBounds, if_neg (by omega)]
          exact HR3.out i' (by omega) hi2
        · have hI := HI.out
          by_cases e : i' = i
          · subst e
            refine ⟨G, ?_, by omega, by simp, ?_⟩
            · rw [Array.getElem?_setIfInBounds, if_pos rfl, if_pos (by rw [HR2.out]; omega), ← HM.out]
            · rw [← HM.out]; exact hf4
          · obtain ⟨g, g1, g2, g3, g4⟩ := HR4.out i' (by omega) hi2
            refine ⟨g, ?_, g2, List.mem_cons_of_mem _ g3, g4.keep kW (by simpa using g2)⟩
            rw [Array.getElem?_setIfInBounds, if_neg (by omega), g1]
      have HFIN := Lib.hid hfin
      have hkf : Keep fp W V := kW.mono (fun b hb => by simp at hb; subst hb; exact .inl HT2.out)
      have HKF := Lib.hid hkf
      clear hfin hkf kW hbT hk4 hf4
      gi_wp2
      refine ⟨G :: fp, HFIN.out, HKF.out, fun b hb => ?_⟩
      rcases List.mem_cons.1 hb with h | h
      · right; have := HGG.out; omega
      · exact .inl h
    case body2 =>
      rintro l' k' hk' fp' V ⟨rfl, hk4, hf4⟩
      rw [downArgs_length] at hk'
      obtain ⟨j, hj⟩ : ∃ j, j = m - k' := ⟨_, rfl⟩
      rw [← hj]
      rw [show m + 1 - k' = j + 1 by omega] at hf4
      have hjm : j ≤ m := by omega
      have hGb : w.heap.size + 1 + 1 + 1 + 1 < G := by have := HW1.out.size; have := HSZ.out; have := HGG.out; omega
      have hBG : B < G := by rw [HGG.out]; exact lt_of_block HBO.out
      have eA := hk4.cellv HDA.out (by simp <;> omega)
      have eB := hk4.cellv HDB.out (by simp <;> omega)
      have et := hk4.cellv HDt.out (by simp <;> omega)
      have ei := hk4.cellv HDi.out (by simp <;> omega)
      have eT := hk4.cellv HDT.out (by simp <;> omega)
      have eG := hf4.zero (i := j) (by omega) (by omega)
      have fG := hf4.free j
      have hji : ((j : Int) < (m : Int) + 1) := by omega
      have HJ := Lib.hid hj
      have hpost : ∀ v : Int, v = (lf x y i j : Int) → Hid ((fun k fp V => fp = [G] ∧ Keep [G] W3 V ∧ FillAt V G (m + 1) (m + 1 - k) (fun k => lf x y i k)) (k' + 1) [G] (V.setCell ⟨G, j, none⟩ (.int .i64 v)).drew ∧ Keep [G] V (V.setCell ⟨G, j, none⟩ (.int .i64 v)).drew) := fun v hv => by
        have k1 : Keep [G] V (V.setCell ⟨G, j, none⟩ (.int .i64 v)).drew := ((Keep.refl _ _).setCell (by simp) _).drew
        refine ⟨⟨rfl, hk4.trans' k1, ?_⟩, k1⟩
        rw [show m + 1 - (k' + 1) = j by omega, hv]
        exact hf4.store (by omega)
      have HK4 := Lib.hid hk4; have HF4 := Lib.hid hf4; have HPO := Lib.hid hpost
      clear hk4 hf4 hj hk' hpost
      by_cases hin2 : i = n
      · subst hin2
        have hv : (m : Int) - (j : Int) = (lf x y i j : Int) := by rw [HN.out, lf_end, ← HM.out]; omega
        have HP := Lib.hid (HPO.out _ hv).out
        clear HPO hv
        gi_wp2_with fail
        refine wpIn_round_still_tail 10 (by kernel_rfl) (by kernel_rfl) ?_
        simp only [List.take_succ_cons, List.take_zero, List.drop_succ_cons, List.drop_zero]
        repeat still_step
        refine wpStill_nil ?_
        gi_wp2
        exact ⟨[G], ⟨rfl, HP.out.1.2.1, HP.out.1.2.2⟩, HP.out.2, FromNew.refl _ _⟩
      · have hlt : i < n := by omega
        have hni : ¬ ((i : Int) = (n : Int)) := by omega
        have hin3 : ((i : Int) < (n : Int)) := by omega
        by_cases hjm2 : j = m
        · subst hjm2
          have hv : (n : Int) - (i : Int) = (lf x y i j : Int) := by rw [HM.out, lf_end', ← HN.out]; omega
          have HP := Lib.hid (HPO.out _ hv).out
          clear HPO hv
          gi_wp2_with fail
          refine wpIn_round_still_tail 10 (by kernel_rfl) (by kernel_rfl) ?_
          simp only [List.take_succ_cons, List.take_zero, List.drop_succ_cons, List.drop_zero]
          repeat still_step
          refine wpStill_nil ?_
          gi_wp2
          exact ⟨[G], ⟨rfl, HP.out.1.2.1, HP.out.1.2.2⟩, HP.out.2, FromNew.refl _ _⟩
        · have hjlt : j < m := by omega
          have hnj : ¬ ((j : Int) = (m : Int)) := by omega
          have hjm3 : ((j : Int) < (m : Int)) := by omega
          have hix : i < x.length := by rw [← HN.out]; exact hlt
          have hjy : j < y.length := by rw [← HM.out]; exact hjlt
          have kV : Keep [] w V := (((HK1.out.trans HW1.out (by intro b hb; simp at hb; subst hb; right; omega)).trans HW2.out (by intro b hb; simp at hb; subst hb; right; omega)).trans0 HK3.out).trans HK4.out (by intro b hb; simp at hb; subst hb; right; omega)
          obtain ⟨ba, oa, rfl, hca⟩ := HA.out (by omega)
          obtain ⟨bb, ob, rfl, hcb⟩ := HB.out (by omega)
          have exi := kV.cellv (hca i (.int .i32 x[i]) (by rw [List.getElem?_map, List.getElem?_eq_getElem hix]; rfl)) (by simp)
          have eyj := kV.cellv (hcb j (.int .i32 y[j]) (by rw [List.getElem?_map, List.getElem?_eq_getElem hjy]; rfl)) (by simp)
          obtain ⟨g, g1, g2, g3⟩ := HROW.out hlt
          have k4 : Keep [G] W2 V := (HK3.out.mono (by simp)).trans' HK4.out
          have eT1 := k4.cellv g1 (by simp <;> omega)
          have f3 := g3.keep k4 (by simpa using g2)
          have er1 := f3.cell (i := j + 1) (Nat.zero_le _) (by omega)
          have er0 := f3.cell (i := j) (Nat.zero_le _) (by omega)
          have eg1 := HF4.out.cell (i := j + 1) (Nat.le_refl _) (by omega)
          have hwi : IntKind.i64.wrap ((i : Int) + 1) = (i : Int) + 1 := by rw [IntKind.wrap_i64]; omega
          have hwj : IntKind.i64.wrap ((j : Int) + 1) = (j : Int) + 1 := by rw [IntKind.wrap_i64]; omega
          have hi1n : ((i : Int) + 1 < (n : Int) + 1) := by omega
          have hj1m : ((j : Int) + 1 < (m : Int) + 1) := by omega
          have h0i : (0 : Int) ≤ (i : Int) + 1 := by omega
          have h0j : (0 : Int) ≤ (j : Int) + 1 := by omega
          have hti : ((i : Int) + 1).toNat = i + 1 := by omega
          have htj : ((j : Int) + 1).toNat = j + 1 := by omega
          have HKV := Lib.hid kV; have HF3 := Lib.hid f3; have HCA := Lib.hid hca; have HCB := Lib.hid hcb
          clear kV f3 hca hcb k4 g1 g3
          have hsame : x[i] = y[j] → (lf x y (i + 1) (j + 1) : Int) = (lf x y i j : Int) := fun h => by rw [lf_same hix hjy h]
          have hdiff : x[i] ≠ y[j] → 1 + min (lf x y (i + 1) j : Int) (lf x y i (j + 1) : Int) = (lf x y i j : Int) := fun h => by rw [lf_ne hix hjy h]; omega
          have hl1 := lf_le x y (i + 1) j
          have hl2 := lf_le x y i (j + 1)
          have HSA := Lib.hid hsame; have HDF := Lib.hid hdiff
          rw [← HN.out, ← HM.out] at hl1 hl2
          clear hsame hdiff
          generalize x[i] = xi at *
          generalize y[j] = yj at *
          by_cases hxy : xi = yj
          · subst hxy
            have HP := Lib.hid (HPO.out _ (HSA.out rfl)).out
            clear HPO HSA HDF
            generalize (lf x y (i + 1) (j + 1) : Int) = v11 at *
            gi_wp2_with fail
            refine wpIn_round_still_tail 9 (by kernel_rfl) (by kernel_rfl) ?_
            simp only [List.take_succ_cons, List.take_zero, List.drop_succ_cons, List.drop_zero]
            repeat still_step
            refine wpStill_nil ?_
            gi_wp2_with fail
            refine wpIn_round_still_tail 15 (by kernel_rfl) (by kernel_rfl) ?_
            simp only [List.take_succ_cons, List.take_zero, List.drop_succ_cons, List.drop_zero]
            repeat still_step
            refine wpStill_nil ?_
            gi_wp2
            exact ⟨[G], ⟨rfl, HP.out.1.2.1.drew, HP.out.1.2.2⟩, HP.out.2.drew, FromNew.refl _ _⟩
          · clear HSA
            have hdxy : decide (xi = yj) = false := by simpa using hxy
            generalize (lf x y (i + 1) j) = v10 at *
            generalize (lf x y i (j + 1)) = v01 at *
            gi_wp2_with fail
            refine wpIn_round_still_tail 9 (by kernel_rfl) (by kernel_rfl) ?_
            simp only [List.take_succ_cons, List.take_zero, List.drop_succ_cons, List.drop_zero]
            repeat still_step
            refine wpStill_nil ?_
            gi_wp2_with fail
            refine wpIn_round_still_tail 24 (by kernel_rfl) (by kernel_rfl) ?_
            simp only [List.take_succ_cons, List.take_zero, List.drop_succ_cons, List.drop_zero]
            repeat still_step
            refine wpStill_nil ?_
            gi_wp2
            all_goals first
              | (have HP := (HPO.out (1 + (v10 : Int)) (by have := HDF.out hxy; omega)).out; exact ⟨[G], ⟨rfl, HP.1.2.1.drew, HP.1.2.2⟩, HP.2.drew, FromNew.refl _ _⟩)
              | (have HP := (HPO.out (1 + (v01 : Int)) (by have := HDF.out hxy; omega)).out; exact ⟨[G], ⟨rfl, HP.1.2.1.drew, HP.1.2.2⟩, HP.2.drew, FromNew.refl _ _⟩)
  case stop => exact fun _ _ _ _ _ _ _ h => h.elim
  case done =>
    rintro D fp W hD hI hK
    rw [downArgs_length, Nat.sub_self] at hI
    obtain ⟨t1, t2, t3, t4, hR⟩ := hI
    have hct := t1.cellv (cell_of_one HBt.out) (by simp <;> omega)
    have hTab := hR.tab
    have hkk : Keep [] w W := HK1.out.trans t1 (by intro b hb; simp at hb; subst hb; right; omega)
    rw [← HN.out] at hTab
    have HTab := Lib.hid hTab; have HKK := Lib.hid hkk; have HK := Lib.hid hK
    clear t1 t2 t3 t4 hR hTab hkk hK
    gi_wp2
    refine ⟨by simp, .inl ⟨_, _, rfl, run_takeDeferred HK.out, ?_⟩⟩
    refine ⟨_, results_tmp rfl _ _ _, _, rfl, ?_, ?_⟩
    · rw [HN.out] at HTab ⊢
      exact HTab.out.put HK.out _
    · exact HKK.out.trans (keep_putObj W D _) (fun b hb => by simp at hb; subst hb; right; have := HSZ.out; omega)
end Go.Proofs.Ytddbjclpmkelaaa
