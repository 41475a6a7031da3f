/-
  The reference's Apply.
-/
import Derived.Test.YtddbjclpmkelaaaDifV
namespace Go.Proofs.Ytddbjclpmkelaaa
open Go.RowKit
set_option linter.unusedVariables false
set_option linter.unusedSimpArgs false

theorem sub_at {W : World} {ad : Option Addr} {n c : Nat} {cs : List Value} (h : SlAt W (.slice ad n c) n cs) (hn : n ≤ c) {lo hi : Nat} (h1 : lo ≤ hi) (h2 : hi ≤ n) : SlAt W (sliced ad lo hi c 1) (hi - lo) ((cs.drop lo).take (hi - lo)) := by
  obtain ⟨ad', cap', e, ⟨h0, hnil⟩, hc⟩ := h
  simp only [Value.slice.injEq] at e
  obtain ⟨rfl, _, rfl⟩ := e
  unfold sliced
  refine ⟨_, _, rfl, ⟨fun h3 => by rw [h3]; simp, fun h3 => ?_⟩, fun h3 => ?_⟩
  · split at h3
    · omega
    · cases ad with
      | none => have := hnil rfl; omega
      | some a => simp at h3
  · obtain ⟨b, off, rfl, hcc⟩ := hc (by omega)
    rw [if_neg (by omega)]
    refine ⟨b, off + lo, ?_, fun i u hu => ?_⟩
    · rw [Nat.mul_one, Option.map_some]
      simp only [Addr.add]
      split
      · rename_i h5; subst h5; rfl
      · rfl
    · rw [List.getElem?_take] at hu
      split at hu
      · rw [List.getElem?_drop] at hu
        have := hcc (lo + i) u hu
        rwa [← Nat.add_assoc] at this
      · simp at hu
theorem sub_map {W : World} {ad : Option Addr} {c : Nat} {x p : List Int} (h : SlAt W (.slice ad x.length c) x.length (x.map (Value.int .i32))) (hn : x.length ≤ c) {lo hi : Nat} (h1 : lo ≤ hi) (h2 : hi ≤ x.length) (hp : p = (x.drop lo).take (hi - lo)) :
    SlAt W (sliced ad lo hi c 1) p.length (p.map (Value.int .i32)) := by
  have := sub_at h hn h1 h2
  have hl : p.length = hi - lo := by rw [hp]; simp; omega
  rw [hl, hp, List.map_take, List.map_drop]
  exact this
theorem app_keep {w1 w2 : World} {base n m sz EB : Nat} {e : TypeId} {v v' : Value} {xs news : List Value} {o : Obj} (ha : AppPost w1 base e sz v n xs m news v' w2) (hb : w1.heap[EB]? = some o) (hne : ∀ g, v.ownBlock = some g → g ≠ EB) :
    w2.heap[EB]? = some o ∧ ∀ g, v'.ownBlock = some g → g ≠ EB := by
  obtain ⟨_, a2, a3, _⟩ := ha
  refine ⟨a2.at_ hb (fun hm => ?_), fun g hg => ?_⟩
  · simp at hm; exact hne _ hm rfl
  · rcases a3 g hg with h | h
    · exact hne g h
    · have := lt_of_block hb; omega
theorem slice_to (ad : Option Addr) (n c k : Nat) (h : k ≤ c) (W : World) : (Instr.slice 44 (.slice ad n c) none (some (.int .i64 (k : Int))) none).run Try.prog W = .ok (sliced ad 0 k c 1) W := by
  have hs : (sizeOf (Try.prog.elem 44)).run Try.prog W = .ok 1 W := by kernel_rfl
  rw [run_slice_any (P := Try.prog) W 44 ad n c (by kernel_rfl)]
  have hb : (Instr.sliceBounds true n c none (some (.int .i64 (k : Int))) none).run Try.prog W = .ok (0, k, c) W := by simp [Instr.sliceBounds, run_sliceBound, h]
  rw [hb]
  simp only [Result.andThen, hs]
theorem slice_fr (ad : Option Addr) (n c k : Nat) (h : k ≤ n) (W : World) : (Instr.slice 44 (.slice ad n c) (some (.int .i64 (k : Int))) none none).run Try.prog W = .ok (sliced ad k n c 1) W := by
  have hs : (sizeOf (Try.prog.elem 44)).run Try.prog W = .ok 1 W := by kernel_rfl
  rw [run_slice_any (P := Try.prog) W 44 ad n c (by kernel_rfl)]
  have hb : (Instr.sliceBounds true n c (some (.int .i64 (k : Int))) none none).run Try.prog W = .ok (k, n, c) W := by simp [Instr.sliceBounds, run_sliceBound, h]
  rw [hb]
  simp only [Result.andThen, hs]
theorem slice_be (ad : Option Addr) (n c lo hi : Nat) (h1 : lo ≤ hi) (h2 : hi ≤ c) (W : World) : (Instr.slice 44 (.slice ad n c) (some (.int .i64 (lo : Int))) (some (.int .i64 (hi : Int))) none).run Try.prog W = .ok (sliced ad lo hi c 1) W := by
  have hs : (sizeOf (Try.prog.elem 44)).run Try.prog W = .ok 1 W := by kernel_rfl
  rw [run_slice_any (P := Try.prog) W 44 ad n c (by kernel_rfl)]
  have hb : (Instr.sliceBounds true n c (some (.int .i64 (lo : Int))) (some (.int .i64 (hi : Int))) none).run Try.prog W = .ok (lo, hi, c) W := by simp [Instr.sliceBounds, run_sliceBound, h1, h2]
  rw [hb]
  simp only [Result.andThen, hs]
theorem rune_one (l : List Int) : ∀ u ∈ l.map (Value.int .i32), u.oneCell' = true := by
  intro u hu
  obtain ⟨x, _, rfl⟩ := List.mem_map.1 hu
  rfl
/-- Behind an append to one of two rows of unlike types. -/
theorem two_rows {w wr w1 w2 : World} {base n n' m : Nat} {e e' : TypeId} {v v' u : Value} {cs cs' news : List Value} (hb : w.heap.size ≤ base) (h1 : wr.ownsRow base e 1 v n cs) (hu : wr.ownsRow base e' 1 u n' cs') (he : e' ≠ e) (h2 : Keep [] w wr) (hw1 : Keep [] wr w1)
    (ha : AppPost w1 base e 1 v n cs m news v' w2) : w2.ownsRow base e 1 v' (n + m) (cs ++ news) ∧ w2.ownsRow base e' 1 u n' cs' ∧ Keep [] w w2 ∧ (v' = .slice none 0 0 ↔ v = .slice none 0 0 ∧ m = 0) := by
  obtain ⟨a1, a2, a3, a4⟩ := ha
  exact ⟨a1, a2.owns (hw1.owns hu (by simp)) (own_type hu h1 he), (h2.trans0 hw1).trans a2 (fun b hb' => by simp at hb'; exact .inr (Nat.le_trans hb (h1.lt b hb').1)), a4⟩

set_option maxRecDepth 100000 in
set_option maxHeartbeats 16000000 in
theorem rapply_any (a : ByteArray) (va : Value) (l : List EdV) (w : World) (he : EdAt w va l) (hl : l.length ≤ 1000) (ha : a.size ≤ 1000000) (hb : ∀ e ∈ l, -9223372036854775808 ≤ e.1 ∧ e.1 ≤ 9223372036854775807 ∧ -9223372036854775808 ≤ e.2.1 ∧ e.2.1 ≤ 9223372036854775807 ∧ e.2.2.size ≤ 10000) :
    Calls Try.prog 16 #[.string a, va] w (ApOut .i64 (apAll a l) w) := by
  obtain ⟨i0, hi, hz0, hz1, hz2⟩ := info_parts info_str
  have HI := Lib.hid hi; have HZ0 := Lib.hid hz0; have HZ1 := Lib.hid hz1; have HZ2 := Lib.hid hz2
  clear hi hz0 hz1 hz2
  obtain ⟨j0, hi, hz0, hz1, hz2⟩ := info_parts info_rune
  have JI := Lib.hid hi; have JZ0 := Lib.hid hz0; have JZ1 := Lib.hid hz1; have JZ2 := Lib.hid hz2
  clear hi hz0 hz1 hz2
  obtain ⟨ada, ca, rfl, h1⟩ := he
  have H1 := Lib.hid h1; clear h1
  obtain ⟨n, hn⟩ : ∃ n, n = l.length := ⟨_, rfl⟩
  rw [← hn] at hl ⊢
  have HNN := Lib.hid hn; have HB := Lib.hid hb; clear hn hb
  go_enter Try.func16, Try.ntmps16
  go_wp2_with fail
  refine (rgood_any a _ (by omega)).mono ?_
  rintro q w0 ⟨rfl, hk0⟩
  have HK0 := Lib.hid hk0; clear hk0
  by_cases hga : 0 ≤ badAt a
  · have HO : Hid (apAll a l = (2, [], [])) := by show _ = _; unfold apAll; rw [if_pos hga]
    rw [decide_eq_false (by omega)]
    go_wp2_with fail
    go_ret3
    rw [HO.out]
    exact ⟨_, rfl, World.ownsRow_nil _ _ _ _, HK0.out, by simp⟩
  · have HO : Hid (apAll a l = ap (runs a 0) l [] []) := by show _ = _; unfold apAll; rw [if_neg hga]
    rw [decide_eq_true (by omega)]
    have hrl := runs_size a
    go_wp2_with fail
    refine (rrunes_any a _ (by omega)).mono ?_
    rintro r w1 ⟨vx, rfl, ho1, hk1, _⟩
    obtain ⟨adx, cx, hvx, _⟩ := SlAt.of_owns ho1
    have HX1 : Hid (∃ ad c, vx = .slice ad (runs a 0).length c ∧ (runs a 0).length ≤ c ∧ SlAt w1 (.slice ad (runs a 0).length c) (runs a 0).length ((runs a 0).map (Value.int .i32))) := by
      refine Lib.hid ⟨adx, cx, hvx, ?_, by rw [← hvx]; exact SlAt.of_owns ho1⟩
      rw [hvx] at ho1
      rcases ho1.2 with ⟨e, h0⟩ | ⟨g, cap, cur, e, _, _, hc, _⟩
      · omega
      · simp at e; omega
    have HK1 := Lib.hid (HK0.out.trans0 hk1); clear hk1 ho1 hvx
    go_wp2_with fail
    go_loopw [7, 8, 9, 10] (fun sx so sg si wr => ∃ (k : Nat) (x out : List Int) (gone : List (List Int)) (ad : Option Addr) (c : Nat), k ≤ n ∧ si = .int .i64 k ∧ sx = .slice ad x.length c ∧ x.length ≤ c ∧ SlAt w1 (.slice ad x.length c) x.length (x.map (Value.int .i32)) ∧
      ap (runs a 0) l [] [] = ap x (l.drop k) out gone ∧ gone.length ≤ k ∧ out.length + x.length ≤ 1000000 + k * 10000 ∧
      wr.ownsRow w1.heap.size 21 1 so out.length (out.map (Value.int .i32)) ∧ wr.ownsRow w1.heap.size 9 1 sg gone.length (goneCells gone) ∧ (sg = .slice none 0 0 ↔ gone.length = 0) ∧ Keep [] w1 wr) (fun _ _ _ si _ => n - (intOf si).toNat)
    case atStart =>
      obtain ⟨ad, c, h1, h2, h3⟩ := HX1.out
      exact ⟨0, runs a 0, [], [], ad, c, by omega, rfl, h1, h2, h3, rfl, by simp, by simp; omega, World.ownsRow_nil _ _ _ _, World.ownsRow_nil _ _ _ _, by simp, Keep.refl _ _⟩
    case round =>
      obtain ⟨k, x, out, gone, ad, c, hk, rfl, rfl, hxc, hsx, hap, hgl, hsz, hro, hrg, hnil, hkp⟩ := hrel
      have HAP := Lib.hid hap; have HSX := Lib.hid hsx; have HRO := Lib.hid hro; have HRG := Lib.hid hrg; have HNIL := Lib.hid hnil; have HK := Lib.hid hkp
      clear hap hsx hro hrg hnil hkp
      have hsz1 : out.length + x.length ≤ 11000000 := by have : k * 10000 ≤ 1000 * 10000 := Nat.mul_le_mul_right _ (by omega); omega
      have hszw := HK.out.size
      by_cases hlt : k < n
      · have hltd : decide (k < n) = true := by simpa using hlt
        have hkl : k < l.length := by rw [← HNN.out]; exact hlt
        obtain ⟨b1, o1, rfl, c1⟩ := H1.out (by rw [← HNN.out]; omega)
        obtain ⟨p1, p2, p3⟩ := c1 k _ (List.getElem?_eq_getElem hkl)
        have kk := HK1.out.trans0 HK.out
        have d1 := kk.cellv p1 (by simp)
        have d2 := kk.cellv p2 (by simp)
        have d3 := kk.cellv p3 (by simp)
        obtain ⟨hx0, hx1, hx2, hx3, hx4⟩ := HB.out _ (List.getElem_mem hkl)
        rw [List.drop_eq_getElem_cons hkl] at HAP
        have C1 := Lib.hid c1; clear c1 p1 p2 p3 kk
        generalize l[k] = e at *
        obtain ⟨ek, ed, et⟩ := e
        simp only at hx0 hx1 hx2 hx3 hx4 d1 d2 d3
        have hki : ((k : Int) < (n : Int)) := by omega
        go_upto_region 10 with (fail)
        generalize hW : wr.alloc (.cells #[.int .i64 ek, .int .i64 ed, .string et] 32) = W2
        have k2 : Keep [] wr W2 := by rw [← hW]; exact (Keep.refl _ _).alloc _
        have hb2 : W2.heap[wr.heap.size]? = some (.cells #[.int .i64 ek, .int .i64 ed, .string et] 32 (0, 0)) := by rw [← hW]; exact heap_alloc_new _ _
        have e0 : W2.cell? ⟨wr.heap.size, 0, none⟩ = some (.int .i64 ek) := by rw [cell_of_block hb2]; rfl
        have e1 : W2.cell? ⟨wr.heap.size, 1, none⟩ = some (.int .i64 ed) := by rw [cell_of_block hb2]; rfl
        have e2 : W2.cell? ⟨wr.heap.size, 2, none⟩ = some (.string et) := by rw [cell_of_block hb2]; rfl
        have HB2 := Lib.hid hb2
        have HK2 := Lib.hid k2
        clear hW k2 hb2 d1 d2 d3
        by_cases hng : ek < 0 ∨ ed < 0
        · rw [ap_neg hng] at HAP
          by_cases h0 : ek < 0
          · go_wp2_with fail
            go_ret3
            rw [HO.out, HAP.out]
            exact ⟨_, rfl, World.ownsRow_nil _ _ _ _, HK1.out.trans0 (HK.out.trans0 HK2.out), by simp⟩
          · have h0' : ed < 0 := by omega
            go_wp2_with fail
            go_ret3
            rw [HO.out, HAP.out]
            exact ⟨_, rfl, World.ownsRow_nil _ _ _ _, HK1.out.trans0 (HK.out.trans0 HK2.out), by simp⟩
        · have h0 : ¬ ek < 0 := by omega
          have h0' : ¬ ed < 0 := by omega
          go_wp2_with fail
          refine (rgood_any et _ (by omega)).mono ?_
          rintro q w3 ⟨rfl, hk3⟩
          have e0 := hk3.cellv e0 (by simp)
          have e1 := hk3.cellv e1 (by simp)
          have e2 := hk3.cellv e2 (by simp)
          have HK3 := Lib.hid (HK2.out.trans0 hk3); have HKB := Lib.hid hk3; clear hk3
          by_cases hbd : 0 ≤ badAt et
          · rw [ap_bad (e := (ek, ed, et)) (by show ¬ (ek < 0 ∨ ed < 0); omega) hbd] at HAP
            rw [decide_eq_false (by omega)]
            go_wp2_with fail
            go_ret3
            rw [HO.out, HAP.out]
            exact ⟨_, rfl, World.ownsRow_nil _ _ _ _, HK1.out.trans0 (HK.out.trans0 HK3.out), by simp⟩
          · rw [decide_eq_true (by omega)]
            have hel := runs_size et
            by_cases hlg : (x.length : Int) < ek ∨ (x.length : Int) - ek < ed
            · rw [ap_long (e := (ek, ed, et)) (by show ¬ (ek < 0 ∨ ed < 0); omega) (by show ¬ 0 ≤ badAt et; omega) hlg] at HAP
              by_cases hl1 : (x.length : Int) < ek
              · go_wp2_with fail
                go_ret3
                rw [HO.out, HAP.out]
                exact ⟨_, rfl, World.ownsRow_nil _ _ _ _, HK1.out.trans0 (HK.out.trans0 HK3.out), by simp⟩
              · have hl2 : (x.length : Int) - ek < ed := by omega
                go_wp2_with fail
                go_ret3
                rw [HO.out, HAP.out]
                exact ⟨_, rfl, World.ownsRow_nil _ _ _ _, HK1.out.trans0 (HK.out.trans0 HK3.out), by simp⟩
            · rw [ap_next (e := (ek, ed, et)) (by show ¬ (ek < 0 ∨ ed < 0); omega) (by show ¬ 0 ≤ badAt et; omega) hlg] at HAP
              have hl1 : ¬ (x.length : Int) < ek := by omega
              have hl2 : ¬ (x.length : Int) - ek < ed := by omega
              obtain ⟨kk, rfl⟩ := Int.eq_ofNat_of_zero_le (show 0 ≤ ek by omega)
              obtain ⟨dd, rfl⟩ := Int.eq_ofNat_of_zero_le (show 0 ≤ ed by omega)
              simp only [Int.toNat_natCast] at HAP
              have hkd : kk + dd ≤ x.length := by omega
              have hs1 := slice_to ad x.length c kk (by omega)
              have hs2 := slice_be ad x.length c kk (kk + dd) (by omega) (by omega)
              have hs3 := slice_fr ad x.length c (kk + dd) hkd
              have hsum : ((kk + dd : Nat) : Int) = (kk : Int) + (dd : Int) := by omega
              rw [hsum] at hs2 hs3
              obtain ⟨q1, hq1⟩ : ∃ q, q = x.take kk := ⟨_, rfl⟩
              obtain ⟨q2, hq2⟩ : ∃ q, q = (x.drop kk).take dd := ⟨_, rfl⟩
              obtain ⟨q3, hq3⟩ : ∃ q, q = x.drop (kk + dd) := ⟨_, rfl⟩
              rw [← hq1, ← hq2, ← hq3] at HAP
              have a1 := Lib.hid (fun (W : World) (h : Keep [] w1 W) => sub_map (p := q1) (HSX.out.keep0 h) hxc (Nat.zero_le kk) (by omega) (by rw [hq1]; simp))
              have a2 := Lib.hid (fun (W : World) (h : Keep [] w1 W) => sub_map (p := q2) (HSX.out.keep0 h) hxc (show kk ≤ kk + dd by omega) hkd (by rw [hq2, show kk + dd - kk = dd by omega]))
              have a3 := Lib.hid (sub_map (p := q3) HSX.out hxc hkd (Nat.le_refl _) (by rw [hq3, List.take_of_length_le (by simp)]))
              have hl1' : q1.length = kk := by rw [hq1]; simp; omega
              have hl2' : q2.length = dd := by rw [hq2]; simp; omega
              have hl3' : q3.length = x.length - (kk + dd) := by rw [hq3]; simp
              clear hq1 hq2 hq3
              obtain ⟨s1, hs1e⟩ : ∃ s, s = sliced ad 0 kk c 1 := ⟨_, rfl⟩
              obtain ⟨s2, hs2e⟩ : ∃ s, s = sliced ad kk (kk + dd) c 1 := ⟨_, rfl⟩
              obtain ⟨s3, hs3e⟩ : ∃ s, s = sliced ad (kk + dd) x.length c 1 := ⟨_, rfl⟩
              rw [← hs1e] at hs1 a1; rw [← hs2e] at hs2 a2; rw [← hs3e] at hs3 a3
              have HS3E := Lib.hid hs3e
              clear hs1e hs2e hs3e hsum
              go_wp2_with (with_reducible refine park_append 57 61 _ rfl ?_)
              have hb3 : w3.heap[wr.heap.size]? = some (.cells #[.int .i64 (kk : Int), .int .i64 (dd : Int), .string et] 32 (0, 0)) := HKB.out.at_ HB2.out (by simp)
              have hro3 := HK3.out.owns HRO.out (by simp)
              have hrg3 := HK3.out.owns HRG.out (by simp)
              have hk13 := HK.out.trans0 HK3.out
              have hne3 : ∀ g, _ = some g → g ≠ wr.heap.size := fun g hg => Nat.ne_of_lt (HRO.out.lt g hg).2
              have hng3 : ∀ g, _ = some g → g ≠ wr.heap.size := fun g hg => Nat.ne_of_lt (HRG.out.lt g hg).2
              have hsz3 := HK3.out.size
              refine wpList_append_sl _ rfl (.tmp 57) (.tmp 61) 44 rfl w1.heap.size 21 j0 (.int .i32 0) 1 4 Try.underlying44 JI.out JZ0.out JZ1.out JZ2.out rfl (by decide) _ _ _ rfl hro3 s1 q1.length (q1.map (Value.int .i32)) rfl (a1.out _ hk13) (by simp) (rune_one _) (by unfold maxLen; omega) (by omega) (by omega) ?_
              intro v4 w4 hp4
              obtain ⟨r1, r2, r3, _⟩ := two_rows (Nat.le_refl _) hro3 hrg3 (by decide) hk13 (Keep.refl _ _) hp4
              obtain ⟨r4, r5⟩ := app_keep hp4 hb3 hne3
              rw [← List.map_append, ← List.length_append] at r1
              have e2 : w4.cell? ⟨wr.heap.size, 2, none⟩ = some (.string et) := by rw [cell_of_block r4]; rfl
              have HO4 := Lib.hid r1; have HG4 := Lib.hid r2; have HK4 := Lib.hid r3; have HB4 := Lib.hid r4; have HN4 := Lib.hid r5
              have hsz4 := HK4.out.size
              have HNG := Lib.hid hng3
              clear r1 r2 r3 r4 r5 hp4 hb3 hro3 hrg3 hk13 hne3 hng3 e0 e1 a1 hs1
              go_wp2_with fail
              refine (rrunes_any et _ (by omega)).mono ?_
              rintro r w5 ⟨vr, rfl, ho5, hk5, _⟩
              obtain ⟨adr, cr, rfl, _⟩ := SlAt.of_owns ho5
              have hb5 := hk5.at_ HB4.out (by simp)
              have hro5 := hk5.owns HO4.out (by simp)
              have hrg5 := hk5.owns HG4.out (by simp)
              have hk15 := HK4.out.trans0 hk5
              have hsr := SlAt.of_owns ho5
              have hsz5 := hk5.size
              have H5 := Lib.hid (And.intro hb5 (And.intro hro5 (And.intro hrg5 (And.intro hk15 hsr))))
              clear hb5 hro5 hrg5 hk15 hsr ho5 hk5 e2 HO4 HG4 HK4 HB4
              go_wp2_with (with_reducible refine park_append 63 66 _ rfl ?_)
              obtain ⟨hb5, hro5, hrg5, hk15, hsr⟩ := H5.out
              refine wpList_append_sl _ rfl (.tmp 63) (.tmp 66) 44 rfl w1.heap.size 21 j0 (.int .i32 0) 1 4 Try.underlying44 JI.out JZ0.out JZ1.out JZ2.out rfl (by decide) _ _ _ rfl hro5 (.slice adr (runs et 0).length cr) (runs et 0).length ((runs et 0).map (Value.int .i32)) rfl hsr (by simp) (rune_one _) (by unfold maxLen; rw [List.length_append]; omega) (by rw [List.length_append]; omega) (by omega) ?_
              intro v6 w6 hp6
              obtain ⟨r1, r2, r3, _⟩ := two_rows (Nat.le_refl _) hro5 hrg5 (by decide) hk15 (Keep.refl _ _) hp6
              obtain ⟨r4, r5⟩ := app_keep hp6 hb5 HN4.out
              rw [← List.map_append, ← List.length_append] at r1
              have e0 : w6.cell? ⟨wr.heap.size, 0, none⟩ = some (.int .i64 (kk : Int)) := by rw [cell_of_block r4]; rfl
              have e1 : w6.cell? ⟨wr.heap.size, 1, none⟩ = some (.int .i64 (dd : Int)) := by rw [cell_of_block r4]; rfl
              have HO6 := Lib.hid r1; have HG6 := Lib.hid r2; have HK6 := Lib.hid r3; have HB6 := Lib.hid r4
              have hsz6 := HK6.out.size
              clear r1 r2 r3 r4 r5 hp6 hb5 hro5 hrg5 hk15 hsr H5
              go_wp2_with fail
              refine (rtext_any s2 q2 _ (a2.out _ HK6.out) (by omega)).mono ?_
              rintro r w7 ⟨rfl, hk7⟩
              have hb7 := hk7.at_ HB6.out (by simp)
              have hro7 := hk7.owns HO6.out (by simp)
              have hrg7 := hk7.owns HG6.out (by simp)
              have hk17 := HK6.out.trans0 hk7
              have hsz7 := hk7.size
              have H7 := Lib.hid (And.intro hb7 (And.intro hro7 (And.intro hrg7 hk17)))
              clear hb7 hro7 hrg7 hk17 hk7 e0 e1 HO6 HG6 HK6 HB6 a2 hs2
              obtain ⟨tq, htq⟩ : ∃ t, t = txt q2 := ⟨_, rfl⟩
              rw [← htq]
              have HTQ := Lib.hid htq; clear htq
              go_wp2_with (with_reducible refine park_append 68 79 _ rfl ?_)
              obtain ⟨hb7, hro7, hrg7, hk17⟩ := H7.out
              refine wpList_append_mine _ rfl (.tmp 68) (.tmp 79) 37 rfl w1.heap.size 9 i0 (.string ByteArray.empty) 1 16 Try.underlying37 HI.out HZ0.out HZ1.out HZ2.out rfl (by decide) _ _ _ rfl (hrg7.alloc _) ⟨w7.heap.size, 0, none⟩ 1 1 [.string tq] rfl rfl (cell_new_row _ _ _) (by simp [Value.oneCell']) (by unfold maxLen; omega) (by omega) (by simp; omega) ?_
              intro v8 w8 hp8
              obtain ⟨r1, r2, r3, r6⟩ := two_rows (Nat.le_refl _) hrg7 hro7 (by decide) hk17 ((Keep.refl _ _).alloc _) hp8
              obtain ⟨r4, r5⟩ := app_keep hp8 (((Keep.refl [] w7).alloc _).at_ hb7 (by simp)) HNG.out
              have e0 : w8.cell? ⟨wr.heap.size, 0, none⟩ = some (.int .i64 (kk : Int)) := by rw [cell_of_block r4]; rfl
              have e1 : w8.cell? ⟨wr.heap.size, 1, none⟩ = some (.int .i64 (dd : Int)) := by rw [cell_of_block r4]; rfl
              have HO8 := Lib.hid r2; have HG8 := Lib.hid r1; have HK8 := Lib.hid r3; have HN8 := Lib.hid r6
              clear r1 r2 r3 r4 r5 r6 hp8 hb7 hro7 hrg7 hk17 H7
              go_wp2_with fail
              obtain ⟨ad3, c3, h3e, h3c⟩ : ∃ ad3 c3, s3 = .slice ad3 q3.length c3 ∧ q3.length ≤ c3 := ⟨_, _, by rw [HS3E.out, hl3']; unfold sliced; rfl, by omega⟩
              have ha3 := a3.out
              rw [h3e] at ha3
              go_roundw
              case rel =>
                refine ⟨k + 1, q3, _, _, ad3, c3, by omega, by go_num, h3e, h3c, ha3, HAP.out, by rw [List.length_append]; simp; omega, ?_, HO8.out, ?_, ?_, HK8.out⟩
                · simp only [List.length_append]; omega
                · rw [goneCells_snoc, ← HTQ.out, List.length_append]; exact HG8.out
                · rw [HN8.out]; simp
              case measure => simp [intOf]; omega
      · have hltd : decide (k < n) = false := by simpa using hlt
        obtain rfl : k = n := by omega
        rw [HNN.out, List.drop_length, ap] at HAP
        have hsx := HSX.out.keep0 HK.out
        have HS2 := Lib.hid hsx; clear hsx
        go_wp2_with (with_reducible refine park_append 88 89 _ rfl ?_)
        refine wpList_append_sl _ rfl (.tmp 88) (.tmp 89) 44 rfl w1.heap.size 21 j0 (.int .i32 0) 1 4 Try.underlying44 JI.out JZ0.out JZ1.out JZ2.out rfl (by decide) _ _ _ rfl HRO.out (.slice ad x.length c) x.length (x.map (Value.int .i32)) rfl HS2.out (by simp) (rune_one _) (by unfold maxLen; omega) (by omega) (by omega) ?_
        intro v4 w4 hp4
        obtain ⟨r1, r2, r3, _⟩ := two_rows (Nat.le_refl _) HRO.out HRG.out (by decide) HK.out (Keep.refl _ _) hp4
        rw [← List.map_append, ← List.length_append] at r1
        have HO4 := Lib.hid (SlAt.of_owns r1); have HG4 := Lib.hid r2; have HK4 := Lib.hid r3
        clear r1 r2 r3 hp4
        go_wp2_with fail
        refine (rtext_any v4 (out ++ x) _ HO4.out (by rw [List.length_append]; omega)).mono ?_
        rintro r w5 ⟨rfl, hk5⟩
        have HG5 := Lib.hid (hk5.owns HG4.out (by simp)); have HK5 := Lib.hid (HK1.out.trans0 (HK4.out.trans0 hk5)); clear hk5
        go_wp2_with fail
        go_ret3
        rw [HO.out, HAP.out]
        exact ⟨_, rfl, owns_mono HG5.out HK1.out.size, HK5.out, HNIL.out⟩
end Go.Proofs.Ytddbjclpmkelaaa
