/-
  The longest row that stands in both texts: walk of the law's 'longest'.
-/
import Derived.Test.YtddbjclpmkelaaaDifH
namespace Go.Proofs.Ytddbjclpmkelaaa
open Go.RowKit Go.Shelf
set_option linter.unusedVariables false
set_option linter.unusedSimpArgs false

/-- Block g holds n numbers: those up to q are f's, those behind it are 0. -/
def FwdAt (W : World) (g n q : Nat) (f : Nat → Int) : Prop :=
  ∃ cur : Array Value, W.heap[g]? = some (.cells cur 3 (0, 0)) ∧ cur.size = n ∧ ∀ i, i < n → cur[i]? = some (.int .i64 (if i ≤ q then f i else 0))
namespace FwdAt
variable {W W' : World} {g n q : Nat} {f : Nat → Int} {L : List Nat}
theorem keep (h : FwdAt W g n q f) (k : Keep L W W') (hg : g ∉ L) : FwdAt W' g n q f := by
  obtain ⟨cur, h1, h2⟩ := h; exact ⟨cur, k.at_ h1 hg, h2⟩
theorem lt (h : FwdAt W g n q f) : g < W.heap.size := by obtain ⟨cur, h1, _⟩ := h; exact lt_of_block h1
theorem cell (h : FwdAt W g n q f) {i : Nat} (hm : i ≤ q) (hi : i < n) : W.cell? ⟨g, i, none⟩ = some (.int .i64 (f i)) := by
  obtain ⟨cur, h1, h2, h3⟩ := h
  rw [cell_of_block h1, h3 i hi, if_pos hm]
theorem zero (h : FwdAt W g n q f) {i : Nat} (hm : q < i) (hi : i < n) : W.cell? ⟨g, i, none⟩ = some (.int .i64 0) := by
  obtain ⟨cur, h1, h2, h3⟩ := h
  rw [cell_of_block h1, h3 i hi, if_neg (by omega)]
theorem free (h : FwdAt W g n q f) (i : Nat) : W.frozen? ⟨g, i, none⟩ = false := by
  obtain ⟨cur, h1, _⟩ := h; exact free_of_block h1 i
theorem store (h : FwdAt W g n q f) (hm : q + 1 < n) : FwdAt (W.setCell ⟨g, q + 1, none⟩ (.int .i64 (f (q + 1)))) g n (q + 1) f := by
  obtain ⟨cur, h1, h2, h3⟩ := h
  refine ⟨_, block_setCell h1 (q + 1) _, by simpa using h2, fun i hi => ?_⟩
  rw [Array.getElem?_setIfInBounds]
  by_cases hmi : q + 1 = i
  · subst hmi
    rw [if_pos rfl, if_pos (by omega), if_pos (Nat.le_refl _)]
  · rw [if_neg hmi, h3 i hi]
    by_cases h5 : i ≤ q
    · rw [if_pos h5, if_pos (by omega)]
    · rw [if_neg h5, if_neg (by omega)]
theorem other (h : FwdAt W g n q f) (b i : Nat) (v : Value) (hb : b ≠ g) : FwdAt (W.setCell ⟨b, i, none⟩ v) g n q f :=
  h.keep (L := [b]) ((Keep.refl [b] W).setCell (.inl (by simp)) _) (by simp; exact fun h => hb h.symm)
end FwdAt
theorem FwdAt.made (w : World) (n q : Nat) (f : Nat → Int) (h : ∀ i, i ≤ q → f i = 0) : FwdAt (w.alloc (.cells (madeCells #[.int .i64 0] n) 3)) w.heap.size n q f := by
  refine ⟨_, heap_alloc_new _ _, size_madeCells _ _, fun i hi => ?_⟩
  rw [made_get _ _ _ hi]
  split
  · rename_i hq; rw [h i hq]
  · rfl

/-- How much the first i and the first j runes have in common. -/
def pl (x y : List Int) (i j : Nat) : Nat := lcs (x.take i) (y.take j)
theorem pl_zero (x y : List Int) (j : Nat) : pl x y 0 j = 0 := by simp [pl, nil_lcs]
theorem pl_nil (x y : List Int) (i : Nat) : pl x y i 0 = 0 := by simp [pl, lcs_nil]
theorem pl_nil0 (x y : List Int) (i : Nat) : ∀ j, j ≤ 0 → (pl x y i j : Int) = 0 := by
  intro j hj
  have h : j = 0 := by omega
  subst h; rw [pl_nil]; rfl
theorem pl_all (x y : List Int) : pl x y x.length y.length = lcs x y := by simp [pl]
theorem pl_rev (x y : List Int) (i j : Nat) : pl x y i j = lcs (x.take i).reverse (y.take j).reverse := by rw [lcs_reverse]; rfl
theorem take_rev {x : List Int} {i : Nat} (hi : i < x.length) : (x.take (i + 1)).reverse = x[i] :: (x.take i).reverse := by
  rw [List.take_succ_eq_append_getElem hi, List.reverse_append]; rfl
theorem pl_same {x y : List Int} {i j : Nat} (hi : i < x.length) (hj : j < y.length) (h : x[i] = y[j]) : pl x y (i + 1) (j + 1) = pl x y i j + 1 := by
  rw [pl_rev, pl_rev x y i j, take_rev hi, take_rev hj, h, lcs_cons_same]
theorem pl_ne {x y : List Int} {i j : Nat} (hi : i < x.length) (hj : j < y.length) (h : x[i] ≠ y[j]) : pl x y (i + 1) (j + 1) = max (pl x y i (j + 1)) (pl x y (i + 1) j) := by
  rw [pl_rev, pl_rev x y i (j + 1), pl_rev x y (i + 1) j, take_rev hi, take_rev hj, lcs_cons_ne h]
theorem pl_le (x y : List Int) (i j : Nat) : pl x y i j ≤ x.length + y.length := by
  have h := lft_lcs (x.take i) (y.take j)
  simp only [List.length_take] at h
  unfold pl; omega

set_option maxRecDepth 100000 in
set_option maxHeartbeats 16000000 in
theorem longest_any (va vb : Value) (x y : List Int) (w : World) (ha : SlAt w va x.length (x.map (Value.int .i32))) (hb : SlAt w vb y.length (y.map (Value.int .i32))) (hx : x.length ≤ 1000) (hy : y.length ≤ 1000) :
    Calls Try.prog 23 #[va, vb] w fun e w' => e = .returned (.int .i64 (lcs x y)) ∧ Keep [] w w' := by
  obtain ⟨ada, ca, rfl, ha0, ha1⟩ := ha
  obtain ⟨adb, cb, rfl, hb0, hb1⟩ := hb
  have HA := Lib.hid ha1; have HB := Lib.hid hb1; clear ha0 hb0 ha1 hb1
  obtain ⟨n, hn⟩ : ∃ n, n = x.length := ⟨_, rfl⟩
  obtain ⟨m, hm⟩ : ∃ m, m = y.length := ⟨_, rfl⟩
  rw [← hn] at hx; rw [← hm] at hy
  rw [← hn, ← hm]
  have HN := Lib.hid hn; have HM := Lib.hid hm; clear hn hm
  have hmkr := make_ints m hy
  have hor := fun (W : World) (q : Nat) (f : Nat → Int) (h : ∀ i, i ≤ q → f i = 0) => FwdAt.made W (m + 1) q f h
  obtain ⟨orow, horow⟩ : ∃ o, o = Obj.cells (madeCells #[.int .i64 0] (m + 1)) 3 := ⟨_, rfl⟩
  rw [← horow] at hmkr hor
  have HOR := Lib.hid hor; clear hor horow
  go_enter Try.func23, Try.ntmps23
  go_wp2
  go_loopw [5, 6] (fun s5 s6 wr => ∃ i g : Nat, i ≤ n ∧ s6 = .int .i64 i ∧ s5 = .slice (some ⟨g, 0, none⟩) (m + 1) (m + 1) ∧ Keep [] w wr ∧ FwdAt wr g (m + 1) m (fun j => (pl x y i j : Int)) ∧ w.heap.size ≤ g) (fun _ i _ => n - (intOf i).toNat)
  case atStart => exact ⟨0, w.heap.size, by omega, rfl, rfl, (Keep.refl _ _).alloc _, HOR.out _ _ _ (fun i _ => by rw [pl_zero]; rfl), Nat.le_refl _⟩
  case round =>
    obtain ⟨i, g, hi, rfl, rfl, hkp, hrow, hgw⟩ := hrel
    rename World => wo
    have HK := Lib.hid hkp; have HF := Lib.hid hrow; clear hkp hrow
    by_cases hlt : i < n
    · have hltd : decide (i < n) = true := by simpa using hlt
      have hin3 : ((i : Int) < (n : Int)) := by omega
      have hgl := HF.out.lt
      have HK2 := Lib.hid (HK.out.alloc orow)
      have HF2 := Lib.hid (HF.out.keep (L := []) ((Keep.refl [] wo).alloc orow) (by simp))
      have HG2 := Lib.hid (HOR.out wo 0 (fun j => (pl x y (i + 1) j : Int)) (pl_nil0 x y (i + 1)))
      have hg2 : w.heap.size ≤ wo.heap.size := HK.out.size
      go_wp2
      go_loopw [8] (fun s8 wq => ∃ j : Nat, j ≤ m ∧ s8 = .int .i64 j ∧ Keep [] w wq ∧ FwdAt wq g (m + 1) m (fun j => (pl x y i j : Int)) ∧ FwdAt wq wo.heap.size (m + 1) j (fun j => (pl x y (i + 1) j : Int))) (fun s _ => m - (intOf s).toNat)
      case atStart => exact ⟨0, by omega, rfl, HK2.out, HF2.out, HG2.out⟩
      case round =>
        clear HK HF HK2 HF2 HG2
        obtain ⟨j, hj, rfl, hkq, hfq, hgq⟩ := hrel
        have hne : wo.heap.size ≠ g := by omega
        by_cases hjlt : j < m
        · have hjltd : decide (j < m) = true := by simpa using hjlt
          have hjm3 : ((j : Int) < (m : Int)) := by omega
          have hix : i < x.length := by rw [← HN.out]; exact hlt
          have hjy : j < y.length := by rw [← HM.out]; exact hjlt
          obtain ⟨ba, oa, rfl, hca⟩ := HA.out (by omega)
          obtain ⟨bb, ob, rfl, hcb⟩ := HB.out (by omega)
          have exi := hkq.cellv (hca i (.int .i32 x[i]) (by rw [List.getElem?_map, List.getElem?_eq_getElem hix]; rfl)) (by simp)
          have eyj := hkq.cellv (hcb j (.int .i32 y[j]) (by rw [List.getElem?_map, List.getElem?_eq_getElem hjy]; rfl)) (by simp)
          have e00 := hfq.cell (i := j) (by omega) (by omega)
          have e01 := hfq.cell (i := j + 1) (by omega) (by omega)
          have e10 := hgq.cell (i := j) (by omega) (by omega)
          have eT := hgq.zero (i := j + 1) (by omega) (by omega)
          have fT := hgq.free (j + 1)
          try simp only at e00 e01 e10
          have hpost : ∀ v : Int, v = (pl x y (i + 1) (j + 1) : Int) → Hid (Keep [] w (wr.setCell ⟨wo.heap.size, j + 1, none⟩ (.int .i64 v)) ∧ FwdAt (wr.setCell ⟨wo.heap.size, j + 1, none⟩ (.int .i64 v)) g (m + 1) m (fun j => (pl x y i j : Int)) ∧ FwdAt (wr.setCell ⟨wo.heap.size, j + 1, none⟩ (.int .i64 v)) wo.heap.size (m + 1) (j + 1) (fun j => (pl x y (i + 1) j : Int))) := fun v hv => by
            refine ⟨hkq.setCell (.inr hg2) _, hfq.other _ _ _ hne, ?_⟩
            rw [hv]
            exact hgq.store (by omega)
          have hsame : x[i] = y[j] → (pl x y i j : Int) + 1 = (pl x y (i + 1) (j + 1) : Int) := fun h => by rw [pl_same hix hjy h]; rfl
          have hdiff : x[i] ≠ y[j] → max (pl x y i (j + 1) : Int) (pl x y (i + 1) j : Int) = (pl x y (i + 1) (j + 1) : Int) := fun h => by rw [pl_ne hix hjy h]; omega
          have hl1 := pl_le x y i j
          rw [← HN.out, ← HM.out] at hl1
          have HPO := Lib.hid hpost; have HSA := Lib.hid hsame; have HDF := Lib.hid hdiff; have HCA := Lib.hid hca; have HCB := Lib.hid hcb
          clear hkq hfq hgq hpost hsame hdiff hca hcb
          generalize x[i] = xi at *
          generalize y[j] = yj at *
          by_cases hxy : xi = yj
          · subst hxy
            have HP := Lib.hid (HPO.out _ (HSA.out rfl)).out
            clear HPO HSA HDF
            generalize (pl x y i j) = v00 at *
            go_wp2_with fail
            refine wp_still_tail_drew 9 (by kernel_rfl) (by kernel_rfl) ?_
            simp only [List.take_succ_cons, List.take_zero, List.drop_succ_cons, List.drop_zero]
            repeat still_step
            refine wpStill_nil ?_
            go_wp2
            exact ⟨⟨j + 1, by omega, by go_num, HP.out.1.drew, HP.out.2.1, HP.out.2.2⟩, by simp [intOf]; omega⟩
          · clear HSA
            have hdxy : decide (xi = yj) = false := by simpa using hxy
            have hmx := HDF.out hxy
            clear HDF
            generalize (pl x y i (j + 1)) = v01 at *
            generalize (pl x y (i + 1) j) = v10 at *
            by_cases hv : v10 < v01
            · have hv3 : ((v10 : Int) < (v01 : Int)) := by omega
              have hv2 : (v01 : Int) = (pl x y (i + 1) (j + 1) : Int) := by omega
              have HP := Lib.hid (HPO.out _ hv2).out
              clear HPO hmx hv2
              go_wp2_with fail
              refine wp_still_tail_drew 9 (by kernel_rfl) (by kernel_rfl) ?_
              simp only [List.take_succ_cons, List.take_zero, List.drop_succ_cons, List.drop_zero]
              repeat still_step
              refine wpStill_nil ?_
              go_wp2_with fail
              have hw1 : IntKind.i64.wrap ((j : Int) + 1) = (j : Int) + 1 := by rw [IntKind.wrap_i64]; omega
              have hw2 : ((j : Int) + 1).toNat = j + 1 := by omega
              have hw3 : ((0 : Int) ≤ (j : Int) + 1) := by omega
              have hw4 : ((j : Int) + 1 < ((m + 1 : Nat) : Int)) := by omega
              have hw5 : ((j : Int) < ((m + 1 : Nat) : Int)) := by omega
              have hw6 : ((j : Int) < (m : Int) + 1) := by omega
              have hw7 : ((0 : Int) ≤ (j : Int)) := by omega
              have hw8 : j < m + 1 := by omega
              refine wp_still_tail_drew 10 (by kernel_rfl) (by kernel_rfl) ?_
              simp only [List.take_succ_cons, List.take_zero, List.drop_succ_cons, List.drop_zero]
              repeat still_step
              refine wpStill_nil ?_
              go_wp2
              exact ⟨⟨j + 1, by omega, by go_num, HP.out.1.drew.drew, HP.out.2.1, HP.out.2.2⟩, by simp [intOf]; omega⟩
            · have hv3 : ¬ ((v10 : Int) < (v01 : Int)) := by omega
              have hv2 : (v10 : Int) = (pl x y (i + 1) (j + 1) : Int) := by omega
              have HP := Lib.hid (HPO.out _ hv2).out
              clear HPO hmx hv2
              go_wp2_with fail
              refine wp_still_tail_drew 9 (by kernel_rfl) (by kernel_rfl) ?_
              simp only [List.take_succ_cons, List.take_zero, List.drop_succ_cons, List.drop_zero]
              repeat still_step
              refine wpStill_nil ?_
              go_wp2_with fail
              have hw1 : IntKind.i64.wrap ((j : Int) + 1) = (j : Int) + 1 := by rw [IntKind.wrap_i64]; omega
              have hw2 : ((j : Int) + 1).toNat = j + 1 := by omega
              have hw3 : ((0 : Int) ≤ (j : Int) + 1) := by omega
              have hw4 : ((j : Int) + 1 < ((m + 1 : Nat) : Int)) := by omega
              have hw5 : ((j : Int) < ((m + 1 : Nat) : Int)) := by omega
              have hw6 : ((j : Int) < (m : Int) + 1) := by omega
              have hw7 : ((0 : Int) ≤ (j : Int)) := by omega
              have hw8 : j < m + 1 := by omega
              refine wp_still_tail_drew 10 (by kernel_rfl) (by kernel_rfl) ?_
              simp only [List.take_succ_cons, List.take_zero, List.drop_succ_cons, List.drop_zero]
              repeat still_step
              refine wpStill_nil ?_
              go_wp2
              exact ⟨⟨j + 1, by omega, by go_num, HP.out.1.drew.drew, HP.out.2.1, HP.out.2.2⟩, by simp [intOf]; omega⟩
        · have hjltd : decide (j < m) = false := by simpa using hjlt
          obtain rfl : j = m := by omega
          have HKQ := Lib.hid hkq; have HGQ := Lib.hid hgq; clear hkq hfq hgq
          go_wp2
          exact ⟨⟨i + 1, wo.heap.size, by omega, by go_num, rfl, HKQ.out, HGQ.out, hg2⟩, by simp [intOf]; omega⟩
    · have hltd : decide (i < n) = false := by simpa using hlt
      obtain rfl : i = n := by omega
      have eL := HF.out.cell (i := m) (by omega) (by omega)
      have hl : (pl x y i m : Int) = (lcs x y : Int) := by rw [HN.out, HM.out, pl_all]
      try simp only at eL
      rw [hl] at eL
      go_wp2
      go_ret
      exact ⟨rfl, HK.out⟩
end Go.Proofs.Ytddbjclpmkelaaa
