/-
  GlyphOwn, walked.
-/
import Derived.Test.YtjelbeghojgooaaGlyO
import Derived.Test.YtjelbeghojgooaaGL4
import Derived.ArgAppend
namespace Go.Proofs.Ytjelbeghojgooaa
open Go.RowKit
set_option linter.unusedVariables false
set_option linter.unusedSimpArgs false

/-- A block of at least n runes, the first m of them v. -/
def Full (W : World) (g n m : Nat) (v : Int) : Prop := ∃ cur, W.heap[g]? = some (.cells cur 21 (0, 0)) ∧ n ≤ cur.size ∧ ∀ t, t < m → cur[t]? = some (.int .i32 v)
theorem Full.keep {W W' : World} {g n m : Nat} {v : Int} {L : List Nat} (h : Full W g n m v) (k : Keep L W W') (hg : g ∉ L) : Full W' g n m v := by
  obtain ⟨cur, h1, h2, h3⟩ := h
  exact ⟨cur, k.at_ h1 hg, h2, h3⟩
theorem Full.other {W : World} {g n m : Nat} {v : Int} (h : Full W g n m v) (b i : Nat) (u : Value) (hg : g ≠ b) : Full (W.setCell ⟨b, i, none⟩ u) g n m v := by
  obtain ⟨cur, h1, h2, h3⟩ := h
  exact ⟨cur, (block_setCell_other (w := W) (a := ⟨b, i, none⟩) u hg).trans h1, h2, h3⟩
theorem Full.set {W : World} {g n m : Nat} {v : Int} (h : Full W g n m v) : Full (W.setCell ⟨g, m, none⟩ (.int .i32 v)) g n (m + 1) v ∨ n ≤ m := by
  obtain ⟨cur, h1, h2, h3⟩ := h
  by_cases hm : n ≤ m
  · exact .inr hm
  left
  refine ⟨_, block_setCell h1 m _, by simpa using h2, fun t ht => ?_⟩
  rw [Array.getElem?_setIfInBounds]
  by_cases e : m = t
  · rw [if_pos e, if_pos (by omega)]
  · rw [if_neg e]; exact h3 t (by omega)
theorem Full.zero {W : World} {g n m : Nat} {v : Int} (u : Int) (h : Full W g n m v) : Full W g n 0 u := by
  obtain ⟨cur, h1, h2, h3⟩ := h
  exact ⟨cur, h1, h2, fun t ht => by omega⟩
theorem Full.at_ {W : World} {g n m : Nat} {v : Int} (h : Full W g n m v) (t : Nat) (ht : t < n) : ∃ u, W.cell? ⟨g, t, none⟩ = some u ∧ (t < m → u = .int .i32 v) := by
  obtain ⟨cur, h1, h2, h3⟩ := h
  refine ⟨cur[t]'(by omega), by rw [cell_of_block h1]; exact Array.getElem?_eq_getElem (by omega), fun hm => ?_⟩
  have := h3 t hm
  rw [Array.getElem?_eq_getElem (by omega)] at this
  exact Option.some.inj this
theorem Full.fr {W : World} {g n m : Nat} {v : Int} (h : Full W g n m v) (t : Nat) : W.frozen? ⟨g, t, none⟩ = false := by
  obtain ⟨cur, h1, h2, h3⟩ := h
  exact free_of_block h1 t
theorem Full.lt {W : World} {g n m : Nat} {v : Int} (h : Full W g n m v) : g < W.heap.size := by
  obtain ⟨cur, h1, h2, h3⟩ := h
  exact lt_of_block h1
theorem Full.sl {W : World} {g n m : Nat} {v : Int} (h : Full W g n m v) : ∃ xs : List Value, xs.length = n ∧ ∀ j u, xs[j]? = some u → W.cell? ((⟨g, 0, none⟩ : Addr).add j) = some u := by
  obtain ⟨cur, h1, h2, h3⟩ := h
  refine ⟨cur.toList.take n, by simp; omega, fun j u hu => ?_⟩
  rw [addr0_add, cell_of_block h1]
  rw [List.getElem?_take] at hu
  split at hu
  · simpa using hu
  · cases hu

/-- The law's three lists. -/
structure OwnS (w : World) (A g0 g1 g2 n a b c : Nat) (W : World) : Prop where
  arr : W.heap[A]? = some (.cells #[.slice (some ⟨g0, 0, none⟩) n n, .slice (some ⟨g1, 0, none⟩) n n, .slice (some ⟨g2, 0, none⟩) n n] 44 (0, 0))
  f0 : Full W g0 n a 1
  f1 : Full W g1 n b 2
  f2 : Full W g2 n c 3
  nd : A ≠ g0 ∧ A ≠ g1 ∧ A ≠ g2 ∧ g0 ≠ g1 ∧ g0 ≠ g2 ∧ g1 ≠ g2
  hi : w.heap.size ≤ A ∧ w.heap.size ≤ g0 ∧ w.heap.size ≤ g1 ∧ w.heap.size ≤ g2
  kp : Keep [] w W
namespace OwnS
variable {w : World} {A g0 g1 g2 n a b c : Nat} {W W' : World}
theorem keep (h : OwnS w A g0 g1 g2 n a b c W) (k : Keep [] W W') : OwnS w A g0 g1 g2 n a b c W' :=
  ⟨k.at_ h.arr (by simp), h.f0.keep k (by simp), h.f1.keep k (by simp), h.f2.keep k (by simp), h.nd, h.hi, h.kp.trans0 k⟩
theorem set0 (h : OwnS w A g0 g1 g2 n a b c W) (hm : a < n) : OwnS w A g0 g1 g2 n (a + 1) b c (W.setCell ⟨g0, a, none⟩ (.int .i32 1)) :=
  ⟨(block_setCell_other (w := W) (a := ⟨g0, a, none⟩) _ h.nd.1).trans h.arr, h.f0.set.resolve_right (by omega), h.f1.other _ _ _ (fun e => h.nd.2.2.2.1 e.symm), h.f2.other _ _ _ (fun e => h.nd.2.2.2.2.1 e.symm), h.nd, h.hi, h.kp.setCell (.inr h.hi.2.1) _⟩
theorem set1 (h : OwnS w A g0 g1 g2 n a b c W) (hm : b < n) : OwnS w A g0 g1 g2 n a (b + 1) c (W.setCell ⟨g1, b, none⟩ (.int .i32 2)) :=
  ⟨(block_setCell_other (w := W) (a := ⟨g1, b, none⟩) _ h.nd.2.1).trans h.arr, h.f0.other _ _ _ h.nd.2.2.2.1, h.f1.set.resolve_right (by omega), h.f2.other _ _ _ (fun e => h.nd.2.2.2.2.2 e.symm), h.nd, h.hi, h.kp.setCell (.inr h.hi.2.2.1) _⟩
theorem set2 (h : OwnS w A g0 g1 g2 n a b c W) (hm : c < n) : OwnS w A g0 g1 g2 n a b (c + 1) (W.setCell ⟨g2, c, none⟩ (.int .i32 3)) :=
  ⟨(block_setCell_other (w := W) (a := ⟨g2, c, none⟩) _ h.nd.2.2.1).trans h.arr, h.f0.other _ _ _ h.nd.2.2.2.2.1, h.f1.other _ _ _ h.nd.2.2.2.2.2, h.f2.set.resolve_right (by omega), h.nd, h.hi, h.kp.setCell (.inr h.hi.2.2.2) _⟩
theorem c0 (h : OwnS w A g0 g1 g2 n a b c W) : W.cell? ⟨A, 0, none⟩ = some (.slice (some ⟨g0, 0, none⟩) n n) := by rw [cell_of_block h.arr]; rfl
theorem c1 (h : OwnS w A g0 g1 g2 n a b c W) : W.cell? ⟨A, 1, none⟩ = some (.slice (some ⟨g1, 0, none⟩) n n) := by rw [cell_of_block h.arr]; rfl
theorem c2 (h : OwnS w A g0 g1 g2 n a b c W) : W.cell? ⟨A, 2, none⟩ = some (.slice (some ⟨g2, 0, none⟩) n n) := by rw [cell_of_block h.arr]; rfl
end OwnS

/-- A list of runes as Runes has made it. -/
def RB (W : World) (g n : Nat) (l : List Int) : Prop := ∃ cur, W.heap[g]? = some (.cells cur 21 (0, 0)) ∧ cur.toList.take n = l.map (Value.int .i32)
theorem RB.keep {W W' : World} {g n : Nat} {l : List Int} (h : RB W g n l) (k : Keep [] W W') : RB W' g n l := by
  obtain ⟨cur, h1, h2⟩ := h
  exact ⟨cur, k.at_ h1 (by simp), h2⟩
theorem RB.other {W : World} {g n : Nat} {l : List Int} (h : RB W g n l) (b i : Nat) (u : Value) (hg : g ≠ b) : RB (W.setCell ⟨b, i, none⟩ u) g n l := by
  obtain ⟨cur, h1, h2⟩ := h
  exact ⟨cur, (block_setCell_other (w := W) (a := ⟨b, i, none⟩) u hg).trans h1, h2⟩
theorem RB.full {W : World} {g n : Nat} {l : List Int} (h : RB W g n l) (hn : n = l.length) (v : Int) : Full W g n 0 v := by
  obtain ⟨cur, h1, h2⟩ := h
  refine ⟨cur, h1, ?_, fun t ht => by omega⟩
  have := congrArg List.length h2
  simp at this; omega
theorem RB.sl {W : World} {g n : Nat} {l : List Int} (h : RB W g n l) (hn : n = l.length) : SlAt W (.slice (some ⟨g, 0, none⟩) n n) l.length (l.map (Value.int .i32)) := by
  obtain ⟨cur, h1, h2⟩ := h
  subst hn
  refine ⟨_, _, rfl, ⟨fun h0 => by rw [List.eq_nil_of_length_eq_zero h0]; rfl, fun h => by cases h⟩, fun _ => ⟨_, _, rfl, fun i u hu => ?_⟩⟩
  rw [← h2, List.getElem?_take] at hu
  split at hu
  · rw [Nat.zero_add, cell_of_block h1]
    simpa using hu
  · cases hu
theorem RunesPost.rb {s : ByteArray} {w : World} {r : Ending} {w' : World} (h : RunesPost s w r w') :
    r = .returned (.slice (some ⟨w.heap.size, 0, none⟩) (runs s 0).length (runs s 0).length) ∧ RB w' w.heap.size (runs s 0).length (runs s 0) ∧ w.heap.size < w'.heap.size ∧ Keep [] w w' := by
  obtain ⟨cur, rfl, hb, ht, hk⟩ := h
  exact ⟨rfl, ⟨cur, hb, ht⟩, lt_of_block hb, hk⟩
theorem append_first {w w' : World} (h : w.grownBy w' none) : Keep [] w w' := (Keep.refl [] w).grown h (by intro k hk; cases hk)

set_option maxRecDepth 100000 in
set_option maxHeartbeats 40000000 in
theorem glyphOwn_walk (s : ByteArray) (w : World) (hs : s.size ≤ maxLen) :
    Calls Try.prog 10 #[.string s] w fun e w' => e = .returned (.bool true) ∧ Keep [] w w' := by
  unfold maxLen at hs
  by_cases hz : s.size ≤ 20000
  · have hzd : decide ((20000 : Int) < (s.size : Int)) = false := by simp; omega
    have hcl := cut_len_le s 0 (Nat.zero_le _)
    obtain ⟨i0, hi, hz0, hz1, hz2⟩ := info_parts info_rune
    have HI := Lib.hid hi; have HZ0 := Lib.hid hz0; have HZ1 := Lib.hid hz1; have HZ2 := Lib.hid hz2
    clear hi hz0 hz1 hz2
    obtain ⟨n, hn⟩ : ∃ n, n = (runs s 0).length := ⟨_, rfl⟩
    have hn2 : n ≤ 20000 := by rw [hn]; simp [runs]; omega
    have HNN := Lib.hid hn; clear hn
    have hcalls := fun W => runes_any s W (by omega)
    have HRN := Lib.hid (fun W => (hcalls W).mono (fun e W' h => h.rb)); clear hcalls
    rw [← HNN.out] at HRN
    go_enter Try.func10, Try.ntmps10
    go_wp2
    go_loopw [4] (fun i wr => Keep [] w wr ∧ ((i = .int .i64 0 ∧ wr.heap[w.heap.size]? = some (.cells #[.slice none 0 0, .slice none 0 0, .slice none 0 0] 44 (0, 0))) ∨ (∃ g0 : Nat, i = .int .i64 1 ∧ wr.heap[w.heap.size]? = some (.cells #[.slice (some ⟨g0, 0, none⟩) n n, .slice none 0 0, .slice none 0 0] 44 (0, 0)) ∧ RB wr g0 n (runs s 0) ∧ w.heap.size < g0 ∧ g0 < wr.heap.size) ∨ (∃ g0 g1 : Nat, i = .int .i64 2 ∧ wr.heap[w.heap.size]? = some (.cells #[.slice (some ⟨g0, 0, none⟩) n n, .slice (some ⟨g1, 0, none⟩) n n, .slice none 0 0] 44 (0, 0)) ∧ RB wr g0 n (runs s 0) ∧ w.heap.size < g0 ∧ g0 < wr.heap.size ∧ RB wr g1 n (runs s 0) ∧ w.heap.size < g1 ∧ g1 < wr.heap.size ∧ g0 ≠ g1) ∨ (∃ g0 g1 g2 : Nat, i = .int .i64 3 ∧ wr.heap[w.heap.size]? = some (.cells #[.slice (some ⟨g0, 0, none⟩) n n, .slice (some ⟨g1, 0, none⟩) n n, .slice (some ⟨g2, 0, none⟩) n n] 44 (0, 0)) ∧ RB wr g0 n (runs s 0) ∧ w.heap.size < g0 ∧ g0 < wr.heap.size ∧ RB wr g1 n (runs s 0) ∧ w.heap.size < g1 ∧ g1 < wr.heap.size ∧ RB wr g2 n (runs s 0) ∧ w.heap.size < g2 ∧ g2 < wr.heap.size ∧ g0 ≠ g1 ∧ g0 ≠ g2 ∧ g1 ≠ g2))) (fun i _ => (3 - intOf i).toNat)
    case atStart => exact ⟨(Keep.refl _ _).alloc _, .inl ⟨rfl, heap_alloc_new w _⟩⟩
    case round =>
      obtain ⟨hkp, ⟨rfl, harr⟩ | ⟨g0, rfl, harr, r0, l0, u0⟩ | ⟨g0, g1, rfl, harr, r0, l0, u0, r1, l1, u1, n01⟩ | ⟨g0, g1, g2, rfl, harr, r0, l0, u0, r1, l1, u1, r2, l2, u2, n01, n02, n12⟩⟩ := hrel
      · have HK := Lib.hid hkp; have HARR := Lib.hid harr; clear hkp harr
        go_wp2_with fail
        refine (HRN.out _).mono ?_
        rintro r W1 ⟨rfl, hb, hlt, hk⟩
        have ha1 := hk.at_ HARR.out (by simp)
        have f1 := free_of_block ha1 0
        have c1 : W1.cell? ⟨w.heap.size, 0, none⟩ = some (.slice none 0 0) := by rw [cell_of_block ha1]; rfl
        have hset := block_setCell ha1 0 (.slice (some ⟨wr.heap.size, 0, none⟩) n n)
        have hwlt := lt_of_block HARR.out
        have HK1 := Lib.hid (HK.out.trans0 hk); have HB := Lib.hid hb; have HSET := Lib.hid hset; have HKK := Lib.hid hk
        have HNE := Lib.hid (show wr.heap.size ≠ w.heap.size by omega)
        have HSZ := Lib.hid (show (W1.setCell ⟨w.heap.size, 0, none⟩ (.slice (some ⟨wr.heap.size, 0, none⟩) n n)).heap.size = W1.heap.size by simp [World.setCell])
        clear hk hb ha1 hset
        go_wp2
        go_roundw
        case rel =>
          refine ⟨HK1.out.setCell (.inr (Nat.le_refl _)) _, .inr (.inl ⟨wr.heap.size, rfl, HSET.out, HB.out.other _ _ _ HNE.out, hwlt, by rw [HSZ.out]; exact hlt⟩)⟩
        case measure => simp [intOf]
      · have HK := Lib.hid hkp; have HARR := Lib.hid harr; clear hkp harr
        have H0 := Lib.hid r0; clear r0
        go_wp2_with fail
        refine (HRN.out _).mono ?_
        rintro r W1 ⟨rfl, hb, hlt, hk⟩
        have ha1 := hk.at_ HARR.out (by simp)
        have f1 := free_of_block ha1 1
        have c1 : W1.cell? ⟨w.heap.size, 1, none⟩ = some (.slice none 0 0) := by rw [cell_of_block ha1]; rfl
        have hset := block_setCell ha1 1 (.slice (some ⟨wr.heap.size, 0, none⟩) n n)
        have hwlt := lt_of_block HARR.out
        have HK1 := Lib.hid (HK.out.trans0 hk); have HB := Lib.hid hb; have HSET := Lib.hid hset; have HKK := Lib.hid hk
        have HNE := Lib.hid (show wr.heap.size ≠ w.heap.size by omega)
        have HSZ := Lib.hid (show (W1.setCell ⟨w.heap.size, 1, none⟩ (.slice (some ⟨wr.heap.size, 0, none⟩) n n)).heap.size = W1.heap.size by simp [World.setCell])
        clear hk hb ha1 hset
        go_wp2
        go_roundw
        case rel =>
          refine ⟨HK1.out.setCell (.inr (Nat.le_refl _)) _, .inr (.inr (.inl ⟨g0, wr.heap.size, rfl, HSET.out, (H0.out.keep HKK.out).other _ _ _ (by omega), l0, by rw [HSZ.out]; omega, HB.out.other _ _ _ HNE.out, hwlt, by rw [HSZ.out]; exact hlt, by omega⟩))⟩
        case measure => simp [intOf]
      · have HK := Lib.hid hkp; have HARR := Lib.hid harr; clear hkp harr
        have H0 := Lib.hid r0; clear r0
        have H1 := Lib.hid r1; clear r1
        go_wp2_with fail
        refine (HRN.out _).mono ?_
        rintro r W1 ⟨rfl, hb, hlt, hk⟩
        have ha1 := hk.at_ HARR.out (by simp)
        have f1 := free_of_block ha1 2
        have c1 : W1.cell? ⟨w.heap.size, 2, none⟩ = some (.slice none 0 0) := by rw [cell_of_block ha1]; rfl
        have hset := block_setCell ha1 2 (.slice (some ⟨wr.heap.size, 0, none⟩) n n)
        have hwlt := lt_of_block HARR.out
        have HK1 := Lib.hid (HK.out.trans0 hk); have HB := Lib.hid hb; have HSET := Lib.hid hset; have HKK := Lib.hid hk
        have HNE := Lib.hid (show wr.heap.size ≠ w.heap.size by omega)
        have HSZ := Lib.hid (show (W1.setCell ⟨w.heap.size, 2, none⟩ (.slice (some ⟨wr.heap.size, 0, none⟩) n n)).heap.size = W1.heap.size by simp [World.setCell])
        clear hk hb ha1 hset
        go_wp2
        go_roundw
        case rel =>
          refine ⟨HK1.out.setCell (.inr (Nat.le_refl _)) _, .inr (.inr (.inr (⟨g0, g1, wr.heap.size, rfl, HSET.out, (H0.out.keep HKK.out).other _ _ _ (by omega), l0, by rw [HSZ.out]; omega, (H1.out.keep HKK.out).other _ _ _ (by omega), l1, by rw [HSZ.out]; omega, HB.out.other _ _ _ HNE.out, hwlt, by rw [HSZ.out]; exact hlt, n01, by omega, by omega⟩)))⟩
        case measure => simp [intOf]
      · have HK := Lib.hid hkp; have HARR := Lib.hid harr; clear hkp harr
        have H0 := Lib.hid r0; have H1 := Lib.hid r1; have H2 := Lib.hid r2; clear r0 r1 r2
        obtain ⟨A, hA⟩ : ∃ A, A = w.heap.size := ⟨_, rfl⟩
        have hOS : OwnS w A g0 g1 g2 n 0 0 0 wr := ⟨by rw [hA]; exact HARR.out, H0.out.full HNN.out _, H1.out.full HNN.out _, H2.out.full HNN.out _, by omega, by omega, HK.out⟩
        rw [← hA] at HARR ⊢
        clear l0 u0 l1 u1 l2 u2 n01 n02 n12 hA
        have HO := Lib.hid hOS; clear hOS
        have HR1 := Lib.hid (runes_true _ _ (runs s 0) wr (H0.out.sl HNN.out) (H1.out.sl HNN.out) (by rw [← HNN.out]; omega))
        have HR2 := Lib.hid (fun W' (h : Keep [] wr W') => runes_true _ _ (runs s 0) W' ((H1.out.keep h).sl HNN.out) ((H2.out.keep h).sl HNN.out) (by rw [← HNN.out]; omega))
        have a0 := HO.out.c0
        have a1 := HO.out.c1
        go_wp2_with fail
        (with_reducible refine HR1.out.mono ?_)
        rintro r W1 ⟨rfl, hk⟩
        have HO1 := Lib.hid (HO.out.keep hk)
        have b1 := HO1.out.c1
        have b2 := HO1.out.c2
        have HRR := Lib.hid (HR2.out W1 hk); clear hk a0 a1 HO HR1 HR2 H0 H1 H2 HARR HK
        go_wp2_with fail
        (with_reducible refine HRR.out.mono ?_)
        rintro r W2 ⟨rfl, hk⟩
        have HO2 := Lib.hid (HO1.out.keep hk); clear hk HO1 b1 b2 HRR
        go_wp2
        go_loopw [5, 6] (fun i _ wr => (i = .int .i64 0 ∧ OwnS w A g0 g1 g2 n 0 0 0 wr) ∨ (i = .int .i64 1 ∧ OwnS w A g0 g1 g2 n n 0 0 wr) ∨ (i = .int .i64 2 ∧ OwnS w A g0 g1 g2 n n n 0 wr) ∨ (i = .int .i64 3 ∧ OwnS w A g0 g1 g2 n n n n wr)) (fun i _ _ => (3 - intOf i).toNat)
        case atStart => exact .inl ⟨rfl, HO2.out⟩
        case round =>
          obtain ⟨rfl, hO⟩ | ⟨rfl, hO⟩ | ⟨rfl, hO⟩ | ⟨rfl, hO⟩ := hrel
          · have HO := Lib.hid hO; clear hO
            go_wp2
            obtain ⟨wo, hwo⟩ : ∃ wo : World, wo = wr := ⟨_, rfl⟩
            rw [← hwo] at HO ⊢
            clear hwo
            go_loopw [6] (fun kk wr => ∃ k : Nat, k ≤ n ∧ kk = .int .i64 k ∧ OwnS w A g0 g1 g2 n k 0 0 wr) (fun kk _ => n - (intOf kk).toNat)
            case atStart => exact ⟨0, Nat.zero_le _, rfl, HO.out⟩
            case round =>
              obtain ⟨k, hk, rfl, hO⟩ := hrel
              have a0 := hO.c0
              have HOO := Lib.hid hO; clear hO
              by_cases hlt : k < n
              · have hltd : decide (k < n) = true := by simpa using hlt
                obtain ⟨u, hu, _⟩ := HOO.out.f0.at_ k hlt
                have fr := HOO.out.f0.fr k
                have HS := Lib.hid (HOO.out.set0 hlt)
                go_wp2
                go_roundw
                case rel => exact ⟨k + 1, by omega, by go_num, HS.out⟩
                case measure => simp [intOf]; omega
              · have hltd : decide (k < n) = false := by simpa using hlt
                obtain rfl : k = n := by omega
                go_wp2
                go_roundw
                case rel => exact .inr (.inl ⟨rfl, HOO.out⟩)
                case measure => simp [intOf]
          · have HO := Lib.hid hO; clear hO
            go_wp2
            obtain ⟨wo, hwo⟩ : ∃ wo : World, wo = wr := ⟨_, rfl⟩
            rw [← hwo] at HO ⊢
            clear hwo
            go_loopw [6] (fun kk wr => ∃ k : Nat, k ≤ n ∧ kk = .int .i64 k ∧ OwnS w A g0 g1 g2 n n k 0 wr) (fun kk _ => n - (intOf kk).toNat)
            case atStart => exact ⟨0, Nat.zero_le _, rfl, HO.out⟩
            case round =>
              obtain ⟨k, hk, rfl, hO⟩ := hrel
              have a0 := hO.c1
              have HOO := Lib.hid hO; clear hO
              by_cases hlt : k < n
              · have hltd : decide (k < n) = true := by simpa using hlt
                obtain ⟨u, hu, _⟩ := HOO.out.f1.at_ k hlt
                have fr := HOO.out.f1.fr k
                have HS := Lib.hid (HOO.out.set1 hlt)
                go_wp2
                go_roundw
                case rel => exact ⟨k + 1, by omega, by go_num, HS.out⟩
                case measure => simp [intOf]; omega
              · have hltd : decide (k < n) = false := by simpa using hlt
                obtain rfl : k = n := by omega
                go_wp2
                go_roundw
                case rel => exact .inr (.inr (.inl ⟨rfl, HOO.out⟩))
                case measure => simp [intOf]
          · have HO := Lib.hid hO; clear hO
            go_wp2
            obtain ⟨wo, hwo⟩ : ∃ wo : World, wo = wr := ⟨_, rfl⟩
            rw [← hwo] at HO ⊢
            clear hwo
            go_loopw [6] (fun kk wr => ∃ k : Nat, k ≤ n ∧ kk = .int .i64 k ∧ OwnS w A g0 g1 g2 n n n k wr) (fun kk _ => n - (intOf kk).toNat)
            case atStart => exact ⟨0, Nat.zero_le _, rfl, HO.out⟩
            case round =>
              obtain ⟨k, hk, rfl, hO⟩ := hrel
              have a0 := hO.c2
              have HOO := Lib.hid hO; clear hO
              by_cases hlt : k < n
              · have hltd : decide (k < n) = true := by simpa using hlt
                obtain ⟨u, hu, _⟩ := HOO.out.f2.at_ k hlt
                have fr := HOO.out.f2.fr k
                have HS := Lib.hid (HOO.out.set2 hlt)
                go_wp2
                go_roundw
                case rel => exact ⟨k + 1, by omega, by go_num, HS.out⟩
                case measure => simp [intOf]; omega
              · have hltd : decide (k < n) = false := by simpa using hlt
                obtain rfl : k = n := by omega
                go_wp2
                go_roundw
                case rel => exact .inr (.inr (.inr (⟨rfl, HOO.out⟩)))
                case measure => simp [intOf]
          · have HO := Lib.hid hO; clear hO
            go_wp2
            obtain ⟨wp, hwp⟩ : ∃ wp : World, wp = wr := ⟨_, rfl⟩
            rw [← hwp] at HO ⊢
            clear hwp
            go_loopw [7, 8, 9] (fun i _ _ wr => OwnS w A g0 g1 g2 n n n n wr ∧ (i = .int .i64 0 ∨ i = .int .i64 1 ∨ i = .int .i64 2 ∨ i = .int .i64 3)) (fun i _ _ _ => (3 - intOf i).toNat)
            case atStart => exact ⟨HO.out, .inl rfl⟩
            case round =>
              clear HO
              obtain ⟨hO, rfl | rfl | rfl | rfl⟩ := hrel
              · have HO := Lib.hid hO
                have a0 := hO.c0
                clear hO
                obtain ⟨wx, hwx⟩ : ∃ wx : World, wx = wr := ⟨_, rfl⟩
                rw [← hwx] at HO a0 ⊢
                clear hwx
                go_wp2
                go_loopw [8, 9] (fun v kk wr => ∃ k : Nat, k ≤ 20 ∧ kk = .int .i64 k ∧ Keep [] wx wr ∧ ((k = 0 ∧ v = .slice (some ⟨g0, 0, none⟩) n n) ∨ ∃ xs, wr.ownsRow wx.heap.size 21 1 v (n + k) xs)) (fun _ kk _ => 20 - (intOf kk).toNat)
                case atStart => exact ⟨0, Nat.zero_le _, rfl, Keep.refl _ _, .inl ⟨rfl, rfl⟩⟩
                case round =>
                  obtain ⟨k, hk, rfl, hkp, hv⟩ := hrel
                  have HK := Lib.hid hkp
                  have hsz := hkp.size
                  clear hkp
                  by_cases hlt : k < 20
                  · have hltd : decide ((k : Int) < 20) = true := by simp; omega
                    rcases hv with ⟨rfl, rfl⟩ | ⟨xs, ho⟩
                    · obtain ⟨xs, hxl, hxs⟩ := (HO.out.keep HK.out).f0.sl
                      have hxs2 : ∀ b : Addr, some (⟨g0, 0, none⟩ : Addr) = some b → ∀ (j : Nat) u, xs[j]? = some u → (wr.alloc (.cells #[.int .i32 11] 21)).cell? (b.add j) = some u := fun b hb j u hu => by
                        cases hb
                        have := hxs j u hu
                        rw [addr0_add] at this ⊢
                        exact ((Keep.refl [] wr).alloc _).cellv this (by simp)
                      have HX := Lib.hid hxs2; have HXL := Lib.hid hxl; clear hxs hxs2 hxl
                      go_wp2_with (with_reducible refine park_append 69 73 _ rfl ?_)
                      refine wpList_append_grows _ rfl (.tmp 69) (.tmp 73) 31 rfl 21 i0 (.int .i32 0) 1 4 Try.underlying31 HI.out HZ0.out HZ1.out HZ2.out rfl (by decide) (some ⟨g0, 0, none⟩) n n xs rfl (by simp) (by rw [HXL.out]; simp) HX.out ⟨wr.heap.size, 0, none⟩ 1 1 [.int .i32 11] rfl rfl (cell_one_new _ _ _) (by simp [Value.oneCell']) (by omega) (by unfold maxLen; omega) (by omega) ?_
                      intro v' W2 ho2 hg2
                      have HO2 := Lib.hid (owns_mono ho2 (show wx.heap.size ≤ _ by simp; omega)); have HK2 := Lib.hid ((HK.out.alloc _).trans0 (append_first hg2)); clear ho2 hg2
                      go_wp2
                      go_roundw
                      case rel => exact ⟨1, by omega, rfl, HK2.out, .inr ⟨_, HO2.out⟩⟩
                      case measure => simp [intOf]
                    · have HOW := Lib.hid ho; clear ho
                      go_wp2_with (with_reducible refine park_append 69 73 _ rfl ?_)
                      refine wpList_append_mine _ rfl (.tmp 69) (.tmp 73) 31 rfl wx.heap.size 21 i0 (.int .i32 0) 1 4 Try.underlying31 HI.out HZ0.out HZ1.out HZ2.out rfl (by decide) _ _ _ rfl (HOW.out.alloc _) ⟨wr.heap.size, 0, none⟩ 1 1 [.int .i32 11] rfl rfl (cell_one_new _ _ _) (by simp [Value.oneCell']) (by unfold maxLen; omega) (by omega) (by simp; omega) ?_
                      intro v' W2 hp2
                      have hfin := Lib.hid (own_nxt HOW.out HK.out ((Keep.refl _ _).alloc _) hp2)
                      clear hp2
                      go_wp2
                      go_roundw
                      case rel => exact ⟨k + 1, by omega, by go_num, hfin.out.2, .inr ⟨_, by rw [show n + (k + 1) = n + k + 1 by omega]; exact hfin.out.1⟩⟩
                      case measure => simp [intOf]; omega
                  · have hltd : decide ((k : Int) < 20) = false := by simp; omega
                    have HO3 := Lib.hid (HO.out.keep HK.out)
                    go_wp2
                    go_roundw
                    case rel => exact ⟨HO3.out, .inr (.inl rfl)⟩
                    case measure => simp [intOf]
              · have HO := Lib.hid hO
                have a0 := hO.c1
                clear hO
                obtain ⟨wx, hwx⟩ : ∃ wx : World, wx = wr := ⟨_, rfl⟩
                rw [← hwx] at HO a0 ⊢
                clear hwx
                go_wp2
                go_loopw [8, 9] (fun v kk wr => ∃ k : Nat, k ≤ 20 ∧ kk = .int .i64 k ∧ Keep [] wx wr ∧ ((k = 0 ∧ v = .slice (some ⟨g1, 0, none⟩) n n) ∨ ∃ xs, wr.ownsRow wx.heap.size 21 1 v (n + k) xs)) (fun _ kk _ => 20 - (intOf kk).toNat)
                case atStart => exact ⟨0, Nat.zero_le _, rfl, Keep.refl _ _, .inl ⟨rfl, rfl⟩⟩
                case round =>
                  obtain ⟨k, hk, rfl, hkp, hv⟩ := hrel
                  have HK := Lib.hid hkp
                  have hsz := hkp.size
                  clear hkp
                  by_cases hlt : k < 20
                  · have hltd : decide ((k : Int) < 20) = true := by simp; omega
                    rcases hv with ⟨rfl, rfl⟩ | ⟨xs, ho⟩
                    · obtain ⟨xs, hxl, hxs⟩ := (HO.out.keep HK.out).f1.sl
                      have hxs2 : ∀ b : Addr, some (⟨g1, 0, none⟩ : Addr) = some b → ∀ (j : Nat) u, xs[j]? = some u → (wr.alloc (.cells #[.int .i32 12] 21)).cell? (b.add j) = some u := fun b hb j u hu => by
                        cases hb
                        have := hxs j u hu
                        rw [addr0_add] at this ⊢
                        exact ((Keep.refl [] wr).alloc _).cellv this (by simp)
                      have HX := Lib.hid hxs2; have HXL := Lib.hid hxl; clear hxs hxs2 hxl
                      go_wp2_with (with_reducible refine park_append 69 73 _ rfl ?_)
                      refine wpList_append_grows _ rfl (.tmp 69) (.tmp 73) 31 rfl 21 i0 (.int .i32 0) 1 4 Try.underlying31 HI.out HZ0.out HZ1.out HZ2.out rfl (by decide) (some ⟨g1, 0, none⟩) n n xs rfl (by simp) (by rw [HXL.out]; simp) HX.out ⟨wr.heap.size, 0, none⟩ 1 1 [.int .i32 12] rfl rfl (cell_one_new _ _ _) (by simp [Value.oneCell']) (by omega) (by unfold maxLen; omega) (by omega) ?_
                      intro v' W2 ho2 hg2
                      have HO2 := Lib.hid (owns_mono ho2 (show wx.heap.size ≤ _ by simp; omega)); have HK2 := Lib.hid ((HK.out.alloc _).trans0 (append_first hg2)); clear ho2 hg2
                      go_wp2
                      go_roundw
                      case rel => exact ⟨1, by omega, rfl, HK2.out, .inr ⟨_, HO2.out⟩⟩
                      case measure => simp [intOf]
                    · have HOW := Lib.hid ho; clear ho
                      go_wp2_with (with_reducible refine park_append 69 73 _ rfl ?_)
                      refine wpList_append_mine _ rfl (.tmp 69) (.tmp 73) 31 rfl wx.heap.size 21 i0 (.int .i32 0) 1 4 Try.underlying31 HI.out HZ0.out HZ1.out HZ2.out rfl (by decide) _ _ _ rfl (HOW.out.alloc _) ⟨wr.heap.size, 0, none⟩ 1 1 [.int .i32 12] rfl rfl (cell_one_new _ _ _) (by simp [Value.oneCell']) (by unfold maxLen; omega) (by omega) (by simp; omega) ?_
                      intro v' W2 hp2
                      have hfin := Lib.hid (own_nxt HOW.out HK.out ((Keep.refl _ _).alloc _) hp2)
                      clear hp2
                      go_wp2
                      go_roundw
                      case rel => exact ⟨k + 1, by omega, by go_num, hfin.out.2, .inr ⟨_, by rw [show n + (k + 1) = n + k + 1 by omega]; exact hfin.out.1⟩⟩
                      case measure => simp [intOf]; omega
                  · have hltd : decide ((k : Int) < 20) = false := by simp; omega
                    have HO3 := Lib.hid (HO.out.keep HK.out)
                    go_wp2
                    go_roundw
                    case rel => exact ⟨HO3.out, .inr (.inr (.inl rfl))⟩
                    case measure => simp [intOf]
              · have HO := Lib.hid hO
                have a0 := hO.c2
                clear hO
                obtain ⟨wx, hwx⟩ : ∃ wx : World, wx = wr := ⟨_, rfl⟩
                rw [← hwx] at HO a0 ⊢
                clear hwx
                go_wp2
                go_loopw [8, 9] (fun v kk wr => ∃ k : Nat, k ≤ 20 ∧ kk = .int .i64 k ∧ Keep [] wx wr ∧ ((k = 0 ∧ v = .slice (some ⟨g2, 0, none⟩) n n) ∨ ∃ xs, wr.ownsRow wx.heap.size 21 1 v (n + k) xs)) (fun _ kk _ => 20 - (intOf kk).toNat)
                case atStart => exact ⟨0, Nat.zero_le _, rfl, Keep.refl _ _, .inl ⟨rfl, rfl⟩⟩
                case round =>
                  obtain ⟨k, hk, rfl, hkp, hv⟩ := hrel
                  have HK := Lib.hid hkp
                  have hsz := hkp.size
                  clear hkp
                  by_cases hlt : k < 20
                  · have hltd : decide ((k : Int) < 20) = true := by simp; omega
                    rcases hv with ⟨rfl, rfl⟩ | ⟨xs, ho⟩
                    · obtain ⟨xs, hxl, hxs⟩ := (HO.out.keep HK.out).f2.sl
                      have hxs2 : ∀ b : Addr, some (⟨g2, 0, none⟩ : Addr) = some b → ∀ (j : Nat) u, xs[j]? = some u → (wr.alloc (.cells #[.int .i32 13] 21)).cell? (b.add j) = some u := fun b hb j u hu => by
                        cases hb
                        have := hxs j u hu
                        rw [addr0_add] at this ⊢
                        exact ((Keep.refl [] wr).alloc _).cellv this (by simp)
                      have HX := Lib.hid hxs2; have HXL := Lib.hid hxl; clear hxs hxs2 hxl
                      go_wp2_with (with_reducible refine park_append 69 73 _ rfl ?_)
                      refine wpList_append_grows _ rfl (.tmp 69) (.tmp 73) 31 rfl 21 i0 (.int .i32 0) 1 4 Try.underlying31 HI.out HZ0.out HZ1.out HZ2.out rfl (by decide) (some ⟨g2, 0, none⟩) n n xs rfl (by simp) (by rw [HXL.out]; simp) HX.out ⟨wr.heap.size, 0, none⟩ 1 1 [.int .i32 13] rfl rfl (cell_one_new _ _ _) (by simp [Value.oneCell']) (by omega) (by unfold maxLen; omega) (by omega) ?_
                      intro v' W2 ho2 hg2
                      have HO2 := Lib.hid (owns_mono ho2 (show wx.heap.size ≤ _ by simp; omega)); have HK2 := Lib.hid ((HK.out.alloc _).trans0 (append_first hg2)); clear ho2 hg2
                      go_wp2
                      go_roundw
                      case rel => exact ⟨1, by omega, rfl, HK2.out, .inr ⟨_, HO2.out⟩⟩
                      case measure => simp [intOf]
                    · have HOW := Lib.hid ho; clear ho
                      go_wp2_with (with_reducible refine park_append 69 73 _ rfl ?_)
                      refine wpList_append_mine _ rfl (.tmp 69) (.tmp 73) 31 rfl wx.heap.size 21 i0 (.int .i32 0) 1 4 Try.underlying31 HI.out HZ0.out HZ1.out HZ2.out rfl (by decide) _ _ _ rfl (HOW.out.alloc _) ⟨wr.heap.size, 0, none⟩ 1 1 [.int .i32 13] rfl rfl (cell_one_new _ _ _) (by simp [Value.oneCell']) (by unfold maxLen; omega) (by omega) (by simp; omega) ?_
                      intro v' W2 hp2
                      have hfin := Lib.hid (own_nxt HOW.out HK.out ((Keep.refl _ _).alloc _) hp2)
                      clear hp2
                      go_wp2
                      go_roundw
                      case rel => exact ⟨k + 1, by omega, by go_num, hfin.out.2, .inr ⟨_, by rw [show n + (k + 1) = n + k + 1 by omega]; exact hfin.out.1⟩⟩
                      case measure => simp [intOf]; omega
                  · have hltd : decide ((k : Int) < 20) = false := by simp; omega
                    have HO3 := Lib.hid (HO.out.keep HK.out)
                    go_wp2
                    go_roundw
                    case rel => exact ⟨HO3.out, .inr (.inr (.inr (rfl)))⟩
                    case measure => simp [intOf]
              · have HO := Lib.hid hO; clear hO
                obtain ⟨wq, hwq⟩ : ∃ wq : World, wq = wr := ⟨_, rfl⟩
                rw [← hwq] at HO ⊢
                clear hwq
                go_wp2
                go_loopw [10, 11] (fun i _ wr => OwnS w A g0 g1 g2 n n n n wr ∧ (i = .int .i64 0 ∨ i = .int .i64 1 ∨ i = .int .i64 2 ∨ i = .int .i64 3)) (fun i _ _ => (3 - intOf i).toNat)
                case atStart => exact ⟨HO.out, .inl rfl⟩
                case round =>
                  clear HO
                  obtain ⟨hO, rfl | rfl | rfl | rfl⟩ := hrel
                  · have HO := Lib.hid hO
                    have a0 := hO.c0
                    clear hO
                    obtain ⟨wx, hwx⟩ : ∃ wx : World, wx = wr := ⟨_, rfl⟩
                    rw [← hwx] at HO a0 ⊢
                    clear hwx
                    go_wp2
                    go_loopw [11] (fun kk wr => ∃ k : Nat, k ≤ n ∧ kk = .int .i64 k ∧ wx = wr) (fun kk _ => n - (intOf kk).toNat)
                    case atStart => exact ⟨0, Nat.zero_le _, rfl, rfl⟩
                    case round =>
                      obtain ⟨k, hk, rfl, rfl⟩ := hrel
                      by_cases hlt : k < n
                      · have hltd : decide (k < n) = true := by simpa using hlt
                        obtain ⟨u, hu, hue⟩ := HO.out.f0.at_ k hlt
                        obtain rfl := hue hlt
                        clear hue
                        go_wp2
                        go_roundw
                        case rel => exact ⟨k + 1, by omega, by go_num, by trivial⟩
                        case measure => simp [intOf]; omega
                      · have hltd : decide (k < n) = false := by simpa using hlt
                        go_wp2
                        go_roundw
                        case rel => exact ⟨HO.out, .inr (.inl rfl)⟩
                        case measure => simp [intOf]
                  · have HO := Lib.hid hO
                    have a0 := hO.c1
                    clear hO
                    obtain ⟨wx, hwx⟩ : ∃ wx : World, wx = wr := ⟨_, rfl⟩
                    rw [← hwx] at HO a0 ⊢
                    clear hwx
                    go_wp2
                    go_loopw [11] (fun kk wr => ∃ k : Nat, k ≤ n ∧ kk = .int .i64 k ∧ wx = wr) (fun kk _ => n - (intOf kk).toNat)
                    case atStart => exact ⟨0, Nat.zero_le _, rfl, rfl⟩
                    case round =>
                      obtain ⟨k, hk, rfl, rfl⟩ := hrel
                      by_cases hlt : k < n
                      · have hltd : decide (k < n) = true := by simpa using hlt
                        obtain ⟨u, hu, hue⟩ := HO.out.f1.at_ k hlt
                        obtain rfl := hue hlt
                        clear hue
                        go_wp2
                        go_roundw
                        case rel => exact ⟨k + 1, by omega, by go_num, by trivial⟩
                        case measure => simp [intOf]; omega
                      · have hltd : decide (k < n) = false := by simpa using hlt
                        go_wp2
                        go_roundw
                        case rel => exact ⟨HO.out, .inr (.inr (.inl rfl))⟩
                        case measure => simp [intOf]
                  · have HO := Lib.hid hO
                    have a0 := hO.c2
                    clear hO
                    obtain ⟨wx, hwx⟩ : ∃ wx : World, wx = wr := ⟨_, rfl⟩
                    rw [← hwx] at HO a0 ⊢
                    clear hwx
                    go_wp2
                    go_loopw [11] (fun kk wr => ∃ k : Nat, k ≤ n ∧ kk = .int .i64 k ∧ wx = wr) (fun kk _ => n - (intOf kk).toNat)
                    case atStart => exact ⟨0, Nat.zero_le _, rfl, rfl⟩
                    case round =>
                      obtain ⟨k, hk, rfl, rfl⟩ := hrel
                      by_cases hlt : k < n
                      · have hltd : decide (k < n) = true := by simpa using hlt
                        obtain ⟨u, hu, hue⟩ := HO.out.f2.at_ k hlt
                        obtain rfl := hue hlt
                        clear hue
                        go_wp2
                        go_roundw
                        case rel => exact ⟨k + 1, by omega, by go_num, by trivial⟩
                        case measure => simp [intOf]; omega
                      · have hltd : decide (k < n) = false := by simpa using hlt
                        go_wp2
                        go_roundw
                        case rel => exact ⟨HO.out, .inr (.inr (.inr (rfl)))⟩
                        case measure => simp [intOf]
                  · have HK := Lib.hid hO.kp; clear hO
                    have HRQ := Lib.hid (fun W => (runes_any s W (by omega)).mono (fun e W' h => h.sl))
                    have HTX := Lib.hid (fun v W (h : SlAt W v (runs s 0).length ((runs s 0).map (Value.int .i32))) => text_any v (runs s 0) W h)
                    have HME := Lib.hid (fun W => mend_any s W (by omega))
                    rw [show txt (runs s 0) = mend s from rfl] at HTX
                    rw [← HNN.out] at HRQ HTX
                    generalize mend s = T at *
                    go_wp2_with fail
                    refine (HRQ.out _).mono ?_
                    rintro r W1 ⟨rfl, hsl, hk⟩
                    have HK1 := Lib.hid (HK.out.trans0 hk); have HSL := Lib.hid hsl; clear hk hsl HK
                    go_wp2_with fail
                    refine (HTX.out _ _ HSL.out).mono ?_
                    rintro r W2 ⟨rfl, rfl⟩
                    go_wp2_with fail
                    refine (HME.out _).mono ?_
                    rintro r W3 ⟨rfl, hk⟩
                    have HK3 := Lib.hid (HK1.out.trans0 hk); clear hk
                    go_wp2_with fail
                    refine (known_true _).mono ?_
                    rintro r W4 ⟨rfl, hk⟩
                    have HK4 := Lib.hid (HK3.out.trans0 hk); clear hk
                    go_wp2
                    go_ret
                    exact ⟨rfl, HK4.out⟩
  · have hzd : decide ((20000 : Int) < (s.size : Int)) = true := by simp; omega
    go_enter Try.func10, Try.ntmps10
    go_wp2_with fail
    refine (known_true _).mono ?_
    rintro q w3 ⟨rfl, hk3⟩
    have HK3 := Lib.hid hk3; clear hk3
    go_wp2
    go_ret
    exact ⟨rfl, HK3.out⟩
end Go.Proofs.Ytjelbeghojgooaa
