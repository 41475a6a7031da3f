/-
  Walks of the reference's roll: New, site, Has, Known, turn, Join, Leave, Epoch.
-/
import Derived.Test.YtfhgeanacecpjaaDoorRollA
namespace Go.Proofs.YtfhgeanacecpjaaDoor
open Go.RowKit
set_option linter.unusedVariables false

theorem rsite_any (n : Int) (w : World) : Calls Tryd.prog 42 #[.int .i64 n] w fun e w' => e = .returned (.bool (siteB n)) ∧ w = w' := by
  by_cases h1 : 1 ≤ n
  · by_cases h2 : n ≤ 16
    · have e : siteB n = true := by simp [siteB, h1, h2]
      rw [e]
      go_enter Tryd.func42, Tryd.ntmps42
      go_wp2
      go_ret
      exact ⟨rfl, rfl⟩
    · have e : siteB n = false := by simp [siteB]; omega
      rw [e]
      go_enter Tryd.func42, Tryd.ntmps42
      go_wp2
      go_ret
      exact ⟨rfl, rfl⟩
  · have e : siteB n = false := by simp [siteB]; omega
    rw [e]
    go_enter Tryd.func42, Tryd.ntmps42
    go_wp2
    go_ret
    exact ⟨rfl, rfl⟩

/-- The reference's Roll in memory. -/
structure RefAt (w : World) (b : Nat) (j l : Nat) (e : Int) : Prop where
  blk : ∃ c, w.heap[b]? = some (.cells c 59 (0, 0)) ∧ c.size = 35 ∧ (∀ i, i ≤ 16 → c[i]? = some (.bool (j.testBit i))) ∧ (∀ i, i ≤ 16 → c[17 + i]? = some (.bool (l.testBit i))) ∧ c[34]? = some (.int .i64 e)

theorem RefAt.keep {w w' : World} {b : Nat} {j l : Nat} {e : Int} {L : List Nat} (h : RefAt w b j l e) (k : Keep L w w') (hb : b ∉ L) : RefAt w' b j l e := by
  obtain ⟨c, h1, h2⟩ := h.blk
  exact ⟨c, k.at_ h1 hb, h2⟩
theorem RefAt.lt {w : World} {b : Nat} {j l : Nat} {e : Int} (h : RefAt w b j l e) : b < w.heap.size := by
  obtain ⟨c, h1, h2⟩ := h.blk
  exact lt_of_block h1
theorem RefAt.drewN {w : World} {b : Nat} {j l : Nat} {e : Int} (h : RefAt w b j l e) (k : Nat) : RefAt (w.drewN k) b j l e := ⟨h.blk⟩

/-- A new one. -/
theorem RefAt.new {w : World} {b : Nat} (e : Int) (h : w.heap[b]? = some (.cells (List.replicate 34 (Value.bool false) ++ [Value.int .i64 e]).toArray 59 (0, 0))) : RefAt w b 0 0 e := by
  refine ⟨_, h, by simp, fun i hi => ?_, fun i hi => ?_, by simp⟩
  · simp only [List.getElem?_toArray]
    rw [List.getElem?_append_left (by simp; omega), List.getElem?_replicate, if_pos (by omega)]
    simp
  · simp only [List.getElem?_toArray]
    rw [List.getElem?_append_left (by simp; omega), List.getElem?_replicate, if_pos (by omega)]
    simp

theorem RefAt.setJ {w : World} {b : Nat} {j l : Nat} {e n : Int} (h : RefAt w b j l e) (hs : siteB n = true) : RefAt (w.setCell ⟨b, n.toNat, none⟩ (.bool true)) b (withBit j n) l e := by
  obtain ⟨c, h1, h2, h3, h4, h5⟩ := h.blk
  obtain ⟨s1, s2⟩ := site_yes hs
  refine ⟨_, block_setCell h1 _ _, by simpa using h2, fun i hi => ?_, fun i hi => ?_, ?_⟩
  · rw [Array.getElem?_setIfInBounds, testBit_withBit, hs]
    by_cases e : n.toNat = i
    · rw [if_pos e, if_pos (by omega)]; simp [e]
    · rw [if_neg e, h3 i hi]; simp [e]
  · rw [Array.getElem?_setIfInBounds, if_neg (by omega), h4 i hi]
  · rw [Array.getElem?_setIfInBounds, if_neg (by omega), h5]

theorem RefAt.setL {w : World} {b : Nat} {j l : Nat} {e n : Int} (h : RefAt w b j l e) (hs : siteB n = true) : RefAt (w.setCell ⟨b, 17 + n.toNat, none⟩ (.bool true)) b j (withBit l n) e := by
  obtain ⟨c, h1, h2, h3, h4, h5⟩ := h.blk
  obtain ⟨s1, s2⟩ := site_yes hs
  refine ⟨_, block_setCell h1 _ _, by simpa using h2, fun i hi => ?_, fun i hi => ?_, ?_⟩
  · rw [Array.getElem?_setIfInBounds, if_neg (by omega), h3 i hi]
  · rw [Array.getElem?_setIfInBounds, testBit_withBit, hs]
    by_cases e : n.toNat = i
    · rw [if_pos (by omega), if_pos (by omega)]; simp [e]
    · rw [if_neg (by omega), h4 i hi]; simp [e]
  · rw [Array.getElem?_setIfInBounds, if_neg (by omega), h5]

theorem RefAt.setE {w : World} {b : Nat} {j l : Nat} {e : Int} (h : RefAt w b j l e) (x : Int) : RefAt (w.setCell ⟨b, 34, none⟩ (.int .i64 x)) b j l x := by
  obtain ⟨c, h1, h2, h3, h4, h5⟩ := h.blk
  refine ⟨_, block_setCell h1 _ _, by simpa using h2, fun i hi => ?_, fun i hi => ?_, ?_⟩
  · rw [Array.getElem?_setIfInBounds, if_neg (by omega), h3 i hi]
  · rw [Array.getElem?_setIfInBounds, if_neg (by omega), h4 i hi]
  · rw [Array.getElem?_setIfInBounds, if_pos rfl, if_pos (by omega)]

theorem RefAt.cj {w : World} {b : Nat} {j l : Nat} {e : Int} (h : RefAt w b j l e) (i : Nat) (hi : i ≤ 16) : w.cell? ⟨b, i, none⟩ = some (.bool (j.testBit i)) := by
  obtain ⟨c, h1, h2, h3, h4, h5⟩ := h.blk
  rw [cell_of_block h1, h3 i hi]
theorem RefAt.cl {w : World} {b : Nat} {j l : Nat} {e : Int} (h : RefAt w b j l e) (i : Nat) (hi : i ≤ 16) : w.cell? ⟨b, 17 + i, none⟩ = some (.bool (l.testBit i)) := by
  obtain ⟨c, h1, h2, h3, h4, h5⟩ := h.blk
  rw [cell_of_block h1, h4 i hi]
theorem RefAt.ce {w : World} {b : Nat} {j l : Nat} {e : Int} (h : RefAt w b j l e) : w.cell? ⟨b, 34, none⟩ = some (.int .i64 e) := by
  obtain ⟨c, h1, h2, h3, h4, h5⟩ := h.blk
  rw [cell_of_block h1, h5]
theorem RefAt.fr {w : World} {b : Nat} {j l : Nat} {e : Int} (h : RefAt w b j l e) (i : Nat) : w.frozen? ⟨b, i, none⟩ = false := by
  obtain ⟨c, h1, h2, h3, h4, h5⟩ := h.blk
  exact free_of_block h1 i

theorem rnew_any (w : World) : Calls Tryd.prog 20 #[] w fun e w' => e = .returned (.pointer (some ⟨w.heap.size, 0, none⟩)) ∧ RefAt w' w.heap.size 0 0 0 ∧ Keep [] w w' := by
  go_enter Tryd.func20, Tryd.ntmps20
  go_wp2
  go_ret
  exact ⟨rfl, RefAt.new 0 (heap_alloc_new w _), (Keep.refl _ _).alloc _⟩

set_option maxHeartbeats 400000 in
theorem rhas_any (b : Nat) (j l : Nat) (e n : Int) (w : World) (h : RefAt w b j l e) (hj : j < 131072) (hl : l < 131072) :
    Calls Tryd.prog 24 #[.pointer (some ⟨b, 0, none⟩), .int .i64 n] w fun e w' => e = .returned (.bool (hasB j l n)) ∧ w = w' := by
  rw [hasB_eq j l n hj hl]
  cases hs : siteB n
  · have HS := Lib.hid hs; clear hs
    go_enter Tryd.func24, Tryd.ntmps24
    go_wp2_with fail
    refine (rsite_any n _).mono ?_
    rintro r w1 ⟨rfl, rfl⟩
    rw [HS.out]
    go_wp2
    go_ret
    exact ⟨rfl, rfl⟩
  · have h1 := (site_yes hs).1
    have h2 := (site_yes hs).2
    have cj := h.cj n.toNat (by omega)
    have cl := h.cl n.toNat (by omega)
    have HS := Lib.hid hs; clear hs
    go_enter Tryd.func24, Tryd.ntmps24
    go_wp2_with fail
    refine (rsite_any n _).mono ?_
    rintro r w1 ⟨rfl, rfl⟩
    rw [HS.out]
    cases hb : j.testBit n.toNat
    · rw [hb] at cj
      go_wp2
      go_ret
      exact ⟨by simp [hb], rfl⟩
    · rw [hb] at cj
      go_wp2
      go_ret
      exact ⟨by simp [hb], rfl⟩

set_option maxHeartbeats 400000 in
theorem rknown_any (b : Nat) (j l : Nat) (e n : Int) (w : World) (h : RefAt w b j l e) :
    Calls Tryd.prog 26 #[.pointer (some ⟨b, 0, none⟩), .int .i64 n] w fun e w' => e = .returned (.bool (knownB j l n)) ∧ w = w' := by
  rw [knownB_eq j l n]
  cases hs : siteB n
  · have HS := Lib.hid hs; clear hs
    go_enter Tryd.func26, Tryd.ntmps26
    go_wp2_with fail
    refine (rsite_any n _).mono ?_
    rintro r w1 ⟨rfl, rfl⟩
    rw [HS.out]
    go_wp2
    go_ret
    exact ⟨rfl, rfl⟩
  · have h1 := (site_yes hs).1
    have h2 := (site_yes hs).2
    have cj := h.cj n.toNat (by omega)
    have cl := h.cl n.toNat (by omega)
    have HS := Lib.hid hs; clear hs
    cases hb : j.testBit n.toNat
    · rw [hb] at cj
      go_enter Tryd.func26, Tryd.ntmps26
      go_wp2_with fail
      refine (rsite_any n _).mono ?_
      rintro r w1 ⟨rfl, rfl⟩
      rw [HS.out]
      go_wp2
      go_ret
      exact ⟨by simp, rfl⟩
    · rw [hb] at cj
      go_enter Tryd.func26, Tryd.ntmps26
      go_wp2_with fail
      refine (rsite_any n _).mono ?_
      rintro r w1 ⟨rfl, rfl⟩
      rw [HS.out]
      go_wp2
      go_ret
      exact ⟨by simp, rfl⟩

theorem repoch_any (b : Nat) (j l : Nat) (e : Int) (w : World) (h : RefAt w b j l e) :
    Calls Tryd.prog 40 #[.pointer (some ⟨b, 0, none⟩)] w fun r w' => r = .returned (.int .i64 e) ∧ w = w' := by
  have c0 := h.ce
  go_enter Tryd.func40, Tryd.ntmps40
  go_wp2
  go_ret
  exact ⟨rfl, rfl⟩

/-- What the reference's Join and Leave end in. -/
def RTurnPost (b : Nat) (r : Bool) (j l : Nat) (e : Int) (w : World) (x : Ending) (w' : World) : Prop :=
  x = .returned (.bool r) ∧ RefAt w' b j l (if r = true then e + 1 else e) ∧ Keep [b] w w'

set_option maxHeartbeats 400000 in
theorem rturn_any (b : Nat) (j l : Nat) (e n : Int) (was : Bool) (w : World) (h : RefAt w b j l e) (hj : j < 131072) (hl : l < 131072) (he0 : 0 ≤ e) (he1 : e ≤ 4611686018427387904) :
    Calls Tryd.prog 46 #[.pointer (some ⟨b, 0, none⟩), .int .i64 n, .bool was] w (RTurnPost b (hasB j l n != was) j l e w) := by
  have c0 := h.ce
  have f0 := h.fr 34
  cases hr : (hasB j l n == was)
  · have HR := Lib.hid (show (hasB j l n != was) = true by simpa [bne] using hr)
    go_enter Tryd.func46, Tryd.ntmps46
    go_wp2_with fail
    refine (rhas_any b j l e n _ h hj hl).mono ?_
    rintro r w1 ⟨rfl, rfl⟩
    go_wp2
    go_ret
    exact ⟨by rw [HR.out]; rfl, by rw [HR.out]; exact h.setE _, (Keep.refl _ _).setCell (by simp) _⟩
  · have HR := Lib.hid (show (hasB j l n != was) = false by simpa [bne] using hr)
    go_enter Tryd.func46, Tryd.ntmps46
    go_wp2_with fail
    refine (rhas_any b j l e n _ h hj hl).mono ?_
    rintro r w1 ⟨rfl, rfl⟩
    go_wp2
    go_ret
    exact ⟨by rw [HR.out]; rfl, by rw [HR.out]; exact h, Keep.refl _ _⟩

set_option maxHeartbeats 400000 in
theorem rjoin_any (b : Nat) (j l : Nat) (e n : Int) (w : World) (h : RefAt w b j l e) (hj : j < 131072) (hl : l < 131072) (he0 : 0 ≤ e) (he1 : e ≤ 4611686018427387904) :
    Calls Tryd.prog 36 #[.pointer (some ⟨b, 0, none⟩), .int .i64 n] w (RTurnPost b (joinR j l n) (withBit j n) l e w) := by
  cases hs : siteB n
  · have hr : joinR j l n = false := by simp [joinR, withBit, hs]
    have hw : withBit j n = j := by simp [withBit, hs]
    rw [hr, hw]
    have HS := Lib.hid hs; clear hs hr hw
    go_enter Tryd.func36, Tryd.ntmps36
    go_wp2_with fail
    refine (rsite_any n _).mono ?_
    rintro r w1 ⟨rfl, rfl⟩
    rw [HS.out]
    go_wp2
    go_ret
    exact ⟨rfl, h, Keep.refl _ _⟩
  · have h1 := (site_yes hs).1
    have h2 := (site_yes hs).2
    have hR := h.setJ hs
    have hK := (Keep.refl [b] w).setCell (p := ⟨b, n.toNat, none⟩) (by simp) (.bool true)
    have c0 := h.cj n.toNat (by omega)
    have f0 := h.fr n.toNat
    have HS := Lib.hid hs; clear hs
    go_enter Tryd.func36, Tryd.ntmps36
    go_wp2_with fail
    refine (rsite_any n _).mono ?_
    rintro r w1 ⟨rfl, rfl⟩
    rw [HS.out]
    go_wp2_with fail
    refine (rhas_any b j l e n _ h hj hl).mono ?_
    rintro r w1 ⟨rfl, rfl⟩
    go_wp2_with fail
    refine (rturn_any b (withBit j n) l e n (hasB j l n) _ hR (withBit_lt _ _ hj) hl he0 he1).mono ?_
    rintro r w2 ⟨rfl, h3, h4⟩
    go_wp2
    go_ret
    exact ⟨rfl, h3, hK.trans' h4⟩

set_option maxHeartbeats 400000 in
theorem rleave_any (b : Nat) (j l : Nat) (e n : Int) (w : World) (h : RefAt w b j l e) (hj : j < 131072) (hl : l < 131072) (he0 : 0 ≤ e) (he1 : e ≤ 4611686018427387904) :
    Calls Tryd.prog 35 #[.pointer (some ⟨b, 0, none⟩), .int .i64 n] w (RTurnPost b (leaveR j l n) j (withBit l n) e w) := by
  cases hs : siteB n
  · have hr : leaveR j l n = false := by simp [leaveR, withBit, hs]
    have hw : withBit l n = l := by simp [withBit, hs]
    rw [hr, hw]
    have HS := Lib.hid hs; clear hs hr hw
    go_enter Tryd.func35, Tryd.ntmps35
    go_wp2_with fail
    refine (rsite_any n _).mono ?_
    rintro r w1 ⟨rfl, rfl⟩
    rw [HS.out]
    go_wp2
    go_ret
    exact ⟨rfl, h, Keep.refl _ _⟩
  · have h1 := (site_yes hs).1
    have h2 := (site_yes hs).2
    have hR := h.setL hs
    have hK := (Keep.refl [b] w).setCell (p := ⟨b, 17 + n.toNat, none⟩) (by simp) (.bool true)
    have c0 := h.cl n.toNat (by omega)
    have f0 := h.fr (17 + n.toNat)
    have HS := Lib.hid hs; clear hs
    go_enter Tryd.func35, Tryd.ntmps35
    go_wp2_with fail
    refine (rsite_any n _).mono ?_
    rintro r w1 ⟨rfl, rfl⟩
    rw [HS.out]
    go_wp2_with fail
    refine (rhas_any b j l e n _ h hj hl).mono ?_
    rintro r w1 ⟨rfl, rfl⟩
    go_wp2_with fail
    refine (rturn_any b j (withBit l n) e n (hasB j l n) _ hR hj (withBit_lt _ _ hl) he0 he1).mono ?_
    rintro r w2 ⟨rfl, h3, h4⟩
    go_wp2
    go_ret
    exact ⟨rfl, h3, hK.trans' h4⟩
end Go.Proofs.YtfhgeanacecpjaaDoor
