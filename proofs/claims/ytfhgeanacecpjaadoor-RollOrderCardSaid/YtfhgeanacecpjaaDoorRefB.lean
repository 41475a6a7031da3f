/-
  Walks of the reference's roll: Members, Joined, Left, rising, Load.
-/
import Derived.Test.YtfhgeanacecpjaaDoorRefA
import Derived.Test.YtfhgeanacecpjaaDoorRollE
import Derived.Test.YtfhgeanacecpjaaDoorRollG
namespace Go.Proofs.YtfhgeanacecpjaaDoor
open Go.RowKit Go.Shelf
set_option linter.unusedVariables false

/-- The sites up to a number that a test takes. -/
def upList (p : Nat → Bool) (k : Nat) : List Int := ((List.range (k + 1)).filter fun i => decide (1 ≤ i) && p i).map Int.ofNat
theorem upList_zero (p : Nat → Bool) : upList p 0 = [] := by simp [upList]
theorem upList_succ (p : Nat → Bool) (k : Nat) : upList p (k + 1) = upList p k ++ (if p (k + 1) = true then [((k + 1 : Nat) : Int)] else []) := by
  unfold upList
  rw [List.range_succ, List.filter_append, List.map_append]
  congr 1
  simp only [List.filter_cons, List.filter_nil]
  cases p (k + 1) <;> simp
theorem upList_len (p : Nat → Bool) (k : Nat) : (upList p k).length ≤ k + 1 := by
  unfold upList
  rw [List.length_map]
  exact Nat.le_trans (List.length_filter_le _ _) (by simp)
theorem upList_16 (x : Nat) (h0 : x.testBit 0 = false) : upList (fun i => x.testBit i) 16 = bitList x := by
  unfold upList bitList
  congr 1
  apply List.filter_congr
  intro i hi
  rcases i with _ | i
  · simp [h0]
  · simp

/-- What a loop over the sites keeps: the row. -/
def UpInv (p : Nat → Bool) (w : World) (v i : Value) (wr : World) : Prop :=
  ∃ k : Nat, k ≤ 16 ∧ i = .int .i64 ((k : Int) + 1) ∧ wr.ownsRow w.heap.size 3 1 v (upList p k).length ((upList p k).map (Value.int .i64)) ∧ Keep [] w wr ∧ (v = .slice none 0 0 ↔ upList p k = [])

theorem UpInv_no {p : Nat → Bool} {w wr : World} {k : Nat} {v : Value} (hp : p (k + 1) = false) (h1 : wr.ownsRow w.heap.size 3 1 v (upList p k).length ((upList p k).map (Value.int .i64))) (h3 : v = .slice none 0 0 ↔ upList p k = []) :
    wr.ownsRow w.heap.size 3 1 v (upList p (k + 1)).length ((upList p (k + 1)).map (Value.int .i64)) ∧ (v = .slice none 0 0 ↔ upList p (k + 1) = []) := by
  rw [upList_succ, hp]
  simpa using ⟨h1, h3⟩
theorem UpInv_yes {p : Nat → Bool} {w wr w1 w2 : World} {k : Nat} {v v' : Value} (hp : p (k + 1) = true)
    (h2 : Keep [] w wr) (hw1 : Keep [] wr w1) (ha : AppPost w1 w.heap.size 3 1 v (upList p k).length ((upList p k).map (Value.int .i64)) 1 [.int .i64 ((k : Int) + 1)] v' w2) (hv : ∀ g, v.ownBlock = some g → w.heap.size ≤ g) :
    w2.ownsRow w.heap.size 3 1 v' (upList p (k + 1)).length ((upList p (k + 1)).map (Value.int .i64)) ∧ Keep [] w w2 ∧ (v' = .slice none 0 0 ↔ upList p (k + 1) = []) := by
  obtain ⟨a1, a2, a3, a4⟩ := ha
  rw [upList_succ, if_pos hp]
  refine ⟨by simpa using a1, (h2.trans0 hw1).trans a2 (fun b hb => by simp at hb; exact .inr (hv b hb)), ?_⟩
  rw [a4]; simp

set_option maxHeartbeats 1000000 in
theorem rmembers_any (b : Nat) (j l : Nat) (e : Int) (w : World) (h : RefAt w b j l e) (hj : j < 131072) (hl : l < 131072) (hj0 : j.testBit 0 = false) :
    Calls Tryd.prog 37 #[.pointer (some ⟨b, 0, none⟩)] w (ListPost (bitList (butNot j l)) w) := by
  rw [← upList_16 _ (by rw [testBit_butNot _ _ _ (by omega) (by omega), hj0]; rfl)]
  obtain ⟨i0, hi, hz0, hz1, hz2⟩ := info_parts info_int
  have HI := Lib.hid hi; have HZ0 := Lib.hid hz0; have HZ1 := Lib.hid hz1; have HZ2 := Lib.hid hz2
  clear hi hz0 hz1 hz2
  go_enter Tryd.func37, Tryd.ntmps37
  go_wp2
  go_loopw [3, 4] (UpInv (fun i => (butNot j l).testBit i) w) (fun _ i _ => 17 - (intOf i).toNat)
  case atStart => exact ⟨0, by omega, rfl, by rw [upList_zero]; exact World.ownsRow_nil _ _ _ _, Keep.refl _ _, by simp [upList_zero]⟩
  case round =>
    obtain ⟨k, hk, rfl, h1, h2, h3⟩ := hrel
    have hlen := upList_len (fun i => (butNot j l).testBit i) k
    have H1 := Lib.hid h1; have H2 := Lib.hid h2; have H3 := Lib.hid h3; clear h1 h2 h3
    by_cases hlt : k < 16
    · have hR := h.keep H2.out (by simp)
      go_wp2_with fail
      refine (rhas_any b j l e _ _ hR hj hl).mono ?_
      rintro r w1 ⟨rfl, rfl⟩
      have hp : hasB j l ((k : Int) + 1) = (butNot j l).testBit (k + 1) := by
        unfold hasB; rw [site_mk (by omega) (by omega), Bool.true_and]; congr 1
      rw [hp]
      cases hb : (butNot j l).testBit (k + 1)
      · go_wp2
        go_roundw
        case rel => exact ⟨k + 1, by omega, by go_num, (UpInv_no hb H1.out H3.out).1, H2.out, (UpInv_no hb H1.out H3.out).2⟩
        case measure => simp [intOf]; omega
      · go_wp2_with (at_builtin; refine wpList_append_mine _ rfl (.tmp 12) (.tmp 14) 32 rfl w.heap.size 3 i0 (.int .i64 0) 1 8 Tryd.underlying32 HI.out HZ0.out HZ1.out HZ2.out rfl (by decide) _ _ _ rfl (H1.out.alloc _) ⟨wr.heap.size, 0, none⟩ 1 1 [.int .i64 ((k : Int) + 1)] rfl rfl (cell_one_new _ _ _) (by simp [Value.oneCell']) (by unfold maxLen; omega) (by omega) (by have := H2.out.size; simp; omega) ?_; intro v' W2 hp2; have hfin := Lib.hid (UpInv_yes hb H2.out ((Keep.refl _ _).alloc _) hp2 (fun g hg => (H1.out.lt g hg).1)); clear hp2)
        go_roundw
        case rel => exact ⟨k + 1, by omega, by go_num, hfin.out⟩
        case measure => simp [intOf]; omega
    · obtain rfl : k = 16 := by omega
      go_wp2
      go_ret
      exact ⟨_, rfl, H1.out, H2.out, H3.out⟩

set_option maxHeartbeats 1000000 in
theorem rjoined_any (b : Nat) (j l : Nat) (e : Int) (w : World) (h : RefAt w b j l e) (hj0 : j.testBit 0 = false) :
    Calls Tryd.prog 38 #[.pointer (some ⟨b, 0, none⟩)] w (ListPost (bitList j) w) := by
  rw [← upList_16 _ hj0]
  obtain ⟨i0, hi, hz0, hz1, hz2⟩ := info_parts info_int
  have HI := Lib.hid hi; have HZ0 := Lib.hid hz0; have HZ1 := Lib.hid hz1; have HZ2 := Lib.hid hz2
  clear hi hz0 hz1 hz2
  go_enter Tryd.func38, Tryd.ntmps38
  go_wp2
  go_loopw [3, 4] (UpInv (fun i => j.testBit i) w) (fun _ i _ => 17 - (intOf i).toNat)
  case atStart => exact ⟨0, by omega, rfl, by rw [upList_zero]; exact World.ownsRow_nil _ _ _ _, Keep.refl _ _, by simp [upList_zero]⟩
  case round =>
    obtain ⟨k, hk, rfl, h1, h2, h3⟩ := hrel
    have hlen := upList_len (fun i => j.testBit i) k
    have hR := h.keep h2 (by simp)
    have H1 := Lib.hid h1; have H2 := Lib.hid h2; have H3 := Lib.hid h3; clear h1 h2 h3
    by_cases hlt : k < 16
    · have hc := hR.cj (k + 1) (by omega)
      cases hb : j.testBit (k + 1)
      · rw [hb] at hc
        go_wp2
        go_roundw
        case rel => exact ⟨k + 1, by omega, by go_num, (UpInv_no hb H1.out H3.out).1, H2.out, (UpInv_no hb H1.out H3.out).2⟩
        case measure => simp [intOf]; omega
      · rw [hb] at hc
        go_wp2_with (at_builtin; refine wpList_append_mine _ rfl (.tmp 15) (.tmp 17) 32 rfl w.heap.size 3 i0 (.int .i64 0) 1 8 Tryd.underlying32 HI.out HZ0.out HZ1.out HZ2.out rfl (by decide) _ _ _ rfl (H1.out.alloc _) ⟨wr.heap.size, 0, none⟩ 1 1 [.int .i64 ((k : Int) + 1)] rfl rfl (cell_one_new _ _ _) (by simp [Value.oneCell']) (by unfold maxLen; omega) (by omega) (by have := H2.out.size; simp; omega) ?_; intro v' W2 hp2; have hfin := Lib.hid (UpInv_yes hb H2.out ((Keep.refl _ _).alloc _) hp2 (fun g hg => (H1.out.lt g hg).1)); clear hp2)
        go_roundw
        case rel => exact ⟨k + 1, by omega, by go_num, hfin.out⟩
        case measure => simp [intOf]; omega
    · obtain rfl : k = 16 := by omega
      go_wp2
      go_ret
      exact ⟨_, rfl, H1.out, H2.out, H3.out⟩

set_option maxHeartbeats 1000000 in
theorem rleft_any (b : Nat) (j l : Nat) (e : Int) (w : World) (h : RefAt w b j l e) (hj0 : l.testBit 0 = false) :
    Calls Tryd.prog 39 #[.pointer (some ⟨b, 0, none⟩)] w (ListPost (bitList l) w) := by
  rw [← upList_16 _ hj0]
  obtain ⟨i0, hi, hz0, hz1, hz2⟩ := info_parts info_int
  have HI := Lib.hid hi; have HZ0 := Lib.hid hz0; have HZ1 := Lib.hid hz1; have HZ2 := Lib.hid hz2
  clear hi hz0 hz1 hz2
  go_enter Tryd.func39, Tryd.ntmps39
  go_wp2
  go_loopw [3, 4] (UpInv (fun i => l.testBit i) w) (fun _ i _ => 17 - (intOf i).toNat)
  case atStart => exact ⟨0, by omega, rfl, by rw [upList_zero]; exact World.ownsRow_nil _ _ _ _, Keep.refl _ _, by simp [upList_zero]⟩
  case round =>
    obtain ⟨k, hk, rfl, h1, h2, h3⟩ := hrel
    have hlen := upList_len (fun i => l.testBit i) k
    have hR := h.keep h2 (by simp)
    have H1 := Lib.hid h1; have H2 := Lib.hid h2; have H3 := Lib.hid h3; clear h1 h2 h3
    by_cases hlt : k < 16
    · have hc := hR.cl (k + 1) (by omega)
      cases hb : l.testBit (k + 1)
      · rw [hb] at hc
        go_wp2
        go_roundw
        case rel => exact ⟨k + 1, by omega, by go_num, (UpInv_no hb H1.out H3.out).1, H2.out, (UpInv_no hb H1.out H3.out).2⟩
        case measure => simp [intOf]; omega
      · rw [hb] at hc
        go_wp2_with (at_builtin; refine wpList_append_mine _ rfl (.tmp 15) (.tmp 17) 32 rfl w.heap.size 3 i0 (.int .i64 0) 1 8 Tryd.underlying32 HI.out HZ0.out HZ1.out HZ2.out rfl (by decide) _ _ _ rfl (H1.out.alloc _) ⟨wr.heap.size, 0, none⟩ 1 1 [.int .i64 ((k : Int) + 1)] rfl rfl (cell_one_new _ _ _) (by simp [Value.oneCell']) (by unfold maxLen; omega) (by omega) (by have := H2.out.size; simp; omega) ?_; intro v' W2 hp2; have hfin := Lib.hid (UpInv_yes hb H2.out ((Keep.refl _ _).alloc _) hp2 (fun g hg => (H1.out.lt g hg).1)); clear hp2)
        go_roundw
        case rel => exact ⟨k + 1, by omega, by go_num, hfin.out⟩
        case measure => simp [intOf]; omega
    · obtain rfl : k = 16 := by omega
      go_wp2
      go_ret
      exact ⟨_, rfl, H1.out, H2.out, H3.out⟩
end Go.Proofs.YtfhgeanacecpjaaDoor
