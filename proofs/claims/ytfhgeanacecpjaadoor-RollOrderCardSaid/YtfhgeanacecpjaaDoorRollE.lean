/-
  Walks of package roll: Members, Joined, Left; no Roll.
-/
import Derived.Test.YtfhgeanacecpjaaDoorRollB
import Derived.Test.YtfhgeanacecpjaaDoorRollD
import Derived.StillTailTactics
namespace Go.Proofs.YtfhgeanacecpjaaDoor
open Go.RowKit Go.Shelf
set_option linter.unusedVariables false

theorem ListPost.later {xs : List Int} {w w1 : World} {e : Ending} {w' : World} (h : ListPost xs w1 e w') (hk : Keep [] w w1) : ListPost xs w e w' := by
  obtain ⟨v, h1, h2, h3, h4⟩ := h
  exact ⟨v, h1, ⟨h2.1, h2.2.imp id (fun ⟨g, cap, cur, q1, q2, q3⟩ => ⟨g, cap, cur, q1, Nat.le_trans hk.size q2, q3⟩)⟩, hk.trans0 h3, h4⟩

set_option maxHeartbeats 400000 in
theorem joined_any (b : Nat) (j l : Nat) (e : Int) (w : World) (h : RollAt w b j l e) (hT : TabW w) :
    Calls Tryd.prog 14 #[.pointer (some ⟨b, 0, none⟩)] w (ListPost (bitList j) w) := by
  have c0 : w.cell? ⟨b, 0, none⟩ = some (.int .u32 (j : Int)) := cell_of_block h.blk 0
  go_enter Tryd.func14, Tryd.ntmps14
  go_wp2_with fail
  refine (list_any j h.jl _ hT).mono ?_
  rintro r w1 ⟨v, rfl, h1, h2, h3⟩
  have H1 := Lib.hid h1; have H2 := Lib.hid h2; have H3 := Lib.hid h3; clear h1 h2 h3
  go_wp2
  go_ret
  exact ⟨v, rfl, H1.out, H2.out, H3.out⟩

set_option maxHeartbeats 400000 in
theorem left_any (b : Nat) (j l : Nat) (e : Int) (w : World) (h : RollAt w b j l e) (hT : TabW w) :
    Calls Tryd.prog 15 #[.pointer (some ⟨b, 0, none⟩)] w (ListPost (bitList l) w) := by
  have c0 : w.cell? ⟨b, 1, none⟩ = some (.int .u32 (l : Int)) := cell_of_block h.blk 1
  go_enter Tryd.func15, Tryd.ntmps15
  go_wp2_with fail
  refine (list_any l h.ll _ hT).mono ?_
  rintro r w1 ⟨v, rfl, h1, h2, h3⟩
  have H1 := Lib.hid h1; have H2 := Lib.hid h2; have H3 := Lib.hid h3; clear h1 h2 h3
  go_wp2
  go_ret
  exact ⟨v, rfl, H1.out, H2.out, H3.out⟩

set_option maxHeartbeats 400000 in
theorem members_any (b : Nat) (j l : Nat) (e : Int) (w : World) (h : RollAt w b j l e) (hT : TabW w) :
    Calls Tryd.prog 18 #[.pointer (some ⟨b, 0, none⟩)] w (ListPost (bitList (butNot j l)) w) := by
  have c0 : w.cell? ⟨b, 0, none⟩ = some (.int .u32 (j : Int)) := cell_of_block h.blk 0
  have c1 : w.cell? ⟨b, 1, none⟩ = some (.int .u32 (l : Int)) := cell_of_block h.blk 1
  have hj := h.jl
  have hl := h.ll
  have hbn : bits .andNot .u32 (j : Int) (l : Int) = ((butNot j l : Nat) : Int) := by rw [u32_andNot_nat _ _ (by omega) (by omega)]; rfl
  go_enter Tryd.func18, Tryd.ntmps18
  go_wp2
  go_still_tail 9, (by kernel_rfl)
  change wpList _ _ _ _ _ w.drew
  have HN := Lib.hid hbn; clear hbn
  go_wp2_with fail
  refine (list_any _ (butNot_lt j l hj) w.drew hT).mono ?_
  rintro r w1 hp
  obtain ⟨v, rfl, h1, h2, h3⟩ := ListPost.later hp ((Keep.refl _ _).drew)
  have H1 := Lib.hid h1; have H2 := Lib.hid h2; have H3 := Lib.hid h3; clear h1 h2 h3 hp
  go_wp2
  go_ret
  exact ⟨v, rfl, H1.out, H2.out, H3.out⟩

/-! No Roll. -/
theorem nil_join (n : Int) (w : World) : Calls Tryd.prog 28 #[.pointer none, .int .i64 n] w fun e w' => e = .returned (.bool false) ∧ w = w' := by
  go_enter Tryd.func28, Tryd.ntmps28
  go_wp2
  go_ret
  exact ⟨rfl, rfl⟩
theorem nil_leave (n : Int) (w : World) : Calls Tryd.prog 29 #[.pointer none, .int .i64 n] w fun e w' => e = .returned (.bool false) ∧ w = w' := by
  go_enter Tryd.func29, Tryd.ntmps29
  go_wp2
  go_ret
  exact ⟨rfl, rfl⟩
theorem nil_has (n : Int) (w : World) : Calls Tryd.prog 23 #[.pointer none, .int .i64 n] w fun e w' => e = .returned (.bool false) ∧ ∃ k, w' = w.drewN k := by
  go_enter Tryd.func23, Tryd.ntmps23
  go_wp2
  go_quiet (fail)
  go_wp2
  go_ret
  exact ⟨rfl, _, rfl⟩
theorem nil_known (n : Int) (w : World) : Calls Tryd.prog 25 #[.pointer none, .int .i64 n] w fun e w' => e = .returned (.bool false) ∧ ∃ k, w' = w.drewN k := by
  go_enter Tryd.func25, Tryd.ntmps25
  go_wp2
  go_quiet (fail)
  go_wp2
  go_ret
  exact ⟨rfl, _, rfl⟩
theorem nil_members (w : World) : Calls Tryd.prog 18 #[.pointer none] w fun e w' => e = .returned (.slice none 0 0) ∧ w = w' := by
  go_enter Tryd.func18, Tryd.ntmps18
  go_wp2
  go_ret
  exact ⟨rfl, rfl⟩
theorem nil_joined (w : World) : Calls Tryd.prog 14 #[.pointer none] w fun e w' => e = .returned (.slice none 0 0) ∧ w = w' := by
  go_enter Tryd.func14, Tryd.ntmps14
  go_wp2
  go_ret
  exact ⟨rfl, rfl⟩
theorem nil_left (w : World) : Calls Tryd.prog 15 #[.pointer none] w fun e w' => e = .returned (.slice none 0 0) ∧ w = w' := by
  go_enter Tryd.func15, Tryd.ntmps15
  go_wp2
  go_ret
  exact ⟨rfl, rfl⟩
theorem nil_epoch (w : World) : Calls Tryd.prog 16 #[.pointer none] w fun e w' => e = .returned (.int .i64 0) ∧ w = w' := by
  go_enter Tryd.func16, Tryd.ntmps16
  go_wp2
  go_ret
  exact ⟨rfl, rfl⟩
end Go.Proofs.YtfhgeanacecpjaaDoor
