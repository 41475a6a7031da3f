/-
  What the document fixes of chapter 4; the first law.
-/
import Derived.Test.YtbmapellhcdipaaDoorQuoO
namespace Go.Proofs.YtbmapellhcdipaaDoor
open Go.RowKit
set_option linter.unusedVariables false
set_option linter.unusedSimpArgs false

def kt1 : ByteArray := ⟨#[34, 92, 120, 52, 49, 92, 117, 123, 49, 102, 54, 48, 48, 125, 34]⟩
def kt2 : ByteArray := ⟨#[34, 92, 113, 34]⟩
def kt3 : ByteArray := ⟨#[97, 10, 255, 195, 169]⟩
theorem unq_kt1 : unq kt1 = (⟨#[65, 240, 159, 152, 128]⟩, 0, 0) := by
  have h1 : qtd kt1 0 = qd kt1 1 ByteArray.empty := by unfold qtd; rw [if_pos (by decide +kernel)]
  have e1 : esc (kt1.extract 2 kt1.size) = (⟨#[65]⟩, 3) := by decide +kernel
  have e2 : esc (kt1.extract 6 kt1.size) = (⟨#[240, 159, 152, 128]⟩, 8) := by decide +kernel
  have h2 := qd_esc (s := kt1) (i := 1) ByteArray.empty (by decide +kernel) (by decide +kernel) (by rw [e1]; decide)
  rw [e1] at h2
  have h3 := qd_esc (s := kt1) (i := 5) (ByteArray.empty ++ ⟨#[65]⟩) (by decide +kernel) (by decide +kernel) (by rw [e2]; decide)
  rw [e2] at h3
  have h4 := qd_q (s := kt1) (i := 14) ((ByteArray.empty ++ ⟨#[65]⟩) ++ ⟨#[240, 159, 152, 128]⟩) (by decide +kernel) (by decide +kernel)
  have h5 : qtd kt1 0 = (true, (ByteArray.empty ++ ⟨#[65]⟩) ++ ⟨#[240, 159, 152, 128]⟩, 15) := h1.trans (h2.trans (h3.trans h4))
  rw [unq_yes h5 (by decide +kernel)]
  have h6 : ((ByteArray.empty ++ ⟨#[65]⟩) ++ ⟨#[240, 159, 152, 128]⟩ : ByteArray) = ⟨#[65, 240, 159, 152, 128]⟩ := by decide +kernel
  rw [h6]
theorem unq_kt2 : unq kt2 = (ByteArray.empty, 1, 18) := by
  have h1 : qtd kt2 0 = qd kt2 1 ByteArray.empty := by unfold qtd; rw [if_pos (by decide +kernel)]
  have e1 : esc (kt2.extract 2 kt2.size) = (ByteArray.empty, 0) := by decide +kernel
  have h2 := qd_bad (s := kt2) (i := 1) ByteArray.empty (by decide +kernel) (by decide +kernel) (by rw [e1])
  exact unq_no (h1.trans h2)
theorem quo_kt3 : quo kt3 = ⟨#[34, 97, 92, 110, 92, 120, 102, 102, 195, 169, 34]⟩ := by
  have d0 : dec kt3 0 = (97, 1) := by decide +kernel
  have d1 : dec kt3 1 = (10, 1) := by decide +kernel
  have d2 : dec kt3 2 = (65533, 1) := by decide +kernel
  have d3 : dec kt3 3 = (233, 2) := by decide +kernel
  have c0 : cut kt3 0 = 0 :: cut kt3 1 := by rw [cut_step (by decide +kernel), d0]; rfl
  have c1 : cut kt3 1 = 1 :: cut kt3 2 := by rw [cut_step (by decide +kernel), d1]; rfl
  have c2 : cut kt3 2 = 2 :: cut kt3 3 := by rw [cut_step (by decide +kernel), d2]; rfl
  have c3 : cut kt3 3 = 3 :: cut kt3 5 := by rw [cut_step (by decide +kernel), d3]; rfl
  have c5 : cut kt3 5 = [] := cut_end (by decide +kernel)
  have hc : cut kt3 0 = [0, 1, 2, 3] := by rw [c0, c1, c2, c3, c5]
  unfold quo
  rw [hc]
  decide +kernel
theorem kn1 (W : World) : Calls Tryd.prog 12 #[.string ⟨#[34, 92, 120, 52, 49, 92, 117, 123, 49, 102, 54, 48, 48, 125, 34]⟩] W fun e w' => e = .returned (.tuple #[.string ⟨#[65, 240, 159, 152, 128]⟩, .int .i64 0, .int .i64 0]) ∧ Keep [] W w' := by
  have h := unquote_any kt1 W (by decide +kernel)
  rw [unq_kt1] at h
  exact h
theorem kn2 (W : World) : Calls Tryd.prog 12 #[.string ⟨#[34, 92, 113, 34]⟩] W fun e w' => e = .returned (.tuple #[.string ⟨#[]⟩, .int .i64 1, .int .i64 18]) ∧ Keep [] W w' := by
  have h := unquote_any kt2 W (by decide +kernel)
  rw [unq_kt2] at h
  exact h
theorem kn3 (W : World) (hT : TZ W) : Calls Tryd.prog 9 #[.string ⟨#[97, 10, 255, 195, 169]⟩] W fun e w' => e = .returned (.string ⟨#[34, 97, 92, 110, 92, 120, 102, 102, 195, 169, 34]⟩) ∧ Keep [] W w' := by
  have h := quote_any kt3 W (by decide +kernel) hT
  rw [quo_kt3] at h
  exact h

set_option maxHeartbeats 4000000 in
theorem known_true (w : World) (hT : TZ w) : Calls Tryd.prog 11 #[] w fun e w' => e = .returned (.bool true) ∧ Keep [] w w' := by
  have HT := Lib.hid hT; clear hT
  go_enter Tryd.func11, Tryd.ntmps11
  go_wp2_with fail
  with_reducible refine (kn1 _).mono ?_
  rintro e W1 ⟨rfl, hk1⟩
  have K1 := Lib.hid hk1; clear hk1
  go_wp2_with fail
  with_reducible refine (kn2 _).mono ?_
  rintro e W2 ⟨rfl, hk2⟩
  have K2 := Lib.hid (K1.out.trans0 hk2); clear hk2
  go_wp2_with fail
  with_reducible refine (kn3 _ (HT.out.keep0 K2.out)).mono ?_
  rintro e W3 ⟨rfl, hk3⟩
  have K3 := Lib.hid (K2.out.trans0 hk3); clear hk3
  go_wp2
  go_ret
  exact ⟨rfl, K3.out⟩
end Go.Proofs.YtbmapellhcdipaaDoor
