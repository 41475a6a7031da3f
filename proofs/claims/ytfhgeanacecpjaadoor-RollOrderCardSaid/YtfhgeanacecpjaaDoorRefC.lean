/-
  Walks of the reference's roll: rising.
-/
import Derived.Test.YtfhgeanacecpjaaDoorRefB
namespace Go.Proofs.YtfhgeanacecpjaaDoor
open Go.RowKit Go.Shelf
set_option linter.unusedVariables false

theorem drewN_add (w : World) (a b : Nat) : (w.drewN a).drewN b = w.drewN (a + b) := by
  unfold World.drewN
  simp [Nat.add_assoc]

set_option maxHeartbeats 2000000 in
theorem rising_any (v : Value) (zs : List Int) (w : World) (h : SlAt w v zs.length (zs.map (Value.int .i64))) (hlen : zs.length ≤ 4611686018427387904) :
    Calls Tryd.prog 43 #[v] w fun e w' => e = .returned (.bool (risingFrom 0 zs)) ∧ ∃ k, w' = w.drewN k := by
  by_cases h0 : zs.length = 0
  · obtain rfl : zs = [] := List.eq_nil_of_length_eq_zero h0
    obtain ⟨ad, cap, rfl⟩ := h.empty
    go_enter Tryd.func43, Tryd.ntmps43
    go_wp2
    refine wp_loop_rounds 1 ?_; rw [rounds_succ]
    go_wp2
    go_ret
    exact ⟨rfl, 0, rfl⟩
  · obtain ⟨b, off, cap, rfl, hc⟩ := h.at_ h0
    have hpos : 0 < zs.length := by omega
    have HC := Lib.hid hc; clear hc h h0
    go_enter Tryd.func43, Tryd.ntmps43
    go_wp2
    go_loopw [3] (fun i wr => ∃ (k n : Nat) (last : Int), k ≤ zs.length ∧ i = .int .i64 k ∧ wr = w.drewN n ∧ risingFrom 0 zs = risingFrom last (zs.drop k) ∧ last = if k = 0 then 0 else zs[k - 1]?.getD 0)
      (fun i _ => zs.length - (intOf i).toNat)
    case atStart => exact ⟨0, 0, 0, Nat.zero_le _, rfl, rfl, rfl, rfl⟩
    case round =>
      obtain ⟨k, n, last, hk, rfl, hwr, hr, hla⟩ := hrel
      have HW := Lib.hid hwr; clear hwr
      by_cases hlt : k < zs.length
      · have hd : zs.drop k = zs[k] :: zs.drop (k + 1) := (List.getElem_cons_drop hlt).symm
        have hkk : zs[k]?.getD 0 = zs[k] := by rw [List.getElem?_eq_getElem hlt]; rfl
        have hcell : wr.cell? ⟨b, off + k, none⟩ = some (.int .i64 zs[k]) := by rw [HW.out]; exact HC.out k _ (by rw [List.getElem?_map, List.getElem?_eq_getElem hlt]; rfl)
        rw [hd] at hr
        have HKK := Lib.hid hkk; clear hkk
        generalize zs[k] = x at *
        have HR := Lib.hid hr; clear hr hd
        cases hs : siteB x
        · have HS := Lib.hid hs; clear hs
          have HLA := Lib.hid hla; clear hla
          go_wp2
          go_quiet ((go_at_call 42; exact Calls.quiet_of_same ((rsite_any x _).mono (fun e w' ⟨h1, h2⟩ => ⟨by rw [h1, HS.out], h2.symm⟩))))
          go_wp2
          go_ret
          have : risingFrom 0 zs = false := by rw [HR.out]; simp [risingFrom, HS.out]
          exact ⟨by rw [this]; rfl, n + nq, by rw [HW.out, drewN_add]⟩
        · have HS := Lib.hid hs; have hs1 := (site_yes hs).1; have hs2 := (site_yes hs).2
          clear hs
          by_cases hk0 : k = 0
          · have HLA := Lib.hid hla; clear hla
            subst hk0
            rw [Nat.add_zero] at hcell
            go_wp2
            go_quiet ((go_at_call 42; exact Calls.quiet_of_same ((rsite_any x _).mono (fun e w' ⟨h1, h2⟩ => ⟨by rw [h1, HS.out], h2.symm⟩))))
            go_wp2
            go_roundw
            case rel => exact ⟨1, n + nq, x, hlt, by go_num, by rw [HW.out, drewN_add], by rw [HR.out, HLA.out]; simp [risingFrom, HS.out]; intro h; omega, by rw [if_neg (by decide)]; exact HKK.out.symm⟩
            case measure => simp [intOf]; omega
          · obtain ⟨m, rfl⟩ : ∃ m, k = m + 1 := ⟨k - 1, by omega⟩
            have hlm : m < zs.length := by omega
            rw [if_neg hk0] at hla
            have hla' : last = zs[m] := by rw [hla]; simp [List.getElem?_eq_getElem hlm]
            have hcell2 : wr.cell? ⟨b, off + m, none⟩ = some (.int .i64 last) := by
              rw [hla', HW.out]; exact HC.out m _ (by rw [List.getElem?_map, List.getElem?_eq_getElem hlm]; rfl)
            clear hla hla' hk0
            have hb1 : (m : Int) + 1 < (zs.length : Int) := by omega
            have hb2 : (m : Int) < (zs.length : Int) := by omega
            have hb3 : 0 ≤ (m : Int) + 1 := by omega
            have hb4 : 0 < (m : Int) + 1 := by omega
            by_cases hxl : x ≤ last
            · have hd1 : decide (x ≤ last) = true := by simpa using hxl
              go_wp2
              go_quiet ((go_at_call 42; exact Calls.quiet_of_same ((rsite_any x _).mono (fun e w' ⟨h1, h2⟩ => ⟨by rw [h1, HS.out], h2.symm⟩))))
              go_wp2
              go_ret
              have : risingFrom 0 zs = false := by rw [HR.out]; simp [risingFrom, HS.out]; intro h; omega
              exact ⟨by rw [this]; rfl, n + nq, by rw [HW.out, drewN_add]⟩
            · have hd1 : decide (x ≤ last) = false := by simpa using hxl
              go_wp2
              go_quiet ((go_at_call 42; exact Calls.quiet_of_same ((rsite_any x _).mono (fun e w' ⟨h1, h2⟩ => ⟨by rw [h1, HS.out], h2.symm⟩))))
              go_wp2
              go_roundw
              case rel => exact ⟨m + 2, n + nq, x, by omega, by go_num, by rw [HW.out, drewN_add], by rw [HR.out]; simp [risingFrom, HS.out]; omega, by rw [if_neg (by omega)]; exact HKK.out.symm⟩
              case measure => simp [intOf]; omega
      · obtain rfl : k = zs.length := by omega
        rw [List.drop_of_length_le (Nat.le_refl _)] at hr
        have HR := Lib.hid hr; have HLA := Lib.hid hla; clear hr hla
        go_wp2
        go_ret
        have e1 : risingFrom 0 zs = true := by rw [HR.out]; rfl
        exact ⟨by rw [e1]; rfl, n, HW.out⟩
end Go.Proofs.YtfhgeanacecpjaaDoor
