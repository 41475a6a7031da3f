/-
  Walks of package roll: word, Load.
-/
import Derived.Test.YtfhgeanacecpjaaDoorRollB
import Derived.Test.YtfhgeanacecpjaaDoorRollC
import Derived.Test.YtfhgeanacecpjaaDoorSl
namespace Go.Proofs.YtfhgeanacecpjaaDoor
open Go.RowKit
set_option linter.unusedVariables false

/-- What word gives. -/
def WordPost (zs : List Int) (w : World) (e : Ending) (w' : World) : Prop :=
  e = .returned (.tuple #[.int .u32 ((if risingFrom 0 zs = true then bitsOf 0 zs else 0 : Nat) : Int), .bool (risingFrom 0 zs)]) ∧ w = w'

set_option maxHeartbeats 1000000 in
theorem word_any (v : Value) (zs : List Int) (w : World) (h : SlAt w v zs.length (zs.map (Value.int .i64))) (hlen : zs.length ≤ 4611686018427387904) :
    Calls Tryd.prog 32 #[v] w (WordPost zs w) := by
  by_cases h0 : zs.length = 0
  · obtain rfl : zs = [] := List.eq_nil_of_length_eq_zero h0
    obtain ⟨ad, cap, rfl⟩ := h.empty
    go_enter Tryd.func32, Tryd.ntmps32
    go_wp2
    refine wp_loop_rounds 1 ?_; rw [rounds_succ]
    go_wp2
    go_ret2
    exact ⟨rfl, rfl⟩
  · obtain ⟨b, off, cap, rfl, hc⟩ := h.at_ h0
    have hpos : 0 < zs.length := by omega
    have HC := Lib.hid hc; clear hc h h0
    go_enter Tryd.func32, Tryd.ntmps32
    go_wp2
    go_loop [4, 5, 10] (fun a la i => ∃ (k acc : Nat) (last : Int), k ≤ zs.length ∧ i = .int .i64 k ∧ la = .int .i64 last ∧ a = .int .u32 acc ∧ acc < 131072 ∧ risingFrom 0 zs = risingFrom last (zs.drop k) ∧ bitsOf 0 zs = bitsOf acc (zs.drop k))
      (fun _ _ i => zs.length - (intOf i).toNat)
    case atStart => exact ⟨0, 0, 0, Nat.zero_le _, rfl, rfl, rfl, by decide, rfl, rfl⟩
    case round =>
      obtain ⟨k, acc, last, hk, rfl, rfl, rfl, hacc, hr, hb⟩ := hrel
      by_cases hlt : k < zs.length
      · have hd : zs.drop k = zs[k] :: zs.drop (k + 1) := (List.getElem_cons_drop hlt).symm
        have hcell : w.cell? ⟨b, off + k, none⟩ = some (.int .i64 zs[k]) := HC.out k _ (by rw [List.getElem?_map, List.getElem?_eq_getElem hlt]; rfl)
        rw [hd] at hr hb
        generalize zs[k] = x at *
        have HR := Lib.hid hr; have HB := Lib.hid hb; clear hr hb hd
        go_wp2_with fail
        refine (site_any x _).mono ?_
        rintro e w1 ⟨rfl, rfl⟩
        cases hs : siteB x
        · have HS := Lib.hid hs; clear hs
          go_wp2
          go_ret2
          have : risingFrom 0 zs = false := by rw [HR.out]; simp [risingFrom, HS.out]
          exact ⟨by rw [this]; rfl, rfl⟩
        · have HS := Lib.hid hs; have hs1 := (site_yes hs).1; have hs2 := (site_yes hs).2
          have HBO := Lib.hid (bit_or acc x hacc hs)
          clear hs
          by_cases hxl : x ≤ last
          · go_wp2
            go_ret2
            have : risingFrom 0 zs = false := by rw [HR.out]; simp [risingFrom, HS.out]; intro h; omega
            exact ⟨by rw [this]; rfl, rfl⟩
          · have hxl' : decide (x ≤ last) = false := by simpa using hxl
            go_wp2
            rw [HBO.out]
            go_round
            case rel =>
              refine ⟨k + 1, withBit acc x, x, by omega, by go_num, rfl, rfl, withBit_lt _ _ hacc, ?_, ?_⟩
              · rw [HR.out]; simp [risingFrom, HS.out]; omega
              · rw [HB.out]; simp [bitsOf, withBit, HS.out]
            case measure => simp [intOf]; omega
      · obtain rfl : k = zs.length := by omega
        rw [List.drop_of_length_le (Nat.le_refl _)] at hr hb
        have HR := Lib.hid hr; have HB := Lib.hid hb; clear hr hb
        go_wp2
        go_ret2
        have e1 : risingFrom 0 zs = true := by rw [HR.out]; rfl
        have e2 : bitsOf 0 zs = acc := by rw [HB.out]; rfl
        exact ⟨by rw [e1, e2]; rfl, rfl⟩
end Go.Proofs.YtfhgeanacecpjaaDoor
