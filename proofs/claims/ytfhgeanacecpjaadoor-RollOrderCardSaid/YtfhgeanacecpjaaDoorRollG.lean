/-
  Walks of package roll: Load.
-/
import Derived.Test.YtfhgeanacecpjaaDoorRollF
namespace Go.Proofs.YtfhgeanacecpjaaDoor
open Go.RowKit
set_option linter.unusedVariables false

/-- What Load says of lists and a number: 0: a Roll. -/
def loadErr (js ls : List Int) (ep : Int) : Int :=
  if risingFrom 0 js = true ∧ risingFrom 0 ls = true ∧ 0 ≤ ep then
    if (popC (butNot (bitsOf 0 js) (bitsOf 0 ls)) : Int) ≤ ep ∧ (ep - popC (butNot (bitsOf 0 js) (bitsOf 0 ls))) % 2 = 0 ∧ (ep - popC (butNot (bitsOf 0 js) (bitsOf 0 ls))) / 2 ≤ popC (bitsOf 0 js &&& bitsOf 0 ls) then 0 else 6
  else 1

def LoadPost (js ls : List Int) (ep : Int) (w : World) (r : Ending) (w' : World) : Prop :=
  Keep [] w w' ∧ ((loadErr js ls ep = 0 ∧ ∃ b, w.heap.size ≤ b ∧ r = .returned (.tuple #[.pointer (some ⟨b, 0, none⟩), .int .i64 0]) ∧ RollAt w' b (bitsOf 0 js) (bitsOf 0 ls) ep) ∨
    (loadErr js ls ep ≠ 0 ∧ r = .returned (.tuple #[.pointer none, .int .i64 (loadErr js ls ep)])))

theorem load_bad (js ls : List Int) (ep : Int) (w w' : World) (hk : Keep [] w w') (n : Int) (hn : n ≠ 0) (h : loadErr js ls ep = n) : LoadPost js ls ep w (.returned (.tuple #[.pointer none, .int .i64 n])) w' :=
  ⟨hk, .inr ⟨by rw [h]; exact hn, by rw [h]⟩⟩

set_option maxHeartbeats 2000000 in
theorem load_any (vj vl : Value) (js ls : List Int) (ep : Int) (w : World) (hj : SlAt w vj js.length (js.map (Value.int .i64))) (hl : SlAt w vl ls.length (ls.map (Value.int .i64)))
    (hjl : js.length ≤ 4611686018427387904) (hll : ls.length ≤ 4611686018427387904) (hep : ep ≤ 9223372036854775807) :
    Calls Tryd.prog 13 #[vj, vl, .int .i64 ep] w (LoadPost js ls ep w) := by
  cases hrj : risingFrom 0 js
  · have HE := Lib.hid (show loadErr js ls ep = 1 by simp [loadErr, hrj])
    have HR := Lib.hid hrj; clear hrj
    go_enter Tryd.func13, Tryd.ntmps13
    go_wp2_with fail
    refine (word_any vj js _ hj hjl).mono ?_
    rintro r w1 ⟨rfl, rfl⟩
    rw [HR.out]
    go_wp2_with fail
    refine (word_any vl ls _ hl hll).mono ?_
    rintro r w1 ⟨rfl, rfl⟩
    go_wp2
    all_goals go_ret2
    all_goals exact load_bad js ls ep _ _ (Keep.refl _ _) 1 (by decide) HE.out
  · cases hrl : risingFrom 0 ls
    · have HE := Lib.hid (show loadErr js ls ep = 1 by simp [loadErr, hrl])
      have HR := Lib.hid hrj; clear hrj
      have HL := Lib.hid hrl; clear hrl
      go_enter Tryd.func13, Tryd.ntmps13
      go_wp2_with fail
      refine (word_any vj js _ hj hjl).mono ?_
      rintro r w1 ⟨rfl, rfl⟩
      rw [HR.out]
      go_wp2_with fail
      refine (word_any vl ls _ hl hll).mono ?_
      rintro r w1 ⟨rfl, rfl⟩
      rw [HL.out]
      go_wp2
      go_ret2
      exact load_bad js ls ep _ _ (Keep.refl _ _) 1 (by decide) HE.out
    · by_cases h0 : ep < 0
      · have HE := Lib.hid (show loadErr js ls ep = 1 by simp [loadErr]; omega)
        have HR := Lib.hid hrj; clear hrj
        have HL := Lib.hid hrl; clear hrl
        go_enter Tryd.func13, Tryd.ntmps13
        go_wp2_with fail
        refine (word_any vj js _ hj hjl).mono ?_
        rintro r w1 ⟨rfl, rfl⟩
        rw [HR.out]
        go_wp2_with fail
        refine (word_any vl ls _ hl hll).mono ?_
        rintro r w1 ⟨rfl, rfl⟩
        rw [HL.out]
        go_wp2
        go_ret2
        exact load_bad js ls ep _ _ (Keep.refl _ _) 1 (by decide) HE.out
      · have hJ : bitsOf 0 js < 131072 := bitsOf_lt js 0 0 (by decide) hrj
        have hL : bitsOf 0 ls < 131072 := bitsOf_lt ls 0 0 (by decide) hrl
        have hdef : loadErr js ls ep = if (popC (butNot (bitsOf 0 js) (bitsOf 0 ls)) : Int) ≤ ep ∧ (ep - popC (butNot (bitsOf 0 js) (bitsOf 0 ls))) % 2 = 0 ∧ (ep - popC (butNot (bitsOf 0 js) (bitsOf 0 ls))) / 2 ≤ popC (bitsOf 0 js &&& bitsOf 0 ls) then 0 else 6 := by
          unfold loadErr; rw [if_pos ⟨hrj, hrl, by omega⟩]
        have HR := Lib.hid hrj; clear hrj
        have HL := Lib.hid hrl; clear hrl
        have HD := Lib.hid hdef; clear hdef
        go_enter Tryd.func13, Tryd.ntmps13
        go_wp2_with fail
        refine (word_any vj js _ hj hjl).mono ?_
        rintro r w1 ⟨rfl, rfl⟩
        rw [HR.out, if_pos rfl]
        go_wp2_with fail
        refine (word_any vl ls _ hl hll).mono ?_
        rintro r w1 ⟨rfl, rfl⟩
        rw [HL.out, if_pos rfl]
        generalize hje : bitsOf 0 js = J at *
        generalize hle : bitsOf 0 ls = L at *
        have HJE := Lib.hid hje; have HLE := Lib.hid hle; clear hje hle
        have HB := Lib.hid (show bits .andNot .u32 (J : Int) (L : Int) = ((butNot J L : Nat) : Int) by rw [u32_andNot_nat _ _ (by omega) (by omega)]; rfl)
        have HA := Lib.hid (show bits .and .u32 (J : Int) (L : Int) = ((J &&& L : Nat) : Int) by rw [u32_and_nat _ _ (by omega) (by omega)])
        have hpl := popC_le (butNot J L)
        have hpa := popC_le (J &&& L)
        go_wp2_with fail
        rw [HB.out]
        refine (ones_any (butNot J L) (butNot_lt _ _ hJ) _).mono ?_
        rintro r w1 ⟨rfl, k1, hw1⟩
        have hR1 : RollAt w1 w.heap.size J L ep := by rw [hw1]; exact ⟨hJ, hL, heap_alloc_new w _⟩
        have hK1 : Keep [] w w1 := by rw [hw1]; exact ((Keep.refl _ _).alloc _).drewN _
        clear hw1
        generalize popC (butNot J L) = p at *
        by_cases c1 : ep - (p : Int) < 0
        · have HE := Lib.hid (show loadErr js ls ep = 6 by rw [HD.out, if_neg (by omega)])
          go_wp2
          go_ret2
          exact load_bad js ls ep _ _ hK1 6 (by decide) HE.out
        · by_cases c2 : (ep - (p : Int)) % 2 = 0
          · have c2' : ((ep - (p : Int)) % 2 != 0) = false := by simp [c2]
            have C2 := Lib.hid c2; clear c2
            go_wp2_with fail
            rw [HA.out]
            refine (ones_any (J &&& L) (Nat.lt_of_le_of_lt Nat.and_le_left hJ) _).mono ?_
            rintro r w2 ⟨rfl, k2, hw2⟩
            have hR2 : RollAt w2 w.heap.size J L ep := by rw [hw2]; exact hR1.drewN _
            have hK2 : Keep [] w w2 := by rw [hw2]; exact hK1.drewN _
            clear hw2
            by_cases c3 : (popC (J &&& L) : Int) < (ep - (p : Int)) / 2
            · have HE := Lib.hid (show loadErr js ls ep = 6 by rw [HD.out, if_neg (by omega)])
              go_wp2
              go_ret2
              exact load_bad js ls ep _ _ hK2 6 (by decide) HE.out
            · have HE := Lib.hid (show loadErr js ls ep = 0 by rw [HD.out, if_pos ⟨by omega, C2.out, by omega⟩])
              go_wp2
              go_ret2
              exact ⟨hK2, .inl ⟨HE.out, _, Nat.le_refl _, rfl, by rw [HJE.out, HLE.out]; exact hR2⟩⟩
          · have c2' : ((ep - (p : Int)) % 2 != 0) = true := by simp [c2]
            have HE := Lib.hid (show loadErr js ls ep = 6 by rw [HD.out, if_neg (by omega)])
            clear c2
            go_wp2
            go_ret2
            exact load_bad js ls ep _ _ hK1 6 (by decide) HE.out
end Go.Proofs.YtfhgeanacecpjaaDoor
