/-
  Walk of the reference's number.
-/
import Derived.Test.YtbidppjhenfjdaaGreatDoorScnA
import Derived.Test.YtbidppjhenfjdaaGreatDoorScnN
namespace Go.Proofs.YtbidppjhenfjdaaGreatDoor
open Go.RowKit
set_option linter.unusedVariables false
set_option linter.unusedSimpArgs false

theorem list_byt (x : ByteArray) (i : Nat) : byt x i = (x.data.toList[i]?.getD 0).toNat := by
  obtain ⟨⟨l⟩⟩ := x
  exact mk_byt l i
theorem list_tail (x : ByteArray) : (x.extract 1 x.size).data.toList = x.data.toList.drop 1 := by
  apply List.ext_getElem?
  intro i
  have h1 := list_byt (x.extract 1 x.size) i
  rw [byt_tail, list_byt x (1 + i)] at h1
  rw [List.getElem?_drop]
  have hl1 : (x.extract 1 x.size).data.toList.length = (x.extract 1 x.size).size := by rw [Array.length_toList]; rfl
  have hl2 : x.data.toList.length = x.size := by rw [Array.length_toList]; rfl
  have hsz : (x.extract 1 x.size).size = x.size - 1 := by rw [ByteArray.size_extract]; omega
  by_cases hi : i < x.size - 1
  · rw [List.getElem?_eq_getElem (by omega), List.getElem?_eq_getElem (by omega)] at h1 ⊢
    simp only [Option.getD_some] at h1
    exact congrArg some (UInt8.toNat_inj.1 h1.symm)
  · rw [List.getElem?_eq_none (by omega), List.getElem?_eq_none (by omega)]
theorem drop_byt {y : ByteArray} {i : Nat} (h : i < y.size) : ∃ c, y.data.toList.drop i = c :: y.data.toList.drop (i + 1) ∧ c.toNat = byt y i := by
  have hl : i < y.data.toList.length := by rw [Array.length_toList]; exact h
  refine ⟨y.data.toList[i], List.drop_eq_getElem_cons hl, ?_⟩
  rw [list_byt, List.getElem?_eq_getElem hl]
  rfl
theorem neg_back {ni : Int} (h : 0 ≤ ni ∧ ni ≤ 9223372036854775808) : wrap64 (IntKind.u64.wrap (-ni)) = -ni := by
  have h1 : IntKind.u64.wrap (-ni) = (-ni) % 18446744073709551616 := by simp [IntKind.wrap, IntKind.bits, IntKind.signed]
  rw [h1]
  unfold wrap64
  omega
/-- What the reference's number hands back. -/
def NumPost (o : Option Int) (e : Ending) : Prop := ∃ z : Int, e = .returned (.tuple #[.int .i64 z, .bool o.isSome]) ∧ ∀ v, o = some v → z = v
theorem pow_19 {i : Nat} (h : i ≤ 18) {n : Nat} (hn : n < 10 ^ i) : n < 1000000000000000000 := Nat.lt_of_lt_of_le hn (Nat.pow_le_pow_right (by decide) h)
theorem pow_20 {i : Nat} (h : i ≤ 19) {n : Nat} (hn : n < 10 ^ i) : n < 10000000000000000000 := Nat.lt_of_lt_of_le hn (Nat.pow_le_pow_right (by decide) h)
theorem numO_long {neg : Bool} {d : List UInt8} (h : 19 < d.length) : numO neg d = none := by unfold numO; rw [if_pos h]
theorem numO_zero {neg : Bool} {c : UInt8} {r : List UInt8} (h : c.toNat = 48 ∧ (r ≠ [] ∨ neg = true)) : numO neg (c :: r) = none := by
  unfold numO
  split
  · rfl
  · simp only; rw [if_pos h]
theorem numO_off {neg : Bool} {d : List UInt8} (h : dfold d 0 = none) : numO neg d = none := by
  unfold numO
  split
  · rfl
  · cases d with
    | nil => rfl
    | cons c r =>
      simp only
      split
      · rfl
      · rw [h]
theorem numO_fit {neg : Bool} {c : UInt8} {r : List UInt8} {n : Nat} (h1 : ¬ 19 < (c :: r).length) (h2 : ¬ (c.toNat = 48 ∧ (r ≠ [] ∨ neg = true))) (h3 : dfold (c :: r) 0 = some n) :
    numO neg (c :: r) = if neg = true then (if 9223372036854775808 < n then none else some (-(n : Int))) else (if n < 9223372036854775808 then some (n : Int) else none) := by
  unfold numO
  rw [if_neg h1]
  simp only
  rw [if_neg h2, h3]

set_option maxHeartbeats 16000000 in
set_option maxRecDepth 100000 in
theorem rnumber_any (x : ByteArray) (w : World) (hz : x.size ≤ 100000000) (hx : x.size ≠ 0) (hnb : numB x = true) : Calls Tryz.prog 82 #[.string x] w fun e w' => NumPost (numT x.data.toList) e ∧ w = w' := by
  have hi0 := byte_z (s := x) (i := 0) (z := 0) (by omega) rfl
  obtain ⟨c0, hd0, hc0⟩ := drop_byt (y := x) (i := 0) (by omega)
  rw [List.drop_zero] at hd0
  obtain ⟨neg, y, hyl, hy1, hyz, hnt, hst⟩ : ∃ (neg : Bool) (y : ByteArray), y.size ≤ 100000000 ∧ y.size ≠ 0 ∧ (48 ≤ byt y 0 ∧ byt y 0 ≤ 57) ∧ numT x.data.toList = numO neg y.data.toList ∧ ((neg = true ∧ byt x 0 = 45 ∧ y = x.extract 1 x.size) ∨ (neg = false ∧ byt x 0 ≠ 45 ∧ y = x)) := by
    unfold numB at hnb
    by_cases h : byt x 0 = 45
    · rw [if_pos h] at hnb
      have hd := of_decide_eq_true hnb
      have hs : 1 < x.size := by
        by_cases e : 1 < x.size
        · exact e
        · rw [byt_end (by omega)] at hd; omega
      refine ⟨true, x.extract 1 x.size, by rw [ByteArray.size_extract]; omega, by rw [ByteArray.size_extract]; omega, by rw [byt_tail]; exact hd, ?_, .inl ⟨rfl, h, rfl⟩⟩
      rw [list_tail, hd0]
      show (if c0.toNat = 45 then numO true _ else numO false _) = _
      rw [hc0, if_pos h]
      rfl
    · rw [if_neg h] at hnb
      refine ⟨false, x, hz, hx, of_decide_eq_true hnb, ?_, .inr ⟨rfl, h, rfl⟩⟩
      rw [hd0]
      show (if c0.toNat = 45 then numO true _ else numO false _) = _
      rw [hc0, if_neg h]
  have HNT := Lib.hid hnt; clear hnt hd0 hc0 hnb
  have hiy := byte_z (s := y) (i := 0) (z := 0) (by omega) rfl
  obtain ⟨cy, hdy, hcy⟩ := drop_byt (y := y) (i := 0) (by omega)
  rw [List.drop_zero] at hdy
  have hly : y.data.toList.length = y.size := by rw [Array.length_toList]; rfl
  have hry : (y.data.toList.drop (0 + 1) = [] ↔ y.size = 1) := by
    rw [← List.length_eq_zero_iff, List.length_drop, hly]
    omega
  obtain ⟨dc, hdc⟩ : ∃ dc : Int, dc = ((byt y 0 : Nat) : Int) := ⟨_, rfl⟩
  rw [← hdc] at hiy
  -- the test ahead
  have htest : (decide ((19 : Int) < (y.size : Int)) = true ∧ decide (19 < y.size) = true ∧ numO neg y.data.toList = none) ∨
      (decide ((19 : Int) < (y.size : Int)) = false ∧ decide (19 < y.size) = false ∧ decide ((1 : Int) < (y.size : Int)) = true ∧ decide (1 < y.size) = true ∧ (dc == 48) = true ∧ numO neg y.data.toList = none) ∨
      (decide ((19 : Int) < (y.size : Int)) = false ∧ decide (19 < y.size) = false ∧ decide ((1 : Int) < (y.size : Int)) = false ∧ decide (1 < y.size) = false ∧ neg = true ∧ (dc == 48) = true ∧ numO neg y.data.toList = none) ∨
      (decide ((19 : Int) < (y.size : Int)) = false ∧ decide (19 < y.size) = false ∧ ((decide ((1 : Int) < (y.size : Int)) = true ∧ decide (1 < y.size) = true ∧ (dc == 48) = false) ∨ (decide ((1 : Int) < (y.size : Int)) = false ∧ decide (1 < y.size) = false ∧ ((neg = true ∧ (dc == 48) = false) ∨ neg = false))) ∧ y.size ≤ 19 ∧ ¬ (cy.toNat = 48 ∧ (y.data.toList.drop (0 + 1) ≠ [] ∨ neg = true))) := by
    by_cases h19 : 19 < y.size
    · exact .inl ⟨dec_lt_t (by omega), dec_ltn_t h19, numO_long (by omega)⟩
    · by_cases h1 : 1 < y.size
      · by_cases h48 : byt y 0 = 48
        · exact .inr (.inl ⟨dec_lt_f (by omega), dec_ltn_f h19, dec_lt_t (by omega), dec_ltn_t h1, (ar4 hdc).1 h48, by rw [hdy]; exact numO_zero ⟨by omega, .inl (fun e => by have := hry.1 e; omega)⟩⟩)
        · exact .inr (.inr (.inr ⟨dec_lt_f (by omega), dec_ltn_f h19, .inl ⟨dec_lt_t (by omega), dec_ltn_t h1, ((ar4 hdc).2 h48).1⟩, by omega, fun h => by omega⟩))
      · cases neg with
        | true =>
          by_cases h48 : byt y 0 = 48
          · exact .inr (.inr (.inl ⟨dec_lt_f (by omega), dec_ltn_f h19, dec_lt_f (by omega), dec_ltn_f h1, rfl, (ar4 hdc).1 h48, by rw [hdy]; exact numO_zero ⟨by omega, .inr rfl⟩⟩))
          · exact .inr (.inr (.inr ⟨dec_lt_f (by omega), dec_ltn_f h19, .inr ⟨dec_lt_f (by omega), dec_ltn_f h1, .inl ⟨rfl, ((ar4 hdc).2 h48).1⟩⟩, by omega, fun h => by omega⟩))
        | false => exact .inr (.inr (.inr ⟨dec_lt_f (by omega), dec_ltn_f h19, .inr ⟨dec_lt_f (by omega), dec_ltn_f h1, .inr rfl⟩, by omega, fun h => by
            rcases h.2 with h2 | h2
            · exact h2 (hry.2 (by omega))
            · cases h2⟩))
  have hsl : byt x 0 = 45 → y = x.extract 1 x.size → ∀ W, (Instr.slice 9 (.string x) (some (.int .i64 1)) none none).run Tryz.prog W = .ok (.string y) W := fun _ e W => by rw [e]; exact slice_tail (s := x) (k := 1) (z := 1) (by omega) rfl W
  rcases hst with ⟨rfl, h45, hy⟩ | ⟨rfl, h45, hy⟩
  ·
    rw [h45] at hi0
    have hslx := hsl h45 hy
    clear hsl hy h45
    rcases htest with ⟨t1, t2, hno⟩ | ⟨t1, t2, t3, t4, t5, hno⟩ | ⟨t1, t2, t3, t4, tn, t5, hno⟩ | ⟨t1, t2, t3, hy19, hh⟩
    · have HR := Lib.hid (HNT.out.trans hno)
      clear hno hdc hry hdy
      go_enter Tryz.func82, Tryz.ntmps82
      go_wp2
      go_ret2
      rw [HR.out]
      exact ⟨⟨0, rfl, fun v h => by cases h⟩, rfl⟩
    · have HR := Lib.hid (HNT.out.trans hno)
      clear hno hdc hry hdy
      go_enter Tryz.func82, Tryz.ntmps82
      go_wp2
      go_ret2
      rw [HR.out]
      exact ⟨⟨0, rfl, fun v h => by cases h⟩, rfl⟩
    · have HR := Lib.hid (HNT.out.trans hno)
      clear hno hdc hry hdy tn
      go_enter Tryz.func82, Tryz.ntmps82
      go_wp2
      go_ret2
      rw [HR.out]
      exact ⟨⟨0, rfl, fun v h => by cases h⟩, rfl⟩
    · have hcs : (decide ((1 : Int) < (y.size : Int)) = true ∧ decide (1 < y.size) = true ∧ (dc == 48) = false) ∨ (decide ((1 : Int) < (y.size : Int)) = false ∧ decide (1 < y.size) = false ∧ (dc == 48) = false) := by
        rcases t3 with ⟨a, b, c⟩ | ⟨a, b, c⟩
        · exact .inl ⟨a, b, c⟩
        · rcases c with ⟨_, c⟩ | c
          · exact .inr ⟨a, b, c⟩
          · cases c
      have HH := Lib.hid hh; have HDY := Lib.hid hdy; have HLY := Lib.hid hly
      clear t3 hh hdc hdy hcy hly hry
      rcases hcs with ⟨t3, t4, t5⟩ | ⟨t3, t4, t5⟩
      all_goals
        go_enter Tryz.func82, Tryz.ntmps82
        go_wp2
        go_loopw [6, 7] (fun nv iv wr => ∃ (n i : Nat), nv = .int .u64 n ∧ iv = .int .i64 i ∧ i ≤ y.size ∧ dfold y.data.toList 0 = dfold (y.data.toList.drop i) n ∧ n < 10 ^ i ∧ w = wr) (fun _ iv _ => y.size - (intOf iv).toNat)
        case atStart => exact ⟨0, 0, rfl, rfl, Nat.zero_le _, rfl, by decide, rfl⟩
        case round =>
          clear t1 t2 t3 t4 t5
          obtain ⟨n, i, rfl, rfl, hi, hf, hn, rfl⟩ := hrel
          have HF := Lib.hid hf; have HN := Lib.hid hn; clear hf hn
          by_cases his : i < y.size
          · have f1 := dec_lt_t (show (i : Int) < (y.size : Int) by omega)
            have f2 := dec_ltn_t his
            have hix := byte_z (s := y) (i := i) (z := (i : Nat)) his rfl
            obtain ⟨c, hc, hcb⟩ := drop_byt his
            obtain ⟨ci, hci⟩ : ∃ ci : Int, ci = ((byt y i : Nat) : Int) := ⟨_, rfl⟩
            rw [← hci] at hix
            have hn18 := pow_19 (show i ≤ 18 by omega) HN.out
            by_cases hd : 48 ≤ c.toNat ∧ c.toNat ≤ 57
            · have f3 := dec_lt_f (show ¬ ci < 48 by omega)
              have f4 := dec_lt_f (show ¬ (57 : Int) < ci by omega)
              have HF2 := Lib.hid (show dfold y.data.toList 0 = dfold (y.data.toList.drop (i + 1)) (n * 10 + (byt y i - 48)) by
                rw [HF.out, hc]
                simp only [dfold]
                rw [if_pos hd, hcb])
              have HN2 := Lib.hid (show n * 10 + (byt y i - 48) < 10 ^ (i + 1) by have := HN.out; rw [Nat.pow_succ]; omega)
              have hb48 : 48 ≤ ci ∧ ci ≤ 57 := by omega
              have HCI := Lib.hid hci
              clear hci hc hcb hd
              go_wp2
              go_roundw
              case rel =>
                have hci := HCI.out
                exact ⟨n * 10 + (byt y i - 48), i + 1, by go_num, by go_num, by omega, HF2.out, HN2.out, trivial⟩
              case measure => simp [intOf]; omega
            · have HR := Lib.hid (HNT.out.trans (numO_off (HF.out.trans (by rw [hc]; simp only [dfold]; rw [if_neg hd]))))
              have hoff : (decide (ci < 48) = true) ∨ (decide (ci < 48) = false ∧ decide ((57 : Int) < ci) = true) := by
                by_cases h : byt y i < 48
                · exact .inl (dec_lt_t (by omega))
                · exact .inr ⟨dec_lt_f (by omega), dec_lt_t (by omega)⟩
              clear hci hc hcb hd
              rcases hoff with f3 | ⟨f3, f4⟩
              all_goals
                go_wp2
                go_ret2
                rw [HR.out]
                exact ⟨⟨0, rfl, fun v h => by cases h⟩, rfl⟩
          · have f1 := dec_lt_f (show ¬ (i : Int) < (y.size : Int) by omega)
            have f2 := dec_ltn_f his
            obtain rfl : i = y.size := by omega
            have hn19 := pow_20 hy19 HN.out
            have hfo : dfold y.data.toList 0 = some n := by rw [HF.out, List.drop_of_length_le (by have := HLY.out; omega)]; rfl
            have hfc := hfo
            rw [HDY.out] at hfc
            have hft := numO_fit (neg := true) (by rw [← HDY.out, HLY.out]; omega) (fun h => HH.out ⟨h.1, .inr trivial⟩) hfc
            rw [← HDY.out] at hft
            have HFT := Lib.hid (HNT.out.trans hft)
            clear hft hfc hfo
            obtain ⟨ni, hni⟩ : ∃ ni : Int, ni = ((n : Nat) : Int) := ⟨_, rfl⟩
            rw [← hni]
            by_cases hbig : 9223372036854775808 < n
            · have f3 := dec_lt_t (show (9223372036854775808 : Int) < ni by omega)
              have HR := Lib.hid (HFT.out.trans ((if_pos rfl).trans (if_pos hbig)))
              clear hbig hni his
              go_wp2
              go_ret2
              rw [HR.out]
              exact ⟨⟨0, rfl, fun v h => by cases h⟩, rfl⟩
            · have f3 := dec_lt_f (show ¬ (9223372036854775808 : Int) < ni by omega)
              have HR := Lib.hid (HFT.out.trans ((if_pos rfl).trans (if_neg hbig)))
              have hb : 0 ≤ ni ∧ ni ≤ 9223372036854775808 := by omega
              have HNI := Lib.hid hni
              clear hbig hni his
              have HB2 := Lib.hid (neg_back hb)
              go_wp2
              go_ret2
              rw [HR.out]
              exact ⟨⟨_, rfl, fun v h => by injection h with h; rw [← h, ← HNI.out]; exact HB2.out⟩, rfl⟩
  ·
    subst hy
    have g45 : (dc == 45) = false := ((ar4 hdc).2 h45).1
    clear hsl hi0 h45
    rcases htest with ⟨t1, t2, hno⟩ | ⟨t1, t2, t3, t4, t5, hno⟩ | ⟨t1, t2, t3, t4, tn, t5, hno⟩ | ⟨t1, t2, t3, hy19, hh⟩
    · have HR := Lib.hid (HNT.out.trans hno)
      clear hno hdc hry hdy
      go_enter Tryz.func82, Tryz.ntmps82
      go_wp2
      go_ret2
      rw [HR.out]
      exact ⟨⟨0, rfl, fun v h => by cases h⟩, rfl⟩
    · have HR := Lib.hid (HNT.out.trans hno)
      clear hno hdc hry hdy
      go_enter Tryz.func82, Tryz.ntmps82
      go_wp2
      go_ret2
      rw [HR.out]
      exact ⟨⟨0, rfl, fun v h => by cases h⟩, rfl⟩
    · cases tn
    · have hcs : (decide ((1 : Int) < (y.size : Int)) = true ∧ decide (1 < y.size) = true ∧ (dc == 48) = false) ∨ (decide ((1 : Int) < (y.size : Int)) = false ∧ decide (1 < y.size) = false ∧ (dc == dc) = true) := by
        rcases t3 with ⟨a, b, c⟩ | ⟨a, b, c⟩
        · exact .inl ⟨a, b, c⟩
        · exact .inr ⟨a, b, by simp⟩
      have HH := Lib.hid hh; have HDY := Lib.hid hdy; have HLY := Lib.hid hly
      clear t3 hh hdc hdy hcy hly hry
      rcases hcs with ⟨t3, t4, t5⟩ | ⟨t3, t4, t5⟩
      all_goals
        go_enter Tryz.func82, Tryz.ntmps82
        go_wp2
        go_loopw [6, 7] (fun nv iv wr => ∃ (n i : Nat), nv = .int .u64 n ∧ iv = .int .i64 i ∧ i ≤ y.size ∧ dfold y.data.toList 0 = dfold (y.data.toList.drop i) n ∧ n < 10 ^ i ∧ w = wr) (fun _ iv _ => y.size - (intOf iv).toNat)
        case atStart => exact ⟨0, 0, rfl, rfl, Nat.zero_le _, rfl, by decide, rfl⟩
        case round =>
          clear t1 t2 t3 t4 t5
          obtain ⟨n, i, rfl, rfl, hi, hf, hn, rfl⟩ := hrel
          have HF := Lib.hid hf; have HN := Lib.hid hn; clear hf hn
          by_cases his : i < y.size
          · have f1 := dec_lt_t (show (i : Int) < (y.size : Int) by omega)
            have f2 := dec_ltn_t his
            have hix := byte_z (s := y) (i := i) (z := (i : Nat)) his rfl
            obtain ⟨c, hc, hcb⟩ := drop_byt his
            obtain ⟨ci, hci⟩ : ∃ ci : Int, ci = ((byt y i : Nat) : Int) := ⟨_, rfl⟩
            rw [← hci] at hix
            have hn18 := pow_19 (show i ≤ 18 by omega) HN.out
            by_cases hd : 48 ≤ c.toNat ∧ c.toNat ≤ 57
            · have f3 := dec_lt_f (show ¬ ci < 48 by omega)
              have f4 := dec_lt_f (show ¬ (57 : Int) < ci by omega)
              have HF2 := Lib.hid (show dfold y.data.toList 0 = dfold (y.data.toList.drop (i + 1)) (n * 10 + (byt y i - 48)) by
                rw [HF.out, hc]
                simp only [dfold]
                rw [if_pos hd, hcb])
              have HN2 := Lib.hid (show n * 10 + (byt y i - 48) < 10 ^ (i + 1) by have := HN.out; rw [Nat.pow_succ]; omega)
              have hb48 : 48 ≤ ci ∧ ci ≤ 57 := by omega
              have HCI := Lib.hid hci
              clear hci hc hcb hd
              go_wp2
              go_roundw
              case rel =>
                have hci := HCI.out
                exact ⟨n * 10 + (byt y i - 48), i + 1, by go_num, by go_num, by omega, HF2.out, HN2.out, trivial⟩
              case measure => simp [intOf]; omega
            · have HR := Lib.hid (HNT.out.trans (numO_off (HF.out.trans (by rw [hc]; simp only [dfold]; rw [if_neg hd]))))
              have hoff : (decide (ci < 48) = true) ∨ (decide (ci < 48) = false ∧ decide ((57 : Int) < ci) = true) := by
                by_cases h : byt y i < 48
                · exact .inl (dec_lt_t (by omega))
                · exact .inr ⟨dec_lt_f (by omega), dec_lt_t (by omega)⟩
              clear hci hc hcb hd
              rcases hoff with f3 | ⟨f3, f4⟩
              all_goals
                go_wp2
                go_ret2
                rw [HR.out]
                exact ⟨⟨0, rfl, fun v h => by cases h⟩, rfl⟩
          · have f1 := dec_lt_f (show ¬ (i : Int) < (y.size : Int) by omega)
            have f2 := dec_ltn_f his
            obtain rfl : i = y.size := by omega
            have hn19 := pow_20 hy19 HN.out
            have hfo : dfold y.data.toList 0 = some n := by rw [HF.out, List.drop_of_length_le (by have := HLY.out; omega)]; rfl
            have hfc := hfo
            rw [HDY.out] at hfc
            have hft := numO_fit (neg := false) (by rw [← HDY.out, HLY.out]; omega) (fun h => HH.out ⟨h.1, h.2⟩) hfc
            rw [← HDY.out] at hft
            have HFT := Lib.hid (HNT.out.trans hft)
            clear hft hfc hfo
            obtain ⟨ni, hni⟩ : ∃ ni : Int, ni = ((n : Nat) : Int) := ⟨_, rfl⟩
            rw [← hni]
            by_cases hbig : n < 9223372036854775808
            · have f3 := dec_lt_t (show ni < 9223372036854775808 by omega)
              have HR := Lib.hid (HFT.out.trans ((if_neg (by simp)).trans (if_pos hbig)))
              have hb : 0 ≤ ni ∧ ni < 9223372036854775808 := by omega
              have HNI := Lib.hid hni
              clear hbig hni his
              go_wp2
              go_ret2
              rw [HR.out]
              exact ⟨⟨ni, rfl, fun v h => by injection h with h; rw [← h, HNI.out]⟩, rfl⟩
            · have f3 := dec_lt_f (show ¬ ni < 9223372036854775808 by omega)
              have HR := Lib.hid (HFT.out.trans ((if_neg (by simp)).trans (if_neg hbig)))
              clear hbig hni his
              go_wp2
              go_ret2
              rw [HR.out]
              exact ⟨⟨_, rfl, fun v h => by cases h⟩, rfl⟩
end Go.Proofs.YtbidppjhenfjdaaGreatDoor
