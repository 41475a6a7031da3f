/-
  The table of what is left to do: slices.Backward as an iterator.
-/
import Derived.Test.YtddbjclpmkelaaaIterR
import Derived.Test.YtddbjclpmkelaaaGlyF
import Derived.Test.YtddbjclpmkelaaaDifE
namespace Go.Proofs.Ytddbjclpmkelaaa
open Go.RowKit Go.Shelf
set_option linter.unusedVariables false
set_option linter.unusedSimpArgs false
attribute [local go_sem] Oper.semAt_some

/-- A slice in its box. -/
def SlcNeed (b : Nat) (t : TypeId) (g n : Nat) (W : World) : Prop := W.heap[b]? = some (.cells #[.slice (some ⟨g, 0, none⟩) n n] t (0, 0))
theorem SlcNeed.keep {b g n : Nat} {t : TypeId} {L : List Nat} {W W' : World} (h : SlcNeed b t g n W) (k : Keep L W W') (hb : b ∉ L) : SlcNeed b t g n W' := k.at_ h hb
/-- What yield is handed: the places, from the last one on, and what lies there. -/
def downArgs (z : Value) (n : Nat) : List (Array Value) := (List.range n).map fun k => #[.int .i64 ((n - (k + 1) : Nat) : Int), z]
theorem downArgs_length (z : Value) (n : Nat) : (downArgs z n).length = n := by simp [downArgs]
theorem downArgs_get (z : Value) (n k m : Nat) (hk : k < (downArgs z n).length) (h : k + (m + 1) = n) : (downArgs z n)[k] = #[.int .i64 (m : Int), z] := by
  simp only [downArgs, List.getElem_map, List.getElem_range]
  rw [show n - (k + 1) = m by omega]

theorem downs_any (ad : Option Addr) (n c : Nat) (w : World) : Calls Try.prog 42 #[.slice ad n c] w fun e w' =>
    e = .returned (.func (.func 52) #[] #[.pointer (some ⟨w.heap.size, 0, none⟩)]) ∧ w' = w.alloc (.cells #[.slice ad n c] 53) := by
  go_enter Try.func42, Try.ntmps42
  go_wp2
  go_ret
  exact ⟨rfl, rfl⟩

set_option maxHeartbeats 4000000 in
theorem downs1_iters (b g n : Nat) (hn : n ≤ 4294967296) :
    ItersR Try.prog 52 #[.pointer (some ⟨b, 0, none⟩)] (downArgs (.slice none 0 0) n) [] [b] (SlcNeed b 53 g n) (fun k W => W.cell? ⟨g, n - (k + 1), none⟩ = some (.slice none 0 0)) := by
  intro y J Jx fp W hN hown hrd hJ hJx hRd hY hfpl h0
  have hbW := (hrd b (by simp)).1
  have hbf := (hrd b (by simp)).2
  have hc0 : W.cell? ⟨b, 0, none⟩ = some (.slice (some ⟨g, 0, none⟩) n n) := cell_of_one hN
  clear hown hrd
  have HYY := Lib.hid hY; have HRD := Lib.hid hRd; have HN := Lib.hid hN; clear hY hRd hN
  refine (callsIn_wide (n := 0)).1 ?_
  refine callsIn_of_wp Try.func52 rfl trivial ?_
  simp only [Try.ntmps52, List.size_toArray, List.length_cons, List.length_nil, Nat.reduceAdd, Nat.reduceSub, Array.replicate_succ, Array.replicate_zero, List.push_toArray, List.append_toArray, List.nil_append, List.cons_append]
  gi_wp2
  gi_loopw [3] (fun i wr => ∃ (k m : Nat) (fp : List Nat), k + m = n ∧ i = .int .i64 ((m : Int) - 1) ∧ SlcNeed b 53 g n wr ∧ J k fp wr ∧ b ∉ fp) (fun i _ => (intOf i + 1).toNat)
  case atStart => exact ⟨0, n, fp, by omega, rfl, HN.out, h0, hbf⟩
  case round =>
    clear hc0 hbf h0
    obtain ⟨k, m, fp, hkm, rfl, hN, hj, hbf⟩ := hrel
    have hc0 : wr.cell? ⟨b, 0, none⟩ = some (.slice (some ⟨g, 0, none⟩) n n) := cell_of_one hN
    cases m with
    | succ m =>
      rw [show (((m + 1 : Nat) : Int) - 1) = (m : Int) by omega]
      have hmn : m < n := by omega
      have hkl : k < (downArgs (.slice none 0 0) n).length := by rw [downArgs_length]; omega
      have hrd := HRD.out k hkl fp _ hj
      simp only [show n - (k + 1) = m by omega] at hrd
      have hy := HYY.out k hkl fp _ hj
      rw [downArgs_get (.slice none 0 0) n k m hkl hkm] at hy
      have HY := Lib.hid hy; have HKL := Lib.hid hkl; have HKM := Lib.hid hkm
      clear hy hj hkl hkm
      gi_wp2_with (with_reducible refine park_call 11 _ _ rfl ?_)
      refine wpListIn_callV (.inl rfl) rfl (.tmp 11) [.tmp 12, .tmp 16] #[3, 56] rfl y rfl [.int .i64 m, .slice none 0 0] rfl _ HY.out ?_
      rintro e w3 (⟨rfl, fp', hj', hkp, hfn⟩ | ⟨rfl, fp', hj', hkp, hfn⟩)
      · refine ⟨_, rfl, ?_⟩
        have hlt := lt_of_block hN
        have hN3 := hN.keep hkp hbf
        have hbf' : b ∉ fp' := fun h => by rcases hfn _ h with h' | h'; exact hbf h'; omega
        have HJ := Lib.hid hj'; have HN3 := Lib.hid hN3; have HF := Lib.hid hbf'
        clear hj' hkp hfn hN3 hbf'
        gi_wp2
        go_roundw
        case rel => exact ⟨k + 1, m, fp', by have := HKM.out; omega, rfl, HN3.out, HJ.out, HF.out⟩
        case measure => simp [intOf]
      · refine ⟨_, rfl, ?_⟩
        have HJ := Lib.hid hj'
        clear hj' hkp hfn
        gi_wp2
        exact bodyPost_ret (results_none rfl _ _ _) rfl ⟨rfl, .inr ⟨_, fp', HKL.out, HJ.out⟩⟩
    | zero =>
      have hk : k = n := by omega
      subst hk
      rw [show (((0 : Nat) : Int) - 1) = (-1 : Int) from rfl]
      have HJ := Lib.hid hj
      clear hj
      gi_wp2
      go_end0
      exact ⟨rfl, .inl ⟨fp, by rw [downArgs_length]; exact HJ.out⟩⟩

theorem down_any (ad : Option Addr) (n c : Nat) (w : World) : Calls Try.prog 43 #[.slice ad n c] w fun e w' =>
    e = .returned (.func (.func 53) #[] #[.pointer (some ⟨w.heap.size, 0, none⟩)]) ∧ w' = w.alloc (.cells #[.slice ad n c] 56) := by
  go_enter Try.func43, Try.ntmps43
  go_wp2
  go_ret
  exact ⟨rfl, rfl⟩

set_option maxHeartbeats 4000000 in
theorem down1_iters (b g n : Nat) (hn : n ≤ 4294967296) :
    ItersR Try.prog 53 #[.pointer (some ⟨b, 0, none⟩)] (downArgs (.int .i64 0) n) [] [b] (SlcNeed b 56 g n) (fun k W => W.cell? ⟨g, n - (k + 1), none⟩ = some (.int .i64 0)) := by
  intro y J Jx fp W hN hown hrd hJ hJx hRd hY hfpl h0
  have hbW := (hrd b (by simp)).1
  have hbf := (hrd b (by simp)).2
  have hc0 : W.cell? ⟨b, 0, none⟩ = some (.slice (some ⟨g, 0, none⟩) n n) := cell_of_one hN
  clear hown hrd
  have HYY := Lib.hid hY; have HRD := Lib.hid hRd; have HN := Lib.hid hN; clear hY hRd hN
  refine (callsIn_wide (n := 0)).1 ?_
  refine callsIn_of_wp Try.func53 rfl trivial ?_
  simp only [Try.ntmps53, List.size_toArray, List.length_cons, List.length_nil, Nat.reduceAdd, Nat.reduceSub, Array.replicate_succ, Array.replicate_zero, List.push_toArray, List.append_toArray, List.nil_append, List.cons_append]
  gi_wp2
  gi_loopw [3] (fun i wr => ∃ (k m : Nat) (fp : List Nat), k + m = n ∧ i = .int .i64 ((m : Int) - 1) ∧ SlcNeed b 56 g n wr ∧ J k fp wr ∧ b ∉ fp) (fun i _ => (intOf i + 1).toNat)
  case atStart => exact ⟨0, n, fp, by omega, rfl, HN.out, h0, hbf⟩
  case round =>
    clear hc0 hbf h0
    obtain ⟨k, m, fp, hkm, rfl, hN, hj, hbf⟩ := hrel
    have hc0 : wr.cell? ⟨b, 0, none⟩ = some (.slice (some ⟨g, 0, none⟩) n n) := cell_of_one hN
    cases m with
    | succ m =>
      rw [show (((m + 1 : Nat) : Int) - 1) = (m : Int) by omega]
      have hmn : m < n := by omega
      have hkl : k < (downArgs (.int .i64 0) n).length := by rw [downArgs_length]; omega
      have hrd := HRD.out k hkl fp _ hj
      simp only [show n - (k + 1) = m by omega] at hrd
      have hy := HYY.out k hkl fp _ hj
      rw [downArgs_get (.int .i64 0) n k m hkl hkm] at hy
      have HY := Lib.hid hy; have HKL := Lib.hid hkl; have HKM := Lib.hid hkm
      clear hy hj hkl hkm
      gi_wp2_with (with_reducible refine park_call 11 _ _ rfl ?_)
      refine wpListIn_callV (.inl rfl) rfl (.tmp 11) [.tmp 12, .tmp 16] #[3, 3] rfl y rfl [.int .i64 m, .int .i64 0] rfl _ HY.out ?_
      rintro e w3 (⟨rfl, fp', hj', hkp, hfn⟩ | ⟨rfl, fp', hj', hkp, hfn⟩)
      · refine ⟨_, rfl, ?_⟩
        have hlt := lt_of_block hN
        have hN3 := hN.keep hkp hbf
        have hbf' : b ∉ fp' := fun h => by rcases hfn _ h with h' | h'; exact hbf h'; omega
        have HJ := Lib.hid hj'; have HN3 := Lib.hid hN3; have HF := Lib.hid hbf'
        clear hj' hkp hfn hN3 hbf'
        gi_wp2
        go_roundw
        case rel => exact ⟨k + 1, m, fp', by have := HKM.out; omega, rfl, HN3.out, HJ.out, HF.out⟩
        case measure => simp [intOf]
      · refine ⟨_, rfl, ?_⟩
        have HJ := Lib.hid hj'
        clear hj' hkp hfn
        gi_wp2
        exact bodyPost_ret (results_none rfl _ _ _) rfl ⟨rfl, .inr ⟨_, fp', HKL.out, HJ.out⟩⟩
    | zero =>
      have hk : k = n := by omega
      subst hk
      rw [show (((0 : Nat) : Int) - 1) = (-1 : Int) from rfl]
      have HJ := Lib.hid hj
      clear hj
      gi_wp2
      go_end0
      exact ⟨rfl, .inl ⟨fp, by rw [downArgs_length]; exact HJ.out⟩⟩
end Go.Proofs.Ytddbjclpmkelaaa
