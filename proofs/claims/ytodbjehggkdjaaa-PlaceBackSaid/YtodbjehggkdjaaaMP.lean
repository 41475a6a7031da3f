/-
  At, Len.
-/
import Derived.Test.YtodbjehggkdjaaaPlaB
import Derived.Deep.CutRange
import Derived.Test.YtodbjehggkdjaaaRow
import Derived.Test.YtodbjehggkdjaaaQuietT
import Derived.Test.YtodbjehggkdjaaaMJ
import Derived.Laws.EntriesVeiled
import Derived.RegionTactic
import Derived.Deep.RegionHeld3
namespace Go.Proofs.Ytodbjehggkdjaaa
open Go.RowKit
set_option linter.unusedVariables false
set_option linter.unusedSimpArgs false

set_option maxHeartbeats 4000000 in
theorem search_any (n g : Nat) (lb : Array Value) (p : Nat → Bool) (w : World) (hn : n ≤ 1073741824) (eg : ∀ args w, (callFunc g args).run Try.prog w = .ok (.enter g args) w)
    (hp : ∀ i j, i ≤ j → j < n → p i = true → p j = true) (hf : ∀ h, h < n → ∀ W, Keep [] w W → Calls Try.prog g (#[.int .i64 h] ++ lb) W fun e w' => e = .returned (.bool (p h)) ∧ Keep [] W w') :
    Calls Try.prog 29 #[.int .i64 n, .func (.func g) #[] lb] w fun e w' => ∃ i, e = .returned (.int .i64 (i : Nat)) ∧ i ≤ n ∧ (∀ j, j < i → p j = false) ∧ (i < n → p i = true) ∧ Keep [] w w' := by
  have HP := Lib.hid hp; have HF := Lib.hid hf; clear hp hf
  go_enter Try.func29, Try.ntmps29
  go_wp2
  go_loopw [5, 6] (fun i j W => ∃ a b : Nat, a ≤ b ∧ b ≤ n ∧ i = .int .i64 a ∧ j = .int .i64 b ∧ (∀ k, k < a → p k = false) ∧ (b < n → p b = true) ∧ Keep [] w W) (fun i j _ => (intOf j).toNat - (intOf i).toNat)
  case atStart => exact ⟨0, n, by omega, by omega, rfl, rfl, fun k h => absurd h (Nat.not_lt_zero _), fun h => absurd h (Nat.lt_irrefl _), Keep.refl _ _⟩
  case round =>
    rename World => w2
    obtain ⟨a, b, hab, hbn, rfl, rfl, hlo, hhi, hk⟩ := hrel
    have HLO := Lib.hid hlo; have HHI := Lib.hid hhi; have HK := Lib.hid hk
    clear hlo hhi hk
    by_cases hlt : a < b
    · have hltd : decide (a < b) = true := by simpa using hlt
      obtain ⟨h, hh⟩ : ∃ h, h = (a + b) / 2 := ⟨_, rfl⟩
      have hm : ((a : Int) + (b : Int)) / 2 = (h : Int) := by omega
      have h1 : a ≤ h := by omega
      have h2 : h < b := by omega
      clear hh
      go_wp2_with fail
      refine (HF.out h (by omega) _ HK.out).mono ?_
      rintro e w3 ⟨rfl, hk3⟩
      have HK3 := Lib.hid (HK.out.trans0 hk3)
      clear hk3 hm
      have HPH := Lib.hid (show p h = p h from rfl)
      by_cases hph : p h = true
      · rw [hph]
        have HHH := Lib.hid hph; clear hph
        go_wp2
        exact ⟨⟨a, h, by omega, by omega, rfl, rfl, HLO.out, fun _ => HHH.out, HK3.out⟩, by simp [intOf]; omega⟩
      · have hph' : p h = false := by simpa using hph
        rw [hph']
        have HHH := Lib.hid hph'; clear hph hph'
        go_wp2
        refine ⟨⟨h + 1, b, by omega, by omega, by go_num, rfl, fun k hk => ?_, HHI.out, HK3.out⟩, by simp [intOf]; omega⟩
        refine Bool.eq_false_iff.2 fun hkt => ?_
        have := HP.out k h (by omega) (by omega) hkt
        rw [HHH.out] at this; cases this
    · have hltd : decide (a < b) = false := by simpa using hlt
      obtain rfl : a = b := by omega
      go_wp2
      go_ret
      exact ⟨a, rfl, hbn, HLO.out, HHI.out, HK.out⟩

set_option maxHeartbeats 4000000 in
theorem len1_any (s : ByteArray) (i j : Nat) (w : World) (hi : pos s i ≤ 1073741824) (hj : pos s j ≤ 1073741824) :
    Calls Try.prog 32 #[.agg (spV s i), .agg (spV s j)] w fun e w' => e = .returned (.int .i64 ((pos s i : Nat) - (pos s j : Nat) : Int)) ∧ Keep [] w w' := by
  unfold spV
  go_enter Try.func32, Try.ntmps32
  go_wp2
  go_ret
  exact ⟨rfl, ((Keep.refl _ _).alloc _).alloc _⟩
theorem enters_len1 (args : Array Value) (w : World) : (callFunc 32 args).run Try.prog w = .ok (.enter 32 args) w := enters_of Try.func32 (by kernel_rfl) rfl args w

theorem spot_info : (Try.prog.info? 29).map (·.size) = some 6 := by kernel_rfl
theorem spV_size (s : ByteArray) (k : Nat) : (spV s k).size = 6 := rfl
theorem spV_one (s : ByteArray) (k : Nat) : (spV s k).all (·.oneCell') = true := by simp [spV, Value.oneCell']
/-- A spot of a list, loaded. -/
theorem load_spot {W : World} {b off cap m k : Nat} {s : ByteArray} (h : SpAt W (.slice (some ⟨b, off, none⟩) m cap) s m) (hk : k < m) :
    (Instr.loadAt 29 (.pointer (some ⟨b, off + k * 6, none⟩))).run Try.prog W = .ok (.agg (spV s k)) W := by
  obtain ⟨b', off', cap', e, hc⟩ := SlAt.at_ h (by omega)
  simp only [Value.slice.injEq, Option.some.injEq, Addr.mk.injEq] at e
  obtain ⟨⟨rfl, rfl, _⟩, _, _⟩ := e
  refine load_mid (P := Try.prog) Try.underlying29 rfl spot_info (fun j v hv => ?_) rfl
  have hj : j < 6 := by have := (Array.getElem?_eq_some_iff.1 hv).1; rw [spV_size] at this; exact this
  rw [Nat.add_assoc]
  exact hc (k * 6 + j) v ((spCells_at s m k j hk hj).trans hv)

def zSp : Obj := .cells #[.int .i64 0, .int .i64 0, .int .i64 0, .int .i64 0, .int .i64 0, .int .i64 0] 29
/-- A spot laid into a new variable. -/
theorem new_spot (w : World) (cs : Array Value) (hn : cs.size = 6) (h1 : cs.all (·.oneCell') = true) :
    ∃ w', (Instr.storeAt 29 (.pointer (some ⟨w.heap.size, 0, none⟩)) (.agg cs)).run Try.prog (w.alloc (.cells #[.int .i64 0, .int .i64 0, .int .i64 0, .int .i64 0, .int .i64 0, .int .i64 0] 29)) = .ok () w' ∧ w'.heap[w.heap.size]? = some (.cells cs 29 (0, 0)) ∧ Keep [] w w' := by
  obtain ⟨w', h1, h2, h3⟩ := store_row (P := Try.prog) spot_info (World.alloc_heap_new w (.cells #[.int .i64 0, .int .i64 0, .int .i64 0, .int .i64 0, .int .i64 0, .int .i64 0] 29)) rfl hn h1
  exact ⟨w', h1, h2, ((Keep.refl [] w).alloc _).trans h3 (fun b hb => by simp at hb; exact .inr (by omega))⟩
theorem load_sp {w : World} {g : Nat} {cs : Array Value} (hg : w.heap[g]? = some (.cells cs 29 (0, 0))) (hn : cs.size = 6) :
    (Instr.loadAt 29 (.pointer (some ⟨g, 0, none⟩))).run Try.prog w = .ok (.agg cs) w := load_row (P := Try.prog) Try.underlying29 rfl spot_info hg hn
set_option maxRecDepth 100000 in
set_option maxHeartbeats 16000000 in
theorem maxfunc_any (b off cap : Nat) (s : ByteArray) (w : World) (h : SpAt w (.slice (some ⟨b, off, none⟩) (np s + 1) cap) s (np s + 1)) (hz : s.size ≤ 1073741824) :
    Calls Try.prog 31 #[.slice (some ⟨b, off, none⟩) (np s + 1) cap, .func (.func 32) #[] #[]] w fun e w' => e = .returned (.agg (spV s (np s))) ∧ Keep [] w w' := by
  have hnp := np_le s
  have HS := Lib.hid h; clear h
  have HL := Lib.hid (fun (W : World) (hk : Keep [] w W) k hk' => load_spot (k := k) (SlAt.keep0 HS.out hk) hk')
  obtain ⟨n, hn⟩ : ∃ n, n = np s := ⟨_, rfl⟩
  rw [← hn] at hnp ⊢
  have HL2 : Hid (∀ (W : World), Keep [] w W → ∀ k, k < n + 1 → (Instr.loadAt 29 (.pointer (some ⟨b, off + k * 6, none⟩))).run Try.prog W = .ok (.agg (spV s k)) W) := by rw [hn]; exact HL
  have HN := Lib.hid hn; clear hn HL
  have hn1 : decide ((n : Int) + 1 < 1) = false := by simp; omega
  go_enter Try.func31, Try.ntmps31
  go_upto_region 3 with (fail)
  obtain ⟨W1, hW1⟩ : ∃ W1, W1 = w.alloc (.cells #[.int .i64 0, .int .i64 0, .int .i64 0, .int .i64 0, .int .i64 0, .int .i64 0] 29) := ⟨_, rfl⟩
  rw [← hW1]
  have hb1 : W1.heap[w.heap.size]? = some (.cells #[.int .i64 0, .int .i64 0, .int .i64 0, .int .i64 0, .int .i64 0, .int .i64 0] 29 (0, 0)) := by rw [hW1]; exact World.alloc_heap_new w _
  have hk1 : Keep [] w W1 := by rw [hW1]; exact (Keep.refl _ _).alloc _
  have hl0 := HL2.out W1 hk1 0 (by omega)
  rw [Nat.zero_mul, Nat.add_zero] at hl0
  have HB1 := Lib.hid hb1; have HK1 := Lib.hid hk1
  obtain ⟨W2, hs2, hb2, hk2⟩ := new_spot W1 (spV s 0) (spV_size s 0) (spV_one s 0)
  obtain ⟨mb, hmb⟩ : ∃ mb, mb = W1.heap.size := ⟨_, rfl⟩
  have HMB := Lib.hid (show w.heap.size ≤ mb by have := hk1.size; omega)
  have HMR := Lib.hid (show mb ≠ w.heap.size by have := lt_of_block hb1; omega)
  have HB2 := Lib.hid (show W2.heap[mb]? = some (.cells (spV s 0) 29 (0, 0)) by rw [hmb]; exact hb2)
  have HB1 := Lib.hid (hk2.at_ HB1.out (by simp)); have HK2 := Lib.hid (hk1.trans0 hk2)
  clear hW1 hb1 hk1 hb2 hk2 HK1
  go_wp2_with (with_reducible refine park_load 12 _ rfl ?_)
  refine wpList_load_eq rfl _ (.tmp 12) rfl hl0 ?_
  go_wp2_with (with_reducible refine park_store 5 13 _ rfl ?_)
  refine wpList_store_eq rfl _ (.tmp 5) (.tmp 13) rfl hs2 ?_
  rw [← hmb]
  clear hs2 hl0 hmb
  go_wp2
  go_loopw [6] (fun i W => ∃ k : Nat, 1 ≤ k ∧ k ≤ n + 1 ∧ i = .int .i64 k ∧ W.heap[mb]? = some (.cells (spV s (k - 1)) 29 (0, 0)) ∧ W.heap[w.heap.size]? = some (.cells #[.int .i64 0, .int .i64 0, .int .i64 0, .int .i64 0, .int .i64 0, .int .i64 0] 29 (0, 0)) ∧ Keep [] w W) (fun i _ => n + 1 - (intOf i).toNat)
  case atStart => exact ⟨1, by omega, by omega, rfl, HB2.out, HB1.out, HK2.out⟩
  case round =>
    rename World => W3
    obtain ⟨k, hk1, hk2, rfl, hm, hr, hkp⟩ := hrel
    have hlm := load_sp hm rfl
    by_cases hlt : k < n + 1
    · have hltd : decide ((k : Int) < (n : Int) + 1) = true := by simp; omega
      have hlk := HL2.out W3 hkp k hlt
      have HM := Lib.hid hm; have HR := Lib.hid hr; have HKP := Lib.hid hkp
      have hle := pos_le s k
      have hle2 := pos_le s (k - 1)
      have hgt : pos s (k - 1) < pos s k := pos_mono (by omega) (by have := HN.out; omega)
      have hgte : decide (pos s (k - 1) < pos s k) = true := by simpa using hgt
      have hgtf : decide (((pos s (k - 1) : Nat) : Int) < ((pos s k : Nat) : Int)) = true := by simp; omega
      have hgtd : decide ((0 : Int) < (pos s k : Nat) - (pos s (k - 1) : Nat)) = true := by simp; omega
      have L1 := Lib.hid (fun W => len1_any s k (k - 1) W (by omega) (by omega))
      clear hm hr hkp hle hle2 hgt
      go_upto_region 7 with (fail)
      obtain ⟨I, f, hf1, hf2⟩ := kept_class W3
      have q0 : ∀ i, (Instr.loadAt 29 (.pointer (some ⟨b, off + k * 6, none⟩))).run Try.prog (f i) = .ok (.agg (spV s k)) (f i) := fun i => HL2.out _ (HKP.out.trans0 (hf1 i)) k hlt
      have q1 : ∀ i, (Instr.loadAt 29 (.pointer (some ⟨mb, 0, none⟩))).run Try.prog (f i) = .ok (.agg (spV s (k - 1))) (f i) := fun i => load_sp ((hf1 i).at_ HM.out (by simp)) rfl
      have Q0 := Lib.hid q0; have Q1 := Lib.hid q1
      obtain ⟨iw, hiw⟩ := hf2 W3.drew (Keep.refl _ _).drew
      haveI : Nonempty I := ⟨iw⟩
      have HF1 := Lib.hid hf1; have HF2 := Lib.hid hf2
      have hk0 : (0 : Int) ≤ (k : Int) := by omega
      have hkn : (k : Int) < (n : Int) + 1 := by omega
      clear hlm hlk hf1 hf2 q0 q1
      refine wp_quiet_tail 7 f ⟨iw, hiw⟩ (by kernel_rfl) (by kernel_rfl) ?_
      clear hiw iw
      simp only [List.take_succ_cons, List.take_zero, List.drop_succ_cons, List.drop_zero]
      repeat (first
        | ((with_reducible refine park_loadQ 23 _ rfl ?_); refine wpQuiet_load rfl 29 (.tmp 23) rfl (v := .agg (spV s k)) (fun w hw => by obtain ⟨i, rfl⟩ := hw; exact Q0.out i) ?_)
        | ((with_reducible refine park_loadQ 5 _ rfl ?_); refine wpQuiet_load rfl 29 (.tmp 5) rfl (v := .agg (spV s (k - 1))) (fun w hw => by obtain ⟨i, rfl⟩ := hw; exact Q1.out i) ?_)
        | quiet_step (((with_reducible refine (L1.out _).mono ?_); rintro e w'' ⟨rfl, hk⟩; exact ⟨rfl, HF2.out _ ((HF1.out _).trans0 hk)⟩)))
      refine wpQuiet_nil ?_
      intro i
      have hkq := Lib.hid (HF1.out i)
      have hlk := Q0.out i
      clear HF1 HF2 Q0 Q1
      generalize f i = W4 at *
      clear i f L1
      obtain ⟨W5, hs5, hm5, hk5⟩ := store_row (P := Try.prog) (t := 29) spot_info (hkq.out.at_ HM.out (by simp)) rfl (spV_size s k) (spV_one s k)
      have HM5 := Lib.hid hm5; have HR5 := Lib.hid (hk5.at_ (hkq.out.at_ HR.out (by simp)) (by simp; have := HMR.out; omega)); have HK5 := Lib.hid ((HKP.out.trans0 hkq.out).trans hk5 (fun b hb => by simp at hb; exact .inr (by have := HMB.out; omega)))
      clear hm5 hk5 hkq HM HR HKP
      go_wp2_with (with_reducible refine park_load 30 _ rfl ?_)
      refine wpList_load_eq rfl _ (.tmp 30) rfl hlk ?_
      go_wp2_with (with_reducible refine park_store 5 31 _ rfl ?_)
      refine wpList_store_eq rfl _ (.tmp 5) (.tmp 31) rfl hs5 ?_
      clear hlk hs5
      go_wp2
      exact ⟨⟨k + 1, by omega, by omega, by go_num, HM5.out, HR5.out, HK5.out⟩, by simp [intOf]; omega⟩
    · have hltd : decide ((k : Int) < (n : Int) + 1) = false := by simp; omega
      obtain rfl : k = n + 1 := by omega
      rw [Nat.add_sub_cancel] at hm hlm
      obtain ⟨W5, hs5, hm5, hk5⟩ := store_row (P := Try.prog) (t := 29) spot_info hr rfl (spV_size s n) (spV_one s n)
      have HL5 := Lib.hid (load_var (P := Try.prog) Try.underlying29 rfl spot_info hm5 rfl); have HK5 := Lib.hid (hkp.trans hk5 (fun b hb => by simp at hb; exact .inr (by omega)))
      clear hm hr hkp hm5 hk5
      go_wp2_with (with_reducible refine park_load 5 _ rfl ?_)
      refine wpList_load_eq rfl _ (.tmp 5) rfl hlm ?_
      go_wp2_with (with_reducible refine park_store 4 32 _ rfl ?_)
      refine wpList_store_eq rfl _ (.tmp 4) (.tmp 32) rfl hs5 ?_
      clear hlm hs5
      go_wp2
      exact bodyPost_ret (results_cell_one rfl _ _ w.heap.size _ rfl HL5.out) rfl ⟨rfl, HK5.out⟩
end Go.Proofs.Ytodbjehggkdjaaa
namespace Go.Proofs.Ytodbjehggkdjaaa
open Go.RowKit
set_option linter.unusedVariables false
set_option linter.unusedSimpArgs false

theorem results_cell_two {P : Program} {fn : Func} {p q : Tmp} {ty : TypeId} (h : fn.results = #[.cell p ty, .tmp q]) (tmps : Array Value) (w : World) (b : Nat) (v u : Value)
    (hp : tmps.getD p undef = .pointer (some ⟨b, 0, none⟩)) (hq : tmps.getD q undef = u) (hl : (loadVar ty ⟨b, 0, none⟩).run P w = .ok v w) : (results fn tmps).run P w = .ok (.tuple #[v, u]) w := by
  have hp' : tmps[p]?.getD undef = .pointer (some ⟨b, 0, none⟩) := by simpa using hp
  have hq' : tmps[q]?.getD undef = u := by simpa using hq
  simp [results, h, hp', hq', asAddr, hl]

/-- A unit's function. -/
def OfU (s : ByteArray) (u : Int) (fu : Nat) : Prop := (∀ args w, (callFunc fu args).run Try.prog w = .ok (.enter fu args) w) ∧
  ∀ k W, Calls Try.prog fu #[.agg (spV s k)] W fun e w' => e = .returned (.int .i64 (cnt s u k : Nat)) ∧ Keep [] W w'
theorem ofU1 (s : ByteArray) : OfU s 1 45 := ⟨fun args w => enters_of Try.func45 (by kernel_rfl) rfl args w, fun k W => unit1_any s k W⟩
theorem ofU2 (s : ByteArray) : OfU s 2 46 := ⟨fun args w => enters_of Try.func46 (by kernel_rfl) rfl args w, fun k W => unit2_any s k W⟩
theorem ofU3 (s : ByteArray) : OfU s 3 47 := ⟨fun args w => enters_of Try.func47 (by kernel_rfl) rfl args w, fun k W => unit3_any s k W⟩
theorem ofU4 (s : ByteArray) : OfU s 4 48 := ⟨fun args w => enters_of Try.func48 (by kernel_rfl) rfl args w, fun k W => unit4_any s k W⟩
theorem enters_at1 (args : Array Value) (w : World) : (callFunc 30 args).run Try.prog w = .ok (.enter 30 args) w := enters_of Try.func30 (by kernel_rfl) rfl args w

/-- What At's closure reads. -/
structure AtW (s : ByteArray) (fu : Nat) (eu x : Int) (ub lb nb b off cap : Nat) (W : World) : Prop where
  u : W.heap[ub]? = some (.cells #[.func (.func fu) #[] #[], .int .i64 eu] 69 (0, 0))
  l : W.heap[lb]? = some (.cells #[.slice (some ⟨b, off, none⟩) (np s + 1) cap] 36 (0, 0))
  n : W.heap[nb]? = some (.cells #[.int .i64 x] 3 (0, 0))
  sp : SpAt W (.slice (some ⟨b, off, none⟩) (np s + 1) cap) s (np s + 1)
theorem AtW.keep {s : ByteArray} {fu : Nat} {eu x : Int} {ub lb nb b off cap : Nat} {W W' : World} (h : AtW s fu eu x ub lb nb b off cap W) (k : Keep [] W W') : AtW s fu eu x ub lb nb b off cap W' :=
  ⟨k.at_ h.u (by simp), k.at_ h.l (by simp), k.at_ h.n (by simp), h.sp.keep0 k⟩

set_option maxRecDepth 100000 in
set_option maxHeartbeats 4000000 in
theorem at1_any (s : ByteArray) (u : Int) (fu : Nat) (eu x : Int) (ub lb nb b off cap k : Nat) (W : World) (hu : OfU s u fu) (h : AtW s fu eu x ub lb nb b off cap W) (hk : k < np s + 1) (hz : s.size ≤ 1073741824) :
    Calls Try.prog 30 #[.int .i64 k, .pointer (some ⟨ub, 0, none⟩), .pointer (some ⟨lb, 0, none⟩), .pointer (some ⟨nb, 0, none⟩)] W fun e w' => e = .returned (.bool (decide (x ≤ (cnt s u k : Nat)))) ∧ Keep [] W w' := by
  obtain ⟨eg, hf⟩ := hu
  have HF := Lib.hid hf; clear hf
  have hnp := np_le s
  obtain ⟨I, f, hf1, hf2⟩ := kept_class W
  have q0 : ∀ i, (f i).cell? ⟨ub, 0, none⟩ = some (.func (.func fu) #[] #[]) := fun i => by rw [cell_of_block (h.keep (hf1 i)).u]; rfl
  have q1 : ∀ i, (f i).cell? ⟨lb, 0, none⟩ = some (.slice (some ⟨b, off, none⟩) (np s + 1) cap) := fun i => by rw [cell_of_block (h.keep (hf1 i)).l]; rfl
  have q2 : ∀ i, (f i).cell? ⟨nb, 0, none⟩ = some (.int .i64 x) := fun i => by rw [cell_of_block (h.keep (hf1 i)).n]; rfl
  have q3 : ∀ i, (Instr.loadAt 29 (.pointer (some ⟨b, off + k * 6, none⟩))).run Try.prog (f i) = .ok (.agg (spV s k)) (f i) := fun i => load_spot (h.keep (hf1 i)).sp hk
  obtain ⟨iw, hiw⟩ := hf2 W.drew (Keep.refl _ _).drew
  haveI : Nonempty I := ⟨iw⟩
  have HF1 := Lib.hid hf1; have HF2 := Lib.hid hf2; have Q3 := Lib.hid q3
  have hk0 : (0 : Int) ≤ (k : Int) := by omega
  have hkn : (k : Int) < (np s : Int) + 1 := by omega
  clear hf1 hf2 q3 h
  go_enter Try.func30, Try.ntmps30
  go_wp2
  refine wp_quiet_tail 8 f ⟨iw, hiw⟩ (by kernel_rfl) (by kernel_rfl) ?_
  clear hiw iw
  simp only [List.take_succ_cons, List.take_zero, List.drop_succ_cons, List.drop_zero]
  repeat (first
    | ((with_reducible refine park_loadQ 10 _ rfl ?_); refine wpQuiet_load rfl 29 (.tmp 10) rfl (v := .agg (spV s k)) (fun w hw => by obtain ⟨i, rfl⟩ := hw; exact Q3.out i) ?_)
    | quiet_step (((with_reducible refine (HF.out k _).mono ?_); rintro e w'' ⟨rfl, hk⟩; exact ⟨rfl, HF2.out _ ((HF1.out _).trans0 hk)⟩)))
  refine wpQuiet_nil ?_
  intro i
  have hkq := Lib.hid (HF1.out i)
  clear HF1 HF2 Q3 q0 q1 q2
  generalize f i = W4 at *
  clear i f
  go_wp2
  go_ret
  exact ⟨rfl, hkq.out⟩

def atVal (s : ByteArray) (u x eu : Int) : Value :=
  if x < 0 ∨ (cnt s u (np s) : Int) < x then .tuple #[.agg noSp, .int .i64 3] else if (cnt s u (fst (cnt s u) x (np s)) : Int) = x then .tuple #[.agg (spV s (fst (cnt s u) x (np s))), .int .i64 0] else .tuple #[.agg noSp, .int .i64 eu]
theorem atVal_out {s : ByteArray} {u x eu : Int} (h : x < 0 ∨ (cnt s u (np s) : Int) < x) : atVal s u x eu = .tuple #[.agg noSp, .int .i64 3] := if_pos h
theorem atVal_in {s : ByteArray} {u x eu : Int} (h1 : ¬ x < 0) (h2 : ¬ (cnt s u (np s) : Int) < x) :
    ((cnt s u (fst (cnt s u) x (np s)) : Int) = x → atVal s u x eu = .tuple #[.agg (spV s (fst (cnt s u) x (np s))), .int .i64 0]) ∧ ((cnt s u (fst (cnt s u) x (np s)) : Int) ≠ x → atVal s u x eu = .tuple #[.agg noSp, .int .i64 eu]) := by
  unfold atVal
  rw [if_neg (by rintro (h | h); exact h1 h; exact h2 h)]
  exact ⟨fun h => if_pos h, fun h => if_neg h⟩
theorem noSp_one : noSp.all (·.oneCell') = true := by simp [noSp, Value.oneCell']
theorem at_fst {s : ByteArray} {u x : Int} (hx : x ≤ (cnt s u (np s) : Nat)) {i : Nat} (hi : i ≤ np s + 1) (h1 : ∀ j, j < i → decide (x ≤ (cnt s u j : Nat)) = false) (h2 : i < np s + 1 → decide (x ≤ (cnt s u i : Nat)) = true) : i = fst (cnt s u) x (np s) := by
  have hlt : i < np s + 1 := by
    refine Classical.byContradiction fun hn => ?_
    have := h1 (np s) (by omega)
    simp at this
    omega
  refine (fst_uniq (cnt_mono s u) (by omega) (by simpa using h2 hlt) fun j hj => ?_).symm
  have := h1 j hj
  simp at this
  omega
end Go.Proofs.Ytodbjehggkdjaaa
