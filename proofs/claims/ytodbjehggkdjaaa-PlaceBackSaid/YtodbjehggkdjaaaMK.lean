/-
  Walks of breaks, All, Count: iterators.
-/
import Derived.Test.YtodbjehggkdjaaaMJ
import Derived.Test.YtodbjehggkdjaaaIterD
namespace Go.Proofs.Ytodbjehggkdjaaa
open Go.RowKit Go.Shelf
set_option linter.unusedVariables false
set_option linter.unusedSimpArgs false

/-- Does a piece begin there? -/
def bgn (s : ByteArray) (p : Nat) : Bool := decide (p ∈ cut s 0)
theorem bgn_iff {s : ByteArray} {p : Nat} (hp : p < s.size) : bgn s p = true ↔ ∀ j, p ≤ j + 3 → j < p → j + wid s j ≤ p := by
  unfold bgn
  rw [decide_eq_true_eq, mem_cut, ← at_iff s p (by omega)]
  exact ⟨fun h => h.1, fun h => ⟨h, hp⟩⟩
end Go.Proofs.Ytodbjehggkdjaaa
namespace Go.Proofs.Ytodbjehggkdjaaa
open Go.RowKit Go.Shelf
set_option linter.unusedVariables false
set_option linter.unusedSimpArgs false

/-- Is there a break at a byte? -/
def isBrk (s : ByteArray) (p : Nat) : Bool := decide (p ∈ brk s)
theorem isBrk_mid {s : ByteArray} {p : Nat} (h0 : 0 < p) (hp : p < s.size) : isBrk s p = (bgn s p && isb s p) := by
  have key : (isBrk s p = true) ↔ ((bgn s p && isb s p) = true) := by
    unfold isBrk bgn
    rw [Bool.and_eq_true, decide_eq_true_eq, decide_eq_true_eq, mem_brk, mem_cut]
    constructor
    · rintro (h | h | ⟨h, l, hl, hb⟩)
      · omega
      · omega
      · exact ⟨⟨⟨l, hl⟩, h⟩, by rw [isb_at hl]; exact hb⟩
    · rintro ⟨⟨⟨l, hl⟩, h⟩, hb⟩
      exact .inr (.inr ⟨h, l, hl, by rw [← isb_at hl]; exact hb⟩)
  cases h1 : isBrk s p <;> cases h2 : (bgn s p && isb s p) <;> simp_all
theorem isBrk_zero (s : ByteArray) : isBrk s 0 = true := by unfold isBrk; simpa using brk_zero s
theorem isBrk_size (s : ByteArray) : isBrk s s.size = true := by unfold isBrk; simpa using brk_size s

theorem nxt_from {s : ByteArray} {a : Int} {k : Nat} (hk : k ≤ s.size) (hb : isBrk s k = true) (ha : a < k) (hno : ∀ j : Nat, a < (j : Int) → j < k → isBrk s j = false) : nxtB s a = k := by
  refine nxt_is (by unfold isBrk at hb; simpa using hb) ha fun q hq haq => ?_
  refine Classical.byContradiction fun h => ?_
  have := hno q haq (by omega)
  unfold isBrk at this
  simp at this
  exact this hq
theorem prv_from {s : ByteArray} {a : Int} {k : Nat} (hk : k ≤ s.size) (hb : isBrk s k = true) (ha : (k : Int) < a) (hno : ∀ j : Nat, k < j → j ≤ s.size → (j : Int) < a → isBrk s j = false) : prvB s a = k := by
  refine prv_is (by unfold isBrk at hb; simpa using hb) ha fun q hq haq => ?_
  refine Classical.byContradiction fun h => ?_
  have := hno q (by omega) (brk_le hq) haq
  unfold isBrk at this
  simp at this
  exact this hq

end Go.Proofs.Ytodbjehggkdjaaa
namespace Go.Proofs.Ytodbjehggkdjaaa
open Go.RowKit Go.Shelf
set_option linter.unusedVariables false
set_option linter.unusedSimpArgs false
attribute [local go_sem] Oper.semAt_some

theorem breaks_any (s : ByteArray) (w : World) : Calls Try.prog 35 #[.string s] w fun e w' =>
    e = .returned (.func (.func 49) #[] #[.pointer (some ⟨w.heap.size, 0, none⟩)]) ∧ w' = w.alloc (.cells #[.string s] 9) := by
  go_enter Try.func35, Try.ntmps35
  go_wp2
  go_ret
  exact ⟨rfl, rfl⟩
theorem call_any (s : ByteArray) (w : World) : Calls Try.prog 18 #[.string s] w fun e w' =>
    e = .returned (.func (.func 34) #[] #[.pointer (some ⟨w.heap.size, 0, none⟩)]) ∧ w' = w.alloc (.cells #[.string s] 9) := by
  go_enter Try.func18, Try.ntmps18
  go_wp2
  go_ret
  exact ⟨rfl, rfl⟩

/-- What breaks hands on. -/
def bl (s : ByteArray) : List Nat := if s.size = 0 then [] else brk s
def brkArgs (p : Nat) : Array Value := #[.int .i64 p]
/-- How many breaks lie ahead of the k-th piece. -/
def cntB (s : ByteArray) (k : Nat) : Nat := (((cut s 0).take k).filter (isb s)).length
theorem filter_at {α : Type} {f : α → Bool} : ∀ (l : List α) (k : Nat) (x : α), l[k]? = some x → f x = true → (l.filter f)[((l.take k).filter f).length]? = some x
  | [], k, x, h, _ => by simp at h
  | y :: l, 0, x, h, hf => by
    simp at h; subst h
    simp [hf]
  | y :: l, k + 1, x, h, hf => by
    have ih := filter_at l k x (by simpa using h) hf
    by_cases hy : f y = true
    · simp [List.filter_cons, hy]; exact ih
    · simp [List.filter_cons, hy]; exact ih
theorem bl_pos {s : ByteArray} (h : s.size ≠ 0) : bl s = (cut s 0).filter (isb s) ++ [s.size] := by unfold bl brk; rw [if_neg h, if_neg h]
theorem cntB_step {s : ByteArray} {k p : Nat} (h : (cut s 0)[k]? = some p) : cntB s (k + 1) = cntB s k + (if isb s p = true then 1 else 0) := by
  unfold cntB
  rw [List.take_add_one, h, List.filter_append, List.length_append]
  congr 1
  by_cases hi : isb s p = true
  · simp [hi]
  · simp [hi]
theorem bl_at {s : ByteArray} {k p : Nat} (h : (cut s 0)[k]? = some p) (hi : isb s p = true) : (bl s)[cntB s k]? = some p := by
  have hs : s.size ≠ 0 := by
    have := (List.getElem?_eq_some_iff.1 h).1
    have := cut_len_le s 0 (Nat.zero_le _)
    omega
  rw [bl_pos hs]
  have := filter_at (cut s 0) k p h hi
  have hlt := (List.getElem?_eq_some_iff.1 this).1
  unfold cntB
  rw [List.getElem?_append_left hlt]
  exact this
theorem cntB_all (s : ByteArray) : (bl s).length = cntB s (cut s 0).length + (if s.size = 0 then 0 else 1) := by
  unfold cntB
  rw [List.take_length]
  by_cases h : s.size = 0
  · unfold bl
    rw [if_pos h, if_pos h, cut_end (by omega)]; rfl
  · rw [bl_pos h, if_neg h, List.length_append]; rfl
theorem bl_end {s : ByteArray} (h : s.size ≠ 0) : (bl s)[cntB s (cut s 0).length]? = some s.size := by
  rw [bl_pos h]
  unfold cntB
  rw [List.take_length, List.getElem?_append_right (Nat.le_refl _)]
  simp

/-- Between the rounds over the pieces. -/
def BrkI (yb b : Nat) (y : Value) (s : ByteArray) (J : Nat → List Nat → World → Prop) (k : Nat) (fp : List Nat) (W : World) : Prop :=
  J (cntB s k) fp W ∧ W.heap[yb]? = some (.cells #[y] 74 (0, 0)) ∧ TxtNeed b s W ∧ yb ∉ fp ∧ b ∉ fp
def BrkX (s : ByteArray) (Jx : Nat → List Nat → World → Prop) (c : Code) (k : Nat) (fp : List Nat) (W : World) : Prop :=
  c = .ret ∧ ∃ q, q < (bl s).length ∧ Jx q fp W

set_option maxHeartbeats 8000000 in
theorem breaks1_iters (b : Nat) (s : ByteArray) (hz : s.size ≤ 1073741824) :
    ItersF Try.prog 49 #[.pointer (some ⟨b, 0, none⟩)] ((bl s).map brkArgs) [] [b] (TxtNeed b s) := by
  rintro _ J Jx fp W ⟨yf, yl, rfl⟩ hN hown hrd hJ hJx hY hfpl h0
  have hbW := (hrd b (by simp)).1
  have hbf := (hrd b (by simp)).2
  have hc0 : W.cell? ⟨b, 0, none⟩ = some (.string s) := cell_of_one hN
  clear hown hrd
  have HYY := Lib.hid hY; clear hY
  have HN := Lib.hid hN; clear hN
  refine (callsIn_wide (n := 0)).1 ?_
  refine callsIn_of_wp_marks Try.func49 rfl trivial ?_
  simp only [Try.ntmps49, List.size_toArray, List.length_cons, List.length_nil, Nat.reduceAdd, Nat.reduceSub, Array.replicate_succ, Array.replicate_zero, List.push_toArray, List.append_toArray, List.nil_append, List.cons_append]
  gi_wp2_with fail
  refine ⟨trivial, rfl, ?_⟩
  refine (callsIn_wide.2 (all_any s _)).mono ?_
  rintro e w1 ⟨rfl, hw1⟩
  have hk1 : Keep [] W w1 := by rw [hw1]; exact ((Keep.refl _ _).alloc _).alloc _
  have hs1 : w1.heap.size = W.heap.size + 2 := by rw [hw1]; simp
  have hb0 : w1.heap[W.heap.size]? = some (.cells #[.func yf #[] yl] 74 (0, 0)) := by
    rw [hw1, Below.heap_alloc _ _ _ (by simp)]; exact World.alloc_heap_new W _
  have hb1 : w1.heap[W.heap.size + 1]? = some (.cells #[.string s] 9 (0, 0)) := by
    rw [hw1]
    have := World.alloc_heap_new (W.alloc (.cells #[.func yf #[] yl] 74)) (.cells #[.string s] 9); rwa [World.size_alloc] at this
  rw [World.size_alloc]
  have HS1 := Lib.hid hs1; have HB0 := Lib.hid hb0; have HB1 := Lib.hid hb1; have HK1 := Lib.hid hk1
  have HN1 := Lib.hid (HN.out.keep hk1 (by simp))
  have HJ0 := Lib.hid (hJ 0 fp W w1 [] h0 hk1 (fun c hc => by cases hc))
  clear hw1 hs1 hb0 hb1 hk1
  gi_wp2_with fail
  have hiI : ∀ k, Steady [] w1 (BrkI W.heap.size b (.func yf #[] yl) s J k) := fun k => by
    rintro fp W1 W2 S ⟨j1, j2, j3, j4, j5⟩ hk hS
    have hge : ∀ x ∈ S, W.heap.size + 2 ≤ x := fun x hx => by
      rcases (hS x hx).2 with h | h
      · cases h
      · have := HS1.out; omega
    refine ⟨hJ _ fp W1 W2 S j1 hk (fun x hx => ⟨(hS x hx).1, .inr (by have := hge x hx; omega)⟩), hk.at_ j2 (fun h => by have := hge _ h; omega), j3.keep hk (fun h => by have := hge _ h; omega), j4, j5⟩
  have hiX : ∀ c k, Steady [] w1 (BrkX s Jx c k) := fun c k => by
    rintro fp W1 W2 S ⟨j1, q, hq, j2⟩ hk hS
    have hge : ∀ x ∈ S, W.heap.size + 2 ≤ x := fun x hx => by
      rcases (hS x hx).2 with h | h
      · cases h
      · have := HS1.out; omega
    exact ⟨j1, q, hq, hJx _ fp W1 W2 S j2 hk (fun x hx => ⟨(hS x hx).1, .inr (by have := hge x hx; omega)⟩)⟩
  refine wpIn_rangeD (gf := 36) (lb := #[.pointer (some ⟨W.heap.size + 1, 0, none⟩)]) rfl (enters_of Try.func36 (by kernel_rfl) rfl)
    (all1_iters (W.heap.size + 1) s hz).f (fun W hk => TxtNeed.keep HB1.out hk (by simp)) (by simp [pieceArgs]) fp
    (fun b hb => by cases hb) (fun c hc => by simp at hc; subst hc; have := HS1.out; exact ⟨by omega, fun h => by have := hfpl _ h; omega⟩) (fun c hc => by have := HS1.out; have := hfpl _ hc; omega)
    (BrkI W.heap.size b (.func yf #[] yl) s J) (BrkX s Jx) hiI hiX
    ⟨by have h := HJ0.out; unfold cntB; rw [List.take_zero]; exact h, HB0.out, HN1.out, fun h => by have := hfpl _ h; omega, hbf⟩
    (fun k => { tmps := #[.func yf #[] yl, .pointer (some ⟨b, 0, none⟩), .pointer (some ⟨W.heap.size, 0, none⟩), .int .i64 ((cut s 0)[k]?.getD 0 : Nat), .string s, .func (.func 36) #[] #[.pointer (some ⟨W.heap.size + 1, 0, none⟩)], .int .i64 ((cut s 0)[k]?.getD 0 : Nat), .int .i32 (dec s ((cut s 0)[k]?.getD 0)).1, undef, undef, undef, undef, undef, undef, undef, undef, undef, undef, undef, undef, undef, undef, undef, undef, undef, undef, undef, undef], defers := [] }) ?assign ?body ?done ?stop
  case assign =>
    intro l k hk W K hK
    rw [List.length_map] at hk
    have hk2 := List.getElem?_eq_getElem hk
    rw [List.getElem_map, show (cut s 0)[k] = (cut s 0)[k]?.getD 0 by rw [hk2]; rfl]
    clear hk2
    have hpa : ∀ i, pieceArgs s i = #[.int .i64 i, .int .i32 (dec s i).1] := fun _ => rfl
    rw [hpa]
    clear hpa
    generalize (cut s 0)[k]?.getD 0 = q at hK ⊢
    gi_wp2
    exact hK
  case body =>
    rintro l k hk fp W2 ⟨j1, j2, j3, j4, j5⟩
    rw [List.length_map] at hk
    have hk2 := List.getElem?_eq_getElem hk
    have hq : (cut s 0)[k]?.getD 0 = (cut s 0)[k] := by rw [hk2]; rfl
    have hat := (at_get s k hk).1
    have hlt := (at_get s k hk).2
    rw [hq]
    clear hq
    generalize (cut s 0)[k] = p at *
    have hst := cntB_step hk2
    have hble := bl_at hk2
    generalize (cut s 0).take k = l' at *
    generalize (dec s p).1 = r1 at *
    have hyy : isb s p = true → Hid (cntB s k < (bl s).length ∧ ∀ W3, Keep [] W2 W3 → CallV Try.prog (.func yf #[] yl) #[.int .i64 p] W3 (RoundPost J Jx (cntB s k) fp W3)) := fun hi => by
      have hb := hble hi
      obtain ⟨hbl, hbe⟩ := List.getElem?_eq_some_iff.1 hb
      refine Lib.hid ⟨hbl, fun W3 hk3 => ?_⟩
      have := HYY.out (cntB s k) (by rw [List.length_map]; exact hbl) fp W3 (hJ _ fp W2 W3 [] j1 hk3 (fun c hc => by cases hc))
      rw [List.getElem_map, hbe] at this
      exact this
    have hbW2 := lt_of_block j3
    have hyW2 := lt_of_block j2
    have cb := cell_of_one j3
    have cy := cell_of_one j2
    have J1 := Lib.hid j1; have J2 := Lib.hid j2; have J3 := Lib.hid j3; have J4 := Lib.hid j4; have J5 := Lib.hid j5
    have hnorm : ∀ W3 W4 fp', Keep [] W2 W3 → Keep fp W3 W4 → FromNew fp fp' W3 → J (cntB s (k + 1)) fp' W4 → ∃ fp', BrkI W.heap.size b (.func yf #[] yl) s J (k + 1) fp' W4 ∧ Keep fp W2 W4 ∧ FromNew fp fp' W2 := fun W3 W4 fp' k3 k4 hf hj => by
      have hs3 := k3.size
      refine ⟨fp', ⟨hj, k4.at_ (k3.at_ J2.out (by simp)) J4.out, (J3.out.keep k3 (by simp)).keep k4 J5.out, fun h => ?_, fun h => ?_⟩, (k3.mono (by simp)).trans k4 (fun x hx => .inl hx), fun x hx => ?_⟩
      · rcases hf _ h with h' | h'
        · exact J4.out h'
        · omega
      · rcases hf _ h with h' | h'
        · exact J5.out h'
        · omega
      · rcases hf x hx with h' | h'
        · exact .inl h'
        · exact .inr (by omega)
    have hstop : cntB s k < (bl s).length → ∀ W3 W4 fp', Keep [] W2 W3 → Keep fp W3 W4 → FromNew fp fp' W3 → Jx (cntB s k) fp' W4 → ∃ fp', BrkX s Jx .ret k fp' W4 ∧ Keep fp W2 W4 ∧ FromNew fp fp' W2 := fun hc W3 W4 fp' k3 k4 hf hj => by
      have hs3 := k3.size
      refine ⟨fp', ⟨rfl, _, hc, hj⟩, (k3.mono (by simp)).trans k4 (fun x hx => .inl hx), fun x hx => ?_⟩
      rcases hf x hx with h' | h'
      · exact .inl h'
      · exact .inr (by omega)
    have HNORM := Lib.hid hnorm; have HSTOP := Lib.hid hstop; have HST := Lib.hid hst
    have HJ := Lib.hid hJ
    clear j1 j2 j3 j4 j5 hnorm hstop hst hble hk2 hiI hiX hJ hJx hc0 hbf h0 hbW
    by_cases hp0 : p = 0
    · have e0 : ((p : Int) == 0) = true := by simpa using hp0
      have hib : isb s p = true := by rw [hp0]; exact isb_zero s
      have HY2 := hyy hib
      have hst := HST.out
      rw [if_pos hib] at hst
      clear hib hp0
      have HST2 := Lib.hid hst
      clear hst hyy HST
      gi_wp2_with fail
      repeat ((first | refine ⟨trivial, ?_⟩ | refine ⟨(fun f h => by cases h), ?_⟩); gi_wp2_with (with_reducible refine park_call 16 _ _ rfl ?_))
      refine wpListIn_callV (.inr ⟨l, rfl⟩) rfl (.tmp 16) [.tmp 17] #[3] rfl (.func yf #[] yl) rfl [.int .i64 p] rfl _ (HY2.out.2 _ (Keep.refl _ _)) ?_
      rintro e w3 (⟨rfl, fp', hj', hkp, hfn⟩ | ⟨rfl, fp', hj', hkp, hfn⟩)
      · refine ⟨_, rfl, ?_⟩
        rw [← HST2.out] at hj'
        have HF := Lib.hid (HNORM.out _ _ _ (Keep.refl _ _) hkp hfn hj')
        clear hj' hkp hfn
        gi_wp2
        exact HF.out
      · refine ⟨_, rfl, ?_⟩
        have HF := Lib.hid (HSTOP.out HY2.out.1 _ _ _ (Keep.refl _ _) hkp hfn hj')
        clear hj' hkp hfn
        gi_wp2
        exact HF.out
    · have e0 : ((p : Int) == 0) = false := by simpa using hp0
      have HA := Lib.hid (apart_any s l' p W2 hz hat (by omega) hlt)
      cases hib : isb s p with
      | true =>
        have HY2 := hyy hib
        have hst := HST.out
        rw [hib] at HA hst
        rw [if_pos rfl] at hst
        have HST2 := Lib.hid hst
        clear hst hyy HST hib
        gi_wp2_with fail
        refine ⟨trivial, rfl, ?_⟩
        refine (callsIn_wide.2 HA.out).mono ?_
        rintro r w3 ⟨rfl, k3⟩
        have cb3 := k3.cellv cb (by simp)
        have cy3 := k3.cellv cy (by simp)
        have K3 := Lib.hid k3
        clear k3 HA cb cy
        gi_wp2_with (with_reducible refine park_call 16 _ _ rfl ?_)
        refine wpListIn_callV (.inr ⟨l, rfl⟩) rfl (.tmp 16) [.tmp 17] #[3] rfl (.func yf #[] yl) rfl [.int .i64 p] rfl _ (HY2.out.2 _ K3.out) ?_
        rintro e w4 (⟨rfl, fp', hj', hkp, hfn⟩ | ⟨rfl, fp', hj', hkp, hfn⟩)
        · refine ⟨_, rfl, ?_⟩
          rw [← HST2.out] at hj'
          have HF := Lib.hid (HNORM.out _ _ _ K3.out hkp hfn hj')
          clear hj' hkp hfn
          gi_wp2
          exact HF.out
        · refine ⟨_, rfl, ?_⟩
          have HF := Lib.hid (HSTOP.out HY2.out.1 _ _ _ K3.out hkp hfn hj')
          clear hj' hkp hfn
          gi_wp2
          exact HF.out
      | false =>
        have hst := HST.out
        rw [hib] at HA hst
        rw [if_neg (by decide), Nat.add_zero] at hst
        have HST2 := Lib.hid hst
        clear hst hyy HST hib
        gi_wp2_with fail
        refine ⟨trivial, rfl, ?_⟩
        refine (callsIn_wide.2 HA.out).mono ?_
        rintro r w3 ⟨rfl, k3⟩
        have HF := Lib.hid (HNORM.out _ _ fp k3 (Keep.refl _ _) (FromNew.refl _ _) (by rw [HST2.out]; exact HJ.out _ fp W2 w3 [] J1.out k3 (fun c hc => by cases hc)))
        clear k3 HA
        gi_wp2
        repeat (first | exact HF.out | (refine ⟨(fun f h => by cases h), ?_⟩; gi_wp2))
  case done =>
    rintro D fp W2 hD ⟨j1, j2, j3, j4, j5⟩ hK hDf
    rw [List.length_map] at j1
    have cb := cell_of_one j3
    have cy := cell_of_one j2
    have HDD := Lib.hid (show W.heap.size + 2 ≤ D by have := HS1.out; omega)
    have HK := Lib.hid hK; have J1 := Lib.hid j1; have HDF := Lib.hid hDf
    have hlen := cntB_all s
    have HJ := Lib.hid hJ; have HJX := Lib.hid hJx
    clear j1 j2 j3 hK hiI hiX hJ hJx hc0 hbf h0 hbW
    by_cases hs0 : s.size = 0
    · have hd : decide (0 < s.size) = false := decide_eq_false (by omega)
      rw [if_pos hs0, Nat.add_zero] at hlen
      rw [← hlen] at J1
      clear hlen
      have HZ := Lib.hid hs0
      clear hs0
      gi_wp2
      refine ⟨by simp, .inl ⟨_, _, rfl, run_takeDeferred HK.out, ?_⟩⟩
      exact ⟨_, results_none rfl _ _ _, rfl, .inl ⟨fp, by (try rw [List.length_map]); exact HJ.out _ fp W2 _ [D] J1.out (keep_putObj _ _ _) (fun x hx => by simp at hx; subst hx; exact ⟨HDF.out, .inr (by have := HDD.out; omega)⟩)⟩⟩
    · have hd : decide (0 < s.size) = true := decide_eq_true (by omega)
      rw [if_neg hs0] at hlen
      have HLEN := Lib.hid hlen
      have hbe := bl_end hs0
      obtain ⟨hbl, hbe2⟩ := List.getElem?_eq_some_iff.1 hbe
      have hy := HYY.out (cntB s (cut s 0).length) (by rw [List.length_map]; exact hbl) fp W2 J1.out
      rw [List.getElem_map, hbe2] at hy
      have HY := Lib.hid hy
      clear hlen hbe hbe2 hy
      gi_wp2_with (with_reducible refine park_call 24 _ _ rfl ?_)
      refine wpListIn_callV (.inl rfl) rfl (.tmp 24) [.tmp 26] #[3] rfl (.func yf #[] yl) rfl [.int .i64 s.size] rfl _ HY.out ?_
      rintro e w4 (⟨rfl, fp', hj', hkp, hfn⟩ | ⟨rfl, fp', hj', hkp, hfn⟩)
      · refine ⟨_, rfl, ?_⟩
        have hs4 := hkp.size
        have hD4 := hkp.at_ HK.out HDF.out
        have hDf4 : D ∉ fp' := fun h => by
          rcases hfn _ h with h' | h'
          · exact HDF.out h'
          · have := lt_of_block HK.out; omega
        rw [← HLEN.out] at hj'
        gi_wp2
        refine ⟨by simp, .inl ⟨_, _, rfl, run_takeDeferred hD4, ?_⟩⟩
        exact ⟨_, results_none rfl _ _ _, rfl, .inl ⟨fp', by (try rw [List.length_map]); exact HJ.out _ fp' w4 _ [D] hj' (keep_putObj _ _ _) (fun x hx => by simp at hx; subst hx; exact ⟨hDf4, .inr (by have := HDD.out; omega)⟩)⟩⟩
      · refine ⟨_, rfl, ?_⟩
        have hs4 := hkp.size
        have hD4 := hkp.at_ HK.out HDF.out
        have hDf4 : D ∉ fp' := fun h => by
          rcases hfn _ h with h' | h'
          · exact HDF.out h'
          · have := lt_of_block HK.out; omega
        gi_wp2
        refine ⟨by simp, .inl ⟨_, _, rfl, run_takeDeferred hD4, ?_⟩⟩
        exact ⟨_, results_none rfl _ _ _, rfl, .inr ⟨_, fp', by (try rw [List.length_map]); rw [HLEN.out]; exact Nat.lt_succ_self _, HJX.out _ fp' w4 _ [D] hj' (keep_putObj _ _ _) (fun x hx => by simp at hx; subst hx; exact ⟨hDf4, .inr (by have := HDD.out; omega)⟩)⟩⟩
  case stop =>
    rintro D c k fp W2 hD hk ⟨rfl, q, hq, hj⟩ hK hDf
    gi_wp2
    refine ⟨by simp, .inl ⟨_, _, rfl, run_takeDeferred hK, ?_⟩⟩
    exact ⟨_, results_none rfl _ _ _, rfl, .inr ⟨q, fp, by (try rw [List.length_map]); exact hq, hJx _ fp W2 _ [D] hj (keep_putObj _ _ _) (fun x hx => by simp at hx; subst hx; exact ⟨hDf, .inr (by have := HS1.out; omega)⟩)⟩⟩
end Go.Proofs.Ytodbjehggkdjaaa
