/-
  Walks of the reference's in, Class.
-/
import Derived.Test.YtodbjehggkdjaaaMK
import Derived.Test.YtodbjehggkdjaaaStillIn
import Derived.Test.YtodbjehggkdjaaaAppend
import Derived.Test.YtodbjehggkdjaaaSl
import Derived.Test.YtodbjehggkdjaaaMI
namespace Go.Proofs.Ytodbjehggkdjaaa
open Go.RowKit Go.Shelf
set_option linter.unusedVariables false
set_option linter.unusedSimpArgs false
attribute [local go_sem] Oper.semAt_some

/-- What All hands on. -/
def cluArgs (s : ByteArray) (q : Nat × Nat) : Array Value := #[.int .i64 q.1, .string (s.extract q.1 q.2)]
theorem brk_head (s : ByteArray) : ∃ l, brk s = 0 :: l := by
  unfold brk
  split
  · exact ⟨[], rfl⟩
  · rename_i h
    rw [cut_step (by omega), List.filter_cons, if_pos (isb_zero s)]
    exact ⟨_, rfl⟩
theorem bl_clumps {s : ByteArray} : (clumps s).length = (bl s).length - 1 := by
  unfold clumps bl
  rw [prs_len]
  split
  · rename_i h; unfold brk; rw [if_pos h]; rfl
  · rfl
theorem bl_len_le (s : ByteArray) : (bl s).length ≤ s.size + 1 := by
  have h1 := cntB_all s
  have h2 : cntB s (cut s 0).length ≤ (cut s 0).length := by unfold cntB; rw [List.take_length]; exact List.length_filter_le _ _
  have h3 := cut_len_le s 0 (Nat.zero_le _)
  split at h1 <;> omega
theorem bl_pair {s : ByteArray} {k a b : Nat} (h1 : (bl s)[k]? = some a) (h2 : (bl s)[k + 1]? = some b) : (clumps s)[k]? = some (a, b) := by
  have hs : s.size ≠ 0 := fun h => by unfold bl at h1; rw [if_pos h] at h1; simp at h1
  have e : bl s = brk s := by unfold bl; rw [if_neg hs]
  rw [e] at h1 h2
  exact prs_get _ _ _ _ h1 h2
theorem bl_zero {s : ByteArray} {p : Nat} (h : (bl s)[0]? = some p) : p = 0 := by
  unfold bl at h
  split at h
  · simp at h
  · obtain ⟨l, hl⟩ := brk_head s
    rw [hl] at h; simpa using h.symm
theorem bl_rise {s : ByteArray} {k a b : Nat} (h1 : (bl s)[k]? = some a) (h2 : (bl s)[k + 1]? = some b) : a < b ∧ b ≤ s.size := by
  have hs : s.size ≠ 0 := fun h => by unfold bl at h1; rw [if_pos h] at h1; simp at h1
  have e : bl s = brk s := by unfold bl; rw [if_neg hs]
  rw [e] at h1 h2
  refine ⟨?_, brk_le (List.mem_of_getElem? h2)⟩
  have := List.pairwise_iff_getElem.1 (brk_sorted s)
  obtain ⟨i1, rfl⟩ := List.getElem?_eq_some_iff.1 h1
  obtain ⟨i2, rfl⟩ := List.getElem?_eq_some_iff.1 h2
  exact this _ _ i1 i2 (by omega)

theorem slice_str (s : ByteArray) {a p : Nat} (h1 : a ≤ p) (h2 : p ≤ s.size) (w : World) : (Instr.slice 9 (.string s) (some (.int .i64 a)) (some (.int .i64 p)) none).run Try.prog w = .ok (.string (s.extract a p)) w := by
  rw [run_slice_string_if _ _ _ _ _ _ _ Try.underlying9, if_pos (by omega), if_pos (by omega)]; rfl
/-- Where the clump begins that is gathered ahead of the k-th break. -/
def froB (s : ByteArray) (k : Nat) : Nat := if k = 0 then 0 else (bl s)[k - 1]?.getD 0
/-- Between the rounds over the breaks. -/
def CluI (yb b fb : Nat) (y : Value) (s : ByteArray) (J : Nat → List Nat → World → Prop) (k : Nat) (fpt : List Nat) (W : World) : Prop :=
  ∃ fp, fpt = fb :: fp ∧ J (k - 1) fp W ∧ W.heap[yb]? = some (.cells #[y] 78 (0, 0)) ∧ TxtNeed b s W ∧ W.heap[fb]? = some (.cells #[.int .i64 (froB s k : Nat)] 3 (0, 0)) ∧ yb ∉ fp ∧ b ∉ fp ∧ fb ∉ fp
def CluX (fb : Nat) (s : ByteArray) (Jx : Nat → List Nat → World → Prop) (c : Code) (k : Nat) (fpt : List Nat) (W : World) : Prop :=
  c = .ret ∧ ∃ fp, fpt = fb :: fp ∧ ∃ q, q < (clumps s).length ∧ Jx q fp W

set_option maxRecDepth 100000 in
set_option maxHeartbeats 8000000 in
theorem clu1_iters (b : Nat) (s : ByteArray) (hz : s.size ≤ 1073741824) :
    ItersF Try.prog 34 #[.pointer (some ⟨b, 0, none⟩)] ((clumps s).map (cluArgs s)) [] [b] (TxtNeed b s) := by
  rintro _ J Jx fp W ⟨yf, yl, rfl⟩ hN hown hrd hJ hJx hY hfpl h0
  have hbW := (hrd b (by simp)).1
  have hbf := (hrd b (by simp)).2
  have hc0 : W.cell? ⟨b, 0, none⟩ = some (.string s) := cell_of_one hN
  clear hown hrd
  have HYY := Lib.hid hY; clear hY
  have HN := Lib.hid hN; clear hN
  have hblen := bl_len_le s
  refine (callsIn_wide (n := 0)).1 ?_
  refine callsIn_of_wp_marks Try.func34 rfl trivial ?_
  simp only [Try.ntmps34, List.size_toArray, List.length_cons, List.length_nil, Nat.reduceAdd, Nat.reduceSub, Array.replicate_succ, Array.replicate_zero, List.push_toArray, List.append_toArray, List.nil_append, List.cons_append]
  gi_wp2_with fail
  refine ⟨trivial, rfl, ?_⟩
  refine (callsIn_wide.2 (breaks_any s _)).mono ?_
  rintro e w1 ⟨rfl, hw1⟩
  have hk1 : Keep [] W w1 := by rw [hw1]; exact (((Keep.refl _ _).alloc _).alloc _).alloc _
  have hs1 : w1.heap.size = W.heap.size + 3 := by rw [hw1]; simp
  have hb0 : w1.heap[W.heap.size]? = some (.cells #[.func yf #[] yl] 78 (0, 0)) := by
    rw [hw1, Below.heap_alloc _ _ _ (by simp; omega), Below.heap_alloc _ _ _ (by simp)]; exact World.alloc_heap_new W _
  have hb1 : w1.heap[W.heap.size + 1]? = some (.cells #[.int .i64 0] 3 (0, 0)) := by
    rw [hw1, Below.heap_alloc _ _ _ (by simp)]
    have := World.alloc_heap_new (W.alloc (.cells #[.func yf #[] yl] 78)) (.cells #[.int .i64 0] 3); rwa [World.size_alloc] at this
  have hb2 : w1.heap[W.heap.size + 2]? = some (.cells #[.string s] 9 (0, 0)) := by
    rw [hw1]
    have := World.alloc_heap_new ((W.alloc (.cells #[.func yf #[] yl] 78)).alloc (.cells #[.int .i64 0] 3)) (.cells #[.string s] 9); rwa [World.size_alloc, World.size_alloc] at this
  rw [World.size_alloc, World.size_alloc]
  have HS1 := Lib.hid hs1; have HB0 := Lib.hid hb0; have HB1 := Lib.hid hb1; have HB2 := Lib.hid hb2; have HK1 := Lib.hid hk1
  have HN1 := Lib.hid (HN.out.keep hk1 (by simp))
  have HJ0 := Lib.hid (hJ 0 fp W w1 [] h0 hk1 (fun c hc => by cases hc))
  clear hw1 hs1 hb0 hb1 hb2 hk1
  gi_wp2_with fail
  have hiI : ∀ k, Steady [] w1 (CluI W.heap.size b (W.heap.size + 1) (.func yf #[] yl) s J k) := fun k => by
    rintro fp W1 W2 S ⟨fp, rfl, j1, j2, j3, j4, j5, j6, j7⟩ hk hS
    have hge : ∀ x ∈ S, W.heap.size + 3 ≤ x := fun x hx => by
      rcases (hS x hx).2 with h | h
      · cases h
      · have := HS1.out; omega
    exact ⟨fp, rfl, hJ _ fp W1 W2 S j1 hk (fun x hx => ⟨fun h => (hS x hx).1 (List.mem_cons_of_mem _ h), .inr (by have := hge x hx; omega)⟩), hk.at_ j2 (fun h => by have := hge _ h; omega), j3.keep hk (fun h => by have := hge _ h; omega), hk.at_ j4 (fun h => by have := hge _ h; omega), j5, j6, j7⟩
  have hiX : ∀ c k, Steady [] w1 (CluX (W.heap.size + 1) s Jx c k) := fun c k => by
    rintro fp W1 W2 S ⟨j1, fp, rfl, q, hq, j2⟩ hk hS
    have hge : ∀ x ∈ S, W.heap.size + 3 ≤ x := fun x hx => by
      rcases (hS x hx).2 with h | h
      · cases h
      · have := HS1.out; omega
    exact ⟨j1, fp, rfl, q, hq, hJx _ fp W1 W2 S j2 hk (fun x hx => ⟨fun h => (hS x hx).1 (List.mem_cons_of_mem _ h), .inr (by have := hge x hx; omega)⟩)⟩
  refine wpIn_rangeD (gf := 49) (lb := #[.pointer (some ⟨W.heap.size + 2, 0, none⟩)]) rfl (enters_of Try.func49 (by kernel_rfl) rfl)
    (breaks1_iters (W.heap.size + 2) s hz) (fun W hk => TxtNeed.keep HB2.out hk (by simp)) (by simp [brkArgs]) ((W.heap.size + 1) :: fp)
    (fun b hb => by cases hb) (fun c hc => by simp at hc; subst hc; have := HS1.out; exact ⟨by omega, fun h => by rcases List.mem_cons.1 h with h | h; omega; have := hfpl _ h; omega⟩) (fun c hc => by have := HS1.out; rcases List.mem_cons.1 hc with h | h; omega; have := hfpl _ h; omega)
    (CluI W.heap.size b (W.heap.size + 1) (.func yf #[] yl) s J) (CluX (W.heap.size + 1) s Jx) hiI hiX
    ⟨fp, rfl, HJ0.out, HB0.out, HN1.out, HB1.out, fun h => by have := hfpl _ h; omega, hbf, fun h => by have := hfpl _ h; omega⟩
    (fun k => { tmps := #[.func yf #[] yl, .pointer (some ⟨b, 0, none⟩), .pointer (some ⟨W.heap.size, 0, none⟩), .pointer (some ⟨W.heap.size + 1, 0, none⟩), .int .i64 ((bl s)[k]?.getD 0 : Nat), .string s, .func (.func 49) #[] #[.pointer (some ⟨W.heap.size + 2, 0, none⟩)], .int .i64 ((bl s)[k]?.getD 0 : Nat), undef, undef, undef, undef, undef, undef, undef, undef, undef, undef, undef], defers := [] }) ?assign ?body ?done ?stop
  case assign =>
    intro l k hk W K hK
    rw [List.length_map] at hk
    have hk2 := List.getElem?_eq_getElem hk
    rw [List.getElem_map, show (bl s)[k] = (bl s)[k]?.getD 0 by rw [hk2]; rfl]
    clear hk2
    have hpa : ∀ i, brkArgs i = #[.int .i64 i] := fun _ => rfl
    rw [hpa]
    clear hpa
    generalize (bl s)[k]?.getD 0 = q at hK ⊢
    gi_wp2
    exact hK
  case body =>
    rintro l k hk fpt W2 ⟨fp, rfl, j1, j2, j3, j4, j5, j6, j7⟩
    rw [List.length_map] at hk
    have hk2 := List.getElem?_eq_getElem hk
    have hq : (bl s)[k]?.getD 0 = (bl s)[k] := by rw [hk2]; rfl
    rw [hq]
    clear hq
    generalize (bl s)[k] = p at *
    have hbW2 := lt_of_block j3
    have hyW2 := lt_of_block j2
    have hfW2 := lt_of_block j4
    have cb := cell_of_one j3
    have cy := cell_of_one j2
    have cf := cell_of_one j4
    have ff := free_of_one j4
    have HJ := Lib.hid hJ
    have hfk : froB s (k + 1) = p := by unfold froB; rw [if_neg (by omega), Nat.add_sub_cancel, hk2]; rfl
    have HFK := Lib.hid hfk
    by_cases hk0 : k = 0
    · subst hk0
      have hp0 := bl_zero hk2
      have e0 : ((p : Int) == 0) = true := by simpa using hp0
      have hfr : froB s (0 + 1) = froB s 0 := by rw [hfk, hp0]; rfl
      have HF : Hid (∃ fpt', CluI W.heap.size b (W.heap.size + 1) (.func yf #[] yl) s J (0 + 1) fpt' W2 ∧ Keep ((W.heap.size + 1) :: fp) W2 W2 ∧ FromNew ((W.heap.size + 1) :: fp) fpt' W2) :=
        Lib.hid ⟨_, ⟨fp, rfl, j1, j2, j3, by rw [hfr]; exact j4, j5, j6, j7⟩, Keep.refl _ _, FromNew.refl _ _⟩
      clear j1 j2 j3 j4 hk2 hiI hiX hJ hJx hc0 hbf h0 hbW hfk hfr cb cy cf ff hp0 HFK
      gi_wp2
      exact HF.out
    · have hk1 : k - 1 + 1 = k := by omega
      have hkl : k - 1 < (bl s).length := by omega
      have ha2 := List.getElem?_eq_getElem hkl
      generalize hae : (bl s)[k - 1] = a at *
      have hcl := bl_pair ha2 (by rw [hk1]; exact hk2)
      obtain ⟨hap, hps⟩ := bl_rise ha2 (by rw [hk1]; exact hk2)
      have hfa : froB s k = a := by unfold froB; rw [if_neg hk0, ha2]; rfl
      rw [hfa] at j4 cf
      obtain ⟨hcll, hcle⟩ := List.getElem?_eq_some_iff.1 hcl
      have hyy : Hid (k - 1 < (clumps s).length ∧ ∀ W3, Keep [] W2 W3 → CallV Try.prog (.func yf #[] yl) #[.int .i64 a, .string (s.extract a p)] W3 (RoundPost J Jx (k - 1) fp W3)) := by
        refine Lib.hid ⟨hcll, fun W3 hk3 => ?_⟩
        have := HYY.out (k - 1) (by rw [List.length_map]; exact hcll) fp W3 (hJ _ fp W2 W3 [] j1 hk3 (fun c hc => by cases hc))
        rw [List.getElem_map, hcle] at this
        exact this
      have e0 : ((p : Int) == 0) = false := by simp; omega
      have d1 : decide (p < a) = false := by simp; omega
      have d2 : decide (s.size < p) = false := by simp; omega
      have J2 := Lib.hid j2; have J3 := Lib.hid j3; have J4 := Lib.hid j4; have J5 := Lib.hid j5; have J6 := Lib.hid j6; have J7 := Lib.hid j7; have HK1 := Lib.hid hk1
      have hsl := fun W => slice_str s (Nat.le_of_lt hap) hps W
      clear j1 j2 j3 j4 hk2 hiI hiX hJ hJx hc0 hbf h0 hbW hfk hfa hcll hcle hcl ha2 hae hkl hk1
      gi_wp2_with fail
      refine wpIn_round_still_tail 6 (by kernel_rfl) (by kernel_rfl) ?_
      simp only [List.take_succ_cons, List.take_zero, List.drop_succ_cons, List.drop_zero]
      repeat still_step
      refine wpStill_nil ?_
      clear hsl
      refine wpListIn_callV (.inr ⟨l, rfl⟩) rfl (.tmp 10) [.tmp 11, .tmp 15] #[3, 9] rfl (.func yf #[] yl) rfl [.int .i64 a, .string (s.extract a p)] rfl _ (hyy.out.2 _ ((Keep.refl _ _).drew)) ?_
      rintro e w4 (⟨rfl, fp', hj', hkp, hfn⟩ | ⟨rfl, fp', hj', hkp, hfn⟩)
      · refine ⟨_, rfl, ?_⟩
        rw [HK1.out] at hj'
        replace hkp : Keep fp W2 w4 := ((Keep.refl fp W2).drew).trans' hkp
        replace hfn : FromNew fp fp' W2 := hfn
        have hnot : ∀ x, x < W2.heap.size → x ∉ fp → x ∉ fp' := fun x hx hn h => by
          rcases hfn _ h with h' | h'
          · exact hn h'
          · omega
        have g1 := hkp.at_ J4.out J7.out
        have cf4 := cell_of_one g1
        have ff4 := free_of_one g1
        have hks : Keep [W.heap.size + 1] w4 (w4.setCell ⟨W.heap.size + 1, 0, none⟩ (.int .i64 p)) := (Keep.refl _ _).setCell (.inl (by simp)) _
        have HF : Hid (∃ fpt', CluI W.heap.size b (W.heap.size + 1) (.func yf #[] yl) s J (k + 1) fpt' (w4.setCell ⟨W.heap.size + 1, 0, none⟩ (.int .i64 p)) ∧ Keep ((W.heap.size + 1) :: fp) W2 (w4.setCell ⟨W.heap.size + 1, 0, none⟩ (.int .i64 p)) ∧ FromNew ((W.heap.size + 1) :: fp) fpt' W2) := by
          refine Lib.hid ⟨_, ⟨fp', rfl, ?_, ?_, ?_, ?_, hnot _ hyW2 J5.out, hnot _ hbW2 J6.out, hnot _ hfW2 J7.out⟩, ?_, ?_⟩
          · rw [Nat.add_sub_cancel]
            exact HJ.out _ fp' w4 _ _ hj' hks (fun x hx => by simp at hx; subst hx; exact ⟨hnot _ hfW2 J7.out, .inr (by omega)⟩)
          · exact hks.at_ (hkp.at_ J2.out J5.out) (by simp)
          · exact (J3.out.keep hkp J6.out).keep hks (by simp; intro h; have := J3.out; rw [h] at this; have h4 := J4.out; rw [this] at h4; simp at h4)
          · rw [HFK.out]; exact one_setCell g1
          · exact (hkp.mono (by intro x hx; simp [hx])).trans hks (by intro x hx; simp at hx; simp [hx])
          · intro x hx
            rcases List.mem_cons.1 hx with h | h
            · exact .inl (by simp [h])
            · rcases hfn x h with h' | h'
              · exact .inl (by simp [h'])
              · exact .inr h'
        clear hj' hkp hfn g1 hks hnot cf cb cy ff HFK J2 J3 J4 J5 J6 J7 hyy HJ
        gi_wp2
        exact HF.out
      · refine ⟨_, rfl, ?_⟩
        replace hkp : Keep fp W2 w4 := ((Keep.refl fp W2).drew).trans' hkp
        replace hfn : FromNew fp fp' W2 := hfn
        have HF : Hid (∃ fpt', CluX (W.heap.size + 1) s Jx .ret k fpt' w4 ∧ Keep ((W.heap.size + 1) :: fp) W2 w4 ∧ FromNew ((W.heap.size + 1) :: fp) fpt' W2) :=
          Lib.hid ⟨_, ⟨rfl, fp', rfl, _, hyy.out.1, hj'⟩, hkp.mono (by intro x hx; simp [hx]), fun x hx => by
            rcases List.mem_cons.1 hx with h | h
            · exact .inl (by simp [h])
            · rcases hfn x h with h' | h'
              · exact .inl (by simp [h'])
              · exact .inr h'⟩
        clear hj' hkp hfn cf cb cy ff HFK J2 J3 J4 J5 J6 J7 hyy HJ
        gi_wp2
        exact HF.out
  case done =>
    rintro D fpt W2 hD ⟨fp, rfl, j1, j2, j3, j4, j5, j6, j7⟩ hK hDf
    rw [List.length_map, ← bl_clumps] at j1
    gi_wp2
    refine ⟨by simp, .inl ⟨_, _, rfl, run_takeDeferred hK, ?_⟩⟩
    exact ⟨_, results_none rfl _ _ _, rfl, .inl ⟨fp, by (try rw [List.length_map]); exact hJ _ fp W2 _ [D] j1 (keep_putObj _ _ _) (fun x hx => by simp at hx; subst hx; exact ⟨fun h => hDf (List.mem_cons_of_mem _ h), .inr (by have := HS1.out; omega)⟩)⟩⟩
  case stop =>
    rintro D c k fpt W2 hD hk ⟨rfl, fp, rfl, q, hq, hj⟩ hK hDf
    gi_wp2
    refine ⟨by simp, .inl ⟨_, _, rfl, run_takeDeferred hK, ?_⟩⟩
    exact ⟨_, results_none rfl _ _ _, rfl, .inr ⟨q, fp, by (try rw [List.length_map]); exact hq, hJx _ fp W2 _ [D] hj (keep_putObj _ _ _) (fun x hx => by simp at hx; subst hx; exact ⟨fun h => hDf (List.mem_cons_of_mem _ h), .inr (by have := HS1.out; omega)⟩)⟩⟩

/-- What Count's loop keeps: the count. -/
def CouI (w : World) (k : Nat) (fp : List Nat) (W : World) : Prop :=
  W.heap[w.heap.size]? = some (.cells #[.int .i64 k] 3 (0, 0)) ∧ fp = [w.heap.size] ∧ Keep [] w W
theorem CouI.steady {w W : World} (hW : w.heap.size ≤ W.heap.size) (k : Nat) : Steady [] W (CouI w k) := by
  rintro fp W1 W2 S ⟨h1, rfl, h6⟩ hk hS
  refine ⟨hk.at_ h1 (fun h => (hS _ h).1 (by simp)), rfl, h6.trans hk (fun x hx => .inr ?_)⟩
  rcases (hS x hx).2 with h | h
  · cases h
  · omega

end Go.Proofs.Ytodbjehggkdjaaa
namespace Go.Proofs.Ytodbjehggkdjaaa
open Go.RowKit
set_option linter.unusedVariables false
set_option linter.unusedSimpArgs false

theorem inL_step {r : Int} {l : List Int} {m : Nat} {a b : Int} (ha : l[2 * m]? = some a) (hb : l[2 * m + 1]? = some b) : inL r (l.drop (2 * m)) = ((decide (a ≤ r) && decide (r ≤ b)) || inL r (l.drop (2 * (m + 1)))) := by
  obtain ⟨h1, rfl⟩ := List.getElem?_eq_some_iff.1 ha
  obtain ⟨h2, rfl⟩ := List.getElem?_eq_some_iff.1 hb
  rw [List.drop_eq_getElem_cons h1, List.drop_eq_getElem_cons h2]
  rw [show 2 * m + 1 + 1 = 2 * (m + 1) by omega]
  rfl
theorem inL_short {r : Int} {l : List Int} {m : Nat} (h : l.length ≤ 2 * m + 1) : inL r (l.drop (2 * m)) = false := by
  have : (l.drop (2 * m)).length ≤ 1 := by rw [List.length_drop]; omega
  match hd : l.drop (2 * m), this with
  | [], _ => rfl
  | [x], _ => rfl
  | x :: y :: t, h => simp at h

set_option maxHeartbeats 4000000 in
theorem in_any (r : Int) (v : Value) (l : List Int) (w : World) (h : SlAt w v l.length (l.map (.int .i32))) (hl : l.length ≤ 1073741824) :
    Calls Try.prog 59 #[.int .i32 r, v] w fun e w' => e = .returned (.bool (inL r l)) ∧ w = w' := by
  obtain ⟨ad, cap, rfl, _, hc⟩ := h
  have HC := Lib.hid hc; clear hc
  obtain ⟨n, hn⟩ : ∃ n, n = l.length := ⟨_, rfl⟩
  rw [← hn] at HC hl ⊢
  have HN := Lib.hid hn; clear hn
  go_enter Try.func59, Try.ntmps59
  go_wp2
  go_loopw [5] (fun i W => ∃ m : Nat, 2 * m ≤ n + 1 ∧ i = .int .i64 (2 * m : Nat) ∧ w = W ∧ inL r (l.drop (2 * m)) = inL r l) (fun i _ => n + 2 - (intOf i).toNat)
  case atStart => exact ⟨0, by omega, rfl, rfl, by simp⟩
  case round =>
    obtain ⟨m, hm, rfl, rfl, hin⟩ := hrel
    have HIN := Lib.hid hin; clear hin
    by_cases hlt : 2 * m + 1 < n
    · obtain ⟨b, off, rfl, hcell⟩ := HC.out (by omega)
      have hl1 : 2 * m < l.length := by rw [← HN.out]; omega
      have hl2 : 2 * m + 1 < l.length := by rw [← HN.out]; omega
      have ha := List.getElem?_eq_getElem hl1
      have hb := List.getElem?_eq_getElem hl2
      have c0 := hcell (2 * m) (.int .i32 l[2 * m]) (by rw [List.getElem?_map, ha]; rfl)
      have c1 := hcell (2 * m + 1) (.int .i32 l[2 * m + 1]) (by rw [List.getElem?_map, hb]; rfl)
      have hst := inL_step (r := r) ha hb
      rw [HIN.out] at hst
      have HST := Lib.hid hst
      clear hcell ha hb hst
      generalize l[2 * m] = a at *
      generalize l[2 * m + 1] = c at *
      obtain ⟨k, hk⟩ : ∃ k, k = 2 * m := ⟨_, rfl⟩
      rw [← hk] at c0 c1 hlt hm ⊢
      have HK := Lib.hid hk
      clear hk hl1 hl2
      have hlt' : decide ((k : Int) + 1 < n) = true := by simp; omega
      by_cases h1 : a ≤ r
      · have h1d : decide (a ≤ r) = true := by simpa using h1
        by_cases h2 : r ≤ c
        · have h2d : decide (r ≤ c) = true := by simpa using h2
          go_wp2
          go_ret
          exact ⟨by rw [HST.out, h1d, h2d]; rfl, rfl⟩
        · have h2d : decide (r ≤ c) = false := by simpa using h2
          go_wp2
          exact ⟨⟨m + 1, by have := HK.out; omega, by have := HK.out; go_num, by trivial, by rw [HST.out, h1d, h2d]; rfl⟩, by simp [intOf]; omega⟩
      · have h1d : decide (a ≤ r) = false := by simpa using h1
        go_wp2
        exact ⟨⟨m + 1, by have := HK.out; omega, by have := HK.out; go_num, by trivial, by rw [HST.out, h1d]; rfl⟩, by simp [intOf]; omega⟩
    · have hfin : Hid (inL r l = false) := Lib.hid (by rw [← HIN.out]; exact inL_short (by rw [← HN.out]; omega))
      obtain ⟨k, hk⟩ : ∃ k, k = 2 * m := ⟨_, rfl⟩
      rw [← hk] at hlt hm ⊢
      clear hk
      have hlt' : decide ((k : Int) + 1 < n) = false := by simp; omega
      go_wp2
      go_ret
      exact ⟨by rw [hfin.out]; rfl, rfl⟩
theorem in_lit (r : Int) (l : List Int) (w : World) (hl : l.length ≤ 1073741824) :
    Calls Try.prog 59 #[.int .i32 r, .slice (some ⟨w.heap.size, 0, none⟩) l.length l.length] (w.alloc (.cells (l.map (.int .i32)).toArray 21)) fun e w' => e = .returned (.bool (inL r l)) ∧ Keep [] w w' := by
  refine (in_any r _ l _ ⟨_, _, rfl, ⟨fun h => by rw [List.eq_nil_of_length_eq_zero h]; rfl, fun h => by cases h⟩, fun _ => ⟨_, _, rfl, fun i u hu => ?_⟩⟩ hl).mono fun e w' ⟨he, hw⟩ => ⟨he, by subst hw; exact (Keep.refl _ _).alloc _⟩
  rw [Nat.zero_add, cell_of_block (heap_alloc_new w _)]
  simpa using hu

set_option maxRecDepth 100000 in
set_option maxHeartbeats 8000000 in
theorem rclass_any (r : Int) (w : World) (hr0 : -2147483648 ≤ r) (hr1 : r ≤ 2147483647) :
    Calls Try.prog 52 #[.int .i32 r] w fun e w' => e = .returned (.int .i64 (cls r)) ∧ Keep [] w w' := by
  have HR := Lib.hid (cls_rcls r).symm
  unfold rcls at HR
  have IgCtl : Hid (∀ W : World, Calls Try.prog 59 #[.int .i32 r, .slice (some ⟨W.heap.size, 0, none⟩) 6 6] (W.alloc (.cells #[.int .i32 0, .int .i32 31, .int .i32 127, .int .i32 159, .int .i32 8232, .int .i32 8233] 21)) fun e w' => e = .returned (.bool (inL r gCtl)) ∧ Keep [] W w') := Lib.hid (fun W => in_lit r gCtl W (by decide))
  obtain ⟨bgCtl, hb⟩ : ∃ b, b = inL r gCtl := ⟨_, rfl⟩
  rw [← hb] at HR IgCtl
  clear hb
  have IgMark : Hid (∀ W : World, Calls Try.prog 59 #[.int .i32 r, .slice (some ⟨W.heap.size, 0, none⟩) 30 30] (W.alloc (.cells #[.int .i32 768, .int .i32 879, .int .i32 1155, .int .i32 1161, .int .i32 1425, .int .i32 1469, .int .i32 1611, .int .i32 1631, .int .i32 6832, .int .i32 6911, .int .i32 7616, .int .i32 7679, .int .i32 8204, .int .i32 8204, .int .i32 8400, .int .i32 8447, .int .i32 12330, .int .i32 12335, .int .i32 12441, .int .i32 12442, .int .i32 65024, .int .i32 65039, .int .i32 65056, .int .i32 65071, .int .i32 127995, .int .i32 127999, .int .i32 917536, .int .i32 917631, .int .i32 917760, .int .i32 917999] 21)) fun e w' => e = .returned (.bool (inL r gMark)) ∧ Keep [] W w') := Lib.hid (fun W => in_lit r gMark W (by decide))
  obtain ⟨bgMark, hb⟩ : ∃ b, b = inL r gMark := ⟨_, rfl⟩
  rw [← hb] at HR IgMark
  clear hb
  have IgFlag : Hid (∀ W : World, Calls Try.prog 59 #[.int .i32 r, .slice (some ⟨W.heap.size, 0, none⟩) 2 2] (W.alloc (.cells #[.int .i32 127462, .int .i32 127487] 21)) fun e w' => e = .returned (.bool (inL r gFlag)) ∧ Keep [] W w') := Lib.hid (fun W => in_lit r gFlag W (by decide))
  obtain ⟨bgFlag, hb⟩ : ∃ b, b = inL r gFlag := ⟨_, rfl⟩
  rw [← hb] at HR IgFlag
  clear hb
  have IgL : Hid (∀ W : World, Calls Try.prog 59 #[.int .i32 r, .slice (some ⟨W.heap.size, 0, none⟩) 4 4] (W.alloc (.cells #[.int .i32 4352, .int .i32 4447, .int .i32 43360, .int .i32 43388] 21)) fun e w' => e = .returned (.bool (inL r gL)) ∧ Keep [] W w') := Lib.hid (fun W => in_lit r gL W (by decide))
  obtain ⟨bgL, hb⟩ : ∃ b, b = inL r gL := ⟨_, rfl⟩
  rw [← hb] at HR IgL
  clear hb
  have IgV : Hid (∀ W : World, Calls Try.prog 59 #[.int .i32 r, .slice (some ⟨W.heap.size, 0, none⟩) 4 4] (W.alloc (.cells #[.int .i32 4448, .int .i32 4519, .int .i32 55216, .int .i32 55238] 21)) fun e w' => e = .returned (.bool (inL r gV)) ∧ Keep [] W w') := Lib.hid (fun W => in_lit r gV W (by decide))
  obtain ⟨bgV, hb⟩ : ∃ b, b = inL r gV := ⟨_, rfl⟩
  rw [← hb] at HR IgV
  clear hb
  have IgT : Hid (∀ W : World, Calls Try.prog 59 #[.int .i32 r, .slice (some ⟨W.heap.size, 0, none⟩) 4 4] (W.alloc (.cells #[.int .i32 4520, .int .i32 4607, .int .i32 55243, .int .i32 55291] 21)) fun e w' => e = .returned (.bool (inL r gT)) ∧ Keep [] W w') := Lib.hid (fun W => in_lit r gT W (by decide))
  obtain ⟨bgT, hb⟩ : ∃ b, b = inL r gT := ⟨_, rfl⟩
  rw [← hb] at HR IgT
  clear hb
  have IgPic : Hid (∀ W : World, Calls Try.prog 59 #[.int .i32 r, .slice (some ⟨W.heap.size, 0, none⟩) 32 32] (W.alloc (.cells #[.int .i32 169, .int .i32 169, .int .i32 174, .int .i32 174, .int .i32 8252, .int .i32 8252, .int .i32 8265, .int .i32 8265, .int .i32 8482, .int .i32 8482, .int .i32 8505, .int .i32 8505, .int .i32 8592, .int .i32 8703, .int .i32 8960, .int .i32 9215, .int .i32 9728, .int .i32 10175, .int .i32 11008, .int .i32 11263, .int .i32 12336, .int .i32 12336, .int .i32 12349, .int .i32 12349, .int .i32 12951, .int .i32 12951, .int .i32 12953, .int .i32 12953, .int .i32 126976, .int .i32 127461, .int .i32 127488, .int .i32 129791] 21)) fun e w' => e = .returned (.bool (inL r gPic)) ∧ Keep [] W w') := Lib.hid (fun W => in_lit r gPic W (by decide))
  obtain ⟨bgPic, hb⟩ : ∃ b, b = inL r gPic := ⟨_, rfl⟩
  rw [← hb] at HR IgPic
  clear hb
  go_enter Try.func52, Try.ntmps52
  by_cases h1 : r = 13
  · have h1d : (r == 13) = true := by simpa using h1
    have Hh1 := Lib.hid h1; clear h1
    go_wp2
    go_ret
    exact ⟨by rw [HR.out, if_pos Hh1.out]; rfl, Keep.refl _ _⟩
  · have h1d : (r == 13) = false := by simpa using h1
    have Hh1 := Lib.hid h1; clear h1
    by_cases h2 : r = 10
    · have h2d : (r == 10) = true := by simpa using h2
      have Hh2 := Lib.hid h2; clear h2
      go_wp2
      go_ret
      exact ⟨by rw [HR.out, if_neg (Hh1.out), if_pos Hh2.out]; rfl, Keep.refl _ _⟩
    · have h2d : (r == 10) = false := by simpa using h2
      have Hh2 := Lib.hid h2; clear h2
      go_wp2_with fail
      refine (IgCtl.out _).mono ?_
      rintro e w1 ⟨rfl, hk⟩
      have K1 := Lib.hid hk; clear hk
      cases bgCtl with
      | true =>
        go_wp2
        go_ret
        exact ⟨by rw [HR.out, if_neg (Hh1.out), if_neg (Hh2.out), if_pos trivial]; rfl, K1.out⟩
      | false =>
        by_cases h4 : r = 8205
        · have h4d : (r == 8205) = true := by simpa using h4
          have Hh4 := Lib.hid h4; clear h4
          go_wp2
          go_ret
          exact ⟨by rw [HR.out, if_neg (Hh1.out), if_neg (Hh2.out), if_neg (Bool.false_ne_true), if_pos Hh4.out]; rfl, K1.out⟩
        · have h4d : (r == 8205) = false := by simpa using h4
          have Hh4 := Lib.hid h4; clear h4
          go_wp2_with fail
          refine (IgMark.out _).mono ?_
          rintro e w2 ⟨rfl, hk⟩
          have K2 := Lib.hid hk; clear hk
          cases bgMark with
          | true =>
            go_wp2
            go_ret
            exact ⟨by rw [HR.out, if_neg (Hh1.out), if_neg (Hh2.out), if_neg (Bool.false_ne_true), if_neg (Hh4.out), if_pos trivial]; rfl, (K1.out).trans0 K2.out⟩
          | false =>
            go_wp2_with fail
            refine (IgFlag.out _).mono ?_
            rintro e w3 ⟨rfl, hk⟩
            have K3 := Lib.hid hk; clear hk
            cases bgFlag with
            | true =>
              go_wp2
              go_ret
              exact ⟨by rw [HR.out, if_neg (Hh1.out), if_neg (Hh2.out), if_neg (Bool.false_ne_true), if_neg (Hh4.out), if_neg (Bool.false_ne_true), if_pos trivial]; rfl, ((K1.out).trans0 K2.out).trans0 K3.out⟩
            | false =>
              go_wp2_with fail
              refine (IgL.out _).mono ?_
              rintro e w4 ⟨rfl, hk⟩
              have K4 := Lib.hid hk; clear hk
              cases bgL with
              | true =>
                go_wp2
                go_ret
                exact ⟨by rw [HR.out, if_neg (Hh1.out), if_neg (Hh2.out), if_neg (Bool.false_ne_true), if_neg (Hh4.out), if_neg (Bool.false_ne_true), if_neg (Bool.false_ne_true), if_pos trivial]; rfl, (((K1.out).trans0 K2.out).trans0 K3.out).trans0 K4.out⟩
              | false =>
                go_wp2_with fail
                refine (IgV.out _).mono ?_
                rintro e w5 ⟨rfl, hk⟩
                have K5 := Lib.hid hk; clear hk
                cases bgV with
                | true =>
                  go_wp2
                  go_ret
                  exact ⟨by rw [HR.out, if_neg (Hh1.out), if_neg (Hh2.out), if_neg (Bool.false_ne_true), if_neg (Hh4.out), if_neg (Bool.false_ne_true), if_neg (Bool.false_ne_true), if_neg (Bool.false_ne_true), if_pos trivial]; rfl, ((((K1.out).trans0 K2.out).trans0 K3.out).trans0 K4.out).trans0 K5.out⟩
                | false =>
                  go_wp2_with fail
                  refine (IgT.out _).mono ?_
                  rintro e w6 ⟨rfl, hk⟩
                  have K6 := Lib.hid hk; clear hk
                  cases bgT with
                  | true =>
                    go_wp2
                    go_ret
                    exact ⟨by rw [HR.out, if_neg (Hh1.out), if_neg (Hh2.out), if_neg (Bool.false_ne_true), if_neg (Hh4.out), if_neg (Bool.false_ne_true), if_neg (Bool.false_ne_true), if_neg (Bool.false_ne_true), if_neg (Bool.false_ne_true), if_pos trivial]; rfl, (((((K1.out).trans0 K2.out).trans0 K3.out).trans0 K4.out).trans0 K5.out).trans0 K6.out⟩
                  | false =>
                    by_cases h5 : 44032 ≤ r ∧ r ≤ 55203
                    · have h5a : decide (44032 ≤ r) = true := by simpa using h5.1
                      have h5b : decide (r ≤ 55203) = true := by simpa using h5.2
                      by_cases h6 : (r - 44032) % 28 = 0
                      · have h6d : ((r - 44032) % 28 == 0) = true := by simpa using h6
                        have H5 := Lib.hid h5; have H6 := Lib.hid h6; clear h6
                        go_wp2
                        go_ret
                        exact ⟨by rw [HR.out, if_neg (Hh1.out), if_neg (Hh2.out), if_neg (Bool.false_ne_true), if_neg (Hh4.out), if_neg (Bool.false_ne_true), if_neg (Bool.false_ne_true), if_neg (Bool.false_ne_true), if_neg (Bool.false_ne_true), if_neg (Bool.false_ne_true), if_pos H5.out, if_pos H6.out]; rfl, (((((K1.out).trans0 K2.out).trans0 K3.out).trans0 K4.out).trans0 K5.out).trans0 K6.out⟩
                      · have h6d : ((r - 44032) % 28 == 0) = false := by simpa using h6
                        have H5 := Lib.hid h5; have H6 := Lib.hid h6; clear h6
                        go_wp2
                        go_ret
                        exact ⟨by rw [HR.out, if_neg (Hh1.out), if_neg (Hh2.out), if_neg (Bool.false_ne_true), if_neg (Hh4.out), if_neg (Bool.false_ne_true), if_neg (Bool.false_ne_true), if_neg (Bool.false_ne_true), if_neg (Bool.false_ne_true), if_neg (Bool.false_ne_true), if_pos H5.out, if_neg H6.out]; rfl, (((((K1.out).trans0 K2.out).trans0 K3.out).trans0 K4.out).trans0 K5.out).trans0 K6.out⟩
                    have H5 := Lib.hid h5; clear h5
                    by_cases h7 : 44032 ≤ r
                    · have h7d : decide (44032 ≤ r) = true := by simpa using h7
                      have h8d : decide (r ≤ 55203) = false := by have := H5.out; simp; omega
                      go_wp2_with fail
                      refine (IgPic.out _).mono ?_
                      rintro e w7 ⟨rfl, hk⟩
                      have K7 := Lib.hid hk; clear hk
                      cases bgPic with
                      | true =>
                        go_wp2
                        go_ret
                        exact ⟨by rw [HR.out, if_neg (Hh1.out), if_neg (Hh2.out), if_neg (Bool.false_ne_true), if_neg (Hh4.out), if_neg (Bool.false_ne_true), if_neg (Bool.false_ne_true), if_neg (Bool.false_ne_true), if_neg (Bool.false_ne_true), if_neg (Bool.false_ne_true), if_neg (H5.out), if_pos trivial]; rfl, ((((((K1.out).trans0 K2.out).trans0 K3.out).trans0 K4.out).trans0 K5.out).trans0 K6.out).trans0 K7.out⟩
                      | false =>
                        go_wp2
                        go_ret
                        exact ⟨by rw [HR.out, if_neg (Hh1.out), if_neg (Hh2.out), if_neg (Bool.false_ne_true), if_neg (Hh4.out), if_neg (Bool.false_ne_true), if_neg (Bool.false_ne_true), if_neg (Bool.false_ne_true), if_neg (Bool.false_ne_true), if_neg (Bool.false_ne_true), if_neg (H5.out), if_neg (Bool.false_ne_true)]; rfl, ((((((K1.out).trans0 K2.out).trans0 K3.out).trans0 K4.out).trans0 K5.out).trans0 K6.out).trans0 K7.out⟩
                    · have h7d : decide (44032 ≤ r) = false := by simpa using h7
                      go_wp2_with fail
                      refine (IgPic.out _).mono ?_
                      rintro e w7 ⟨rfl, hk⟩
                      have K7 := Lib.hid hk; clear hk
                      cases bgPic with
                      | true =>
                        go_wp2
                        go_ret
                        exact ⟨by rw [HR.out, if_neg (Hh1.out), if_neg (Hh2.out), if_neg (Bool.false_ne_true), if_neg (Hh4.out), if_neg (Bool.false_ne_true), if_neg (Bool.false_ne_true), if_neg (Bool.false_ne_true), if_neg (Bool.false_ne_true), if_neg (Bool.false_ne_true), if_neg (H5.out), if_pos trivial]; rfl, ((((((K1.out).trans0 K2.out).trans0 K3.out).trans0 K4.out).trans0 K5.out).trans0 K6.out).trans0 K7.out⟩
                      | false =>
                        go_wp2
                        go_ret
                        exact ⟨by rw [HR.out, if_neg (Hh1.out), if_neg (Hh2.out), if_neg (Bool.false_ne_true), if_neg (Hh4.out), if_neg (Bool.false_ne_true), if_neg (Bool.false_ne_true), if_neg (Bool.false_ne_true), if_neg (Bool.false_ne_true), if_neg (Bool.false_ne_true), if_neg (H5.out), if_neg (Bool.false_ne_true)]; rfl, ((((((K1.out).trans0 K2.out).trans0 K3.out).trans0 K4.out).trans0 K5.out).trans0 K6.out).trans0 K7.out⟩
end Go.Proofs.Ytodbjehggkdjaaa
