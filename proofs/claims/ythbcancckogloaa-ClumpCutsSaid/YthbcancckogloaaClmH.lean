/-
  Walks of All's iterator, Count.
-/
import Derived.Test.YthbcancckogloaaClmG
import Derived.Test.YthbcancckogloaaStillIn
namespace Go.Proofs.Ythbcancckogloaa
open Go.RowKit Go.Shelf
set_option linter.unusedVariables false
set_option linter.unusedSimpArgs false
attribute [local go_sem] Oper.semAt_some

/-- What All hands on. -/
def cluArgs (s : ByteArray) (q : Nat × Nat) : Array Value := #[.int .i64 q.1, .string (s.extract q.1 q.2)]
theorem brk_head (s : ByteArray) : ∃ l, brk s = 0 :: l := by
  unfold brk
  split
  · exact ⟨[], rfl⟩
  · rename_i h
    rw [cut_step (by omega), List.filter_cons, if_pos (isb_zero s)]
    exact ⟨_, rfl⟩
theorem bl_clumps {s : ByteArray} : (clumps s).length = (bl s).length - 1 := by
  unfold clumps bl
  rw [prs_len]
  split
  · rename_i h; unfold brk; rw [if_pos h]; rfl
  · rfl
theorem bl_len_le (s : ByteArray) : (bl s).length ≤ s.size + 1 := by
  have h1 := cntB_all s
  have h2 : cntB s (cut s 0).length ≤ (cut s 0).length := by unfold cntB; rw [List.take_length]; exact List.length_filter_le _ _
  have h3 := cut_len_le s 0 (Nat.zero_le _)
  split at h1 <;> omega
theorem bl_pair {s : ByteArray} {k a b : Nat} (h1 : (bl s)[k]? = some a) (h2 : (bl s)[k + 1]? = some b) : (clumps s)[k]? = some (a, b) := by
  have hs : s.size ≠ 0 := fun h => by unfold bl at h1; rw [if_pos h] at h1; simp at h1
  have e : bl s = brk s := by unfold bl; rw [if_neg hs]
  rw [e] at h1 h2
  exact prs_get _ _ _ _ h1 h2
theorem bl_zero {s : ByteArray} {p : Nat} (h : (bl s)[0]? = some p) : p = 0 := by
  unfold bl at h
  split at h
  · simp at h
  · obtain ⟨l, hl⟩ := brk_head s
    rw [hl] at h; simpa using h.symm
theorem bl_rise {s : ByteArray} {k a b : Nat} (h1 : (bl s)[k]? = some a) (h2 : (bl s)[k + 1]? = some b) : a < b ∧ b ≤ s.size := by
  have hs : s.size ≠ 0 := fun h => by unfold bl at h1; rw [if_pos h] at h1; simp at h1
  have e : bl s = brk s := by unfold bl; rw [if_neg hs]
  rw [e] at h1 h2
  refine ⟨?_, brk_le (List.mem_of_getElem? h2)⟩
  have := List.pairwise_iff_getElem.1 (brk_sorted s)
  obtain ⟨i1, rfl⟩ := List.getElem?_eq_some_iff.1 h1
  obtain ⟨i2, rfl⟩ := List.getElem?_eq_some_iff.1 h2
  exact this _ _ i1 i2 (by omega)

theorem slice_str (s : ByteArray) {a p : Nat} (h1 : a ≤ p) (h2 : p ≤ s.size) (w : World) : (Instr.slice 9 (.string s) (some (.int .i64 a)) (some (.int .i64 p)) none).run Try.prog w = .ok (.string (s.extract a p)) w := by
  rw [run_slice_string_if _ _ _ _ _ _ _ Try.underlying9, if_pos (by omega), if_pos (by omega)]; rfl
/-- Where the clump begins that is gathered ahead of the k-th break. -/
def froB (s : ByteArray) (k : Nat) : Nat := if k = 0 then 0 else (bl s)[k - 1]?.getD 0
/-- Between the rounds over the breaks. -/
def CluI (yb b fb : Nat) (y : Value) (s : ByteArray) (J : Nat → List Nat → World → Prop) (k : Nat) (fpt : List Nat) (W : World) : Prop :=
  ∃ fp, fpt = fb :: fp ∧ J (k - 1) fp W ∧ W.heap[yb]? = some (.cells #[y] 36 (0, 0)) ∧ TxtNeed b s W ∧ W.heap[fb]? = some (.cells #[.int .i64 (froB s k : Nat)] 3 (0, 0)) ∧ yb ∉ fp ∧ b ∉ fp ∧ fb ∉ fp
def CluX (fb : Nat) (s : ByteArray) (Jx : Nat → List Nat → World → Prop) (c : Code) (k : Nat) (fpt : List Nat) (W : World) : Prop :=
  c = .ret ∧ ∃ fp, fpt = fb :: fp ∧ ∃ q, q < (clumps s).length ∧ Jx q fp W

set_option maxHeartbeats 8000000 in
theorem clu1_iters (b : Nat) (s : ByteArray) (hz : s.size ≤ 1073741824) :
    ItersF Try.prog 36 #[.pointer (some ⟨b, 0, none⟩)] ((clumps s).map (cluArgs s)) [] [b] (TxtNeed b s) := by
  rintro _ J Jx fp W ⟨yf, yl, rfl⟩ hN hown hrd hJ hJx hY hfpl h0
  have hbW := (hrd b (by simp)).1
  have hbf := (hrd b (by simp)).2
  have hc0 : W.cell? ⟨b, 0, none⟩ = some (.string s) := cell_of_one hN
  clear hown hrd
  have HYY := Lib.hid hY; clear hY
  have HN := Lib.hid hN; clear hN
  have hblen := bl_len_le s
  refine (callsIn_wide (n := 0)).1 ?_
  refine callsIn_of_wp_marks Try.func36 rfl trivial ?_
  simp only [Try.ntmps36, List.size_toArray, List.length_cons, List.length_nil, Nat.reduceAdd, Nat.reduceSub, Array.replicate_succ, Array.replicate_zero, List.push_toArray, List.append_toArray, List.nil_append, List.cons_append]
  gi_wp2_with fail
  refine ⟨trivial, rfl, ?_⟩
  refine (callsIn_wide.2 (breaks_any s _)).mono ?_
  rintro e w1 ⟨rfl, hw1⟩
  have hk1 : Keep [] W w1 := by rw [hw1]; exact (((Keep.refl _ _).alloc _).alloc _).alloc _
  have hs1 : w1.heap.size = W.heap.size + 3 := by rw [hw1]; simp
  have hb0 : w1.heap[W.heap.size]? = some (.cells #[.func yf #[] yl] 36 (0, 0)) := by
    rw [hw1, Below.heap_alloc _ _ _ (by simp; omega), Below.heap_alloc _ _ _ (by simp)]; exact World.alloc_heap_new W _
  have hb1 : w1.heap[W.heap.size + 1]? = some (.cells #[.int .i64 0] 3 (0, 0)) := by
    rw [hw1, Below.heap_alloc _ _ _ (by simp)]
    have := World.alloc_heap_new (W.alloc (.cells #[.func yf #[] yl] 36)) (.cells #[.int .i64 0] 3); rwa [World.size_alloc] at this
  have hb2 : w1.heap[W.heap.size + 2]? = some (.cells #[.string s] 9 (0, 0)) := by
    rw [hw1]
    have := World.alloc_heap_new ((W.alloc (.cells #[.func yf #[] yl] 36)).alloc (.cells #[.int .i64 0] 3)) (.cells #[.string s] 9); rwa [World.size_alloc, World.size_alloc] at this
  rw [World.size_alloc, World.size_alloc]
  have HS1 := Lib.hid hs1; have HB0 := Lib.hid hb0; have HB1 := Lib.hid hb1; have HB2 := Lib.hid hb2; have HK1 := Lib.hid hk1
  have HN1 := Lib.hid (HN.out.keep hk1 (by simp))
  have HJ0 := Lib.hid (hJ 0 fp W w1 [] h0 hk1 (fun c hc => by cases hc))
  clear hw1 hs1 hb0 hb1 hb2 hk1
  gi_wp2_with fail
  have hiI : ∀ k, Steady [] w1 (CluI W.heap.size b (W.heap.size + 1) (.func yf #[] yl) s J k) := fun k => by
    rintro fp W1 W2 S ⟨fp, rfl, j1, j2, j3, j4, j5, j6, j7⟩ hk hS
    have hge : ∀ x ∈ S, W.heap.size + 3 ≤ x := fun x hx => by
      rcases (hS x hx).2 with h | h
      · cases h
      · have := HS1.out; omega
    exact ⟨fp, rfl, hJ _ fp W1 W2 S j1 hk (fun x hx => ⟨fun h => (hS x hx).1 (List.mem_cons_of_mem _ h), .inr (by have := hge x hx; omega)⟩), hk.at_ j2 (fun h => by have := hge _ h; omega), j3.keep hk (fun h => by have := hge _ h; omega), hk.at_ j4 (fun h => by have := hge _ h; omega), j5, j6, j7⟩
  have hiX : ∀ c k, Steady [] w1 (CluX (W.heap.size + 1) s Jx c k) := fun c k => by
    rintro fp W1 W2 S ⟨j1, fp, rfl, q, hq, j2⟩ hk hS
    have hge : ∀ x ∈ S, W.heap.size + 3 ≤ x := fun x hx => by
      rcases (hS x hx).2 with h | h
      · cases h
      · have := HS1.out; omega
    exact ⟨j1, fp, rfl, q, hq, hJx _ fp W1 W2 S j2 hk (fun x hx => ⟨fun h => (hS x hx).1 (List.mem_cons_of_mem _ h), .inr (by have := hge x hx; omega)⟩)⟩
  refine wpIn_rangeD (gf := 47) (lb := #[.pointer (some ⟨W.heap.size + 2, 0, none⟩)]) rfl (enters_of Try.func47 (by kernel_rfl) rfl)
    (breaks1_iters (W.heap.size + 2) s hz) (fun W hk => TxtNeed.keep HB2.out hk (by simp)) (by simp [brkArgs]) ((W.heap.size + 1) :: fp)
    (fun b hb => by cases hb) (fun c hc => by simp at hc; subst hc; have := HS1.out; exact ⟨by omega, fun h => by rcases List.mem_cons.1 h with h | h; omega; have := hfpl _ h; omega⟩) (fun c hc => by have := HS1.out; rcases List.mem_cons.1 hc with h | h; omega; have := hfpl _ h; omega)
    (CluI W.heap.size b (W.heap.size + 1) (.func yf #[] yl) s J) (CluX (W.heap.size + 1) s Jx) hiI hiX
    ⟨fp, rfl, HJ0.out, HB0.out, HN1.out, HB1.out, fun h => by have := hfpl _ h; omega, hbf, fun h => by have := hfpl _ h; omega⟩
    (fun k => { tmps := #[.func yf #[] yl, .pointer (some ⟨b, 0, none⟩), .pointer (some ⟨W.heap.size, 0, none⟩), .pointer (some ⟨W.heap.size + 1, 0, none⟩), .int .i64 ((bl s)[k]?.getD 0 : Nat), .string s, .func (.func 47) #[] #[.pointer (some ⟨W.heap.size + 2, 0, none⟩)], .int .i64 ((bl s)[k]?.getD 0 : Nat), undef, undef, undef, undef, undef, undef, undef, undef, undef, undef, undef], defers := [] }) ?assign ?body ?done ?stop
  case assign =>
    intro l k hk W K hK
    rw [List.length_map] at hk
    have hk2 := List.getElem?_eq_getElem hk
    rw [List.getElem_map, show (bl s)[k] = (bl s)[k]?.getD 0 by rw [hk2]; rfl]
    clear hk2
    have hpa : ∀ i, brkArgs i = #[.int .i64 i] := fun _ => rfl
    rw [hpa]
    clear hpa
    generalize (bl s)[k]?.getD 0 = q at hK ⊢
    gi_wp2
    exact hK
  case body =>
    rintro l k hk fpt W2 ⟨fp, rfl, j1, j2, j3, j4, j5, j6, j7⟩
    rw [List.length_map] at hk
    have hk2 := List.getElem?_eq_getElem hk
    have hq : (bl s)[k]?.getD 0 = (bl s)[k] := by rw [hk2]; rfl
    rw [hq]
    clear hq
    generalize (bl s)[k] = p at *
    have hbW2 := lt_of_block j3
    have hyW2 := lt_of_block j2
    have hfW2 := lt_of_block j4
    have cb := cell_of_one j3
    have cy := cell_of_one j2
    have cf := cell_of_one j4
    have ff := free_of_one j4
    have HJ := Lib.hid hJ
    have hfk : froB s (k + 1) = p := by unfold froB; rw [if_neg (by omega), Nat.add_sub_cancel, hk2]; rfl
    have HFK := Lib.hid hfk
    by_cases hk0 : k = 0
    · subst hk0
      have hp0 := bl_zero hk2
      have e0 : ((p : Int) == 0) = true := by simpa using hp0
      have hfr : froB s (0 + 1) = froB s 0 := by rw [hfk, hp0]; rfl
      have HF : Hid (∃ fpt', CluI W.heap.size b (W.heap.size + 1) (.func yf #[] yl) s J (0 + 1) fpt' W2 ∧ Keep ((W.heap.size + 1) :: fp) W2 W2 ∧ FromNew ((W.heap.size + 1) :: fp) fpt' W2) :=
        Lib.hid ⟨_, ⟨fp, rfl, j1, j2, j3, by rw [hfr]; exact j4, j5, j6, j7⟩, Keep.refl _ _, FromNew.refl _ _⟩
      clear j1 j2 j3 j4 hk2 hiI hiX hJ hJx hc0 hbf h0 hbW hfk hfr cb cy cf ff hp0 HFK
      gi_wp2
      exact HF.out
    · have hk1 : k - 1 + 1 = k := by omega
      have hkl : k - 1 < (bl s).length := by omega
      have ha2 := List.getElem?_eq_getElem hkl
      generalize hae : (bl s)[k - 1] = a at *
      have hcl := bl_pair ha2 (by rw [hk1]; exact hk2)
      obtain ⟨hap, hps⟩ := bl_rise ha2 (by rw [hk1]; exact hk2)
      have hfa : froB s k = a := by unfold froB; rw [if_neg hk0, ha2]; rfl
      rw [hfa] at j4 cf
      obtain ⟨hcll, hcle⟩ := List.getElem?_eq_some_iff.1 hcl
      have hyy : Hid (k - 1 < (clumps s).length ∧ ∀ W3, Keep [] W2 W3 → CallV Try.prog (.func yf #[] yl) #[.int .i64 a, .string (s.extract a p)] W3 (RoundPost J Jx (k - 1) fp W3)) := by
        refine Lib.hid ⟨hcll, fun W3 hk3 => ?_⟩
        have := HYY.out (k - 1) (by rw [List.length_map]; exact hcll) fp W3 (hJ _ fp W2 W3 [] j1 hk3 (fun c hc => by cases hc))
        rw [List.getElem_map, hcle] at this
        exact this
      have e0 : ((p : Int) == 0) = false := by simp; omega
      have d1 : decide (p < a) = false := by simp; omega
      have d2 : decide (s.size < p) = false := by simp; omega
      have J2 := Lib.hid j2; have J3 := Lib.hid j3; have J4 := Lib.hid j4; have J5 := Lib.hid j5; have J6 := Lib.hid j6; have J7 := Lib.hid j7; have HK1 := Lib.hid hk1
      have hsl := fun W => slice_str s (Nat.le_of_lt hap) hps W
      clear j1 j2 j3 j4 hk2 hiI hiX hJ hJx hc0 hbf h0 hbW hfk hfa hcll hcle hcl ha2 hae hkl hk1
      gi_wp2_with fail
      refine wpIn_round_still_tail 6 (by kernel_rfl) (by kernel_rfl) ?_
      simp only [List.take_succ_cons, List.take_zero, List.drop_succ_cons, List.drop_zero]
      repeat still_step
      refine wpStill_nil ?_
      clear hsl
      refine wpListIn_callV (.inr ⟨l, rfl⟩) rfl (.tmp 10) [.tmp 11, .tmp 15] #[3, 9] rfl (.func yf #[] yl) rfl [.int .i64 a, .string (s.extract a p)] rfl _ (hyy.out.2 _ ((Keep.refl _ _).drew)) ?_
      rintro e w4 (⟨rfl, fp', hj', hkp, hfn⟩ | ⟨rfl, fp', hj', hkp, hfn⟩)
      · refine ⟨_, rfl, ?_⟩
        rw [HK1.out] at hj'
        replace hkp : Keep fp W2 w4 := ((Keep.refl fp W2).drew).trans' hkp
        replace hfn : FromNew fp fp' W2 := hfn
        have hnot : ∀ x, x < W2.heap.size → x ∉ fp → x ∉ fp' := fun x hx hn h => by
          rcases hfn _ h with h' | h'
          · exact hn h'
          · omega
        have g1 := hkp.at_ J4.out J7.out
        have cf4 := cell_of_one g1
        have ff4 := free_of_one g1
        have hks : Keep [W.heap.size + 1] w4 (w4.setCell ⟨W.heap.size + 1, 0, none⟩ (.int .i64 p)) := (Keep.refl _ _).setCell (.inl (by simp)) _
        have HF : Hid (∃ fpt', CluI W.heap.size b (W.heap.size + 1) (.func yf #[] yl) s J (k + 1) fpt' (w4.setCell ⟨W.heap.size + 1, 0, none⟩ (.int .i64 p)) ∧ Keep ((W.heap.size + 1) :: fp) W2 (w4.setCell ⟨W.heap.size + 1, 0, none⟩ (.int .i64 p)) ∧ FromNew ((W.heap.size + 1) :: fp) fpt' W2) := by
          refine Lib.hid ⟨_, ⟨fp', rfl, ?_, ?_, ?_, ?_, hnot _ hyW2 J5.out, hnot _ hbW2 J6.out, hnot _ hfW2 J7.out⟩, ?_, ?_⟩
          · rw [Nat.add_sub_cancel]
            exact HJ.out _ fp' w4 _ _ hj' hks (fun x hx => by simp at hx; subst hx; exact ⟨hnot _ hfW2 J7.out, .inr (by omega)⟩)
          · exact hks.at_ (hkp.at_ J2.out J5.out) (by simp)
          · exact (J3.out.keep hkp J6.out).keep hks (by simp; intro h; have := J3.out; rw [h] at this; have h4 := J4.out; rw [this] at h4; simp at h4)
          · rw [HFK.out]; exact one_setCell g1
          · exact (hkp.mono (by intro x hx; simp [hx])).trans hks (by intro x hx; simp at hx; simp [hx])
          · intro x hx
            rcases List.mem_cons.1 hx with h | h
            · exact .inl (by simp [h])
            · rcases hfn x h with h' | h'
              · exact .inl (by simp [h'])
              · exact .inr h'
        clear hj' hkp hfn g1 hks hnot cf cb cy ff HFK J2 J3 J4 J5 J6 J7 hyy HJ
        gi_wp2
        exact HF.out
      · refine ⟨_, rfl, ?_⟩
        replace hkp : Keep fp W2 w4 := ((Keep.refl fp W2).drew).trans' hkp
        replace hfn : FromNew fp fp' W2 := hfn
        have HF : Hid (∃ fpt', CluX (W.heap.size + 1) s Jx .ret k fpt' w4 ∧ Keep ((W.heap.size + 1) :: fp) W2 w4 ∧ FromNew ((W.heap.size + 1) :: fp) fpt' W2) :=
          Lib.hid ⟨_, ⟨rfl, fp', rfl, _, hyy.out.1, hj'⟩, hkp.mono (by intro x hx; simp [hx]), fun x hx => by
            rcases List.mem_cons.1 hx with h | h
            · exact .inl (by simp [h])
            · rcases hfn x h with h' | h'
              · exact .inl (by simp [h'])
              · exact .inr h'⟩
        clear hj' hkp hfn cf cb cy ff HFK J2 J3 J4 J5 J6 J7 hyy HJ
        gi_wp2
        exact HF.out
  case done =>
    rintro D fpt W2 hD ⟨fp, rfl, j1, j2, j3, j4, j5, j6, j7⟩ hK hDf
    rw [List.length_map, ← bl_clumps] at j1
    gi_wp2
    refine ⟨by simp, .inl ⟨_, _, rfl, run_takeDeferred hK, ?_⟩⟩
    exact ⟨_, results_none rfl _ _ _, rfl, .inl ⟨fp, by (try rw [List.length_map]); exact hJ _ fp W2 _ [D] j1 (keep_putObj _ _ _) (fun x hx => by simp at hx; subst hx; exact ⟨fun h => hDf (List.mem_cons_of_mem _ h), .inr (by have := HS1.out; omega)⟩)⟩⟩
  case stop =>
    rintro D c k fpt W2 hD hk ⟨rfl, fp, rfl, q, hq, hj⟩ hK hDf
    gi_wp2
    refine ⟨by simp, .inl ⟨_, _, rfl, run_takeDeferred hK, ?_⟩⟩
    exact ⟨_, results_none rfl _ _ _, rfl, .inr ⟨q, fp, by (try rw [List.length_map]); exact hq, hJx _ fp W2 _ [D] hj (keep_putObj _ _ _) (fun x hx => by simp at hx; subst hx; exact ⟨fun h => hDf (List.mem_cons_of_mem _ h), .inr (by have := HS1.out; omega)⟩)⟩⟩

/-- What Count's loop keeps: the count. -/
def CouI (w : World) (k : Nat) (fp : List Nat) (W : World) : Prop :=
  W.heap[w.heap.size]? = some (.cells #[.int .i64 k] 3 (0, 0)) ∧ fp = [w.heap.size] ∧ Keep [] w W
theorem CouI.steady {w W : World} (hW : w.heap.size ≤ W.heap.size) (k : Nat) : Steady [] W (CouI w k) := by
  rintro fp W1 W2 S ⟨h1, rfl, h6⟩ hk hS
  refine ⟨hk.at_ h1 (fun h => (hS _ h).1 (by simp)), rfl, h6.trans hk (fun x hx => .inr ?_)⟩
  rcases (hS x hx).2 with h | h
  · cases h
  · omega

set_option maxHeartbeats 8000000 in
theorem ccount_any (s : ByteArray) (w : World) (hz : s.size ≤ 1073741824) :
    Calls Try.prog 17 #[.string s] w fun e w' => e = .returned (.int .i64 ((clumps s).length : Nat)) ∧ Keep [] w w' := by
  have hcl := bl_len_le s
  have hcn : (clumps s).length ≤ s.size := by have := bl_clumps (s := s); omega
  refine (callsIn_wide (n := 0)).1 ?_
  refine callsIn_of_wp_marks Try.func17 rfl trivial ?_
  simp only [Try.ntmps17, List.size_toArray, List.length_cons, List.length_nil, Nat.reduceAdd, Nat.reduceSub, Array.replicate_succ, Array.replicate_zero, List.push_toArray, List.append_toArray, List.nil_append, List.cons_append]
  gi_wp2_with fail
  refine ⟨trivial, rfl, ?_⟩
  refine (callsIn_wide.2 (call_any s _)).mono ?_
  rintro e w1 ⟨rfl, hw1⟩
  have hk1 : Keep [] w w1 := by rw [hw1]; exact ((Keep.refl _ _).alloc _).alloc _
  have hs1 : w1.heap.size = w.heap.size + 2 := by rw [hw1]; simp
  have hb0 : w1.heap[w.heap.size]? = some (.cells #[.int .i64 0] 3 (0, 0)) := by
    rw [hw1, Below.heap_alloc _ _ _ (by simp)]; exact World.alloc_heap_new w _
  have hb1 : w1.heap[w.heap.size + 1]? = some (.cells #[.string s] 9 (0, 0)) := by
    rw [hw1]
    have := World.alloc_heap_new (w.alloc (.cells #[.int .i64 0] 3)) (.cells #[.string s] 9); rwa [World.size_alloc] at this
  rw [World.size_alloc]
  have HS1 := Lib.hid hs1; have HB0 := Lib.hid hb0; have HB1 := Lib.hid hb1; have HK1 := Lib.hid hk1
  clear hw1 hs1 hb0 hb1 hk1
  gi_wp2_with fail
  refine wpIn_rangeD (gf := 36) (lb := #[.pointer (some ⟨w.heap.size + 1, 0, none⟩)]) rfl (enters_of Try.func36 (by kernel_rfl) rfl)
    (clu1_iters (w.heap.size + 1) s hz) (fun W hk => TxtNeed.keep HB1.out hk (by simp)) (by intro x hx; obtain ⟨q, _, rfl⟩ := List.mem_map.1 hx; rfl) [w.heap.size]
    (fun b hb => by cases hb) (fun b hb => by simp at hb; subst hb; have := HS1.out; simp; omega) (fun b hb => by have := HS1.out; simp at hb; omega)
    (CouI w) (fun _ _ _ _ => False) (CouI.steady (by have := HS1.out; omega)) (fun _ _ _ _ _ _ h => h.elim)
    ⟨HB0.out, rfl, HK1.out⟩
    (fun k => { tmps := #[.string s, undef, .int .i64 0, .pointer (some ⟨w.heap.size, 0, none⟩), .string s, .func (.func 36) #[] #[.pointer (some ⟨w.heap.size + 1, 0, none⟩)], .int .i64 ((clumps s)[k]?.getD (0, 0)).1, .string (s.extract ((clumps s)[k]?.getD (0, 0)).1 ((clumps s)[k]?.getD (0, 0)).2), undef, undef, undef], defers := [] }) ?assign ?body ?done ?stop
  case assign =>
    intro l k hk W K hK
    rw [List.length_map] at hk
    have hk2 := List.getElem?_eq_getElem hk
    rw [List.getElem_map, show (clumps s)[k] = (clumps s)[k]?.getD (0, 0) by rw [hk2]; rfl]
    clear hk2
    have hpa : ∀ q, cluArgs s q = #[.int .i64 q.1, .string (s.extract q.1 q.2)] := fun _ => rfl
    rw [hpa]
    clear hpa
    generalize (clumps s)[k]?.getD (0, 0) = q at hK ⊢
    gi_wp2
    simp
    exact hK
  case body =>
    rintro l k hk fp W ⟨h1, rfl, h6⟩
    rw [List.length_map] at hk
    have c1 := cell_of_one h1
    have f1 := free_of_one h1
    have H1 := Lib.hid h1; have H6 := Lib.hid h6
    have hfin := Lib.hid (one_setCell (u := .int .i64 ((k + 1 : Nat) : Int)) h1)
    clear h1 h6
    generalize (clumps s)[k]?.getD (0, 0) = q at *
    gi_wp2
    exact ⟨_, ⟨hfin.out, rfl, H6.out.setCell (.inr (by simp)) _⟩, (Keep.refl _ _).setCell (.inl (by simp)) _, FromNew.refl _ _⟩
  case done =>
    rintro D fp W hD ⟨h1, rfl, h6⟩ hK hDf
    rw [List.length_map] at h1
    have c1 := cell_of_one h1
    have HDD := Lib.hid (show w.heap.size < D by have := HS1.out; omega)
    have HK := Lib.hid hK; have H6 := Lib.hid h6
    clear h1 h6 hK
    generalize hn : (clumps s).length = n at *
    have HN := Lib.hid hn; clear hn
    gi_wp2
    refine ⟨by simp, .inl ⟨_, _, rfl, run_takeDeferred HK.out, ?_⟩⟩
    exact ⟨_, results_tmp rfl _ _ _, by rw [HN.out]; rfl, keep_putD _ H6.out (by have := HDD.out; omega)⟩
  case stop => exact fun _ _ _ _ _ _ _ h => h.elim
end Go.Proofs.Ythbcancckogloaa
