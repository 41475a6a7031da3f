/-
  GlyphRange's closure; []rune(s) at any world.
-/
import Derived.Test.YtjelbeghojgooaaGL4
import Derived.Test.YtjelbeghojgooaaGlyI
import Derived.Laws.EntriesVeiled
import Derived.Deep.DeepCutAuto
namespace Go.Proofs.Ytjelbeghojgooaa
open Go.RowKit Go.Shelf
set_option linter.unusedVariables false
set_option linter.unusedSimpArgs false

/-- Two variables in boxes (blocks B, B + 1), each with a row of the call's own. -/
structure TwoB (B : Nat) (v6 v7 : Value) (k6 k7 : Nat) (x6 x7 : List Value) (fp : List Nat) (W : World) : Prop where
  b6 : W.heap[B]? = some (.cells #[v6] 36 (0, 0))
  b7 : W.heap[B + 1]? = some (.cells #[v7] 31 (0, 0))
  o6 : W.ownsRow (B + 2) 3 1 v6 k6 x6
  o7 : W.ownsRow (B + 2) 21 1 v7 k7 x7
  m6 : B ∈ fp
  m7 : B + 1 ∈ fp
  f6 : ∀ g, v6.ownBlock = some g → g ∈ fp
  f7 : ∀ g, v7.ownBlock = some g → g ∈ fp
namespace TwoB
variable {B : Nat} {v6 v7 v' : Value} {k6 k7 m : Nat} {x6 x7 news : List Value} {fp S : List Nat} {W W1 W2 : World}
theorem keep (h : TwoB B v6 v7 k6 k7 x6 x7 fp W1) (hk : Keep S W1 W2) (hS : ∀ b ∈ S, b ∉ fp) : TwoB B v6 v7 k6 k7 x6 x7 fp W2 :=
  ⟨hk.at_ h.b6 (fun e => hS _ e h.m6), hk.at_ h.b7 (fun e => hS _ e h.m7), hk.owns h.o6 (fun g hg e => hS _ e (h.f6 g hg)), hk.owns h.o7 (fun g hg e => hS _ e (h.f7 g hg)), h.m6, h.m7, h.f6, h.f7⟩
theorem ne (h : TwoB B v6 v7 k6 k7 x6 x7 fp W) (g : Nat) (h6 : v6.ownBlock = some g) (h7 : v7.ownBlock = some g) : False := by
  rcases h.o6.2 with ⟨e, _⟩ | ⟨g6, c6, cur6, rfl, _, hb6, _⟩
  · rw [e] at h6; cases h6
  rcases h.o7.2 with ⟨e, _⟩ | ⟨g7, c7, cur7, rfl, _, hb7, _⟩
  · rw [e] at h7; cases h7
  simp [Value.ownBlock] at h6 h7
  subst h6; subst h7
  rw [hb6] at hb7
  simp at hb7
theorem from_new (hp : ∀ g, v'.ownBlock = some g → g ∈ fp ∨ W1.heap.size ≤ g) (hW : Keep [] W W1) : FromNew fp (v'.ownBlock.toList ++ fp) W := by
  intro b hb
  rcases List.mem_append.1 hb with h | h
  · simp at h
    rcases hp b h with h' | h'
    · exact .inl h'
    · exact .inr (Nat.le_trans hW.size h')
  · exact .inl h
theorem app6 (h : TwoB B v6 v7 k6 k7 x6 x7 fp W) (hW : Keep [] W W1) (hp : AppPost W1 (B + 2) 3 1 v6 k6 x6 m news v' W2) :
    TwoB B v' v7 (k6 + m) k7 (x6 ++ news) x7 (v'.ownBlock.toList ++ fp) (W2.setCell ⟨B, 0, none⟩ v') ∧ Keep fp W (W2.setCell ⟨B, 0, none⟩ v') ∧ FromNew fp (v'.ownBlock.toList ++ fp) W ∧ W2.frozen? ⟨B, 0, none⟩ = false ∧ W2.cell? ⟨B, 0, none⟩ = some v6 := by
  obtain ⟨p1, p2, p3, p4⟩ := hp
  have hge : ∀ g, v6.ownBlock = some g → B + 2 ≤ g := fun g hg => (h.o6.lt g hg).1
  have hge' : ∀ g, v'.ownBlock = some g → B + 2 ≤ g := fun g hg => (p1.lt g hg).1
  have hge7 : ∀ g, v7.ownBlock = some g → B + 2 ≤ g := fun g hg => (h.o7.lt g hg).1
  have c6 : W2.heap[B]? = some (.cells #[v6] 36 (0, 0)) := p2.at_ (hW.at_ h.b6 (by simp)) (by intro h; simp at h; have := hge _ h; omega)
  have c7 : W2.heap[B + 1]? = some (.cells #[v7] 31 (0, 0)) := p2.at_ (hW.at_ h.b7 (by simp)) (by intro h; simp at h; have := hge _ h; omega)
  have d7 : W2.ownsRow (B + 2) 21 1 v7 k7 x7 := p2.owns (hW.owns h.o7 (by simp)) (by intro g hg he; simp at he; exact h.ne g he hg)
  have hk2 : Keep fp W W2 := (hW.mono (L' := fp) (by simp)).trans p2 (by intro x hx; simp at hx; exact .inl (h.f6 _ hx))
  refine ⟨⟨one_setCell c6, (block_setCell_other _ (by simp)).trans c7, ?_, ?_, ?_, ?_, ?_, ?_⟩, hk2.setCell (.inl h.m6) _, ?_, free_of_one c6, cell_of_one c6⟩
  · exact ownsRow_setCell_other p1 (fun e => by have := hge' _ e; simp at this; omega) _
  · exact ownsRow_setCell_other d7 (fun e => by have := hge7 _ e; simp at this; omega) _
  · simp [h.m6]
  · simp [h.m7]
  · intro g hg; simp [hg]
  · intro g hg; exact List.mem_append_right _ (h.f7 g hg)
  · exact from_new (fun g hg => (p3 g hg).imp (h.f6 g) id) hW
theorem app7 (h : TwoB B v6 v7 k6 k7 x6 x7 fp W) (hW : Keep [] W W1) (hp : AppPost W1 (B + 2) 21 1 v7 k7 x7 m news v' W2) :
    TwoB B v6 v' k6 (k7 + m) x6 (x7 ++ news) (v'.ownBlock.toList ++ fp) (W2.setCell ⟨B + 1, 0, none⟩ v') ∧ Keep fp W (W2.setCell ⟨B + 1, 0, none⟩ v') ∧ FromNew fp (v'.ownBlock.toList ++ fp) W ∧ W2.frozen? ⟨B + 1, 0, none⟩ = false ∧ W2.cell? ⟨B + 1, 0, none⟩ = some v7 := by
  obtain ⟨p1, p2, p3, p4⟩ := hp
  have hge : ∀ g, v7.ownBlock = some g → B + 2 ≤ g := fun g hg => (h.o7.lt g hg).1
  have hge' : ∀ g, v'.ownBlock = some g → B + 2 ≤ g := fun g hg => (p1.lt g hg).1
  have hge6 : ∀ g, v6.ownBlock = some g → B + 2 ≤ g := fun g hg => (h.o6.lt g hg).1
  have c6 : W2.heap[B]? = some (.cells #[v6] 36 (0, 0)) := p2.at_ (hW.at_ h.b6 (by simp)) (by intro h; simp at h; have := hge _ h; omega)
  have c7 : W2.heap[B + 1]? = some (.cells #[v7] 31 (0, 0)) := p2.at_ (hW.at_ h.b7 (by simp)) (by intro h; simp at h; have := hge _ h; omega)
  have d6 : W2.ownsRow (B + 2) 3 1 v6 k6 x6 := p2.owns (hW.owns h.o6 (by simp)) (by intro g hg he; simp at he; exact h.ne g hg he)
  have hk2 : Keep fp W W2 := (hW.mono (L' := fp) (by simp)).trans p2 (by intro x hx; simp at hx; exact .inl (h.f7 _ hx))
  refine ⟨⟨(block_setCell_other _ (by simp)).trans c6, one_setCell c7, ?_, ?_, ?_, ?_, ?_, ?_⟩, hk2.setCell (.inl h.m7) _, ?_, free_of_one c7, cell_of_one c7⟩
  · exact ownsRow_setCell_other d6 (fun e => by have := hge6 _ e; simp at this) _
  · exact ownsRow_setCell_other p1 (fun e => by have := hge' _ e; simp at this) _
  · simp [h.m6]
  · simp [h.m7]
  · intro g hg; exact List.mem_append_right _ (h.f6 g hg)
  · intro g hg; simp [hg]
  · exact from_new (fun g hg => (p3 g hg).imp (h.f7 g) id) hW
end TwoB

/-- The first k pieces' places, and their runes. -/
def plCs (s : ByteArray) (k : Nat) : List Value := ((cut s 0).take k).map fun (i : Nat) => .int .i64 i
def rnCs (s : ByteArray) (k : Nat) : List Value := ((cut s 0).take k).map fun (i : Nat) => .int .i32 (dec s i).1
theorem plCs_snoc (s : ByteArray) (k : Nat) (hk : k < (cut s 0).length) : plCs s (k + 1) = plCs s k ++ [.int .i64 (cut s 0)[k]] := by
  unfold plCs; rw [List.take_succ_eq_append_getElem hk, List.map_append]; rfl
theorem rnCs_snoc (s : ByteArray) (k : Nat) (hk : k < (cut s 0).length) : rnCs s (k + 1) = rnCs s k ++ [.int .i32 (dec s (cut s 0)[k]).1] := by
  unfold rnCs; rw [List.take_succ_eq_append_getElem hk, List.map_append]; rfl

/-- What the closure finds between two rounds. -/
def RInv (B sb : Nat) (s : ByteArray) (w : World) (k : Nat) (fp : List Nat) (W : World) : Prop :=
  (∃ v6 v7, TwoB B v6 v7 k k (plCs s k) (rnCs s k) fp W) ∧ (∀ b ∈ fp, B ≤ b) ∧ TxtNeed sb s W ∧ Keep [] w W
theorem RInv.steady {B sb : Nat} {s : ByteArray} {w W : World} (hw : w.heap.size ≤ B) (hs : sb < B) (hB : B ≤ W.heap.size) (k : Nat) : Steady [] W (RInv B sb s w k) := by
  rintro fp W1 W2 S ⟨⟨v6, v7, h⟩, h1, h2, h3⟩ hk hS
  have hge : ∀ x ∈ S, W.heap.size ≤ x := fun x hx => by
    rcases (hS x hx).2 with h | h
    · cases h
    · exact h
  exact ⟨⟨v6, v7, h.keep hk (fun b hb => (hS b hb).1)⟩, h1, h2.keep hk (fun h => by have := hge _ h; omega), h3.trans hk (fun x hx => .inr (by have := hge x hx; omega))⟩
theorem no_steady (W : World) (k : Nat) : Steady [] W ((fun _ _ _ => False) k) := fun _ _ _ _ h _ _ => h.elim

set_option maxHeartbeats 8000000 in
theorem gr1_any (B sb : Nat) (s : ByteArray) (w W : World) (k : Nat) (fp : List Nat) (hk : k < (cut s 0).length) (hz : s.size ≤ 20000) (hB : w.heap.size ≤ B) (hsb : sb < B) (h : RInv B sb s w k fp W) :
    Calls Try.prog 33 #[.int .i64 (cut s 0)[k], .int .i32 (dec s (cut s 0)[k]).1, .pointer (some ⟨B, 0, none⟩), .pointer (some ⟨B + 1, 0, none⟩), .pointer (some ⟨sb, 0, none⟩)] W
      (RoundPost (RInv B sb s w) (fun _ _ _ => False) k fp W) := by
  obtain ⟨⟨v6, v7, ht⟩, hfp, htx, hkp⟩ := h
  have hcl := cut_len_le s 0 (Nat.zero_le _)
  obtain ⟨i0, hi, hz0, hz1, hz2⟩ := info_parts info_int
  have HI := Lib.hid hi; have HZ0 := Lib.hid hz0; have HZ1 := Lib.hid hz1; have HZ2 := Lib.hid hz2
  clear hi hz0 hz1 hz2
  obtain ⟨j0, hi, hz0, hz1, hz2⟩ := info_parts info_rune
  have HJ := Lib.hid hi; have HY0 := Lib.hid hz0; have HY1 := Lib.hid hz1; have HY2 := Lib.hid hz2
  clear hi hz0 hz1 hz2
  have HPL := Lib.hid (plCs_snoc s k hk); have HRN := Lib.hid (rnCs_snoc s k hk)
  have hld : decide ((k : Int) + 1 ≤ (s.size : Int)) = true := by simp; omega
  have hld2 : decide (k + 1 ≤ s.size) = true := by simp; omega
  generalize (dec s (cut s 0)[k]).1 = r1 at *
  generalize (cut s 0)[k] = x at *
  have c6 := cell_of_one ht.b6
  have hbw := lt_of_block ht.b7
  have HT := Lib.hid ht; have HTX := Lib.hid htx; have HKP := Lib.hid hkp; have HFP := Lib.hid hfp
  have hk2 : k ≤ 20000 := by omega
  clear ht htx hkp hfp hk hcl
  go_enter Try.func33, Try.ntmps33
  go_wp2_with (with_reducible refine park_append 8 10 _ rfl ?_)
  refine wpList_append_mine _ rfl (.tmp 8) (.tmp 10) 36 rfl (B + 2) 3 i0 (.int .i64 0) 1 8 Try.underlying36 HI.out HZ0.out HZ1.out HZ2.out rfl (by decide) v6 k _ rfl (HT.out.o6.alloc _) ⟨W.heap.size, 0, none⟩ 1 1 [.int .i64 x] rfl rfl (cell_one_new _ _ _) (by simp [Value.oneCell']) (by unfold maxLen; omega) (by omega) (by simp; omega) ?_
  intro v6' W2 hp
  obtain ⟨g6, cap6, rfl⟩ : ∃ g cap, v6' = .slice (some ⟨g, 0, none⟩) (k + 1) cap := by
    rcases hp.1.2 with ⟨_, h0⟩ | ⟨g, cap, _, rfl, _⟩
    · omega
    · exact ⟨g, cap, rfl⟩
  obtain ⟨t1, t2, t3, hf6, hc6⟩ := HT.out.app6 ((Keep.refl _ _).alloc _) hp
  rw [← HPL.out] at t1
  have T1 := Lib.hid t1; have T2 := Lib.hid t2; have T3 := Lib.hid t3
  clear hp t1 t2 t3
  go_upto_region 2 with (fail)
  generalize hW3 : W2.setCell ⟨B, 0, none⟩ (.slice (some ⟨g6, 0, none⟩) (k + 1) cap6) = W3 at *
  have HW3 := Lib.hid hW3; clear hW3 hf6 hc6 c6
  have c7 := cell_of_one T1.out.b7
  have hbw3 := lt_of_block T1.out.b7
  go_wp2_with (with_reducible refine park_append 12 14 _ rfl ?_)
  refine wpList_append_mine _ rfl (.tmp 12) (.tmp 14) 31 rfl (B + 2) 21 j0 (.int .i32 0) 1 4 Try.underlying31 HJ.out HY0.out HY1.out HY2.out rfl (by decide) v7 k _ rfl (T1.out.o7.alloc _) ⟨W3.heap.size, 0, none⟩ 1 1 [.int .i32 r1] rfl rfl (cell_one_new _ _ _) (by simp [Value.oneCell']) (by unfold maxLen; omega) (by omega) (by simp; omega) ?_
  intro v7' W4 hp
  obtain ⟨g7, cap7, rfl⟩ : ∃ g cap, v7' = .slice (some ⟨g, 0, none⟩) (k + 1) cap := by
    rcases hp.1.2 with ⟨_, h0⟩ | ⟨g, cap, _, rfl, _⟩
    · omega
    · exact ⟨g, cap, rfl⟩
  obtain ⟨u1, u2, u3, hf7, hc7⟩ := T1.out.app7 ((Keep.refl _ _).alloc _) hp
  rw [← HRN.out] at u1
  have U1 := Lib.hid u1; have U2 := Lib.hid u2; have U3 := Lib.hid u3
  clear hp u1 u2 u3 c7
  go_upto_region 3 with (fail)
  generalize hW5 : W4.setCell ⟨B + 1, 0, none⟩ (.slice (some ⟨g7, 0, none⟩) (k + 1) cap7) = W5 at *
  have HW5 := Lib.hid hW5; clear hW5 hf7 hc7
  have c6 := cell_of_one U1.out.b6
  have hlow2 : ∀ b ∈ (Value.slice (some ⟨g6, 0, none⟩) (k + 1) cap6).ownBlock.toList ++ fp, B ≤ b := by
    intro b hb
    rcases List.mem_append.1 hb with h | h
    · simp at h; have := (T1.out.o6.lt b h).1; omega
    · exact HFP.out b h
  have hlow3 : ∀ b ∈ (Value.slice (some ⟨g7, 0, none⟩) (k + 1) cap7).ownBlock.toList ++ ((Value.slice (some ⟨g6, 0, none⟩) (k + 1) cap6).ownBlock.toList ++ fp), B ≤ b := by
    intro b hb
    rcases List.mem_append.1 hb with h | h
    · simp at h; have := (U1.out.o7.lt b h).1; omega
    · exact hlow2 b h
  have hkk : Keep fp W W5 := T2.out.trans U2.out (fun x hx => T3.out x hx)
  have hfn : FromNew fp ((Value.slice (some ⟨g7, 0, none⟩) (k + 1) cap7).ownBlock.toList ++ ((Value.slice (some ⟨g6, 0, none⟩) (k + 1) cap6).ownBlock.toList ++ fp)) W := by
    intro b hb
    rcases U3.out b hb with h | h
    · exact T3.out b h
    · exact .inr (Nat.le_trans T2.out.size h)
  have hcs : W5.cell? ⟨sb, 0, none⟩ = some (.string s) := cell_of_one (hkk.at_ HTX.out (fun h => by have := HFP.out _ h; omega))
  have hfin : Hid (RInv B sb s w (k + 1) ((Value.slice (some ⟨g7, 0, none⟩) (k + 1) cap7).ownBlock.toList ++ ((Value.slice (some ⟨g6, 0, none⟩) (k + 1) cap6).ownBlock.toList ++ fp)) W5 ∧ Keep fp W W5 ∧ FromNew fp ((Value.slice (some ⟨g7, 0, none⟩) (k + 1) cap7).ownBlock.toList ++ ((Value.slice (some ⟨g6, 0, none⟩) (k + 1) cap6).ownBlock.toList ++ fp)) W) :=
    Lib.hid ⟨⟨⟨_, _, U1.out⟩, hlow3, HTX.out.keep hkk (fun h => by have := HFP.out _ h; omega), HKP.out.trans hkk (fun x hx => .inr (by have := HFP.out x hx; omega))⟩, hkk, hfn⟩
  clear hlow2 hlow3 hkk hfn
  go_wp2
  go_ret
  exact .inl ⟨rfl, _, hfin.out⟩

/-! ### []rune(s), at any world -/
/-- The new array's length, and the array. -/
def rcap (s : ByteArray) (W : World) : Nat := grownCap W (runs s 0).length 0 21
def robj (s : ByteArray) (W : World) : Obj := .cells (((runs s 0).map (Value.int .i32)).toArray ++ Array.replicate (rcap s W - (runs s 0).length) (.int .i32 0)) 21
theorem conv_sr (s : ByteArray) (hz : s.size ≤ 20000) (W : World) : (convert 9 31 (.string s)).run Try.prog W = .ok (.slice (some ⟨W.heap.size, 0, none⟩) (runs s 0).length (rcap s W)) (W.alloc (robj s W)).drew := by
  have hcl := cut_len_le s 0 (Nat.zero_le _)
  have hrl : (runs s 0).length = (cut s 0).length := by simp [runs]
  have hcf : Conv.runesFrom s s.size 0 #[] = ((runs s 0).map (Value.int .i32)).toArray := by rw [conv_runes s s.size 0 #[] (by omega)]; simp
  have hsz : (Conv.runesFrom s s.size 0 #[]).size = (runs s 0).length := by rw [hcf]; simp
  have hconv := run_runes_of_string (P := Try.prog) W 9 31 21 s Try.underlying9 Try.underlying31 Try.underlying21 (by rw [hsz]; omega)
  rw [hsz, hcf] at hconv
  exact hconv
theorem sr_sl (s : ByteArray) (W : World) : SlAt (W.alloc (robj s W)) (.slice (some ⟨W.heap.size, 0, none⟩) (runs s 0).length (rcap s W)) (runs s 0).length ((runs s 0).map (Value.int .i32)) := by
  refine ⟨_, _, rfl, ⟨fun h0 => by rw [List.eq_nil_of_length_eq_zero h0]; rfl, fun h => by cases h⟩, fun _ => ⟨_, _, rfl, fun i u hu => ?_⟩⟩
  unfold robj
  rw [Nat.zero_add, cell_of_block (heap_alloc_new W _)]
  have hi := (List.getElem?_eq_some_iff.1 hu).1
  rw [Array.getElem?_append_left (by simpa using hi)]
  simpa using hu
theorem rcap_ge (s : ByteArray) (W : World) : (runs s 0).length ≤ rcap s W := grownCap_ge _ _ _ _
end Go.Proofs.Ytjelbeghojgooaa
