/-
  Walks of package roll: set, list, Members, Joined, Left.
-/
import Derived.Test.YtfhgeanacecpjaaDoorRollC
import Derived.Test.YtfhgeanacecpjaaDoorAppend
namespace Go.Proofs.YtfhgeanacecpjaaDoor
open Go.RowKit Go.Shelf
set_option linter.unusedVariables false
attribute [local go_sem] Oper.semAt_some

theorem set_any (x : Nat) (w : World) : Calls Tryd.prog 45 #[.int .u32 x] w fun e w' =>
    e = .returned (.func (.func 47) #[] #[.pointer (some ⟨w.heap.size, 0, none⟩)]) ∧ w' = w.alloc (.cells #[.int .u32 x] 49) := by
  go_enter Tryd.func45, Tryd.ntmps45
  go_wp2
  go_ret
  exact ⟨rfl, rfl⟩

/-- What set's function needs of the world. -/
def SetNeed (b x : Nat) (W : World) : Prop := W.heap[b]? = some (.cells #[.int .u32 (x : Int)] 49 (0, 0)) ∧ TabW W

theorem sub_and (y : Nat) (h0 : y ≠ 0) (h : y < 131072) : bits .and .u32 (y : Int) ((y : Int) - 1) = ((y &&& (y - 1) : Nat) : Int) := by
  rw [show (y : Int) - 1 = ((y - 1 : Nat) : Int) by omega, u32_and_nat _ _ (by omega) (by omega)]

set_option maxHeartbeats 200000 in
theorem set1_iters (b x : Nat) (hx : x < 131072) (hb0 : b ≠ 0) :
    Iters Tryd.prog 47 #[.pointer (some ⟨b, 0, none⟩)] ((bitList x).map fun i => #[.int .i64 i]) [b] [0] (SetNeed b x) := by
  intro y J Jx fp W ⟨hN, hT⟩ hown hrd hJ hJx hY h0
  have hbW := (hown b (by simp)).1
  have hbf := (hown b (by simp)).2
  have h0f := (hrd 0 (by simp)).2
  clear hown hrd
  have HYY := Lib.hid hY; clear hY
  refine (callsIn_wide (n := 0)).1 ?_
  refine callsIn_of_wp Tryd.func47 rfl trivial ?_
  simp only [Tryd.ntmps47, List.size_toArray, List.length_cons, List.length_nil, Nat.reduceAdd, Nat.reduceSub, Array.replicate_succ, Array.replicate_zero, List.push_toArray, List.append_toArray, List.nil_append, List.cons_append]
  gi_wp2
  gi_loopw [3] (fun _ wr => ∃ (k : Nat) (fp : List Nat) (z : Nat), z < 131072 ∧ (bitList x).drop k = bitList z ∧ k ≤ (bitList x).length ∧ wr.heap[b]? = some (.cells #[.int .u32 (z : Int)] 49 (0, 0)) ∧ TabW wr ∧ J k fp wr ∧ b ∉ fp ∧ 0 ∉ fp ∧ W.heap.size ≤ wr.heap.size)
    (fun _ wr => (intOf ((wr.cell? ⟨b, 0, none⟩).getD undef)).toNat)
  case atStart => exact ⟨0, fp, x, hx, rfl, Nat.zero_le _, hN, hT, h0, hbf, h0f, Nat.le_refl _⟩
  case round =>
    obtain ⟨k, fp, z, hz, hd, hk, hb, hT, hj, hf1, hf2, hsz⟩ := hrel
    have hc := cell_of_one hb
    by_cases hz0 : z = 0
    · subst hz0
      have hkl : (bitList x).length ≤ k := by
        rw [bitList_zero] at hd
        rcases Nat.lt_or_ge k (bitList x).length with h | h
        · have := List.length_drop (i := k) (l := bitList x); rw [hd] at this; simp at this; omega
        · exact h
      have hk' : (bitList x).length = k := by omega
      have HK := Lib.hid hk'; clear hd hkl hk'
      gi_wp2
      go_end0
      exact ⟨rfl, .inl ⟨fp, by rw [List.length_map, HK.out]; exact hj⟩⟩
    · have hzz : ((z : Int) == 0) = false := by simp; omega
      have hne : ((z : Int) != 0) = true := by simp; omega
      have hlow := low_spec z hz0 hz
      have hst := bitList_step z hz0 hz
      have hkl : k < (bitList x).length := by
        rcases Nat.lt_or_ge k (bitList x).length with h | h
        · exact h
        · rw [List.drop_of_length_le h, hst] at hd; cases hd
      have hxk : (bitList x)[k] = (Lib.ctz 32 z : Int) := by
        have := List.getElem?_drop (xs := bitList x) (i := k) (j := 0)
        rw [hd, hst] at this
        simp at this
        rw [List.getElem?_eq_getElem hkl] at this
        exact (Option.some.inj this).symm
      have hd2 : (bitList x).drop (k + 1) = bitList (z &&& (z - 1)) := by
        rw [← List.drop_drop, hd, hst]; rfl
      have hy := HYY.out k (by rw [List.length_map]; exact hkl) fp wr hj
      rw [List.getElem_map, hxk] at hy
      have HL := Lib.hid hlow; have HST := Lib.hid hst; have HD := Lib.hid hd; have HD2 := Lib.hid hd2; have HX := Lib.hid hxk; have HY := Lib.hid hy
      clear hlow hst hd hd2 hxk hy
      gi_wp2_with fail
      refine ⟨trivial, rfl, ?_⟩
      refine (callsIn_wide.2 (tz32_any z hz hz0 _ hT)).mono ?_
      rintro e w2 ⟨rfl, rfl⟩
      gi_wp2_with (with_reducible refine park_call 9 _ _ rfl ?_)
      refine wpListIn_callV (.inl rfl) rfl (.tmp 9) [.tmp 11] #[3] rfl y rfl [.int .i64 (Lib.ctz 32 z : Int)] rfl _ HY.out ?_
      rintro e w3 (⟨rfl, fp', hj', hkp, hfn⟩ | ⟨rfl, fp', hj', hkp, hfn⟩)
      · refine ⟨_, rfl, ?_⟩
        have hb3 := hkp.at_ hb hf1
        have hc3 := cell_of_one hb3
        have hfr := free_of_one hb3
        have hlt := lt_of_block hb
        have h0lt : 0 < wr.heap.size := World.block_lt_of_cell? _ _ (hT 0 (by decide))
        have hT3 := hT.keep hkp hf2
        have hf1' : b ∉ fp' := fun h => by rcases hfn b h with h' | h'; exact hf1 h'; omega
        have hf2' : 0 ∉ fp' := fun h => by rcases hfn _ h with h' | h'; exact hf2 h'; omega
        have hsz3 := hkp.size
        have HC := Lib.hid hc; have HB3 := Lib.hid hb3; have HF := Lib.hid hfn; have HSA := Lib.hid (sub_and z hz0 hz)
        clear hb3 hfn hb hc
        gi_wp2
        rw [HSA.out]
        go_roundw
        case rel =>
          have hk4 : Keep [b] w3 (w3.setCell ⟨b, 0, none⟩ (.int .u32 ((z &&& (z - 1) : Nat) : Int))) := (Keep.refl _ _).setCell (by simp) _
          exact ⟨k + 1, fp', z &&& (z - 1), Nat.lt_trans HL.out.2.2.2.2 hz, HD2.out, hkl, one_setCell HB3.out, hT3.keep hk4 (by simp; exact hb0.symm),
            hJ (k + 1) fp' w3 _ [b] hj' hk4 (fun c hc => by simp at hc; subst hc; exact ⟨hf1', .inl (by simp)⟩), hf1', hf2', by have := hk4.size; omega⟩
        case measure =>
          rw [HC.out, cell_of_one (one_setCell HB3.out)]
          have := HL.out.2.2.2.2
          simp only [Option.getD_some, intOf]
          omega
      · refine ⟨_, rfl, ?_⟩
        gi_wp2
        exact bodyPost_ret (results_none rfl _ _ _) rfl ⟨rfl, .inr ⟨k, fp', by rw [List.length_map]; exact hkl, hj'⟩⟩

/-- The element type int. -/
theorem info_int : (Tryd.prog.info? 3).map (fun i => (i.zero, i.size, i.bytes)) = some (some (.int .i64 0), 1, 8) := by kernel_rfl

/-- A list of ints that the call has made. -/
def ListPost (xs : List Int) (w : World) (e : Ending) (w' : World) : Prop :=
  ∃ v, e = .returned v ∧ w'.ownsRow w.heap.size 3 1 v xs.length (xs.map (Value.int .i64)) ∧ Keep [] w w' ∧ (v = .slice none 0 0 ↔ xs = [])

/-- What list's loop keeps: the box of l, the row. -/
def ListInv (xs : List Int) (w : World) (k : Nat) (fp : List Nat) (W : World) : Prop :=
  BoxRow w.heap.size 32 3 1 k ((xs.take k).map (Value.int .i64)) fp W ∧ Keep [] w W ∧ (∀ b ∈ fp, w.heap.size ≤ b)

theorem ListInv.steady {xs : List Int} {w W : World} (own : List Nat) (hW : w.heap.size ≤ W.heap.size) (ho : ∀ b ∈ own, w.heap.size ≤ b) (k : Nat) : Steady own W (ListInv xs w k) := by
  rintro fp W1 W2 S ⟨h1, h4, h7⟩ hk hS
  refine ⟨h1.keep hk (fun b hb => (hS b hb).1), h4.trans hk (fun x hx => .inr ?_), h7⟩
  rcases (hS x hx).2 with h | h
  · exact ho x h
  · omega

set_option maxHeartbeats 1000000 in
theorem list_any (x : Nat) (hx : x < 131072) (w : World) (hT : TabW w) :
    Calls Tryd.prog 34 #[.int .u32 x] w (ListPost (bitList x) w) := by
  have h0lt : 0 < w.heap.size := World.block_lt_of_cell? _ _ (hT 0 (by decide))
  obtain ⟨i0, hi, hz0, hz1, hz2⟩ := info_parts info_int
  have HI := Lib.hid hi; have HZ0 := Lib.hid hz0; have HZ1 := Lib.hid hz1; have HZ2 := Lib.hid hz2
  clear hi hz0 hz1 hz2
  refine (callsIn_wide (n := 0)).1 ?_
  refine callsIn_of_wp_marks Tryd.func34 rfl trivial ?_
  simp only [Tryd.ntmps34, List.size_toArray, List.length_cons, List.length_nil, Nat.reduceAdd, Nat.reduceSub, Array.replicate_succ, Array.replicate_zero, List.push_toArray, List.append_toArray, List.nil_append, List.cons_append]
  gi_wp2_with fail
  refine ⟨trivial, rfl, ?_⟩
  refine (callsIn_wide.2 (set_any x _)).mono ?_
  rintro e w1 ⟨rfl, hw1⟩
  have hk1 : Keep [] w w1 := by rw [hw1]; exact ((Keep.refl _ _).alloc _).alloc _
  have hbB : w1.heap[w.heap.size]? = some (.cells #[.slice none 0 0] 32 (0, 0)) := by
    rw [hw1, Below.heap_alloc _ _ _ (by simp)]; exact World.alloc_heap_new w _
  have hbs : w1.heap[w.heap.size + 1]? = some (.cells #[.int .u32 (x : Int)] 49 (0, 0)) := by
    rw [hw1]; have := World.alloc_heap_new (w.alloc (.cells #[.slice none 0 0] 32)) (.cells #[.int .u32 (x : Int)] 49); rwa [World.size_alloc] at this
  have hs1 : w1.heap.size = w.heap.size + 2 := by rw [hw1]; simp
  have hT1 : TabW w1 := hT.keep hk1 (by simp)
  have HS1 := Lib.hid hs1
  have HBB := Lib.hid hbB
  have HBS := Lib.hid hbs
  rw [World.size_alloc]
  clear hw1 hs1 hbB hbs
  gi_wp2_with fail
  refine wpIn_range (gf := 47) (lb := #[.pointer (some ⟨w.heap.size + 1, 0, none⟩)]) rfl (enters_of Tryd.func47 (by kernel_rfl) rfl)
    (set1_iters (w.heap.size + 1) x hx (by omega)) (fun W hk => ⟨hk.at_ HBS.out (by simp), hT1.keep hk (by simp)⟩) (by simp) [w.heap.size]
    (fun b hb => by simp at hb; subst hb; have := HS1.out; simp; omega) (fun b hb => by simp at hb; subst hb; have := HS1.out; simp; omega) (fun b hb => by simp at hb; subst hb; have := HS1.out; omega)
    (ListInv (bitList x) w) (fun _ _ _ _ => False) (ListInv.steady _ (by have := HS1.out; omega) (fun b hb => by simp at hb; omega)) (fun _ _ _ _ _ _ h _ _ => h)
    ⟨⟨_, HBB.out, by simpa using World.ownsRow_nil _ _ _ _, by simp, by simp, by simp [Value.ownBlock]⟩, hk1, by simp⟩
    (fun k => { tmps := #[.int .u32 x, undef, .slice none 0 0, .pointer (some ⟨w.heap.size, 0, none⟩), .int .i64 ((bitList x)[k]?.getD 0), .int .u32 x, .func (.func 47) #[] #[.pointer (some ⟨w.heap.size + 1, 0, none⟩)], .int .i64 ((bitList x)[k]?.getD 0), undef, undef, undef, undef, undef], defers := [] }) ?assign ?body ?done ?stop
  case assign =>
    intro l k hk W K hK
    rw [List.length_map] at hk
    have hk2 := List.getElem?_eq_getElem hk
    rw [List.getElem_map, show (bitList x)[k] = (bitList x)[k]?.getD 0 by rw [hk2]; rfl]
    clear hk2
    generalize (bitList x)[k]?.getD 0 = q at hK ⊢
    gi_wp2
    exact hK
  case body =>
    rintro l k hk fp W ⟨h1, h4, h7⟩
    rw [List.length_map] at hk
    have hkl := bitList_len x
    obtain ⟨v, hc, hf, hlt, h2, hh⟩ := h1.box
    have hget : (bitList x)[k]?.getD 0 = (bitList x)[k] := by rw [List.getElem?_eq_getElem hk]; rfl
    have htake : (bitList x).take (k + 1) = (bitList x).take k ++ [(bitList x)[k]?.getD 0] := by rw [hget]; exact List.take_succ_eq_append_getElem hk
    have HT := Lib.hid htake; have H2 := Lib.hid h2; have H7 := Lib.hid h7; have H4 := Lib.hid h4
    clear htake hget h1 h2 h7 h4
    generalize (bitList x)[k]?.getD 0 = xk at *
    gi_wp2_with (gi_at_builtin; refine wpListIn_append_mine _ rfl (.tmp 8) (.tmp 10) 32 rfl (w.heap.size + 1) 3 i0 (.int .i64 0) 1 8 Tryd.underlying32 HI.out HZ0.out HZ1.out HZ2.out rfl (by decide) v k _ rfl (H2.out.alloc _) ⟨W.heap.size, 0, none⟩ 1 1 [.int .i64 xk] rfl rfl (cell_one_new _ _ _) (by simp [Value.oneCell']) (by unfold maxLen; omega) (by omega) (by simp; omega) ?_; intro v' W2 hp; obtain ⟨hc2, hf2, hsz2, ⟨g, cap, rfl⟩, hfin⟩ := BoxRow.appended hh H2.out ((Keep.refl _ _).alloc _) hp (by decide); clear hp)
    obtain ⟨f1, f2, f3⟩ := hfin.out
    refine ⟨_, ⟨by rw [HT.out, List.map_append]; exact f1, H4.out.trans f2 (fun b hb => .inr (H7.out b hb)), ?_⟩, f2, f3⟩
    intro b hb
    rcases f3 b hb with h | h
    · exact H7.out b h
    · omega
  case done =>
    rintro D fp W hD ⟨h1, h4, h7⟩ hK
    rw [List.length_map] at h1
    obtain ⟨v, hc, hf, hlt, h2, hh⟩ := h1.box
    have H2 := Lib.hid h2; have H7 := Lib.hid h7; have HK := Lib.hid hK; have H4 := Lib.hid h4
    clear h1 h2 h7 hK h4
    gi_wp2
    refine ⟨by simp, .inl ⟨_, _, rfl, run_takeDeferred HK.out, ?_⟩⟩
    refine ⟨_, results_tmp rfl _ _ _, v, rfl, ?_, ?_, ?_⟩
    · obtain ⟨a1, a2⟩ := H2.out
      refine ⟨by simp, ?_⟩
      have hne : w.heap.size ≠ D := by have := HS1.out; omega
      have key := (ownsRow_putObj H2.out (.deferred none) HK.out rfl)
      rw [List.take_of_length_le (by simp)] at key
      refine key.2.imp id ?_
      rintro ⟨g, cap, cur, q1, q2, q3⟩
      exact ⟨g, cap, cur, q1, by omega, q3⟩
    · exact H4.out.trans (keep_putObj W D _) (fun b hb => by simp at hb; subst hb; right; have := HS1.out; omega)
    · rw [hh.out.2.1]
      simp
  case stop =>
    intro D c k fp W _ _ h
    exact h.elim
end Go.Proofs.YtfhgeanacecpjaaDoor
