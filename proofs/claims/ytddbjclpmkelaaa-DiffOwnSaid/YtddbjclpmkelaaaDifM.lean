/-
  What a change makes of a text, plain; (*strings.Builder).WriteString.
-/
import Derived.Test.YtddbjclpmkelaaaDifL
import Derived.Test.YtddbjclpmkelaaaDifD
import Derived.Test.YtddbjclpmkelaaaGlyM
import Derived.Test.YtddbjclpmkelaaaGlyJ
import Derived.Test.YtddbjclpmkelaaaGlyN
namespace Go.Proofs.Ytddbjclpmkelaaa
open Go.RowKit
set_option linter.unusedVariables false
set_option linter.unusedSimpArgs false

/-- What a change makes of a list of runes: the error's number, the runes, what each Edit drops. -/
def ap : List Int → List EdV → List Int → List (List Int) → Int × List Int × List (List Int)
  | x, [], out, gone => (0, out ++ x, gone)
  | x, e :: l, out, gone =>
    if e.1 < 0 ∨ e.2.1 < 0 then (1, [], [])
    else if 0 ≤ badAt e.2.2 then (2, [], [])
    else if (x.length : Int) < e.1 ∨ (x.length : Int) - e.1 < e.2.1 then (3, [], [])
    else ap (x.drop (e.1.toNat + e.2.1.toNat)) l (out ++ x.take e.1.toNat ++ runs e.2.2 0) (gone ++ [(x.drop e.1.toNat).take e.2.1.toNat])
def apAll (a : ByteArray) (l : List EdV) : Int × List Int × List (List Int) := if 0 ≤ badAt a then (2, [], []) else ap (runs a 0) l [] []
theorem ap_neg {x : List Int} {e : EdV} {l : List EdV} {out : List Int} {gone : List (List Int)} (h : e.1 < 0 ∨ e.2.1 < 0) : ap x (e :: l) out gone = (1, [], []) := by rw [ap, if_pos h]
theorem ap_bad {x : List Int} {e : EdV} {l : List EdV} {out : List Int} {gone : List (List Int)} (h : ¬ (e.1 < 0 ∨ e.2.1 < 0)) (h2 : 0 ≤ badAt e.2.2) : ap x (e :: l) out gone = (2, [], []) := by rw [ap, if_neg h, if_pos h2]
theorem ap_long {x : List Int} {e : EdV} {l : List EdV} {out : List Int} {gone : List (List Int)} (h : ¬ (e.1 < 0 ∨ e.2.1 < 0)) (h2 : ¬ 0 ≤ badAt e.2.2) (h3 : (x.length : Int) < e.1 ∨ (x.length : Int) - e.1 < e.2.1) : ap x (e :: l) out gone = (3, [], []) := by rw [ap, if_neg h, if_neg h2, if_pos h3]
theorem ap_next {x : List Int} {e : EdV} {l : List EdV} {out : List Int} {gone : List (List Int)} (h : ¬ (e.1 < 0 ∨ e.2.1 < 0)) (h2 : ¬ 0 ≤ badAt e.2.2) (h3 : ¬ ((x.length : Int) < e.1 ∨ (x.length : Int) - e.1 < e.2.1)) :
    ap x (e :: l) out gone = ap (x.drop (e.1.toNat + e.2.1.toNat)) l (out ++ x.take e.1.toNat ++ runs e.2.2 0) (gone ++ [(x.drop e.1.toNat).take e.2.1.toNat]) := by rw [ap, if_neg h, if_neg h2, if_neg h3]

theorem good_of {s : ByteArray} (h : ¬ 0 ≤ badAt s) : Good s 0 := by
  intro j hj hw
  apply h
  unfold badAt
  cases hf : (cut s 0).find? (fun j => wid s j == 0) with
  | none =>
    have := List.find?_eq_none.1 hf j hj
    simp [hw] at this
  | some i => exact Int.natCast_nonneg i
theorem txt_runs {s : ByteArray} (h : ¬ 0 ≤ badAt s) : txt (runs s 0) = s := mend_good (good_of h)
theorem badAt_txt (l : List Int) : badAt (txt l) = -1 := badAt_none (runs_text l).2
theorem runs_len (s : ByteArray) : (runs s 0).length = (cut s 0).length := by simp [runs]
theorem runs_size (s : ByteArray) : (runs s 0).length ≤ s.size := by have := cut_len_le s 0 (Nat.zero_le _); simp [runs]; omega

/-- What WriteString leaves. -/
def WroteS (b base : Nat) (t : ByteArray) (w : World) (e : Ending) (w' : World) : Prop :=
  (∃ k : Int, e = .returned (.tuple #[.int .i64 k, .nilIface])) ∧ BufAt w' b base t ∧ ∃ L, Keep L w w' ∧ ∀ x ∈ L, x = b ∨ (base ≤ x ∧ (x < w.heap.size → ∃ c f, w.heap[x]? = some (.cells c 5 f)))
theorem row_apart {w w' : World} {b base base' : Nat} {e : TypeId} {sz n : Nat} {v : Value} {xs : List Value} {L : List Nat} (h : w.ownsRow base' e sz v n xs) (he : e ≠ 5) (hb : b < base') (k : Keep L w w')
    (hL : ∀ x ∈ L, x = b ∨ (base ≤ x ∧ (x < w.heap.size → ∃ c f, w.heap[x]? = some (.cells c 5 f)))) : w'.ownsRow base' e sz v n xs := by
  refine k.owns h (fun g hg hm => ?_)
  have hge := (h.lt g hg).1
  rcases hL g hm with e1 | ⟨_, h1⟩
  · omega
  · rcases h.2 with ⟨rfl, _⟩ | ⟨g', cap, cur, rfl, _, hgg, _⟩
    · simp [Value.ownBlock] at hg
    · simp [Value.ownBlock] at hg
      subst hg
      obtain ⟨c, f, h1⟩ := h1 (lt_of_block hgg)
      rw [hgg] at h1
      simp at h1
      exact he h1.2.1

set_option maxHeartbeats 8000000 in
theorem writeString_any (b base : Nat) (t s : ByteArray) (w : World) (h : BufAt w b base t) (hs : s.size ≤ 1073741824) (hl : t.size ≤ 100000000000) (hb : base ≤ w.heap.size) :
    Calls Try.prog 47 #[.pointer (some ⟨b, 0, none⟩), .string s] w (WroteS b base (t ++ s) w) := by
  obtain ⟨i0, hi, hz0, hz1, hz2⟩ := info_parts info_u8
  have HI := Lib.hid hi; have HZ0 := Lib.hid hz0; have HZ1 := Lib.hid hz1; have HZ2 := Lib.hid hz2
  clear hi hz0 hz1 hz2
  have hbb : b < base := by obtain ⟨_, _, _, _, _, hbb⟩ := h; exact hbb
  have H := Lib.hid h; clear h
  go_enter Try.func47, Try.ntmps47
  go_wp2_with fail
  refine (copyCheck_any b base t w H.out).mono ?_
  rintro r w1 ⟨rfl, ⟨v, hb1, ho1⟩, hk1⟩
  obtain ⟨ad, cap, rfl, _⟩ := SlAt.of_owns ho1
  have c1 : w1.cell? ⟨b, 1, none⟩ = some (.slice ad t.size cap) := by rw [cell_of_block hb1]; rfl
  have hsz1 := hk1.size
  have HB1 := Lib.hid hb1; have HO1 := Lib.hid ho1; have HK1 := Lib.hid hk1; clear hb1 ho1 hk1
  go_wp2_with (with_reducible refine park_append 12 13 _ rfl ?_)
  refine Lib.wpList_append_own_string _ rfl (.tmp 12) (.tmp 13) 68 9 rfl base 5 i0 Try.underlying68 Try.underlying9 HI.out HZ0.out HZ1.out HZ2.out _ _ _ rfl HO1.out s rfl (by unfold maxLen; omega) (by omega) (by omega) ?_
  intro v' w2 ho2 hg2 _
  rw [← strCells_append] at ho2
  have hk2 : Keep ((Value.slice ad t.size cap).ownBlock.toList) w1 w2 := keep_of_grown hg2
  have hge : ∀ g, (Value.slice ad t.size cap).ownBlock = some g → base ≤ g := fun g hg => (HO1.out.lt g hg).1
  have hb2 := hk2.at_ HB1.out (by intro hm; simp at hm; have := hge _ (by simpa using hm); omega)
  obtain ⟨ad', cap', hv', _⟩ := SlAt.of_owns ho2
  rw [hv'] at ho2
  subst hv'
  have f1 := free_of_block hb2 1
  have c2 : w2.cell? ⟨b, 1, none⟩ = some (.slice ad t.size cap) := by rw [cell_of_block hb2]; rfl
  have hset := block_setCell hb2 1 (.slice ad' (t.size + s.size) cap')
  have hlt2 := lt_of_block hb2
  have hkA : Keep (b :: (Value.slice ad t.size cap).ownBlock.toList) w w2 := (HK1.out.mono (by simp)).trans hk2 (by intro x hx; simp [hx])
  have HKA := Lib.hid hkA
  have HK2 := Lib.hid hk2; have HO2 := Lib.hid ho2; have HSET := Lib.hid hset; have HGE := Lib.hid hge
  clear hkA hk2 ho2 hset hge hb2 hg2
  go_wp2
  go_ret2
  refine ⟨⟨_, rfl⟩, ⟨_, _, HSET.out, .inr rfl, ?_, hbb⟩, ⟨_, HKA.out.setCell (by simp) _, ?_⟩⟩
  · rw [ByteArray.size_append]
    refine ownsRow_setCell_other HO2.out (fun e => ?_) _
    have := (HO2.out.lt _ e).1
    simp at this; omega
  · intro x hx
    rcases List.mem_cons.1 hx with h | h
    · exact .inl h
    · have hge := HGE.out x (by simpa using h)
      refine .inr ⟨hge, fun hx => ?_⟩
      rcases HO1.out.2 with ⟨e, _⟩ | ⟨g', cap', cur, e, _, hgg, _⟩
      · rw [e] at h; simp [Value.ownBlock] at h
      · rw [e] at h
        simp [Value.ownBlock] at h
        subst h
        exact ⟨cur, _, by rw [← HK1.out.block x hx (by simp; omega)]; exact hgg⟩
end Go.Proofs.Ytddbjclpmkelaaa
