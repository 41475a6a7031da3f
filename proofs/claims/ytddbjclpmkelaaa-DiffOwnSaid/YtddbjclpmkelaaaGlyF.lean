/-
  Walks of Encode, Text, Runes, Count, BadAt.
-/
import Derived.Test.YtddbjclpmkelaaaGlyE
import Derived.Test.YtddbjclpmkelaaaGlyZ
import Derived.Lib.OthersKept
namespace Go.Proofs.Ytddbjclpmkelaaa
open Go.RowKit
set_option linter.unusedVariables false
set_option linter.unusedSimpArgs false

theorem conv_text {w : World} {v : Value} {l : List Int} (h : SlAt w v l.length (l.map (Value.int .i32))) : (convert 44 9 v).run Try.prog w = .ok (.string (txt l)) w := by
  obtain ⟨ad, cap, rfl, ⟨_, hnil⟩, hc⟩ := h
  by_cases h0 : l.length = 0
  · have : l = [] := List.eq_nil_of_length_eq_zero h0
    subst this
    cases ad with
    | none =>
      rw [run_convert_runes_nil w _ _ _ _ _ Try.underlying44 Try.underlying21 Try.underlying9]
      rfl
    | some a =>
      have := run_convert_runes (P := Try.prog) w 44 9 21 a 0 cap [] (Nat.le_refl _) Try.underlying44 Try.underlying21 Try.underlying9 (fun j hj => by simp at hj)
      exact this
  · obtain ⟨b, off, rfl, hcs⟩ := hc h0
    have := run_convert_runes (P := Try.prog) w 44 9 21 ⟨b, off, none⟩ l.length cap l (Nat.le_refl _) Try.underlying44 Try.underlying21 Try.underlying9 (fun j hj => by
      have := hcs j (.int .i32 l[j]) (by rw [List.getElem?_map, List.getElem?_eq_getElem hj]; rfl)
      rw [show (⟨b, off, none⟩ : Addr).add j = ⟨b, off + j, none⟩ by simp only [Addr.add]; split <;> simp_all]
      rw [this]
      simp [List.getElem?_eq_getElem hj])
    rw [this, List.take_length, runesBytes_txt]
theorem text_any (v : Value) (l : List Int) (w : World) (h : SlAt w v l.length (l.map (Value.int .i32))) :
    Calls Try.prog 28 #[v] w fun e w' => e = .returned (.string (txt l)) ∧ w = w' := by
  have hc := conv_text h
  clear h
  go_enter Try.func28, Try.ntmps28
  go_wp2
  go_ret
  exact ⟨rfl, rfl⟩

theorem clip_any (ad : Option Addr) (n cap : Nat) (w : World) (h : n ≤ cap) (hm : cap ≤ 9223372036854775807) (h0 : ad = none → n = 0) :
    Calls Try.prog 37 #[.slice ad n cap] w fun e w' => e = .returned (.slice ad n n) ∧ w = w' := by
  cases ad with
  | none =>
    obtain rfl := h0 rfl
    go_enter Try.func37, Try.ntmps37
    go_wp2
    go_ret
    exact ⟨rfl, rfl⟩
  | some a =>
    go_enter Try.func37, Try.ntmps37
    go_wp2
    go_ret
    exact ⟨rfl, rfl⟩

/-- What Runes answers: new memory, no room behind. -/
def RunesPost (s : ByteArray) (w : World) (r : Ending) (w' : World) : Prop :=
  ∃ cur, r = .returned (.slice (some ⟨w.heap.size, 0, none⟩) (runs s 0).length (runs s 0).length) ∧ w'.heap[w.heap.size]? = some (.cells cur 21 (0, 0)) ∧ cur.toList.take (runs s 0).length = (runs s 0).map (Value.int .i32) ∧ Keep [] w w'

theorem runes_any (s : ByteArray) (w : World) (hz : s.size ≤ 1073741824) : Calls Try.prog 21 #[.string s] w (RunesPost s w) := by
  have hcl := cut_len_le s 0 (Nat.zero_le _)
  have hrl : (runs s 0).length = (cut s 0).length := by simp [runs]
  have hcf : Conv.runesFrom s s.size 0 #[] = ((runs s 0).map (Value.int .i32)).toArray := by rw [conv_runes s s.size 0 #[] (by omega)]; simp
  have hsz : (Conv.runesFrom s s.size 0 #[]).size = (runs s 0).length := by rw [hcf]; simp
  have hconv := run_runes_of_string (P := Try.prog) w 9 44 21 s Try.underlying9 Try.underlying44 Try.underlying21 (by rw [hsz]; omega)
  rw [hsz, hcf] at hconv
  have hge := grownCap_ge w (runs s 0).length 0 21
  have hle := grownCap_le_maxLen w (runs s 0).length 0 21 (by unfold maxLen; omega)
  unfold maxLen at hle
  obtain ⟨c, hc⟩ : ∃ c, c = grownCap w (runs s 0).length 0 21 := ⟨_, rfl⟩
  rw [← hc] at hconv hge hle
  obtain ⟨C, hC⟩ : ∃ C, C = ((runs s 0).map (Value.int .i32)).toArray ++ Array.replicate (c - (runs s 0).length) (.int .i32 0) := ⟨_, rfl⟩
  rw [← hC] at hconv
  have HT : Hid (C.toList.take (runs s 0).length = (runs s 0).map (Value.int .i32)) := by
    show _ = _
    rw [hC]; simp
  clear hC hc hcf hsz
  have HN := Lib.hid (show (runs s 0).length ≤ 1073741824 by omega)
  clear hrl hcl
  obtain ⟨n, hn⟩ : ∃ n, n = (runs s 0).length := ⟨_, rfl⟩
  have HNN := Lib.hid hn
  rw [← hn] at hconv hge
  have hb : n ≤ 1073741824 := by rw [hn]; exact HN.out
  clear hn
  go_enter Try.func21, Try.ntmps21
  go_wp2_with fail
  refine (clip_any _ n c _ hge (by omega) (by simp)).mono ?_
  rintro r w1 ⟨rfl, rfl⟩
  go_wp2
  go_ret
  refine ⟨C, ?_, ?_, HT.out, (Keep.refl _ _).drew.alloc _⟩
  · rw [← HNN.out]; rfl
  · exact heap_alloc_new w.drew _

/-! ### ranges over a text -/
theorem keep_iterAt {w wr : World} {k : Nat} (h : Keep [] w wr) (hk : w.heap.size ≤ k) (s : ByteArray) (p : Nat) : Keep [] w (wr.iterAt k s p) :=
  h.trans (L' := [k]) ⟨rfl, rfl, rfl, by rw [Lib.iterAt_size]; exact Nat.le_refl _, fun i _ hi => Lib.iterAt_other wr k i s p (by simpa using hi)⟩ (by intro x hx; simp at hx; subst hx; exact .inr hk)
theorem next_in {P : Program} {w : World} {k : Nat} {s : ByteArray} {p : Nat} (h : w.heap[k]? = some (.stringIter s p)) (hp : p < s.size) (ty : TypeId) :
    (Instr.next (.pointer (some ⟨k, 0, none⟩)) true ty).run P w = .ok (.tuple #[.bool true, .int .i64 p, .int .i32 (dec s p).1]) (w.iterAt k s (p + (dec s p).2)) := by
  rw [Lib.run_next_any_at w k s p ty h hp, dec_eq]

set_option maxHeartbeats 8000000 in
theorem count_any (s : ByteArray) (w : World) (hz : s.size ≤ 1073741824) : Calls Try.prog 35 #[.string s] w fun e w' => e = .returned (.int .i64 (cut s 0).length) ∧ Keep [] w w' := by
  go_enter Try.func35, Try.ntmps35
  go_wp2
  go_loopw [3] (fun n wr => ∃ (l : List Nat) (p : Nat), At s l p ∧ n = .int .i64 l.length ∧ wr.heap[w.heap.size]? = some (.stringIter s p) ∧ Keep [] w wr) (fun _ wr => s.size - wr.iterPos w.heap.size)
  case atStart => exact ⟨[], 0, .zero, rfl, World.iter_heap w s 0, (Keep.refl _ _).alloc _⟩
  case round =>
    obtain ⟨l, p, hat, rfl, hit, hk⟩ := hrel
    have hll := hat.len
    have hple := hat.le
    have HA := Lib.hid hat; have HK := Lib.hid hk; clear hat hk
    by_cases hp : p < s.size
    · have hn := dec_n hp
      have hnx : ∀ ty, _ := fun ty => next_in (P := Try.prog) hit hp ty
      have hit2 := Lib.iterAt_heap wr w.heap.size s p (p + (dec s p).2) hit
      have HST := Lib.hid (HA.out.step hp)
      have HK2 := Lib.hid (keep_iterAt HK.out (Nat.le_refl _) s (p + (dec s p).2))
      generalize (dec s p).1 = r1 at *
      generalize (dec s p).2 = n1 at *
      go_wp2
      go_roundw
      case rel => exact ⟨l ++ [p], p + n1, HST.out, by rw [List.length_append]; go_num, hit2, HK2.out⟩
      case measure => simp only [World.iterPos, hit, hit2]; omega
    · have hnx : ∀ ty, _ := fun ty => Lib.run_next_end_at (P := Try.prog) wr w.heap.size s p ty hit hp
      obtain ⟨rfl, rfl⟩ := HA.out.done hp
      go_wp2
      go_ret
      exact ⟨rfl, HK.out⟩

set_option maxHeartbeats 8000000 in
theorem badAt_any (s : ByteArray) (w : World) (hz : s.size ≤ 1073741824) : Calls Try.prog 22 #[.string s] w fun e w' => e = .returned (.int .i64 (badAt s)) ∧ Keep [] w w' := by
  go_enter Try.func22, Try.ntmps22
  go_wp2
  go_loopw [] (fun wr => ∃ (l : List Nat) (p : Nat), At s l p ∧ (∀ j ∈ l, wid s j ≠ 0) ∧ wr.heap[w.heap.size]? = some (.stringIter s p) ∧ Keep [] w wr) (fun wr => s.size - wr.iterPos w.heap.size)
  case atStart => exact ⟨[], 0, .zero, by simp, World.iter_heap w s 0, (Keep.refl _ _).alloc _⟩
  case round =>
    obtain ⟨l, p, hat, hg, hit, hk⟩ := hrel
    have hple := hat.le
    have HA := Lib.hid hat; have HK := Lib.hid hk; have HG := Lib.hid hg; clear hat hk hg
    by_cases hp : p < s.size
    · have hn := dec_n hp
      have hnx : ∀ ty, _ := fun ty => next_in (P := Try.prog) hit hp ty
      have hit2 := Lib.iterAt_heap wr w.heap.size s p (p + (dec s p).2) hit
      have HST := Lib.hid (HA.out.step hp)
      have HK2 := Lib.hid (keep_iterAt HK.out (Nat.le_refl _) s (p + (dec s p).2))
      have htl := size_tail s p (by omega)
      by_cases hw : wid s p = 0
      · have hd := dec_of_wid hp hw
        have h1 : (dec s p).1 = 65533 := by rw [hd]
        have h2 : (dec s p).2 = 1 := by rw [hd]
        rw [h1] at hnx
        clear h1 h2 hd
        have HV := Lib.hid (badAt_some HA.out hp HG.out hw)
        have HW := Lib.hid ((wid_tail s p (by omega)).trans hw); clear hw
        generalize (dec s p).2 = n1 at *
        go_wp2_with fail
        refine (width_any (s.extract p s.size) _ (by omega) (by omega)).mono ?_
        rintro r w1 ⟨rfl, rfl⟩
        rw [HW.out]
        go_wp2
        go_ret
        exact ⟨by rw [HV.out]; rfl, HK2.out⟩
      · have HG2 : Hid (∀ j ∈ l ++ [p], wid s j ≠ 0) := by
          show ∀ j ∈ l ++ [p], wid s j ≠ 0
          intro j hj
          rcases List.mem_append.1 hj with hj | hj
          · exact HG.out j hj
          · simp at hj; subst hj; exact hw
        by_cases h1 : (dec s p).1 = 65533
        · rw [h1] at hnx
          have HW := Lib.hid (wid_tail s p (by omega))
          have hw0 : ((wid s p : Int) == 0) = false := by simpa using hw
          clear hw h1
          generalize wid s p = ww at *
          generalize (dec s p).2 = n1 at *
          go_wp2_with fail
          refine (width_any (s.extract p s.size) _ (by omega) (by omega)).mono ?_
          rintro r w1 ⟨rfl, rfl⟩
          rw [HW.out]
          go_wp2
          go_roundw
          case rel => exact ⟨l ++ [p], p + n1, HST.out, HG2.out, hit2, HK2.out⟩
          case measure => simp only [World.iterPos, hit, hit2]; omega
        · have hf : (((dec s p).1 : Int) == 65533) = false := by simp; omega
          clear hw h1
          generalize (dec s p).1 = r1 at *
          generalize (dec s p).2 = n1 at *
          go_wp2_with fail
          go_roundw
          case rel => exact ⟨l ++ [p], p + n1, HST.out, HG2.out, hit2, HK2.out⟩
          case measure => simp only [World.iterPos, hit, hit2]; omega
    · have hnx : ∀ ty, _ := fun ty => Lib.run_next_end_at (P := Try.prog) wr w.heap.size s p ty hit hp
      obtain ⟨rfl, rfl⟩ := HA.out.done hp
      have HV := Lib.hid (badAt_none HG.out)
      go_wp2
      go_ret
      exact ⟨by rw [HV.out]; rfl, HK.out⟩
end Go.Proofs.Ytddbjclpmkelaaa
