/-
  What a scanner finds: one thing; the reference's plain.
-/
import Derived.Test.YtbidppjhenfjdaaGreatDoorScnB
import Derived.Test.YtbidppjhenfjdaaGreatDoorRow
namespace Go.Proofs.YtbidppjhenfjdaaGreatDoor
open Go.RowKit
set_option linter.unusedVariables false
set_option linter.unusedSimpArgs false

/-- A word, and its error. -/
structure Fn where
  k : Nat
  t : ByteArray
  n : Int
  a : Nat
  l : Nat
  e : Nat
def Fn.vals (f : Fn) : Array Value := #[.int .i64 (f.k : Nat), .string f.t, .int .i64 f.n, .int .i64 (f.a : Nat), .int .i64 (f.l : Nat), .int .i64 (f.e : Nat)]
/-- A word that is not quoted, from a byte on, and the byte behind it; none: an error. -/
def plF (s : ByteArray) (a l : Nat) : Fn × Option Nat :=
  if (pw s a).2 ≠ 0 then (⟨0, ByteArray.empty, 0, (pw s a).1, l, (pw s a).2⟩, none)
  else if numB (s.extract a (pw s a).1) = false then (⟨1, s.extract a (pw s a).1, 0, a, l, 0⟩, some (pw s a).1)
  else match numT (s.extract a (pw s a).1).data.toList with
    | none => (⟨0, ByteArray.empty, 0, a, l, 6⟩, none)
    | some v => (⟨3, ByteArray.empty, v, a, l, 0⟩, some (pw s a).1)
def endV (o : Option Nat) : Int := match o with | none => -1 | some e => (e : Int)
theorem plF_off {s : ByteArray} {a l e c : Nat} (h : pw s a = (e, c)) (hc : c ≠ 0) : plF s a l = (⟨0, ByteArray.empty, 0, e, l, c⟩, none) := by unfold plF; rw [h]; exact if_pos hc
theorem plF_word {s : ByteArray} {a l e : Nat} (h : pw s a = (e, 0)) (hn : numB (s.extract a e) = false) : plF s a l = (⟨1, s.extract a e, 0, a, l, 0⟩, some e) := by
  unfold plF; rw [h]; exact (if_neg (by simp)).trans (if_pos hn)
theorem plF_bad {s : ByteArray} {a l e : Nat} (h : pw s a = (e, 0)) (hn : numB (s.extract a e) = true) (ht : numT (s.extract a e).data.toList = none) : plF s a l = (⟨0, ByteArray.empty, 0, a, l, 6⟩, none) := by
  unfold plF; rw [h]; refine (if_neg (by simp)).trans ((if_neg (by rw [hn]; simp)).trans ?_); simp only; rw [ht]
theorem plF_num {s : ByteArray} {a l e : Nat} {v : Int} (h : pw s a = (e, 0)) (hn : numB (s.extract a e) = true) (ht : numT (s.extract a e).data.toList = some v) : plF s a l = (⟨3, ByteArray.empty, v, a, l, 0⟩, some e) := by
  unfold plF; rw [h]; refine (if_neg (by simp)).trans ((if_neg (by rw [hn]; simp)).trans ?_); simp only; rw [ht]
theorem found_info : (Tryz.prog.info? 73).map (·.size) = some 6 := by kernel_rfl
theorem results_cell_2 {P : Program} {fn : Func} {p q : Tmp} {ty : TypeId} (h : fn.results = #[.cell p ty, .tmp q]) (tmps : Array Value) (w : World) (b : Nat) (v u : Value)
    (hp : tmps.getD p undef = .pointer (some ⟨b, 0, none⟩)) (hq : tmps.getD q undef = u) (hl : (loadVar ty ⟨b, 0, none⟩).run P w = .ok v w) : (results fn tmps).run P w = .ok (.tuple #[v, u]) w := by
  have hp' : tmps[p]?.getD undef = .pointer (some ⟨b, 0, none⟩) := by simpa using hp
  have hq' : tmps[q]?.getD undef = u := by simpa using hq
  simp [results, h, hp', hq', asAddr, hl]

def zeroF : Array Value := #[.int .i64 0, .string ⟨#[]⟩, .int .i64 0, .int .i64 0, .int .i64 0, .int .i64 0]
set_option maxHeartbeats 32000000 in
set_option maxRecDepth 100000 in
theorem rplain_any (s : ByteArray) (a l : Nat) (w : World) (hz : s.size ≤ 100000000) (ha : endB s a = false) : Calls Tryz.prog 50 #[.string s, .int .i64 (a : Nat), .int .i64 (l : Nat)] w fun e w' => e = .returned (.tuple #[.agg (plF s a l).1.vals, .int .i64 (endV (plF s a l).2)]) ∧ Keep [] w w' := by
  have has := (endB_lt ha).1
  have hrb := World.alloc_heap_new w (.cells zeroF 73)
  have ka := (Keep.refl [] w).alloc (.cells zeroF 73)
  have HST : Hid (∀ (W : World) (f : Fn), Keep [] w W → W.heap[w.heap.size]? = some (.cells zeroF 73 (0, 0)) →
      ∃ W', (Instr.storeAt 73 (.pointer (some ⟨w.heap.size, 0, none⟩)) (.agg f.vals)).run Tryz.prog W = .ok () W' ∧ (loadVar 73 ⟨w.heap.size, 0, none⟩).run Tryz.prog W' = .ok (.agg f.vals) W' ∧ Keep [] w W') := Lib.hid (fun W f hk hb => by
    obtain ⟨W', h1, h2, h3⟩ := store_row (P := Tryz.prog) (t := 73) (cs := f.vals) found_info hb rfl rfl (by simp [Fn.vals, Value.oneCell'])
    exact ⟨W', h1, load_var (P := Tryz.prog) Tryz.underlying73 rfl found_info h2 rfl, hk.trans h3 (fun x hx => by simp at hx; exact .inr (by omega))⟩)
  go_enter Tryz.func50, Tryz.ntmps50
  go_wp2_with fail
  unfold zeroF at hrb ka
  obtain ⟨W1, hW1⟩ : ∃ W1, W1 = w.alloc (.cells #[.int .i64 0, .string ⟨#[]⟩, .int .i64 0, .int .i64 0, .int .i64 0, .int .i64 0] 73) := ⟨_, rfl⟩
  rw [← hW1] at hrb ka ⊢
  clear hW1
  go_loopw [8] (fun v wr => ∃ i : Nat, v = .int .i64 i ∧ i ≤ s.size ∧ pw s a = pw s i ∧ (a < i ∨ endB s i = false) ∧ a ≤ i ∧ Keep [] w wr ∧ wr.heap[w.heap.size]? = some (.cells zeroF 73 (0, 0))) (fun v _ => s.size - (intOf v).toNat)
  case atStart => exact ⟨a, rfl, by omega, rfl, .inr ha, Nat.le_refl _, ka, hrb⟩
  case round =>
    clear ka hrb
    obtain ⟨i, rfl, hi, hp, hai, hale, hk, hb⟩ := hrel
    have HP := Lib.hid hp; have HK := Lib.hid hk; have HRB := Lib.hid hb; clear hp hk hb
    have HE := Lib.hid (fun W => rends_any s i W hz)
    cases he : endB s i with
    | true =>
      rw [he] at HE
      have HPW := Lib.hid (HP.out.trans (pw_end he))
      have hlt : a < i := by
        rcases hai with h | h
        · exact h
        · rw [he] at h; cases h
      clear hai he
      have hsl := fun W => slice_str (s := s) (p := a) (n := i - a) (by omega) W
      rw [show (a : Int) + ((i - a : Nat) : Int) = (i : Int) by omega, show a + (i - a) = i by omega] at hsl
      have hxz : (s.extract a i).size = i - a := by rw [ByteArray.size_extract]; omega
      have HW := Lib.hid (fun h => plF_word (l := l) HPW.out h)
      have HBD := Lib.hid (fun h1 h2 => plF_bad (l := l) HPW.out h1 h2)
      have HNM := Lib.hid (fun (v : Int) h1 h2 => plF_num (l := l) (v := v) HPW.out h1 h2)
      generalize s.extract a i = x at *
      have hx0 := byte_z (s := x) (i := 0) (z := 0) (by omega) rfl
      have HNA := Lib.hid (fun W h => rnumber_any x W (by omega) (by omega) h)
      have hxm : x.size ≤ 100000000 := by omega
      clear hxz
      obtain ⟨c, hc⟩ : ∃ c : Int, c = ((byt x 0 : Nat) : Int) := ⟨_, rfl⟩
      rw [← hc] at hx0
      have hfirst : (c = 45 ∧ decide ((1 : Int) < (x.size : Int)) = true ∧ decide (1 < x.size) = true ∧ 1 < x.size ∧ numB x = digB (byt x 1)) ∨ (c = 45 ∧ decide ((1 : Int) < (x.size : Int)) = false ∧ decide (1 < x.size) = false ∧ numB x = false) ∨ ((c == 45) = false ∧ numB x = digB (byt x 0)) := by
        by_cases h : byt x 0 = 45
        · have hn : numB x = digB (byt x 1) := by unfold numB; rw [if_pos h]
          by_cases h1 : 1 < x.size
          · exact .inl ⟨by omega, dec_lt_t (by omega), dec_ltn_t h1, h1, hn⟩
          · exact .inr (.inl ⟨by omega, dec_lt_f (by omega), dec_ltn_f h1, by rw [hn, byt_end (by omega)]; rfl⟩)
        · exact .inr (.inr ⟨((ar4 hc).2 h).1, by unfold numB; rw [if_neg h]⟩)
      have HFS : Hid (∀ (n : Nat) (d : Int), d = (n : Nat) → (digB n = true ∧ decide (d < 48) = false ∧ decide ((57 : Int) < d) = false) ∨ (digB n = false ∧ decide (d < 48) = true) ∨ (digB n = false ∧ decide (d < 48) = false ∧ decide ((57 : Int) < d) = true)) := Lib.hid (fun n d hd => by
        by_cases h1 : n < 48
        · exact .inr (.inl ⟨decide_eq_false (by omega), dec_lt_t (by omega)⟩)
        · by_cases h2 : 57 < n
          · exact .inr (.inr ⟨decide_eq_false (by omega), dec_lt_f (by omega), dec_lt_t (by omega)⟩)
          · exact .inl ⟨decide_eq_true (by omega), dec_lt_f (by omega), dec_lt_f (by omega)⟩)
      rcases hfirst with ⟨rfl, f1, f2, h1x, hn⟩ | ⟨rfl, f1, f2, hn⟩ | ⟨f1, hn⟩
      · have hx1 := byte_z (s := x) (i := 1) (z := 1) h1x rfl
        obtain ⟨d, hd⟩ : ∃ d : Int, d = ((byt x 1 : Nat) : Int) := ⟨_, rfl⟩
        rw [← hd] at hx1
        have hfs := HFS.out _ d hd
        clear hc hd HFS h1x hlt hale
        rcases hfs with ⟨g0, g1, g2⟩ | ⟨g0, g1⟩ | ⟨g0, g1, g2⟩
        · have HNN := Lib.hid (fun W => HNA.out W (hn.trans g0))
          have hnb := hn.trans g0
          cases hnt : numT x.data.toList with
          | none =>
            have HR := Lib.hid (HBD.out hnb hnt)
            rw [hnt] at HNN
            obtain ⟨W9, hs9, hl9, hk9⟩ := HST.out _ ⟨0, ByteArray.empty, 0, a, l, 6⟩ HK.out HRB.out
            have HL9 := Lib.hid hl9; have HK9 := Lib.hid hk9
            clear hl9 hk9 HW HBD HNM HNA hn g0 hnb hnt
            go_wp2_with fail
            refine (HE.out _).mono ?_
            rintro e w1 ⟨rfl, rfl⟩
            go_wp2_with fail
            refine (HNN.out _).mono ?_
            rintro e w1 ⟨⟨z, rfl, _⟩, rfl⟩
            simp only [Option.isSome_none]
            go_wp2_with (with_reducible refine park_store 6 90 _ rfl ?_)
            refine wpList_store_eq rfl _ (.tmp 6) (.tmp 90) rfl hs9 ?_
            clear hs9
            go_wp2
            exact bodyPost_ret (results_cell_2 rfl _ _ w.heap.size _ _ rfl rfl HL9.out) rfl ⟨by rw [HR.out]; rfl, HK9.out⟩
          | some v =>
            have HR := Lib.hid (HNM.out v hnb hnt)
            rw [hnt] at HNN
            obtain ⟨W9, hs9, hl9, hk9⟩ := HST.out _ ⟨3, ByteArray.empty, v, a, l, 0⟩ HK.out HRB.out
            have HL9 := Lib.hid hl9; have HK9 := Lib.hid hk9
            clear hl9 hk9 HW HBD HNM HNA hn g0 hnb hnt
            go_wp2_with fail
            refine (HE.out _).mono ?_
            rintro e w1 ⟨rfl, rfl⟩
            go_wp2_with fail
            refine (HNN.out _).mono ?_
            rintro e w1 ⟨⟨z, rfl, hzv⟩, rfl⟩
            obtain rfl := hzv v rfl
            clear hzv
            simp only [Option.isSome_some]
            go_wp2_with (with_reducible refine park_store 6 95 _ rfl ?_)
            refine wpList_store_eq rfl _ (.tmp 6) (.tmp 95) rfl hs9 ?_
            clear hs9
            go_wp2
            exact bodyPost_ret (results_cell_2 rfl _ _ w.heap.size _ _ rfl rfl HL9.out) rfl ⟨by rw [HR.out]; rfl, HK9.out⟩
        · have HR := Lib.hid (HW.out (hn.trans g0))
          obtain ⟨W9, hs9, hl9, hk9⟩ := HST.out _ ⟨1, x, 0, a, l, 0⟩ HK.out HRB.out
          have HL9 := Lib.hid hl9; have HK9 := Lib.hid hk9
          clear hl9 hk9 HW HBD HNM HNA hn g0
          go_wp2_with fail
          refine (HE.out _).mono ?_
          rintro e w1 ⟨rfl, rfl⟩
          go_wp2_with (with_reducible refine park_store 6 78 _ rfl ?_)
          refine wpList_store_eq rfl _ (.tmp 6) (.tmp 78) rfl hs9 ?_
          clear hs9
          go_wp2
          exact bodyPost_ret (results_cell_2 rfl _ _ w.heap.size _ _ rfl rfl HL9.out) rfl ⟨by rw [HR.out]; rfl, HK9.out⟩
        · have HR := Lib.hid (HW.out (hn.trans g0))
          obtain ⟨W9, hs9, hl9, hk9⟩ := HST.out _ ⟨1, x, 0, a, l, 0⟩ HK.out HRB.out
          have HL9 := Lib.hid hl9; have HK9 := Lib.hid hk9
          clear hl9 hk9 HW HBD HNM HNA hn g0
          go_wp2_with fail
          refine (HE.out _).mono ?_
          rintro e w1 ⟨rfl, rfl⟩
          go_wp2_with (with_reducible refine park_store 6 78 _ rfl ?_)
          refine wpList_store_eq rfl _ (.tmp 6) (.tmp 78) rfl hs9 ?_
          clear hs9
          go_wp2
          exact bodyPost_ret (results_cell_2 rfl _ _ w.heap.size _ _ rfl rfl HL9.out) rfl ⟨by rw [HR.out]; rfl, HK9.out⟩
      · clear hc HFS hlt hale
        have HR := Lib.hid (HW.out hn)
        obtain ⟨W9, hs9, hl9, hk9⟩ := HST.out _ ⟨1, x, 0, a, l, 0⟩ HK.out HRB.out
        have HL9 := Lib.hid hl9; have HK9 := Lib.hid hk9
        clear hl9 hk9 HW HBD HNM HNA hn
        go_wp2_with fail
        refine (HE.out _).mono ?_
        rintro e w1 ⟨rfl, rfl⟩
        go_wp2_with (with_reducible refine park_store 6 78 _ rfl ?_)
        refine wpList_store_eq rfl _ (.tmp 6) (.tmp 78) rfl hs9 ?_
        clear hs9
        go_wp2
        exact bodyPost_ret (results_cell_2 rfl _ _ w.heap.size _ _ rfl rfl HL9.out) rfl ⟨by rw [HR.out]; rfl, HK9.out⟩
      · have hfs := HFS.out _ c hc
        clear hc HFS hlt hale
        rcases hfs with ⟨g0, g1, g2⟩ | ⟨g0, g1⟩ | ⟨g0, g1, g2⟩
        · have HNN := Lib.hid (fun W => HNA.out W (hn.trans g0))
          have hnb := hn.trans g0
          cases hnt : numT x.data.toList with
          | none =>
            have HR := Lib.hid (HBD.out hnb hnt)
            rw [hnt] at HNN
            obtain ⟨W9, hs9, hl9, hk9⟩ := HST.out _ ⟨0, ByteArray.empty, 0, a, l, 6⟩ HK.out HRB.out
            have HL9 := Lib.hid hl9; have HK9 := Lib.hid hk9
            clear hl9 hk9 HW HBD HNM HNA hn g0 hnb hnt
            go_wp2_with fail
            refine (HE.out _).mono ?_
            rintro e w1 ⟨rfl, rfl⟩
            go_wp2_with fail
            refine (HNN.out _).mono ?_
            rintro e w1 ⟨⟨z, rfl, _⟩, rfl⟩
            simp only [Option.isSome_none]
            go_wp2_with (with_reducible refine park_store 6 90 _ rfl ?_)
            refine wpList_store_eq rfl _ (.tmp 6) (.tmp 90) rfl hs9 ?_
            clear hs9
            go_wp2
            exact bodyPost_ret (results_cell_2 rfl _ _ w.heap.size _ _ rfl rfl HL9.out) rfl ⟨by rw [HR.out]; rfl, HK9.out⟩
          | some v =>
            have HR := Lib.hid (HNM.out v hnb hnt)
            rw [hnt] at HNN
            obtain ⟨W9, hs9, hl9, hk9⟩ := HST.out _ ⟨3, ByteArray.empty, v, a, l, 0⟩ HK.out HRB.out
            have HL9 := Lib.hid hl9; have HK9 := Lib.hid hk9
            clear hl9 hk9 HW HBD HNM HNA hn g0 hnb hnt
            go_wp2_with fail
            refine (HE.out _).mono ?_
            rintro e w1 ⟨rfl, rfl⟩
            go_wp2_with fail
            refine (HNN.out _).mono ?_
            rintro e w1 ⟨⟨z, rfl, hzv⟩, rfl⟩
            obtain rfl := hzv v rfl
            clear hzv
            simp only [Option.isSome_some]
            go_wp2_with (with_reducible refine park_store 6 95 _ rfl ?_)
            refine wpList_store_eq rfl _ (.tmp 6) (.tmp 95) rfl hs9 ?_
            clear hs9
            go_wp2
            exact bodyPost_ret (results_cell_2 rfl _ _ w.heap.size _ _ rfl rfl HL9.out) rfl ⟨by rw [HR.out]; rfl, HK9.out⟩
        · have HR := Lib.hid (HW.out (hn.trans g0))
          obtain ⟨W9, hs9, hl9, hk9⟩ := HST.out _ ⟨1, x, 0, a, l, 0⟩ HK.out HRB.out
          have HL9 := Lib.hid hl9; have HK9 := Lib.hid hk9
          clear hl9 hk9 HW HBD HNM HNA hn g0
          go_wp2_with fail
          refine (HE.out _).mono ?_
          rintro e w1 ⟨rfl, rfl⟩
          go_wp2_with (with_reducible refine park_store 6 78 _ rfl ?_)
          refine wpList_store_eq rfl _ (.tmp 6) (.tmp 78) rfl hs9 ?_
          clear hs9
          go_wp2
          exact bodyPost_ret (results_cell_2 rfl _ _ w.heap.size _ _ rfl rfl HL9.out) rfl ⟨by rw [HR.out]; rfl, HK9.out⟩
        · have HR := Lib.hid (HW.out (hn.trans g0))
          obtain ⟨W9, hs9, hl9, hk9⟩ := HST.out _ ⟨1, x, 0, a, l, 0⟩ HK.out HRB.out
          have HL9 := Lib.hid hl9; have HK9 := Lib.hid hk9
          clear hl9 hk9 HW HBD HNM HNA hn g0
          go_wp2_with fail
          refine (HE.out _).mono ?_
          rintro e w1 ⟨rfl, rfl⟩
          go_wp2_with (with_reducible refine park_store 6 78 _ rfl ?_)
          refine wpList_store_eq rfl _ (.tmp 6) (.tmp 78) rfl hs9 ?_
          clear hs9
          go_wp2
          exact bodyPost_ret (results_cell_2 rfl _ _ w.heap.size _ _ rfl rfl HL9.out) rfl ⟨by rw [HR.out]; rfl, HK9.out⟩
    | false =>
      rw [he] at HE
      have his := (endB_lt he).1
      have hn := dec_n his
      have hix := byte_z (s := s) (i := i) (z := (i : Nat)) his rfl
      clear hai
      have HAL := Lib.hid hale
      clear hale
      by_cases h1 : byt s i = 34
      · have hlow : byt s i < 128 := by omega
        have hd34 : (dec s i).1 = 34 := by rw [(dec_low his hlow).1]; exact h1
        have HR := Lib.hid (plF_off (l := l) (HP.out.trans (pw_quote he hd34)) (by decide))
        rw [h1] at hix
        clear he h1 hd34 hn his hlow
        obtain ⟨W9, hs9, hl9, hk9⟩ := HST.out _ ⟨0, ByteArray.empty, 0, i, l, 18⟩ HK.out HRB.out
        have HL9 := Lib.hid hl9; have HK9 := Lib.hid hk9
        clear hl9 hk9
        go_wp2_with fail
        refine (HE.out _).mono ?_
        rintro e w1 ⟨rfl, rfl⟩
        go_wp2_with (with_reducible refine park_store 6 28 _ rfl ?_)
        refine wpList_store_eq rfl _ (.tmp 6) (.tmp 28) rfl hs9 ?_
        clear hs9
        go_wp2
        exact bodyPost_ret (results_cell_2 rfl _ _ w.heap.size _ _ rfl rfl HL9.out) rfl ⟨by rw [HR.out]; rfl, HK9.out⟩
      · have hd34 : (dec s i).1 ≠ 34 := fun e => h1 (by rw [low_of his (by omega)]; exact e)
        obtain ⟨ci, hci⟩ : ∃ ci : Int, ci = ((byt s i : Nat) : Int) := ⟨_, rfl⟩
        rw [← hci] at hix
        have g1 : (ci == 34) = false := ((ar4 hci).2 h1).1
        have HD := Lib.hid (fun W => rdecode_in s i W (by omega) his)
        have HISB := Lib.hid (show isB s i = decide (wid s i ≠ 0) from rfl)
        unfold decV at HD
        obtain ⟨ri, hri⟩ : ∃ ri : Int, ri = (((dec s i).1 : Nat) : Int) := ⟨_, rfl⟩
        rw [← hri] at HD
        have hoff : ((wid s i = 0 ∨ (dec s i).1 < 32 ∨ (dec s i).1 = 127) ∧ ((isB s i = false) ∨ (isB s i = true ∧ decide (ri < 32) = true) ∨ (isB s i = true ∧ decide (ri < 32) = false ∧ (ri == 127) = true))) ∨ (¬ (wid s i = 0 ∨ (dec s i).1 < 32 ∨ (dec s i).1 = 127) ∧ isB s i = true ∧ decide (ri < 32) = false ∧ (ri == 127) = false) := by
          rw [HISB.out]
          by_cases a1 : wid s i = 0
          · exact .inl ⟨.inl a1, .inl (by simp [a1])⟩
          · by_cases a2 : (dec s i).1 < 32
            · exact .inl ⟨.inr (.inl a2), .inr (.inl ⟨by simp [a1], dec_lt_t (by omega)⟩)⟩
            · by_cases a3 : (dec s i).1 = 127
              · exact .inl ⟨.inr (.inr a3), .inr (.inr ⟨by simp [a1], dec_lt_f (by omega), (ar4 hri).1 a3⟩)⟩
              · exact .inr ⟨by omega, by simp [a1], dec_lt_f (by omega), ((ar4 hri).2 a3).1⟩
        clear HISB hri hci h1
        rcases hoff with ⟨b1, b2⟩ | ⟨b1, b2, b3, b4⟩
        · have HR := Lib.hid (plF_off (l := l) (HP.out.trans (pw_bad he hd34 b1)) (by decide))
          clear he b1 hd34 hn his
          generalize (((dec s i).2 : Nat) : Int) = ni at *
          rcases b2 with b2 | ⟨b2, b3⟩ | ⟨b2, b3, b4⟩
          all_goals
            rw [b2] at HD
            clear b2
            go_wp2_with fail
            refine (HE.out _).mono ?_
            rintro e w1 ⟨rfl, rfl⟩
            go_wp2_with fail
            refine (HD.out _).mono ?_
            rintro e w1 ⟨rfl, hk1⟩
            obtain ⟨W9, hs9, hl9, hk9⟩ := HST.out _ ⟨0, ByteArray.empty, 0, i, l, 2⟩ (HK.out.trans0 hk1) (hk1.at_ HRB.out (by simp))
            have HL9 := Lib.hid hl9; have HK9 := Lib.hid hk9
            clear hl9 hk9 hk1
            go_wp2_with (with_reducible refine park_store 6 49 _ rfl ?_)
            refine wpList_store_eq rfl _ (.tmp 6) (.tmp 49) rfl hs9 ?_
            clear hs9
            go_wp2
            exact bodyPost_ret (results_cell_2 rfl _ _ w.heap.size _ _ rfl rfl HL9.out) rfl ⟨by rw [HR.out]; rfl, HK9.out⟩
        · have HR := Lib.hid (HP.out.trans (pw_on he hd34 b1))
          rw [b2] at HD
          clear he b1 b2 hd34
          go_wp2_with fail
          refine (HE.out _).mono ?_
          rintro e w1 ⟨rfl, rfl⟩
          go_wp2_with fail
          refine (HD.out _).mono ?_
          rintro e w1 ⟨rfl, hk1⟩
          have HK1 := Lib.hid (HK.out.trans0 hk1); have HRB1 := Lib.hid (hk1.at_ HRB.out (by simp))
          clear hk1
          go_wp2
          go_roundw
          case rel => exact ⟨i + (dec s i).2, by go_num, hn.2.2, HR.out, .inl (by have := HAL.out; omega), by have := HAL.out; omega, HK1.out, HRB1.out⟩
          case measure => simp [intOf]; omega
end Go.Proofs.YtbidppjhenfjdaaGreatDoor
