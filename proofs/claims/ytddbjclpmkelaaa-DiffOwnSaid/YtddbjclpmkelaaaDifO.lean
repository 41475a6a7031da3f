/-
  Invert.
-/
import Derived.Test.YtddbjclpmkelaaaDifN
import Derived.Test.YtddbjclpmkelaaaQuietT
namespace Go.Proofs.Ytddbjclpmkelaaa
open Go.RowKit
set_option linter.unusedVariables false
set_option linter.unusedSimpArgs false

/-- An Edit that is handed on, in memory. -/
def edvCell (e : EdV) : List Value := [.int .i64 e.1, .int .i64 e.2.1, .string e.2.2]
def edvCells (l : List EdV) : List Value := l.flatMap edvCell
theorem edvCells_snoc (l : List EdV) (e : EdV) : edvCells (l ++ [e]) = edvCells l ++ edvCell e := by simp [edvCells]
theorem edvCells_length (l : List EdV) : (edvCells l).length = l.length * 3 := by
  induction l with
  | nil => rfl
  | cons e l ih => simp only [edvCells, List.flatMap_cons, List.length_append] at *; rw [ih]; simp [edvCell]; omega
def edv (e : Ed) : EdV := ((e.keep : Int), (e.drop : Int), txt e.text)
theorem edCells_edv (l : List Ed) : edCells l = edvCells (l.map edv) := by
  induction l with
  | nil => rfl
  | cons e l ih => simp only [edCells, edvCells, List.flatMap_cons, List.map_cons] at *; rw [ih]; rfl
theorem edv_flat (l : List EdV) : ∀ (k j : Nat) (e : EdV), l[k]? = some e → j < 3 → (edvCells l)[k * 3 + j]? = (edvCell e)[j]? := by
  induction l with
  | nil => intro k j e h; simp at h
  | cons a l ih =>
    intro k j e h hj
    have e1 : edvCells (a :: l) = edvCell a ++ edvCells l := by simp [edvCells]
    rw [e1]
    cases k with
    | zero =>
      simp at h; subst h
      rw [List.getElem?_append_left (by simp [edvCell]; omega)]
      simp
    | succ k =>
      rw [List.getElem?_append_right (by simp [edvCell]; omega)]
      have : (k + 1) * 3 + j - (edvCell a).length = k * 3 + j := by simp [edvCell]; omega
      rw [this]
      exact ih k j e (by simpa using h) hj
theorem EdAt.of_owns {W : World} {base : Nat} {t : TypeId} {v : Value} {l : List EdV} (h : W.ownsRow base t 3 v l.length (edvCells l)) : EdAt W v l := by
  obtain ⟨ad, cap, rfl, ⟨h0, _⟩, hc⟩ := SlAt.of_owns h
  refine ⟨ad, cap, rfl, fun hn => ?_⟩
  obtain ⟨b, off, rfl, hcc⟩ := hc hn
  refine ⟨b, off, rfl, fun i e he => ⟨?_, ?_, ?_⟩⟩
  · exact hcc (i * 3) _ (by have := edv_flat l i 0 e he (by omega); rw [Nat.add_zero] at this; rw [this]; rfl)
  · rw [Nat.add_assoc]; exact hcc (i * 3 + 1) _ (by rw [edv_flat l i 1 e he (by omega)]; rfl)
  · rw [Nat.add_assoc]; exact hcc (i * 3 + 2) _ (by rw [edv_flat l i 2 e he (by omega)]; rfl)

/-- The inverse of a change, by what it drops. -/
def invL : List EdV → List (List Int) → List EdV
  | e :: l, g :: gs => (e.1, ((cut e.2.2 0).length : Int), txt g) :: invL l gs
  | _, _ => []
theorem invL_length : ∀ (l : List EdV) (gs : List (List Int)), l.length = gs.length → (invL l gs).length = l.length
  | [], [], _ => rfl
  | e :: l, g :: gs, h => by simp [invL]; exact invL_length l gs (by simpa using h)
theorem invL_take : ∀ (l : List EdV) (gs : List (List Int)) (k : Nat) (hk : k < l.length) (hk2 : k < gs.length), invL (l.take (k + 1)) (gs.take (k + 1)) = invL (l.take k) (gs.take k) ++ [(l[k].1, ((cut l[k].2.2 0).length : Int), txt gs[k])]
  | e :: l, g :: gs, 0, _, _ => by simp [invL]
  | e :: l, g :: gs, k + 1, h1, h2 => by
    simp only [List.take_succ_cons, invL, List.cons_append, List.getElem_cons_succ]
    rw [invL_take l gs k (by simpa using h1) (by simpa using h2)]
theorem ap_gone (l : List EdV) : ∀ (x out : List Int) (gone : List (List Int)) (o : List Int) (g : List (List Int)), ap x l out gone = (0, o, g) → g.length = gone.length + l.length := by
  induction l with
  | nil => intro x out gone o g h; simp [ap] at h; rw [h.2]; simp
  | cons e l ih =>
    intro x out gone o g h
    rw [ap] at h
    split at h
    · simp at h
    · split at h
      · simp at h
      · split at h
        · simp at h
        · have := ih _ _ _ _ _ h; simp at this ⊢; omega
theorem apAll_gone {a : ByteArray} {l : List EdV} (h : (apAll a l).1 = 0) : (apAll a l).2.2.length = l.length := by
  unfold apAll at h ⊢
  split at h
  · simp at h
  · rename_i hb
    rw [if_neg hb]
    generalize ho : ap (runs a 0) l [] [] = o at *
    obtain ⟨c, o1, g⟩ := o
    simp only at h; subst h
    have := ap_gone l _ _ _ _ _ ho
    simpa using this
/-- What Invert answers. -/
def invOut (a : ByteArray) (l : List EdV) : Int × List EdV := if (apAll a l).1 = 0 then (0, invL l (apAll a l).2.2) else ((apAll a l).1, [])
def NewEdV (k : IntKind) (o : Int × List EdV) (w : World) (r : Ending) (w' : World) : Prop :=
  ∃ v, r = .returned (.tuple #[v, .int k o.1]) ∧ w'.ownsRow w.heap.size 32 3 v o.2.length (edvCells o.2) ∧ Keep [] w w' ∧ (v = .slice none 0 0 ↔ o.2.length = 0)

set_option maxRecDepth 100000 in
set_option maxHeartbeats 16000000 in
theorem invert_any (a : ByteArray) (va : Value) (l : List EdV) (w : World) (he : EdAt w va l) (hl : l.length ≤ 1000) (ha : a.size ≤ 1000000) (hb : ∀ e ∈ l, -9223372036854775808 ≤ e.1 ∧ e.1 ≤ 9223372036854775807 ∧ -9223372036854775808 ≤ e.2.1 ∧ e.2.1 ≤ 9223372036854775807 ∧ e.2.2.size ≤ 10000) :
    Calls Try.prog 17 #[.string a, va] w (NewEdV .i64 (invOut a l) w) := by
  obtain ⟨i0, hi, hz0, hz1, hz2⟩ := info_parts info_edit
  have HI := Lib.hid hi; have HZ0 := Lib.hid hz0; have HZ1 := Lib.hid hz1; have HZ2 := Lib.hid hz2
  clear hi hz0 hz1 hz2
  obtain ⟨ada, ca, rfl, h1⟩ := id he
  have H1 := Lib.hid h1; clear h1
  obtain ⟨n, hn⟩ : ∃ n, n = l.length := ⟨_, rfl⟩
  rw [← hn]
  have HNN := Lib.hid hn; have HB := Lib.hid hb; have HE := Lib.hid he; have HL := Lib.hid hl; clear hn hb he hl
  have HG := Lib.hid (@apAll_gone a l)
  go_enter Try.func17, Try.ntmps17
  go_wp2_with fail
  refine (walk_any a _ l _ (by rw [HNN.out]; exact HE.out) HL.out ha HB.out).mono ?_
  rintro q w1 ⟨vg, rfl, hg, hk1, _⟩
  have hcode : (apAll a l).1 = 0 ∨ ¬ (apAll a l).1 = 0 := Classical.em _
  have HINV : Hid (invOut a l = if (apAll a l).1 = 0 then (0, invL l (apAll a l).2.2) else ((apAll a l).1, [])) := by show invOut a l = _; rfl
  have HGR := Lib.hid hg; have HK1 := Lib.hid hk1; clear hg hk1
  have hl := HL.out
  rw [← HNN.out] at hl
  generalize apAll a l = o at *
  obtain ⟨c, oo, gs⟩ := o
  simp only at *
  rcases hcode with rfl | hc
  · rw [if_pos rfl] at HINV
    have hgl := HG.out rfl
    have HGS := Lib.hid (SlAt.of_owns HGR.out)
    obtain ⟨adg, cg, rfl, _⟩ := HGS.out
    rw [hgl, ← HNN.out] at HGS ⊢
    have hl2 : n ≤ 1000 := hl
    have HGL := Lib.hid hgl; clear hgl
    go_wp2_with fail
    go_loopw [9, 24] (fun so si wr => ∃ k : Nat, k ≤ n ∧ si = .int .i64 k ∧ wr.ownsRow w1.heap.size 32 3 so k (edvCells (invL (l.take k) (gs.take k))) ∧ (so = .slice none 0 0 ↔ k = 0) ∧ Keep [] w1 wr) (fun _ si _ => n - (intOf si).toNat)
    case atStart => exact ⟨0, by omega, rfl, World.ownsRow_nil _ _ _ _, by simp, Keep.refl _ _⟩
    case round =>
      obtain ⟨k, hk, rfl, hrow, hnil, hkp⟩ := hrel
      have HR := Lib.hid hrow; have HNIL := Lib.hid hnil; have HK := Lib.hid hkp; clear hrow hnil hkp
      by_cases hlt : k < n
      · have hltd : decide (k < n) = true := by simpa using hlt
        have hkl : k < l.length := by rw [← HNN.out]; exact hlt
        have hkg : k < gs.length := by rw [HGL.out]; exact hkl
        obtain ⟨b1, o1, rfl, c1⟩ := H1.out (by rw [← HNN.out]; omega)
        obtain ⟨p1, p2, p3⟩ := c1 k _ (List.getElem?_eq_getElem hkl)
        have d1 := HK.out.cellv (HK1.out.cellv p1 (by simp)) (by simp)
        have d2 := HK.out.cellv (HK1.out.cellv p2 (by simp)) (by simp)
        have d3 := HK.out.cellv (HK1.out.cellv p3 (by simp)) (by simp)
        obtain ⟨b2, o2, cg2, hvg, c2⟩ := HGS.out.at_ (by omega)
        cases hvg
        have d4 := HK.out.cellv (c2 k (.string (txt gs[k])) (by unfold goneCells; rw [List.getElem?_map, List.getElem?_eq_getElem hkg]; rfl)) (by simp)
        obtain ⟨hx0, hx1, hx2, hx3, hx4⟩ := HB.out _ (List.getElem_mem hkl)
        have htk := invL_take l gs k hkl hkg
        have HTK := Lib.hid htk; have C1 := Lib.hid c1; have C2 := Lib.hid c2; clear c1 c2 p1 p2 p3 htk
        generalize l[k] = e at *
        generalize gs[k] = gk at *
        obtain ⟨ek, ed, et⟩ := e
        simp only at hx0 hx1 hx2 hx3 hx4 d1 d2 d3
        have hki : ((k : Int) < (n : Int)) := by omega
        go_upto_region 8 with (fail)
        generalize hW : wr.alloc (.cells #[.int .i64 ek, .int .i64 ed, .string et] 32) = W2
        have k2 : Keep [] wr W2 := by rw [← hW]; exact (Keep.refl _ _).alloc _
        have hb2 : W2.heap[wr.heap.size]? = some (.cells #[.int .i64 ek, .int .i64 ed, .string et] 32 (0, 0)) := by rw [← hW]; exact heap_alloc_new _ _
        have e0 : W2.cell? ⟨wr.heap.size, 0, none⟩ = some (.int .i64 ek) := by rw [cell_of_block hb2]; rfl
        have e2 : W2.cell? ⟨wr.heap.size, 2, none⟩ = some (.string et) := by rw [cell_of_block hb2]; rfl
        have e4 := k2.cellv d4 (by simp)
        obtain ⟨I, f, hf1, hf2⟩ := kept_class W2
        have q0 : ∀ i, (f i).cell? _ = _ := fun i => (hf1 i).cellv e0 (by simp)
        have q2 : ∀ i, (f i).cell? _ = _ := fun i => (hf1 i).cellv e2 (by simp)
        have q4 : ∀ i, (f i).cell? _ = _ := fun i => (hf1 i).cellv e4 (by simp)
        obtain ⟨iw, hiw⟩ := hf2 W2.drew (Keep.refl _ _).drew
        haveI : Nonempty I := ⟨iw⟩
        have HF1 := Lib.hid hf1; have HF2 := Lib.hid hf2; have HK2 := Lib.hid (HK.out.trans0 k2)
        have HR2 := Lib.hid (k2.owns HR.out (by simp))
        clear hW k2 hb2 d1 d2 d3 d4 e0 e2 e4 hf1 hf2
        refine wp_quiet_tail1 10 f ⟨iw, hiw⟩ (by kernel_rfl) (by kernel_rfl) rfl _ (fun _ _ _ h => h) (.inl ⟨rfl, fun _ => rfl⟩) ?_
        clear hiw iw
        simp only [List.take_succ_cons, List.take_zero, List.drop_succ_cons, List.drop_zero]
        repeat (quiet_step ((refine (count_any et _ (by omega)).mono ?_; rintro e w'' ⟨rfl, hk⟩; exact ⟨rfl, HF2.out _ ((HF1.out _).trans0 hk)⟩)))
        refine wpQuiet_nil ?_
        intro i
        have hkq := HF1.out i
        clear q0 q2 q4 HF1 HF2
        generalize f i = wq at *
        have HRq := Lib.hid (hkq.owns HR2.out (by simp)); have HKq := Lib.hid (HK2.out.trans0 hkq)
        clear hkq HR2 HK2 i f
        have hszq := HKq.out.size
        have hsz1 := HK1.out.size
        go_wp2_with (with_reducible refine park_append 29 40 _ rfl ?_)
        refine wpList_append_mine _ rfl (.tmp 29) (.tmp 40) 23 rfl w1.heap.size 32 i0 (.agg #[.int .i64 0, .int .i64 0, .string ByteArray.empty]) 3 32 Try.underlying23 HI.out HZ0.out HZ1.out HZ2.out rfl (by decide) _ _ _ rfl (HRq.out.alloc _) ⟨wq.heap.size, 0, none⟩ 1 1 [.int .i64 ek, .int .i64 (cut et 0).length, .string (txt gk)] rfl rfl (cell_new_row _ _ _) (by simp [Value.oneCell']) (by unfold maxLen; omega) (by omega) (by simp; omega) ?_
        intro v' w8 hp8
        obtain ⟨a1, a2, a3, a4⟩ := own_next2 (w := w1) (wr := wq) (base := w1.heap.size) (by omega) HRq.out HKq.out ((Keep.refl _ _).alloc _) hp8 (by omega)
        have HA1 := Lib.hid a1; have HA2 := Lib.hid a2; have HA3 := Lib.hid a3
        clear a1 a2 a3 a4 hp8
        go_wp2_with fail
        go_roundw
        case rel =>
          refine ⟨k + 1, by omega, by go_num, ?_, HA3.out, HA2.out⟩
          rw [HTK.out, edvCells_snoc]
          exact HA1.out
        case measure => simp [intOf]; omega
      · have hltd : decide (k < n) = false := by simpa using hlt
        obtain rfl : k = n := by omega
        have hrow := HR.out
        rw [List.take_of_length_le (by rw [← HNN.out]; omega), List.take_of_length_le (by rw [HGL.out, ← HNN.out]; omega)] at hrow
        have HR3 := Lib.hid hrow; clear hrow HR
        go_wp2_with fail
        go_ret2
        rw [HINV.out]
        have hil := invL_length l gs HGL.out.symm
        exact ⟨_, rfl, by rw [hil, ← HNN.out]; exact owns_mono HR3.out HK1.out.size, HK1.out.trans0 HK.out, by rw [hil, ← HNN.out]; exact HNIL.out⟩
  · rw [if_neg hc] at HINV
    have hcb : (c != 0) = true := by simpa using hc
    go_wp2_with fail
    go_ret2
    rw [HINV.out]
    exact ⟨_, rfl, World.ownsRow_nil _ _ _ _, HK1.out, by simp⟩
end Go.Proofs.Ytddbjclpmkelaaa
