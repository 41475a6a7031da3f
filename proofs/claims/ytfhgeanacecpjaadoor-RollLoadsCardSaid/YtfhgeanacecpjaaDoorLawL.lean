/-
  RollLoads, walked.
-/
import Derived.Test.YtfhgeanacecpjaaDoorLawP
import Derived.StillTailTactics
namespace Go.Proofs.YtfhgeanacecpjaaDoor
open Go.RowKit Go.Shelf
set_option linter.unusedVariables false

/-- The first elements of an owned row, as a slice that is read. -/
theorem SlAt.prefix_ {w : World} {base : Nat} {e : TypeId} {g n cap : Nat} {xs ys : List Value} {m : Nat} (h : w.ownsRow base e 1 (.slice (some ⟨g, 0, none⟩) n cap) n (xs ++ ys)) (hm : xs.length = m) : SlAt w (.slice (some ⟨g, 0, none⟩) m cap) m xs := by
  refine ⟨_, cap, rfl, ⟨fun h0 => List.eq_nil_of_length_eq_zero (by omega), fun h => by cases h⟩, fun h0 => ⟨g, 0, rfl, fun i u hu => ?_⟩⟩
  have hi : i < xs.length := (List.getElem?_eq_some_iff.1 hu).1
  have hl := h.1
  rw [List.length_append] at hl
  rw [Nat.zero_add, h.cellAt i (by omega), List.getElem?_append_left hi]
  exact hu

/-- What the call's own row of numbers keeps while it is written over. -/
def RowOf (w : World) (base g n cap : Nat) : Prop := ∃ zs, w.ownsRow base 3 1 (.slice (some ⟨g, 0, none⟩) n cap) n zs
theorem RowOf.cell {w : World} {base g n cap : Nat} (h : RowOf w base g n cap) (k : Nat) (hk : k < n) : (∃ u, w.cell? ⟨g, k, none⟩ = some u) ∧ w.frozen? ⟨g, k, none⟩ = false := by
  obtain ⟨zs, h⟩ := h
  have hl := h.1
  refine ⟨⟨zs[k]'(by omega), ?_⟩, h.frozenAt k⟩
  rw [h.cellAt k (by omega), List.getElem?_eq_getElem (by omega)]
theorem RowOf.stored {w : World} {base g n cap : Nat} (h : RowOf w base g n cap) (k : Nat) (u : Value) : RowOf (w.setCell ⟨g, k, none⟩ u) base g n cap := by
  obtain ⟨zs, h⟩ := h
  exact ⟨_, (h.stored k u).1⟩
theorem RowOf.keep {w w' : World} {base g n cap : Nat} {L : List Nat} (h : RowOf w base g n cap) (k : Keep L w w') (hg : g ∉ L) : RowOf w' base g n cap := by
  obtain ⟨zs, h⟩ := h
  exact ⟨zs, k.owns h (fun g' hg' => by simp [Value.ownBlock] at hg'; subst hg'; exact hg)⟩

/-- Two rows of the call's own, each a list and 77 behind it. -/
structure Rows2 (w : World) (base : Nat) (js ls : List Int) (ga ca gb cb : Nat) : Prop where
  a : w.ownsRow base 3 1 (.slice (some ⟨ga, 0, none⟩) (js.length + 1) ca) (js.length + 1) (js.map (Value.int .i64) ++ [.int .i64 77])
  b : w.ownsRow base 3 1 (.slice (some ⟨gb, 0, none⟩) (ls.length + 1) cb) (ls.length + 1) (ls.map (Value.int .i64) ++ [.int .i64 77])
theorem Rows2.keep {w w' : World} {base : Nat} {js ls : List Int} {ga ca gb cb : Nat} (h : Rows2 w base js ls ga ca gb cb) (k : Keep [] w w') : Rows2 w' base js ls ga ca gb cb := ⟨k.owns h.a (by simp), k.owns h.b (by simp)⟩
theorem Rows2.sa {w : World} {base : Nat} {js ls : List Int} {ga ca gb cb : Nat} (h : Rows2 w base js ls ga ca gb cb) : SlAt w (.slice (some ⟨ga, 0, none⟩) js.length ca) js.length (js.map (Value.int .i64)) := SlAt.prefix_ h.a (by simp)
theorem Rows2.sb {w : World} {base : Nat} {js ls : List Int} {ga ca gb cb : Nat} (h : Rows2 w base js ls ga ca gb cb) : SlAt w (.slice (some ⟨gb, 0, none⟩) ls.length cb) ls.length (ls.map (Value.int .i64)) := SlAt.prefix_ h.b (by simp)
theorem Rows2.ea {w : World} {base : Nat} {js ls : List Int} {ga ca gb cb : Nat} (h : Rows2 w base js ls ga ca gb cb) : w.cell? ⟨ga, js.length, none⟩ = some (.int .i64 77) := by
  rw [h.a.cellAt js.length (by omega), List.getElem?_append_right (by simp)]; simp
theorem Rows2.eb {w : World} {base : Nat} {js ls : List Int} {ga ca gb cb : Nat} (h : Rows2 w base js ls ga ca gb cb) : w.cell? ⟨gb, ls.length, none⟩ = some (.int .i64 77) := by
  rw [h.b.cellAt ls.length (by omega), List.getElem?_append_right (by simp)]; simp

/-- An append of a list, then of one number, to nil: the row. -/
theorem two_apps {w w1 w2 w3 : World} {base : Nat} {v1 v2 : Value} {zs : List Int} (h1 : AppPost w base 3 1 (.slice none 0 0) 0 [] zs.length (zs.map (Value.int .i64)) v1 w1) (hk : Keep [] w1 w2)
    (h2 : AppPost w2 base 3 1 v1 zs.length (zs.map (Value.int .i64)) 1 [.int .i64 77] v2 w3) :
    ∃ g cap, v2 = .slice (some ⟨g, 0, none⟩) (zs.length + 1) cap ∧ w3.ownsRow base 3 1 v2 (zs.length + 1) (zs.map (Value.int .i64) ++ [.int .i64 77]) ∧ w.heap.size ≤ g ∧ g < w3.heap.size ∧ Keep [] w w3 := by
  obtain ⟨a1, a2, a3, a4⟩ := h1
  obtain ⟨b1, b2, b3, b4⟩ := h2
  have hk3 : Keep [] w w3 := ((a2.mono (L' := []) (by simp [Value.ownBlock])).trans0 hk).trans b2 (fun x hx => by
    simp at hx
    rcases a3 x hx with h | h
    · simp [Value.ownBlock] at h
    · exact .inr h)
  rcases b1.2 with ⟨_, h0⟩ | ⟨g, cap, cur, rfl, q1, q2, _⟩
  · omega
  · refine ⟨g, cap, rfl, b1, ?_, lt_of_block q2, hk3⟩
    rcases b3 g rfl with h | h
    · rcases a3 g h with h' | h'
      · simp [Value.ownBlock] at h'
      · exact h'
    · have := hk3.size; have := a2.size; have := hk.size; omega

theorem one_cells (zs : List Int) : ∀ u ∈ zs.map (Value.int .i64), u.oneCell' = true := by
  intro u hu
  obtain ⟨n, _, rfl⟩ := List.mem_map.1 hu
  rfl

/-- What Load answers, as one value. -/
def LoadV (js ls : List Int) (ep : Int) (w : World) (pv : Value) (w' : World) : Prop :=
  (loadErr js ls ep = 0 ∧ ∃ b, w.heap.size ≤ b ∧ pv = .pointer (some ⟨b, 0, none⟩) ∧ RollAt w' b (bitsOf 0 js) (bitsOf 0 ls) ep) ∨ (loadErr js ls ep ≠ 0 ∧ pv = .pointer none)
theorem load_sum (vj vl : Value) (js ls : List Int) (ep : Int) (w : World) (hj : SlAt w vj js.length (js.map (Value.int .i64))) (hl : SlAt w vl ls.length (ls.map (Value.int .i64)))
    (hjl : js.length ≤ 4611686018427387904) (hll : ls.length ≤ 4611686018427387904) (hep : ep ≤ 9223372036854775807) :
    Calls Tryd.prog 13 #[vj, vl, .int .i64 ep] w (fun e w' => ∃ pv, e = .returned (.tuple #[pv, .int .i64 (loadErr js ls ep)]) ∧ Keep [] w w' ∧ LoadV js ls ep w pv w') := by
  refine (load_any vj vl js ls ep w hj hl hjl hll hep).mono ?_
  rintro r w' ⟨hk, ⟨h0, b, hb, rfl, hr⟩ | ⟨hn, rfl⟩⟩
  · exact ⟨_, by rw [h0], hk, .inl ⟨h0, b, hb, rfl, hr⟩⟩
  · exact ⟨_, rfl, hk, .inr ⟨hn, rfl⟩⟩

set_option maxRecDepth 100000 in
set_option maxHeartbeats 8000000 in
theorem rollLoads_walk (vj : Value) (js : List Int) (vl : Value) (ls : List Int) (ep : Int) (vs : Value) (xs : List (Bool × Int)) (w : World) (hj : ElemsAt w vj 1 (fun x => [Value.int .i64 x]) js) (hl : ElemsAt w vl 1 (fun x => [Value.int .i64 x]) ls)
    (hep : ep ≤ 9223372036854775807) (hs : StepsAt w vs xs) (hT : TabW w) :
    Calls Tryd.prog 6 #[vj, vl, .int .i64 ep, vs] w fun e W' => e = .returned (.bool true) ∧ Keep [] w W' := by
  have HT := Lib.hid hT; clear hT
  have SJ := Lib.hid hj.sl; have SL := Lib.hid hl.sl; clear hj hl
  obtain ⟨adj, capj, rfl, _, _⟩ := SJ.out
  obtain ⟨adl, capl, rfl, _, _⟩ := SL.out
  obtain ⟨ads, caps, rfl, h1, _⟩ := hs
  have H1 := Lib.hid h1; clear h1
  have far : ∀ (_ : (300 : Int) < (js.length : Int) ∨ (300 : Int) < (ls.length : Int) ∨ (300 : Int) < (xs.length : Int)), Calls Tryd.prog 6 #[.slice adj js.length capj, .slice adl ls.length capl, .int .i64 ep, .slice ads xs.length caps] w fun e W' => e = .returned (.bool true) ∧ Keep [] w W' := by
    intro h
    by_cases c1 : (300 : Int) < (js.length : Int)
    · clear h
      go_enter Tryd.func6, Tryd.ntmps6
      go_wp2_with fail
      refine (known_true w HT.out).mono ?_
      rintro r w3 ⟨rfl, hk⟩
      go_wp2
      go_ret
      exact ⟨rfl, hk⟩
    · have c1' : decide ((300 : Int) < (js.length : Int)) = false := by simpa using c1
      by_cases c2 : (300 : Int) < (ls.length : Int)
      · clear h c1
        go_enter Tryd.func6, Tryd.ntmps6
        go_wp2_with fail
        refine (known_true w HT.out).mono ?_
        rintro r w3 ⟨rfl, hk⟩
        go_wp2
        go_ret
        exact ⟨rfl, hk⟩
      · have c2' : decide ((300 : Int) < (ls.length : Int)) = false := by simpa using c2
        have c3 : (300 : Int) < (xs.length : Int) := by omega
        clear h c1 c2
        go_enter Tryd.func6, Tryd.ntmps6
        go_wp2_with fail
        refine (known_true w HT.out).mono ?_
        rintro r w3 ⟨rfl, hk⟩
        go_wp2
        go_ret
        exact ⟨rfl, hk⟩
  by_cases c1 : (300 : Int) < (js.length : Int)
  · exact far (.inl c1)
  by_cases c2 : (300 : Int) < (ls.length : Int)
  · exact far (.inr (.inl c2))
  by_cases c3 : (300 : Int) < (xs.length : Int)
  · exact far (.inr (.inr c3))
  have c1' : decide ((300 : Int) < (js.length : Int)) = false := by simpa using c1
  have c2' : decide ((300 : Int) < (ls.length : Int)) = false := by simpa using c2
  have hjl : js.length ≤ 300 := by omega
  have hll : ls.length ≤ 300 := by omega
  clear far c1 c2
  obtain ⟨i0, hi, hz0, hz1, hz2⟩ := info_parts info_int
  have HI := Lib.hid hi; have HZ0 := Lib.hid hz0; have HZ1 := Lib.hid hz1; have HZ2 := Lib.hid hz2
  clear hi hz0 hz1 hz2
  go_enter Tryd.func6, Tryd.ntmps6
  go_wp2_with (with_reducible refine park_append 32 33 _ rfl ?_)
  refine wpList_append_sl _ rfl (.tmp 32) (.tmp 33) 32 rfl w.heap.size 3 i0 (.int .i64 0) 1 8 Tryd.underlying32 HI.out HZ0.out HZ1.out HZ2.out rfl (by decide) (.slice none 0 0) 0 [] rfl (World.ownsRow_nil _ _ _ _) (.slice adj js.length capj) js.length (js.map (Value.int .i64)) rfl SJ.out (by simp) (one_cells js) (by unfold maxLen; omega) (by omega) (Nat.le_refl _) ?_
  intro va Wa hpa
  have HPA := Lib.hid hpa; clear hpa
  go_wp2_with (with_reducible refine park_append 35 36 _ rfl ?_)
  refine wpList_append_mine _ rfl (.tmp 35) (.tmp 36) 32 rfl w.heap.size 3 i0 (.int .i64 0) 1 8 Tryd.underlying32 HI.out HZ0.out HZ1.out HZ2.out rfl (by decide) va js.length _ rfl (HPA.out.row0.alloc _) ⟨Wa.heap.size, 0, none⟩ 1 1 [.int .i64 77] rfl rfl (cell_one_new _ _ _) (by simp [Value.oneCell']) (by unfold maxLen; omega) (by omega) (by have := HPA.out.2.1.size; simp; omega) ?_
  intro va2 Wb hpb
  obtain ⟨ga, ca, rfl, hra, hga1, hga2, hkb⟩ := two_apps HPA.out ((Keep.refl _ _).alloc _) hpb
  have RA := Lib.hid hra; have KB := Lib.hid hkb; have SLb := Lib.hid (SL.out.keep0 hkb); clear hra hkb hpb HPA
  go_wp2_with (with_reducible refine park_append 38 39 _ rfl ?_)
  refine wpList_append_sl _ rfl (.tmp 38) (.tmp 39) 32 rfl w.heap.size 3 i0 (.int .i64 0) 1 8 Tryd.underlying32 HI.out HZ0.out HZ1.out HZ2.out rfl (by decide) (.slice none 0 0) 0 [] rfl (World.ownsRow_nil _ _ _ _) (.slice adl ls.length capl) ls.length (ls.map (Value.int .i64)) rfl SLb.out (by simp) (one_cells ls) (by unfold maxLen; omega) (by omega) (by have := KB.out.size; omega) ?_
  intro vb Wc hpc
  have HPC := Lib.hid hpc; clear hpc
  go_wp2_with (with_reducible refine park_append 41 42 _ rfl ?_)
  refine wpList_append_mine _ rfl (.tmp 41) (.tmp 42) 32 rfl w.heap.size 3 i0 (.int .i64 0) 1 8 Tryd.underlying32 HI.out HZ0.out HZ1.out HZ2.out rfl (by decide) vb ls.length _ rfl (HPC.out.row0.alloc _) ⟨Wc.heap.size, 0, none⟩ 1 1 [.int .i64 77] rfl rfl (cell_one_new _ _ _) (by simp [Value.oneCell']) (by unfold maxLen; omega) (by omega) (by have := HPC.out.2.1.size; have := KB.out.size; simp; omega) ?_
  intro vb2 Wd hpd
  obtain ⟨gb, cb, rfl, hrb, hgb1, hgb2, hkd⟩ := two_apps HPC.out ((Keep.refl _ _).alloc _) hpd
  have hR2 : Rows2 Wd w.heap.size js ls ga ca gb cb := ⟨hkd.owns RA.out (by simp), hrb⟩
  have KD := Lib.hid (KB.out.trans0 hkd)
  have GG := Lib.hid (show w.heap.size ≤ ga ∧ w.heap.size ≤ gb ∧ ga ≠ gb ∧ ga < Wd.heap.size ∧ gb < Wd.heap.size from ⟨hga1, by have := KB.out.size; omega, by omega, by have := hkd.size; omega, hgb2⟩)
  have hca : js.length + 1 ≤ ca := owns_cap hR2.a
  have hcb : ls.length + 1 ≤ cb := owns_cap hR2.b
  have hca2 : (js.length : Int) ≤ (ca : Int) := by omega
  have hcb2 : (ls.length : Int) ≤ (cb : Int) := by omega
  have hca3 : js.length ≤ ca := by omega
  have hcb3 : ls.length ≤ cb := by omega
  have hz1 : 0 ≤ (js.length : Int) := by omega
  have hz2 : 0 ≤ (ls.length : Int) := by omega
  have R2 := Lib.hid hR2
  clear hrb hkd hpd HPC hR2 RA KB hga1 hga2 hgb1 hgb2 SLb
  go_wp2
  go_region_held3 (fun _ => True) (exact trivial)
    (first
      | (go_at_call 13; refine (load_sum _ _ js ls ep Wd.drew (R2.out.keep ((Keep.refl [] Wd).drew)).sa (R2.out.keep ((Keep.refl [] Wd).drew)).sb (by omega) (by omega) hep).mono ?_; rintro r w2 ⟨pv, rfl, hk2, hp2⟩; have KE := Lib.hid (KD.out.drew.trans0 hk2); have R3 := Lib.hid (R2.out.keep (((Keep.refl [] Wd).drew).trans0 hk2)); have P2 := Lib.hid hp2; have GE := Lib.hid (show w.heap.size ≤ ga ∧ w.heap.size ≤ gb ∧ ga ≠ gb ∧ ga < Wd.heap.size ∧ gb < Wd.heap.size from GG.out); clear hk2 hp2))
  have hWd : Wd.drew.heap.size = Wd.heap.size := rfl
  have PB := Lib.hid (show ∀ b, Wd.drew.heap.size ≤ b → b ≠ ga ∧ b ≠ gb ∧ w.heap.size ≤ b from fun b hb => by have := GE.out; have := KD.out.size; omega)
  clear R2 GG KD hWd
  generalize Wd.drew = We at *
  generalize va = vaa at *
  generalize vb = vbb at *
  have h3' : decide ((300 : Int) < (xs.length : Int)) = false := by simpa using c3
  have hga : ((js.length : Nat) : Int) < ((js.length + 1 : Nat) : Int) := by omega
  have hgb : ((ls.length : Nat) : Int) < ((ls.length + 1 : Nat) : Int) := by omega
  go_wp2_with fail
  refine (rload_any _ _ js ls ep w2 (SJ.out.keep0 KE.out) (SL.out.keep0 KE.out) (by omega) (by omega) hep).mono ?_
  intro r w3 hr3
  have K3 := Lib.hid (KE.out.trans0 hr3.1); have R4 := Lib.hid (R3.out.keep hr3.1)
  have hints : ∀ (u : World) , Keep [] w3 u → Calls Tryd.prog 19 #[.slice (some ⟨ga, 0, none⟩) js.length ca, .slice adj js.length capj] u fun e w' => e = .returned (.bool true) ∧ Keep [] u w' := fun u hu => by
    refine (ints_any _ _ js js u (R4.out.keep hu).sa (SJ.out.keep0 (K3.out.trans0 hu)) (by omega) (by omega)).mono ?_
    rintro e w' ⟨rfl, hd⟩
    exact ⟨by rw [sameB_self], hd.keep⟩
  have hints2 : ∀ (u : World) , Keep [] w3 u → Calls Tryd.prog 19 #[.slice (some ⟨gb, 0, none⟩) ls.length cb, .slice adl ls.length capl] u fun e w' => e = .returned (.bool true) ∧ Keep [] u w' := fun u hu => by
    refine (ints_any _ _ ls ls u (R4.out.keep hu).sb (SL.out.keep0 (K3.out.trans0 hu)) (by omega) (by omega)).mono ?_
    rintro e w' ⟨rfl, hd⟩
    exact ⟨by rw [sameB_self], hd.keep⟩
  have I1 := Lib.hid hints; have I2 := Lib.hid hints2; clear hints hints2
  obtain ⟨hk3, ⟨hle, c, hc, rfl, hcr⟩ | ⟨hle, rfl⟩⟩ := hr3
  · rcases P2.out with ⟨_, b, hb, rfl, hbr⟩ | ⟨hne, _⟩
    · have HBC := Lib.hid (show (b ≠ ga ∧ b ≠ gb ∧ w.heap.size ≤ b) ∧ (c ≠ ga ∧ c ≠ gb ∧ w.heap.size ≤ c) ∧ b ≠ c from by
        have h1 := PB.out b hb
        have h2 := hbr.lt
        have h4 := GE.out
        have h5 := KE.out.size
        have h6 := R3.out.a.2
        have h7 := R3.out.b.2
        refine ⟨h1, ⟨?_, ?_, by omega⟩, by omega⟩
        · rcases h6 with ⟨_, h0⟩ | ⟨g, cap, cur, h8, q1, q2, _⟩
          · omega
          · cases h8; have := lt_of_block q2; omega
        · rcases h7 with ⟨_, h0⟩ | ⟨g, cap, cur, h8, q1, q2, _⟩
          · omega
          · cases h8; have := lt_of_block q2; omega)
      have hinv := Inv.of_load hle
      have HIv := Lib.hid hinv
      have hB3 : BothS w3 b c (bitsOf 0 js, bitsOf 0 ls, ep) := ⟨hbr.keep hk3 (by simp), hcr, HBC.out.2.2, hinv.j0, hinv.l0⟩
      have HB3 := Lib.hid hB3
      generalize (bitsOf 0 js, bitsOf 0 ls, ep) = st0 at *
      rw [hle]
      clear hinv hB3 hcr hbr hb hc hk3 P2 R3 KE PB
      go_wp2_with fail
      refine (I1.out w3 (Keep.refl _ _)).mono ?_
      rintro r w4 ⟨rfl, hk4⟩
      have K4 := Lib.hid hk4; clear hk4
      go_wp2_with fail
      refine (I2.out w4 K4.out).mono ?_
      rintro r w5 ⟨rfl, hk5⟩
      have K5 := Lib.hid (K3.out.trans0 (K4.out.trans0 hk5)); have R5 := Lib.hid (R4.out.keep (K4.out.trans0 hk5)); have HB5 := Lib.hid (HB3.out.keep (K4.out.trans0 hk5) (by simp) (by simp)); clear hk5 K4 K3 R4 HB3 I1 I2
      have he1 := R5.out.ea
      have he2 := R5.out.eb
      go_wp2
      have RW1 := Lib.hid (show RowOf w5 w.heap.size ga (js.length + 1) ca from ⟨_, R5.out.a⟩)
      have RW2 := Lib.hid (show RowOf w5 w.heap.size gb (ls.length + 1) cb from ⟨_, R5.out.b⟩)
      clear he1 he2 R5
      go_loopw [15] (fun i wr => ∃ k : Nat, k ≤ js.length + 1 ∧ i = .int .i64 k ∧ RowOf wr w.heap.size ga (js.length + 1) ca ∧ RowOf wr w.heap.size gb (ls.length + 1) cb ∧ BothS wr b c st0 ∧ Keep [] w wr) (fun i _ => js.length + 1 - (intOf i).toNat)
      case atStart => exact ⟨0, Nat.zero_le _, rfl, RW1.out, RW2.out, HB5.out, K5.out⟩
      case round =>
        clear RW1 RW2 HB5 K5
        obtain ⟨k, hk, rfl, hr1, hr2, hB, hK⟩ := hrel
        have R1 := Lib.hid hr1; have R2 := Lib.hid hr2; have HB := Lib.hid hB; have HK := Lib.hid hK; clear hr1 hr2 hB hK
        by_cases hlt : k < js.length + 1
        · obtain ⟨⟨u, hc1⟩, hc2⟩ := R1.out.cell k hlt
          go_wp2
          go_roundw
          case rel => exact ⟨k + 1, hlt, by go_num, R1.out.stored k _, R2.out.keep ((Keep.refl [ga] wr).setCell (by simp) _) (by have := GE.out; simp; omega), HB.out.keep ((Keep.refl [ga] wr).setCell (by simp) _) (by have := HBC.out; simp; omega) (by have := HBC.out; simp; omega), HK.out.setCell (by right; exact GE.out.1) _⟩
          case measure => simp [intOf]; omega
        · obtain rfl : k = js.length + 1 := by omega
          clear hlt hk
          go_wp2
          go_loopw [16] (fun i wr => ∃ k : Nat, k ≤ ls.length + 1 ∧ i = .int .i64 k ∧ RowOf wr w.heap.size gb (ls.length + 1) cb ∧ BothS wr b c st0 ∧ Keep [] w wr) (fun i _ => ls.length + 1 - (intOf i).toNat)
          case atStart => exact ⟨0, Nat.zero_le _, rfl, R2.out, HB.out, HK.out⟩
          case round =>
            clear R1 R2 HB HK
            obtain ⟨k, hk, rfl, hr2, hB, hK⟩ := hrel
            have R2 := Lib.hid hr2; have HB := Lib.hid hB; have HK := Lib.hid hK; clear hr2 hB hK
            by_cases hlt : k < ls.length + 1
            · obtain ⟨⟨u, hc1⟩, hc2⟩ := R2.out.cell k hlt
              go_wp2
              go_roundw
              case rel => exact ⟨k + 1, hlt, by go_num, R2.out.stored k _, HB.out.keep ((Keep.refl [gb] wr).setCell (by simp) _) (by have := HBC.out; simp; omega) (by have := HBC.out; simp; omega), HK.out.setCell (by right; exact GE.out.2.1) _⟩
              case measure => simp [intOf]; omega
            · obtain rfl : k = ls.length + 1 := by omega
              clear hlt hk R2
              go_wp2
              go_loopw [17] (fun i wr => ∃ k : Nat, k ≤ xs.length ∧ i = .int .i64 k ∧ BothS wr b c (runS st0 (xs.take k)) ∧ Keep [] w wr) (fun i _ => xs.length - (intOf i).toNat)
              case atStart => exact ⟨0, Nat.zero_le _, rfl, HB.out, HK.out⟩
              case round =>
                clear HB HK
                obtain ⟨k, hk, rfl, hB, hK⟩ := hrel
                have HB := Lib.hid hB; have HK := Lib.hid hK; clear hB hK
                have HI := Lib.hid (HIv.out.run (xs.take k))
                by_cases hlt : k < xs.length
                · obtain ⟨bs, off, rfl, hcs⟩ := H1.out (by omega)
                  have htake := List.take_succ_eq_append_getElem hlt
                  have HTK := Lib.hid htake; clear htake
                  have hcc := fun w' (h : Keep [] w w') => ElemsAt.cells2 hcs h k hlt
                  have hst := fun w' (h : BothS w' b c _) => step_s b c _ xs[k] w' h HI.out
                  generalize xs[k] = x at *
                  have HST := Lib.hid hst; have HCC := Lib.hid hcc; clear hst hcc hcs
                  go_wp2_with fail
                  refine (alike_any b c _ _ _ wr HB.out (HT.out.keep HK.out (by simp))).mono ?_
                  rintro r w6 ⟨rfl, hk6⟩
                  have HB6 := Lib.hid (HB.out.keep hk6 (by simp) (by simp)); have HK6 := Lib.hid (HK.out.trans0 hk6); clear hk6
                  obtain ⟨c3, c4⟩ := HCC.out w6 HK6.out
                  go_wp2_with fail
                  refine (HST.out w6 HB6.out).mono ?_
                  rintro r w7 ⟨rfl, hB7, hk7⟩
                  have HB7 := Lib.hid hB7; have HK7 := Lib.hid (HK6.out.trans hk7 (by have := HBC.out; simp; omega)); clear hB7 hk7
                  go_wp2
                  refine ⟨⟨_, _, _, _, _, _, _, _, _, _, _, _, _, _, _, _, _, _, _, _, _, _, ?rel, rfl⟩, ?measure⟩
                  case rel => exact ⟨k + 1, hlt, by go_num, by rw [HTK.out, runS_snoc]; exact HB7.out, HK7.out⟩
                  case measure => simp [intOf]; omega
                · obtain rfl : k = xs.length := by omega
                  clear hlt hk
                  go_wp2_with fail
                  refine (alike_any b c _ _ _ wr HB.out (HT.out.keep HK.out (by simp))).mono ?_
                  rintro r w6 ⟨rfl, hk6⟩
                  have HK6 := Lib.hid (HK.out.trans0 hk6); clear hk6
                  go_wp2_with fail
                  refine (known_true w6 (HT.out.keep HK6.out (by simp))).mono ?_
                  rintro r w7 ⟨rfl, hk7⟩
                  go_wp2
                  go_ret
                  exact ⟨rfl, HK6.out.trans0 hk7⟩
    · exact absurd hle hne
  · rcases P2.out with ⟨hne, _⟩ | ⟨_, rfl⟩
    · exact absurd hne hle
    · have hee : ((loadErr js ls ep) != (loadErr js ls ep)) = false := by simp
      have hee2 : ((loadErr js ls ep) != 0) = true := by simpa using hle
      clear hle hk3 P2 R3 KE PB
      generalize loadErr js ls ep = er at *
      go_wp2_with fail
      refine (I1.out w3 (Keep.refl _ _)).mono ?_
      rintro r w4 ⟨rfl, hk4⟩
      have K4 := Lib.hid hk4; clear hk4
      go_wp2_with fail
      refine (I2.out w4 K4.out).mono ?_
      rintro r w5 ⟨rfl, hk5⟩
      have K5 := Lib.hid (K3.out.trans0 (K4.out.trans0 hk5)); have R5 := Lib.hid (R4.out.keep (K4.out.trans0 hk5)); clear hk5 K4 K3 R4 I1 I2
      have he1 := R5.out.ea
      have he2 := R5.out.eb
      go_wp2_with fail
      refine (known_true w5 (HT.out.keep K5.out (by simp))).mono ?_
      rintro r w6 ⟨rfl, hk6⟩
      go_wp2
      go_ret
      exact ⟨rfl, K5.out.trans0 hk6⟩
end Go.Proofs.YtfhgeanacecpjaaDoor
