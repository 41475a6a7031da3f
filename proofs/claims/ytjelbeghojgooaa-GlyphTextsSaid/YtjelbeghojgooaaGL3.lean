/-
  GlyphTexts, walked.
-/
import Derived.Test.YtjelbeghojgooaaGlyO
import Derived.Deep.RegionHeld3
namespace Go.Proofs.Ytjelbeghojgooaa
open Go.RowKit
set_option linter.unusedVariables false
set_option linter.unusedSimpArgs false

set_option maxRecDepth 100000 in
set_option maxHeartbeats 8000000 in
theorem glyphTexts_walk (va : Value) (l : List Int) (w : World) (ha : ElemsAt w va 1 (fun x => [Value.int .i32 x]) l) :
    Calls Try.prog 5 #[va] w fun e w' => e = .returned (.bool true) ∧ Keep [] w w' := by
  have hsl := ha.runes
  obtain ⟨ad, cap, rfl, hx1, hx2⟩ := hsl
  have HSL := Lib.hid (show SlAt w (.slice ad l.length cap) l.length (l.map (Value.int .i32)) from ⟨ad, cap, rfl, hx1, hx2⟩)
  have HC := Lib.hid hx2; clear hx1 hx2 ha
  obtain ⟨i0, hi, hz0, hz1, hz2⟩ := info_parts info_rune
  have HI := Lib.hid hi; have HZ0 := Lib.hid hz0; have HZ1 := Lib.hid hz1; have HZ2 := Lib.hid hz2
  clear hi hz0 hz1 hz2
  obtain ⟨n, hn⟩ : ∃ n, n = l.length := ⟨_, rfl⟩
  rw [← hn] at HSL ⊢
  have HNN := Lib.hid hn; clear hn
  by_cases hz : n ≤ 20000
  · have hzd : decide ((20000 : Int) < (n : Int)) = false := by simp; omega
    go_enter Try.func5, Try.ntmps5
    go_wp2
    go_loopw [3] (fun i wr => ∃ k : Nat, k ≤ n ∧ i = .int .i64 k ∧ Keep [] w wr) (fun i _ => n - (intOf i).toNat)
    case atStart => exact ⟨0, Nat.zero_le _, rfl, Keep.refl _ _⟩
    case round =>
      obtain ⟨k, hk, rfl, hkp⟩ := hrel
      have HK := Lib.hid hkp; clear hkp
      by_cases hlt : k < n
      · have hltd : decide (k < n) = true := by simpa using hlt
        have hkl : k < l.length := by rw [← HNN.out]; exact hlt
        obtain ⟨b, off, rfl, hcs⟩ := HC.out (by rw [← HNN.out]; omega)
        have hc1 := HK.out.cellv (hcs k (.int .i32 l[k]) (by rw [List.getElem?_map, List.getElem?_eq_getElem hkl]; rfl)) (by simp)
        have hcall := fun w' (h : Keep [] w w') => h.cellv (hcs k (.int .i32 l[k]) (by rw [List.getElem?_map, List.getElem?_eq_getElem hkl]; rfl)) (by simp)
        have HCS := Lib.hid hcs; have HCA := Lib.hid hcall; clear hcs hcall
        generalize l[k] = x at *
        go_wp2_with fail
        go_region_held3 (fun w' => w'.cell? ⟨b, off + k, none⟩ = some (.int .i32 x)) (first | exact hc1 | exact hc3)
          (first
            | (go_at_call 28; refine (encode_any x _).mono ?_; rintro q w1 ⟨rfl, rfl⟩)
            | (go_at_call 29; refine (rencode_any x _).mono ?_; rintro q w1 ⟨rfl, hk1⟩; have HK1 := Lib.hid (HK.out.drew.trans0 hk1); have hc3 := HCA.out _ HK1.out; clear hk1))
        generalize Utf8.encode x = E at *
        go_wp2
        go_roundw
        case rel => exact ⟨k + 1, by omega, by go_num, HK1.out⟩
        case measure => simp [intOf]; omega
      · have hltd : decide (k < n) = false := by simpa using hlt
        obtain rfl : k = n := by omega
        have hsz := HK.out.size
        have HS1 := Lib.hid (HSL.out.keep0 HK.out)
        clear hlt hk
        go_wp2_with (with_reducible refine park_append 27 28 _ rfl ?_)
        refine wpList_append_sl _ rfl (.tmp 27) (.tmp 28) 31 rfl w.heap.size 21 i0 (.int .i32 0) 1 4 Try.underlying31 HI.out HZ0.out HZ1.out HZ2.out rfl (by decide) (.slice none 0 0) 0 [] rfl (World.ownsRow_nil _ _ _ _) (.slice ad k cap) k (l.map (Value.int .i32)) rfl HS1.out (by simp; exact HNN.out.symm) (rune_cells l) (by unfold maxLen; omega) (by omega) hsz ?_
        intro v1 Wa hpa
        have hown0 := own_nxt (World.ownsRow_nil _ _ _ _) HK.out (Keep.refl _ _) hpa
        rw [Nat.zero_add, List.nil_append] at hown0
        have HR0 := Lib.hid hown0.1; have HK0 := Lib.hid hown0.2
        have hsza := hown0.2.size
        clear hpa hown0
        go_wp2_with (with_reducible refine park_append 30 31 _ rfl ?_)
        refine wpList_append_mine _ rfl (.tmp 30) (.tmp 31) 31 rfl w.heap.size 21 i0 (.int .i32 0) 1 4 Try.underlying31 HI.out HZ0.out HZ1.out HZ2.out rfl (by decide) v1 k _ rfl (HR0.out.alloc _) ⟨Wa.heap.size, 0, none⟩ 1 1 [.int .i32 30583] rfl rfl (cell_one_new _ _ _) (by simp [Value.oneCell']) (by unfold maxLen; omega) (by omega) (by simp; omega) ?_
        intro v2 Wb hpb
        obtain ⟨ho2, hkb⟩ := own_nxt HR0.out HK0.out ((Keep.refl _ _).alloc _) hpb
        obtain ⟨g, c2, rfl, hc2, hcm, hg1, hg2, hcells⟩ := own_some ho2 (by omega)
        have HS2 := Lib.hid (HSL.out.keep0 hkb)
        have hlast := hcells k (.int .i32 30583) (by rw [List.getElem?_append_right (by simp; rw [HNN.out]; exact Nat.le_refl _)]; simp [HNN.out])
        have HHD := Lib.hid (own_head (cap := c2) (n := k + 1) hcells (l.map (Value.int .i32)) k (by simp; exact HNN.out.symm) (fun i u hu => by rw [List.getElem?_append_left (List.getElem?_eq_some_iff.1 hu).1]; exact hu))
        have HKB := Lib.hid hkb
        have HLST := Lib.hid hlast
        have HNL := HNN.out
        have HHD2 : Hid (SlAt Wb (.slice (some ⟨g, 0, none⟩) l.length c2) l.length (l.map (Value.int .i32))) := by show SlAt _ _ _ _; rw [← HNL]; exact HHD.out
        have HS22 : Hid (SlAt Wb (.slice ad l.length cap) l.length (l.map (Value.int .i32))) := by show SlAt _ _ _ _; rw [← HNL]; exact HS2.out
        clear HNL
        unfold maxLen at hcm
        clear hpb ho2 hcells hkb hlast HR0 HK0
        have hkc : (k : Int) ≤ (c2 : Int) := by omega
        go_wp2_with fail
        have ht := text_any _ l Wb HHD2.out
        have ht2 := rtext_any _ l Wb HS22.out (by rw [← HNN.out]; omega)
        have ht3 := fun W (h : Keep [] Wb W) => runes_true _ _ l W (HHD2.out.keep0 h) (HS22.out.keep0 h) (by rw [← HNN.out]; omega)
        rw [← HNN.out] at ht ht2 ht3
        have HT := Lib.hid ht; have HT2 := Lib.hid ht2; have HT3 := Lib.hid ht3; clear ht ht2 ht3
        refine HT.out.mono ?_
        rintro q W1 ⟨rfl, rfl⟩
        go_wp2_with fail
        refine HT2.out.mono ?_
        rintro q W2 ⟨rfl, hk2⟩
        have HK2 := Lib.hid hk2; clear hk2
        generalize txt l = T at *
        go_wp2_with fail
        refine (HT3.out W2 HK2.out).mono ?_
        rintro q W3 ⟨rfl, hk3⟩
        have HK3 := Lib.hid (HK2.out.trans0 hk3); clear hk3
        have hl3 := HK3.out.cellv HLST.out (by simp)
        go_wp2_with fail
        refine (known_true _).mono ?_
        rintro q W4 ⟨rfl, hk4⟩
        have HK4 := Lib.hid (HK3.out.trans0 hk4); clear hk4
        go_wp2
        go_ret
        exact ⟨rfl, HKB.out.trans0 HK4.out⟩
  · have hzd : decide ((20000 : Int) < (n : Int)) = true := by simp; omega
    go_enter Try.func5, Try.ntmps5
    go_wp2_with fail
    refine (known_true _).mono ?_
    rintro q w3 ⟨rfl, hk3⟩
    have HK3 := Lib.hid hk3; clear hk3
    go_wp2
    go_ret
    exact ⟨rfl, HK3.out⟩
end Go.Proofs.Ytjelbeghojgooaa
