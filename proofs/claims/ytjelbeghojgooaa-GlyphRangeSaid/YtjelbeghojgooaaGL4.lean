/-
  GlyphMeets, walked.
-/
import Derived.Test.YtjelbeghojgooaaGlyO
namespace Go.Proofs.Ytjelbeghojgooaa
open Go.RowKit
set_option linter.unusedVariables false
set_option linter.unusedSimpArgs false

theorem info_int : (Try.prog.info? 3).map (fun i => (i.zero, i.size, i.bytes)) = some (some (.int .i64 0), 1, 8) := by kernel_rfl
/-- Where a piece ends. -/
def pend (s : ByteArray) (i : Nat) : Int := (i : Int) + ((dec s i).2 : Int)
def endCs (s : ByteArray) (l : List Nat) : List Value := l.map fun i => .int .i64 (pend s i)
theorem endCs_snoc (s : ByteArray) (l : List Nat) (i : Nat) : endCs s (l ++ [i]) = endCs s l ++ [.int .i64 (pend s i)] := by simp [endCs]
theorem encode_same (n : Int) (w : World) : Calls Try.prog 28 #[.int .i32 n] w fun e w' => e = .returned (.string (Utf8.encode n)) ∧ w' = w :=
  (encode_any n w).mono fun _ _ ⟨h, hw⟩ => ⟨h, hw.symm⟩
/-- Behind a piece the next one begins. -/
theorem pend_next {s : ByteArray} {k : Nat} (hk : k + 1 < (cut s 0).length) : pend s ((cut s 0)[k]'(by omega)) = ((cut s 0)[k + 1] : Int) := by
  obtain ⟨h1, h2⟩ := at_get s (k + 1) hk
  have h3 : (cut s 0).take (k + 1) = (cut s 0).take k ++ [(cut s 0)[k]'(by omega)] := List.take_succ_eq_append_getElem (by omega)
  rw [h3] at h1
  have hpos : 0 < (cut s 0)[k + 1] := by
    refine Nat.pos_of_ne_zero fun h => ?_
    have := h1.zero_iff.2 h
    rw [List.length_append, List.length_singleton] at this
    omega
  obtain ⟨l', i, e, _, _, h5⟩ := h1.inv hpos
  have h6 := List.append_inj_right' e rfl
  simp at h6
  unfold pend
  rw [h6, h5]
  omega

theorem owns_drewN {w : World} {base : Nat} {e : TypeId} {sz n : Nat} {v : Value} {xs : List Value} (h : w.ownsRow base e sz v n xs) (q : Nat) : (w.drewN q).ownsRow base e sz v n xs := h

set_option maxRecDepth 100000 in
set_option maxHeartbeats 16000000 in
theorem glyphMeets_walk (s : ByteArray) (w : World) (hs : s.size ≤ maxLen) :
    Calls Try.prog 6 #[.string s] w fun e w' => e = .returned (.bool true) ∧ Keep [] w w' := by
  unfold maxLen at hs
  by_cases hz : s.size ≤ 20000
  · have hzd : decide ((20000 : Int) < (s.size : Int)) = false := by simp; omega
    obtain ⟨i0, hi, hz0, hz1, hz2⟩ := info_parts info_int
    have HI := Lib.hid hi; have HZ0 := Lib.hid hz0; have HZ1 := Lib.hid hz1; have HZ2 := Lib.hid hz2
    clear hi hz0 hz1 hz2
    have hcl := cut_len_le s 0 (Nat.zero_le _)
    go_enter Try.func6, Try.ntmps6
    go_wp2
    go_loopw [3, 4] (fun v i wr => ∃ (l : List Nat) (p : Nat), At s l p ∧ i = .int .i64 p ∧ wr.ownsRow w.heap.size 3 1 v l.length (endCs s l) ∧ Keep [] w wr) (fun _ i _ => s.size - (intOf i).toNat)
    case atStart => exact ⟨[], 0, .zero, rfl, World.ownsRow_nil _ _ _ _, Keep.refl _ _⟩
    case round =>
      obtain ⟨l, p, hat, rfl, hown, hk⟩ := hrel
      have hp := hat.le
      have hll := hat.len
      have HA := Lib.hid hat; have HO := Lib.hid hown; have HK := Lib.hid hk
      clear hat hown hk
      by_cases hlt : p < s.size
      · have hltd : decide (p < s.size) = true := by simpa using hlt
        have hn := dec_n hlt
        obtain ⟨hn1, hn4, hns⟩ := hn
        have hsz := HK.out.size
        have HST := Lib.hid (HA.out.step hlt)
        have HES := Lib.hid (endCs_snoc s l p)
        have HPE : Hid (pend s p = (p : Int) + ((dec s p).2 : Int)) := by show pend s p = _; rfl
        rw [HPE.out] at HES
        clear HPE
        by_cases hw : wid s p = 0
        · have hd := dec_of_wid hlt hw
          have hb : isB s p = false := by unfold isB; simpa using hw
          have HD : Hid (decV s p = .tuple #[.int .i32 65533, .int .i64 1, .bool false]) := by show decV s p = _; unfold decV; rw [hd, hb]; rfl
          rw [hd] at HST HES hn1 hn4 hns
          clear hd hb hw
          have x1 : IntKind.i64.wrap ((p : Int) + 1) = (p : Int) + 1 := IntWalk.i64_in _ (by omega)
          have hle : decide ((s.size : Int) < (p : Int) + 1) = false := by simp; omega
          go_wp2_with fail
          refine (decode_in s p _ (by omega) hlt).mono ?_
          rintro r w1 ⟨rfl, rfl⟩
          rw [HD.out]
          go_wp2_with fail
          go_quiet (fail)
          clear x1
          have HO2 := Lib.hid (owns_drewN HO.out nq); have HK2 := Lib.hid (HK.out.drewN nq)
          generalize wr.drewN nq = wq at *
          have hsz2 := HK2.out.size
          go_wp2_with (at_builtin; refine wpList_append_mine _ rfl (.tmp 74) (.tmp 76) 36 rfl w.heap.size 3 i0 (.int .i64 0) 1 8 Try.underlying36 HI.out HZ0.out HZ1.out HZ2.out rfl (by decide) _ _ _ rfl (HO2.out.alloc _) ⟨wq.heap.size, 0, none⟩ 1 1 [.int .i64 ((p : Int) + 1)] rfl rfl (cell_one_new _ _ _) (by simp [Value.oneCell']) (by unfold maxLen; omega) (by omega) (by simp; omega) ?_; intro v' W2 hp2; have hfin := Lib.hid (own_next HO2.out HK2.out ((Keep.refl _ _).alloc _) hp2 (by omega)); clear hp2)
          go_roundw
          case rel => exact ⟨l ++ [p], p + 1, HST.out, by go_num, by rw [HES.out, List.length_append]; exact hfin.out.1, hfin.out.2.1⟩
          case measure => simp [intOf]; omega
        · have hr := rune_of_wid hlt hw
          have hwd := wid_snd hw
          have hb : isB s p = true := by unfold isB; simpa using hw
          have HD : Hid (decV s p = .tuple #[.int .i32 (dec s p).1, .int .i64 (dec s p).2, .bool true]) := by show decV s p = _; unfold decV; rw [hb]
          have henc := hr.enc
          rw [← hwd] at henc
          clear hb hw hr hwd
          have x1 : IntKind.i64.wrap ((p : Int) + ((dec s p).2 : Int)) = (p : Int) + ((dec s p).2 : Int) := IntWalk.i64_in _ (by omega)
          have x2 : 0 ≤ (p : Int) + ((dec s p).2 : Int) := by omega
          have x3 : ((p : Int) + ((dec s p).2 : Int)).toNat = p + (dec s p).2 := by omega
          have hle : decide ((s.size : Int) < (p : Int) + ((dec s p).2 : Int)) = false := by simp; omega
          have hl1 : decide (((dec s p).2 : Int) < 1) = false := by simp; omega
          have hl4 : decide ((4 : Int) < ((dec s p).2 : Int)) = false := by simp; omega
          have HE := Lib.hid (fun W => (encode_same (dec s p).1 W).mono (fun e w' (h : e = .returned (.string (Utf8.encode (dec s p).1)) ∧ w' = W) => (⟨by rw [h.1, henc], h.2⟩ : e = .returned (.string (s.extract p (p + (dec s p).2))) ∧ w' = W)))
          clear henc
          generalize (dec s p).1 = r1 at *
          generalize (dec s p).2 = n1 at *
          go_wp2_with fail
          refine (decode_in s p _ (by omega) hlt).mono ?_
          rintro r w1 ⟨rfl, rfl⟩
          rw [HD.out]
          go_wp2_with fail
          go_quiet ((go_at_call 28; exact Calls.quiet_of_same (HE.out _)))
          clear x1 x2 x3
          have HO2 := Lib.hid (owns_drewN HO.out nq); have HK2 := Lib.hid (HK.out.drewN nq)
          generalize wr.drewN nq = wq at *
          have hsz2 := HK2.out.size
          go_wp2_with (at_builtin; refine wpList_append_mine _ rfl (.tmp 74) (.tmp 76) 36 rfl w.heap.size 3 i0 (.int .i64 0) 1 8 Try.underlying36 HI.out HZ0.out HZ1.out HZ2.out rfl (by decide) _ _ _ rfl (HO2.out.alloc _) ⟨wq.heap.size, 0, none⟩ 1 1 [.int .i64 ((p : Int) + (n1 : Int))] rfl rfl (cell_one_new _ _ _) (by simp [Value.oneCell']) (by unfold maxLen; omega) (by omega) (by simp; omega) ?_; intro v' W2 hp2; have hfin := Lib.hid (own_next HO2.out HK2.out ((Keep.refl _ _).alloc _) hp2 (by omega)); clear hp2)
          go_roundw
          case rel => exact ⟨l ++ [p], p + n1, HST.out, by go_num, by rw [HES.out, List.length_append]; exact hfin.out.1, hfin.out.2.1⟩
          case measure => simp [intOf]; omega
      · have hltd : decide (p < s.size) = false := by simpa using hlt
        obtain ⟨rfl, rfl⟩ := HA.out.done hlt
        obtain ⟨ad, cap, rfl, _, hcs⟩ := SlAt.of_owns HO.out
        have HCS := Lib.hid hcs; clear hcs HA HO hlt hll
        obtain ⟨n, hn⟩ : ∃ n, n = (cut s 0).length := ⟨_, rfl⟩
        rw [← hn] at hcl ⊢
        have HNN := Lib.hid hn; clear hn
        obtain ⟨wx, hwx⟩ : ∃ wx : World, wx = wr := ⟨_, rfl⟩
        rw [← hwx] at HCS HK ⊢
        clear hwx
        go_wp2
        go_loopw [8] (fun i wr => Keep [] wx wr ∧ ((∃ k : Nat, k < n ∧ i = .int .i64 k) ∨ i = .int .i64 (-1))) (fun i _ => (intOf i + 1).toNat)
        case atStart =>
          refine ⟨Keep.refl _ _, ?_⟩
          rcases Nat.eq_zero_or_pos n with h | h
          · right; rw [h]; rfl
          · left; exact ⟨n - 1, by omega, by congr 1; omega⟩
        case round =>
          obtain ⟨hk, ⟨k, hkn, rfl⟩ | rfl⟩ := hrel
          · have HKX := Lib.hid hk; clear hk
            have hge : decide ((0 : Int) ≤ (k : Int)) = true := by simp
            have hkl : k < (cut s 0).length := by rw [← HNN.out]; exact hkn
            obtain ⟨hat, his⟩ := at_get s k hkl
            have hlast := hat.last his
            have hnn := dec_n his
            obtain ⟨b, off, rfl, hcs⟩ := HCS.out (by omega)
            have hck : ∀ W, Keep [] wx W → W.cell? ⟨b, off + k, none⟩ = some (.int .i64 (pend s (cut s 0)[k])) := fun W h => h.cellv (hcs k _ (by unfold endCs; rw [List.getElem?_map, List.getElem?_eq_getElem hkl]; rfl)) (by simp)
            have hpe : pend s (cut s 0)[k] = ((cut s 0)[k] : Int) + ((dec s (cut s 0)[k]).2 : Int) := rfl
            rw [hpe] at hck
            have hlv : lstV s ((cut s 0)[k] + (dec s (cut s 0)[k]).2) = decV s (cut s 0)[k] := by
              unfold lstV decV isB; rw [hlast.1, hlast.2]
            have hdv : decV s (cut s 0)[k] = .tuple #[.int .i32 (dec s (cut s 0)[k]).1, .int .i64 (dec s (cut s 0)[k]).2, .bool (isB s (cut s 0)[k])] := rfl
            have HFR : Hid (∀ j, k = j + 1 → ∀ W, Keep [] wx W → W.cell? ⟨b, off + j, none⟩ = some (.int .i64 ((cut s 0)[k] : Int))) := by
              show ∀ j, k = j + 1 → _
              intro j hj W hW
              subst hj
              rw [← pend_next hkl]
              exact hW.cellv (hcs j _ (by unfold endCs; rw [List.getElem?_map, List.getElem?_eq_getElem (by omega)]; rfl)) (by simp)
            have HZR : Hid (k = 0 → (cut s 0)[k] = 0) := by
              show k = 0 → _
              intro h0; subst h0
              have := hat.zero_iff.1 (by simp)
              exact this
            have HL := Lib.hid (fun W => last_in s ((cut s 0)[k] + (dec s (cut s 0)[k]).2) W (by omega) (by omega) (by omega))
            have HDI := Lib.hid (fun W => decode_in s (cut s 0)[k] W (by omega) his)
            rw [hlv, hdv] at HL
            rw [hdv] at HDI
            rw [← Int.natCast_add] at hck
            have hez : (((dec s (cut s 0)[k]).2 : Int) != (((cut s 0)[k] + (dec s (cut s 0)[k]).2 : Nat) : Int) - ((cut s 0)[k] : Int)) = false := by simp; omega
            have hce : (cut s 0)[k] ≤ (cut s 0)[k] + (dec s (cut s 0)[k]).2 := by omega
            have HCK := Lib.hid hck
            have HCS2 := Lib.hid hcs
            clear hat hlast hcs hpe hlv hdv hck
            generalize (cut s 0)[k] = c at *
            generalize (dec s c).1 = r1 at *
            generalize isB s c = b1 at *
            generalize (dec s c).2 = m at *
            generalize c + m = e at *
            have hb1 : (b1 != b1) = false := by simp
            have hr1 : (r1 != r1) = false := by simp
            have hm1 : (m != m) = false := by simp
            have hmz : ((m : Int) != (m : Int)) = false := by simp
            have hrz : ((r1 : Int) != (r1 : Int)) = false := by simp
            have c0 := HCK.out wr HKX.out
            rcases Nat.eq_zero_or_pos k with hk0 | hk0
            · have hc0 : c = 0 := HZR.out hk0
              rw [hk0, Nat.add_zero] at c0
              rw [hc0, show ((0 : Nat) : Int) = 0 from rfl, Int.sub_zero] at hez
              rw [hc0, show ((0 : Nat) : Int) = 0 from rfl] at HDI
              have HK0 := Lib.hid hk0; have HC0 := Lib.hid hc0
              clear hc0 HFR HZR
              subst hk0
              clear HC0
              go_wp2_with fail
              refine (HL.out _).mono ?_
              rintro q w1 ⟨rfl, rfl⟩
              go_wp2_with fail
              refine (HDI.out _).mono ?_
              rintro q w1 ⟨rfl, rfl⟩
              go_wp2_with fail
              go_roundw
              case rel => exact ⟨HKX.out, .inr rfl⟩
              case measure => simp [intOf]
            · obtain ⟨j, rfl⟩ : ∃ j, k = j + 1 := ⟨k - 1, by omega⟩
              have c1 := HFR.out j rfl wr HKX.out
              go_wp2_with fail
              refine (HL.out _).mono ?_
              rintro q w1 ⟨rfl, rfl⟩
              go_wp2_with fail
              refine (HDI.out _).mono ?_
              rintro q w1 ⟨rfl, rfl⟩
              go_wp2_with fail
              go_roundw
              case rel => exact ⟨HKX.out, .inl ⟨j, by omega, by go_num⟩⟩
              case measure => simp [intOf]; omega
          · have HKX := Lib.hid hk; clear hk
            have hge : decide ((0 : Int) ≤ -1) = false := by decide
            go_wp2_with fail
            refine (count_any s _ (by omega)).mono ?_
            rintro q w1 ⟨rfl, hk⟩
            rw [← HNN.out]
            have HK1 := Lib.hid ((HK.out.trans0 HKX.out).trans0 hk); clear hk
            have hnn : ((n : Int) == (n : Int)) = true := by simp
            go_wp2_with fail
            refine (known_true _).mono ?_
            rintro q w3 ⟨rfl, hk3⟩
            have HK3 := Lib.hid (HK1.out.trans0 hk3); clear hk3
            go_wp2
            go_ret
            exact ⟨rfl, HK3.out⟩
  · have hzd : decide ((20000 : Int) < (s.size : Int)) = true := by simp; omega
    go_enter Try.func6, Try.ntmps6
    go_wp2_with fail
    refine (known_true _).mono ?_
    rintro q w3 ⟨rfl, hk3⟩
    have HK3 := Lib.hid hk3; clear hk3
    go_wp2
    go_ret
    exact ⟨rfl, HK3.out⟩
end Go.Proofs.Ytjelbeghojgooaa
