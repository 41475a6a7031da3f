/-
  A change and its inverse: there and back, plain.
-/
import Derived.Test.YtddbjclpmkelaaaDifV
namespace Go.Proofs.Ytddbjclpmkelaaa
set_option linter.unusedVariables false
set_option linter.unusedSimpArgs false

theorem txt_valid {l : List Int} (h : ∀ r ∈ l, Utf8.valid r = true) : runs (txt l) 0 = l := by rw [(runs_text l).1, map_fix_valid h]
/-- What a change makes, without what came before. -/
def apS : List Int → List EdV → Int × List Int × List (List Int)
  | x, [] => (0, x, [])
  | x, e :: l =>
    if e.1 < 0 ∨ e.2.1 < 0 then (1, [], [])
    else if 0 ≤ badAt e.2.2 then (2, [], [])
    else if (x.length : Int) < e.1 ∨ (x.length : Int) - e.1 < e.2.1 then (3, [], [])
    else if (apS (x.drop (e.1.toNat + e.2.1.toNat)) l).1 = 0 then
      (0, x.take e.1.toNat ++ runs e.2.2 0 ++ (apS (x.drop (e.1.toNat + e.2.1.toNat)) l).2.1, (x.drop e.1.toNat).take e.2.1.toNat :: (apS (x.drop (e.1.toNat + e.2.1.toNat)) l).2.2)
    else ((apS (x.drop (e.1.toNat + e.2.1.toNat)) l).1, [], [])
theorem ap_apS (l : List EdV) : ∀ (x out : List Int) (gone : List (List Int)), ap x l out gone = if (apS x l).1 = 0 then (0, out ++ (apS x l).2.1, gone ++ (apS x l).2.2) else ((apS x l).1, [], []) := by
  induction l with
  | nil => intro x out gone; simp [ap, apS]
  | cons e l ih =>
    intro x out gone
    rw [ap, apS]
    by_cases h1 : e.1 < 0 ∨ e.2.1 < 0
    · simp [h1]
    · rw [if_neg h1, if_neg h1]
      by_cases h2 : 0 ≤ badAt e.2.2
      · simp [h2]
      · rw [if_neg h2, if_neg h2]
        by_cases h3 : (x.length : Int) < e.1 ∨ (x.length : Int) - e.1 < e.2.1
        · simp [h3]
        · rw [if_neg h3, if_neg h3, ih]
          by_cases h4 : (apS (x.drop (e.1.toNat + e.2.1.toNat)) l).1 = 0
          · simp [h4, List.append_assoc]
          · simp [h4]
theorem apAll_apS {a : ByteArray} (h : ¬ 0 ≤ badAt a) (l : List EdV) : apAll a l = if (apS (runs a 0) l).1 = 0 then (0, (apS (runs a 0) l).2.1, (apS (runs a 0) l).2.2) else ((apS (runs a 0) l).1, [], []) := by
  unfold apAll; rw [if_neg h, ap_apS]; simp

/-- What was laid, as runes. -/
def laid (l : List EdV) : List (List Int) := l.map fun e => runs e.2.2 0
structure Back (x : List Int) (l : List EdV) (o : List Int) (g : List (List Int)) : Prop where
  there : apS o (invL l g) = (0, x, laid l)
  again : invL (invL l g) (laid l) = l
  valid : ∀ r ∈ o, Utf8.valid r = true
  size : ∀ e ∈ invL l g, e.2.2.size ≤ (txt x).size
  nums : ∀ e ∈ invL l g, -9223372036854775808 ≤ e.1 ∧ e.1 ≤ 9223372036854775807 ∧ 0 ≤ e.2.1 ∧ e.2.1 ≤ sumB l
  len : o.length ≤ x.length + sumB l
  same : (invL l g).length = l.length
  wt : ∀ n, wsat n (invL l g) = wsat n l
theorem txt_parts (x : List Int) (k d : Nat) : (txt ((x.drop k).take d)).size ≤ (txt x).size ∧ (txt (x.drop (k + d))).size ≤ (txt x).size := by
  have h : x = x.take k ++ ((x.drop k).take d ++ x.drop (k + d)) := by
    rw [← List.drop_drop, List.take_append_drop, List.take_append_drop]
  have h2 : (txt x).size = (txt (x.take k)).size + ((txt ((x.drop k).take d)).size + (txt (x.drop (k + d))).size) := by
    conv => lhs; rw [h, txt_append, txt_append]
    rw [ByteArray.size_append, ByteArray.size_append]
  omega
theorem back (l : List EdV) : ∀ (x o : List Int) (g : List (List Int)), (∀ r ∈ x, Utf8.valid r = true) → (∀ e ∈ l, -9223372036854775808 ≤ e.1 ∧ e.1 ≤ 9223372036854775807) → apS x l = (0, o, g) → Back x l o g := by
  induction l with
  | nil =>
    intro x o g hv hb h
    simp only [apS, Prod.mk.injEq] at h
    obtain ⟨_, rfl, rfl⟩ := h
    exact ⟨by simp [apS, invL, laid], by simp [invL], hv, by simp [invL], by simp [invL], by simp [sumB], by simp [invL], fun n => by simp [invL]⟩
  | cons e l ih =>
    intro x o g hv hb h
    obtain ⟨ek, ed, et⟩ := e
    rw [apS] at h
    simp only at h
    split at h
    · simp at h
    · rename_i h1
      split at h
      · simp at h
      · rename_i h2
        split at h
        · simp at h
        · rename_i h3
          split at h
          · rename_i h4
            obtain ⟨kk, rfl⟩ := Int.eq_ofNat_of_zero_le (show 0 ≤ ek by omega)
            obtain ⟨dd, rfl⟩ := Int.eq_ofNat_of_zero_le (show 0 ≤ ed by omega)
            simp only [Int.toNat_natCast] at h h4
            generalize hr : apS (x.drop (kk + dd)) l = rr at h h4
            obtain ⟨c', o', g'⟩ := rr
            simp only at h h4
            subst h4
            simp only [Prod.mk.injEq] at h
            obtain ⟨_, rfl, rfl⟩ := h
            have hkd : kk + dd ≤ x.length := by omega
            have hvd : ∀ r ∈ x.drop (kk + dd), Utf8.valid r = true := fun r hr => hv r (List.mem_of_mem_drop hr)
            have B := ih _ _ _ hvd (fun e he => hb e (by simp [he])) hr
            have hgood := txt_runs h2
            have hcl : (cut et 0).length = (runs et 0).length := (runs_len et).symm
            have hvp : ∀ r ∈ (x.drop kk).take dd, Utf8.valid r = true := fun r hr => hv r (List.mem_of_mem_drop (List.mem_of_mem_take hr))
            have hpl : ((x.drop kk).take dd).length = dd := by simp; omega
            have htl : (x.take kk).length = kk := by simp; omega
            have hrt := runs_size et
            obtain ⟨tp1, tp2⟩ := txt_parts x kk dd
            have hdr : (x.take kk ++ runs et 0 ++ o').drop (kk + (runs et 0).length) = o' := by
              rw [← List.drop_drop, List.append_assoc]
              rw [show (x.take kk ++ (runs et 0 ++ o')).drop kk = runs et 0 ++ o' by rw [List.drop_append_of_le_length (by omega), List.drop_of_length_le (by omega), List.nil_append]]
              simp
            have htk : (x.take kk ++ runs et 0 ++ o').take kk = x.take kk := by
              rw [List.append_assoc, List.take_append_of_le_length (by omega), List.take_of_length_le (by omega)]
            have hmd : ((x.take kk ++ runs et 0 ++ o').drop kk).take (runs et 0).length = runs et 0 := by
              rw [List.append_assoc, show (x.take kk ++ (runs et 0 ++ o')).drop kk = runs et 0 ++ o' by rw [List.drop_append_of_le_length (by omega), List.drop_of_length_le (by omega), List.nil_append]]
              simp
            have hx : x.take kk ++ (x.drop kk).take dd ++ x.drop (kk + dd) = x := by rw [List.append_assoc, ← List.drop_drop, List.take_append_drop, List.take_append_drop]
            refine ⟨?_, ?_, ?_, ?_, ?_, ?_, ?_, ?_⟩
            · simp only [invL, hcl]
              rw [apS]
              simp only [Int.toNat_natCast]
              rw [if_neg (by omega), if_neg (by rw [badAt_txt]; omega), if_neg (by simp only [List.length_append, htl]; omega), hdr, B.there]
              simp only [if_true, htk, hmd, txt_valid hvp]
              rw [hx]; rfl
            · simp only [invL, laid, List.map_cons, hgood, cut_txt_len, hpl]
              rw [show invL (invL l g') (List.map (fun e => runs e.2.2 0) l) = l from B.again]
            · intro r hr
              rcases List.mem_append.1 hr with hr | hr
              · rcases List.mem_append.1 hr with hr | hr
                · exact hv r (List.mem_of_mem_take hr)
                · exact runs_valid et 0 r hr
              · exact B.valid r hr
            · intro e he
              simp only [invL, List.mem_cons] at he
              rcases he with rfl | he
              · exact tp1
              · exact Nat.le_trans (B.size e he) tp2
            · intro e he
              simp only [invL, List.mem_cons] at he
              have hs : sumB (((kk : Int), (dd : Int), et) :: l) = et.size + sumB l := by simp [sumB]
              rcases he with rfl | he
              · have := hb _ (List.mem_cons_self ..)
                refine ⟨this.1, this.2, by simp, ?_⟩
                simp only
                rw [hcl, hs]; omega
              · have := B.nums e he
                rw [hs]; omega
            · have hs : sumB (((kk : Int), (dd : Int), et) :: l) = et.size + sumB l := by simp [sumB]
              have := B.len
              simp only [List.length_append, htl, List.length_drop] at this ⊢
              rw [hs]; omega
            · simp [invL, B.same]
            · intro n
              simp only [invL, wsat, cut_txt_len, hpl, hcl]
              rw [show min 9223372036854775807 (n + max (((runs et 0).length : Nat) : Int) 0 + ((dd : Nat) : Int)) = min 9223372036854775807 (n + max ((dd : Nat) : Int) 0 + (((runs et 0).length : Nat) : Int)) by omega, B.wt]
          · simp at h
            omega
end Go.Proofs.Ytddbjclpmkelaaa
