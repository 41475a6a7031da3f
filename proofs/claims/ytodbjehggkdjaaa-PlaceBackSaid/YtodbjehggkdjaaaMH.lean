/-
  Texts made of runes, cut and joined: plain.
-/
import Derived.Test.YtodbjehggkdjaaaMG
import Derived.Test.YtodbjehggkdjaaaIter
namespace Go.Proofs.Ytodbjehggkdjaaa
open Go.RowKit Go.Shelf
set_option linter.unusedVariables false
set_option linter.unusedSimpArgs false
attribute [local go_sem] Oper.semAt_some

theorem all_any (s : ByteArray) (w : World) : Calls Try.prog 19 #[.string s] w fun e w' =>
    e = .returned (.func (.func 36) #[] #[.pointer (some ⟨w.heap.size, 0, none⟩)]) ∧ w' = w.alloc (.cells #[.string s] 9) := by
  go_enter Try.func19, Try.ntmps19
  go_wp2
  go_ret
  exact ⟨rfl, rfl⟩
theorem back_any (s : ByteArray) (w : World) : Calls Try.prog 66 #[.string s] w fun e w' =>
    e = .returned (.func (.func 67) #[] #[.pointer (some ⟨w.heap.size, 0, none⟩)]) ∧ w' = w.alloc (.cells #[.string s] 9) := by
  go_enter Try.func66, Try.ntmps66
  go_wp2
  go_ret
  exact ⟨rfl, rfl⟩

/-- The text in its box. -/
def TxtNeed (b : Nat) (s : ByteArray) (W : World) : Prop := W.heap[b]? = some (.cells #[.string s] 9 (0, 0))
theorem TxtNeed.keep {b : Nat} {s : ByteArray} {L : List Nat} {W W' : World} (h : TxtNeed b s W) (k : Keep L W W') (hb : b ∉ L) : TxtNeed b s W' := k.at_ h hb
/-- What yield is handed. -/
def pieceArgs (s : ByteArray) (i : Nat) : Array Value := #[.int .i64 i, .int .i32 (dec s i).1]

set_option maxHeartbeats 4000000 in
theorem all1_iters (b : Nat) (s : ByteArray) (hz : s.size ≤ 1073741824) :
    Iters Try.prog 36 #[.pointer (some ⟨b, 0, none⟩)] ((cut s 0).map (pieceArgs s)) [] [b] (TxtNeed b s) := by
  intro y J Jx fp W hN hown hrd hJ hJx hY hfpl h0
  have hbW := (hrd b (by simp)).1
  have hbf := (hrd b (by simp)).2
  have hc0 : W.cell? ⟨b, 0, none⟩ = some (.string s) := cell_of_one hN
  clear hown hrd hN
  have HYY := Lib.hid hY; clear hY
  refine (callsIn_wide (n := 0)).1 ?_
  refine callsIn_of_wp Try.func36 rfl trivial ?_
  simp only [Try.ntmps36, List.size_toArray, List.length_cons, List.length_nil, Nat.reduceAdd, Nat.reduceSub, Array.replicate_succ, Array.replicate_zero, List.push_toArray, List.append_toArray, List.nil_append, List.cons_append]
  gi_wp2
  gi_loopw [] (fun wr => ∃ (l : List Nat) (p : Nat) (fp : List Nat), At s l p ∧ wr.heap[W.heap.size]? = some (.stringIter s p) ∧ J l.length fp wr ∧ W.heap.size ∉ fp ∧ W.heap.size < wr.heap.size) (fun wr => s.size - wr.iterPos W.heap.size)
  case atStart =>
    refine ⟨[], 0, fp, .zero, World.iter_heap W s 0, ?_, ?_, by simp [World.iter]⟩
    · exact hJ 0 fp W _ [] h0 ((Keep.refl _ _).alloc _) (fun c hc => by cases hc)
    · exact fun h => by have := hfpl _ h; omega
  case round =>
    obtain ⟨l, p, fp, hat, hit, hj, hf1, hsz⟩ := hrel
    by_cases hp : p < s.size
    · have hnx : ∀ ty, _ := fun ty => next_in (P := Try.prog) hit hp ty
      have hn := dec_n hp
      have hll := hat.cnt hp
      have hke := hat.get hp
      have HST := Lib.hid (hat.step hp)
      have hit2 := Lib.iterAt_heap wr W.heap.size s p (p + (dec s p).2) hit
      have hk2 : Keep [W.heap.size] wr (wr.iterAt W.heap.size s (p + (dec s p).2)) := ⟨rfl, rfl, rfl, by rw [Lib.iterAt_size]; exact Nat.le_refl _, fun i _ hi => Lib.iterAt_other wr _ i s _ (by simpa using hi)⟩
      have hj2 := hJ l.length fp wr _ [W.heap.size] hj hk2 (fun c hc => by simp at hc; subst hc; exact ⟨hf1, .inr (Nat.le_refl _)⟩)
      have hsz2 : W.heap.size < (wr.iterAt W.heap.size s (p + (dec s p).2)).heap.size := by rw [Lib.iterAt_size]; exact hsz
      have hkl : l.length < (cut s 0).length := hll
      have hxk : (cut s 0)[l.length] = p := by
        rw [List.getElem?_eq_getElem hkl] at hke
        exact Option.some.inj hke
      have hy := HYY.out l.length (by rw [List.length_map]; exact hkl) fp _ hj2
      rw [List.getElem_map, hxk] at hy
      have HKL := Lib.hid hkl; have HY := Lib.hid hy
      have HIT := Lib.hid hit; have HP := Lib.hid (show p < p + (dec s p).2 ∧ p + (dec s p).2 ≤ s.size by omega)
      clear hy hj hj2 hk2 hke hxk hll hn hkl
      have hpa : pieceArgs s p = #[.int .i64 p, .int .i32 (dec s p).1] := rfl
      rw [hpa] at HY
      clear hpa
      generalize (dec s p).1 = r1 at *
      generalize (dec s p).2 = n1 at *
      gi_wp2_with (with_reducible refine park_call 11 _ _ rfl ?_)
      refine wpListIn_callV (.inl rfl) rfl (.tmp 11) [.tmp 12, .tmp 13] #[3, 21] rfl y rfl [.int .i64 p, .int .i32 r1] rfl _ HY.out ?_
      rintro e w3 (⟨rfl, fp', hj', hkp, hfn⟩ | ⟨rfl, fp', hj', hkp, hfn⟩)
      · refine ⟨_, rfl, ?_⟩
        have hit3 := hkp.at_ hit2 hf1
        have hsz3 := hkp.size
        have hf1' : W.heap.size ∉ fp' := fun h => by rcases hfn _ h with h' | h'; exact hf1 h'; omega
        have HJ := Lib.hid hj'; have HIT3 := Lib.hid hit3; have HF := Lib.hid hf1'; have HS3 := Lib.hid (show W.heap.size < w3.heap.size by omega)
        clear hj' hkp hfn hit3 hf1' hsz3 hnx hit2 hit
        gi_wp2
        go_roundw
        case rel => exact ⟨l ++ [p], p + n1, fp', HST.out, HIT3.out, by rw [List.length_append]; exact HJ.out, HF.out, HS3.out⟩
        case measure =>
          have := HP.out
          simp only [World.iterPos, HIT.out, HIT3.out]; omega
      · refine ⟨_, rfl, ?_⟩
        have HJ := Lib.hid hj'
        clear hj' hkp hfn hnx hit2 hit
        gi_wp2
        exact bodyPost_ret (results_none rfl _ _ _) rfl ⟨rfl, .inr ⟨l.length, fp', by rw [List.length_map]; exact HKL.out, HJ.out⟩⟩
    · have hnx : ∀ ty, _ := fun ty => Lib.run_next_end_at (P := Try.prog) wr W.heap.size s p ty hit hp
      obtain ⟨rfl, rfl⟩ := hat.done hp
      have HJ := Lib.hid hj
      clear hj
      gi_wp2
      go_end0
      exact ⟨rfl, .inl ⟨fp, by rw [List.length_map]; exact HJ.out⟩⟩

theorem At.inv {s : ByteArray} {l : List Nat} {e : Nat} (h : At s l e) (he : 0 < e) : ∃ l' i, l = l' ++ [i] ∧ At s l' i ∧ i < s.size ∧ e = i + (dec s i).2 := by
  cases h with
  | zero => omega
  | step h hi => exact ⟨_, _, rfl, h, hi, rfl⟩

set_option maxHeartbeats 4000000 in
theorem back1_iters (b : Nat) (s : ByteArray) (hz : s.size ≤ 1073741824) :
    Iters Try.prog 67 #[.pointer (some ⟨b, 0, none⟩)] ((cut s 0).reverse.map (pieceArgs s)) [] [b] (TxtNeed b s) := by
  intro y J Jx fp W hN hown hrd hJ hJx hY hfpl h0
  have hbW := (hrd b (by simp)).1
  have hbf := (hrd b (by simp)).2
  have hc0 : W.cell? ⟨b, 0, none⟩ = some (.string s) := cell_of_one hN
  clear hown hrd
  have HYY := Lib.hid hY; clear hY
  obtain ⟨n, hn⟩ : ∃ n, n = (cut s 0).length := ⟨_, rfl⟩
  have HNN := Lib.hid hn; clear hn
  have HN := Lib.hid hN; clear hN
  refine (callsIn_wide (n := 0)).1 ?_
  refine callsIn_of_wp Try.func67 rfl trivial ?_
  simp only [Try.ntmps67, List.size_toArray, List.length_cons, List.length_nil, Nat.reduceAdd, Nat.reduceSub, Array.replicate_succ, Array.replicate_zero, List.push_toArray, List.append_toArray, List.nil_append, List.cons_append]
  gi_wp2
  gi_loopw [3] (fun i wr => ∃ (l : List Nat) (e : Nat) (fp : List Nat), At s l e ∧ i = .int .i64 e ∧ TxtNeed b s wr ∧ J (n - l.length) fp wr ∧ b ∉ fp) (fun i _ => (intOf i).toNat)
  case atStart => exact ⟨cut s 0, s.size, fp, at_all s, rfl, HN.out, by rw [← HNN.out, Nat.sub_self]; exact h0, hbf⟩
  case round =>
    clear hc0 hbf h0
    obtain ⟨l, e, fp, hat, rfl, hN, hj, hbf⟩ := hrel
    have hes := hat.le
    have hc0 : wr.cell? ⟨b, 0, none⟩ = some (.string s) := cell_of_one hN
    by_cases he : 0 < e
    · have hed : decide ((0 : Int) < (e : Int)) = true := by simp; omega
      obtain ⟨l', i, rfl, hat', hi, rfl⟩ := hat.inv he
      have hll := hat'.cnt hi
      have hke := hat'.get hi
      have hn := dec_n hi
      have hlast := (hat'.last hi).2
      have hlv : lstV s (i + (dec s i).2) = .tuple #[.int .i32 (dec s i).1, .int .i64 (dec s i).2, .bool (decide (lstN s (i + (dec s i).2) ≠ 0))] := by unfold lstV; rw [hlast]
      have HLV := Lib.hid hlv; clear hlv hlast
      rw [List.length_append, List.length_singleton] at hj
      have hkr : n - (l'.length + 1) < n := by have := HNN.out; omega
      have hxk : (cut s 0).reverse[n - (l'.length + 1)]? = some i := by
        have h1 := HNN.out
        rw [List.getElem?_reverse (by omega)]
        rw [show (cut s 0).length - 1 - (n - (l'.length + 1)) = l'.length by omega]
        exact hke
      have hkrl : n - (l'.length + 1) < (cut s 0).reverse.length := by rw [List.length_reverse, ← HNN.out]; exact hkr
      rw [List.getElem?_eq_getElem hkrl] at hxk
      have hy := HYY.out (n - (l'.length + 1)) (by rw [List.length_map]; exact hkrl) fp _ hj
      rw [List.getElem_map, Option.some.inj hxk] at hy
      have hsub : n - (l'.length + 1) + 1 = n - l'.length := by have := HNN.out; omega
      have HY := Lib.hid hy; have HSUB := Lib.hid hsub; have HKR := Lib.hid hkrl; have HAT := Lib.hid hat'
      have hpa : pieceArgs s i = #[.int .i64 i, .int .i32 (dec s i).1] := rfl
      rw [hpa] at HY
      have hin : (i : Int) + ((dec s i).2 : Int) - ((dec s i).2 : Int) = (i : Int) := by omega
      have HIN := Lib.hid hin
      have HE := Lib.hid (show 1 ≤ i + (dec s i).2 ∧ i + (dec s i).2 ≤ s.size from ⟨he, hes⟩)
      clear hy hsub hpa hxk hkrl hkr hj hke hll hat' hat hin
      gi_wp2_with fail
      refine ⟨trivial, rfl, ?_⟩
      refine (callsIn_wide.2 (last_in s (i + (dec s i).2) wr (by omega) HE.out.1 HE.out.2)).mono ?_
      rintro r w2 ⟨rfl, rfl⟩
      rw [HLV.out]
      clear HLV HE
      generalize decide (lstN s (i + (dec s i).2) ≠ 0) = bb at *
      generalize (dec s i).1 = r1 at *
      generalize (dec s i).2 = n1 at *
      gi_wp2_with (with_reducible refine park_call 21 _ _ rfl ?_)
      refine wpListIn_callV (.inl rfl) rfl (.tmp 21) [.tmp 22, .tmp 23] #[3, 21] rfl y rfl [.int .i64 i, .int .i32 r1] rfl _ HY.out ?_
      rintro e w3 (⟨rfl, fp', hj', hkp, hfn⟩ | ⟨rfl, fp', hj', hkp, hfn⟩)
      · refine ⟨_, rfl, ?_⟩
        have hlt := lt_of_block hN
        have hN3 := hN.keep hkp hbf
        have hbf' : b ∉ fp' := fun h => by rcases hfn _ h with h' | h'; exact hbf h'; omega
        rw [HSUB.out] at hj'
        have HJ := Lib.hid hj'; have HN3 := Lib.hid hN3; have HF := Lib.hid hbf'
        clear hj' hkp hfn hN3 hbf'
        gi_wp2
        go_roundw
        case rel => exact ⟨l', i, fp', HAT.out, rfl, HN3.out, HJ.out, HF.out⟩
        case measure => have := dec_n hi; simp [intOf]; omega
      · refine ⟨_, rfl, ?_⟩
        have HJ := Lib.hid hj'
        clear hj' hkp hfn
        gi_wp2
        exact bodyPost_ret (results_none rfl _ _ _) rfl ⟨rfl, .inr ⟨_, fp', by rw [List.length_map]; exact HKR.out, HJ.out⟩⟩
    · have hed : decide ((0 : Int) < (e : Int)) = false := by simp; omega
      have hl0 := hat.zero_iff.2 (by omega)
      have HJ := Lib.hid hj; have HL := Lib.hid hl0
      clear hj hat hl0
      gi_wp2
      go_end0
      exact ⟨rfl, .inl ⟨fp, by have := HJ.out; rw [HL.out, Nat.sub_zero, HNN.out] at this; rw [List.length_map, List.length_reverse]; exact this⟩⟩
end Go.Proofs.Ytodbjehggkdjaaa
namespace Go.Proofs.Ytodbjehggkdjaaa
set_option linter.unusedVariables false
set_option linter.unusedSimpArgs false

theorem cut_places (L : List Int) : ∀ (p : ByteArray) (k : Nat), k < L.length → (cut (p ++ txt L) p.size)[k]? = some (p.size + (txt (L.take k)).size) := by
  induction L with
  | nil => intro p k h; simp at h
  | cons n L ih =>
    intro p k hk
    have hr := rune_mid p (txt L) n
    have hd := hr.dec
    have hlt : p.size < (p ++ txt (n :: L)).size := by have := enc_size n; rw [ByteArray.size_append, size_txt_cons]; omega
    change dec (p ++ txt (n :: L)) p.size = _ at hd
    rw [cut_step hlt, hd]
    cases k with
    | zero => simp [txt]
    | succ k =>
      have := ih (p ++ Utf8.encode n) k (by simpa using hk)
      have e : p ++ Utf8.encode n ++ txt L = p ++ txt (n :: L) := by simp [txt, ByteArray.append_assoc]
      rw [e, ByteArray.size_append] at this
      rw [List.getElem?_cons_succ, this, List.take_succ_cons, size_txt_cons, Nat.add_assoc]
theorem ext_left (a b : ByteArray) : (a ++ b).extract 0 a.size = a := by
  have hz : a.size ≤ (a ++ b).size := by rw [ByteArray.size_append]; omega
  apply ext_byt
  · rw [size_ext _ _ _ hz]; omega
  · intro i hi
    rw [size_ext _ _ _ hz] at hi
    rw [byt_extract _ _ _ _ (by omega) hz, Nat.zero_add, byt_append_left _ _ _ (by omega)]
theorem ext_right (a b : ByteArray) : (a ++ b).extract a.size (a ++ b).size = b := by
  apply ext_byt
  · rw [size_ext _ _ _ (Nat.le_refl _), ByteArray.size_append]; omega
  · intro i hi
    rw [byt_tail, byt_append_right]
theorem cutV_txt (L : List Int) (n : Int) : cutV (txt L) n = .tuple #[.string (txt (L.take n.toNat)), .string (txt (L.drop n.toNat))] := by
  by_cases h : n.toNat < L.length
  · have hp := cut_places L ByteArray.empty n.toNat h
    simp only [ByteArray.empty_append, ByteArray.size_empty, Nat.zero_add] at hp
    have e : txt L = txt (L.take n.toNat) ++ txt (L.drop n.toNat) := by rw [← txt_append, List.take_append_drop]
    rw [cutV_in hp]
    have h1 : (txt L).extract 0 (txt (L.take n.toNat)).size = txt (L.take n.toNat) := by
      have := ext_left (txt (L.take n.toNat)) (txt (L.drop n.toNat))
      rwa [← e] at this
    have h2 : (txt L).extract (txt (L.take n.toNat)).size (txt L).size = txt (L.drop n.toNat) := by
      have := ext_right (txt (L.take n.toNat)) (txt (L.drop n.toNat))
      rwa [← e] at this
    rw [h1, h2]
  · rw [cutV_end (by rw [cut_txt_len]; omega), List.take_of_length_le (by omega), List.drop_eq_nil_of_le (by omega)]
    rfl
end Go.Proofs.Ytodbjehggkdjaaa
