/-
  ScriptOwn: steps that are read are new memory: three of each kept, written over, gone on from; no condition but the five listed variables of the library.
-/
import Derived.Test.YtbidppjhenfjdaaDoorSMB
import Derived.Test.YtbidppjhenfjdaaDoorAppend
import Derived.Test.YtbidppjhenfjdaaDoorSME
namespace Go.Proofs.YtbidppjhenfjdaaDoor
open Go.RowKit
set_option linter.unusedVariables false
set_option linter.unusedSimpArgs false

/-! ### rows -/
theorem own_set {w : World} {base sz n g cap j : Nat} {e : TypeId} {xs : List Value} {u : Value} (h : w.ownsRow base e sz (.slice (some ⟨g, 0, none⟩) n cap) n xs) (hj : j < n * sz) : (w.setCell ⟨g, j, none⟩ u).ownsRow base e sz (.slice (some ⟨g, 0, none⟩) n cap) n (xs.set j u) := by
  refine ⟨by rw [List.length_set]; exact h.1, ?_⟩
  rcases h.2 with ⟨h0, _⟩ | ⟨g', cap', cur, e1, hb, hg, hc, hm, hs, ht⟩
  · cases h0
  · injection e1 with e1 e2 e3
    injection e1 with e1
    injection e1 with e4 e5 e6
    subst e4
    subst e3
    refine .inr ⟨g, cap, _, rfl, hb, block_setCell hg j u, hc, hm, by simpa using hs, ?_⟩
    rw [← ht, Array.toList_setIfInBounds, List.take_set]
theorem own_beyond {w : World} {base sz n g j : Nat} {e : TypeId} {v u : Value} {xs : List Value} (h : w.ownsRow base e sz v n xs) (hj : n * sz ≤ j) : (w.setCell ⟨g, j, none⟩ u).ownsRow base e sz v n xs := by
  refine ⟨h.1, ?_⟩
  rcases h.2 with h0 | ⟨g', cap, cur, e1, hb, hg, hc, hm, hs, ht⟩
  · exact .inl h0
  · by_cases hgg : g' = g
    · subst hgg
      refine .inr ⟨g', cap, _, e1, hb, block_setCell hg j u, hc, hm, by simpa using hs, ?_⟩
      rw [← ht, Array.toList_setIfInBounds, List.take_set]
      exact List.set_eq_of_length_le (by rw [List.length_take]; omega)
    · exact .inr ⟨g', cap, cur, e1, hb, by rw [block_setCell_other u (by exact hgg)]; exact hg, hc, hm, hs, ht⟩
theorem own_ltS {w : World} {base sz n : Nat} {e : TypeId} {v : Value} {xs : List Value} (h : w.ownsRow base e sz v n xs) : ∀ q ∈ v.ownBlock.toList, base ≤ q ∧ q < w.heap.size := by
  intro q hq
  exact h.lt q (by simpa using hq)
/-- What an append leaves of the row that was appended to, and where the new one lies. -/
def AppTwo (P : Program) (base : Nat) (e : TypeId) (size n m : Nat) (v : Value) (xs : List Value) (w : World) (g' cap' : Nat) (w' : World) : Prop :=
  Keep v.ownBlock.toList w w' ∧ w'.ownsRow base e size v n xs ∧ (v.ownBlock = some g' ∨ w.heap.size ≤ g') ∧ ∃ cur, w'.heap[g']? = some (.cells cur e (0, 0)) ∧ (n + m) * size ≤ cur.size
theorem append_two {P : Program} (w : World) (base : Nat) (t ty e : TypeId) (i : TypeInfo) (z : Value) (size bytes : Nat) (ht : P.underlying t = some (.slice e)) (hi : P.info? e = some i) (hz : i.zero = some z) (hsize : i.size = size) (hby : i.bytes = bytes) (hzs : z.cells.size = size) (hsz : 0 < size)
    (v : Value) (n : Nat) (xs : List Value) (hown : w.ownsRow base e size v n xs) (a : Addr) (m c : Nat) (news : List Value) (hl : news.length = m * size) (hnews : ∀ j u, news[j]? = some u → w.cell? (a.add j) = some u) (h1 : ∀ u ∈ news, u.oneCell' = true) (hm0 : 0 < m)
    (h63 : n + m ≤ maxLen) (hbytes : (n + m) * bytes ≤ 140737488355328) :
    ∃ g' cap' w', (Builtin.append_ #[t, t] ty #[v, .slice (some a) m c]).run P w = .ok (.slice (some ⟨g', 0, none⟩) (n + m) cap') w' ∧ AppTwo P base e size n m v xs w g' cap' w' := by
  subst hsize
  subst hby
  have hsmall : n + m ≤ 9223372036854775807 := by simp only [maxLen] at h63; omega
  rcases hown.2 with ⟨rfl, rfl⟩ | ⟨g0, cap, cur, rfl, hbg, hgg, hnc, hcm, hcs, htake⟩
  · have hr := run_append_nil (P := P) w t ty e i z ht hi hz a m c news hl hnews (by omega) (by omega) (by have hb := hbytes; simp only [Nat.zero_add] at hb; omega)
    refine ⟨_, _, _, hr.trans (by rw [Nat.zero_add]), ?_, ?_, .inr (Nat.le_refl _), _, World.alloc_heap_new w.drew _, ?_⟩
    · exact ((Keep.refl _ _).drew).alloc _
    · exact ⟨hown.1, .inl ⟨rfl, rfl⟩⟩
    · rw [Array.size_append, List.size_toArray, hl, Nat.zero_add]
      omega
  · by_cases hroom : n + m ≤ cap
    · have hfit : n * i.size + news.length ≤ cur.size := by rw [hl, hcs, ← Nat.add_mul]; exact Nat.mul_le_mul_right _ hroom
      have hr := run_append_room (P := P) w t ty e i ht hi g0 n cap cur hgg a m c news hl hnews h1 hroom hfit
      have hh := setRow_heap w g0 cur (cur.toList.take (n * i.size) ++ news ++ cur.toList.drop (n * i.size + news.length)).toArray e (0, 0) hgg
      have hcl : cur.toList.length = cur.size := Array.length_toList
      have hsz2 : (cur.toList.take (n * i.size) ++ news ++ cur.toList.drop (n * i.size + news.length)).toArray.size = cur.size := by
        rw [List.size_toArray, List.length_append, List.length_append, List.length_take, List.length_drop]
        omega
      refine ⟨g0, cap, _, hr, ⟨rfl, rfl, rfl, by simp [World.setRow], fun k _ hk => setRow_other w g0 k _ (fun e => hk (by simp [Value.ownBlock, e]))⟩, ⟨hown.1, .inr ⟨g0, cap, _, rfl, hbg, hh, hnc, hcm, by rw [hsz2]; exact hcs, ?_⟩⟩, .inl rfl, _, hh, ?_⟩
      · rw [List.append_assoc, List.take_append_of_le_length (by rw [List.length_take]; omega), List.take_take, Nat.min_self]
        exact htake
      · rw [hsz2, hcs]
        exact Nat.mul_le_mul_right _ hroom
    · have holds : ∀ j u, xs[j]? = some u → w.cell? ((⟨g0, 0, none⟩ : Addr).add j) = some u := hown.cells (g := g0) rfl
      have hr := run_append_grow (P := P) w t ty e i z ht hi hz ⟨g0, 0, none⟩ n cap xs hown.1 holds a m c news hl hnews (by omega) (by omega) (growslice_fits (by omega) hbytes)
      have hk : Keep [] w (w.drew.alloc (.cells (xs.toArray ++ news.toArray ++ Builtin.zeroCells z.cells (grownCap w (n + m) cap e - (n + m))) e)) := ((Keep.refl _ _).drew).alloc _
      refine ⟨_, _, _, hr, hk.mono (by simp), hk.owns hown (by simp), .inr (Nat.le_refl _), _, World.alloc_heap_new _ _, ?_⟩
      rw [Array.size_append, Array.size_append, List.size_toArray, List.size_toArray, hl, hown.1, Nat.add_mul]
      omega

/-! ### bytes that were converted -/
def turnB (q : ByteArray) (j b : Nat) : ByteArray := ⟨(q.data.toList.set j (UInt8.ofNat b)).toArray⟩
theorem turnB_size (q : ByteArray) (j b : Nat) : (turnB q j b).size = q.size := by
  show (q.data.toList.set j (UInt8.ofNat b)).toArray.size = q.data.size
  simp
theorem turnB_byt {q : ByteArray} {j b k : Nat} (hb : b < 256) (hk : k < q.size) : byt (turnB q j b) k = if k = j then b else byt q k := by
  unfold turnB
  rw [mk_byt, List.getElem?_set]
  have hk' : k < q.data.toList.length := by simpa using hk
  have hk2 : k < q.data.size := hk
  by_cases h : k = j
  · subst h
    rw [if_pos rfl, if_pos rfl, if_pos hk']
    show (UInt8.ofNat b).toNat = b
    exact u8_of b hb
  · rw [if_neg (fun e => h e.symm), if_neg h]
    simp [byt, hk, hk2]
    try rfl
theorem BytesB.turnB {W : World} {g cap : Nat} {q : ByteArray} (h : BytesB W g q cap) {j b : Nat} (hj : j < q.size) (hb : b < 256) : BytesB (W.setCell ⟨g, j, none⟩ (.int .u8 (b : Nat))) g (Go.Proofs.YtbidppjhenfjdaaDoor.turnB q j b) cap := by
  obtain ⟨c, m, hbk, hm, ⟨hmc, hcap⟩, hc⟩ := h
  refine ⟨_, m, block_setCell hbk j _, by rw [turnB_size]; exact hm, ⟨by simpa using hmc, hcap⟩, fun k hk => ?_⟩
  rw [turnB_size] at hk
  rw [turnB_byt hb hk, Array.getElem?_setIfInBounds]
  by_cases h : j = k
  · subst h
    have := hc j hj
    have hlt : j < c.size := by
      rw [Array.getElem?_eq_some_iff] at this
      exact this.1
    simp [hlt]
  · rw [if_neg h, if_neg (fun e => h e.symm), hc k hk]
theorem BytesB.beyond {W : World} {g g' cap j : Nat} {q : ByteArray} {u : Value} (h : BytesB W g q cap) (hj : q.size ≤ j) : BytesB (W.setCell ⟨g', j, none⟩ u) g q cap := by
  obtain ⟨c, m, hbk, hm, ⟨hmc, hcap⟩, hc⟩ := h
  by_cases hg : g = g'
  · subst hg
    refine ⟨_, m, block_setCell hbk j _, hm, ⟨by simpa using hmc, hcap⟩, fun k hk => ?_⟩
    rw [Array.getElem?_setIfInBounds, if_neg (by omega)]
    exact hc k hk
  · exact ⟨c, m, by rw [block_setCell_other u (by exact hg)]; exact hbk, hm, ⟨hmc, hcap⟩, hc⟩
/-- The cells of a stretch are stored where nothing is frozen. -/
theorem store_ahead (P : Program) (g o : Nat) (t : TypeId) (fz : Nat × Nat) : ∀ (vs : List Value) (i : Nat) (cur : Array Value) (w : World), w.heap[g]? = some (.cells cur t fz) → o + i + vs.length ≤ fz.1 → o + i + vs.length ≤ cur.size → (∀ v ∈ vs, v.oneCell' = true) →
    (storeCells ⟨g, o, none⟩ vs i).run P w = .ok () (w.setRow g (cur.toList.take (o + i) ++ vs ++ cur.toList.drop (o + i + vs.length)).toArray)
  | [], i, cur, w, hg, _, _, _ => by
    simp only [storeCells, List.append_nil, List.length_nil, Nat.add_zero, List.take_append_drop, Array.toArray_toList]
    rw [setRow_self w g cur t fz hg]
    rfl
  | v :: rest, i, cur, w, hg, hfz, hl, h1 => by
    have hi : o + i < cur.size := by simp at hl; omega
    have hadd : (⟨g, o, none⟩ : Addr).add i = ⟨g, o + i, none⟩ := by unfold Addr.add; split <;> simp_all
    have hcell : w.cell? ⟨g, o + i, none⟩ = some cur[o + i] := by simp [World.cell?, hg, hi]
    have hfro : w.frozen? ⟨g, o + i, none⟩ = false := by
      obtain ⟨lo, hi'⟩ := fz
      simp only [World.frozen?, hg, Bool.and_eq_false_iff, decide_eq_false_iff_not]
      left
      simp at hfz
      omega
    have hst : (store ((⟨g, o, none⟩ : Addr).add i) v).run P w = .ok () (w.setRow g (cur.setIfInBounds (o + i) v)) := by
      rw [hadd, run_store P w _ v _ (h1 v (by simp)), hcell]
      simp [hfro, setCell_eq_setRow w g (o + i) cur t fz v hg]
    have ih := store_ahead P g o t fz rest (i + 1) (cur.setIfInBounds (o + i) v) (w.setRow g (cur.setIfInBounds (o + i) v)) (setRow_heap w g cur _ t _ hg) (by simp at hfz ⊢; omega) (by simp at hl ⊢; omega) (fun x hx => h1 x (by simp [hx]))
    simp only [storeCells, Sem.run_bind, hst, Result.andThen_ok, ih, setRow_setRow]
    congr 3
    have e := list_seg_step cur.toList (o + i) v rest (by simp at hl ⊢; omega)
    simpa [Array.toList_setIfInBounds, Nat.add_assoc] using e
theorem info_u8S : (Tryd.prog.info? 5).map (fun i => (i.zero, i.size, i.bytes)) = some (some (.int .u8 0), 1, 1) := by kernel_rfl
theorem info_intO : (Tryd.prog.info? 3).map (fun i => (i.zero, i.size, i.bytes)) = some (some (.int .i64 0), 1, 8) := by kernel_rfl
theorem add0 (g j : Nat) : (⟨g, 0, none⟩ : Addr).add j = ⟨g, j, none⟩ := by unfold Addr.add; split <;> simp_all
/-- 'append(data, ..)'. -/
theorem data_two (w : World) (bv : Value) (d : ByteArray) (hd : DatB w bv d) (a : Addr) (m c : Nat) (news : List Value) (hl : news.length = m) (hnews : ∀ j u, news[j]? = some u → w.cell? (a.add j) = some u) (h1 : ∀ u ∈ news, u.oneCell' = true) (hm0 : 0 < m) (hsz : d.size + m ≤ 1000000000) :
    ∃ g' cap' w', (Builtin.append_ #[29, 29] 29 #[bv, .slice (some a) m c]).run Tryd.prog w = .ok (.slice (some ⟨g', 0, none⟩) (d.size + m) cap') w' ∧ Keep bv.ownBlock.toList w w' ∧ DatB w' bv d ∧ (bv.ownBlock = some g' ∨ w.heap.size ≤ g') ∧
      ∃ cur f, w'.heap[g']? = some (.cells cur 5 f) ∧ d.size + m ≤ cur.size ∧ (f = (0, 0) ∨ f.1 = cur.size) := by
  obtain ⟨i0, hi, hz0, hz1, hz2⟩ := parts_of info_u8S
  have ht := Tryd.underlying29
  rcases hd with ⟨rfl, rfl⟩ | ⟨g, cap, rfl, cur, mm, hg, hqm, ⟨hmc, hcap⟩, hc⟩
  · have hr := run_append_nil (P := Tryd.prog) w 29 29 5 i0 _ ht hi hz0 a m c news (by rw [hz1]; omega) hnews (by omega) (by omega) (by rw [hz2]; omega)
    have e0 : ByteArray.empty.size = 0 := rfl
    refine ⟨_, _, _, hr.trans (by rw [e0, Nat.zero_add]), ((Keep.refl _ _).drew).alloc _, .inl ⟨rfl, rfl⟩, .inr (Nat.le_refl _), _, _, World.alloc_heap_new w.drew _, ?_, .inl rfl⟩
    rw [Array.size_append, List.size_toArray, e0]
    omega
  · by_cases hroom : d.size + m ≤ cap
    · have hf := run_firstCells_some (P := Tryd.prog) w 1 m a m c news (by omega) hnews
      have hst := store_ahead Tryd.prog g d.size 5 (mm, mm + 1) news 0 cur w hg (by simp; omega) (by omega) h1
      simp only [Nat.add_zero] at hst
      have hr : (Builtin.append_ #[29, 29] 29 #[.slice (some ⟨g, 0, none⟩) d.size cap, .slice (some a) m c]).run Tryd.prog w =
          .ok (.slice (some ⟨g, 0, none⟩) (d.size + m) cap) (w.setRow g (cur.toList.take d.size ++ news ++ cur.toList.drop (d.size + news.length)).toArray) := by
        simp [Builtin.append_, run_underlying ht, sizeOf, typeInfo, hi, hz1, Builtin.lenOf, hroom, hf, Addr.add_lit, hst]
      have hh := setRow_heap w g cur (cur.toList.take d.size ++ news ++ cur.toList.drop (d.size + news.length)).toArray 5 (mm, mm + 1) hg
      have hcl : cur.toList.length = cur.size := Array.length_toList
      have hsz2 : (cur.toList.take d.size ++ news ++ cur.toList.drop (d.size + news.length)).toArray.size = cur.size := by
        rw [List.size_toArray, List.length_append, List.length_append, List.length_take, List.length_drop]
        omega
      refine ⟨g, cap, _, hr, ⟨rfl, rfl, rfl, by simp [World.setRow], fun k _ hk => setRow_other w g k _ (fun e => hk (by simp [Value.ownBlock, e]))⟩, .inr ⟨g, cap, rfl, _, mm, hh, hqm, ⟨by rw [hsz2]; exact hmc, hcap⟩, fun j hj => ?_⟩, .inl rfl, _, _, hh, by rw [hsz2]; omega, .inr (by rw [hsz2]; exact hmc)⟩
      rw [← hc j hj, List.getElem?_toArray, List.append_assoc, List.getElem?_append_left (by rw [List.length_take]; omega), List.getElem?_take_of_lt hj, Array.getElem?_toList]
    · have holds : ∀ j u, (bytV d)[j]? = some u → w.cell? ((⟨g, 0, none⟩ : Addr).add j) = some u := fun j u hu => by
        have hj : j < d.size := by
          have := (List.getElem?_eq_some_iff.1 hu).1
          rwa [bytV_len] at this
        rw [bytV_at hj] at hu
        rw [add0, cell_of_block hg, ← hu]
        exact hc j hj
      have hr := run_append_grow (P := Tryd.prog) w 29 29 5 i0 _ ht hi hz0 ⟨g, 0, none⟩ d.size cap (bytV d) (by rw [bytV_len, hz1]; omega) holds a m c news (by rw [hz1]; omega) hnews (by omega) (by omega) (growslice_fits (by omega) (by rw [hz2]; omega))
      have hk : Keep [] w (w.drew.alloc (.cells ((bytV d).toArray ++ news.toArray ++ Builtin.zeroCells (Value.int .u8 0).cells (grownCap w (d.size + m) cap 5 - (d.size + m))) 5)) := ((Keep.refl _ _).drew).alloc _
      refine ⟨_, _, _, hr, hk.mono (by simp), .inr ⟨g, cap, rfl, cur, mm, hk.at_ hg (by simp), hqm, ⟨hmc, hcap⟩, hc⟩, .inr (Nat.le_refl _), _, _, World.alloc_heap_new _ _, ?_, .inl rfl⟩
      rw [Array.size_append, Array.size_append, List.size_toArray, List.size_toArray, bytV_len]
      omega

/-! ### a script -/
def OwnS (W : World) (v : Value) (L : List Stp) (fp : List Nat) : Prop := ∃ cs bs, W.ownsRow 0 31 9 v L.length cs ∧ StRows W L cs bs ∧ fp = v.ownBlock.toList ++ bs ∧ bs.Nodup ∧ ∀ g ∈ v.ownBlock.toList, g ∉ bs
theorem OwnS.keep {W W' : World} {v : Value} {L : List Stp} {fp K : List Nat} (h : OwnS W v L fp) (k : Keep K W W') (hK : ∀ b ∈ fp, b ∉ K) : OwnS W' v L fp := by
  obtain ⟨cs, bs, h1, h2, rfl, h3, h4⟩ := h
  exact ⟨cs, bs, k.owns h1 (fun g hg => hK g (by simp [hg])), h2.keep k (fun b hb => hK b (by simp [hb])), rfl, h3, h4⟩
theorem OwnS.lt {W : World} {v : Value} {L : List Stp} {fp : List Nat} (h : OwnS W v L fp) : ∀ b ∈ fp, b < W.heap.size := by
  obtain ⟨cs, bs, h1, h2, rfl, h3, h4⟩ := h
  intro b hb
  rcases List.mem_append.1 hb with hb | hb
  · exact (own_ltS h1 b hb).2
  · exact h2.lt b hb
theorem OwnS.not_ty {W : World} {v : Value} {L : List Stp} {fp : List Nat} (h : OwnS W v L fp) {b : Nat} {c : Array Value} {t : TypeId} {f : Nat × Nat} (hb : W.heap[b]? = some (.cells c t f)) (h1 : t ≠ 3) (h2 : t ≠ 5) (h3 : t ≠ 31) : b ∉ fp := by
  obtain ⟨cs, bs, o1, o2, rfl, o3, o4⟩ := h
  intro hm
  rcases List.mem_append.1 hm with hm | hm
  · obtain ⟨c', f', hc⟩ := own_ty o1 b hm
    have e := Option.some.inj (hb.symm.trans hc)
    injection e with _ e _
    exact h3 e
  · exact o2.not_ty hb h1 h2 hm
theorem OwnS.steps {W : World} {v : Value} {L : List Stp} {fp : List Nat} (h : OwnS W v L fp) : Steps W v L := by
  obtain ⟨cs, bs, h1, h2, _⟩ := h
  exact h2.steps h1
theorem StRows.hole {W : World} : ∀ {L : List Stp} {cs : List Value} {bs : List Nat} {k : Nat} (hk : k < L.length), StRows W L cs bs → bs.Nodup → ∃ dv bv b, b = dv.ownBlock.toList ++ bv.ownBlock.toList ∧ StRow W L[k] (stV L[k] dv bv).toList b ∧ (∀ x ∈ b, x ∈ bs) ∧
    cs = cs.take (k * 9) ++ ((stV L[k] dv bv).toList ++ cs.drop (k * 9 + 9)) ∧ (cs.take (k * 9)).length = k * 9 ∧
    ∀ (K : List Nat) (W' : World) (s' : Stp), Keep K W W' → (∀ x ∈ bs, x ∈ K → x ∈ b) → StRow W' s' (stV s' dv bv).toList b → StRows W' (L.set k s') (cs.take (k * 9) ++ ((stV s' dv bv).toList ++ cs.drop (k * 9 + 9))) bs := by
  intro L
  induction L with
  | nil => intro cs bs k hk; cases hk
  | cons s L ih =>
    rintro cs bs k hk ⟨c, r, b0, q, rfl, rfl, h1, h2⟩ hnd
    have hl := h1.len
    have hnd' := List.nodup_append.1 hnd
    cases k with
    | zero =>
      have h1' := h1
      obtain ⟨dv, bv, rfl, rfl, g1, g2⟩ := h1
      refine ⟨dv, bv, _, rfl, h1', fun x hx => List.mem_append.2 (.inl hx), ?_, by simp, fun K W' s' hk hK hs' => ?_⟩
      · show (stV s dv bv).toList ++ r = List.take (0 * 9) _ ++ ((stV s dv bv).toList ++ _)
        rw [Nat.zero_mul, List.take_zero, List.nil_append, Nat.zero_add, List.drop_append_of_le_length (by rw [hl]; omega), List.drop_of_length_le (by rw [hl]; omega), List.nil_append]
      · rw [Nat.zero_mul, List.take_zero, List.nil_append, Nat.zero_add, List.drop_append_of_le_length (by rw [hl]; omega), List.drop_of_length_le (by rw [hl]; omega), List.nil_append]
        exact ⟨_, r, _, q, rfl, rfl, hs', h2.keep hk (fun x hx hxk => hnd'.2.2 x (hK x (List.mem_append.2 (.inr hx)) hxk) x hx rfl)⟩
    | succ k =>
      have hk' : k < L.length := by simpa using hk
      obtain ⟨dv, bv, b, hb, g1, g2, g3, g3', g4⟩ := ih hk' h2 hnd'.2.1
      have e1 : (c ++ r).take ((k + 1) * 9) = c ++ r.take (k * 9) := by
        rw [List.take_append, hl, List.take_of_length_le (by rw [hl]; omega), show (k + 1) * 9 - 9 = k * 9 by omega]
      have e2 : (c ++ r).drop ((k + 1) * 9 + 9) = r.drop (k * 9 + 9) := by
        rw [List.drop_append, hl, List.drop_of_length_le (by rw [hl]; omega), List.nil_append, show (k + 1) * 9 + 9 - 9 = k * 9 + 9 by omega]
      refine ⟨dv, bv, b, hb, g1, fun x hx => List.mem_append.2 (.inr (g2 x hx)), ?_, ?_, fun K W' s' hk hK hs' => ?_⟩
      · rw [e1, e2, List.append_assoc]
        exact congrArg (c ++ ·) g3
      · rw [e1, List.length_append, hl, g3']
        omega
      · rw [e1, e2, List.append_assoc]
        refine ⟨c, _, b0, q, rfl, rfl, h1.keep hk (fun x hx hxk => hnd'.2.2 x hx x (g2 x (hK x (List.mem_append.2 (.inl hx)) hxk)) rfl), g4 K W' s' hk (fun x hx hxk => hK x (List.mem_append.2 (.inr hx)) hxk) hs'⟩
/-- The steps of a script as they lie, one of them taken out. -/
theorem OwnS.hole {W : World} {v : Value} {L : List Stp} {fp : List Nat} (h : OwnS W v L fp) {k : Nat} (hk : k < L.length) : ∃ dv bv b g cap, v = .slice (some ⟨g, 0, none⟩) L.length cap ∧ b = dv.ownBlock.toList ++ bv.ownBlock.toList ∧ StRow W L[k] (stV L[k] dv bv).toList b ∧ (∀ x ∈ b, x ∈ fp ∧ x ≠ g) ∧ g ∈ fp ∧
    (∃ c, W.heap[g]? = some (.cells c 31 (0, 0))) ∧ (∀ j u, (stV L[k] dv bv)[j]? = some u → W.cell? ⟨g, k * 9 + j, none⟩ = some u) ∧
    (∀ (K : List Nat) (W' : World) (s' : Stp), Keep K W W' → (∀ x ∈ fp, x ∈ K → x ∈ b) → stV s' dv bv = stV L[k] dv bv → StRow W' s' (stV s' dv bv).toList b → OwnS W' v (L.set k s') fp) ∧
    (∀ x : Int, OwnS (W.setCell ⟨g, k * 9 + 1, none⟩ (.int .i64 x)) v (L.set k { L[k] with site := x }) fp) := by
  obtain ⟨cs, bs, h1, h2, rfl, h3, h4⟩ := h
  obtain ⟨dv, bv, b, hb, g1, g2, g3, g3', g4⟩ := h2.hole hk h3
  have h1' := h1
  rcases h1.2 with ⟨_, h0⟩ | ⟨g, cap, cur, rfl, hbg, hgg, hnc, hcm, hcs, htake⟩
  · omega
  have hcells := fun j u (hu : cs[j]? = some u) => h1'.cells (g := g) rfl j u hu
  have hgb : g ∉ bs := h4 g (by simp [Value.ownBlock])
  have hlen : (stV L[k] dv bv).toList.length = 9 := rfl
  refine ⟨dv, bv, b, g, cap, rfl, hb, g1, fun x hx => ⟨by simp [Value.ownBlock]; exact .inr (g2 x hx), fun e => hgb (by rw [← e]; exact g2 x hx)⟩, by simp [Value.ownBlock], ⟨_, hgg⟩, fun j u hu => ?_, fun K W' s' hk hK hs hs' => ?_, fun x => ?_⟩
  · have hj : j < 9 := (Array.getElem?_eq_some_iff.1 hu).1
    have := hcells (k * 9 + j) u (by
      rw [g3, List.getElem?_append_right (by rw [g3']; omega), g3', show k * 9 + j - k * 9 = j by omega, List.getElem?_append_left (by rw [hlen]; exact hj)]
      simpa using hu)
    rwa [add0] at this
  · have hr := g4 K W' s' hk (fun x hx hxk => hK x (by simp [Value.ownBlock]; exact .inr hx) hxk) hs'
    rw [hs, ← g3] at hr
    refine ⟨cs, bs, ?_, hr, rfl, h3, h4⟩
    rw [List.length_set]
    refine hk.owns h1' (fun y hy hyk => ?_)
    simp [Value.ownBlock] at hy
    subst hy
    exact hgb (g2 _ (hK g (by simp [Value.ownBlock]) hyk))
  · have hs' : StRow (W.setCell ⟨g, k * 9 + 1, none⟩ (.int .i64 x)) { L[k] with site := x } (stV { L[k] with site := x } dv bv).toList b := by
      have hkk : Keep [g] W (W.setCell ⟨g, k * 9 + 1, none⟩ (.int .i64 x)) := (Keep.refl _ _).setCell (.inl (by simp)) _
      have hkp := g1.keep hkk (fun y hy hyg => hgb (by simp at hyg; subst hyg; exact g2 _ hy))
      obtain ⟨dv', bv', e1, e2, q1, q2⟩ := hkp
      have e3 : dv = dv' ∧ bv = bv' := by
        simp [stV] at e1
        exact e1
      obtain ⟨rfl, rfl⟩ := e3
      exact ⟨dv, bv, rfl, e2, q1, q2⟩
    have hr := g4 [g] _ _ ((Keep.refl _ _).setCell (.inl (by simp)) _) (fun y hy hyg => absurd (by simp at hyg; subst hyg; exact hy) hgb) hs'
    refine ⟨_, bs, ?_, hr, rfl, h3, h4⟩
    rw [List.length_set]
    have := own_set (j := k * 9 + 1) (u := .int .i64 x) h1' (by omega)
    have e : cs.set (k * 9 + 1) (.int .i64 x) = cs.take (k * 9) ++ ((stV { L[k] with site := x } dv bv).toList ++ cs.drop (k * 9 + 9)) := by
      conv => lhs; rw [g3]
      rw [List.set_append_right _ _ (by rw [g3']; omega), g3', show k * 9 + 1 - k * 9 = 1 by omega, List.set_append_left _ _ (by rw [hlen]; omega)]
      rfl
    rwa [e] at this
/-- Several scripts, apart from one another. -/
structure Lot (B0 m : Nat) (W : World) (vs : Nat → Value) (Ls : Nat → List Stp) (fps : Nat → List Nat) : Prop where
  own : ∀ j, j < m → OwnS W (vs j) (Ls j) (fps j)
  apart : ∀ j i, j < m → i < m → j ≠ i → ∀ b ∈ fps j, b ∉ fps i
  low : ∀ j, j < m → ∀ b ∈ fps j, B0 ≤ b
theorem Lot.keep {B0 m : Nat} {W W' : World} {vs : Nat → Value} {Ls : Nat → List Stp} {fps : Nat → List Nat} {K : List Nat} (h : Lot B0 m W vs Ls fps) (k : Keep K W W') (hK : ∀ j, j < m → ∀ b ∈ fps j, b ∉ K) : Lot B0 m W' vs Ls fps :=
  ⟨fun j hj => (h.own j hj).keep k (hK j hj), h.apart, h.low⟩
theorem Lot.keep0 {B0 m : Nat} {W W' : World} {vs : Nat → Value} {Ls : Nat → List Stp} {fps : Nat → List Nat} (h : Lot B0 m W vs Ls fps) (k : Keep [] W W') : Lot B0 m W' vs Ls fps := h.keep k (fun _ _ _ _ => by simp)
theorem Lot.turn {B0 m i : Nat} {W W' : World} {vs : Nat → Value} {Ls : Nat → List Stp} {fps : Nat → List Nat} {K : List Nat} {L' : List Stp} (h : Lot B0 m W vs Ls fps) (hi : i < m) (k : Keep K W W') (hK : ∀ x ∈ K, x ∈ fps i ∨ W.heap.size ≤ x) (ho : OwnS W' (vs i) L' (fps i)) :
    Lot B0 m W' vs (fun j => if j = i then L' else Ls j) fps := by
  refine ⟨fun j hj => ?_, h.apart, h.low⟩
  by_cases e : j = i
  · subst e
    rw [if_pos rfl]
    exact ho
  · rw [if_neg e]
    refine (h.own j hj).keep k (fun b hb hbk => ?_)
    rcases hK b hbk with hx | hx
    · exact h.apart j i hj hi e b hb hx
    · have := (h.own j hj).lt b hb
      omega
theorem Lot.same {B0 m : Nat} {W : World} {vs : Nat → Value} {Ls Ls' : Nat → List Stp} {fps : Nat → List Nat} (h : Lot B0 m W vs Ls fps) (e : ∀ j, j < m → Ls j = Ls' j) : Lot B0 m W vs Ls' fps :=
  ⟨fun j hj => by rw [← e j hj]; exact h.own j hj, h.apart, h.low⟩
theorem Lot.more {B0 m : Nat} {W : World} {vs : Nat → Value} {Ls : Nat → List Stp} {fps : Nat → List Nat} {v : Value} {L : List Stp} {fp : List Nat} (h : Lot B0 m W vs Ls fps) (ho : OwnS W v L fp) (hd : ∀ j, j < m → ∀ b ∈ fps j, b ∉ fp) (hb : ∀ b ∈ fp, B0 ≤ b) :
    Lot B0 (m + 1) W (fun j => if j = m then v else vs j) (fun j => if j = m then L else Ls j) (fun j => if j = m then fp else fps j) := by
  refine ⟨fun j hj => ?_, fun j i hj hi hne b hbj hbi => ?_, fun j hj b hbj => ?_⟩
  · by_cases e : j = m
    · simp only [if_pos e]; exact ho
    · simp only [if_neg e]; exact h.own j (by omega)
  · by_cases e : j = m
    · by_cases e' : i = m
      · omega
      · simp only [if_pos e, if_neg e'] at hbj hbi
        exact hd i (by omega) b hbi hbj
    · by_cases e' : i = m
      · simp only [if_neg e, if_pos e'] at hbj hbi
        exact hd j (by omega) b hbj hbi
      · simp only [if_neg e, if_neg e'] at hbj hbi
        exact h.apart j i (by omega) (by omega) hne b hbj hbi
  · by_cases e : j = m
    · simp only [if_pos e] at hbj; exact hb b hbj
    · simp only [if_neg e] at hbj; exact h.low j (by omega) b hbj
end Go.Proofs.YtbidppjhenfjdaaDoor
namespace Go.Proofs.YtbidppjhenfjdaaDoor
open Go.RowKit
set_option linter.unusedVariables false
set_option linter.unusedSimpArgs false

theorem own_lowS {w : World} {base base' sz n : Nat} {e : TypeId} {v : Value} {xs : List Value} (h : w.ownsRow base e sz v n xs) (hb : base' ≤ base) : w.ownsRow base' e sz v n xs := by
  refine ⟨h.1, ?_⟩
  rcases h.2 with h0 | ⟨g, cap, cur, e1, e2, e3⟩
  · exact .inl h0
  · exact .inr ⟨g, cap, cur, e1, Nat.le_trans hb e2, e3⟩
/-- What stays as it is: the row of the three, where they lie, how many steps. -/
structure Fix where
  W : World
  n : Nat
  A : Nat
  cA : Array Value
  vs : Nat → Value
  fps : Nat → List Nat
/-- Between the rounds: the three scripts say Ls. -/
structure St (F : Fix) (wr : World) (Ls : Nat → List Stp) : Prop where
  kp : Keep [] F.W wr
  all : wr.heap[F.A]? = some (.cells F.cA 22 (0, 0))
  lot : Lot F.W.heap.size 3 wr F.vs Ls F.fps
  len : ∀ j, j < 3 → (Ls j).length = F.n ∧ ∀ s ∈ Ls j, s.draws.length ≤ 400 ∧ s.data.size ≤ 30000
  at_ : ∀ j, j < 3 → F.cA[j]? = some (F.vs j)
  lowA : F.W.heap.size ≤ F.A
section
variable {F : Fix} {wr wr' : World} {Ls : Nat → List Stp}
theorem St.notA (h : St F wr Ls) {j : Nat} (hj : j < 3) : F.A ∉ F.fps j := (h.lot.own j hj).not_ty h.all (by decide) (by decide) (by decide)
theorem St.keep0 (h : St F wr Ls) (k : Keep [] wr wr') : St F wr' Ls := ⟨h.kp.trans0 k, k.at_ h.all (by simp), h.lot.keep0 k, h.len, h.at_, h.lowA⟩
theorem St.cell (h : St F wr Ls) {j : Nat} (hj : j < 3) : wr.cell? ⟨F.A, j, none⟩ = some (F.vs j) := by rw [cell_of_block h.all]; exact h.at_ j hj
/-- A world in which only blocks that none of the three needs have turned. -/
theorem St.far {K : List Nat} (h : St F wr Ls) (k : Keep K wr wr') (hK : ∀ x ∈ K, F.W.heap.size ≤ x ∧ x ≠ F.A ∧ ∀ j, j < 3 → x ∉ F.fps j) : St F wr' Ls :=
  ⟨h.kp.trans k (fun x hx => .inr (hK x hx).1), k.at_ h.all (fun hx => (hK _ hx).2.1 rfl), h.lot.keep k (fun j hj b hb hbk => (hK b hbk).2.2 j hj hb), h.len, h.at_, h.lowA⟩
/-- One of the three is turned. -/
theorem St.turn {K : List Nat} {i : Nat} {L' : List Stp} (h : St F wr Ls) (hi : i < 3) (k : Keep K wr wr') (hK : ∀ x ∈ K, x ∈ F.fps i ∨ wr.heap.size ≤ x) (ho : OwnS wr' (F.vs i) L' (F.fps i)) (hl : L'.length = F.n ∧ ∀ s ∈ L', s.draws.length ≤ 400 ∧ s.data.size ≤ 30000) : St F wr' (fun j => if j = i then L' else Ls j) := by
  refine ⟨h.kp.trans k (fun x hx => .inr ?_), k.at_ h.all (fun hx => ?_), h.lot.turn hi k hK ho, fun j hj => ?_, h.at_, h.lowA⟩
  · rcases hK x hx with h1 | h1
    · exact h.lot.low i hi x h1
    · have := h.kp.size; omega
  · rcases hK _ hx with h1 | h1
    · exact h.notA hi h1
    · have := lt_of_block h.all; omega
  · by_cases e : j = i
    · simp only [if_pos e]; exact hl
    · simp only [if_neg e]; exact h.len j hj
theorem St.same {Ls' : Nat → List Stp} (h : St F wr Ls) (e : ∀ j, j < 3 → Ls j = Ls' j) : St F wr Ls' :=
  ⟨h.kp, h.all, h.lot.same e, fun j hj => by rw [← e j hj]; exact h.len j hj, h.at_, h.lowA⟩
/-- What the law writes into a step. -/
def GoodAt (i k : Nat) (s : Stp) : Prop := s.site = 1000 + (i : Int) ∧ (∀ t, t < s.draws.length → s.draws[t]? = some (100 + 3 * (k : Int) + (i : Int))) ∧ ∀ t, t < s.data.size → byt s.data t = (3 * k + i) % 256
def Done (i k : Nat) (Ls : Nat → List Stp) : Prop := ∀ j q s, j < 3 → (Ls j)[q]? = some s → (j < i ∨ (j = i ∧ q < k)) → GoodAt j q s
theorem Done.start : Done 0 0 Ls := fun j q s _ _ h => by omega
theorem Done.step {i k : Nat} (h : Done i k Ls) (hg : ∀ s, (Ls i)[k]? = some s → GoodAt i k s) : Done i (k + 1) Ls := fun j q s hj hs hc => by
  by_cases e : j = i ∧ q = k
  · obtain ⟨rfl, rfl⟩ := e
    exact hg s hs
  · exact h j q s hj hs (by omega)
theorem Done.next {i n : Nat} (h : Done i n Ls) (hl : ∀ j, j < 3 → (Ls j).length = n) : Done (i + 1) 0 Ls := fun j q s hj hs hc => by
  have hq : q < n := by rw [← hl j hj]; exact (List.getElem?_eq_some_iff.1 hs).1
  exact h j q s hj hs (by omega)
theorem Done.set {i k : Nat} {s' : Stp} (h : Done i k Ls) : Done i k (fun j => if j = i then (Ls i).set k s' else Ls j) := fun j q s hj hs hc => by
  by_cases e : j = i
  · subst e
    simp only [↓reduceIte] at hs
    by_cases eq : q = k
    · omega
    · rw [List.getElem?_set_ne (by omega)] at hs
      exact h j q s hj hs hc
  · simp only [if_neg e] at hs
    exact h j q s hj hs hc
/-- A step of one of the three, and its row. -/
theorem St.step (h : St F wr Ls) {i k : Nat} (hi : i < 3) (hk : k < F.n) : ∃ s ad1 cap1 ad2 cap2 g cap, (Ls i)[k]? = some s ∧ F.vs i = .slice (some ⟨g, 0, none⟩) F.n cap ∧ s.draws.length ≤ 400 ∧ s.data.size ≤ 30000 ∧
    (∀ j u, (stV s (.slice ad1 s.draws.length cap1) (.slice ad2 s.data.size cap2))[j]? = some u → wr.cell? ⟨g, k * 9 + j, none⟩ = some u) ∧ StRd wr s (.slice ad1 s.draws.length cap1) (.slice ad2 s.data.size cap2) ∧ g ≠ F.A ∧ (∃ c, wr.heap[g]? = some (.cells c 31 (0, 0))) := by
  have hl := (h.len i hi).1
  have hkL : k < (Ls i).length := by omega
  obtain ⟨dv, bv, b, g, cap, hv, hb, hrow, hbf, hg, hc, hcells, _, _⟩ := (h.lot.own i hi).hole hkL
  obtain ⟨dv', bv', e1, hrd⟩ := hrow.rd
  have e3 : dv = dv' ∧ bv = bv' := by simp [stV] at e1; exact e1
  obtain ⟨rfl, rfl⟩ := e3
  obtain ⟨ad1, cap1, h3⟩ := hrd.1.empty
  obtain ⟨ad2, cap2, h4⟩ := hrd.2.empty
  subst h3
  subst h4
  have hsm := (h.len i hi).2 _ (List.getElem_mem hkL)
  exact ⟨_, ad1, cap1, ad2, cap2, g, cap, List.getElem?_eq_getElem hkL, by rw [hv, hl], hsm.1, hsm.2, hcells, hrd, fun e => h.notA hi (by rw [← e]; exact hg), hc⟩
/-- Within a step: t numbers and u bytes are written; the step's lists are dv, bv; a variable X holds them. -/
structure Part (F : Fix) (i k g cap X : Nat) (cX : Array Value) (dv bv : Value) (nd nb t u : Nat) (wr : World) : Prop where
  ex : ∃ Ls s, St F wr Ls ∧ Done i k Ls ∧ (Ls i)[k]? = some s ∧ s.draws.length = nd ∧ s.data.size = nb ∧ (∀ q, q < t → s.draws[q]? = some (100 + 3 * (k : Int) + (i : Int))) ∧ ∀ q, q < u → byt s.data q = (3 * k + i) % 256
  box : wr.heap[X]? = some (.cells cX 31 (0, 0))
  v : F.vs i = .slice (some ⟨g, 0, none⟩) F.n cap
  c7 : wr.cell? ⟨g, k * 9 + 7, none⟩ = some dv
  c8 : wr.cell? ⟨g, k * 9 + 8, none⟩ = some bv
  far : ∀ j, j < 3 → X ∉ F.fps j
  hi : i < 3
  hk : k < F.n
variable {i k g cap X nd nb t u : Nat} {cX : Array Value} {dv bv : Value}
/-- The hole of a step, with its lists known. -/
theorem hole_known {Ls : Nat → List Stp} {s : Stp} (h : St F wr Ls) (hi : i < 3) (hs : (Ls i)[k]? = some s) (hv : F.vs i = .slice (some ⟨g, 0, none⟩) F.n cap) (h7 : wr.cell? ⟨g, k * 9 + 7, none⟩ = some dv) (h8 : wr.cell? ⟨g, k * 9 + 8, none⟩ = some bv) :
    ∃ b, b = dv.ownBlock.toList ++ bv.ownBlock.toList ∧ StRow wr s (stV s dv bv).toList b ∧ (∀ x ∈ b, x ∈ F.fps i ∧ x ≠ g) ∧ g ∈ F.fps i ∧ (∃ c, wr.heap[g]? = some (.cells c 31 (0, 0))) ∧ (∀ j u, (stV s dv bv)[j]? = some u → wr.cell? ⟨g, k * 9 + j, none⟩ = some u) ∧
      (∀ (K : List Nat) (W' : World) (s' : Stp), Keep K wr W' → (∀ x ∈ F.fps i, x ∈ K → x ∈ b) → stV s' dv bv = stV s dv bv → StRow W' s' (stV s' dv bv).toList b → OwnS W' (F.vs i) ((Ls i).set k s') (F.fps i)) ∧
      (∀ x : Int, OwnS (wr.setCell ⟨g, k * 9 + 1, none⟩ (.int .i64 x)) (F.vs i) ((Ls i).set k { s with site := x }) (F.fps i)) := by
  have hkL : k < (Ls i).length := (List.getElem?_eq_some_iff.1 hs).1
  obtain ⟨dv', bv', b, g', cap', hv', hb, hrow, hbf, hg, hc, hcells, hu1, hu2⟩ := (h.lot.own i hi).hole hkL
  have e0 : (Ls i)[k] = s := (List.getElem?_eq_some_iff.1 hs).2
  rw [e0] at hrow hcells hu1 hu2
  rw [hv] at hv'
  injection hv' with e1 e2 e3
  injection e1 with e1
  injection e1 with e4 e5 e6
  subst e4
  have a7 := hcells 7 dv' rfl
  have a8 := hcells 8 bv' rfl
  rw [h7] at a7
  rw [h8] at a8
  cases a7
  cases a8
  exact ⟨b, hb, hrow, hbf, hg, hc, hcells, hu1, hu2⟩
theorem StRow.parts {W : World} {s : Stp} {b : List Nat} (h : StRow W s (stV s dv bv).toList b) : b = dv.ownBlock.toList ++ bv.ownBlock.toList ∧ DatB W bv s.data ∧ W.ownsRow 0 3 1 dv s.draws.length (intsV s.draws) := by
  obtain ⟨dv', bv', e1, e2, q1, q2⟩ := h
  have e3 : dv = dv' ∧ bv = bv' := by simp [stV] at e1; exact e1
  obtain ⟨rfl, rfl⟩ := e3
  exact ⟨e2, q1, q2⟩
theorem ints_set (l : List Int) (t : Nat) (x : Int) : intsV (l.set t x) = (intsV l).set t (.int .i64 x) := by unfold intsV; rw [List.map_set]
theorem dat_ne {W : World} {d : ByteArray} {h : Nat} {c : Array Value} {f : Nat × Nat} {t : TypeId} (hd : DatB W bv d) (hh : W.heap[h]? = some (.cells c t f)) (ht : t ≠ 5) : ∀ y, bv.ownBlock = some y → y ≠ h := by
  intro y hy e
  subst e
  obtain ⟨c', f', hc⟩ := hd.ty y (by simp [hy])
  have e := Option.some.inj (hh.symm.trans hc)
  injection e with _ e _
  exact ht e
/-- A number is written over. -/
theorem Part.draw (h : Part F i k g cap X cX dv bv nd nb t u wr) (ht : t < nd) : ∃ a c, dv = .slice (some ⟨a, 0, none⟩) nd c ∧ (∃ old, wr.cell? ⟨a, t, none⟩ = some old) ∧ wr.frozen? ⟨a, t, none⟩ = false ∧ Part F i k g cap X cX dv bv nd nb (t + 1) u (wr.setCell ⟨a, t, none⟩ (.int .i64 (100 + 3 * (k : Int) + (i : Int)))) := by
  obtain ⟨⟨Ls, s, hst, hdn, hs, hnd, hnb, ht1, hu1⟩, hbox, hv, h7, h8, hfar, hi, hk⟩ := h
  obtain ⟨b, hb, hrow, hbf, hg, ⟨cg, hcg⟩, hcells, hup, _⟩ := hole_known hst hi hs hv h7 h8
  obtain ⟨_, hdat, hown⟩ := hrow.parts
  have hown' := hown
  rcases hown.2 with ⟨_, h0⟩ | ⟨a, c, cur, rfl, _, hga, hnc, hcm, hcs, htake⟩
  · omega
  rw [hnd] at hcells
  have hab : a ∈ b := by rw [hb]; simp [Value.ownBlock]
  have haX : a ≠ X := fun e => hfar i hi (by rw [← e]; exact (hbf a hab).1)
  have hag : a ≠ g := (hbf a hab).2
  have hkk : Keep [a] wr (wr.setCell ⟨a, t, none⟩ (.int .i64 (100 + 3 * (k : Int) + (i : Int)))) := (Keep.refl _ _).setCell (.inl (by simp)) _
  rw [hnd] at hown' hnc htake
  refine ⟨a, c, by rw [hnd], ?_, free_of_block hga t, ⟨_, { s with draws := s.draws.set t (100 + 3 * (k : Int) + (i : Int)) }, hst.turn hi hkk (fun x hx => by simp at hx; subst hx; exact .inl (hbf _ hab).1) (hup [a] _ { s with draws := s.draws.set t (100 + 3 * (k : Int) + (i : Int)) } hkk (fun x hx hxk => by simp at hxk; subst hxk; exact hab) rfl ?_) ?_, hdn.set, ?_, ?_, hnb, ?_, hu1⟩, hkk.at_ hbox (by simpa using Ne.symm haX), hv, hkk.cellv h7 (by simpa using Ne.symm hag), hkk.cellv h8 (by simpa using Ne.symm hag), hfar, hi, hk⟩
  · rw [cell_of_block hga]
    exact ⟨_, Array.getElem?_eq_getElem (by omega)⟩
  · refine ⟨_, bv, rfl, hb, hdat.keep hkk (fun y hy => by have := dat_ne hdat hga (by decide) y hy; simpa using this), ?_⟩
    have := own_set (j := t) (u := .int .i64 (100 + 3 * (k : Int) + (i : Int))) hown' (by omega)
    rw [← ints_set] at this
    show World.ownsRow _ 0 _ 1 _ (s.draws.set t _).length (intsV (s.draws.set t _))
    rw [List.length_set, hnd]
    exact this
  · have hl := hst.len i hi
    have hkL : k < (Ls i).length := (List.getElem?_eq_some_iff.1 hs).1
    refine ⟨by rw [List.length_set]; exact hl.1, fun x hx => ?_⟩
    rcases List.mem_or_eq_of_mem_set hx with hx | rfl
    · exact hl.2 x hx
    · have := hl.2 s (List.mem_of_getElem? hs)
      exact ⟨by show (s.draws.set t _).length ≤ _; rw [List.length_set]; exact this.1, this.2⟩
  · simp only [↓reduceIte]
    exact List.getElem?_set_self (List.getElem?_eq_some_iff.1 hs).1
  · show (s.draws.set t _).length = nd
    rw [List.length_set, hnd]
  · intro q hq
    show (s.draws.set t _)[q]? = _
    by_cases e : q = t
    · subst e
      exact List.getElem?_set_self (by omega)
    · rw [List.getElem?_set_ne (by omega)]
      exact ht1 q (by omega)
/-- A byte is written over. -/
theorem Part.byte (h : Part F i k g cap X cX dv bv nd nb t u wr) (ht : u < nb) : ∃ a c, bv = .slice (some ⟨a, 0, none⟩) nb c ∧ (∃ old, wr.cell? ⟨a, u, none⟩ = some old) ∧ wr.frozen? ⟨a, u, none⟩ = false ∧ Part F i k g cap X cX dv bv nd nb t (u + 1) (wr.setCell ⟨a, u, none⟩ (.int .u8 (((3 * k + i) % 256 : Nat) : Int))) := by
  obtain ⟨⟨Ls, s, hst, hdn, hs, hnd, hnb, ht1, hu1⟩, hbox, hv, h7, h8, hfar, hi, hk⟩ := h
  obtain ⟨b, hb, hrow, hbf, hg, ⟨cg, hcg⟩, hcells, hup, _⟩ := hole_known hst hi hs hv h7 h8
  obtain ⟨_, hdat, hown⟩ := hrow.parts
  have hdat' := hdat
  rcases hdat with ⟨_, h0⟩ | ⟨a, c, rfl, hby⟩
  · rw [h0] at hnb
    have e0 : ByteArray.empty.size = 0 := rfl
    omega
  have hab : a ∈ b := by rw [hb]; simp [Value.ownBlock]
  have haX : a ≠ X := fun e => hfar i hi (by rw [← e]; exact (hbf a hab).1)
  have hag : a ≠ g := (hbf a hab).2
  have hkk : Keep [a] wr (wr.setCell ⟨a, u, none⟩ (.int .u8 (((3 * k + i) % 256 : Nat) : Int))) := (Keep.refl _ _).setCell (.inl (by simp)) _
  have hcell := hby.cell (j := u) (by omega)
  obtain ⟨cb, fb, hcb⟩ := hdat'.ty a (by simp [Value.ownBlock])
  refine ⟨a, c, by rw [hnb], ⟨_, hcell.1⟩, hcell.2, ⟨_, { s with data := turnB s.data u ((3 * k + i) % 256) }, hst.turn hi hkk (fun x hx => by simp at hx; subst hx; exact .inl (hbf _ hab).1) (hup [a] _ { s with data := turnB s.data u ((3 * k + i) % 256) } hkk (fun x hx hxk => by simp at hxk; subst hxk; exact hab) rfl ?_) ?_, hdn.set, ?_, hnd, ?_, ht1, ?_⟩, hkk.at_ hbox (by simpa using Ne.symm haX), hv, hkk.cellv h7 (by simpa using Ne.symm hag), hkk.cellv h8 (by simpa using Ne.symm hag), hfar, hi, hk⟩
  · refine ⟨dv, _, rfl, hb, .inr ⟨a, c, by show _ = Value.slice _ (turnB s.data u _).size _; rw [turnB_size], hby.turnB (by omega) (by omega)⟩, hkk.owns hown (fun y hy hya => ?_)⟩
    simp at hya
    subst hya
    obtain ⟨c', f', hc'⟩ := own_ty hown y (by simp [hy])
    have e := Option.some.inj (hcb.symm.trans hc')
    injection e with _ e _
    exact absurd e (by decide)
  · have hl := hst.len i hi
    refine ⟨by rw [List.length_set]; exact hl.1, fun x hx => ?_⟩
    rcases List.mem_or_eq_of_mem_set hx with hx | rfl
    · exact hl.2 x hx
    · have := hl.2 s (List.mem_of_getElem? hs)
      exact ⟨this.1, by show (turnB s.data u _).size ≤ _; rw [turnB_size]; exact this.2⟩
  · simp only [↓reduceIte]
    exact List.getElem?_set_self (List.getElem?_eq_some_iff.1 hs).1
  · show (turnB s.data u _).size = nb
    rw [turnB_size, hnb]
  · intro q hq
    show byt (turnB s.data u _) q = _
    rw [turnB_byt (by omega) (by omega)]
    by_cases e : q = u
    · rw [if_pos e]
    · rw [if_neg e]; exact hu1 q (by omega)
/-- The site is written over: the step is done. -/
theorem Part.site (h : Part F i k g cap X cX dv bv nd nb t u wr) (ht : nd ≤ t) (hu : nb ≤ u) : (∃ old, wr.cell? ⟨g, k * 9 + 1, none⟩ = some old) ∧ wr.frozen? ⟨g, k * 9 + 1, none⟩ = false ∧ ∃ Ls, St F (wr.setCell ⟨g, k * 9 + 1, none⟩ (.int .i64 (1000 + (i : Int)))) Ls ∧ Done i (k + 1) Ls := by
  obtain ⟨⟨Ls, s, hst, hdn, hs, hnd, hnb, ht1, hu1⟩, hbox, hv, h7, h8, hfar, hi, hk⟩ := h
  obtain ⟨b, hb, hrow, hbf, hg, ⟨cg, hcg⟩, hcells, _, hup⟩ := hole_known hst hi hs hv h7 h8
  have hkk : Keep [g] wr (wr.setCell ⟨g, k * 9 + 1, none⟩ (.int .i64 (1000 + (i : Int)))) := (Keep.refl _ _).setCell (.inl (by simp)) _
  have hl := hst.len i hi
  refine ⟨⟨_, hcells 1 _ rfl⟩, free_of_block hcg _, _, hst.turn hi hkk (fun x hx => by simp at hx; subst hx; exact .inl hg) (hup (1000 + (i : Int))) ⟨by rw [List.length_set]; exact hl.1, fun x hx => ?_⟩, hdn.set.step (fun x hx => ?_)⟩
  · rcases List.mem_or_eq_of_mem_set hx with hx | rfl
    · exact hl.2 x hx
    · exact hl.2 s (List.mem_of_getElem? hs)
  · simp only [↓reduceIte] at hx
    rw [List.getElem?_set_self (List.getElem?_eq_some_iff.1 hs).1] at hx
    cases hx
    exact ⟨rfl, fun q hq => ht1 q (by have : q < s.draws.length := hq; omega), fun q hq => hu1 q (by have : q < s.data.size := hq; omega)⟩
/-! ### gone on from -/
/-- A block into which one may write behind what the three say. -/
def Spare (F : Fix) (i k g : Nat) (dv bv : Value) (nd nb j a : Nat) (wr : World) : Prop := (F.W.heap.size ≤ a ∧ a ≠ F.A ∧ ∀ q, q < 3 → a ∉ F.fps q) ∨ (dv.ownBlock = some a ∧ nd ≤ j) ∨ (bv.ownBlock = some a ∧ nb ≤ j)
theorem set_self {l : List Stp} {k : Nat} {s : Stp} (h : l[k]? = some s) : l.set k s = l := by
  apply List.ext_getElem?
  intro q
  by_cases e : k = q
  · subst e
    rw [List.getElem?_set_self (List.getElem?_eq_some_iff.1 h).1, h]
  · rw [List.getElem?_set_ne e]
theorem St.spare {s : Stp} {j a : Nat} {x : Value} (h : St F wr Ls) (hi : i < 3) (hs : (Ls i)[k]? = some s) (hv : F.vs i = .slice (some ⟨g, 0, none⟩) F.n cap) (h7 : wr.cell? ⟨g, k * 9 + 7, none⟩ = some dv) (h8 : wr.cell? ⟨g, k * 9 + 8, none⟩ = some bv) (hsp : Spare F i k g dv bv s.draws.length s.data.size j a wr) :
    St F (wr.setCell ⟨a, j, none⟩ x) Ls ∧ (a = g → False) := by
  obtain ⟨b, hb, hrow, hbf, hg, ⟨cg, hcg⟩, hcells, hup, _⟩ := hole_known h hi hs hv h7 h8
  obtain ⟨_, hdat, hown⟩ := hrow.parts
  have hkk : Keep [a] wr (wr.setCell ⟨a, j, none⟩ x) := (Keep.refl _ _).setCell (.inl (by simp)) _
  rcases hsp with hf | hab
  · exact ⟨h.far hkk (fun y hy => by simp at hy; subst hy; exact hf), fun e => hf.2.2 i hi (by rw [e]; exact hg)⟩
  · have hab' : a ∈ b := by
      rw [hb]
      rcases hab with ⟨e, _⟩ | ⟨e, _⟩ <;> simp [e]
    refine ⟨(h.turn hi hkk (fun y hy => by simp at hy; subst hy; exact .inl (hbf _ hab').1) (hup [a] _ s hkk (fun y hy hya => by simp at hya; subst hya; exact hab') rfl ?_) (L' := (Ls i).set k s) (by rw [set_self hs]; exact h.len i hi)).same (fun q hq => ?_), fun e => (hbf a hab').2 e⟩
    · rcases hab with ⟨e, hj⟩ | ⟨e, hj⟩
      · obtain ⟨c', f', hc'⟩ := own_ty hown a (by simp [e])
        exact ⟨dv, bv, rfl, hb, hdat.keep hkk (fun y hy => by have := dat_ne hdat hc' (by decide) y hy; simpa using this), own_beyond hown (by omega)⟩
      · obtain ⟨c', f', hc'⟩ := hdat.ty a (by simp [e])
        refine ⟨dv, bv, rfl, hb, ?_, hkk.owns hown (fun y hy hya => ?_)⟩
        · rcases hdat with ⟨e1, e2⟩ | ⟨a', c, e1, hby⟩
          · exact .inl ⟨e1, e2⟩
          · exact .inr ⟨a', c, e1, hby.beyond hj⟩
        · simp at hya
          subst hya
          obtain ⟨c2, f2, hc2⟩ := own_ty hown y (by simp [hy])
          have e := Option.some.inj (hc'.symm.trans hc2)
          injection e with _ e _
          exact absurd e (by decide)
    · by_cases e : q = i
      · subst e; simp only [↓reduceIte]; exact set_self hs
      · simp only [if_neg e]
/-- append(draws, ..): in the world in which the new numbers lie. -/
theorem St.drawsTwo {s : Stp} (h : St F wr Ls) (hi : i < 3) (hs : (Ls i)[k]? = some s) (hv : F.vs i = .slice (some ⟨g, 0, none⟩) F.n cap) (h7 : wr.cell? ⟨g, k * 9 + 7, none⟩ = some dv) (h8 : wr.cell? ⟨g, k * 9 + 8, none⟩ = some bv) (a : Addr) (m c : Nat) (news : List Value) (hl : news.length = m) (hnews : ∀ j u, news[j]? = some u → wr.cell? (a.add j) = some u) (h1 : ∀ u ∈ news, u.oneCell' = true) (hm0 : 0 < m) (hm : m ≤ 100) :
    ∃ g' cap' w', (Builtin.append_ #[28, 28] 28 #[dv, .slice (some a) m c]).run Tryd.prog wr = .ok (.slice (some ⟨g', 0, none⟩) (s.draws.length + m) cap') w' ∧ St F w' Ls ∧ w'.cell? ⟨g, k * 9 + 7, none⟩ = some dv ∧ w'.cell? ⟨g, k * 9 + 8, none⟩ = some bv ∧ Keep dv.ownBlock.toList wr w' ∧
      (∀ j, s.draws.length ≤ j → Spare F i k g dv bv s.draws.length s.data.size j g' w') ∧ ∃ cur, w'.heap[g']? = some (.cells cur 3 (0, 0)) ∧ s.draws.length + m ≤ cur.size := by
  obtain ⟨b, hb, hrow, hbf, hg, ⟨cg, hcg⟩, hcells, hup, _⟩ := hole_known h hi hs hv h7 h8
  obtain ⟨_, hdat, hown⟩ := hrow.parts
  obtain ⟨i0, q1, q2, q3, q4⟩ := parts_of info_intO
  have hd400 := ((h.len i hi).2 s (List.mem_of_getElem? hs)).1
  obtain ⟨g', cap', w', hr, hk, ho, hwh, cur, hcur, hcs⟩ := append_two (P := Tryd.prog) wr 0 28 28 3 i0 _ 1 8 Tryd.underlying28 q1 q2 q3 q4 rfl (by decide) dv _ _ hown a m c news (by omega) hnews h1 hm0 (by unfold maxLen; omega) (by omega)
  have hsub : ∀ x ∈ dv.ownBlock.toList, x ∈ b := fun x hx => by rw [hb]; exact List.mem_append.2 (.inl hx)
  refine ⟨g', cap', w', hr, ?_, hk.cellv h7 (fun hx => (hbf g (hsub g hx)).2 rfl), hk.cellv h8 (fun hx => (hbf g (hsub g hx)).2 rfl), hk, fun j hj => ?_, cur, hcur, by omega⟩
  · refine (h.turn hi hk (fun y hy => .inl (hbf y (hsub y hy)).1) (hup _ _ s hk (fun y hy hya => hsub y hya) rfl ?_) (L' := (Ls i).set k s) (by rw [set_self hs]; exact h.len i hi)).same (fun q hq => ?_)
    · refine ⟨dv, bv, rfl, hb, hdat.keep hk (fun y hy hyk => ?_), ho⟩
      obtain ⟨c', f', hc'⟩ := own_ty hown y hyk
      exact dat_ne hdat hc' (by decide) y hy rfl
    · by_cases e : q = i
      · subst e; simp only [↓reduceIte]; exact set_self hs
      · simp only [if_neg e]
  · rcases hwh with e | hge
    · exact .inr (.inl ⟨e, hj⟩)
    · have hz := h.kp.size
      exact .inl ⟨by omega, fun e => by have := lt_of_block h.all; omega, fun q hq hm => by have := (h.lot.own q hq).lt g' hm; omega⟩
theorem St.dataTwo {s : Stp} (h : St F wr Ls) (hi : i < 3) (hs : (Ls i)[k]? = some s) (hv : F.vs i = .slice (some ⟨g, 0, none⟩) F.n cap) (h7 : wr.cell? ⟨g, k * 9 + 7, none⟩ = some dv) (h8 : wr.cell? ⟨g, k * 9 + 8, none⟩ = some bv) (a : Addr) (m c : Nat) (news : List Value) (hl : news.length = m) (hnews : ∀ j u, news[j]? = some u → wr.cell? (a.add j) = some u) (h1 : ∀ u ∈ news, u.oneCell' = true) (hm0 : 0 < m) (hm : m ≤ 100) :
    ∃ g' cap' w', (Builtin.append_ #[29, 29] 29 #[bv, .slice (some a) m c]).run Tryd.prog wr = .ok (.slice (some ⟨g', 0, none⟩) (s.data.size + m) cap') w' ∧ St F w' Ls ∧ w'.cell? ⟨g, k * 9 + 7, none⟩ = some dv ∧ w'.cell? ⟨g, k * 9 + 8, none⟩ = some bv ∧ Keep bv.ownBlock.toList wr w' ∧
      (∀ j, s.data.size ≤ j → Spare F i k g dv bv s.draws.length s.data.size j g' w') ∧ ∃ cur f, w'.heap[g']? = some (.cells cur 5 f) ∧ s.data.size + m ≤ cur.size ∧ (f = (0, 0) ∨ f.1 = cur.size) := by
  obtain ⟨b, hb, hrow, hbf, hg, ⟨cg, hcg⟩, hcells, hup, _⟩ := hole_known h hi hs hv h7 h8
  obtain ⟨_, hdat, hown⟩ := hrow.parts
  have hd400 := ((h.len i hi).2 s (List.mem_of_getElem? hs)).2
  obtain ⟨g', cap', w', hr, hk, ho, hwh, cur, f, hcur, hcs, hff⟩ := data_two wr bv s.data hdat a m c news hl hnews h1 hm0 (by omega)
  have hsub : ∀ x ∈ bv.ownBlock.toList, x ∈ b := fun x hx => by rw [hb]; exact List.mem_append.2 (.inr hx)
  refine ⟨g', cap', w', hr, ?_, hk.cellv h7 (fun hx => (hbf g (hsub g hx)).2 rfl), hk.cellv h8 (fun hx => (hbf g (hsub g hx)).2 rfl), hk, fun j hj => ?_, cur, f, hcur, by omega, hff⟩
  · refine (h.turn hi hk (fun y hy => .inl (hbf y (hsub y hy)).1) (hup _ _ s hk (fun y hy hya => hsub y hya) rfl ?_) (L' := (Ls i).set k s) (by rw [set_self hs]; exact h.len i hi)).same (fun q hq => ?_)
    · refine ⟨dv, bv, rfl, hb, ho, hk.owns hown (fun y hy hyk => ?_)⟩
      obtain ⟨c', f', hc'⟩ := own_ty hown y (by simp [hy])
      simp at hyk
      exact dat_ne hdat hc' (by decide) y hyk rfl
    · by_cases e : q = i
      · subst e; simp only [↓reduceIte]; exact set_self hs
      · simp only [if_neg e]
  · rcases hwh with e | hge
    · exact .inr (.inr ⟨e, hj⟩)
    · have hz := h.kp.size
      exact .inl ⟨by omega, fun e => by have := lt_of_block h.all; omega, fun q hq hm => by have := (h.lot.own q hq).lt g' hm; omega⟩
/-- append(script, a step). -/
theorem St.allTwo (h : St F wr Ls) (hi : i < 3) (hn : F.n ≤ 1000) (a : Addr) (c : Nat) (news : List Value) (hl : news.length = 9) (hnews : ∀ j u, news[j]? = some u → wr.cell? (a.add j) = some u) (h1 : ∀ u ∈ news, u.oneCell' = true) :
    ∃ g' cap' w', (Builtin.append_ #[22, 22] 22 #[F.vs i, .slice (some a) 1 c]).run Tryd.prog wr = .ok (.slice (some ⟨g', 0, none⟩) (F.n + 1) cap') w' ∧ St F w' Ls ∧
      (∀ x, St F (w'.setCell ⟨g', F.n * 9, none⟩ x) Ls) ∧ ∃ cur, w'.heap[g']? = some (.cells cur 31 (0, 0)) ∧ (F.n + 1) * 9 ≤ cur.size := by
  have ho := h.lot.own i hi
  obtain ⟨cs, bs, o1, o2, o3, o4, o5⟩ := ho
  obtain ⟨i0, q1, q2, q3, q4⟩ := parts_of info_stepS
  have hln := (h.len i hi).1
  rw [hln] at o1
  obtain ⟨g', cap', w', hr, hk, how, hwh, cur, hcur, hcs⟩ := append_two (P := Tryd.prog) wr 0 22 22 31 i0 _ 9 112 Tryd.underlying22 q1 q2 q3 q4 rfl (by decide) (F.vs i) _ _ o1 a 1 c news (by omega) hnews h1 (by decide) (by unfold maxLen; omega) (by omega)
  have hsub : ∀ x ∈ (F.vs i).ownBlock.toList, x ∈ F.fps i := fun x hx => by rw [o3]; exact List.mem_append.2 (.inl hx)
  have hrows : ∀ {w2 : World} {K : List Nat}, Keep K w' w2 → (∀ x ∈ K, x ∈ (F.vs i).ownBlock.toList ∨ wr.heap.size ≤ x) → StRows w2 (Ls i) cs bs := fun k2 hK2 => (o2.keep hk (fun x hx hxk => o5 x hxk hx)).keep k2 (fun x hx hxk => by
    rcases hK2 x hxk with h' | h'
    · exact o5 x h' hx
    · have := o2.lt x hx; omega)
  have hst : St F w' Ls := by
    refine (h.turn hi hk (fun y hy => .inl (hsub y hy)) (L' := Ls i) ⟨cs, bs, by rw [hln]; exact how, hrows (K := []) (Keep.refl _ _) (by simp), o3, o4, o5⟩ (h.len i hi)).same (fun q hq => ?_)
    by_cases e : q = i
    · subst e; simp only [↓reduceIte]
    · simp only [if_neg e]
  refine ⟨g', cap', w', hr, hst, fun x => ?_, cur, hcur, hcs⟩
  have hkk : Keep [g'] w' (w'.setCell ⟨g', F.n * 9, none⟩ x) := (Keep.refl _ _).setCell (.inl (by simp)) _
  have hwz := hk.size
  have hK' : ∀ y ∈ [g'], y ∈ F.fps i ∨ wr.heap.size ≤ y := fun y hy => by
    simp at hy
    subst hy
    rcases hwh with e | hge
    · exact .inl (hsub y (by simp [e]))
    · exact .inr hge
  have hown2 : OwnS (w'.setCell ⟨g', F.n * 9, none⟩ x) (F.vs i) (Ls i) (F.fps i) := ⟨cs, bs, by rw [hln]; exact own_beyond how (Nat.le_refl _), hrows hkk (fun y hy => by
    simp at hy
    subst hy
    rcases hwh with e | hge
    · exact .inl (by simp [e])
    · exact .inr hge), o3, o4, o5⟩
  have hk3 : Keep ((F.vs i).ownBlock.toList ++ [g']) wr (w'.setCell ⟨g', F.n * 9, none⟩ x) := (hk.mono (L' := (F.vs i).ownBlock.toList ++ [g']) (fun y hy => .inl (List.mem_append.2 (.inl hy)))).trans hkk (fun y hy => .inl (List.mem_append.2 (.inr hy)))
  refine (h.turn hi hk3 (fun y hy => ?_) hown2 (h.len i hi)).same (fun q hq => ?_)
  · rcases List.mem_append.1 hy with hy | hy
    · exact .inl (hsub y hy)
    · exact hK' y hy
  · by_cases e : q = i
    · subst e; simp only [↓reduceIte]
    · simp only [if_neg e]
end
end Go.Proofs.YtbidppjhenfjdaaDoor
namespace Go.Proofs.YtbidppjhenfjdaaDoor
open Go.RowKit
set_option linter.unusedVariables false
set_option linter.unusedSimpArgs false

theorem info_stepsS : (Tryd.prog.info? 22).map (fun i => (i.zero, i.size, i.bytes)) = some (some (.slice none 0 0), 1, 24) := by kernel_rfl
theorem wrap_u8 (n : Int) : IntKind.u8.wrap n = n % 256 := by unfold IntKind.wrap; rfl
/-- append(all, m). -/
theorem all_append {W : World} {base : Nat} {v x : Value} {n : Nat} {xs : List Value} (hx : x.oneCell' = true) (hown : W.ownsRow base 22 1 v n xs) (hb : base ≤ W.heap.size) (hk : n ≤ 1000000000) :
    ∃ v' w', (Builtin.append_ #[39, 39] 39 #[v, .slice (some ⟨W.heap.size, 0, none⟩) 1 1]).run Tryd.prog (W.alloc (.cells #[x] 22)) = .ok v' w' ∧
      AppPost (W.alloc (.cells #[x] 22)) base 22 1 v n xs 1 [x] v' w' := by
  obtain ⟨i0, hi, hz0, hz1, hz2⟩ := parts_of info_stepsS
  exact run_append_mine (P := Tryd.prog) _ base 39 39 22 i0 _ 1 24 Tryd.underlying39 hi hz0 hz1 hz2 rfl (by decide) v n _ (hown.alloc _) ⟨W.heap.size, 0, none⟩ 1 1 [x] rfl
    (new_row_cells W [x] 22) (by simp [hx]) (by unfold maxLen; omega) (by omega) (by simp; omega)
/-- What Parse leaves, with the blocks. -/
theorem parse_own (s : ByteArray) (L : List Stp) (W : World) (hz : s.size ≤ 100000000) (hT : TQ W) (hp : prsT s = (L, 0, 0)) :
    Calls Tryd.prog 11 #[.string s] W fun r W' => ∃ ad cap fp, r = .returned (.tuple #[.slice ad L.length cap, .int .i64 0, .int .i64 0]) ∧ Keep [] W W' ∧ OwnS W' (.slice ad L.length cap) L fp ∧ (∀ b ∈ fp, W.heap.size ≤ b) := by
  refine (parse_any s W hz hT).mono ?_
  rintro r W' ⟨v, cs, bs, rfl, hk, ho, hr, hb, hd, hn⟩
  rw [hp] at ho hr ⊢
  have hs := hr.steps ho
  obtain ⟨ad, cap, rfl⟩ := hs.slice
  refine ⟨ad, cap, _, rfl, hk, ⟨cs, bs, own_lowS ho (Nat.zero_le _), hr, rfl, hd, fun g hg hm => ?_⟩, fun b hm => ?_⟩
  · obtain ⟨c, f, hc⟩ := own_ty ho g hg
    exact hr.not_ty hc (by decide) (by decide) hm
  · rcases List.mem_append.1 hm with h | h
    · exact (own_ltS ho b h).1
    · exact hb b h
theorem range_more {i : Nat} {vs : Nat → Value} {v : Value} : (List.range (i + 1)).map (fun j => if j = i then v else vs j) = (List.range i).map vs ++ [v] := by
  rw [List.range_succ, List.map_append]
  congr 1
  · refine List.map_congr_left fun j hj => ?_
    have := List.mem_range.1 hj
    rw [if_neg (by omega)]
  · simp
set_option maxHeartbeats 64000000 in
set_option maxRecDepth 100000 in
theorem scriptOwn_walk (v1 : Value) (L : List Stp) (W : World) (h1 : Steps W v1 L) (hf1 : ∀ s ∈ L, StpOk s ∧ StpFit s) (hT : TQ W) :
    Calls Tryd.prog 6 #[v1] W fun e W' => e = .returned (.bool true) ∧ Keep [] W W' := by
  have H1 := Lib.hid h1
  have F1 := Lib.hid hf1
  have HT := Lib.hid hT
  obtain ⟨ad1, cap1, hv1⟩ := h1.slice
  subst hv1
  clear h1 hf1 hT
  obtain ⟨n, hn⟩ : ∃ n, n = L.length := ⟨_, rfl⟩
  rw [← hn] at H1 ⊢
  have HN := Lib.hid hn
  clear hn
  go_enter Tryd.func6, Tryd.ntmps6
  go_upto_region 1 with (fail)
  go_wp2_with fail
  refine (much_any _ L W H1.out (fun s hs => (F1.out s hs).2)).mono ?_
  rintro e w1 ⟨hk1, b1, rfl, hb1⟩
  have HK1 := Lib.hid hk1
  have HB1 := Lib.hid hb1
  clear hk1 hb1
  cases b1 with
  | true =>
    go_wp2_with fail
    refine (known_true w1 (HT.out.keep0 HK1.out)).mono ?_
    rintro e w9 ⟨rfl, hk9⟩
    have HK9 := Lib.hid (HK1.out.trans0 hk9)
    clear hk9
    go_wp2
    go_ret
    exact ⟨rfl, HK9.out⟩
  | false =>
  have FW1 := Lib.hid (HB1.out rfl)
  clear HB1
  go_upto_region 3 with (fail)
  go_wp2_with fail
  refine (print_any _ L w1 (H1.out.keep0 HK1.out) (FW1.out.ok F1.out) (by have := FW1.out.1; omega) (HT.out.keep0 HK1.out)).mono ?_
  rintro e w3 ⟨rfl, hk3⟩
  have HK3 := Lib.hid (HK1.out.trans0 hk3)
  clear hk3 HK1
  obtain ⟨o1, ho1⟩ : ∃ o, o = prn L := ⟨_, rfl⟩
  rw [← ho1]
  have O1 := Lib.hid ho1
  clear ho1
  cases o1 with
  | none =>
    unfold prnV
    go_wp2_with fail
    refine (known_true w3 (HT.out.keep0 HK3.out)).mono ?_
    rintro e w9 ⟨rfl, hk9⟩
    have HK9 := Lib.hid (HK3.out.trans0 hk9)
    clear hk9
    go_wp2
    go_ret
    exact ⟨rfl, HK9.out⟩
  | some s =>
  unfold prnV
  have ZS := Lib.hid (FW1.out.prn F1.out O1.out.symm)
  have HPS := Lib.hid (prs_prn (fun x hx => (F1.out x hx).1) O1.out.symm)
  have HOK := Lib.hid (bare_fine (FW1.out.ok F1.out))
  have HSM := Lib.hid (show ∀ x ∈ L.map bareS, x.draws.length ≤ 400 ∧ x.data.size ≤ 30000 from fun x hx => by
    obtain ⟨y, hy, rfl⟩ := List.mem_map.1 hx
    have := FW1.out.2.1 y hy
    exact ⟨Nat.le_trans (bare_dl y) this.2.2, Nat.le_trans (bare_bl y) this.2.1⟩)
  have HML := Lib.hid (show (L.map bareS).length = n by rw [List.length_map, HN.out])
  have hn200 : n ≤ 200 := by have := FW1.out.1; have := HN.out; omega
  have HPM := Lib.hid (show prn (L.map bareS) = some s by rw [prn_bare, ← O1.out])
  generalize L.map bareS = M at HPS HOK HSM HML HPM
  go_upto_region 8 with (fail)
  go_loopw [5, 6] (fun av iv wr => ∃ (i : Nat) (vs : Nat → Value) (fps : Nat → List Nat), iv = .int .i64 i ∧ i ≤ 3 ∧ Keep [] W wr ∧ wr.ownsRow W.heap.size 22 1 av i ((List.range i).map vs) ∧ Lot W.heap.size i wr vs (fun _ => M) fps) (fun _ iv _ => 3 - (intOf iv).toNat)
  case atStart => exact ⟨0, fun _ => .slice none 0 0, fun _ => [], rfl, by omega, HK3.out, World.ownsRow_nil _ _ _ _, ⟨fun j hj => by omega, fun j i hj => by omega, fun j hj => by omega⟩⟩
  case round =>
    rename World => wr
    obtain ⟨i, vs, fps, rfl, hi, hkr, hown, hlot⟩ := hrel
    have HKR := Lib.hid hkr
    have HOWN := Lib.hid hown
    have HLOT := Lib.hid hlot
    clear hkr hown hlot
    by_cases hlt : i < 3
    · have HLT := Lib.hid hlt
      have g1 := dec_lt_t (show (i : Int) < 3 by omega)
      have g2 := dec_ltn_t hlt
      clear hlt
      go_upto_region 10 with (fail)
      clear g1 g2
      go_wp2_with fail
      refine (parse_own s M wr (by have := ZS.out; omega) (HT.out.keep0 HKR.out) HPS.out).mono ?_
      rintro e w5 ⟨ad5, cap5, fp5, rfl, hk5, ho5, hf5⟩
      have hlen := HML.out
      rw [hlen] at ho5 ⊢
      have HO5 := Lib.hid ho5
      have HF5 := Lib.hid hf5
      have HK5 := Lib.hid hk5
      clear hk5 ho5 hf5 hlen
      obtain ⟨v6, w6, hap, hap1, hap2, hap3, _⟩ := all_append (W := w5) (x := .slice ad5 n cap5) rfl (HK5.out.owns HOWN.out (by simp)) (Nat.le_trans HKR.out.size HK5.out.size) (by omega)
      have hka : Keep [] w5 (w5.alloc (.cells #[.slice ad5 n cap5] 22)) := (Keep.refl _ _).alloc _
      have hnt : ∀ {v : Value} {L' : List Stp} {fp : List Nat}, OwnS (w5.alloc (.cells #[.slice ad5 n cap5] 22)) v L' fp → ∀ b ∈ fp, b ∉ u5.ownBlock.toList := fun ho b hb hm => by
        obtain ⟨c9, f9, h9⟩ := own_ty (hka.owns (HK5.out.owns HOWN.out (by simp)) (by simp)) b hm
        exact ho.not_ty h9 (by decide) (by decide) (by decide) hb
      have hl5 : Lot W.heap.size i (w5.alloc (.cells #[.slice ad5 n cap5] 22)) vs (fun _ => M) fps := HLOT.out.keep0 (HK5.out.trans0 hka)
      have ho5a := HO5.out.keep hka (by simp)
      have hmore := (hl5.keep hap2 (fun j hj b hb => hnt (hl5.own j hj) b hb)).more (ho5a.keep hap2 (hnt ho5a)) (fun j hj b hb hb5 => by
        have h1 := (HLOT.out.own j hj).lt b hb
        have h2 := HF5.out b hb5
        omega) (fun b hb => Nat.le_trans HKR.out.size (HF5.out b hb))
      have HMORE := Lib.hid (hmore.same (Ls' := fun _ => M) (fun j hj => by by_cases e : j = i <;> simp [e]))
      have HK6 := Lib.hid (show Keep [] W w6 from ((HKR.out.trans0 HK5.out).alloc _).trans hap2 (fun q hq => .inr (own_ltS HOWN.out q hq).1))
      have hown6 := hap1
      rw [← range_more (v := .slice ad5 n cap5)] at hown6
      have HOWN6 := Lib.hid hown6
      have HAP := Lib.hid hap
      clear hap hap1 hap2 hap3 hka hl5 ho5a hmore hown6 hnt HOWN HLOT HKR HO5 HF5
      go_upto_region 13 with (fail)
      go_wp2_with (at_builtin; refine wpList_append_eq rfl (.tmp 60) (.tmp 62) 39 rfl rfl rfl HAP.out ?_)
      clear HAP
      go_wp2
      go_roundw
      case rel => exact ⟨i + 1, _, _, by go_num, HLT.out, HK6.out, HOWN6.out, HMORE.out⟩
      case measure => have := HLT.out; simp [intOf]; omega
    · have hi3 : i = 3 := by omega
      have HOWN3 := Lib.hid (show wr.ownsRow W.heap.size 22 1 u5 3 ((List.range 3).map vs) by have h := HOWN.out; rw [hi3] at h; exact h)
      have HLOT3 := Lib.hid (show Lot W.heap.size 3 wr vs (fun _ => M) fps by have h := HLOT.out; rw [hi3] at h; exact h)
      have g1 := dec_lt_f (show ¬ (i : Int) < 3 by omega)
      have g2 := dec_ltn_f hlt
      clear hlt hi hi3 HOWN HLOT
      rcases HOWN3.out.2 with ⟨_, h0⟩ | ⟨A, capA, cA, rfl, hA1, hA2, hA3, hA4, hA5, hA6⟩
      · omega
      obtain ⟨F, hF⟩ : ∃ F : Fix, F = ⟨W, n, A, cA, vs, fps⟩ := ⟨_, rfl⟩
      have hFW : F.W = W := by rw [hF]
      have hFn : F.n = n := by rw [hF]
      have hFA : F.A = A := by rw [hF]
      have hst0 : St F wr (fun _ => M) := by
        rw [hF]
        refine ⟨HKR.out, hA2, HLOT3.out, fun j hj => ⟨HML.out, HSM.out⟩, fun j hj => ?_, hA1⟩
        have h1 : (cA.toList.take (3 * 1))[j]? = ((List.range 3).map vs)[j]? := by rw [hA6]
        rw [List.getElem?_take_of_lt (by omega), Array.getElem?_toList, List.getElem?_map, List.getElem?_range hj] at h1
        exact h1
      have HST0 := Lib.hid hst0
      have HFW := Lib.hid hFW
      have HFN := Lib.hid hFn
      have HFA := Lib.hid hFA
      have hc3 : 3 ≤ capA := hA3
      clear hA1 hA2 hA3 hA4 hA5 hA6 hst0 hF hFW hFn hFA HOWN3 HLOT3 HKR HK3
      clear cA vs fps
      go_upto_region 15 with (fail)
      clear g1 g2
      go_loopw [10] (fun iv wr => ∃ (i : Nat) (Ls : Nat → List Stp), iv = .int .i64 i ∧ i ≤ 3 ∧ St F wr Ls ∧ Done i 0 Ls) (fun iv _ => 3 - (intOf iv).toNat)
      case atStart => exact ⟨0, _, rfl, by omega, HST0.out, Done.start⟩
      case round =>
        obtain ⟨wo, hwo⟩ : ∃ wo : World, wo = wr := ⟨_, rfl⟩
        clear hwo
        clear HST0
        rename World => wr2
        obtain ⟨i, Ls, rfl, hi, hst, hdn⟩ := hrel
        have HST := Lib.hid hst
        have HDN := Lib.hid hdn
        clear hst hdn
        by_cases hlt : i < 3
        · have HLT := Lib.hid hlt
          have g1 := dec_lt_t (show (i : Int) < 3 by omega)
          have g2 := dec_ltn_t hlt
          obtain ⟨adi, capi, hvi⟩ := (HST.out.lot.own i hlt).steps.slice
          rw [(HST.out.len i hlt).1, HFN.out] at hvi
          have HVI := Lib.hid hvi
          clear hvi
          go_upto_region 18 with (fail)
          go_loopw [11] (fun kv wr => ∃ (k : Nat) (Ls : Nat → List Stp), kv = .int .i64 k ∧ k ≤ n ∧ St F wr Ls ∧ Done i k Ls) (fun kv _ => n - (intOf kv).toNat)
          case atStart => exact ⟨0, _, rfl, Nat.zero_le _, HST.out, HDN.out⟩
          case round =>
            clear HST HDN Ls
            rename World => wr3
            obtain ⟨k, Ls, rfl, hk, hst, hdn⟩ := hrel
            have HST := Lib.hid hst
            have HDN := Lib.hid hdn
            have ca : wr3.cell? ⟨A, i, none⟩ = some (.slice adi n capi) := by have h := hst.cell HLT.out; rw [HFA.out, HVI.out] at h; exact h
            clear hst hdn
            by_cases hltk : k < n
            · have HLTK := Lib.hid hltk
              have g3 := dec_lt_t (show (k : Int) < (n : Int) by omega)
              have g4 := dec_ltn_t hltk
              obtain ⟨x, ad1, cap1, ad2, cap2, g, cap, hsx, hvx, hd4, hb3, hcl, hrd, hgA, _⟩ := HST.out.step HLT.out (by rw [HFN.out]; exact HLTK.out)
              rw [HVI.out, HFN.out] at hvx
              injection hvx with e1 _ e3
              subst e1
              subst e3
              have HSX := Lib.hid hsx
              have HCL := Lib.hid hcl
              have c0 : wr3.cell? ⟨g, k * 9, none⟩ = some (.int .i64 x.kind) := hcl 0 _ rfl
              have c1 : wr3.cell? ⟨g, k * 9 + 1, none⟩ = some (.int .i64 x.site) := hcl 1 _ rfl
              have c2 : wr3.cell? ⟨g, k * 9 + 2, none⟩ = some (.int .i64 x.peer) := hcl 2 _ rfl
              have c3 : wr3.cell? ⟨g, k * 9 + 3, none⟩ = some (.int .i64 x.unit) := hcl 3 _ rfl
              have c4 : wr3.cell? ⟨g, k * 9 + 4, none⟩ = some (.int .i64 x.at_) := hcl 4 _ rfl
              have c5 : wr3.cell? ⟨g, k * 9 + 5, none⟩ = some (.int .i64 x.n) := hcl 5 _ rfl
              have c6 : wr3.cell? ⟨g, k * 9 + 6, none⟩ = some (.string x.text) := hcl 6 _ rfl
              have c7 : wr3.cell? ⟨g, k * 9 + 7, none⟩ = some (.slice ad1 x.draws.length cap1) := hcl 7 _ rfl
              have c8 : wr3.cell? ⟨g, k * 9 + 8, none⟩ = some (.slice ad2 x.data.size cap2) := hcl 8 _ rfl
              obtain ⟨nd, hnd⟩ : ∃ nd, nd = x.draws.length := ⟨_, rfl⟩
              obtain ⟨nb, hnb⟩ : ∃ nb, nb = x.data.size := ⟨_, rfl⟩
              rw [← hnd] at c7 hd4
              rw [← hnb] at c8 hb3
              have HND := Lib.hid hnd
              have HNB := Lib.hid hnb
              have hk200 : k ≤ 200 := by omega
              clear hsx hcl hrd hgA hnd hnb hltk
              go_upto_region 22 with (fail)
              obtain ⟨X, hX⟩ : ∃ X, X = wr3.heap.size := ⟨_, rfl⟩
              obtain ⟨w2, hw2⟩ : ∃ w2, w2 = wr3.alloc (.cells #[.int .i64 x.kind, .int .i64 x.site, .int .i64 x.peer, .int .i64 x.unit, .int .i64 x.at_, .int .i64 x.n, .string x.text, .slice ad1 nd cap1, .slice ad2 nb cap2] 31) := ⟨_, rfl⟩
              have hk2 : Keep [] wr3 w2 := by rw [hw2]; exact (Keep.refl _ _).alloc _
              have hb2 : w2.heap[X]? = some (.cells #[.int .i64 x.kind, .int .i64 x.site, .int .i64 x.peer, .int .i64 x.unit, .int .i64 x.at_, .int .i64 x.n, .string x.text, .slice ad1 nd cap1, .slice ad2 nb cap2] 31 (0, 0)) := by rw [hw2, hX]; exact World.alloc_heap_new wr3 _
              rw [← hw2, ← hX]
              have HP := Lib.hid (show Part F i k g capi X #[.int .i64 x.kind, .int .i64 x.site, .int .i64 x.peer, .int .i64 x.unit, .int .i64 x.at_, .int .i64 x.n, .string x.text, .slice ad1 nd cap1, .slice ad2 nb cap2] (.slice ad1 nd cap1) (.slice ad2 nb cap2) nd nb 0 0 w2 from
                ⟨⟨Ls, x, HST.out.keep0 hk2, HDN.out, HSX.out, HND.out.symm, HNB.out.symm, fun q hq => absurd hq (Nat.not_lt_zero _), fun q hq => absurd hq (Nat.not_lt_zero _)⟩, hb2, by rw [HVI.out, HFN.out], hk2.cellv c7 (by simp), hk2.cellv c8 (by simp),
                  fun j hj hm => by have := (HST.out.lot.own j hj).lt X hm; omega, HLT.out, by rw [HFN.out]; exact HLTK.out⟩)
              clear hw2 hX hk2 hb2 c0 c1 c2 c3 c4 c5 c6 c7 c8 ca g3 g4 HST HDN HSX HCL Ls
              go_loopw [13] (fun tv wr => ∃ t : Nat, tv = .int .i64 t ∧ t ≤ nd ∧ Part F i k g capi X #[.int .i64 x.kind, .int .i64 x.site, .int .i64 x.peer, .int .i64 x.unit, .int .i64 x.at_, .int .i64 x.n, .string x.text, .slice ad1 nd cap1, .slice ad2 nb cap2] (.slice ad1 nd cap1) (.slice ad2 nb cap2) nd nb t 0 wr) (fun tv _ => nd - (intOf tv).toNat)
              case atStart => exact ⟨0, rfl, Nat.zero_le _, HP.out⟩
              case round =>
                clear HP
                rename World => wr4
                obtain ⟨t, rfl, ht, hp⟩ := hrel
                have HP := Lib.hid hp
                have cx7 : wr4.cell? ⟨X, 7, none⟩ = some (.slice ad1 nd cap1) := cell_of_block hp.box 7
                clear hp
                by_cases hltt : t < nd
                · have HLTT := Lib.hid hltt
                  have g5 := dec_lt_t (show (t : Int) < (nd : Int) by omega)
                  have g6 := dec_ltn_t hltt
                  obtain ⟨a, c, hdv, ⟨old, hold⟩, hfz, hp2⟩ := HP.out.draw HLTT.out
                  injection hdv with e1 _ e3
                  subst e1
                  subst e3
                  have HP2 := Lib.hid hp2
                  clear hp2
                  go_wp2
                  go_roundw
                  case rel => exact ⟨t + 1, by go_num, HLTT.out, HP2.out⟩
                  case measure => have := HLTT.out; simp [intOf]; omega
                · obtain rfl : t = nd := by omega
                  have g5 := dec_lt_f (show ¬ (t : Int) < (t : Int) by omega)
                  have g6 := dec_ltn_f hltt
                  clear hltt ht
                  go_upto_region 26 with (fail)
                  clear g5 g6 cx7
                  go_loopw [14] (fun tv wr => ∃ u : Nat, tv = .int .i64 u ∧ u ≤ nb ∧ Part F i k g capi X #[.int .i64 x.kind, .int .i64 x.site, .int .i64 x.peer, .int .i64 x.unit, .int .i64 x.at_, .int .i64 x.n, .string x.text, .slice ad1 t cap1, .slice ad2 nb cap2] (.slice ad1 t cap1) (.slice ad2 nb cap2) t nb t u wr) (fun tv _ => nb - (intOf tv).toNat)
                  case atStart => exact ⟨0, rfl, Nat.zero_le _, HP.out⟩
                  case round =>
                    clear HP
                    rename World => wr5
                    obtain ⟨u, rfl, hu, hp⟩ := hrel
                    have HP := Lib.hid hp
                    have cx8 : wr5.cell? ⟨X, 8, none⟩ = some (.slice ad2 nb cap2) := cell_of_block hp.box 8
                    clear hp
                    by_cases hltu : u < nb
                    · have HLTU := Lib.hid hltu
                      have g5 := dec_lt_t (show (u : Int) < (nb : Int) by omega)
                      have g6 := dec_ltn_t hltu
                      obtain ⟨a, c, hdv, ⟨old, hold⟩, hfz, hp2⟩ := HP.out.byte HLTU.out
                      injection hdv with e1 _ e3
                      subst e1
                      subst e3
                      obtain ⟨z, hz⟩ : ∃ z : Int, z = (((3 * k + i) % 256 : Nat) : Int) := ⟨_, rfl⟩
                      rw [← hz] at hp2
                      have hwz : IntKind.u8.wrap (3 * (k : Int) + (i : Int)) = z := by rw [hz, wrap_u8]; omega
                      have HP2 := Lib.hid hp2
                      clear hp2 hz
                      go_wp2
                      go_roundw
                      case rel => exact ⟨u + 1, by go_num, HLTU.out, HP2.out⟩
                      case measure => have := HLTU.out; simp [intOf]; omega
                    · obtain rfl : u = nb := by omega
                      have g5 := dec_lt_f (show ¬ (u : Int) < (u : Int) by omega)
                      have g6 := dec_ltn_f hltu
                      clear hltu hu
                      obtain ⟨⟨old, hold⟩, hfz, Ls', hst', hdn'⟩ := HP.out.site (Nat.le_refl _) (Nat.le_refl _)
                      have HST' := Lib.hid hst'
                      have HDN' := Lib.hid hdn'
                      have ca : wr5.cell? ⟨A, i, none⟩ = some (.slice (some ⟨g, 0, none⟩) n capi) := by
                        obtain ⟨Ls2, _, hs2, _⟩ := HP.out.ex
                        have h := hs2.cell HLT.out
                        rw [HFA.out, HVI.out] at h
                        exact h
                      clear hst' hdn'
                      have hltk2 : k < n := HLTK.out
                      go_wp2
                      go_roundw
                      case rel => exact ⟨k + 1, Ls', by go_num, HLTK.out, HST'.out, HDN'.out⟩
                      case measure => have := HLTK.out; simp [intOf]; omega
            · obtain rfl : k = n := by omega
              have g3 := dec_lt_f (show ¬ (k : Int) < (k : Int) by omega)
              have g4 := dec_ltn_f hltk
              clear hltk
              go_wp2
              go_roundw
              case rel => exact ⟨i + 1, _, by go_num, HLT.out, HST.out, HDN.out.next (fun j hj => by rw [(HST.out.len j hj).1, HFN.out])⟩
              case measure => have := HLT.out; simp [intOf]; omega
        · have hi3 : i = 3 := by omega
          have HD3 := Lib.hid (show Done 3 0 Ls by have h := HDN.out; rw [hi3] at h; exact h)
          have g1 := dec_lt_f (show ¬ (i : Int) < 3 by omega)
          have g2 := dec_ltn_f hlt
          clear hlt hi hi3 HDN
          go_upto_region 31 with (fail)
          clear g1 g2
          go_loopw [15] (fun iv wr => ∃ i : Nat, iv = .int .i64 i ∧ i ≤ 3 ∧ St F wr Ls) (fun iv _ => 3 - (intOf iv).toNat)
          case atStart => exact ⟨0, rfl, by omega, HST.out⟩
          case round =>
            clear HST
            rename World => vr2
            obtain ⟨i, rfl, hi, hst⟩ := hrel
            have HST := Lib.hid hst
            clear hst
            by_cases hlt : i < 3
            · have HLT := Lib.hid hlt
              have g1 := dec_lt_t (show (i : Int) < 3 by omega)
              have g2 := dec_ltn_t hlt
              obtain ⟨adi, capi, hvi⟩ := (HST.out.lot.own i hlt).steps.slice
              rw [(HST.out.len i hlt).1, HFN.out] at hvi
              have HVI := Lib.hid hvi
              clear hvi
              go_upto_region 34 with (fail)
              go_loopw [16] (fun kv wr => ∃ k : Nat, kv = .int .i64 k ∧ k ≤ n ∧ St F wr Ls) (fun kv _ => n - (intOf kv).toNat)
              case atStart => exact ⟨0, rfl, Nat.zero_le _, HST.out⟩
              case round =>
                clear HST
                rename World => vr3
                obtain ⟨k, rfl, hk, hst⟩ := hrel
                have HST := Lib.hid hst
                have ca : vr3.cell? ⟨A, i, none⟩ = some (.slice adi n capi) := by have h := hst.cell HLT.out; rw [HFA.out, HVI.out] at h; exact h
                clear hst
                by_cases hltk : k < n
                · have HLTK := Lib.hid hltk
                  have g3 := dec_lt_t (show (k : Int) < (n : Int) by omega)
                  have g4 := dec_ltn_t hltk
                  obtain ⟨x, ad1, cap1, ad2, cap2, g, cap, hsx, hvx, hd4, hb3, hcl, hrd, hgA, _⟩ := HST.out.step HLT.out (by rw [HFN.out]; exact HLTK.out)
                  rw [HVI.out, HFN.out] at hvx
                  injection hvx with e1 _ e3
                  subst e1
                  subst e3
                  have HSX := Lib.hid hsx
                  have c7 : vr3.cell? ⟨g, k * 9 + 7, none⟩ = some (.slice ad1 x.draws.length cap1) := hcl 7 _ rfl
                  have c8 : vr3.cell? ⟨g, k * 9 + 8, none⟩ = some (.slice ad2 x.data.size cap2) := hcl 8 _ rfl
                  have HVX := Lib.hid (show F.vs i = .slice (some ⟨g, 0, none⟩) F.n capi by rw [HVI.out, HFN.out])
                  have hka : Keep [] vr3 (vr3.alloc (.cells #[.int .i64 7, .int .i64 7, .int .i64 7] 3)) := (Keep.refl _ _).alloc _
                  obtain ⟨g5, cap5, w5, hap5, hst5, c75, c85, hk5, hsp5, cur5, hcur5, hcs5⟩ := (HST.out.keep0 hka).drawsTwo HLT.out HSX.out HVX.out (hka.cellv c7 (by simp)) (hka.cellv c8 (by simp)) ⟨vr3.heap.size, 0, none⟩ 3 3 [.int .i64 7, .int .i64 7, .int .i64 7] rfl (new_row_cells vr3 [.int .i64 7, .int .i64 7, .int .i64 7] 3) (by simp [Value.oneCell']) (by decide) (by decide)
                  have hkb : Keep [] w5 (w5.alloc (.cells #[.int .u8 9, .int .u8 9, .int .u8 9] 5)) := (Keep.refl _ _).alloc _
                  obtain ⟨g6, cap6, w6, hap6, hst6, c76, c86, hk6, hsp6, cur6, f6, hcur6, hcs6, hff6⟩ := (hst5.keep0 hkb).dataTwo HLT.out HSX.out HVX.out (hkb.cellv c75 (by simp)) (hkb.cellv c85 (by simp)) ⟨w5.heap.size, 0, none⟩ 3 3 [.int .u8 9, .int .u8 9, .int .u8 9] rfl (new_row_cells w5 [.int .u8 9, .int .u8 9, .int .u8 9] 5) (by simp [Value.oneCell']) (by decide) (by decide)
                  have ca5 : w5.cell? ⟨A, i, none⟩ = some (.slice (some ⟨g, 0, none⟩) n capi) := by have h := hst5.cell HLT.out; rw [HFA.out, HVI.out] at h; exact h
                  have hcb5 := hkb.at_ hcur5 (by simp)
                  have hcur56 : w6.heap[g5]? = some (.cells cur5 3 (0, 0)) := hk6.at_ hcb5 (fun hm => by
                    obtain ⟨b, hb, hrow, _⟩ := hole_known (hst5.keep0 hkb) HLT.out HSX.out HVX.out (hkb.cellv c75 (by simp)) (hkb.cellv c85 (by simp))
                    obtain ⟨_, hdat, _⟩ := hrow.parts
                    exact dat_ne hdat hcb5 (by decide) g5 (by simpa using hm) rfl)
                  obtain ⟨hst7, hng7⟩ := hst6.spare (j := x.draws.length + 2) (a := g5) (x := .int .i64 8) HLT.out HSX.out HVX.out c76 c86 (hsp5 _ (by omega))
                  obtain ⟨w7, hw7⟩ : ∃ w7, w7 = w6.setCell ⟨g5, x.draws.length + 2, none⟩ (.int .i64 8) := ⟨_, rfl⟩
                  rw [← hw7] at hst7
                  have hk7 : Keep [g5] w6 w7 := by rw [hw7]; exact (Keep.refl _ _).setCell (.inl (by simp)) _
                  have c77 := hk7.cellv c76 (by simp; exact fun e => hng7 e.symm)
                  have c87 := hk7.cellv c86 (by simp; exact fun e => hng7 e.symm)
                  have hne56 : g6 ≠ g5 := fun e => by
                    rw [e] at hcur6
                    have e2 := Option.some.inj (hcur6.symm.trans hcur56)
                    injection e2 with _ e2 _
                    exact absurd e2 (by decide)
                  have hcur67 := hk7.at_ hcur6 (by simpa using hne56)
                  obtain ⟨hst8, _⟩ := hst7.spare (j := x.data.size + 2) (a := g6) (x := .int .u8 8) HLT.out HSX.out HVX.out c77 c87 (hsp6 _ (by omega))
                  have o5 : w6.cell? ⟨g5, x.draws.length + 2, none⟩ = some cur5[x.draws.length + 2] := by rw [cell_of_block hcur56]; exact Array.getElem?_eq_getElem (by omega)
                  have z5 := free_of_block hcur56 (x.draws.length + 2)
                  have o6 : w7.cell? ⟨g6, x.data.size + 2, none⟩ = some cur6[x.data.size + 2] := by rw [cell_of_block hcur67]; exact Array.getElem?_eq_getElem (by omega)
                  have z6 : w7.frozen? ⟨g6, x.data.size + 2, none⟩ = false := by
                    obtain ⟨lo, hi'⟩ := f6
                    rcases hff6 with hf | hf
                    · rw [hf] at hcur67
                      exact free_of_block hcur67 _
                    · simp only at hf
                      simp only [World.frozen?, hcur67, Bool.and_eq_false_iff, decide_eq_false_iff_not]
                      left
                      omega
                  have HST8 := Lib.hid hst8
                  have HW7 := Lib.hid hw7
                  clear hw7
                  have HAP5 := Lib.hid hap5
                  have HAP6 := Lib.hid hap6
                  generalize cur5[x.draws.length + 2] = old5 at o5
                  generalize cur6[x.data.size + 2] = old6 at o6
                  clear hst8 hap5 hap6 hst5 hst6 hst7 hka hkb hk5 hk6 hk7 hsp5 hsp6 hcur5 hcur56 hcur6 hcur67 hcb5 hcs5 hcs6 hff6 hng7 c75 c76 c77 c86 c87 hsx hcl hrd hgA HST HSX HVX hne56
                  generalize x.draws.length = nd at *
                  generalize x.data.size = nb at *
                  go_upto_region 36 with (fail)
                  go_wp2_with (with_reducible refine park_append 145 146 _ rfl ?_)
                  refine wpList_append_eq rfl (.tmp 145) (.tmp 146) 28 rfl rfl rfl HAP5.out ?_
                  clear HAP5 c7 c8 ca
                  go_upto_region 37 with (fail)
                  go_wp2_with (with_reducible refine park_append 155 156 _ rfl ?_)
                  refine wpList_append_eq rfl (.tmp 155) (.tmp 156) 29 rfl rfl rfl HAP6.out ?_
                  clear HAP6 c85 ca5
                  go_upto_region 39 with (fail)
                  rw [← HW7.out]
                  clear HW7 o5 z5
                  go_wp2
                  go_roundw
                  case rel => exact ⟨k + 1, by go_num, HLTK.out, HST8.out⟩
                  case measure => have := HLTK.out; simp [intOf]; omega
                · have hkn : k = n := by omega
                  have g3 := dec_lt_f (show ¬ (k : Int) < (n : Int) by omega)
                  have g4 := dec_ltn_f hltk
                  have hka : Keep [] vr3 (vr3.alloc (.cells #[.int .i64 77, .int .i64 0, .int .i64 0, .int .i64 0, .int .i64 0, .int .i64 0, .string ⟨#[]⟩, .slice none 0 0, .slice none 0 0] 31)) := (Keep.refl _ _).alloc _
                  obtain ⟨g5, cap5, w5, hap5, hst5, hst6, cur5, hcur5, hcs5⟩ := (HST.out.keep0 hka).allTwo HLT.out (by rw [HFN.out]; omega) ⟨vr3.heap.size, 0, none⟩ 1 [.int .i64 77, .int .i64 0, .int .i64 0, .int .i64 0, .int .i64 0, .int .i64 0, .string ⟨#[]⟩, .slice none 0 0, .slice none 0 0] rfl (new_row_cells vr3 [.int .i64 77, .int .i64 0, .int .i64 0, .int .i64 0, .int .i64 0, .int .i64 0, .string ⟨#[]⟩, .slice none 0 0, .slice none 0 0] 31) (by simp [Value.oneCell'])
                  rw [HVI.out, HFN.out] at hap5
                  rw [HFN.out] at hst6 hcs5
                  have o5 : w5.cell? ⟨g5, n * 9, none⟩ = some cur5[n * 9] := by rw [cell_of_block hcur5]; exact Array.getElem?_eq_getElem (by omega)
                  have z5 := free_of_block hcur5 (n * 9)
                  generalize cur5[n * 9] = old5 at o5
                  have HST6 := Lib.hid hst6
                  have HAP5 := Lib.hid hap5
                  clear hltk hkn hka hap5 hst5 hst6 hcur5 hcs5 HST
                  go_upto_region 40 with (fail)
                  clear g3 g4
                  go_wp2_with (with_reducible refine park_append 171 173 _ rfl ?_)
                  refine wpList_append_eq rfl (.tmp 171) (.tmp 173) 22 rfl rfl rfl HAP5.out ?_
                  clear HAP5 ca
                  go_wp2
                  go_roundw
                  case rel => exact ⟨i + 1, by go_num, HLT.out, HST6.out _⟩
                  case measure => have := HLT.out; simp [intOf]; omega
            · have hi3 : i = 3 := by omega
              have g1 := dec_lt_f (show ¬ (i : Int) < 3 by omega)
              have g2 := dec_ltn_f hlt
              clear hlt hi hi3
              go_upto_region 43 with (fail)
              clear g1 g2
              go_loopw [20] (fun iv wr => ∃ i : Nat, iv = .int .i64 i ∧ i ≤ 3 ∧ St F wr Ls) (fun iv _ => 3 - (intOf iv).toNat)
              case atStart => exact ⟨0, rfl, by omega, HST.out⟩
              case round =>
                clear HST
                rename World => tr2
                obtain ⟨i, rfl, hi, hst⟩ := hrel
                have HST := Lib.hid hst
                clear hst
                by_cases hlt : i < 3
                · have HLT := Lib.hid hlt
                  have g1 := dec_lt_t (show (i : Int) < 3 by omega)
                  have g2 := dec_ltn_t hlt
                  obtain ⟨adi, capi, hvi⟩ := (HST.out.lot.own i hlt).steps.slice
                  rw [(HST.out.len i hlt).1, HFN.out] at hvi
                  have HVI := Lib.hid hvi
                  clear hvi
                  go_upto_region 46 with (fail)
                  go_loopw [21] (fun kv wr => ∃ k : Nat, kv = .int .i64 k ∧ k ≤ n ∧ St F wr Ls) (fun kv _ => n - (intOf kv).toNat)
                  case atStart => exact ⟨0, rfl, Nat.zero_le _, HST.out⟩
                  case round =>
                    clear HST
                    rename World => tr3
                    obtain ⟨k, rfl, hk, hst⟩ := hrel
                    have HST := Lib.hid hst
                    have ca : tr3.cell? ⟨A, i, none⟩ = some (.slice adi n capi) := by have h := hst.cell HLT.out; rw [HFA.out, HVI.out] at h; exact h
                    clear hst
                    by_cases hltk : k < n
                    · have HLTK := Lib.hid hltk
                      have g3 := dec_lt_t (show (k : Int) < (n : Int) by omega)
                      have g4 := dec_ltn_t hltk
                      obtain ⟨x, ad1, cap1, ad2, cap2, g, cap, hsx, hvx, hd4, hb3, hcl, hrd, hgA, _⟩ := HST.out.step HLT.out (by rw [HFN.out]; exact HLTK.out)
                      rw [HVI.out, HFN.out] at hvx
                      injection hvx with e1 _ e3
                      subst e1
                      subst e3
                      obtain ⟨hs1, hs2, hs3⟩ := HD3.out i k x HLT.out hsx (by omega)
                      have c0 : tr3.cell? ⟨g, k * 9, none⟩ = some (.int .i64 x.kind) := hcl 0 _ rfl
                      have c1 : tr3.cell? ⟨g, k * 9 + 1, none⟩ = some (.int .i64 (1000 + (i : Int))) := by rw [← hs1]; exact hcl 1 _ rfl
                      have c2 : tr3.cell? ⟨g, k * 9 + 2, none⟩ = some (.int .i64 x.peer) := hcl 2 _ rfl
                      have c3 : tr3.cell? ⟨g, k * 9 + 3, none⟩ = some (.int .i64 x.unit) := hcl 3 _ rfl
                      have c4 : tr3.cell? ⟨g, k * 9 + 4, none⟩ = some (.int .i64 x.at_) := hcl 4 _ rfl
                      have c5 : tr3.cell? ⟨g, k * 9 + 5, none⟩ = some (.int .i64 x.n) := hcl 5 _ rfl
                      have c6 : tr3.cell? ⟨g, k * 9 + 6, none⟩ = some (.string x.text) := hcl 6 _ rfl
                      have c7 : tr3.cell? ⟨g, k * 9 + 7, none⟩ = some (.slice ad1 x.draws.length cap1) := hcl 7 _ rfl
                      have c8 : tr3.cell? ⟨g, k * 9 + 8, none⟩ = some (.slice ad2 x.data.size cap2) := hcl 8 _ rfl
                      have HS2 := Lib.hid hs2
                      have HS3 := Lib.hid hs3
                      have HR1 := Lib.hid hrd.1
                      have HR2 := Lib.hid hrd.2
                      obtain ⟨nd, hnd⟩ : ∃ nd, nd = x.draws.length := ⟨_, rfl⟩
                      obtain ⟨nb, hnb⟩ : ∃ nb, nb = x.data.size := ⟨_, rfl⟩
                      rw [← hnd] at c7 hd4 HS2 HR1
                      rw [← hnb] at c8 hb3 HS3 HR2
                      have HND := Lib.hid hnd
                      have HNB := Lib.hid hnb
                      have hk200 : k ≤ 200 := by omega
                      clear hsx hcl hrd hgA hnd hnb hltk hs1 hs2 hs3
                      go_upto_region 49 with (fail)
                      obtain ⟨X, hX⟩ : ∃ X, X = tr3.heap.size := ⟨_, rfl⟩
                      obtain ⟨w2, hw2⟩ : ∃ w2, w2 = tr3.alloc (.cells #[.int .i64 x.kind, .int .i64 (1000 + (i : Int)), .int .i64 x.peer, .int .i64 x.unit, .int .i64 x.at_, .int .i64 x.n, .string x.text, .slice ad1 nd cap1, .slice ad2 nb cap2] 31) := ⟨_, rfl⟩
                      have hk2 : Keep [] tr3 w2 := by rw [hw2]; exact (Keep.refl _ _).alloc _
                      have hb2 : w2.heap[X]? = some (.cells #[.int .i64 x.kind, .int .i64 (1000 + (i : Int)), .int .i64 x.peer, .int .i64 x.unit, .int .i64 x.at_, .int .i64 x.n, .string x.text, .slice ad1 nd cap1, .slice ad2 nb cap2] 31 (0, 0)) := by rw [hw2, hX]; exact World.alloc_heap_new tr3 _
                      rw [← hw2, ← hX]
                      have HB2 := Lib.hid hb2
                      have HST2 := Lib.hid (HST.out.keep0 hk2)
                      have HR1 := Lib.hid (HR1.out.keep0 hk2)
                      have HR2 := Lib.hid (HR2.out.keep0 hk2)
                      have cx1 : w2.cell? ⟨X, 1, none⟩ = some (.int .i64 (1000 + (i : Int))) := cell_of_block hb2 1
                      clear hw2 hX hk2 hb2 c0 c1 c2 c3 c4 c5 c6 c7 c8 ca g3 g4 HST
                      go_upto_region 52 with (fail)
                      clear cx1
                      go_loopw [23] (fun tv wr => ∃ t : Nat, tv = .int .i64 t ∧ t ≤ nd ∧ Keep [] w2 wr) (fun tv _ => nd - (intOf tv).toNat)
                      case atStart => exact ⟨0, rfl, Nat.zero_le _, Keep.refl _ _⟩
                      case round =>
                        rename World => tr4
                        obtain ⟨t, rfl, ht, hkt⟩ := hrel
                        have HKT := Lib.hid hkt
                        have cx7 : tr4.cell? ⟨X, 7, none⟩ = some (.slice ad1 nd cap1) := cell_of_block (hkt.at_ HB2.out (by simp)) 7
                        clear hkt
                        by_cases hltt : t < nd
                        · have HLTT := Lib.hid hltt
                          have g5 := dec_lt_t (show (t : Int) < (nd : Int) by omega)
                          have g6 := dec_ltn_t hltt
                          obtain ⟨a, off, c, hdv, hcc⟩ := HR1.out.at_ (by omega)
                          injection hdv with e1 _ e3
                          subst e1
                          subst e3
                          have hold : tr4.cell? ⟨a, off + t, none⟩ = some (.int .i64 (100 + 3 * (k : Int) + (i : Int))) := HKT.out.cellv (hcc t _ (by
                            unfold intsV
                            rw [List.getElem?_map, HS2.out t HLTT.out]
                            rfl)) (by simp)
                          clear hcc
                          go_wp2
                          go_roundw
                          case rel => exact ⟨t + 1, by go_num, HLTT.out, HKT.out⟩
                          case measure => have := HLTT.out; simp [intOf]; omega
                        · have htn : t = nd := by omega
                          have g5 := dec_lt_f (show ¬ (t : Int) < (nd : Int) by omega)
                          have g6 := dec_ltn_f hltt
                          have HST4 := Lib.hid (HST2.out.keep0 HKT.out)
                          clear hltt ht htn
                          go_upto_region 57 with (fail)
                          clear g5 g6 cx7
                          go_loopw [24] (fun tv wr => ∃ u : Nat, tv = .int .i64 u ∧ u ≤ nb ∧ Keep [] w2 wr) (fun tv _ => nb - (intOf tv).toNat)
                          case atStart => exact ⟨0, rfl, Nat.zero_le _, HKT.out⟩
                          case round =>
                            clear HKT HST4
                            rename World => tr5
                            obtain ⟨u, rfl, hu, hkt⟩ := hrel
                            have HKT := Lib.hid hkt
                            have cx8 : tr5.cell? ⟨X, 8, none⟩ = some (.slice ad2 nb cap2) := cell_of_block (hkt.at_ HB2.out (by simp)) 8
                            clear hkt
                            by_cases hltu : u < nb
                            · have HLTU := Lib.hid hltu
                              have g5 := dec_lt_t (show (u : Int) < (nb : Int) by omega)
                              have g6 := dec_ltn_t hltu
                              obtain ⟨a, off, c, hdv, hcc⟩ := HR2.out.at_ (by omega)
                              injection hdv with e1 _ e3
                              subst e1
                              subst e3
                              obtain ⟨z, hz⟩ : ∃ z : Int, z = (((3 * k + i) % 256 : Nat) : Int) := ⟨_, rfl⟩
                              have hwz : IntKind.u8.wrap (3 * (k : Int) + (i : Int)) = z := by rw [hz, wrap_u8]; omega
                              have hold : tr5.cell? ⟨a, off + u, none⟩ = some (.int .u8 z) := HKT.out.cellv (hcc u _ (by
                                rw [bytV_at (by rw [← HNB.out]; exact HLTU.out), HS3.out u HLTU.out, hz])) (by simp)
                              clear hcc hz
                              go_wp2
                              go_roundw
                              case rel => exact ⟨u + 1, by go_num, HLTU.out, HKT.out⟩
                              case measure => have := HLTU.out; simp [intOf]; omega
                            · have g5 := dec_lt_f (show ¬ (u : Int) < (nb : Int) by omega)
                              have g6 := dec_ltn_f hltu
                              have HST5 := Lib.hid (HST2.out.keep0 HKT.out)
                              clear hltu hu
                              go_wp2
                              go_roundw
                              case rel => exact ⟨k + 1, by go_num, HLTK.out, HST5.out⟩
                              case measure => have := HLTK.out; simp [intOf]; omega
                    · have g3 := dec_lt_f (show ¬ (k : Int) < (n : Int) by omega)
                      have g4 := dec_ltn_f hltk
                      clear hltk
                      go_wp2
                      go_roundw
                      case rel => exact ⟨i + 1, by go_num, HLT.out, HST.out⟩
                      case measure => have := HLT.out; simp [intOf]; omega
                · have g1 := dec_lt_f (show ¬ (i : Int) < 3 by omega)
                  have g2 := dec_ltn_f hlt
                  have HKW := Lib.hid (show Keep [] W tr2 by have h := HST.out.kp; rw [HFW.out] at h; exact h)
                  clear hlt hi HST
                  go_upto_region 61 with (fail)
                  clear g1 g2
                  go_wp2_with fail
                  refine (parse_own s M tr2 (by have := ZS.out; omega) (HT.out.keep0 HKW.out) HPS.out).mono ?_
                  rintro e t5 ⟨ad5, cap5, fp5, rfl, hk5, ho5, _⟩
                  have HK5 := Lib.hid (HKW.out.trans0 hk5)
                  have HS5 := Lib.hid ho5.steps
                  clear hk5 ho5 HKW
                  obtain ⟨lm, hlm⟩ : ∃ lm, lm = M.length := ⟨_, rfl⟩
                  rw [← hlm] at HS5 ⊢
                  clear hlm
                  have HPR := Lib.hid (print_any _ M t5 HS5.out HOK.out (by rw [HML.out]; omega) (HT.out.keep0 HK5.out))
                  rw [HPM.out] at HPR
                  unfold prnV at HPR
                  go_upto_region 62 with (fail)
                  go_wp2_with fail
                  refine HPR.out.mono ?_
                  rintro e t6 ⟨rfl, hk6⟩
                  have HK6 := Lib.hid (HK5.out.trans0 hk6)
                  clear hk6 HPR HS5 HK5
                  have hss : (s.toList == s.toList) = true := by simp
                  go_upto_region 63 with (fail)
                  go_wp2_with fail
                  refine (known_true t6 (HT.out.keep0 HK6.out)).mono ?_
                  rintro e w9 ⟨rfl, hk9⟩
                  have HK9 := Lib.hid (HK6.out.trans0 hk9)
                  clear hk9
                  go_wp2
                  go_ret
                  exact ⟨rfl, HK9.out⟩

end Go.Proofs.YtbidppjhenfjdaaDoor
namespace Go.Proofs.YtbidppjhenfjdaaDoor.scriptOwn
open Go.ChangeShapes Go.WideShapes Go.ChangeAt Go.RowKit
open Go.ChangeMaps (open_string shut_string)
set_option linter.unusedVariables false

set_option maxRecDepth 100000 in
theorem contract (H : Type) (enc : TypeId × Value → H) (W : World) (base : Nat) (args : Array Value) (ds gs : List (DataW H)) (before : List MemPlace)
    (hval : ∀ (j : Nat) t v, Tryd.f6.params[j]? = some t → args[j]? = some v → Value.okWide Tryd.prog W .any base t v)
    (hW : DataW.Whole enc Tryd.prog Tryd.f6.params.toList Rows.scriptOwnSpec.vars false W args.toList ds gs before) (hL : laidMetH Tryd.prog laid1 W) (hWt : (DataW.weightsEach Tryd.prog (Tryd.f6.params.toList ++ []) (ds ++ gs)).all (· ≤ reachBytes) = true) :
    Calls Tryd.prog 6 args W fun e W' => ∃ v, e = .returned v ∧ Rows.scriptOwnSpec.post enc Tryd.prog Tryd.f6 false true false false W args v W' := by
  have hW' := hW
  obtain ⟨p, q, hA0, hV, rfl, hfz, hnd⟩ := hW
  have hA : DataW.TrodAll enc Tryd.prog W 0 (fun _ => true) true Tryd.f6.params.toList args.toList ds p := hA0
  rw [Tryd.params6] at hA hval hWt
  obtain ⟨v0, vs0, d0, ds0, p0, q0, hargs, rfl, rfl, h0, r0⟩ := trodAll_cons hA
  obtain ⟨rfl, rfl, rfl⟩ := trodAll_nil r0
  obtain rfl : args = #[v0] := by cases args; simp_all
  obtain ⟨rfl, rfl⟩ := trodVars_none hV
  have hWt' : (DataW.weightsEach Tryd.prog [22] [d0]).all (· ≤ reachBytes) = true := hWt
  simp only [DataW.weightsEach, List.all_append, Bool.and_eq_true] at hWt'
  obtain ⟨w0, _⟩ := hWt'
  clear hA0
  simp only [List.append_nil] at hW'
  have hlt : ∀ x ∈ p0, x.block < W.heap.size := fun x hx => by simpa using hW'.lt x (by simpa using hx)
  have k0 := h0
  obtain ⟨xs0, hx0, hf0⟩ := open_steps (hval 0 22 v0 rfl rfl) h0 w0
  refine (scriptOwn_walk v0 xs0 W hx0 hf0 (table hL)).mono fun e W' ⟨he, hk⟩ => ?_
  subst he
  have hb := hk.below
  exact ⟨_, rfl, _, _, _, [], p0 ++ [], [], hW', trodAll_cons_mk (shut_bool Tryd.underlying4 _) trodAll_mk0, trodAll_cons_mk (Below.trod laidOut (by kernel_rfl) (of_decide_eq_true (by kernel_rfl)) k0 hb (fun x hx => hlt x (by simp [hx]))) trodAll_mk0, rfl, hb.frame _, fun h => by cases h⟩

theorem laid_met (os : Os) : laidMet Tryd.prog laid1 ((laidWorld os).forCall (fun _ _ => 0) ⟨#[], #[.slice none 0 0], []⟩).memory :=
  laidMet_of_run' 8 (by kernel_rfl) (by kernel_rfl)
theorem reads (os : Os) {H : Type} (enc : TypeId × Value → H) : ∃ places, DataW.whole enc Tryd.prog ((laidWorld os).forCall (fun _ _ => 0) ⟨#[], #[.slice none 0 0], []⟩).memory Tryd.f6.params.toList Rows.scriptOwnSpec.vars false #[(.slice none 0 0 : Value)].toList 8 = some ([.nil], [], places) :=
  ⟨[], by kernel_rfl⟩

set_option maxRecDepth 100000 in
theorem lifted (os : Os) (started : os.Started) (H : Type) (enc : TypeId × Value → H) (F : Stop.Interp) :
    ReturnsInHanded {} Tryd.checked os 6 .any ((OpenSpec.ofChange Rows.scriptOwnSpec).preRow enc Tryd.prog Tryd.f6 Rows.scriptOwnRow.domain false Rows.scriptOwnRow.laid) (((OpenSpec.ofChange Rows.scriptOwnSpec).at F).post enc Tryd.prog Tryd.f6 false true false false) := by
  obtain ⟨places, hx⟩ := reads os enc
  refine returnsInHanded_of_row (C := Tryd.checked) (s := OpenSpec.ofChange Rows.scriptOwnSpec) own started (by kernel_rfl) Tryd.func6
    (witness_row_at (enc := enc) (C := Tryd.checked) false (laidWorld os) #[.slice none 0 0] rfl (by kernel_rfl) (by kernel_rfl) (by kernel_rfl)
      (OpenSpec.preRow_of_cond 8 hx (by kernel_rfl) (fun k hk => by cases hk) (by kernel_rfl) (laid_met os))) ?_
  intro W base args ds gs before hval hW _ _ hWt hL _ _
  exact contract H enc W base args ds gs before hval hW hL hWt

theorem said : Rows.ScriptOwnSaid :=
  OpenClaim.holds_of_cond 6 Tryd.f6 rfl rfl rfl rfl rfl rfl rfl ⟨rfl, rfl, rfl, rfl, rfl⟩ rfl rfl rfl rfl rfl (by kernel_rfl) Tryd.func6 (by kernel_rfl)
    (of_decide_eq_true (by kernel_rfl)) (by unfold Func.isWrapper; first | (rw [if_pos (by decide +kernel)]; kernel_rfl) | (rw [if_neg (by decide +kernel)]; exact ⟨rfl, rfl⟩))
    (fun os started H enc _ F => by rw [OpenClaim.pre_eq_preRow]; exact lifted os started H enc F)

/-- No parameter wants a stand-in; the program's own looks are off. -/
theorem plain (f : FuncId) (fn : Func) (hf : Tryd.pinned.checked.prog.funcNamed "hearsay/hearsaylaw22.ScriptOwn" = some f) (hfn : Tryd.pinned.checked.prog.funcs[f]? = some fn) :
    true = Tryd.pinned.checked.prog.looks [] ∧ ∀ (j : Nat) t, fn.params[j]? = some t → Tryd.pinned.checked.prog.wantsStandIn t = false := by
  obtain rfl : f = 6 := Option.some.inj ((show Tryd.prog.funcNamed "hearsay/hearsaylaw22.ScriptOwn" = some 6 by kernel_rfl).symm.trans hf) |>.symm
  obtain rfl : fn = Tryd.f6 := (Option.some.inj (Tryd.func6.symm.trans hfn)).symm
  refine ⟨by kernel_rfl, fun j t ht => ?_⟩
  rw [Tryd.params6] at ht
  have hm := Array.mem_of_getElem? ht
  simp at hm
  subst hm
  exact (show Tryd.prog.wantsStandIn 22 = false by kernel_rfl)

/-- THE CARD. -/
theorem card : Rows.ScriptOwnCardSaid :=
  Claim7.holds_tied_plain_at .later [] _ _ _ _ said (fun _ h => by cases h) (by kernel_rfl) (fun _ h => by cases h) scriptOwn_row_tie rfl ⟨rfl, rfl⟩ (by kernel_rfl) rfl plain (by kernel_rfl)
end Go.Proofs.YtbidppjhenfjdaaDoor.scriptOwn
