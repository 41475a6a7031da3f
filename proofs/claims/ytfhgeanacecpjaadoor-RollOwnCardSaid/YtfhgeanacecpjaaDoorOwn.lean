/-
  A list of rows of the call's own: each is written, appended to, and none turns another.
-/
import Derived.Test.YtfhgeanacecpjaaDoorLawP
namespace Go.Proofs.YtfhgeanacecpjaaDoor
open Go.RowKit
set_option linter.unusedVariables false

/-- Rows of the call's own, each with its numbers; no two share a block. -/
structure Many (w : World) (base : Nat) (vs : List Value) (zss : List (List Int)) : Prop where
  len : vs.length = zss.length
  row : ∀ (i : Nat) (v : Value) (ys : List Int), vs[i]? = some v → zss[i]? = some ys → w.ownsRow base 3 1 v ys.length (ys.map (Value.int .i64))
  apart : ∀ (i j : Nat) (v v' : Value) (g : Nat), vs[i]? = some v → vs[j]? = some v' → v.ownBlock = some g → v'.ownBlock = some g → i = j

theorem owns_lt {w : World} {base : Nat} {e : TypeId} {size n : Nat} {v : Value} {xs : List Value} (h : w.ownsRow base e size v n xs) {g : Nat} (hg : v.ownBlock = some g) : base ≤ g ∧ g < w.heap.size := by
  rcases h.2 with ⟨rfl, _⟩ | ⟨g', cap, cur, rfl, hb, hgg, _⟩
  · simp [Value.ownBlock] at hg
  · simp [Value.ownBlock] at hg; subst hg; exact ⟨hb, lt_of_block hgg⟩

theorem Many.zs {w : World} {base : Nat} {vs : List Value} {zss : List (List Int)} (h : Many w base vs zss) {i : Nat} {v : Value} (hv : vs[i]? = some v) : ∃ ys, zss[i]? = some ys := by
  have := (List.getElem?_eq_some_iff.1 hv).1
  exact ⟨zss[i]'(by have := h.len; omega), List.getElem?_eq_getElem _⟩
theorem Many.lt {w : World} {base : Nat} {vs : List Value} {zss : List (List Int)} (h : Many w base vs zss) {i : Nat} {v : Value} (hv : vs[i]? = some v) {g : Nat} (hg : v.ownBlock = some g) : base ≤ g ∧ g < w.heap.size := by
  obtain ⟨ys, hy⟩ := h.zs hv
  exact owns_lt (h.row i v ys hv hy) hg

theorem Many.nil (w : World) (base : Nat) : Many w base [] [] := ⟨rfl, fun i v ys h => by simp at h, fun i j v v' g h => by simp at h⟩
theorem Many.keep {w w' : World} {base : Nat} {vs : List Value} {zss : List (List Int)} {L : List Nat} (h : Many w base vs zss) (k : Keep L w w') (hL : ∀ (i : Nat) (v : Value) (g : Nat), vs[i]? = some v → v.ownBlock = some g → g ∉ L) : Many w' base vs zss :=
  ⟨h.len, fun i v ys hv hy => k.owns (h.row i v ys hv hy) (fun g hg => hL i v g hv hg), h.apart⟩
theorem Many.keep0 {w w' : World} {base : Nat} {vs : List Value} {zss : List (List Int)} (h : Many w base vs zss) (k : Keep [] w w') : Many w' base vs zss := h.keep k (by simp)

theorem ownsRow_mono {w : World} {base base' : Nat} {e : TypeId} {size n : Nat} {v : Value} {xs : List Value} (h : w.ownsRow base e size v n xs) (hb : base' ≤ base) : w.ownsRow base' e size v n xs := by
  refine ⟨h.1, ?_⟩
  rcases h.2 with h' | ⟨g, cap, cur, hv, hg, rest⟩
  · exact .inl h'
  · exact .inr ⟨g, cap, cur, hv, by omega, rest⟩

/-- One more list that is told. -/
theorem Many.told {w w' : World} {base : Nat} {vs : List Value} {zss : List (List Int)} {ys : List Int} {e : Ending} (h : Many w base vs zss) (hb : base ≤ w.heap.size) (hp : ListPost ys w e w') :
    ∃ v, e = .returned v ∧ Many w' base (vs ++ [v]) (zss ++ [ys]) ∧ Keep [] w w' := by
  obtain ⟨v, h1, h2, h3, _⟩ := hp
  refine ⟨v, h1, ⟨by simp [h.len], ?_, ?_⟩, h3⟩
  · intro i u zs hu hz
    by_cases hi : i < vs.length
    · rw [List.getElem?_append_left hi] at hu
      rw [List.getElem?_append_left (by have := h.len; omega)] at hz
      exact h3.owns (h.row i u zs hu hz) (by simp)
    · have hi2 : i < (vs ++ [v]).length := (List.getElem?_eq_some_iff.1 hu).1
      obtain rfl : i = vs.length := by simp at hi2; omega
      rw [List.getElem?_append_right (Nat.le_refl _)] at hu
      rw [List.getElem?_append_right (by have := h.len; omega)] at hz
      simp [h.len] at hu hz
      subst hu; subst hz
      exact ownsRow_mono h2 hb
  · intro i j u u' g hu hu' hg hg'
    have hi2 : i < (vs ++ [v]).length := (List.getElem?_eq_some_iff.1 hu).1
    have hj2 : j < (vs ++ [v]).length := (List.getElem?_eq_some_iff.1 hu').1
    simp at hi2 hj2
    by_cases hi : i < vs.length
    · rw [List.getElem?_append_left hi] at hu
      by_cases hj : j < vs.length
      · rw [List.getElem?_append_left hj] at hu'
        exact h.apart i j u u' g hu hu' hg hg'
      · obtain rfl : j = vs.length := by omega
        rw [List.getElem?_append_right (Nat.le_refl _)] at hu'
        simp at hu'
        subst hu'
        have := (h.lt hu hg).2
        have := (owns_lt h2 hg').1
        omega
    · obtain rfl : i = vs.length := by omega
      rw [List.getElem?_append_right (Nat.le_refl _)] at hu
      simp at hu
      subst hu
      by_cases hj : j < vs.length
      · rw [List.getElem?_append_left hj] at hu'
        have := (h.lt hu' hg').2
        have := (owns_lt h2 hg).1
        omega
      · omega

/-- A number is written into one row. -/
theorem Many.stored {w : World} {base : Nat} {vs : List Value} {zss : List (List Int)} (h : Many w base vs zss) {k : Nat} {g n cap : Nat} {ys : List Int} (hv : vs[k]? = some (.slice (some ⟨g, 0, none⟩) n cap)) (hy : zss[k]? = some ys) (hn : ys.length = n) (j : Nat) (u : Int) :
    Many (w.setCell ⟨g, j, none⟩ (.int .i64 u)) base vs (zss.set k (ys.set j u)) := by
  subst hn
  refine ⟨by simp [h.len], ?_, h.apart⟩
  intro i v zs hi hz
  by_cases hik : i = k
  · subst hik
    rw [hv] at hi
    cases hi
    have hlt : i < zss.length := (List.getElem?_eq_some_iff.1 hy).1
    rw [List.getElem?_set_self hlt] at hz
    cases hz
    have := ((h.row i _ ys hv hy).stored j (.int .i64 u)).1
    rw [List.map_set, List.length_set]
    exact this
  · rw [List.getElem?_set_ne (fun e => hik e.symm)] at hz
    exact ((Keep.refl [g] w).setCell (p := ⟨g, j, none⟩) (by simp) _).owns (h.row i v zs hi hz) (fun g' hg' hm => by
      simp at hm; subst hm
      exact hik (h.apart i k _ _ g' hi hv hg' rfl))

/-- A number is appended to one row. -/
theorem Many.appended {w w' : World} {base : Nat} {vs : List Value} {zss : List (List Int)} (h : Many w base vs zss) {k : Nat} {v v' : Value} {ys : List Int} (hv : vs[k]? = some v) (hy : zss[k]? = some ys) (u : Int)
    (hp : AppPost w base 3 1 v ys.length (ys.map (Value.int .i64)) 1 [.int .i64 u] v' w') : Many w' base (vs.set k v') (zss.set k (ys ++ [u])) := by
  obtain ⟨p1, p2, p3, _⟩ := hp
  have hk1 : k < vs.length := (List.getElem?_eq_some_iff.1 hv).1
  have hk2 : k < zss.length := (List.getElem?_eq_some_iff.1 hy).1
  have hother : ∀ (i : Nat) (x : Value) (g : Nat), i ≠ k → vs[i]? = some x → x.ownBlock = some g → v'.ownBlock ≠ some g := by
    intro i x g hik hx hg hg'
    rcases p3 g hg' with h' | h'
    · exact hik (h.apart i k _ _ g hx hv hg h')
    · have := (h.lt hx hg).2; omega
  refine ⟨by simp [h.len], ?_, ?_⟩
  · intro i x zs hi hz
    by_cases hik : i = k
    · subst hik
      rw [List.getElem?_set_self hk1] at hi
      rw [List.getElem?_set_self hk2] at hz
      cases hi; cases hz
      simpa using p1
    · rw [List.getElem?_set_ne (fun e => hik e.symm)] at hi hz
      exact p2.owns (h.row i x zs hi hz) (fun g' hg' hm => hik (h.apart i k _ _ g' hi hv hg' (by simpa using hm)))
  · intro i j x x' g hi hj hg hg'
    by_cases hik : i = k
    · subst hik
      rw [List.getElem?_set_self hk1] at hi
      cases hi
      by_cases hjk : j = i
      · exact hjk.symm
      · rw [List.getElem?_set_ne (fun e => hjk e.symm)] at hj
        exact absurd hg (hother j x' g hjk hj hg')
    · rw [List.getElem?_set_ne (fun e => hik e.symm)] at hi
      by_cases hjk : j = k
      · subst hjk
        rw [List.getElem?_set_self hk1] at hj
        cases hj
        exact absurd hg' (hother i x g hik hi hg)
      · rw [List.getElem?_set_ne (fun e => hjk e.symm)] at hj
        exact h.apart i j x x' g hi hj hg hg'

/-- A row's value. -/
theorem owns_form {w : World} {base : Nat} {e : TypeId} {n : Nat} {v : Value} {xs : List Value} (h : w.ownsRow base e 1 v n xs) : ∃ ad cap, v = .slice ad n cap ∧ (n ≠ 0 → ∃ g, ad = some ⟨g, 0, none⟩) := by
  rcases h.2 with ⟨rfl, rfl⟩ | ⟨g, cap, cur, rfl, _⟩
  · exact ⟨none, 0, rfl, fun h => absurd rfl h⟩
  · exact ⟨_, cap, rfl, fun _ => ⟨g, rfl⟩⟩
theorem Many.told' {w w' : World} {base : Nat} {vs : List Value} {zss : List (List Int)} {ys : List Int} {e : Ending} (h : Many w base vs zss) (hb : base ≤ w.heap.size) (hp : ListPost ys w e w') :
    ∃ ad cap, e = .returned (.slice ad ys.length cap) ∧ Many w' base (vs ++ [.slice ad ys.length cap]) (zss ++ [ys]) ∧ Keep [] w w' := by
  obtain ⟨v, rfl, hm, hk⟩ := h.told hb hp
  obtain ⟨v', h1, h2, _⟩ := hp
  cases h1
  obtain ⟨ad, cap, rfl, _⟩ := owns_form h2
  exact ⟨ad, cap, rfl, hm, hk⟩

/-- The list of the rows, and the rows. -/
structure Six (w : World) (base L n : Nat) (vs : List Value) (zss : List (List Int)) : Prop where
  many : Many w base vs zss
  lst : w.ownsRow base 32 1 (.slice (some ⟨L, 0, none⟩) n n) n vs
  notL : ∀ (i : Nat) (v : Value), vs[i]? = some v → v.ownBlock ≠ some L

theorem Six.made {w : World} {base n : Nat} {vs : List Value} {zss : List (List Int)} (h : Many w base vs zss) (hb : base ≤ w.heap.size) (hn : vs.length = n) (hm : n ≤ maxLen) {a : Array Value} (ha : a.toList = vs) :
    Six (w.alloc (.cells a 32)) base w.heap.size n vs zss := by
  refine ⟨h.keep0 ((Keep.refl _ _).alloc _), ⟨by simp [hn], .inr ⟨w.heap.size, n, a, rfl, hb, heap_alloc_new w _, Nat.le_refl _, hm, by rw [← hn, ← ha]; simp, by rw [ha, Nat.mul_one, ← hn]; simp⟩⟩, ?_⟩
  intro i v hv hg
  have := (h.lt hv hg).2
  omega
theorem Six.keep {w w' : World} {base L n : Nat} {vs : List Value} {zss : List (List Int)} (h : Six w base L n vs zss) (k : Keep [] w w') : Six w' base L n vs zss := ⟨h.many.keep0 k, k.owns h.lst (by simp), h.notL⟩
theorem Six.cell {w : World} {base L n : Nat} {vs : List Value} {zss : List (List Int)} (h : Six w base L n vs zss) {k : Nat} {v : Value} (hv : vs[k]? = some v) : w.cell? ⟨L, k, none⟩ = some v := by
  have h1 := h.lst.1
  have h2 : k < vs.length := (List.getElem?_eq_some_iff.1 hv).1
  rw [h.lst.cellAt k (by omega)]; exact hv
theorem Six.free {w : World} {base L n : Nat} {vs : List Value} {zss : List (List Int)} (h : Six w base L n vs zss) (k : Nat) : w.frozen? ⟨L, k, none⟩ = false := h.lst.frozenAt k
theorem Six.ge {w : World} {base L n : Nat} {vs : List Value} {zss : List (List Int)} (h : Six w base L n vs zss) : base ≤ L := (owns_lt h.lst rfl).1
theorem Six.stored {w : World} {base L m : Nat} {vs : List Value} {zss : List (List Int)} (h : Six w base L m vs zss) {k : Nat} {g n cap : Nat} {ys : List Int} (hv : vs[k]? = some (.slice (some ⟨g, 0, none⟩) n cap)) (hy : zss[k]? = some ys) (hn : ys.length = n) (j : Nat) (u : Int) :
    Six (w.setCell ⟨g, j, none⟩ (.int .i64 u)) base L m vs (zss.set k (ys.set j u)) ∧ base ≤ g :=
  ⟨⟨h.many.stored hv hy hn j u, ((Keep.refl [g] w).setCell (p := ⟨g, j, none⟩) (by simp) _).owns h.lst (fun g' hg' hm => by
    simp [Value.ownBlock] at hg' hm; subst hg'; subst hm; exact h.notL k _ hv rfl), h.notL⟩, (h.many.lt hv rfl).1⟩
theorem Six.appended {w w' : World} {base L m : Nat} {vs : List Value} {zss : List (List Int)} (h : Six w base L m vs zss) {k : Nat} {v v' : Value} {ys : List Int} (hv : vs[k]? = some v) (hy : zss[k]? = some ys) (u : Int)
    (hp : AppPost w base 3 1 v ys.length (ys.map (Value.int .i64)) 1 [.int .i64 u] v' w') :
    (w'.cell? ⟨L, k, none⟩ = some v ∧ w'.frozen? ⟨L, k, none⟩ = false) ∧ Six (w'.setCell ⟨L, k, none⟩ v') base L m (vs.set k v') (zss.set k (ys ++ [u])) ∧ (∀ g, v.ownBlock = some g → base ≤ g) := by
  have hL' : w'.ownsRow base 32 1 (.slice (some ⟨L, 0, none⟩) m m) m vs := hp.2.1.owns h.lst (fun g' hg' hm => by
    simp [Value.ownBlock] at hg'; subst hg'
    simp at hm
    exact h.notL k v hv hm)
  have hk1 : k < vs.length := (List.getElem?_eq_some_iff.1 hv).1
  have hnL : ∀ (i : Nat) (x : Value), (vs.set k v')[i]? = some x → x.ownBlock ≠ some L := by
    intro i x hx hg
    by_cases hik : i = k
    · subst hik
      rw [List.getElem?_set_self hk1] at hx
      cases hx
      rcases hp.2.2.1 L hg with h' | h'
      · exact h.notL _ _ hv h'
      · have := (owns_lt h.lst (g := L) rfl).2; omega
    · rw [List.getElem?_set_ne (fun e => hik e.symm)] at hx
      exact h.notL i x hx hg
  have h1 := hL'.1
  refine ⟨⟨by rw [hL'.cellAt k (by omega)]; exact hv, hL'.frozenAt k⟩, ⟨(h.many.appended hv hy u hp).keep ((Keep.refl [L] w').setCell (p := ⟨L, k, none⟩) (by simp) _) (fun i x g hx hg hm => by simp at hm; subst hm; exact hnL i x hx hg), (hL'.stored k v').1, hnL⟩, fun g hg => (h.many.lt hv hg).1⟩

theorem Six.rowCell {w : World} {base L m : Nat} {vs : List Value} {zss : List (List Int)} (h : Six w base L m vs zss) {k g n cap : Nat} {ys : List Int} (hv : vs[k]? = some (.slice (some ⟨g, 0, none⟩) n cap)) (hy : zss[k]? = some ys) (hn : ys.length = n) (j : Nat) (hj : j < n) :
    w.cell? ⟨g, j, none⟩ = some (.int .i64 (ys[j]'(by omega))) ∧ w.frozen? ⟨g, j, none⟩ = false := by
  subst hn
  have := h.many.row k _ ys hv hy
  refine ⟨?_, this.frozenAt j⟩
  rw [this.cellAt j (by omega), List.getElem?_map, List.getElem?_eq_getElem hj]
  rfl

/-- What a row is at the end. -/
def fin (i : Nat) (n : Nat) : List Int := List.replicate n (100 + (i : Int)) ++ [200 + (i : Int)]
theorem fin_len (i n : Nat) : (fin i n).length = n + 1 := by simp [fin]
theorem fin_lt (i n j : Nat) (h : j < n) : (fin i n)[j]? = some (100 + (i : Int)) := by
  rw [fin, List.getElem?_append_left (by simpa using h), List.getElem?_replicate, if_pos h]
theorem fin_at (i n : Nat) : (fin i n)[n]? = some (200 + (i : Int)) := by
  rw [fin, List.getElem?_append_right (by simp)]; simp
theorem List.set_getElem?_self' {α : Type} {l : List α} {k : Nat} {x : α} (h : l[k]? = some x) : l.set k x = l := by
  obtain ⟨hk, rfl⟩ := List.getElem?_eq_some_iff.1 h
  exact List.set_getElem_self hk

/-- A row of which the first ones are written over. -/
def over (ys : List Int) (a : Int) (j : Nat) : List Int := List.replicate j a ++ ys.drop j
theorem over_zero (ys : List Int) (a : Int) : over ys a 0 = ys := rfl
theorem over_len (ys : List Int) (a : Int) (j : Nat) (h : j ≤ ys.length) : (over ys a j).length = ys.length := by simp [over]; omega
theorem over_set (ys : List Int) (a : Int) (j : Nat) (h : j < ys.length) : (over ys a j).set j a = over ys a (j + 1) := by
  unfold over
  rw [List.set_append_right _ _ (by simp), List.length_replicate, Nat.sub_self, List.drop_eq_getElem_cons h, List.set_cons_zero, List.replicate_succ', List.append_assoc]
  rfl
theorem over_all (ys : List Int) (a : Int) : over ys a ys.length = List.replicate ys.length a := by simp [over]
/-- What the outer loop keeps: the rows ahead of k are as they will be. -/
def OwnP (w6 : World) (L k : Nat) (wr : World) : Prop :=
  ∃ vs zss, Six wr w6.heap.size L 6 vs zss ∧ (∀ (i : Nat) (ys : List Int), i < k → zss[i]? = some ys → ∃ n, n ≤ 17 ∧ ys = fin i n) ∧ (∀ (i : Nat) (ys : List Int), k ≤ i → zss[i]? = some ys → ys.length ≤ 17) ∧ Keep [] w6 wr
theorem OwnP.at_ {w6 wr : World} {L k : Nat} (h : OwnP w6 L k wr) (hk : k < 6) :
    ∃ vs zss ys ad cap, Six wr w6.heap.size L 6 vs zss ∧ (∀ (i : Nat) (ys : List Int), i < k → zss[i]? = some ys → ∃ n, n ≤ 17 ∧ ys = fin i n) ∧ (∀ (i : Nat) (ys : List Int), k ≤ i → zss[i]? = some ys → ys.length ≤ 17) ∧ Keep [] w6 wr ∧
      zss[k]? = some ys ∧ ys.length ≤ 17 ∧ vs[k]? = some (.slice ad ys.length cap) ∧ (ys.length ≠ 0 → ∃ g, ad = some ⟨g, 0, none⟩) := by
  obtain ⟨vs, zss, hS, h1, h2, h3⟩ := h
  have hl := hS.lst.1
  have hk1 : k < vs.length := by omega
  have hv := List.getElem?_eq_getElem hk1
  obtain ⟨ys, hy⟩ := hS.many.zs hv
  obtain ⟨ad, cap, he, hg⟩ := owns_form (hS.many.row k _ ys hv hy)
  rw [he] at hv
  exact ⟨vs, zss, ys, ad, cap, hS, h1, h2, h3, hy, h2 k ys (Nat.le_refl _) hy, hv, hg⟩
theorem OwnP.done {w6 wr : World} {L : Nat} (h : OwnP w6 L 6 wr) {k : Nat} (hk : k < 6) :
    ∃ g cap n, n ≤ 17 ∧ wr.cell? ⟨L, k, none⟩ = some (.slice (some ⟨g, 0, none⟩) (n + 1) cap) ∧ (∀ j, j < n → wr.cell? ⟨g, j, none⟩ = some (.int .i64 (100 + (k : Int)))) ∧ wr.cell? ⟨g, n, none⟩ = some (.int .i64 (200 + (k : Int))) := by
  obtain ⟨vs, zss, hS, h1, h2, h3⟩ := h
  have hl := hS.lst.1
  have hk1 : k < vs.length := by omega
  have hv := List.getElem?_eq_getElem hk1
  obtain ⟨ys, hy⟩ := hS.many.zs hv
  obtain ⟨n, hn, rfl⟩ := h1 k ys hk hy
  obtain ⟨ad, cap, he, hg⟩ := owns_form (hS.many.row k _ _ hv hy)
  obtain ⟨g, rfl⟩ := hg (by rw [fin_len]; omega)
  rw [he] at hv
  have hrow := hS.many.row k _ _ hv hy
  rw [fin_len] at hv hrow
  refine ⟨g, cap, n, hn, hS.cell hv, fun j hj => ?_, ?_⟩
  · rw [hrow.cellAt j (by omega), List.getElem?_map, fin_lt k n j hj]; rfl
  · rw [hrow.cellAt n (by omega), List.getElem?_map, fin_at k n]; rfl
theorem OwnP.next {w6 wr : World} {L k : Nat} {vs : List Value} {zss : List (List Int)} {v' : Value} {n : Nat} (hk : k < 6) (hS : Six wr w6.heap.size L 6 (vs.set k v') (zss.set k (fin k n))) (hn : n ≤ 17) (h1 : ∀ (i : Nat) (ys : List Int), i < k → zss[i]? = some ys → ∃ n, n ≤ 17 ∧ ys = fin i n)
    (h2 : ∀ (i : Nat) (ys : List Int), k ≤ i → zss[i]? = some ys → ys.length ≤ 17) (h3 : Keep [] w6 wr) : OwnP w6 L (k + 1) wr := by
  refine ⟨_, _, hS, ?_, ?_, h3⟩
  · intro i ys hi hy
    by_cases hik : i = k
    · subst hik
      have hlt : i < (zss.set i (fin i n)).length := (List.getElem?_eq_some_iff.1 hy).1
      rw [List.getElem?_set_self (by simpa using hlt)] at hy
      cases hy
      exact ⟨n, hn, rfl⟩
    · rw [List.getElem?_set_ne (fun e => hik e.symm)] at hy
      exact h1 i ys (by omega) hy
  · intro i ys hi hy
    rw [List.getElem?_set_ne (by omega)] at hy
    exact h2 i ys (by omega) hy
end Go.Proofs.YtfhgeanacecpjaaDoor
