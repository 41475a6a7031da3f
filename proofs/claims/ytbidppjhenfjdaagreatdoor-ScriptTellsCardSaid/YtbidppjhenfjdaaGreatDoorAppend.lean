/-
  Append to a slice of the call's own: what is kept, and which block holds the result.
-/
import Derived.Test.YtbidppjhenfjdaaGreatDoorIter
import Derived.Test.YtbidppjhenfjdaaGreatDoorSl
import Derived.Laws.AppendOwnNone
import Derived.Maps.AppendAt
import Derived.RangeFuncBox
import Derived.Shelf.Abstract
namespace Go.Proofs.YtbidppjhenfjdaaGreatDoor
open Go.RowKit
set_option linter.unusedVariables false

theorem keep_of_grown {w w' : World} {v : Value} (hg : w.grownBy w' v.ownBlock) : Keep v.ownBlock.toList w w' :=
  (Keep.refl _ w).grown hg (fun k hk => .inl (by simp [hk]))

section
variable {P : Program} (w : World)

/-- What append to a slice of the call's own leaves. -/
def AppPost (w : World) (base : Nat) (e : TypeId) (size : Nat) (v : Value) (n : Nat) (xs : List Value) (m : Nat) (news : List Value) (v' : Value) (w' : World) : Prop :=
  w'.ownsRow base e size v' (n + m) (xs ++ news) ∧ Keep v.ownBlock.toList w w' ∧ (∀ g, v'.ownBlock = some g → v.ownBlock = some g ∨ w.heap.size ≤ g) ∧ (v' = .slice none 0 0 ↔ v = .slice none 0 0 ∧ m = 0)

theorem run_append_mine (base : Nat) (t ty e : TypeId) (i : TypeInfo) (z : Value) (size bytes : Nat) (ht : P.underlying t = some (.slice e)) (hi : P.info? e = some i) (hz : i.zero = some z)
    (hsize : i.size = size) (hby : i.bytes = bytes) (hzs : z.cells.size = size) (hsz : 0 < size)
    (v : Value) (n : Nat) (xs : List Value) (hown : w.ownsRow base e size v n xs)
    (a : Addr) (m c : Nat) (news : List Value) (hl : news.length = m * size) (hnews : ∀ j u, news[j]? = some u → w.cell? (a.add j) = some u) (h1 : ∀ u ∈ news, u.oneCell' = true)
    (h63 : n + m ≤ maxLen) (hbytes : (n + m) * bytes ≤ 140737488355328) (hbase : base ≤ w.heap.size) :
    ∃ v' w', (Builtin.append_ #[t, t] ty #[v, .slice (some a) m c]).run P w = .ok v' w' ∧ AppPost w base e size v n xs m news v' w' := by
  obtain ⟨v', w', hrun, h2, h3, h4⟩ := run_append_own (P := P) w base t ty e i z size bytes ht hi hz hsize hby hzs hsz v n xs hown a m c news hl hnews h1 h63 hbytes hbase
  refine ⟨v', w', hrun, h2, keep_of_grown h3, ?_, h4⟩
  subst hsize
  subst hby
  have hsmall : n + m ≤ 9223372036854775807 := by simp only [maxLen] at h63; omega
  intro g hg
  rcases hown.2 with ⟨rfl, rfl⟩ | ⟨g0, cap, cur, rfl, hbg, hgg, hnc, hcm, hcs, htake⟩
  · by_cases hm : m = 0
    · have := h4.2 ⟨rfl, hm⟩
      subst this
      simp [Value.ownBlock] at hg
    · have hr := run_append_nil (P := P) w t ty e i z ht hi hz a m c news hl hnews (by omega) (by omega) (by have hb := hbytes; simp only [Nat.zero_add] at hb; omega)
      rw [hr] at hrun
      simp only [Result.ok.injEq] at hrun
      rw [← hrun.1] at hg
      simp [Value.ownBlock] at hg
      exact .inr (by omega)
  · by_cases hroom : n + m ≤ cap
    · have hfit : n * i.size + news.length ≤ cur.size := by rw [hl, hcs, ← Nat.add_mul]; exact Nat.mul_le_mul_right _ hroom
      have hr := run_append_room (P := P) w t ty e i ht hi g0 n cap cur hgg a m c news hl hnews h1 hroom hfit
      rw [hr] at hrun
      simp only [Result.ok.injEq] at hrun
      rw [← hrun.1] at hg
      exact .inl hg
    · have holds : ∀ j u, xs[j]? = some u → w.cell? ((⟨g0, 0, none⟩ : Addr).add j) = some u := hown.cells (g := g0) rfl
      have hr := run_append_grow (P := P) w t ty e i z ht hi hz ⟨g0, 0, none⟩ n cap xs hown.1 holds a m c news hl hnews (by omega) (by omega) (growslice_fits (by omega) hbytes)
      rw [hr] at hrun
      simp only [Result.ok.injEq] at hrun
      rw [← hrun.1] at hg
      simp [Value.ownBlock] at hg
      exact .inr (by omega)

/-- The same, whatever slice is appended: nil, empty, or one whose cells lie somewhere. -/
theorem run_append_sl (base : Nat) (t ty e : TypeId) (i : TypeInfo) (z : Value) (size bytes : Nat) (ht : P.underlying t = some (.slice e)) (hi : P.info? e = some i) (hz : i.zero = some z)
    (hsize : i.size = size) (hby : i.bytes = bytes) (hzs : z.cells.size = size) (hsz : 0 < size)
    (v : Value) (n : Nat) (xs : List Value) (hown : w.ownsRow base e size v n xs) (src : Value) (m : Nat) (news : List Value) (hs : SlAt w src m news) (hl : news.length = m * size) (h1 : ∀ u ∈ news, u.oneCell' = true)
    (h63 : n + m ≤ maxLen) (hbytes : (n + m) * bytes ≤ 140737488355328) (hbase : base ≤ w.heap.size) :
    ∃ v' w', (Builtin.append_ #[t, t] ty #[v, src]).run P w = .ok v' w' ∧ AppPost w base e size v n xs m news v' w' := by
  obtain ⟨ad, cap, rfl, ⟨h0, hnil⟩, hat⟩ := hs
  cases ad with
  | none =>
    have hm : m = 0 := Classical.byContradiction fun h => by obtain ⟨b, off, e, _⟩ := hat h; cases e
    subst hm
    obtain rfl := h0 rfl
    obtain rfl := hnil rfl
    refine ⟨v, w, run_append_owned_none (P := P) (w := w) base t ty e i size ht hi v n xs hown, by simpa using hown, Keep.refl _ _, fun g hg => .inl hg, by simp⟩
  | some a =>
    refine run_append_mine w base t ty e i z size bytes ht hi hz hsize hby hzs hsz v n xs hown a m cap news hl ?_ h1 h63 hbytes hbase
    intro j u hu
    have hm : m ≠ 0 := fun h => by rw [h0 h] at hu; simp at hu
    obtain ⟨b, off, e, hc⟩ := hat hm
    simp only [Option.some.injEq] at e
    subst e
    have := hc j u hu
    unfold Addr.add
    split
    · rename_i hj; subst hj; simpa using this
    · exact this

theorem wpList_append_sl {ops : Array Oper} {rest : List Oper} {o : Oper} {a : Act} {Q : Exit → Act → World → Prop}
    (hg : o.guard = none) (s x : Operand) (t : TypeId) (hop : o.op = Op.call { callee := Callee.builtin Builtin.append, args := #[s, x], argTypes := #[t, t] })
    (base : Nat) (e : TypeId) (i : TypeInfo) (z : Value) (size bytes : Nat) (h1 : P.underlying t = some (.slice e)) (h2 : P.info? e = some i) (h3 : i.zero = some z) (h4 : i.size = size) (h5 : i.bytes = bytes) (h6 : z.cells.size = size) (h7 : 0 < size)
    (v : Value) (k : Nat) (xs : List Value) (hs : a.eval s = v) (hown : w.ownsRow base e size v k xs) (src : Value) (m : Nat) (news : List Value) (hx : a.eval x = src) (hsl : SlAt w src m news) (hn : news.length = m * size)
    (h1c : ∀ u ∈ news, u.oneCell' = true) (b1 : k + m ≤ maxLen) (b2 : (k + m) * bytes ≤ 140737488355328) (b3 : base ≤ w.heap.size)
    (hK : ∀ v' w', AppPost w base e size v k xs m news v' w' → wpList P ops Q rest (a.put o.dst v') w') :
    wpList P ops Q (o :: rest) a w := by
  refine wpList_plain hg fun K hK' => ?_
  obtain ⟨v', w', hrun, r⟩ := run_append_sl (P := P) w base t o.type e i z size bytes h1 h2 h3 h4 h5 h6 h7 v k xs hown src m news hsl hn h1c b1 b2 b3
  unfold Oper.wp
  simp [execOp, hop, resolve, invoke, builtin, hs, hx, hrun, Result.andThen]
  exact hK' _ _ (hK v' w' r)

theorem wpListIn_append_mine {F : Fence} {n : Nat} {ops : Array Oper} {rest : List Oper} {o : Oper} {a : Act} {Q : Exit → Act → World → Prop}
    (hg : o.guard = none) (s x : Operand) (t : TypeId) (hop : o.op = Op.call { callee := Callee.builtin Builtin.append, args := #[s, x], argTypes := #[t, t] })
    (base : Nat) (e : TypeId) (i : TypeInfo) (z : Value) (size bytes : Nat) (h1 : P.underlying t = some (.slice e)) (h2 : P.info? e = some i) (h3 : i.zero = some z) (h4 : i.size = size) (h5 : i.bytes = bytes) (h6 : z.cells.size = size) (h7 : 0 < size)
    (v : Value) (k : Nat) (xs : List Value) (hs : a.eval s = v) (hown : w.ownsRow base e size v k xs) (ad : Addr) (m c : Nat) (news : List Value) (hx : a.eval x = .slice (some ad) m c) (hn : news.length = m * size)
    (hc : ∀ j u, news[j]? = some u → w.cell? (ad.add j) = some u) (h1c : ∀ u ∈ news, u.oneCell' = true) (b1 : k + m ≤ maxLen) (b2 : (k + m) * bytes ≤ 140737488355328) (b3 : base ≤ w.heap.size)
    (hK : ∀ v' w', AppPost w base e size v k xs m news v' w' → wpListIn F n P ops Q rest (a.put o.dst v') w') :
    wpListIn F n P ops Q (o :: rest) a w := by
  refine wpListIn_plain hg fun K hK' => ?_
  obtain ⟨v', w', hrun, r⟩ := run_append_mine (P := P) w base t o.type e i z size bytes h1 h2 h3 h4 h5 h6 h7 v k xs hown ad m c news hn hc h1c b1 b2 b3
  unfold Oper.wpIn
  refine ⟨?_, ?_⟩
  · simp [Oper.about, hop, resolve, Target.leads, Sem.run_pure]
  · rw [Oper.semAt_plain F _ _ (by rw [hop]; intro c hc'; cases hc')]
    simp [execOp, hop, resolve, invoke, builtin, hs, hx, hrun, Result.andThen]
    exact hK' _ _ (hK v' w' r)

theorem wpList_append_mine {ops : Array Oper} {rest : List Oper} {o : Oper} {a : Act} {Q : Exit → Act → World → Prop}
    (hg : o.guard = none) (s x : Operand) (t : TypeId) (hop : o.op = Op.call { callee := Callee.builtin Builtin.append, args := #[s, x], argTypes := #[t, t] })
    (base : Nat) (e : TypeId) (i : TypeInfo) (z : Value) (size bytes : Nat) (h1 : P.underlying t = some (.slice e)) (h2 : P.info? e = some i) (h3 : i.zero = some z) (h4 : i.size = size) (h5 : i.bytes = bytes) (h6 : z.cells.size = size) (h7 : 0 < size)
    (v : Value) (k : Nat) (xs : List Value) (hs : a.eval s = v) (hown : w.ownsRow base e size v k xs) (ad : Addr) (m c : Nat) (news : List Value) (hx : a.eval x = .slice (some ad) m c) (hn : news.length = m * size)
    (hc : ∀ j u, news[j]? = some u → w.cell? (ad.add j) = some u) (h1c : ∀ u ∈ news, u.oneCell' = true) (b1 : k + m ≤ maxLen) (b2 : (k + m) * bytes ≤ 140737488355328) (b3 : base ≤ w.heap.size)
    (hK : ∀ v' w', AppPost w base e size v k xs m news v' w' → wpList P ops Q rest (a.put o.dst v') w') :
    wpList P ops Q (o :: rest) a w := by
  refine wpList_plain hg fun K hK' => ?_
  obtain ⟨v', w', hrun, r⟩ := run_append_mine (P := P) w base t o.type e i z size bytes h1 h2 h3 h4 h5 h6 h7 v k xs hown ad m c news hn hc h1c b1 b2 b3
  unfold Oper.wp
  simp [execOp, hop, resolve, invoke, builtin, hs, hx, hrun, Result.andThen]
  exact hK' _ _ (hK v' w' r)
end

/-- The walk is stopped ahead of an append of slot x to slot s. -/
theorem park_append {P : Program} {ops : Array Oper} {rest : List Oper} {o : Oper} {a : Act} {w : World} {Q : Exit → Act → World → Prop} (s x : Nat) (tys : Array TypeId)
    (ho : o.op = .call { callee := .builtin .append, args := #[.tmp s, .tmp x], argTypes := tys }) (h : Hid (wpList P ops Q (o :: rest) a w)) : wpList P ops Q (o :: rest) a w := h
theorem AppPost.row0 {w w' : World} {base : Nat} {e : TypeId} {size m : Nat} {v v' : Value} {news : List Value} (h : AppPost w base e size v 0 [] m news v' w') : w'.ownsRow base e size v' m news := by simpa using h.1
theorem owns_cap {w : World} {base : Nat} {e : TypeId} {size n cap g : Nat} {xs : List Value} (h : w.ownsRow base e size (.slice (some ⟨g, 0, none⟩) n cap) n xs) : n ≤ cap := by
  rcases h.2 with ⟨h', _⟩ | ⟨g', cap', cur, h', _, _, hc, _⟩
  · cases h'
  · simp at h'; omega

/-- A variable in a box (block B) that holds a row of the call's own. -/
def BoxRow (B : Nat) (tb e : TypeId) (sz k : Nat) (xs : List Value) (fp : List Nat) (W : World) : Prop :=
  ∃ v, W.heap[B]? = some (.cells #[v] tb (0, 0)) ∧ W.ownsRow (B + 1) e sz v k xs ∧ (v = .slice none 0 0 ↔ k = 0) ∧ B ∈ fp ∧ (∀ g, v.ownBlock = some g → g ∈ fp)

theorem BoxRow.keep {B : Nat} {tb e : TypeId} {sz k : Nat} {xs : List Value} {fp S : List Nat} {W1 W2 : World} (h : BoxRow B tb e sz k xs fp W1) (hk : Keep S W1 W2) (hS : ∀ b ∈ S, b ∉ fp) : BoxRow B tb e sz k xs fp W2 := by
  obtain ⟨v, h1, h2, h3, h5, h6⟩ := h
  exact ⟨v, hk.at_ h1 (fun h => hS _ h h5), hk.owns h2 (fun g hg h => hS _ h (h6 g hg)), h3, h5, h6⟩

/-- Ahead of 'l = append(l, x)': what the box holds. -/
theorem BoxRow.box {B : Nat} {tb e : TypeId} {sz k : Nat} {xs : List Value} {fp : List Nat} {W : World} (h : BoxRow B tb e sz k xs fp W) :
    ∃ v, W.cell? ⟨B, 0, none⟩ = some v ∧ W.frozen? ⟨B, 0, none⟩ = false ∧ B < W.heap.size ∧ W.ownsRow (B + 1) e sz v k xs ∧ Hid (W.heap[B]? = some (.cells #[v] tb (0, 0)) ∧ (v = .slice none 0 0 ↔ k = 0) ∧ B ∈ fp ∧ (∀ g, v.ownBlock = some g → g ∈ fp)) := by
  obtain ⟨v, h1, h2, h3, h5, h6⟩ := h
  exact ⟨v, cell_of_one h1, free_of_one h1, lt_of_block h1, h2, h1, h3, h5, h6⟩

/-- Behind the append, ahead of the store into the box. -/
theorem BoxRow.appended {B : Nat} {tb e : TypeId} {sz k m : Nat} {xs news : List Value} {fp : List Nat} {W W1 W2 : World} {v v' : Value}
    (h : Hid (W.heap[B]? = some (.cells #[v] tb (0, 0)) ∧ (v = .slice none 0 0 ↔ k = 0) ∧ B ∈ fp ∧ (∀ g, v.ownBlock = some g → g ∈ fp))) (hrow : W.ownsRow (B + 1) e sz v k xs) (hW : Keep [] W W1)
    (hp : AppPost W1 (B + 1) e sz v k xs m news v' W2) (hm : 0 < m) :
    W2.cell? ⟨B, 0, none⟩ = some v ∧ W2.frozen? ⟨B, 0, none⟩ = false ∧ W.heap.size ≤ W2.heap.size ∧ (∃ g cap, v' = .slice (some ⟨g, 0, none⟩) (k + m) cap) ∧
    Hid (BoxRow B tb e sz (k + m) (xs ++ news) (v'.ownBlock.toList ++ fp) (W2.setCell ⟨B, 0, none⟩ v') ∧ Keep fp W (W2.setCell ⟨B, 0, none⟩ v') ∧ FromNew fp (v'.ownBlock.toList ++ fp) W) := by
  obtain ⟨h1, h3, h5, h6⟩ := h
  obtain ⟨p1, p2, p3, p4⟩ := hp
  have hge : ∀ g, v.ownBlock = some g → B + 1 ≤ g := fun g hg => (hrow.lt g hg).1
  have hge' : ∀ g, v'.ownBlock = some g → B + 1 ≤ g := fun g hg => (p1.lt g hg).1
  have hb1 : W1.heap[B]? = some (.cells #[v] tb (0, 0)) := hW.at_ h1 (by simp)
  have hb2 : W2.heap[B]? = some (.cells #[v] tb (0, 0)) := p2.at_ hb1 (by
    intro h; simp at h; have := hge _ h; omega)
  have hk2 : Keep fp W W2 := (hW.mono (L' := fp) (by simp)).trans p2 (by intro x hx; simp at hx; exact .inl (h6 _ hx))
  have hk3 : Keep fp W (W2.setCell ⟨B, 0, none⟩ v') := hk2.setCell (.inl h5) _
  refine ⟨cell_of_one hb2, free_of_one hb2, hk2.size, ?_, ⟨v', one_setCell hb2, ?_, ?_, ?_, ?_⟩, hk3, ?_⟩
  · rcases p1.2 with ⟨_, h0⟩ | ⟨g, cap, _, rfl, _⟩
    · omega
    · exact ⟨g, cap, rfl⟩
  · exact ownsRow_setCell_other p1 (fun e => by have := hge' _ e; simp at this; omega) _
  · rw [p4]; omega
  · simp [h5]
  · intro g hg; simp [hg]
  · intro b hb
    rcases List.mem_append.1 hb with h | h
    · simp at h
      rcases p3 b h with h' | h'
      · exact .inl (h6 b h')
      · exact .inr (Nat.le_trans hW.size h')
    · exact .inl h
end Go.Proofs.YtbidppjhenfjdaaGreatDoor
