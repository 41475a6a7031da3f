/-
  DiffOwn: the changes that Make and Invert tell are the caller's own memory, of any two texts: no condition.
-/
import Derived.Test.YtddbjclpmkelaaaAppend
import Derived.ArgAppend
import Derived.Test.YtddbjclpmkelaaaDL4
import Derived.Test.YtddbjclpmkelaaaRows
import Derived.Test.YtddbjclpmkelaaaOpen
import Derived.WalkKit
import Derived.ProofKit
import Derived.OpenShut
import Derived.ShutString
import Derived.ChangeOld
import Derived.Below
namespace Go.Proofs.Ytddbjclpmkelaaa
open Go.RowKit
set_option linter.unusedVariables false

theorem lots_lt {w : World} {base : Nat} {e : TypeId} {size n : Nat} {v : Value} {xs : List Value} (h : w.ownsRow base e size v n xs) {g : Nat} (hg : v.ownBlock = some g) : base ≤ g ∧ g < w.heap.size := by
  rcases h.2 with ⟨rfl, _⟩ | ⟨g', cap, cur, rfl, hb, hgg, _⟩
  · simp [Value.ownBlock] at hg
  · simp [Value.ownBlock] at hg; subst hg; exact ⟨hb, lt_of_block hgg⟩
theorem lots_mono {w : World} {base base' : Nat} {e : TypeId} {size n : Nat} {v : Value} {xs : List Value} (h : w.ownsRow base e size v n xs) (hb : base' ≤ base) : w.ownsRow base' e size v n xs := by
  refine ⟨h.1, ?_⟩
  rcases h.2 with h' | ⟨g, cap, cur, hv, hg, rest⟩
  · exact .inl h'
  · exact .inr ⟨g, cap, cur, hv, by omega, rest⟩
/-- A row's value. -/
theorem lots_form {w : World} {base : Nat} {e : TypeId} {size n : Nat} {v : Value} {xs : List Value} (h : w.ownsRow base e size v n xs) : ∃ ad cap, v = .slice ad n cap ∧ (n ≠ 0 → ∃ g, ad = some ⟨g, 0, none⟩) := by
  rcases h.2 with ⟨rfl, rfl⟩ | ⟨g, cap, cur, rfl, _⟩
  · exact ⟨none, 0, rfl, fun h => absurd rfl h⟩
  · exact ⟨_, cap, rfl, fun _ => ⟨g, rfl⟩⟩

/-- An append that tells whether the old cells are written: the block stays the same, or nothing that was there is written. -/
def AppTwo (w : World) (base : Nat) (e : TypeId) (size : Nat) (v : Value) (n : Nat) (xs : List Value) (m : Nat) (news : List Value) (v' : Value) (w' : World) : Prop :=
  AppPost w base e size v n xs m news v' w' ∧ (v'.ownBlock = v.ownBlock ∨ Keep [] w w')

section
variable {P : Program} (w : World)
theorem run_append_two (base : Nat) (t ty e : TypeId) (i : TypeInfo) (z : Value) (size bytes : Nat) (ht : P.underlying t = some (.slice e)) (hi : P.info? e = some i) (hz : i.zero = some z)
    (hsize : i.size = size) (hby : i.bytes = bytes) (hzs : z.cells.size = size) (hsz : 0 < size)
    (v : Value) (n : Nat) (xs : List Value) (hown : w.ownsRow base e size v n xs)
    (a : Addr) (m c : Nat) (news : List Value) (hl : news.length = m * size) (hnews : ∀ j u, news[j]? = some u → w.cell? (a.add j) = some u) (h1 : ∀ u ∈ news, u.oneCell' = true)
    (h63 : n + m ≤ maxLen) (hbytes : (n + m) * bytes ≤ 140737488355328) (hbase : base ≤ w.heap.size) :
    ∃ v' w', (Builtin.append_ #[t, t] ty #[v, .slice (some a) m c]).run P w = .ok v' w' ∧ AppTwo w base e size v n xs m news v' w' := by
  obtain ⟨v', w', hrun, hp⟩ := run_append_mine (P := P) w base t ty e i z size bytes ht hi hz hsize hby hzs hsz v n xs hown a m c news hl hnews h1 h63 hbytes hbase
  refine ⟨v', w', hrun, hp, ?_⟩
  rcases hown.2 with ⟨rfl, rfl⟩ | ⟨g0, cap, cur, rfl, hbg, hgg, hnc, hcm, hcs, htake⟩
  · right; exact hp.2.1
  · subst hsize
    by_cases hroom : n + m ≤ cap
    · left
      have hfit : n * i.size + news.length ≤ cur.size := by rw [hl, hcs, ← Nat.add_mul]; exact Nat.mul_le_mul_right _ hroom
      have hr := run_append_room (P := P) w t ty e i ht hi g0 n cap cur hgg a m c news hl hnews h1 hroom hfit
      rw [hr] at hrun
      simp only [Result.ok.injEq] at hrun
      rw [← hrun.1]; rfl
    · right
      have holds : ∀ j u, xs[j]? = some u → w.cell? ((⟨g0, 0, none⟩ : Addr).add j) = some u := hown.cells (g := g0) rfl
      obtain ⟨v2, w2, hrun2, _, hg⟩ := run_append_arg_grows (P := P) w t ty e i z i.size bytes ht hi hz rfl hby hzs hsz ⟨g0, 0, none⟩ n cap xs hown.1 holds a m c news hl hnews (by omega) h63 hbytes
      rw [hrun2] at hrun
      simp only [Result.ok.injEq] at hrun
      rw [← hrun.2]
      exact (Keep.refl [] w).grown hg (by intro k hk; cases hk)

theorem wpList_append_two {ops : Array Oper} {rest : List Oper} {o : Oper} {a : Act} {Q : Exit → Act → World → Prop}
    (hg : o.guard = none) (s x : Operand) (t : TypeId) (hop : o.op = Op.call { callee := Callee.builtin Builtin.append, args := #[s, x], argTypes := #[t, t] })
    (base : Nat) (e : TypeId) (i : TypeInfo) (z : Value) (size bytes : Nat) (h1 : P.underlying t = some (.slice e)) (h2 : P.info? e = some i) (h3 : i.zero = some z) (h4 : i.size = size) (h5 : i.bytes = bytes) (h6 : z.cells.size = size) (h7 : 0 < size)
    (v : Value) (k : Nat) (xs : List Value) (hs : a.eval s = v) (hown : w.ownsRow base e size v k xs) (ad : Addr) (m c : Nat) (news : List Value) (hx : a.eval x = .slice (some ad) m c) (hn : news.length = m * size)
    (hc : ∀ j u, news[j]? = some u → w.cell? (ad.add j) = some u) (h1c : ∀ u ∈ news, u.oneCell' = true) (b1 : k + m ≤ maxLen) (b2 : (k + m) * bytes ≤ 140737488355328) (b3 : base ≤ w.heap.size)
    (hK : ∀ v' w', AppTwo w base e size v k xs m news v' w' → wpList P ops Q rest (a.put o.dst v') w') :
    wpList P ops Q (o :: rest) a w := by
  refine wpList_plain hg fun K hK' => ?_
  obtain ⟨v', w', hrun, r⟩ := run_append_two (P := P) w base t o.type e i z size bytes h1 h2 h3 h4 h5 h6 h7 v k xs hown ad m c news hn hc h1c b1 b2 b3
  unfold Oper.wp
  simp [execOp, hop, resolve, invoke, builtin, hs, hx, hrun, Result.andThen]
  exact hK' _ _ (hK v' w' r)
end

/-- A row: its type, its size, its value, its length, its cells. -/
structure Rw where
  e : TypeId
  sz : Nat
  v : Value
  n : Nat
  cs : List Value
def Rw.Own (r : Rw) (w : World) (base : Nat) : Prop := w.ownsRow base r.e r.sz r.v r.n r.cs
/-- Rows of the call's own, no two in one block. -/
structure Lots (w : World) (base : Nat) (rs : List Rw) : Prop where
  own : ∀ (i : Nat) (r : Rw), rs[i]? = some r → r.Own w base
  apart : ∀ (i j : Nat) (r r' : Rw) (g : Nat), rs[i]? = some r → rs[j]? = some r' → r.v.ownBlock = some g → r'.v.ownBlock = some g → i = j
/-- A block that no row holds. -/
def Dead (w : World) (rs : List Rw) (g : Nat) : Prop := (∀ (i : Nat) (r : Rw), rs[i]? = some r → r.v.ownBlock ≠ some g) ∧ g < w.heap.size
/-- What one step does to one row. -/
structure Turns (w : World) (base : Nat) (r r' : Rw) (w' : World) : Prop where
  keep : Keep r.v.ownBlock.toList w w'
  own : r'.Own w' base
  blk : ∀ g, r'.v.ownBlock = some g → r.v.ownBlock = some g ∨ w.heap.size ≤ g

namespace Lots
variable {w w' : World} {base : Nat} {rs : List Rw} {r r' : Rw} {p : Nat}
theorem nil (w : World) (base : Nat) : Lots w base [] := ⟨fun i r h => by simp at h, fun i j r r' g h => by simp at h⟩
theorem one (h : r.Own w base) : Lots w base [r] := by
  have key : ∀ (i : Nat) (x : Rw), [r][i]? = some x → i = 0 ∧ x = r := fun i x hx => by
    cases i with
    | zero => simp at hx; exact ⟨rfl, hx.symm⟩
    | succ i => simp at hx
  exact ⟨fun i x hx => by rw [(key i x hx).2]; exact h, fun i j x y g hx hy _ _ => by rw [(key i x hx).1, (key j y hy).1]⟩
theorem lt (h : Lots w base rs) (hr : rs[p]? = some r) {g : Nat} (hg : r.v.ownBlock = some g) : base ≤ g ∧ g < w.heap.size := lots_lt (h.own p r hr) hg
theorem keep0 (h : Lots w base rs) (k : Keep [] w w') : Lots w' base rs := ⟨fun i r hr => k.owns (h.own i r hr) (by simp), h.apart⟩
theorem told (h : Lots w base rs) (hb : base ≤ w.heap.size) (k : Keep [] w w') (ho : r.Own w' w.heap.size) : Lots w' base (rs ++ [r]) := by
  have key : ∀ (i : Nat) (x : Rw), (rs ++ [r])[i]? = some x → rs[i]? = some x ∨ (i = rs.length ∧ x = r) := fun i x hx => by
    rw [List.getElem?_append] at hx
    split at hx
    · exact .inl hx
    · rename_i hi
      right
      cases hd : i - rs.length with
      | zero => rw [hd] at hx; simp at hx; exact ⟨by omega, hx.symm⟩
      | succ d => rw [hd] at hx; simp at hx
  refine ⟨fun i x hx => ?_, fun i j x y g hx hy hgx hgy => ?_⟩
  · rcases key i x hx with h' | ⟨_, rfl⟩
    · exact k.owns (h.own i x h') (by simp)
    · exact lots_mono ho hb
  · rcases key i x hx with hx' | ⟨hi', rfl⟩
    · rcases key j y hy with hy' | ⟨hj', rfl⟩
      · exact h.apart i j x y g hx' hy' hgx hgy
      · have := (h.lt hx' hgx).2
        have := (lots_lt ho hgy).1
        omega
    · rcases key j y hy with hy' | ⟨hj', hyr⟩
      · have := (h.lt hy' hgy).2
        have := (lots_lt ho hgx).1
        omega
      · omega
theorem other (h : Lots w base rs) (hp : rs[p]? = some r) {i : Nat} {x : Rw} (hi : rs[i]? = some x) (hip : i ≠ p) {g : Nat} (hg : x.v.ownBlock = some g) : g ∉ r.v.ownBlock.toList := by
  intro hm
  simp at hm
  exact hip (h.apart i p x r g hi hp hg hm)
theorem set (h : Lots w base rs) (hp : rs[p]? = some r) (t : Turns w base r r' w') : Lots w' base (rs.set p r') := by
  have hlt : p < rs.length := (List.getElem?_eq_some_iff.1 hp).1
  have hno : ∀ (i : Nat) (x : Rw) (g : Nat), i ≠ p → rs[i]? = some x → x.v.ownBlock = some g → r'.v.ownBlock ≠ some g := by
    intro i x g hip hx hg hg'
    rcases t.blk g hg' with h' | h'
    · exact hip (h.apart i p x r g hx hp hg h')
    · have := (h.lt hx hg).2; omega
  refine ⟨fun i x hx => ?_, fun i j x y g hx hy hgx hgy => ?_⟩
  · by_cases hip : i = p
    · subst hip
      rw [List.getElem?_set_self hlt] at hx
      cases hx; exact t.own
    · rw [List.getElem?_set_ne (fun e => hip e.symm)] at hx
      exact t.keep.owns (h.own i x hx) (fun g hg => h.other hp hx hip hg)
  · by_cases hip : i = p
    · subst hip
      rw [List.getElem?_set_self hlt] at hx
      cases hx
      by_cases hjp : j = i
      · exact hjp.symm
      · rw [List.getElem?_set_ne (fun e => hjp e.symm)] at hy
        exact absurd hgx (hno j y g hjp hy hgy)
    · rw [List.getElem?_set_ne (fun e => hip e.symm)] at hx
      by_cases hjp : j = p
      · subst hjp
        rw [List.getElem?_set_self hlt] at hy
        cases hy
        exact absurd hgy (hno i x g hip hx hgx)
      · rw [List.getElem?_set_ne (fun e => hjp e.symm)] at hy
        exact h.apart i j x y g hx hy hgx hgy
/-- The block that a row leaves. -/
theorem orphan (h : Lots w base rs) (hp : rs[p]? = some r) (t : Turns w base r r' w') {g : Nat} (hg : r.v.ownBlock = some g) (hn : r'.v.ownBlock ≠ some g) : Dead w' (rs.set p r') g := by
  have hlt : p < rs.length := (List.getElem?_eq_some_iff.1 hp).1
  refine ⟨fun i x hx => ?_, Nat.lt_of_lt_of_le (h.lt hp hg).2 t.keep.size⟩
  by_cases hip : i = p
  · subst hip
    rw [List.getElem?_set_self hlt] at hx
    cases hx; exact hn
  · rw [List.getElem?_set_ne (fun e => hip e.symm)] at hx
    intro hgx
    exact hip (h.apart i p x r g hx hp hgx hg)
end Lots
namespace Dead
variable {w w' : World} {base : Nat} {rs : List Rw} {r r' : Rw} {p g : Nat}
theorem keep0 (h : Dead w rs g) (k : Keep [] w w') : Dead w' rs g := ⟨h.1, Nat.lt_of_lt_of_le h.2 k.size⟩
theorem told (h : Dead w rs g) (k : Keep [] w w') (ho : r.Own w' w.heap.size) : Dead w' (rs ++ [r]) g := by
  refine ⟨fun i x hx => ?_, Nat.lt_of_lt_of_le h.2 k.size⟩
  rw [List.getElem?_append] at hx
  split at hx
  · exact h.1 i x hx
  · cases hd : i - rs.length with
    | zero =>
      rw [hd] at hx; simp at hx; subst hx
      intro hg
      have := (lots_lt ho hg).1
      have := h.2
      omega
    | succ d => rw [hd] at hx; simp at hx
theorem set (h : Dead w rs g) (hp : rs[p]? = some r) (t : Turns w base r r' w') : Dead w' (rs.set p r') g := by
  have hlt : p < rs.length := (List.getElem?_eq_some_iff.1 hp).1
  refine ⟨fun i x hx => ?_, Nat.lt_of_lt_of_le h.2 t.keep.size⟩
  by_cases hip : i = p
  · subst hip
    rw [List.getElem?_set_self hlt] at hx
    cases hx
    intro hg
    rcases t.blk g hg with h' | h'
    · exact h.1 i r hp h'
    · have := h.2; omega
  · rw [List.getElem?_set_ne (fun e => hip e.symm)] at hx
    exact h.1 i x hx
theorem cell (h : Dead w rs g) (hp : rs[p]? = some r) (t : Turns w base r r' w') {i : Nat} {u : Value} (hc : w.cell? ⟨g, i, none⟩ = some u) : w'.cell? ⟨g, i, none⟩ = some u :=
  t.keep.cellv hc (by intro hm; simp at hm; exact h.1 p r hp hm)
end Dead
/-- An append, as a step. -/
theorem AppTwo.turns {w w1 w' : World} {base : Nat} {e : TypeId} {sz n m : Nat} {v v' : Value} {xs news : List Value} (k : Keep [] w w1) (h : AppTwo w1 base e sz v n xs m news v' w') :
    Turns w base ⟨e, sz, v, n, xs⟩ ⟨e, sz, v', n + m, xs ++ news⟩ w' ∧ (v'.ownBlock = v.ownBlock ∨ Keep [] w w') := by
  obtain ⟨⟨p1, p2, p3, p4⟩, h2⟩ := h
  refine ⟨⟨(k.mono (L' := v.ownBlock.toList) (by simp)).trans' p2, p1, fun g hg => ?_⟩, h2.imp id (fun h => k.trans0 h)⟩
  rcases p3 g hg with h' | h'
  · exact .inl h'
  · exact .inr (Nat.le_trans k.size h')
theorem AppPost.turns {w w1 w' : World} {base : Nat} {e : TypeId} {sz n m : Nat} {v v' : Value} {xs news : List Value} (k : Keep [] w w1) (h : AppPost w1 base e sz v n xs m news v' w') :
    Turns w base ⟨e, sz, v, n, xs⟩ ⟨e, sz, v', n + m, xs ++ news⟩ w' := by
  obtain ⟨p1, p2, p3, p4⟩ := h
  refine ⟨(k.mono (L' := v.ownBlock.toList) (by simp)).trans' p2, p1, fun g hg => ?_⟩
  rcases p3 g hg with h' | h'
  · exact .inl h'
  · exact .inr (Nat.le_trans k.size h')
/-- A store, as a step. -/
theorem store_turns {w : World} {base g n cap : Nat} {e : TypeId} {sz : Nat} {xs : List Value} (h : w.ownsRow base e sz (.slice (some ⟨g, 0, none⟩) n cap) n xs) (j : Nat) (u : Value) :
    Turns w base ⟨e, sz, .slice (some ⟨g, 0, none⟩) n cap, n, xs⟩ ⟨e, sz, .slice (some ⟨g, 0, none⟩) n cap, n, xs.set j u⟩ (w.setCell ⟨g, j, none⟩ u) :=
  ⟨(Keep.refl _ w).setCell (.inl (by simp [Value.ownBlock])) u, (h.stored j u).1, fun g' hg' => .inl hg'⟩
end Go.Proofs.Ytddbjclpmkelaaa
namespace Go.Proofs.Ytddbjclpmkelaaa
open Go.RowKit
set_option linter.unusedVariables false

/-- A row of rows. -/
def lsRow (s : Value) (vs : List Value) : Rw := ⟨23, 1, s, vs.length, vs⟩
def edRow (v : Value) (n : Nat) (cs : List Value) : Rw := ⟨32, 3, v, n, cs⟩
/-- The first m Edits' Keep is a. -/
def Head (r : Rw) (m : Nat) (a : Int) : Prop := ∀ t, t < m → r.cs[t * 3]? = some (.int .i64 a)
def IsEd (r : Rw) : Prop := ∃ v n cs, r = edRow v n cs ∧ n ≤ 1000
/-- The list that was there, behind an append: its cells. -/
def OldV (W : World) (all : List Rw) (r : Rw) (n : Nat) (a : Int) (v : Value) : Prop :=
  ∃ ad cap, v = .slice ad n cap ∧ (n ≠ 0 → ∃ g, ad = some ⟨g, 0, none⟩ ∧ (r.v.ownBlock = some g ∨ (Dead W all g ∧ ∀ t, t < n → W.cell? ⟨g, t * 3, none⟩ = some (.int .i64 a))))
/-- Row j, of which k are appended; v: the list that was there, of n. -/
structure Row4 (W : World) (all : List Rw) (j k n : Nat) (v : Value) (r : Rw) : Prop where
  ed : r.e = 32 ∧ r.sz = 3 ∧ n ≤ 1000
  len : r.n = n + k
  head : Head r n (100 + j)
  tail : ∀ t, n ≤ t → t < n + k → r.cs[t * 3]? = some (.int .i64 (200 + j))
  old : OldV W all r n (100 + j) v

namespace Row4
variable {W W' : World} {all : List Rw} {base j k n p : Nat} {v : Value} {r r' x x' : Rw}
theorem keep0 (h : Row4 W all j k n v r) (kp : Keep [] W W') : Row4 W' all j k n v r := by
  obtain ⟨h1, h2, h3, h4, ad, cap, h5, h6⟩ := h
  refine ⟨h1, h2, h3, h4, ad, cap, h5, fun hn => ?_⟩
  obtain ⟨g, hg, hb⟩ := h6 hn
  exact ⟨g, hg, hb.imp id (fun ⟨hd, hc⟩ => ⟨hd.keep0 kp, fun t ht => kp.cellv (hc t ht) (by simp)⟩)⟩
/-- A step of another row. -/
theorem set (h : Row4 W all j k n v r) (hp : all[p]? = some x) (t : Turns W base x x' W') : Row4 W' (all.set p x') j k n v r := by
  obtain ⟨h1, h2, h3, h4, ad, cap, h5, h6⟩ := h
  refine ⟨h1, h2, h3, h4, ad, cap, h5, fun hn => ?_⟩
  obtain ⟨g, hg, hb⟩ := h6 hn
  exact ⟨g, hg, hb.imp id (fun ⟨hd, hc⟩ => ⟨hd.set hp t, fun s hs => hd.cell hp t (hc s hs)⟩)⟩
/-- One more Edit is appended to the row. -/
theorem more (hL : Lots W base all) (h : Row4 W all j k n v r) (hp : all[p]? = some r) {v' : Value} {u : Value}
    (hl : r.cs.length = r.n * 3) (t : Turns W base r ⟨r.e, r.sz, v', r.n + 1, r.cs ++ [.int .i64 (200 + j), .int .i64 0, u]⟩ W') (h2 : v'.ownBlock = r.v.ownBlock ∨ Keep [] W W') :
    Row4 W' (all.set p ⟨r.e, r.sz, v', r.n + 1, r.cs ++ [.int .i64 (200 + j), .int .i64 0, u]⟩) j (k + 1) n v ⟨r.e, r.sz, v', r.n + 1, r.cs ++ [.int .i64 (200 + j), .int .i64 0, u]⟩ := by
  obtain ⟨h1, hlen, h3, h4, ad, cap, h5, h6⟩ := h
  refine ⟨h1, by simp only; omega, fun s hs => ?_, fun s h7 h8 => ?_, ad, cap, h5, fun hn => ?_⟩
  · have := h3 s hs
    simp only
    rw [List.getElem?_append_left (by omega)]
    exact this
  · simp only
    by_cases hs : s < n + k
    · rw [List.getElem?_append_left (by omega)]
      exact h4 s h7 hs
    · obtain rfl : s = n + k := by omega
      rw [List.getElem?_append_right (by omega), show (n + k) * 3 - r.cs.length = 0 by omega]
      rfl
  · obtain ⟨g, hg, hb⟩ := h6 hn
    refine ⟨g, hg, ?_⟩
    rcases hb with hb | ⟨hd, hc⟩
    · by_cases hv : v'.ownBlock = some g
      · exact .inl hv
      · right
        refine ⟨hL.orphan hp t hb hv, fun s hs => ?_⟩
        rcases h2 with h2 | h2
        · exact absurd (h2.trans hb) hv
        · have ho := hL.own p r hp
          obtain ⟨a2, c2, hv2, hg2⟩ := lots_form ho
          obtain ⟨g2, hg2⟩ := hg2 (by omega)
          have h9 : r.v = .slice (some ⟨g, 0, none⟩) r.n c2 := by
            rw [hv2, hg2] at hb ⊢
            simp [Value.ownBlock] at hb
            rw [hb]
          unfold Rw.Own at ho
          rw [h9] at ho
          have h10 := ho.cellAt (s * 3) (by rw [h1.2.1]; omega)
          rw [h3 s hs] at h10
          exact h2.cellv h10 (by simp)
    · exact .inr ⟨hd.set hp t, fun s hs => hd.cell hp t (hc s hs)⟩
/-- What is read at the end. -/
theorem reads (hL : Lots W base all) (h : Row4 W all j k n v r) (hp : all[p]? = some r) (hk : 0 < k) :
    (∃ ad cap, v = .slice ad n cap ∧ (n ≠ 0 → ∃ g, ad = some ⟨g, 0, none⟩ ∧ ∀ t, t < n → W.cell? ⟨g, t * 3, none⟩ = some (.int .i64 (100 + j)))) ∧
    ∃ g cap, r.v = .slice (some ⟨g, 0, none⟩) (n + k) cap ∧ (∀ t, t < n → W.cell? ⟨g, t * 3, none⟩ = some (.int .i64 (100 + j))) ∧ ∀ t, n ≤ t → t < n + k → W.cell? ⟨g, t * 3, none⟩ = some (.int .i64 (200 + j)) := by
  obtain ⟨h1, hlen, h3, h4, ad, cap, h5, h6⟩ := h
  have ho := hL.own p r hp
  obtain ⟨a2, c2, hv2, hg2⟩ := lots_form ho
  obtain ⟨g2, rfl⟩ := hg2 (by omega)
  unfold Rw.Own at ho
  rw [hv2] at ho
  have c1 : ∀ t, t < n → W.cell? ⟨g2, t * 3, none⟩ = some (.int .i64 (100 + j)) := fun t ht => by
    rw [ho.cellAt (t * 3) (by rw [h1.2.1]; omega)]; exact h3 t ht
  refine ⟨⟨ad, cap, h5, fun hn => ?_⟩, g2, c2, by rw [hv2, hlen], c1, fun t h7 h8 => ?_⟩
  · obtain ⟨g, hg, hb⟩ := h6 hn
    refine ⟨g, hg, ?_⟩
    rcases hb with hb | ⟨hd, hc⟩
    · rw [hv2] at hb
      simp [Value.ownBlock] at hb
      rw [← hb]; exact c1
    · exact hc
  · rw [ho.cellAt (t * 3) (by rw [h1.2.1]; omega)]; exact h4 t h7 h8
/-- At the start. -/
theorem start {ad : Option Addr} {cap : Nat} (h1 : r.e = 32 ∧ r.sz = 3 ∧ r.n ≤ 1000) (ho : r.Own W base) (h3 : Head r r.n (100 + j)) : Row4 W all j 0 r.n r.v r := by
  obtain ⟨a2, c2, hv2, hg2⟩ := lots_form ho
  refine ⟨h1, rfl, h3, fun t h4 h5 => by omega, a2, c2, hv2, fun hn => ?_⟩
  obtain ⟨g, rfl⟩ := hg2 hn
  exact ⟨g, rfl, .inl (by rw [hv2]; rfl)⟩
end Row4
end Go.Proofs.Ytddbjclpmkelaaa
namespace Go.Proofs.Ytddbjclpmkelaaa
open Go.RowKit
set_option linter.unusedVariables false
set_option linter.unusedSimpArgs false

theorem invL_le : ∀ (l : List EdV) (gs : List (List Int)), (invL l gs).length ≤ l.length
  | [], _ => by simp [invL]
  | e :: l, [] => by simp [invL]
  | e :: l, g :: gs => by simp only [invL, List.length_cons]; have := invL_le l gs; omega
theorem invOut_le (a : ByteArray) (l : List EdV) : (invOut a l).2.length ≤ l.length := by
  unfold invOut; split
  · exact invL_le _ _
  · simp
/-- What Make answers, as far as the law needs it. -/
theorem mk_nums (a b : ByteArray) : ((mkOut a b).2.map edv).length ≤ 1000 ∧ ∀ e ∈ (mkOut a b).2.map edv, -9223372036854775808 ≤ e.1 ∧ e.1 ≤ 9223372036854775807 ∧ -9223372036854775808 ≤ e.2.1 ∧ e.2.1 ≤ 9223372036854775807 ∧ e.2.2.size ≤ 10000 := by
  unfold mkOut
  split
  · rename_i h
    split
    · rename_i h2
      have := least_facts (a := a) (b := b) (by omega) (by omega) h2.1 h2.2
      exact ⟨this.len, this.nums⟩
    · exact ⟨by simp, by simp⟩
  · exact ⟨by simp, by simp⟩
/-- What a call leaves that answers a new script and a number: its row. -/
theorem NewEdV.row {k : IntKind} {o : Int × List EdV} {w : World} {r : Ending} {w' : World} (h : NewEdV k o w r w') :
    ∃ ad cap, r = .returned (.tuple #[.slice ad o.2.length cap, .int k o.1]) ∧ EdAt w' (.slice ad o.2.length cap) o.2 ∧ (edRow (.slice ad o.2.length cap) o.2.length (edvCells o.2)).Own w' w.heap.size ∧ Keep [] w w' := by
  obtain ⟨v, rfl, ho, hk, _⟩ := h
  have he := EdAt.of_owns ho
  obtain ⟨ad, cap, rfl⟩ := he.form
  exact ⟨ad, cap, rfl, he, ho, hk⟩
theorem NewEds.row {k : IntKind} {c : Int} {l : List Ed} {w : World} {r : Ending} {w' : World} (h : NewEds k c l w r w') :
    ∃ ad cap, r = .returned (.tuple #[.slice ad (l.map edv).length cap, .int k c]) ∧ EdAt w' (.slice ad (l.map edv).length cap) (l.map edv) ∧ (edRow (.slice ad (l.map edv).length cap) (l.map edv).length (edvCells (l.map edv))).Own w' w.heap.size ∧ Keep [] w w' := by
  obtain ⟨v, rfl, ho, hk, _⟩ := h
  rw [edCells_edv] at ho
  have ho2 : w'.ownsRow w.heap.size 32 3 v (l.map edv).length (edvCells (l.map edv)) := by rw [List.length_map]; exact ho
  have he := EdAt.of_owns ho2
  obtain ⟨ad, cap, rfl⟩ := he.form
  exact ⟨ad, cap, rfl, he, ho2, hk⟩
theorem info_edits : (Try.prog.info? 23).map (fun i => (i.zero, i.size, i.bytes)) = some (some (.slice none 0 0), 1, 24) := by kernel_rfl
/-- The rows ahead of the first append to 'more'. -/
structure Own1 (w1 : World) (s : Value) (rs : List Rw) (W : World) : Prop where
  kp : Keep [] w1 W
  lots : Lots W w1.heap.size (lsRow s (rs.map Rw.v) :: lsRow (.slice none 0 0) [] :: rs)
  ed : ∀ r ∈ rs, IsEd r
theorem Own1.begin (w1 : World) : Own1 w1 (.slice none 0 0) [] w1 := by
  have hn : ∀ W : World, (lsRow (.slice none 0 0) []).Own W w1.heap.size := fun W => World.ownsRow_nil W _ _ _
  refine ⟨Keep.refl _ _, ⟨fun i r hr => ?_, fun i j r r' g hr _ hg _ => ?_⟩, by simp⟩
  · match i, hr with
    | 0, hr => simp at hr; subst hr; exact hn _
    | 1, hr => simp at hr; subst hr; exact hn _
  · match i, hr with
    | 0, hr => simp at hr; subst hr; simp [lsRow, Value.ownBlock] at hg
    | 1, hr => simp at hr; subst hr; simp [lsRow, Value.ownBlock] at hg
theorem Own1.keep0 {w1 W W' : World} {s : Value} {rs : List Rw} (h : Own1 w1 s rs W) (k : Keep [] W W') : Own1 w1 s rs W' := ⟨h.kp.trans0 k, h.lots.keep0 k, h.ed⟩
/-- Two more lists. -/
theorem Own1.two {w1 W W2 W3 W4 W5 : World} {s s' : Value} {rs : List Rw} {r1 r2 : Rw} (h : Own1 w1 s rs W) (k1 : Keep [] W W2) (o1 : r1.Own W2 W.heap.size) (e1 : IsEd r1) (k2 : Keep [] W2 W3) (o2 : r2.Own W3 W2.heap.size) (e2 : IsEd r2) (k3 : Keep [] W3 W4)
    (hp : AppPost W4 w1.heap.size 23 1 s rs.length (rs.map Rw.v) 2 [r1.v, r2.v] s' W5) : Own1 w1 s' (rs ++ [r1, r2]) W5 := by
  have l1 := h.lots.told h.kp.size k1 o1
  have l2 := l1.told (h.kp.trans0 k1).size k2 o2
  have ht := (hp.turns (Keep.refl _ _))
  have l3 := l2.keep0 k3
  have hlen : (rs.map Rw.v).length = rs.length := List.length_map ..
  have l4 := l3.set (p := 0) (r := lsRow s (rs.map Rw.v)) rfl (r' := lsRow s' (rs.map Rw.v ++ [r1.v, r2.v])) (by
    have : lsRow s (rs.map Rw.v) = ⟨23, 1, s, rs.length, rs.map Rw.v⟩ := by unfold lsRow; rw [hlen]
    rw [this]
    have h2 : lsRow s' (rs.map Rw.v ++ [r1.v, r2.v]) = ⟨23, 1, s', rs.length + 2, rs.map Rw.v ++ [r1.v, r2.v]⟩ := by unfold lsRow; rw [List.length_append, hlen]; rfl
    rw [h2]; exact ht)
  have hk := ((h.kp.trans0 k1).trans0 k2).trans0 k3
  refine ⟨hk.trans hp.2.1 (fun x hx => ?_), ?_, ?_⟩
  · right
    exact (l3.lt (p := 0) rfl (g := x) (by simpa [lsRow] using hx)).1
  · have : rs.map Rw.v ++ [r1.v, r2.v] = (rs ++ [r1, r2]).map Rw.v := by simp
    rw [← this]
    simpa using l4
  · intro r hr
    rcases List.mem_append.1 hr with hr | hr
    · exact h.ed r hr
    · simp at hr
      rcases hr with rfl | rfl
      · exact e1
      · exact e2

theorem List.set_getElem?_same {α : Type} {l : List α} {k : Nat} {x : α} (h : l[k]? = some x) : l.set k x = l := by
  obtain ⟨hk, rfl⟩ := List.getElem?_eq_some_iff.1 h
  exact List.set_getElem_self hk
namespace Own1
variable {w1 W W' : World} {s : Value} {rs : List Rw} {i : Nat}
/-- The list of the lists. -/
theorem form (h : Own1 w1 s rs W) (hn : rs.length = 6) : ∃ L cap, s = .slice (some ⟨L, 0, none⟩) 6 cap := by
  have ho := h.lots.own 0 _ rfl
  obtain ⟨ad, cap, hv, hg⟩ := lots_form ho
  have h6 : (lsRow s (rs.map Rw.v)).n = 6 := by show (rs.map Rw.v).length = 6; rw [List.length_map]; exact hn
  rw [h6] at hv hg
  obtain ⟨L, rfl⟩ := hg (by omega)
  exact ⟨L, cap, hv⟩
theorem cell {L cap : Nat} (h : Own1 w1 (.slice (some ⟨L, 0, none⟩) 6 cap) rs W) (hn : rs.length = 6) {r : Rw} (hr : rs[i]? = some r) : W.cell? ⟨L, i, none⟩ = some r.v := by
  have ho := h.lots.own 0 _ rfl
  unfold Rw.Own lsRow at ho
  rw [List.length_map, hn] at ho
  have hi := (List.getElem?_eq_some_iff.1 hr).1
  rw [ho.cellAt i (show i < 6 * 1 by omega), List.getElem?_map, hr]; rfl
/-- A list. -/
theorem row (h : Own1 w1 s rs W) {r : Rw} (hr : rs[i]? = some r) : ∃ ad n cap cs, r = edRow (.slice ad n cap) n cs ∧ n ≤ 1000 ∧ cs.length = n * 3 ∧ W.ownsRow w1.heap.size 32 3 (.slice ad n cap) n cs ∧ (n ≠ 0 → ∃ g, ad = some ⟨g, 0, none⟩) := by
  obtain ⟨v, n, cs, rfl, hn⟩ := h.ed r (List.mem_of_getElem? hr)
  have ho := h.lots.own (i + 2) (edRow v n cs) hr
  obtain ⟨ad, cap, hv, hg⟩ := lots_form ho
  have hv' : v = .slice ad n cap := hv
  subst hv'
  exact ⟨ad, n, cap, cs, rfl, hn, ho.1, ho, hg⟩
/-- A step of one list, whose value and length stay. -/
theorem step (h : Own1 w1 s rs W) {v : Value} {n : Nat} {cs cs' : List Value} (hr : rs[i]? = some (edRow v n cs)) (t : Turns W w1.heap.size (edRow v n cs) (edRow v n cs') W') : Own1 w1 s (rs.set i (edRow v n cs')) W' := by
  have hmap : (rs.set i (edRow v n cs')).map Rw.v = rs.map Rw.v := by
    rw [List.map_set]
    exact List.set_getElem?_same (by rw [List.getElem?_map, hr]; rfl)
  have hn : n ≤ 1000 := by
    obtain ⟨v2, n2, cs2, he, hn⟩ := h.ed _ (List.mem_of_getElem? hr)
    cases he; exact hn
  refine ⟨h.kp.trans t.keep (fun x hx => ?_), ?_, ?_⟩
  · right
    exact (h.lots.lt (p := i + 2) (r := edRow v n cs) hr (g := x) (by simpa using hx)).1
  · rw [hmap]
    exact h.lots.set (p := i + 2) (r := edRow v n cs) hr t
  · intro r hr'
    rcases List.mem_or_eq_of_mem_set hr' with h' | rfl
    · exact h.ed r h'
    · exact ⟨v, n, cs', rfl, hn⟩
end Own1
/-- An Edit is written over: three stores. -/
theorem store3 {W : World} {base g cap n k : Nat} {cs : List Value} (h : W.ownsRow base 32 3 (.slice (some ⟨g, 0, none⟩) n cap) n cs) (hk : k < n) (a : Int) (u : Value) :
    (∃ x, W.cell? ⟨g, k * 3, none⟩ = some x) ∧ W.frozen? ⟨g, k * 3, none⟩ = false ∧
    (∃ x, (W.setCell ⟨g, k * 3, none⟩ (.int .i64 a)).cell? ⟨g, k * 3 + 1, none⟩ = some x) ∧ (W.setCell ⟨g, k * 3, none⟩ (.int .i64 a)).frozen? ⟨g, k * 3 + 1, none⟩ = false ∧
    (∃ x, ((W.setCell ⟨g, k * 3, none⟩ (.int .i64 a)).setCell ⟨g, k * 3 + 1, none⟩ (.int .i64 0)).cell? ⟨g, k * 3 + 2, none⟩ = some x) ∧ ((W.setCell ⟨g, k * 3, none⟩ (.int .i64 a)).setCell ⟨g, k * 3 + 1, none⟩ (.int .i64 0)).frozen? ⟨g, k * 3 + 2, none⟩ = false ∧
    Turns W base (edRow (.slice (some ⟨g, 0, none⟩) n cap) n cs) (edRow (.slice (some ⟨g, 0, none⟩) n cap) n (((cs.set (k * 3) (.int .i64 a)).set (k * 3 + 1) (.int .i64 0)).set (k * 3 + 2) u))
      (((W.setCell ⟨g, k * 3, none⟩ (.int .i64 a)).setCell ⟨g, k * 3 + 1, none⟩ (.int .i64 0)).setCell ⟨g, k * 3 + 2, none⟩ u) := by
  have h1 := (h.stored (k * 3) (.int .i64 a)).1
  have h2 := (h1.stored (k * 3 + 1) (.int .i64 0)).1
  have h3 := (h2.stored (k * 3 + 2) u).1
  have l0 := h.1
  have l1 := h1.1
  have l2 := h2.1
  refine ⟨⟨_, (h.cellAt (k * 3) (by omega)).trans (List.getElem?_eq_getElem (by omega))⟩, h.frozenAt _, ⟨_, (h1.cellAt (k * 3 + 1) (by omega)).trans (List.getElem?_eq_getElem (by omega))⟩, h1.frozenAt _,
    ⟨_, (h2.cellAt (k * 3 + 2) (by omega)).trans (List.getElem?_eq_getElem (by omega))⟩, h2.frozenAt _, ?_, h3, fun g' hg' => .inl hg'⟩
  have hg : g ∈ ((edRow (.slice (some ⟨g, 0, none⟩) n cap) n cs).v.ownBlock.toList) := by simp [edRow, Value.ownBlock]
  exact (((Keep.refl _ W).setCell (.inl hg) _).setCell (.inl hg) _).setCell (.inl hg) _
theorem head3 {v : Value} {n k : Nat} {cs : List Value} {a : Int} {u : Value} (h : Head (edRow v n cs) k a) (hl : k * 3 < cs.length) : Head (edRow v n (((cs.set (k * 3) (.int .i64 a)).set (k * 3 + 1) (.int .i64 0)).set (k * 3 + 2) u)) (k + 1) a := by
  intro t ht
  show (((cs.set (k * 3) (.int .i64 a)).set (k * 3 + 1) (.int .i64 0)).set (k * 3 + 2) u)[t * 3]? = _
  rw [List.getElem?_set_ne (by omega), List.getElem?_set_ne (by omega)]
  by_cases htk : t = k
  · subst htk
    exact List.getElem?_set_self hl
  · rw [List.getElem?_set_ne (by omega)]
    exact h t (by omega)
end Go.Proofs.Ytddbjclpmkelaaa
namespace Go.Proofs.Ytddbjclpmkelaaa
open Go.RowKit
set_option linter.unusedVariables false
set_option linter.unusedSimpArgs false

/-- Of row j it is known: an Edit's row, all Keep 100 + j. -/
def Heads (rs0 : List Rw) : Prop := ∀ (j : Nat) (r : Rw), rs0[j]? = some r → IsEd r ∧ Head r r.n (100 + j)
/-- While row k is gone on from: q Edits are appended. m: the list of those that are done. -/
structure Own3 (w1 : World) (s m : Value) (rs0 : List Rw) (k q : Nat) (rs : List Rw) (W : World) : Prop where
  kp : Keep [] w1 W
  lots : Lots W w1.heap.size (lsRow s (rs0.map Rw.v) :: lsRow m ((rs.take k).map Rw.v) :: rs)
  len : rs.length = rs0.length
  done : ∀ (j : Nat) (r0 r : Rw), j < k → rs0[j]? = some r0 → rs[j]? = some r → Row4 W (lsRow s (rs0.map Rw.v) :: lsRow m ((rs.take k).map Rw.v) :: rs) j 20 r0.n r0.v r
  cur : ∀ (r0 r : Rw), rs0[k]? = some r0 → rs[k]? = some r → Row4 W (lsRow s (rs0.map Rw.v) :: lsRow m ((rs.take k).map Rw.v) :: rs) k q r0.n r0.v r
  rest : ∀ (j : Nat), k < j → rs[j]? = rs0[j]?
  same : q = 0 → rs[k]? = rs0[k]?

theorem isEd_ed {r : Rw} (h : IsEd r) : r.e = 32 ∧ r.sz = 3 ∧ r.n ≤ 1000 := by
  obtain ⟨v, n, cs, rfl, hn⟩ := h
  exact ⟨rfl, rfl, hn⟩
namespace Own3
variable {w1 W W1 W' : World} {s m m' : Value} {rs0 rs : List Rw} {k q : Nat}
theorem begin (h : Own1 w1 s rs0 W) (hh : Heads rs0) : Own3 w1 s (.slice none 0 0) rs0 0 0 rs0 W := by
  refine ⟨h.kp, by simpa using h.lots, rfl, fun j r0 r hj => by omega, fun r0 r h0 h1 => ?_, fun j _ => rfl, fun _ => rfl⟩
  rw [h0] at h1
  cases h1
  obtain ⟨a, b⟩ := hh 0 r0 h0
  exact Row4.start (ad := none) (cap := 0) (isEd_ed a) (h.lots.own 2 r0 h0) b
theorem keep0 (h : Own3 w1 s m rs0 k q rs W) (kp : Keep [] W W') : Own3 w1 s m rs0 k q rs W' :=
  ⟨h.kp.trans0 kp, h.lots.keep0 kp, h.len, fun j r0 r hj h0 h1 => (h.done j r0 r hj h0 h1).keep0 kp, fun r0 r h0 h1 => (h.cur r0 r h0 h1).keep0 kp, h.rest, h.same⟩
/-- Row k's value. -/
theorem row (h : Own3 w1 s m rs0 k q rs W) (hk : k < rs0.length) : ∃ ad n cap cs, rs[k]? = some ⟨32, 3, .slice ad n cap, n, cs⟩ ∧ n ≤ 1000 + q ∧ W.ownsRow w1.heap.size 32 3 (.slice ad n cap) n cs := by
  have hl : k < rs.length := by rw [h.len]; exact hk
  have hr := List.getElem?_eq_getElem hl
  have h4 := h.cur _ _ (List.getElem?_eq_getElem hk) hr
  have ho := h.lots.own (k + 2) _ hr
  obtain ⟨ad, cap, hv, hg⟩ := lots_form ho
  obtain ⟨e1, e2, e3⟩ := h4.ed
  have hn := h4.len
  generalize rs[k] = r at *
  obtain ⟨e, sz, v, n, cs⟩ := r
  simp only at e1 e2 hv hn
  subst e1 e2 hv
  exact ⟨ad, n, cap, cs, hr, by omega, ho⟩
/-- One more Edit. -/
theorem more (h : Own3 w1 s m rs0 k q rs W) {ad : Option Addr} {n cap : Nat} {cs : List Value} (hr : rs[k]? = some ⟨32, 3, .slice ad n cap, n, cs⟩) (kp : Keep [] W W1) {v' u : Value}
    (hp : AppTwo W1 w1.heap.size 32 3 (.slice ad n cap) n cs 1 [.int .i64 (200 + k), .int .i64 0, u] v' W') : ∃ rs', Own3 w1 s m rs0 k (q + 1) rs' W' ∧ rs'[k]? = some ⟨32, 3, v', n + 1, cs ++ [.int .i64 (200 + k), .int .i64 0, u]⟩ := by
  obtain ⟨ht, h2⟩ := hp.turns kp
  have hl : k < rs.length := (List.getElem?_eq_some_iff.1 hr).1
  have ho := h.lots.own (k + 2) _ hr
  have hcl : cs.length = n * 3 := ho.1
  have htk : ∀ x, (rs.set k x).take k = rs.take k := fun x => by
    rw [List.take_set_of_le (Nat.le_refl k)]
  have hall : ∀ x : Rw, (lsRow s (rs0.map Rw.v) :: lsRow m ((rs.take k).map Rw.v) :: rs).set (k + 2) x = lsRow s (rs0.map Rw.v) :: lsRow m (((rs.set k x).take k).map Rw.v) :: rs.set k x := fun x => by
    rw [htk]; rfl
  refine ⟨rs.set k _, ⟨h.kp.trans ht.keep (fun x hx => ?_), ?_, by rw [List.length_set]; exact h.len, fun j r0 r hj h0 h1 => ?_, fun r0 r h0 h1 => ?_, fun j hj => ?_, fun h => by omega⟩, List.getElem?_set_self hl⟩
  · right
    exact (h.lots.lt (p := k + 2) hr (g := x) (by simpa using hx)).1
  · rw [← hall]
    exact h.lots.set (p := k + 2) hr ht
  · rw [← hall]
    rw [List.getElem?_set_ne (by omega)] at h1
    exact (h.done j r0 r hj h0 h1).set (p := k + 2) hr ht
  · rw [← hall]
    rw [List.getElem?_set_self hl] at h1
    cases h1
    exact (h.cur r0 _ h0 hr).more h.lots (p := k + 2) hr hcl ht h2
  · rw [List.getElem?_set_ne (by omega)]
    exact h.rest j hj
/-- A row is done. -/
theorem next (h : Own3 w1 s m rs0 k 20 rs W) (hh : Heads rs0) {r : Rw} (hr : rs[k]? = some r) (kp : Keep [] W W1)
    (hp : AppPost W1 w1.heap.size 23 1 m k ((rs.take k).map Rw.v) 1 [r.v] m' W') : Own3 w1 s m' rs0 (k + 1) 0 rs W' := by
  have hl : k < rs.length := (List.getElem?_eq_some_iff.1 hr).1
  have ht := hp.turns kp
  have hlen : ((rs.take k).map Rw.v).length = k := by rw [List.length_map, List.length_take]; omega
  have htk : (rs.take (k + 1)).map Rw.v = (rs.take k).map Rw.v ++ [r.v] := by rw [List.take_add_one, hr]; simp
  have e1 : lsRow m ((rs.take k).map Rw.v) = ⟨23, 1, m, k, (rs.take k).map Rw.v⟩ := by unfold lsRow; rw [hlen]
  have e2 : lsRow m' ((rs.take (k + 1)).map Rw.v) = ⟨23, 1, m', k + 1, (rs.take k).map Rw.v ++ [r.v]⟩ := by
    unfold lsRow; rw [htk, List.length_append, hlen]; rfl
  have hp1 : (lsRow s (rs0.map Rw.v) :: lsRow m ((rs.take k).map Rw.v) :: rs)[1]? = some ⟨23, 1, m, k, (rs.take k).map Rw.v⟩ := by rw [← e1]; rfl
  have hall : (lsRow s (rs0.map Rw.v) :: lsRow m ((rs.take k).map Rw.v) :: rs).set 1 ⟨23, 1, m', k + 1, (rs.take k).map Rw.v ++ [r.v]⟩ = lsRow s (rs0.map Rw.v) :: lsRow m' ((rs.take (k + 1)).map Rw.v) :: rs := by rw [e2]; rfl
  have hl2 := h.lots.set hp1 ht
  rw [hall] at hl2
  refine ⟨h.kp.trans ht.keep (fun x hx => ?_), hl2, h.len, fun j r0 x hj h0 h1 => ?_, fun r0 x h0 h1 => ?_, fun j hj => h.rest j (by omega), fun _ => h.rest (k + 1) (by omega)⟩
  · right
    exact (h.lots.lt hp1 (g := x) (by simpa using hx)).1
  · rw [← hall]
    by_cases hjk : j < k
    · exact (h.done j r0 x hjk h0 h1).set hp1 ht
    · obtain rfl : j = k := by omega
      exact (h.cur r0 x h0 h1).set hp1 ht
  · rw [h.rest (k + 1) (by omega)] at h1
    rw [h0] at h1
    cases h1
    obtain ⟨a, b⟩ := hh (k + 1) r0 h0
    have hx : rs[k + 1]? = some r0 := by rw [h.rest (k + 1) (by omega)]; exact h0
    exact Row4.start (ad := none) (cap := 0) (isEd_ed a) (hl2.own (k + 3) r0 hx) b
/-- The list of the lists: a cell of it. -/
theorem cell {L cap : Nat} (h : Own3 w1 (.slice (some ⟨L, 0, none⟩) 6 cap) m rs0 k q rs W) (hn : rs0.length = 6) {j : Nat} {r0 : Rw} (hr : rs0[j]? = some r0) : W.cell? ⟨L, j, none⟩ = some r0.v := by
  have ho := h.lots.own 0 _ rfl
  unfold Rw.Own lsRow at ho
  rw [List.length_map, hn] at ho
  have hi := (List.getElem?_eq_some_iff.1 hr).1
  rw [ho.cellAt j (show j < 6 * 1 by omega), List.getElem?_map, hr]; rfl
/-- At the end: the list of those that are done. -/
theorem form (h : Own3 w1 s m rs0 6 q rs W) (hn : rs0.length = 6) : ∃ M cap, m = .slice (some ⟨M, 0, none⟩) 6 cap := by
  have ho := h.lots.own 1 _ rfl
  obtain ⟨ad, cap, hv, hg⟩ := lots_form ho
  have h6 : (lsRow m ((rs.take 6).map Rw.v)).n = 6 := by show ((rs.take 6).map Rw.v).length = 6; rw [List.length_map, List.length_take, h.len, hn]; rfl
  rw [h6] at hv hg
  obtain ⟨L, rfl⟩ := hg (by omega)
  exact ⟨L, cap, hv⟩
/-- What is read of row j at the end. -/
theorem ends {M cap : Nat} (h : Own3 w1 s (.slice (some ⟨M, 0, none⟩) 6 cap) rs0 6 q rs W) (hn : rs0.length = 6) (hh : Heads rs0) {j : Nat} (hj : j < 6) :
    ∃ (r0 : Rw) (g c n : Nat) (ad : Option Addr) (c0 : Nat), rs0[j]? = some r0 ∧ n ≤ 1000 ∧ r0.v = .slice ad n c0 ∧ (n ≠ 0 → ∃ g0, ad = some ⟨g0, 0, none⟩ ∧ ∀ t, t < n → W.cell? ⟨g0, t * 3, none⟩ = some (.int .i64 (100 + j))) ∧
      W.cell? ⟨M, j, none⟩ = some (.slice (some ⟨g, 0, none⟩) (n + 20) c) ∧ (∀ t, t < n → W.cell? ⟨g, t * 3, none⟩ = some (.int .i64 (100 + j))) ∧ ∀ t, n ≤ t → t < n + 20 → W.cell? ⟨g, t * 3, none⟩ = some (.int .i64 (200 + j)) := by
  have hl : j < rs0.length := by omega
  have hl2 : j < rs.length := by rw [h.len]; exact hl
  have h0 := List.getElem?_eq_getElem hl
  have h1 := List.getElem?_eq_getElem hl2
  have h4 := h.done j _ _ hj h0 h1
  obtain ⟨⟨ad, c0, e1, e2⟩, g, c, e3, e4, e5⟩ := h4.reads h.lots (p := j + 2) h1 (by decide)
  obtain ⟨a, _⟩ := hh j _ h0
  refine ⟨_, g, c, _, ad, c0, h0, (isEd_ed a).2.2, e1, e2, ?_, e4, e5⟩
  have ho := h.lots.own 1 _ rfl
  unfold Rw.Own lsRow at ho
  rw [List.length_map, List.length_take, h.len, hn] at ho
  rw [show min 6 6 = 6 from rfl] at ho
  rw [ho.cellAt j (show j < 6 * 1 by omega), List.getElem?_map, List.getElem?_take, if_pos hj, h1, ← e3]; rfl
end Own3
end Go.Proofs.Ytddbjclpmkelaaa
namespace Go.Proofs.Ytddbjclpmkelaaa
open Go.RowKit
set_option linter.unusedVariables false
set_option linter.unusedSimpArgs false

set_option maxRecDepth 100000 in
set_option maxHeartbeats 16000000 in
theorem diffOwn_walk (a b : ByteArray) (w : World) (hsa : a.size ≤ maxLen) (hsb : b.size ≤ maxLen) :
    Calls Try.prog 8 #[.string a, .string b] w fun e w' => e = .returned (.bool true) ∧ Keep [] w w' := by
  unfold maxLen at hsa hsb
  by_cases hza : a.size ≤ 1200
  · have hzd : ¬ ((1200 : Int) < (a.size : Int)) := by omega
    by_cases hzb : b.size ≤ 1200
    · have hzl : ¬ ((1200 : Int) < (b.size : Int)) := by omega
      have M := Lib.hid (fun W => (make_any a b W (by omega) (by omega)).mono (fun _ _ h => h.row))
      obtain ⟨hnl, hnn⟩ := mk_nums a b
      have IV := Lib.hid (fun W v (h : EdAt W v ((mkOut a b).2.map edv)) => (invert_any a v _ W h hnl (by omega) hnn).mono (fun _ _ h => h.row))
      have hil := invOut_le a ((mkOut a b).2.map edv)
      generalize (invOut a ((mkOut a b).2.map edv)) = iv at *
      obtain ⟨ic, il⟩ := iv
      simp only at IV hil
      generalize (mkOut a b).1 = mc at *
      generalize (mkOut a b).2.map edv = l at *
      clear hnn
      obtain ⟨n, hn⟩ : ∃ n, n = l.length := ⟨_, rfl⟩
      obtain ⟨m, hm⟩ : ∃ m, m = il.length := ⟨_, rfl⟩
      rw [← hn] at hnl hil M
      rw [← hm] at hil IV
      have HN := Lib.hid hn; have HM := Lib.hid hm; clear hn hm
      have ED : ∀ W va vb, EdAt W va l → EdAt W vb l → Calls Try.prog 13 #[va, vb] W fun e w' => e = .returned (.bool true) ∧ Keep [] W w' := fun W va vb h1 h2 => edits_true va vb l W h1 h2 (by rw [← HN.out]; omega)
      have HED := Lib.hid ED; clear ED
      have HEL : Hid (∀ ad cap, IsEd (edRow (.slice ad n cap) n (edvCells l))) := Lib.hid (fun ad cap => ⟨_, _, _, rfl, by omega⟩)
      have HEI : Hid (∀ ad cap, IsEd (edRow (.slice ad m cap) m (edvCells il))) := Lib.hid (fun ad cap => ⟨_, _, _, rfl, by omega⟩)
      obtain ⟨i0, hi, hz0, hz1, hz2⟩ := info_parts info_edit
      have HI := Lib.hid hi; have HZ0 := Lib.hid hz0; have HZ1 := Lib.hid hz1; have HZ2 := Lib.hid hz2
      clear hi hz0 hz1 hz2
      obtain ⟨j0, hi, hz0, hz1, hz2⟩ := info_parts info_edits
      have JI := Lib.hid hi; have JZ0 := Lib.hid hz0; have JZ1 := Lib.hid hz1; have JZ2 := Lib.hid hz2
      clear hi hz0 hz1 hz2
      go_enter Try.func8, Try.ntmps8
      go_wp2_with fail
      refine (M.out _).mono ?_
      rintro r w1 ⟨ad1, c1, rfl, e1, _, k1⟩
      have K1 := Lib.hid k1; have E1 := Lib.hid e1; clear k1 e1
      go_wp2
      go_loopw [7, 8] (fun s i wr => ∃ (k : Nat) (rs : List Rw), k ≤ 3 ∧ i = .int .i64 k ∧ rs.length = 2 * k ∧ Own1 w1 s rs wr) (fun _ i _ => 3 - (intOf i).toNat)
      case atStart => exact ⟨0, [], by omega, rfl, rfl, Own1.begin w1⟩
      case round =>
        obtain ⟨k, rs, hk, rfl, hrl, ho⟩ := hrel
        have O := Lib.hid ho; have HRL := Lib.hid hrl; clear ho hrl
        by_cases hlt : k < 3
        · have hltd : decide ((k : Int) < 3) = true := by simp; omega
          go_wp2_with fail
          refine (M.out _).mono ?_
          rintro r w2 ⟨ad2, c2, rfl, e2, o2, k2⟩
          have K2 := Lib.hid k2; have E2 := Lib.hid e2; have O2 := Lib.hid o2; have E12 := Lib.hid (E1.out.keep0 (O.out.kp.trans0 k2)); clear k2 e2 o2
          go_wp2_with fail
          refine (IV.out _ _ E12.out).mono ?_
          rintro r w3 ⟨ad3, c3, rfl, _, o3, k3⟩
          have K3 := Lib.hid k3; have E3 := Lib.hid (E2.out.keep0 k3); have O3 := Lib.hid o3; have E13 := Lib.hid (E12.out.keep0 k3); clear k3 o3 E12 E2
          go_wp2_with fail
          refine (HED.out _ _ _ E3.out E13.out).mono ?_
          rintro r w4 ⟨rfl, k4⟩
          have K4 := Lib.hid k4; clear k4 E3 E13
          have hrow := (((O.out.keep0 K2.out).keep0 K3.out).keep0 K4.out)
          have hrow0 := hrow.lots.own 0 _ rfl
          unfold Rw.Own lsRow at hrow0
          rw [List.length_map] at hrow0
          have HROW := Lib.hid hrow0
          have hsz := Lib.hid hrow.kp.size
          clear hrow hrow0
          go_wp2_with (with_reducible refine park_append 59 62 _ rfl ?_)
          refine wpList_append_mine _ rfl (.tmp 59) (.tmp 62) 48 rfl w1.heap.size 23 j0 (.slice none 0 0) 1 24 Try.underlying48 JI.out JZ0.out JZ1.out JZ2.out rfl (by decide) _ rs.length _ rfl (HROW.out.alloc _) ⟨w4.heap.size, 0, none⟩ 2 2 [.slice ad2 n c2, .slice ad3 m c3] rfl rfl (cell_new_row _ _ _) (by simp [Value.oneCell']) (by have := HRL.out; unfold maxLen; omega) (by have := HRL.out; omega) (by have := hsz.out; simp; omega) ?_
          intro s' w5 hp
          have HO5 := Lib.hid (O.out.two K2.out O2.out (HEL.out ad2 c2) K3.out O3.out (HEI.out ad3 c3) (K4.out.alloc _) hp)
          clear hp
          go_wp2
          exact ⟨⟨k + 1, _, by omega, by go_num, by rw [List.length_append, HRL.out]; simp; omega, HO5.out⟩, by simp [intOf]; omega⟩
        · have hltd : decide ((k : Int) < 3) = false := by simp; omega
          have hk3 : k = 3 := by omega
          subst hk3
          rw [show ((3 : Nat) : Int) = 3 from rfl]
          obtain ⟨L, cl, rfl⟩ := O.out.form (by have := HRL.out; omega)
          obtain ⟨vs, hvs⟩ : ∃ vs, vs = rs.map Rw.v := ⟨_, rfl⟩
          have HVS := Lib.hid hvs; clear hvs
          go_wp2
          go_loopw [13, 14] (fun i _ W => ∃ (k : Nat) (rs : List Rw), k ≤ 6 ∧ i = .int .i64 k ∧ rs.length = 6 ∧ rs.map Rw.v = vs ∧ Own1 w1 (.slice (some ⟨L, 0, none⟩) 6 cl) rs W ∧ ∀ j r, j < k → rs[j]? = some r → Head r r.n (100 + j)) (fun i _ _ => 6 - (intOf i).toNat)
          case atStart => exact ⟨0, rs, by omega, rfl, HRL.out, HVS.out.symm, O.out, fun j r hj => by omega⟩
          case round =>
            clear O HRL HVS hlt hltd hk
            rename World => wo
            obtain ⟨i, rs, hi, rfl, hrl, hvs, ho, hh⟩ := hrel
            have O := Lib.hid ho; have HRL := Lib.hid hrl; have HVS := Lib.hid hvs; have HH := Lib.hid hh; clear ho hrl hvs hh
            by_cases hlt : i < 6
            · have hltd : decide ((i : Int) < 6) = true := by simp; omega
              obtain ⟨r, hr⟩ : ∃ r, rs[i]? = some r := ⟨_, List.getElem?_eq_getElem (by have := HRL.out; omega)⟩
              have hcell := O.out.cell HRL.out hr
              obtain ⟨ad, m, cap, cs, rfl, hm, hcl, hown, hg⟩ := O.out.row hr
              have HR := Lib.hid hr; have HG := Lib.hid hg; have HCL := Lib.hid hcl; clear hr hg hcl hown
              replace hcell : wo.cell? ⟨L, i, none⟩ = some (.slice ad m cap) := hcell
              go_wp2
              go_loopw [14] (fun kk W => ∃ (k : Nat) (cs' : List Value), k ≤ m ∧ kk = .int .i64 k ∧ Own1 w1 (.slice (some ⟨L, 0, none⟩) 6 cl) (rs.set i (edRow (.slice ad m cap) m cs')) W ∧ Head (edRow (.slice ad m cap) m cs') k (100 + i)) (fun kk _ => m - (intOf kk).toNat)
              case atStart => exact ⟨0, cs, by omega, rfl, by rw [List.set_getElem?_same HR.out]; exact O.out, fun t ht => by omega⟩
              case round =>
                clear hcell O
                obtain ⟨k, cs', hk, rfl, ho, hhd⟩ := hrel
                have O := Lib.hid ho; have HD := Lib.hid hhd; clear ho hhd
                have hil : i < rs.length := by have := HRL.out; omega
                have hr' := List.getElem?_set_self (a := edRow (.slice ad m cap) m cs') hil
                have hcell := O.out.cell (by rw [List.length_set]; exact HRL.out) hr'
                replace hcell : wr.cell? ⟨L, i, none⟩ = some (.slice ad m cap) := hcell
                by_cases hkm : k < m
                · have hkd : decide (k < m) = true := by simpa using hkm
                  obtain ⟨g, rfl⟩ := HG.out (by omega)
                  obtain ⟨ad', n', cap', cs2, he, _, hcl, hown, _⟩ := O.out.row hr'
                  cases he
                  obtain ⟨⟨x0, y0⟩, f0, ⟨x1, y1⟩, f1, ⟨x2, y2⟩, f2, hT⟩ := store3 hown hkm (100 + (i : Int)) (.string ⟨#[]⟩)
                  have HT := Lib.hid (O.out.step hr' hT)
                  have HD2 := Lib.hid (head3 (u := .string ⟨#[]⟩) HD.out (by omega : k * 3 < cs'.length))
                  rw [List.set_set] at HT
                  clear hT hown hr'
                  go_wp2
                  exact ⟨⟨k + 1, _, by omega, by go_num, HT.out, HD2.out⟩, by simp [intOf]; omega⟩
                · have hkd : decide (k < m) = false := by simpa using hkm
                  obtain rfl : k = m := by omega
                  have HFIN : Hid ((rs.set i (edRow (.slice ad k cap) k cs')).map Rw.v = vs ∧ ∀ j r, j < i + 1 → (rs.set i (edRow (.slice ad k cap) k cs'))[j]? = some r → Head r r.n (100 + j)) := Lib.hid ⟨by
                    rw [List.map_set, ← HVS.out]
                    exact List.set_getElem?_same (by rw [List.getElem?_map, HR.out]; rfl), fun j r hj h => by
                    by_cases hji : j = i
                    · subst hji
                      rw [List.getElem?_set_self hil] at h
                      cases h
                      exact HD.out
                    · rw [List.getElem?_set_ne (fun e => hji e.symm)] at h
                      exact HH.out j r (by omega) h⟩
                  clear hr'
                  go_wp2
                  exact ⟨⟨i + 1, _, by omega, by go_num, by rw [List.length_set]; exact HRL.out, HFIN.out.1, O.out, HFIN.out.2⟩, by simp [intOf]; omega⟩
            · have hltd : decide ((i : Int) < 6) = false := by simp; omega
              obtain rfl : i = 6 := by omega
              rw [show ((6 : Nat) : Int) = 6 from rfl]
              clear hlt hi
              have HHH : Hid (Heads rs) := Lib.hid (fun j r hr => ⟨O.out.ed r (List.mem_of_getElem? hr), HH.out j r (by have := (List.getElem?_eq_some_iff.1 hr).1; have := HRL.out; omega) hr⟩)
              have OB := Lib.hid (Own3.begin O.out HHH.out)
              clear O HH HVS hltd
              go_wp2
              go_loopw [15, 16] (fun sl i W => ∃ (k : Nat) (rs' : List Rw) (mv : Value), k ≤ 6 ∧ i = .int .i64 k ∧ mv = sl ∧ Own3 w1 (.slice (some ⟨L, 0, none⟩) 6 cl) mv rs k 0 rs' W) (fun _ i _ => 6 - (intOf i).toNat)
              case atStart => exact ⟨0, rs, _, by omega, rfl, rfl, OB.out⟩
              case round =>
                clear OB
                rename World => wo3
                obtain ⟨k, rs', mv, hk, rfl, rfl, ho⟩ := hrel
                have O := Lib.hid ho; clear ho
                by_cases hlt : k < 6
                · have hltd : decide ((k : Int) < 6) = true := by simp; omega
                  obtain ⟨r0, hr0⟩ : ∃ r, rs[k]? = some r := ⟨_, List.getElem?_eq_getElem (by have := HRL.out; omega)⟩
                  obtain ⟨ad, n0, cap, cs, hr1, hn0, _⟩ := O.out.row (by have := HRL.out; omega)
                  have hr2 := (O.out.same rfl).symm.trans hr1
                  rw [hr0] at hr2
                  obtain rfl := Option.some.inj hr2
                  have hcell := O.out.cell HRL.out hr0
                  replace hcell : wo3.cell? ⟨L, k, none⟩ = some (.slice ad n0 cap) := hcell
                  have HR1 := Lib.hid hr1
                  clear hr1 hr2 hr0
                  go_wp2
                  go_loopw [17, 18] (fun g i W => ∃ (q : Nat) (rs' : List Rw) (ad : Option Addr) (c : Nat) (cs' : List Value), q ≤ 20 ∧ i = .int .i64 q ∧ g = .slice ad (n0 + q) c ∧ Own3 w1 (.slice (some ⟨L, 0, none⟩) 6 cl) mv rs k q rs' W ∧ rs'[k]? = some ⟨32, 3, .slice ad (n0 + q) c, n0 + q, cs'⟩) (fun _ i _ => 20 - (intOf i).toNat)
                  case atStart => exact ⟨0, rs', ad, cap, cs, by omega, rfl, rfl, O.out, HR1.out⟩
                  case round =>
                    clear hcell O HR1
                    rename World => wq
                    obtain ⟨q, rs2, ad, c, cs', hq, rfl, rfl, ho, hr⟩ := hrel
                    have O := Lib.hid ho; have HR := Lib.hid hr
                    have hown := ho.lots.own (k + 2) _ hr
                    replace hown : wq.ownsRow w1.heap.size 32 3 (.slice ad (n0 + q) c) (n0 + q) cs' := hown
                    have HO := Lib.hid hown
                    have hsz := ho.kp.size
                    clear ho hr hown
                    by_cases hql : q < 20
                    · have hqd : decide ((q : Int) < 20) = true := by simp; omega
                      obtain ⟨N, hN⟩ : ∃ N, N = n0 + q := ⟨_, rfl⟩
                      have HN := Lib.hid hN
                      have hNle : N ≤ 1020 := by omega
                      rw [← hN] at HR HO ⊢
                      clear hN
                      go_wp2_with (with_reducible refine park_append 102 106 _ rfl ?_)
                      refine wpList_append_two _ rfl (.tmp 102) (.tmp 106) 23 rfl w1.heap.size 32 i0 (.agg #[.int .i64 0, .int .i64 0, .string ByteArray.empty]) 3 32 Try.underlying23 HI.out HZ0.out HZ1.out HZ2.out rfl (by decide) _ N _ rfl (HO.out.alloc _) ⟨wq.heap.size, 0, none⟩ 1 1 [.int .i64 (200 + k), .int .i64 0, .string ByteArray.empty] rfl rfl (cell_new_row _ _ _) (by simp [Value.oneCell']) (by unfold maxLen; omega) (by omega) (by simp; omega) ?_
                      intro v' W' hp
                      have hmore := O.out.more HR.out ((Keep.refl _ _).alloc _) hp
                      obtain ⟨ad2, c2, hv2, _⟩ := lots_form hp.1.1
                      subst hv2
                      obtain ⟨rs3, ho3, hr3⟩ := hmore
                      rw [HN.out, Nat.add_assoc] at hr3 ⊢
                      have HO3 := Lib.hid ho3; have HR3 := Lib.hid hr3
                      clear hp ho3 hr3
                      go_wp2
                      exact ⟨⟨q + 1, rs3, ad2, c2, _, by omega, by go_num, rfl, HO3.out, HR3.out⟩, by simp [intOf]; omega⟩
                    · have hqd : decide ((q : Int) < 20) = false := by simp; omega
                      obtain rfl : q = 20 := by omega
                      rw [show ((20 : Nat) : Int) = 20 from rfl]
                      obtain ⟨ad3, mc3, hm3, _⟩ := lots_form (O.out.lots.own 1 _ rfl)
                      have hmo := O.out.lots.own 1 _ rfl
                      unfold Rw.Own lsRow at hmo
                      have hlk : ((rs2.take k).map Rw.v).length = k := by rw [List.length_map, List.length_take, O.out.len, HRL.out]; omega
                      rw [hlk] at hmo
                      have HMO := Lib.hid hmo
                      obtain ⟨N, hN⟩ : ∃ N, N = n0 + 20 := ⟨_, rfl⟩
                      rw [← hN] at HR HO ⊢
                      clear hmo hm3 hN hlk
                      go_wp2_with (with_reducible refine park_append 108 110 _ rfl ?_)
                      refine wpList_append_mine _ rfl (.tmp 108) (.tmp 110) 48 rfl w1.heap.size 23 j0 (.slice none 0 0) 1 24 Try.underlying48 JI.out JZ0.out JZ1.out JZ2.out rfl (by decide) _ k _ rfl (HMO.out.alloc _) ⟨wq.heap.size, 0, none⟩ 1 1 [.slice ad N c] rfl rfl (cell_new_row _ _ _) (by simp [Value.oneCell']) (by unfold maxLen; omega) (by omega) (by simp; omega) ?_
                      intro v' W' hp
                      have HO3 := Lib.hid (O.out.next HHH.out HR.out ((Keep.refl _ _).alloc _) hp)
                      clear hp
                      go_wp2
                      exact ⟨⟨k + 1, rs2, _, by omega, by go_num, rfl, HO3.out⟩, by simp [intOf]; omega⟩
                · have hltd : decide ((k : Int) < 6) = false := by simp; omega
                  obtain rfl : k = 6 := by omega
                  rw [show ((6 : Nat) : Int) = 6 from rfl]
                  obtain ⟨Mb, mcp, rfl⟩ := O.out.form HRL.out
                  have OF := Lib.hid (fun j (hj : j < 6) => O.out.ends HRL.out HHH.out (j := j) hj)
                  have KO := Lib.hid (K1.out.trans0 O.out.kp)
                  have EW := Lib.hid (E1.out.keep0 O.out.kp)
                  have OC := Lib.hid (fun j r0 (hr : rs[j]? = some r0) => O.out.cell HRL.out (j := j) (r0 := r0) hr)
                  clear O hlt hk
                  go_wp2
                  go_loopw [19, 20, 21] (fun i _ _ W => ∃ k : Nat, k ≤ 6 ∧ i = .int .i64 k ∧ wo3 = W) (fun i _ _ _ => 6 - (intOf i).toNat)
                  case atStart => exact ⟨0, by omega, rfl, rfl⟩
                  case round =>
                    rename World => wo4
                    obtain ⟨i, hi, rfl, rfl⟩ := hrel
                    by_cases hlt : i < 6
                    · have hltd2 : decide ((i : Int) < 6) = true := by simp; omega
                      obtain ⟨r0, g, c, n0, ad, c0, hr0, hn0, hv, hold, hM, hA, hB⟩ := OF.out i hlt
                      have hL := OC.out i r0 hr0
                      rw [hv] at hL
                      have HOLD := Lib.hid hold; have HA := Lib.hid hA; have HB := Lib.hid hB
                      obtain ⟨N, hN⟩ : ∃ N, N = n0 + 20 := ⟨_, rfl⟩
                      rw [← hN] at hM HB
                      have HN := Lib.hid hN
                      have hNb : N ≤ 1020 := by omega
                      clear hold hA hB hr0 hv hN
                      go_wp2
                      go_loopw [21] (fun kk W => ∃ q : Nat, q ≤ N ∧ kk = .int .i64 q ∧ wo3 = W) (fun kk _ => N - (intOf kk).toNat)
                      case atStart => exact ⟨0, by omega, rfl, rfl⟩
                      case round =>
                        obtain ⟨q, hq, rfl, rfl⟩ := hrel
                        by_cases hqN : q < N
                        · have hqd : decide (q < N) = true := by simpa using hqN
                          by_cases hqn : q < n0
                          · have hqd2 : decide (q < n0) = true := by simpa using hqn
                            obtain ⟨g0, rfl, hc0⟩ := HOLD.out (by omega)
                            have x0 := hc0 q hqn
                            have x1 := HA.out q hqn
                            clear hc0
                            go_wp2
                            exact ⟨⟨q + 1, by omega, by go_num, by trivial⟩, by simp [intOf]; omega⟩
                          · have hqd2 : decide (q < n0) = false := by simpa using hqn
                            have hqd3 : decide (n0 ≤ q) = true := by simpa using hqn
                            have x1 := HB.out q (by omega) hqN
                            go_wp2
                            exact ⟨⟨q + 1, by omega, by go_num, by trivial⟩, by simp [intOf]; omega⟩
                        · have hqd : decide (q < N) = false := by simpa using hqN
                          go_wp2
                          exact ⟨⟨i + 1, by omega, by go_num, by trivial⟩, by simp [intOf]; omega⟩
                    · have hltd2 : decide ((i : Int) < 6) = false := by simp; omega
                      clear OF OC hlt
                      go_wp2_with fail
                      refine (M.out _).mono ?_
                      rintro r w5 ⟨ad5, c5, rfl, e5, o5, k5⟩
                      have K5 := Lib.hid k5; have E5 := Lib.hid e5; have EW5 := Lib.hid (EW.out.keep0 k5); clear k5 e5 o5
                      go_wp2_with fail
                      refine (HED.out _ _ _ E5.out EW5.out).mono ?_
                      rintro r w6 ⟨rfl, k6⟩
                      have K6 := Lib.hid k6; clear k6
                      go_wp2_with fail
                      refine (known_true _).mono ?_
                      rintro r w7 ⟨rfl, k7⟩
                      have K7 := Lib.hid k7; clear k7
                      go_wp2
                      go_ret
                      exact ⟨rfl, ((KO.out.trans0 K5.out).trans0 K6.out).trans0 K7.out⟩
    · have hzl : (1200 : Int) < (b.size : Int) := by omega
      go_enter Try.func8, Try.ntmps8
      go_wp2_with fail
      refine (known_true _).mono ?_
      rintro q w3 ⟨rfl, hk3⟩
      have HK3 := Lib.hid hk3; clear hk3
      go_wp2
      go_ret
      exact ⟨rfl, HK3.out⟩
  · have hzd : (1200 : Int) < (a.size : Int) := by omega
    go_enter Try.func8, Try.ntmps8
    go_wp2_with fail
    refine (known_true _).mono ?_
    rintro q w3 ⟨rfl, hk3⟩
    have HK3 := Lib.hid hk3; clear hk3
    go_wp2
    go_ret
    exact ⟨rfl, HK3.out⟩
end Go.Proofs.Ytddbjclpmkelaaa
namespace Go.Proofs.Ytddbjclpmkelaaa.diffOwn
open Go.ChangeShapes Go.WideShapes Go.ChangeAt Go.RowKit
open Go.ChangeMaps (open_string shut_string)
set_option linter.unusedVariables false

theorem own : ownKnob Try.prog.godebug = none := by kernel_rfl

set_option maxRecDepth 100000 in
theorem lifted (os : Os) (started : os.Started) (H : Type) (enc : TypeId × Value → H) :
    ReturnsInHanded {} Try.checked os 8 .any (Rows.diffOwnSpec.pre6 enc Try.prog Try.f8 Rows.diffOwnRow.domain false) (Rows.diffOwnSpec.post enc Try.prog Try.f8 false true false false) := by
  refine returnsInHanded_of_change (C := Try.checked) own started (by kernel_rfl) Try.func8
    (ChangeSpec.witness6 (enc := enc) (C := Try.checked) false ⟨#[], #[.string ByteArray.empty, .string ByteArray.empty], []⟩ 8 (by kernel_rfl) (by kernel_rfl) (by kernel_rfl) (by kernel_rfl)) ?_
  intro W base args ds gs before hval0 hW hcnd _
  have hval : ∀ (j : Nat) t v, Try.f8.params[j]? = some t → args[j]? = some v → Value.okWide Try.prog W .any base t v := hval0
  have hW' := hW
  obtain ⟨p, q, hA0, hV, rfl, hfz, hnd⟩ := hW
  have hA : DataW.TrodAll enc Try.prog W 0 (fun _ => true) true Try.f8.params.toList args.toList ds p := hA0
  rw [Try.params8] at hA hval
  obtain ⟨v0, vs0, d0, ds0, p0, q0, hargs, rfl, rfl, h0, r0⟩ := trodAll_cons hA
  obtain ⟨v1, vs1, d1, ds1, p1, q1, rfl, rfl, rfl, h1, r1⟩ := trodAll_cons r0
  obtain ⟨rfl, rfl, rfl⟩ := trodAll_nil r1
  obtain rfl : args = #[v0, v1] := by cases args; simp_all
  obtain ⟨rfl, rfl⟩ := trodVars_none hV
  obtain ⟨s0, rfl, rfl, rfl, hs0⟩ := open_string Try.underlying9 (hval 0 9 v0 rfl rfl) h0
  obtain ⟨s1, rfl, rfl, rfl, hs1⟩ := open_string Try.underlying9 (hval 1 9 v1 rfl rfl) h1
  clear hA0 hval0
  refine (diffOwn_walk s0 s1 W hs0 hs1).mono fun e W' ⟨he, hk⟩ => ?_
  subst he
  exact ⟨_, rfl, _, _, _, [], _, [], hW', trodAll_mk1 (shut_bool Try.underlying4 _), (trodAll_cons_mk (shut_string Try.underlying9 hs0) (trodAll_cons_mk (shut_string Try.underlying9 hs1) trodAll_mk0)), rfl, hk.below.frame _, fun h => by cases h⟩

theorem over : Rows.diffOwnRow.holds Try.pinned (OpenSpec.ofChange Rows.diffOwnSpec) :=
  OpenClaim.holds_of_wide 8 Try.f8 rfl rfl rfl rfl rfl rfl rfl ⟨rfl, rfl, rfl, rfl, rfl⟩ rfl rfl rfl rfl rfl (by kernel_rfl) Try.func8 (by kernel_rfl)
    (of_decide_eq_true (by kernel_rfl)) (by unfold Func.isWrapper; first | (rw [if_pos (by decide +kernel)]; kernel_rfl) | (rw [if_neg (by decide +kernel)]; exact ⟨rfl, rfl⟩))
    (fun os started H enc _ => lifted os started H enc)

/-- THE STATEMENT. -/
theorem said : Rows.DiffOwnSaid := over
end Go.Proofs.Ytddbjclpmkelaaa.diffOwn
