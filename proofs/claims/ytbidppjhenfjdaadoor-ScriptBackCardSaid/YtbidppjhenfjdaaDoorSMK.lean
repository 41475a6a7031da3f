/-
  ScriptBack: what Print writes Parse reads again, and what Parse takes Print writes to a text that says the same; no condition but the five listed variables of the library.
-/
import Derived.Test.YtbidppjhenfjdaaDoorSMD
import Derived.Test.YtbidppjhenfjdaaDoorSMB
import Derived.Test.YtbidppjhenfjdaaDoorSMA
namespace Go.Proofs.YtbidppjhenfjdaaDoor
open Go.RowKit
set_option linter.unusedVariables false
set_option linter.unusedSimpArgs false

/-- What bare leaves. -/
def BarePost (W : World) (s : Stp) (dv bv : Value) (e : Ending) (W' : World) : Prop := Keep [] W W' ∧ ∃ dv' bv', e = .returned (.agg (stV (bareS s) dv' bv')) ∧ (dv' = dv ∧ (bareS s).draws = s.draws ∨ dv' = .slice none 0 0 ∧ (bareS s).draws = []) ∧ (bv' = bv ∧ (bareS s).data = s.data ∨ bv' = .slice none 0 0 ∧ (bareS s).data = ByteArray.empty)
theorem nblk {W : World} {o : Obj} {i : Nat} (h : i = W.heap.size) : (W.alloc o).heap[i]? = some o := by subst h; exact World.alloc_heap_new W o
theorem oblk {W : World} {o x : Obj} {i : Nat} (h : W.heap[i]? = some x) : (W.alloc o).heap[i]? = some x := ((Keep.refl [] W).alloc o).at_ h (by simp)
theorem results_row {P : Program} {fn : Func} {p : Tmp} {ty : TypeId} (h : fn.results = #[.cell p ty]) (tmps : Array Value) (w : World) (b : Nat) (v : Value)
    (hp : tmps.getD p undef = .pointer (some ⟨b, 0, none⟩)) (hl : (loadVar ty ⟨b, 0, none⟩).run P w = .ok v w) : (results fn tmps).run P w = .ok v w := by
  have hp' : tmps[p]?.getD undef = .pointer (some ⟨b, 0, none⟩) := by simpa using hp
  simp [results, h, hp', asAddr, hl]

set_option maxHeartbeats 8000000 in
set_option maxRecDepth 100000 in
theorem bare_1 (site peer unit at_ n : Int) (text : ByteArray) (ad1 ad2 : Option Addr) (nd cap1 nb cap2 : Nat) (W : World) : Calls Tryd.prog 10 #[.agg #[.int .i64 1, .int .i64 site, .int .i64 peer, .int .i64 unit, .int .i64 at_, .int .i64 n, .string text, .slice ad1 nd cap1, .slice ad2 nb cap2]] W fun e W' => e = .returned (.agg #[.int .i64 1, .int .i64 site, .int .i64 0, .int .i64 0, .int .i64 at_, .int .i64 0, .string text, .slice none 0 0, .slice none 0 0]) ∧ Keep [] W W' := by
  go_enter Tryd.func10, Tryd.ntmps10
  go_upto_region 2 with (fail)
  obtain ⟨G, hG⟩ : ∃ G, G = W.heap.size := ⟨_, rfl⟩
  obtain ⟨w1, hw1⟩ : ∃ w1, w1 = ((W.alloc (.cells #[.int .i64 1, .int .i64 site, .int .i64 peer, .int .i64 unit, .int .i64 at_, .int .i64 n, .string text, .slice ad1 nd cap1, .slice ad2 nb cap2] 31)).alloc (.cells #[.int .i64 0, .int .i64 0, .int .i64 0, .int .i64 0, .int .i64 0, .int .i64 0, .string ⟨#[]⟩, .slice none 0 0, .slice none 0 0] 31)).alloc (.cells #[.int .i64 1, .int .i64 0, .int .i64 0, .int .i64 0, .int .i64 0, .int .i64 0, .string ⟨#[]⟩, .slice none 0 0, .slice none 0 0] 31) := ⟨_, rfl⟩
  have hk1 : Keep [] W w1 := by rw [hw1]; exact (((Keep.refl _ _).alloc _).alloc _).alloc _
  have hb0 : w1.heap[G]? = some (.cells #[.int .i64 1, .int .i64 site, .int .i64 peer, .int .i64 unit, .int .i64 at_, .int .i64 n, .string text, .slice ad1 nd cap1, .slice ad2 nb cap2] 31 (0, 0)) := by rw [hw1, hG]; exact oblk (oblk (nblk (by simp)))
  have hb1 : w1.heap[G + 1]? = some (.cells #[.int .i64 0, .int .i64 0, .int .i64 0, .int .i64 0, .int .i64 0, .int .i64 0, .string ⟨#[]⟩, .slice none 0 0, .slice none 0 0] 31 (0, 0)) := by rw [hw1, hG]; exact oblk (nblk (by simp))
  have hb2 : w1.heap[G + 2]? = some (.cells #[.int .i64 1, .int .i64 0, .int .i64 0, .int .i64 0, .int .i64 0, .int .i64 0, .string ⟨#[]⟩, .slice none 0 0, .slice none 0 0] 31 (0, 0)) := by rw [hw1, hG]; exact nblk (by simp)
  rw [← hw1]
  simp only [Nat.add_assoc, Nat.reduceAdd]
  rw [← hG]
  have HK1 := Lib.hid hk1
  have HGG := Lib.hid hG
  have HB1 := Lib.hid hb1
  have c0 := cell_of_block hb0 0
  have c1 := cell_of_block hb0 1
  have c2 := cell_of_block hb0 2
  have c4 := cell_of_block hb0 4
  have c5 := cell_of_block hb0 5
  have c6 := cell_of_block hb0 6
  have c7 := cell_of_block hb0 7
  have c8 := cell_of_block hb0 8
  simp at c0 c1 c2 c4 c5 c6 c7 c8
  clear hw1 hk1 hG hb1
  have HB2 := Lib.hid hb2
  go_upto_region 4 with (fail)
  obtain ⟨w2, hw2⟩ : ∃ w2, w2 = w1.drew := ⟨_, rfl⟩
  have hk2 : Keep [] w1 w2 := by rw [hw2]; exact (Keep.refl _ _).drew
  have e2 := hk2.at_ HB2.out (by simp)
  obtain ⟨u0, hu0⟩ : ∃ u0, u0 = w2.setCell ⟨G + 2, 1, none⟩ (.int .i64 site) := ⟨_, rfl⟩
  have ku0 : Keep [G + 2] w2 u0 := by rw [hu0]; exact (Keep.refl _ _).setCell (.inl (by simp)) _
  have e3 : u0.heap[G + 2]? = some (.cells #[.int .i64 1, .int .i64 site, .int .i64 0, .int .i64 0, .int .i64 0, .int .i64 0, .string ⟨#[]⟩, .slice none 0 0, .slice none 0 0] 31 (0, 0)) := by rw [hu0]; exact block_setCell e2 1 _
  have p0 : w2.cell? ⟨G + 2, 1, none⟩ = some (.int .i64 0) := by rw [cell_of_block e2]; rfl
  have z0 : w2.frozen? ⟨G + 2, 1, none⟩ = false := free_of_block e2 1
  obtain ⟨u1, hu1⟩ : ∃ u1, u1 = u0.setCell ⟨G + 2, 4, none⟩ (.int .i64 at_) := ⟨_, rfl⟩
  have ku1 : Keep [G + 2] u0 u1 := by rw [hu1]; exact (Keep.refl _ _).setCell (.inl (by simp)) _
  have e4 : u1.heap[G + 2]? = some (.cells #[.int .i64 1, .int .i64 site, .int .i64 0, .int .i64 0, .int .i64 at_, .int .i64 0, .string ⟨#[]⟩, .slice none 0 0, .slice none 0 0] 31 (0, 0)) := by rw [hu1]; exact block_setCell e3 4 _
  have p1 : u0.cell? ⟨G + 2, 4, none⟩ = some (.int .i64 0) := by rw [cell_of_block e3]; rfl
  have z1 : u0.frozen? ⟨G + 2, 4, none⟩ = false := free_of_block e3 4
  obtain ⟨u2, hu2⟩ : ∃ u2, u2 = u1.setCell ⟨G + 2, 6, none⟩ (.string text) := ⟨_, rfl⟩
  have ku2 : Keep [G + 2] u1 u2 := by rw [hu2]; exact (Keep.refl _ _).setCell (.inl (by simp)) _
  have e5 : u2.heap[G + 2]? = some (.cells #[.int .i64 1, .int .i64 site, .int .i64 0, .int .i64 0, .int .i64 at_, .int .i64 0, .string text, .slice none 0 0, .slice none 0 0] 31 (0, 0)) := by rw [hu2]; exact block_setCell e4 6 _
  have p2 : u1.cell? ⟨G + 2, 6, none⟩ = some (.string ⟨#[]⟩) := by rw [cell_of_block e4]; rfl
  have z2 : u1.frozen? ⟨G + 2, 6, none⟩ = false := free_of_block e4 6
  have hGG2 : G ≠ G + 2 := by omega
  have Kw2 : Keep [G + 2] w1 w2 := hk2.mono (by simp)
  have Cw2 : w2.cell? ⟨G, 1, none⟩ = some (.int .i64 site) ∧ w2.cell? ⟨G, 4, none⟩ = some (.int .i64 at_) ∧ w2.cell? ⟨G, 6, none⟩ = some (.string text) := ⟨Kw2.cellv c1 (by simp), Kw2.cellv c4 (by simp), Kw2.cellv c6 (by simp)⟩
  have Ku0 : Keep [G + 2] w1 u0 := ((hk2.mono (L' := [G + 2]) (by simp)).trans ku0 (fun x hx => .inl hx))
  have Cu0 : u0.cell? ⟨G, 1, none⟩ = some (.int .i64 site) ∧ u0.cell? ⟨G, 4, none⟩ = some (.int .i64 at_) ∧ u0.cell? ⟨G, 6, none⟩ = some (.string text) := ⟨Ku0.cellv c1 (by simp), Ku0.cellv c4 (by simp), Ku0.cellv c6 (by simp)⟩
  have Ku1 : Keep [G + 2] w1 u1 := (((hk2.mono (L' := [G + 2]) (by simp)).trans ku0 (fun x hx => .inl hx)).trans ku1 (fun x hx => .inl hx))
  have Cu1 : u1.cell? ⟨G, 1, none⟩ = some (.int .i64 site) ∧ u1.cell? ⟨G, 4, none⟩ = some (.int .i64 at_) ∧ u1.cell? ⟨G, 6, none⟩ = some (.string text) := ⟨Ku1.cellv c1 (by simp), Ku1.cellv c4 (by simp), Ku1.cellv c6 (by simp)⟩
  have Ku2 : Keep [G + 2] w1 u2 := ((((hk2.mono (L' := [G + 2]) (by simp)).trans ku0 (fun x hx => .inl hx)).trans ku1 (fun x hx => .inl hx)).trans ku2 (fun x hx => .inl hx))
  have Cu2 : u2.cell? ⟨G, 1, none⟩ = some (.int .i64 site) ∧ u2.cell? ⟨G, 4, none⟩ = some (.int .i64 at_) ∧ u2.cell? ⟨G, 6, none⟩ = some (.string text) := ⟨Ku2.cellv c1 (by simp), Ku2.cellv c4 (by simp), Ku2.cellv c6 (by simp)⟩
  have HC := Lib.hid (⟨Cw2, Cu0, Cu1, Cu2⟩ : (w2.cell? ⟨G, 1, none⟩ = some (.int .i64 site) ∧ w2.cell? ⟨G, 4, none⟩ = some (.int .i64 at_) ∧ w2.cell? ⟨G, 6, none⟩ = some (.string text)) ∧ (u0.cell? ⟨G, 1, none⟩ = some (.int .i64 site) ∧ u0.cell? ⟨G, 4, none⟩ = some (.int .i64 at_) ∧ u0.cell? ⟨G, 6, none⟩ = some (.string text)) ∧ (u1.cell? ⟨G, 1, none⟩ = some (.int .i64 site) ∧ u1.cell? ⟨G, 4, none⟩ = some (.int .i64 at_) ∧ u1.cell? ⟨G, 6, none⟩ = some (.string text)) ∧ (u2.cell? ⟨G, 1, none⟩ = some (.int .i64 site) ∧ u2.cell? ⟨G, 4, none⟩ = some (.int .i64 at_) ∧ u2.cell? ⟨G, 6, none⟩ = some (.string text)))
  have KU := Lib.hid Ku2
  have EU := Lib.hid e5
  clear Cw2 Kw2 Cu0 Ku0 Cu1 Ku1 Cu2 Ku2 hk2 ku0 ku1 ku2 e2 e3 e4 e5 hb2 c0 c1 c2 c4 c5 c6 c7 c8
  refine wp_plan (fun w' => w'.cell? ⟨G, 1, none⟩ = some (.int .i64 site) ∧ w'.cell? ⟨G, 4, none⟩ = some (.int .i64 at_) ∧ w'.cell? ⟨G, 6, none⟩ = some (.string text)) (.take 0 (.take 1 (.take 2 (.take 3 (.take 4 (.take 5 (.take 6 (.force 7 (.take 8 (.force 9 (.take 10 (.force 11 .done)))))))))))) (by kernel_rfl) (by kernel_rfl) (by rw [← hw2]; exact HC.out.1) ?_
  intro Q0 hQ0
  refine plan_takeL rfl rfl (.pointer (some ⟨G, 1, none⟩)) ?_ ?_
  · intro w' hC K Q hK
    obtain ⟨q0, q1, q2⟩ := hC
    go_simp
    exact hK
  try simp only [Act.put, List.setIfInBounds_toArray, List.set_cons_succ, List.set_cons_zero]
  refine plan_takeL rfl rfl (.int .i64 site) ?_ ?_
  · intro w' hC K Q hK
    obtain ⟨q0, q1, q2⟩ := hC
    go_simp
    exact hK
  try simp only [Act.put, List.setIfInBounds_toArray, List.set_cons_succ, List.set_cons_zero]
  refine plan_takeL rfl rfl (.pointer (some ⟨G, 4, none⟩)) ?_ ?_
  · intro w' hC K Q hK
    obtain ⟨q0, q1, q2⟩ := hC
    go_simp
    exact hK
  try simp only [Act.put, List.setIfInBounds_toArray, List.set_cons_succ, List.set_cons_zero]
  refine plan_takeL rfl rfl (.int .i64 at_) ?_ ?_
  · intro w' hC K Q hK
    obtain ⟨q0, q1, q2⟩ := hC
    go_simp
    exact hK
  try simp only [Act.put, List.setIfInBounds_toArray, List.set_cons_succ, List.set_cons_zero]
  refine plan_takeL rfl rfl (.pointer (some ⟨G, 6, none⟩)) ?_ ?_
  · intro w' hC K Q hK
    obtain ⟨q0, q1, q2⟩ := hC
    go_simp
    exact hK
  try simp only [Act.put, List.setIfInBounds_toArray, List.set_cons_succ, List.set_cons_zero]
  refine plan_takeL rfl rfl (.string text) ?_ ?_
  · intro w' hC K Q hK
    obtain ⟨q0, q1, q2⟩ := hC
    go_simp
    exact hK
  try simp only [Act.put, List.setIfInBounds_toArray, List.set_cons_succ, List.set_cons_zero]
  refine plan_takeL rfl rfl (.pointer (some ⟨G + 2, 1, none⟩)) ?_ ?_
  · intro w' hC K Q hK
    obtain ⟨q0, q1, q2⟩ := hC
    go_simp
    exact hK
  try simp only [Act.put, List.setIfInBounds_toArray, List.set_cons_succ, List.set_cons_zero]
  rw [← hw2]
  clear hw2
  refine plan_forceL rfl rfl fun K hK => ?_
  go_simp
  rw [← hu0]
  refine hK _ _ (HC.out.2.1) ?_
  clear hK K hu0 p0 z0
  refine plan_takeL rfl rfl (.pointer (some ⟨G + 2, 4, none⟩)) ?_ ?_
  · intro w' hC K Q hK
    obtain ⟨q0, q1, q2⟩ := hC
    go_simp
    exact hK
  try simp only [Act.put, List.setIfInBounds_toArray, List.set_cons_succ, List.set_cons_zero]
  refine plan_forceL rfl rfl fun K hK => ?_
  go_simp
  rw [← hu1]
  refine hK _ _ (HC.out.2.2.1) ?_
  clear hK K hu1 p1 z1
  refine plan_takeL rfl rfl (.pointer (some ⟨G + 2, 6, none⟩)) ?_ ?_
  · intro w' hC K Q hK
    obtain ⟨q0, q1, q2⟩ := hC
    go_simp
    exact hK
  try simp only [Act.put, List.setIfInBounds_toArray, List.set_cons_succ, List.set_cons_zero]
  refine plan_forceL rfl rfl fun K hK => ?_
  go_simp
  rw [← hu2]
  refine hK _ _ (HC.out.2.2.2) ?_
  clear hK K hu2 p2 z2
  refine hQ0 _ _ ?_
  clear hQ0 Q0
  obtain ⟨W9, hs9, hb9, hl9, hk9⟩ := put_step (G + 1) _ #[.int .i64 1, .int .i64 site, .int .i64 0, .int .i64 0, .int .i64 at_, .int .i64 0, .string text, .slice none 0 0, .slice none 0 0] u2 (KU.out.at_ HB1.out (by simp)) rfl rfl (by simp [Value.oneCell'])
  have HL9 := Lib.hid hl9
  have HK9 := Lib.hid (show Keep [] W W9 from (HK1.out.trans KU.out (fun x hx => by simp at hx; subst hx; exact .inr (by have := HGG.out; omega))).trans hk9 (fun x hx => by simp at hx; subst hx; exact .inr (by have := HGG.out; omega)))
  have hld : (Instr.loadAt 31 (.pointer (some ⟨G + 2, 0, none⟩))).run Tryd.prog u2 = .ok (.agg #[.int .i64 1, .int .i64 site, .int .i64 0, .int .i64 0, .int .i64 at_, .int .i64 0, .string text, .slice none 0 0, .slice none 0 0]) u2 := load_row (P := Tryd.prog) Tryd.underlying31 rfl step_info EU.out rfl
  clear hl9 hk9 hb9 hGG2
  go_wp2_with (with_reducible refine park_load 3 _ rfl ?_)
  refine wpList_load_eq rfl _ (.tmp 3) rfl hld ?_
  go_wp2_with (with_reducible refine park_store 2 78 _ rfl ?_)
  refine wpList_store_eq rfl _ (.tmp 2) (.tmp 78) rfl hs9 ?_
  clear hs9 hld
  go_wp2
  exact bodyPost_ret (results_row rfl _ _ (G + 1) _ rfl HL9.out) rfl ⟨rfl, HK9.out⟩

set_option maxHeartbeats 8000000 in
set_option maxRecDepth 100000 in
theorem bare_2 (site peer unit at_ n : Int) (text : ByteArray) (ad1 ad2 : Option Addr) (nd cap1 nb cap2 : Nat) (W : World) : Calls Tryd.prog 10 #[.agg #[.int .i64 2, .int .i64 site, .int .i64 peer, .int .i64 unit, .int .i64 at_, .int .i64 n, .string text, .slice ad1 nd cap1, .slice ad2 nb cap2]] W fun e W' => e = .returned (.agg #[.int .i64 2, .int .i64 site, .int .i64 0, .int .i64 0, .int .i64 at_, .int .i64 n, .string ⟨#[]⟩, .slice none 0 0, .slice none 0 0]) ∧ Keep [] W W' := by
  go_enter Tryd.func10, Tryd.ntmps10
  go_upto_region 2 with (fail)
  obtain ⟨G, hG⟩ : ∃ G, G = W.heap.size := ⟨_, rfl⟩
  obtain ⟨w1, hw1⟩ : ∃ w1, w1 = ((W.alloc (.cells #[.int .i64 2, .int .i64 site, .int .i64 peer, .int .i64 unit, .int .i64 at_, .int .i64 n, .string text, .slice ad1 nd cap1, .slice ad2 nb cap2] 31)).alloc (.cells #[.int .i64 0, .int .i64 0, .int .i64 0, .int .i64 0, .int .i64 0, .int .i64 0, .string ⟨#[]⟩, .slice none 0 0, .slice none 0 0] 31)).alloc (.cells #[.int .i64 2, .int .i64 0, .int .i64 0, .int .i64 0, .int .i64 0, .int .i64 0, .string ⟨#[]⟩, .slice none 0 0, .slice none 0 0] 31) := ⟨_, rfl⟩
  have hk1 : Keep [] W w1 := by rw [hw1]; exact (((Keep.refl _ _).alloc _).alloc _).alloc _
  have hb0 : w1.heap[G]? = some (.cells #[.int .i64 2, .int .i64 site, .int .i64 peer, .int .i64 unit, .int .i64 at_, .int .i64 n, .string text, .slice ad1 nd cap1, .slice ad2 nb cap2] 31 (0, 0)) := by rw [hw1, hG]; exact oblk (oblk (nblk (by simp)))
  have hb1 : w1.heap[G + 1]? = some (.cells #[.int .i64 0, .int .i64 0, .int .i64 0, .int .i64 0, .int .i64 0, .int .i64 0, .string ⟨#[]⟩, .slice none 0 0, .slice none 0 0] 31 (0, 0)) := by rw [hw1, hG]; exact oblk (nblk (by simp))
  have hb2 : w1.heap[G + 2]? = some (.cells #[.int .i64 2, .int .i64 0, .int .i64 0, .int .i64 0, .int .i64 0, .int .i64 0, .string ⟨#[]⟩, .slice none 0 0, .slice none 0 0] 31 (0, 0)) := by rw [hw1, hG]; exact nblk (by simp)
  rw [← hw1]
  simp only [Nat.add_assoc, Nat.reduceAdd]
  rw [← hG]
  have HK1 := Lib.hid hk1
  have HGG := Lib.hid hG
  have HB1 := Lib.hid hb1
  have c0 := cell_of_block hb0 0
  have c1 := cell_of_block hb0 1
  have c2 := cell_of_block hb0 2
  have c4 := cell_of_block hb0 4
  have c5 := cell_of_block hb0 5
  have c6 := cell_of_block hb0 6
  have c7 := cell_of_block hb0 7
  have c8 := cell_of_block hb0 8
  simp at c0 c1 c2 c4 c5 c6 c7 c8
  clear hw1 hk1 hG hb1
  have HB2 := Lib.hid hb2
  go_upto_region 6 with (fail)
  obtain ⟨w2, hw2⟩ : ∃ w2, w2 = w1.drew := ⟨_, rfl⟩
  have hk2 : Keep [] w1 w2 := by rw [hw2]; exact (Keep.refl _ _).drew
  have e2 := hk2.at_ HB2.out (by simp)
  obtain ⟨u0, hu0⟩ : ∃ u0, u0 = w2.setCell ⟨G + 2, 1, none⟩ (.int .i64 site) := ⟨_, rfl⟩
  have ku0 : Keep [G + 2] w2 u0 := by rw [hu0]; exact (Keep.refl _ _).setCell (.inl (by simp)) _
  have e3 : u0.heap[G + 2]? = some (.cells #[.int .i64 2, .int .i64 site, .int .i64 0, .int .i64 0, .int .i64 0, .int .i64 0, .string ⟨#[]⟩, .slice none 0 0, .slice none 0 0] 31 (0, 0)) := by rw [hu0]; exact block_setCell e2 1 _
  have p0 : w2.cell? ⟨G + 2, 1, none⟩ = some (.int .i64 0) := by rw [cell_of_block e2]; rfl
  have z0 : w2.frozen? ⟨G + 2, 1, none⟩ = false := free_of_block e2 1
  obtain ⟨u1, hu1⟩ : ∃ u1, u1 = u0.setCell ⟨G + 2, 4, none⟩ (.int .i64 at_) := ⟨_, rfl⟩
  have ku1 : Keep [G + 2] u0 u1 := by rw [hu1]; exact (Keep.refl _ _).setCell (.inl (by simp)) _
  have e4 : u1.heap[G + 2]? = some (.cells #[.int .i64 2, .int .i64 site, .int .i64 0, .int .i64 0, .int .i64 at_, .int .i64 0, .string ⟨#[]⟩, .slice none 0 0, .slice none 0 0] 31 (0, 0)) := by rw [hu1]; exact block_setCell e3 4 _
  have p1 : u0.cell? ⟨G + 2, 4, none⟩ = some (.int .i64 0) := by rw [cell_of_block e3]; rfl
  have z1 : u0.frozen? ⟨G + 2, 4, none⟩ = false := free_of_block e3 4
  obtain ⟨u2, hu2⟩ : ∃ u2, u2 = u1.setCell ⟨G + 2, 5, none⟩ (.int .i64 n) := ⟨_, rfl⟩
  have ku2 : Keep [G + 2] u1 u2 := by rw [hu2]; exact (Keep.refl _ _).setCell (.inl (by simp)) _
  have e5 : u2.heap[G + 2]? = some (.cells #[.int .i64 2, .int .i64 site, .int .i64 0, .int .i64 0, .int .i64 at_, .int .i64 n, .string ⟨#[]⟩, .slice none 0 0, .slice none 0 0] 31 (0, 0)) := by rw [hu2]; exact block_setCell e4 5 _
  have p2 : u1.cell? ⟨G + 2, 5, none⟩ = some (.int .i64 0) := by rw [cell_of_block e4]; rfl
  have z2 : u1.frozen? ⟨G + 2, 5, none⟩ = false := free_of_block e4 5
  have hGG2 : G ≠ G + 2 := by omega
  have Kw2 : Keep [G + 2] w1 w2 := hk2.mono (by simp)
  have Cw2 : w2.cell? ⟨G, 1, none⟩ = some (.int .i64 site) ∧ w2.cell? ⟨G, 4, none⟩ = some (.int .i64 at_) ∧ w2.cell? ⟨G, 5, none⟩ = some (.int .i64 n) := ⟨Kw2.cellv c1 (by simp), Kw2.cellv c4 (by simp), Kw2.cellv c5 (by simp)⟩
  have Ku0 : Keep [G + 2] w1 u0 := ((hk2.mono (L' := [G + 2]) (by simp)).trans ku0 (fun x hx => .inl hx))
  have Cu0 : u0.cell? ⟨G, 1, none⟩ = some (.int .i64 site) ∧ u0.cell? ⟨G, 4, none⟩ = some (.int .i64 at_) ∧ u0.cell? ⟨G, 5, none⟩ = some (.int .i64 n) := ⟨Ku0.cellv c1 (by simp), Ku0.cellv c4 (by simp), Ku0.cellv c5 (by simp)⟩
  have Ku1 : Keep [G + 2] w1 u1 := (((hk2.mono (L' := [G + 2]) (by simp)).trans ku0 (fun x hx => .inl hx)).trans ku1 (fun x hx => .inl hx))
  have Cu1 : u1.cell? ⟨G, 1, none⟩ = some (.int .i64 site) ∧ u1.cell? ⟨G, 4, none⟩ = some (.int .i64 at_) ∧ u1.cell? ⟨G, 5, none⟩ = some (.int .i64 n) := ⟨Ku1.cellv c1 (by simp), Ku1.cellv c4 (by simp), Ku1.cellv c5 (by simp)⟩
  have Ku2 : Keep [G + 2] w1 u2 := ((((hk2.mono (L' := [G + 2]) (by simp)).trans ku0 (fun x hx => .inl hx)).trans ku1 (fun x hx => .inl hx)).trans ku2 (fun x hx => .inl hx))
  have Cu2 : u2.cell? ⟨G, 1, none⟩ = some (.int .i64 site) ∧ u2.cell? ⟨G, 4, none⟩ = some (.int .i64 at_) ∧ u2.cell? ⟨G, 5, none⟩ = some (.int .i64 n) := ⟨Ku2.cellv c1 (by simp), Ku2.cellv c4 (by simp), Ku2.cellv c5 (by simp)⟩
  have HC := Lib.hid (⟨Cw2, Cu0, Cu1, Cu2⟩ : (w2.cell? ⟨G, 1, none⟩ = some (.int .i64 site) ∧ w2.cell? ⟨G, 4, none⟩ = some (.int .i64 at_) ∧ w2.cell? ⟨G, 5, none⟩ = some (.int .i64 n)) ∧ (u0.cell? ⟨G, 1, none⟩ = some (.int .i64 site) ∧ u0.cell? ⟨G, 4, none⟩ = some (.int .i64 at_) ∧ u0.cell? ⟨G, 5, none⟩ = some (.int .i64 n)) ∧ (u1.cell? ⟨G, 1, none⟩ = some (.int .i64 site) ∧ u1.cell? ⟨G, 4, none⟩ = some (.int .i64 at_) ∧ u1.cell? ⟨G, 5, none⟩ = some (.int .i64 n)) ∧ (u2.cell? ⟨G, 1, none⟩ = some (.int .i64 site) ∧ u2.cell? ⟨G, 4, none⟩ = some (.int .i64 at_) ∧ u2.cell? ⟨G, 5, none⟩ = some (.int .i64 n)))
  have KU := Lib.hid Ku2
  have EU := Lib.hid e5
  clear Cw2 Kw2 Cu0 Ku0 Cu1 Ku1 Cu2 Ku2 hk2 ku0 ku1 ku2 e2 e3 e4 e5 hb2 c0 c1 c2 c4 c5 c6 c7 c8
  refine wp_plan (fun w' => w'.cell? ⟨G, 1, none⟩ = some (.int .i64 site) ∧ w'.cell? ⟨G, 4, none⟩ = some (.int .i64 at_) ∧ w'.cell? ⟨G, 5, none⟩ = some (.int .i64 n)) (.take 0 (.take 1 (.take 2 (.take 3 (.take 4 (.take 5 (.take 6 (.force 7 (.take 8 (.force 9 (.take 10 (.force 11 .done)))))))))))) (by kernel_rfl) (by kernel_rfl) (by rw [← hw2]; exact HC.out.1) ?_
  intro Q0 hQ0
  refine plan_takeL rfl rfl (.pointer (some ⟨G, 1, none⟩)) ?_ ?_
  · intro w' hC K Q hK
    obtain ⟨q0, q1, q2⟩ := hC
    go_simp
    exact hK
  try simp only [Act.put, List.setIfInBounds_toArray, List.set_cons_succ, List.set_cons_zero]
  refine plan_takeL rfl rfl (.int .i64 site) ?_ ?_
  · intro w' hC K Q hK
    obtain ⟨q0, q1, q2⟩ := hC
    go_simp
    exact hK
  try simp only [Act.put, List.setIfInBounds_toArray, List.set_cons_succ, List.set_cons_zero]
  refine plan_takeL rfl rfl (.pointer (some ⟨G, 4, none⟩)) ?_ ?_
  · intro w' hC K Q hK
    obtain ⟨q0, q1, q2⟩ := hC
    go_simp
    exact hK
  try simp only [Act.put, List.setIfInBounds_toArray, List.set_cons_succ, List.set_cons_zero]
  refine plan_takeL rfl rfl (.int .i64 at_) ?_ ?_
  · intro w' hC K Q hK
    obtain ⟨q0, q1, q2⟩ := hC
    go_simp
    exact hK
  try simp only [Act.put, List.setIfInBounds_toArray, List.set_cons_succ, List.set_cons_zero]
  refine plan_takeL rfl rfl (.pointer (some ⟨G, 5, none⟩)) ?_ ?_
  · intro w' hC K Q hK
    obtain ⟨q0, q1, q2⟩ := hC
    go_simp
    exact hK
  try simp only [Act.put, List.setIfInBounds_toArray, List.set_cons_succ, List.set_cons_zero]
  refine plan_takeL rfl rfl (.int .i64 n) ?_ ?_
  · intro w' hC K Q hK
    obtain ⟨q0, q1, q2⟩ := hC
    go_simp
    exact hK
  try simp only [Act.put, List.setIfInBounds_toArray, List.set_cons_succ, List.set_cons_zero]
  refine plan_takeL rfl rfl (.pointer (some ⟨G + 2, 1, none⟩)) ?_ ?_
  · intro w' hC K Q hK
    obtain ⟨q0, q1, q2⟩ := hC
    go_simp
    exact hK
  try simp only [Act.put, List.setIfInBounds_toArray, List.set_cons_succ, List.set_cons_zero]
  rw [← hw2]
  clear hw2
  refine plan_forceL rfl rfl fun K hK => ?_
  go_simp
  rw [← hu0]
  refine hK _ _ (HC.out.2.1) ?_
  clear hK K hu0 p0 z0
  refine plan_takeL rfl rfl (.pointer (some ⟨G + 2, 4, none⟩)) ?_ ?_
  · intro w' hC K Q hK
    obtain ⟨q0, q1, q2⟩ := hC
    go_simp
    exact hK
  try simp only [Act.put, List.setIfInBounds_toArray, List.set_cons_succ, List.set_cons_zero]
  refine plan_forceL rfl rfl fun K hK => ?_
  go_simp
  rw [← hu1]
  refine hK _ _ (HC.out.2.2.1) ?_
  clear hK K hu1 p1 z1
  refine plan_takeL rfl rfl (.pointer (some ⟨G + 2, 5, none⟩)) ?_ ?_
  · intro w' hC K Q hK
    obtain ⟨q0, q1, q2⟩ := hC
    go_simp
    exact hK
  try simp only [Act.put, List.setIfInBounds_toArray, List.set_cons_succ, List.set_cons_zero]
  refine plan_forceL rfl rfl fun K hK => ?_
  go_simp
  rw [← hu2]
  refine hK _ _ (HC.out.2.2.2) ?_
  clear hK K hu2 p2 z2
  refine hQ0 _ _ ?_
  clear hQ0 Q0
  obtain ⟨W9, hs9, hb9, hl9, hk9⟩ := put_step (G + 1) _ #[.int .i64 2, .int .i64 site, .int .i64 0, .int .i64 0, .int .i64 at_, .int .i64 n, .string ⟨#[]⟩, .slice none 0 0, .slice none 0 0] u2 (KU.out.at_ HB1.out (by simp)) rfl rfl (by simp [Value.oneCell'])
  have HL9 := Lib.hid hl9
  have HK9 := Lib.hid (show Keep [] W W9 from (HK1.out.trans KU.out (fun x hx => by simp at hx; subst hx; exact .inr (by have := HGG.out; omega))).trans hk9 (fun x hx => by simp at hx; subst hx; exact .inr (by have := HGG.out; omega)))
  have hld : (Instr.loadAt 31 (.pointer (some ⟨G + 2, 0, none⟩))).run Tryd.prog u2 = .ok (.agg #[.int .i64 2, .int .i64 site, .int .i64 0, .int .i64 0, .int .i64 at_, .int .i64 n, .string ⟨#[]⟩, .slice none 0 0, .slice none 0 0]) u2 := load_row (P := Tryd.prog) Tryd.underlying31 rfl step_info EU.out rfl
  clear hl9 hk9 hb9 hGG2
  go_wp2_with (with_reducible refine park_load 3 _ rfl ?_)
  refine wpList_load_eq rfl _ (.tmp 3) rfl hld ?_
  go_wp2_with (with_reducible refine park_store 2 78 _ rfl ?_)
  refine wpList_store_eq rfl _ (.tmp 2) (.tmp 78) rfl hs9 ?_
  clear hs9 hld
  go_wp2
  exact bodyPost_ret (results_row rfl _ _ (G + 1) _ rfl HL9.out) rfl ⟨rfl, HK9.out⟩

set_option maxHeartbeats 8000000 in
set_option maxRecDepth 100000 in
theorem bare_3 (site peer unit at_ n : Int) (text : ByteArray) (ad1 ad2 : Option Addr) (nd cap1 nb cap2 : Nat) (W : World) : Calls Tryd.prog 10 #[.agg #[.int .i64 3, .int .i64 site, .int .i64 peer, .int .i64 unit, .int .i64 at_, .int .i64 n, .string text, .slice ad1 nd cap1, .slice ad2 nb cap2]] W fun e W' => e = .returned (.agg #[.int .i64 3, .int .i64 site, .int .i64 peer, .int .i64 0, .int .i64 0, .int .i64 0, .string ⟨#[]⟩, .slice none 0 0, .slice none 0 0]) ∧ Keep [] W W' := by
  go_enter Tryd.func10, Tryd.ntmps10
  go_upto_region 2 with (fail)
  obtain ⟨G, hG⟩ : ∃ G, G = W.heap.size := ⟨_, rfl⟩
  obtain ⟨w1, hw1⟩ : ∃ w1, w1 = ((W.alloc (.cells #[.int .i64 3, .int .i64 site, .int .i64 peer, .int .i64 unit, .int .i64 at_, .int .i64 n, .string text, .slice ad1 nd cap1, .slice ad2 nb cap2] 31)).alloc (.cells #[.int .i64 0, .int .i64 0, .int .i64 0, .int .i64 0, .int .i64 0, .int .i64 0, .string ⟨#[]⟩, .slice none 0 0, .slice none 0 0] 31)).alloc (.cells #[.int .i64 3, .int .i64 0, .int .i64 0, .int .i64 0, .int .i64 0, .int .i64 0, .string ⟨#[]⟩, .slice none 0 0, .slice none 0 0] 31) := ⟨_, rfl⟩
  have hk1 : Keep [] W w1 := by rw [hw1]; exact (((Keep.refl _ _).alloc _).alloc _).alloc _
  have hb0 : w1.heap[G]? = some (.cells #[.int .i64 3, .int .i64 site, .int .i64 peer, .int .i64 unit, .int .i64 at_, .int .i64 n, .string text, .slice ad1 nd cap1, .slice ad2 nb cap2] 31 (0, 0)) := by rw [hw1, hG]; exact oblk (oblk (nblk (by simp)))
  have hb1 : w1.heap[G + 1]? = some (.cells #[.int .i64 0, .int .i64 0, .int .i64 0, .int .i64 0, .int .i64 0, .int .i64 0, .string ⟨#[]⟩, .slice none 0 0, .slice none 0 0] 31 (0, 0)) := by rw [hw1, hG]; exact oblk (nblk (by simp))
  have hb2 : w1.heap[G + 2]? = some (.cells #[.int .i64 3, .int .i64 0, .int .i64 0, .int .i64 0, .int .i64 0, .int .i64 0, .string ⟨#[]⟩, .slice none 0 0, .slice none 0 0] 31 (0, 0)) := by rw [hw1, hG]; exact nblk (by simp)
  rw [← hw1]
  simp only [Nat.add_assoc, Nat.reduceAdd]
  rw [← hG]
  have HK1 := Lib.hid hk1
  have HGG := Lib.hid hG
  have HB1 := Lib.hid hb1
  have c0 := cell_of_block hb0 0
  have c1 := cell_of_block hb0 1
  have c2 := cell_of_block hb0 2
  have c4 := cell_of_block hb0 4
  have c5 := cell_of_block hb0 5
  have c6 := cell_of_block hb0 6
  have c7 := cell_of_block hb0 7
  have c8 := cell_of_block hb0 8
  simp at c0 c1 c2 c4 c5 c6 c7 c8
  clear hw1 hk1 hG hb1
  have HB2 := Lib.hid hb2
  go_upto_region 8 with (fail)
  obtain ⟨w2, hw2⟩ : ∃ w2, w2 = w1.drew := ⟨_, rfl⟩
  have hk2 : Keep [] w1 w2 := by rw [hw2]; exact (Keep.refl _ _).drew
  have e2 := hk2.at_ HB2.out (by simp)
  obtain ⟨u0, hu0⟩ : ∃ u0, u0 = w2.setCell ⟨G + 2, 1, none⟩ (.int .i64 site) := ⟨_, rfl⟩
  have ku0 : Keep [G + 2] w2 u0 := by rw [hu0]; exact (Keep.refl _ _).setCell (.inl (by simp)) _
  have e3 : u0.heap[G + 2]? = some (.cells #[.int .i64 3, .int .i64 site, .int .i64 0, .int .i64 0, .int .i64 0, .int .i64 0, .string ⟨#[]⟩, .slice none 0 0, .slice none 0 0] 31 (0, 0)) := by rw [hu0]; exact block_setCell e2 1 _
  have p0 : w2.cell? ⟨G + 2, 1, none⟩ = some (.int .i64 0) := by rw [cell_of_block e2]; rfl
  have z0 : w2.frozen? ⟨G + 2, 1, none⟩ = false := free_of_block e2 1
  obtain ⟨u1, hu1⟩ : ∃ u1, u1 = u0.setCell ⟨G + 2, 2, none⟩ (.int .i64 peer) := ⟨_, rfl⟩
  have ku1 : Keep [G + 2] u0 u1 := by rw [hu1]; exact (Keep.refl _ _).setCell (.inl (by simp)) _
  have e4 : u1.heap[G + 2]? = some (.cells #[.int .i64 3, .int .i64 site, .int .i64 peer, .int .i64 0, .int .i64 0, .int .i64 0, .string ⟨#[]⟩, .slice none 0 0, .slice none 0 0] 31 (0, 0)) := by rw [hu1]; exact block_setCell e3 2 _
  have p1 : u0.cell? ⟨G + 2, 2, none⟩ = some (.int .i64 0) := by rw [cell_of_block e3]; rfl
  have z1 : u0.frozen? ⟨G + 2, 2, none⟩ = false := free_of_block e3 2
  have hGG2 : G ≠ G + 2 := by omega
  have Kw2 : Keep [G + 2] w1 w2 := hk2.mono (by simp)
  have Cw2 : w2.cell? ⟨G, 1, none⟩ = some (.int .i64 site) ∧ w2.cell? ⟨G, 2, none⟩ = some (.int .i64 peer) := ⟨Kw2.cellv c1 (by simp), Kw2.cellv c2 (by simp)⟩
  have Ku0 : Keep [G + 2] w1 u0 := ((hk2.mono (L' := [G + 2]) (by simp)).trans ku0 (fun x hx => .inl hx))
  have Cu0 : u0.cell? ⟨G, 1, none⟩ = some (.int .i64 site) ∧ u0.cell? ⟨G, 2, none⟩ = some (.int .i64 peer) := ⟨Ku0.cellv c1 (by simp), Ku0.cellv c2 (by simp)⟩
  have Ku1 : Keep [G + 2] w1 u1 := (((hk2.mono (L' := [G + 2]) (by simp)).trans ku0 (fun x hx => .inl hx)).trans ku1 (fun x hx => .inl hx))
  have Cu1 : u1.cell? ⟨G, 1, none⟩ = some (.int .i64 site) ∧ u1.cell? ⟨G, 2, none⟩ = some (.int .i64 peer) := ⟨Ku1.cellv c1 (by simp), Ku1.cellv c2 (by simp)⟩
  have HC := Lib.hid (⟨Cw2, Cu0, Cu1⟩ : (w2.cell? ⟨G, 1, none⟩ = some (.int .i64 site) ∧ w2.cell? ⟨G, 2, none⟩ = some (.int .i64 peer)) ∧ (u0.cell? ⟨G, 1, none⟩ = some (.int .i64 site) ∧ u0.cell? ⟨G, 2, none⟩ = some (.int .i64 peer)) ∧ (u1.cell? ⟨G, 1, none⟩ = some (.int .i64 site) ∧ u1.cell? ⟨G, 2, none⟩ = some (.int .i64 peer)))
  have KU := Lib.hid Ku1
  have EU := Lib.hid e4
  clear Cw2 Kw2 Cu0 Ku0 Cu1 Ku1 hk2 ku0 ku1 e2 e3 e4 hb2 c0 c1 c2 c4 c5 c6 c7 c8
  refine wp_plan (fun w' => w'.cell? ⟨G, 1, none⟩ = some (.int .i64 site) ∧ w'.cell? ⟨G, 2, none⟩ = some (.int .i64 peer)) (.take 0 (.take 1 (.take 2 (.take 3 (.take 4 (.force 5 (.take 6 (.force 7 .done)))))))) (by kernel_rfl) (by kernel_rfl) (by rw [← hw2]; exact HC.out.1) ?_
  intro Q0 hQ0
  refine plan_takeL rfl rfl (.pointer (some ⟨G, 1, none⟩)) ?_ ?_
  · intro w' hC K Q hK
    obtain ⟨q0, q1⟩ := hC
    go_simp
    exact hK
  try simp only [Act.put, List.setIfInBounds_toArray, List.set_cons_succ, List.set_cons_zero]
  refine plan_takeL rfl rfl (.int .i64 site) ?_ ?_
  · intro w' hC K Q hK
    obtain ⟨q0, q1⟩ := hC
    go_simp
    exact hK
  try simp only [Act.put, List.setIfInBounds_toArray, List.set_cons_succ, List.set_cons_zero]
  refine plan_takeL rfl rfl (.pointer (some ⟨G, 2, none⟩)) ?_ ?_
  · intro w' hC K Q hK
    obtain ⟨q0, q1⟩ := hC
    go_simp
    exact hK
  try simp only [Act.put, List.setIfInBounds_toArray, List.set_cons_succ, List.set_cons_zero]
  refine plan_takeL rfl rfl (.int .i64 peer) ?_ ?_
  · intro w' hC K Q hK
    obtain ⟨q0, q1⟩ := hC
    go_simp
    exact hK
  try simp only [Act.put, List.setIfInBounds_toArray, List.set_cons_succ, List.set_cons_zero]
  refine plan_takeL rfl rfl (.pointer (some ⟨G + 2, 1, none⟩)) ?_ ?_
  · intro w' hC K Q hK
    obtain ⟨q0, q1⟩ := hC
    go_simp
    exact hK
  try simp only [Act.put, List.setIfInBounds_toArray, List.set_cons_succ, List.set_cons_zero]
  rw [← hw2]
  clear hw2
  refine plan_forceL rfl rfl fun K hK => ?_
  go_simp
  rw [← hu0]
  refine hK _ _ (HC.out.2.1) ?_
  clear hK K hu0 p0 z0
  refine plan_takeL rfl rfl (.pointer (some ⟨G + 2, 2, none⟩)) ?_ ?_
  · intro w' hC K Q hK
    obtain ⟨q0, q1⟩ := hC
    go_simp
    exact hK
  try simp only [Act.put, List.setIfInBounds_toArray, List.set_cons_succ, List.set_cons_zero]
  refine plan_forceL rfl rfl fun K hK => ?_
  go_simp
  rw [← hu1]
  refine hK _ _ (HC.out.2.2) ?_
  clear hK K hu1 p1 z1
  refine hQ0 _ _ ?_
  clear hQ0 Q0
  obtain ⟨W9, hs9, hb9, hl9, hk9⟩ := put_step (G + 1) _ #[.int .i64 3, .int .i64 site, .int .i64 peer, .int .i64 0, .int .i64 0, .int .i64 0, .string ⟨#[]⟩, .slice none 0 0, .slice none 0 0] u1 (KU.out.at_ HB1.out (by simp)) rfl rfl (by simp [Value.oneCell'])
  have HL9 := Lib.hid hl9
  have HK9 := Lib.hid (show Keep [] W W9 from (HK1.out.trans KU.out (fun x hx => by simp at hx; subst hx; exact .inr (by have := HGG.out; omega))).trans hk9 (fun x hx => by simp at hx; subst hx; exact .inr (by have := HGG.out; omega)))
  have hld : (Instr.loadAt 31 (.pointer (some ⟨G + 2, 0, none⟩))).run Tryd.prog u1 = .ok (.agg #[.int .i64 3, .int .i64 site, .int .i64 peer, .int .i64 0, .int .i64 0, .int .i64 0, .string ⟨#[]⟩, .slice none 0 0, .slice none 0 0]) u1 := load_row (P := Tryd.prog) Tryd.underlying31 rfl step_info EU.out rfl
  clear hl9 hk9 hb9 hGG2
  go_wp2_with (with_reducible refine park_load 3 _ rfl ?_)
  refine wpList_load_eq rfl _ (.tmp 3) rfl hld ?_
  go_wp2_with (with_reducible refine park_store 2 78 _ rfl ?_)
  refine wpList_store_eq rfl _ (.tmp 2) (.tmp 78) rfl hs9 ?_
  clear hs9 hld
  go_wp2
  exact bodyPost_ret (results_row rfl _ _ (G + 1) _ rfl HL9.out) rfl ⟨rfl, HK9.out⟩

set_option maxHeartbeats 8000000 in
set_option maxRecDepth 100000 in
theorem bare_4 (site peer unit at_ n : Int) (text : ByteArray) (ad1 ad2 : Option Addr) (nd cap1 nb cap2 : Nat) (W : World) : Calls Tryd.prog 10 #[.agg #[.int .i64 4, .int .i64 site, .int .i64 peer, .int .i64 unit, .int .i64 at_, .int .i64 n, .string text, .slice ad1 nd cap1, .slice ad2 nb cap2]] W fun e W' => e = .returned (.agg #[.int .i64 4, .int .i64 site, .int .i64 0, .int .i64 0, .int .i64 0, .int .i64 0, .string ⟨#[]⟩, .slice none 0 0, .slice none 0 0]) ∧ Keep [] W W' := by
  go_enter Tryd.func10, Tryd.ntmps10
  go_upto_region 2 with (fail)
  obtain ⟨G, hG⟩ : ∃ G, G = W.heap.size := ⟨_, rfl⟩
  obtain ⟨w1, hw1⟩ : ∃ w1, w1 = ((W.alloc (.cells #[.int .i64 4, .int .i64 site, .int .i64 peer, .int .i64 unit, .int .i64 at_, .int .i64 n, .string text, .slice ad1 nd cap1, .slice ad2 nb cap2] 31)).alloc (.cells #[.int .i64 0, .int .i64 0, .int .i64 0, .int .i64 0, .int .i64 0, .int .i64 0, .string ⟨#[]⟩, .slice none 0 0, .slice none 0 0] 31)).alloc (.cells #[.int .i64 4, .int .i64 0, .int .i64 0, .int .i64 0, .int .i64 0, .int .i64 0, .string ⟨#[]⟩, .slice none 0 0, .slice none 0 0] 31) := ⟨_, rfl⟩
  have hk1 : Keep [] W w1 := by rw [hw1]; exact (((Keep.refl _ _).alloc _).alloc _).alloc _
  have hb0 : w1.heap[G]? = some (.cells #[.int .i64 4, .int .i64 site, .int .i64 peer, .int .i64 unit, .int .i64 at_, .int .i64 n, .string text, .slice ad1 nd cap1, .slice ad2 nb cap2] 31 (0, 0)) := by rw [hw1, hG]; exact oblk (oblk (nblk (by simp)))
  have hb1 : w1.heap[G + 1]? = some (.cells #[.int .i64 0, .int .i64 0, .int .i64 0, .int .i64 0, .int .i64 0, .int .i64 0, .string ⟨#[]⟩, .slice none 0 0, .slice none 0 0] 31 (0, 0)) := by rw [hw1, hG]; exact oblk (nblk (by simp))
  have hb2 : w1.heap[G + 2]? = some (.cells #[.int .i64 4, .int .i64 0, .int .i64 0, .int .i64 0, .int .i64 0, .int .i64 0, .string ⟨#[]⟩, .slice none 0 0, .slice none 0 0] 31 (0, 0)) := by rw [hw1, hG]; exact nblk (by simp)
  rw [← hw1]
  simp only [Nat.add_assoc, Nat.reduceAdd]
  rw [← hG]
  have HK1 := Lib.hid hk1
  have HGG := Lib.hid hG
  have HB1 := Lib.hid hb1
  have c0 := cell_of_block hb0 0
  have c1 := cell_of_block hb0 1
  have c2 := cell_of_block hb0 2
  have c4 := cell_of_block hb0 4
  have c5 := cell_of_block hb0 5
  have c6 := cell_of_block hb0 6
  have c7 := cell_of_block hb0 7
  have c8 := cell_of_block hb0 8
  simp at c0 c1 c2 c4 c5 c6 c7 c8
  clear hw1 hk1 hG hb1
  have HB2 := Lib.hid hb2
  have p0 : w1.cell? ⟨G + 2, 1, none⟩ = some (.int .i64 0) := by rw [cell_of_block hb2]; rfl
  have z0 : w1.frozen? ⟨G + 2, 1, none⟩ = false := free_of_block hb2 1
  obtain ⟨u, hu⟩ : ∃ u, u = w1.setCell ⟨G + 2, 1, none⟩ (.int .i64 site) := ⟨_, rfl⟩
  have ku : Keep [G + 2] w1 u := by rw [hu]; exact (Keep.refl _ _).setCell (.inl (by simp)) _
  have eu : u.heap[G + 2]? = some (.cells #[.int .i64 4, .int .i64 site, .int .i64 0, .int .i64 0, .int .i64 0, .int .i64 0, .string ⟨#[]⟩, .slice none 0 0, .slice none 0 0] 31 (0, 0)) := by rw [hu]; exact block_setCell hb2 1 _
  obtain ⟨W9, hs9, hb9, hl9, hk9⟩ := put_step (G + 1) _ #[.int .i64 4, .int .i64 site, .int .i64 0, .int .i64 0, .int .i64 0, .int .i64 0, .string ⟨#[]⟩, .slice none 0 0, .slice none 0 0] u (ku.at_ HB1.out (by simp)) rfl rfl (by simp [Value.oneCell'])
  have HL9 := Lib.hid hl9
  have HK9 := Lib.hid (show Keep [] W W9 from (HK1.out.trans ku (fun x hx => by simp at hx; subst hx; exact .inr (by have := HGG.out; omega))).trans hk9 (fun x hx => by simp at hx; subst hx; exact .inr (by have := HGG.out; omega)))
  have hld : (Instr.loadAt 31 (.pointer (some ⟨G + 2, 0, none⟩))).run Tryd.prog u = .ok (.agg #[.int .i64 4, .int .i64 site, .int .i64 0, .int .i64 0, .int .i64 0, .int .i64 0, .string ⟨#[]⟩, .slice none 0 0, .slice none 0 0]) u := load_row (P := Tryd.prog) Tryd.underlying31 rfl step_info eu rfl
  clear hl9 hk9 hb9 ku eu hb2 hb0
  go_wp2_with (with_reducible refine park_load 3 _ rfl ?_)
  rw [← hu]
  clear hu
  refine wpList_load_eq rfl _ (.tmp 3) rfl hld ?_
  go_wp2_with (with_reducible refine park_store 2 78 _ rfl ?_)
  refine wpList_store_eq rfl _ (.tmp 2) (.tmp 78) rfl hs9 ?_
  clear hs9 hld
  go_wp2
  exact bodyPost_ret (results_row rfl _ _ (G + 1) _ rfl HL9.out) rfl ⟨rfl, HK9.out⟩

set_option maxHeartbeats 8000000 in
set_option maxRecDepth 100000 in
theorem bare_5 (site peer unit at_ n : Int) (text : ByteArray) (ad1 ad2 : Option Addr) (nd cap1 nb cap2 : Nat) (W : World) : Calls Tryd.prog 10 #[.agg #[.int .i64 5, .int .i64 site, .int .i64 peer, .int .i64 unit, .int .i64 at_, .int .i64 n, .string text, .slice ad1 nd cap1, .slice ad2 nb cap2]] W fun e W' => e = .returned (.agg #[.int .i64 5, .int .i64 site, .int .i64 0, .int .i64 0, .int .i64 0, .int .i64 0, .string ⟨#[]⟩, .slice none 0 0, .slice none 0 0]) ∧ Keep [] W W' := by
  go_enter Tryd.func10, Tryd.ntmps10
  go_upto_region 2 with (fail)
  obtain ⟨G, hG⟩ : ∃ G, G = W.heap.size := ⟨_, rfl⟩
  obtain ⟨w1, hw1⟩ : ∃ w1, w1 = ((W.alloc (.cells #[.int .i64 5, .int .i64 site, .int .i64 peer, .int .i64 unit, .int .i64 at_, .int .i64 n, .string text, .slice ad1 nd cap1, .slice ad2 nb cap2] 31)).alloc (.cells #[.int .i64 0, .int .i64 0, .int .i64 0, .int .i64 0, .int .i64 0, .int .i64 0, .string ⟨#[]⟩, .slice none 0 0, .slice none 0 0] 31)).alloc (.cells #[.int .i64 5, .int .i64 0, .int .i64 0, .int .i64 0, .int .i64 0, .int .i64 0, .string ⟨#[]⟩, .slice none 0 0, .slice none 0 0] 31) := ⟨_, rfl⟩
  have hk1 : Keep [] W w1 := by rw [hw1]; exact (((Keep.refl _ _).alloc _).alloc _).alloc _
  have hb0 : w1.heap[G]? = some (.cells #[.int .i64 5, .int .i64 site, .int .i64 peer, .int .i64 unit, .int .i64 at_, .int .i64 n, .string text, .slice ad1 nd cap1, .slice ad2 nb cap2] 31 (0, 0)) := by rw [hw1, hG]; exact oblk (oblk (nblk (by simp)))
  have hb1 : w1.heap[G + 1]? = some (.cells #[.int .i64 0, .int .i64 0, .int .i64 0, .int .i64 0, .int .i64 0, .int .i64 0, .string ⟨#[]⟩, .slice none 0 0, .slice none 0 0] 31 (0, 0)) := by rw [hw1, hG]; exact oblk (nblk (by simp))
  have hb2 : w1.heap[G + 2]? = some (.cells #[.int .i64 5, .int .i64 0, .int .i64 0, .int .i64 0, .int .i64 0, .int .i64 0, .string ⟨#[]⟩, .slice none 0 0, .slice none 0 0] 31 (0, 0)) := by rw [hw1, hG]; exact nblk (by simp)
  rw [← hw1]
  simp only [Nat.add_assoc, Nat.reduceAdd]
  rw [← hG]
  have HK1 := Lib.hid hk1
  have HGG := Lib.hid hG
  have HB1 := Lib.hid hb1
  have c0 := cell_of_block hb0 0
  have c1 := cell_of_block hb0 1
  have c2 := cell_of_block hb0 2
  have c4 := cell_of_block hb0 4
  have c5 := cell_of_block hb0 5
  have c6 := cell_of_block hb0 6
  have c7 := cell_of_block hb0 7
  have c8 := cell_of_block hb0 8
  simp at c0 c1 c2 c4 c5 c6 c7 c8
  clear hw1 hk1 hG hb1
  have HB2 := Lib.hid hb2
  have p0 : w1.cell? ⟨G + 2, 1, none⟩ = some (.int .i64 0) := by rw [cell_of_block hb2]; rfl
  have z0 : w1.frozen? ⟨G + 2, 1, none⟩ = false := free_of_block hb2 1
  obtain ⟨u, hu⟩ : ∃ u, u = w1.setCell ⟨G + 2, 1, none⟩ (.int .i64 site) := ⟨_, rfl⟩
  have ku : Keep [G + 2] w1 u := by rw [hu]; exact (Keep.refl _ _).setCell (.inl (by simp)) _
  have eu : u.heap[G + 2]? = some (.cells #[.int .i64 5, .int .i64 site, .int .i64 0, .int .i64 0, .int .i64 0, .int .i64 0, .string ⟨#[]⟩, .slice none 0 0, .slice none 0 0] 31 (0, 0)) := by rw [hu]; exact block_setCell hb2 1 _
  obtain ⟨W9, hs9, hb9, hl9, hk9⟩ := put_step (G + 1) _ #[.int .i64 5, .int .i64 site, .int .i64 0, .int .i64 0, .int .i64 0, .int .i64 0, .string ⟨#[]⟩, .slice none 0 0, .slice none 0 0] u (ku.at_ HB1.out (by simp)) rfl rfl (by simp [Value.oneCell'])
  have HL9 := Lib.hid hl9
  have HK9 := Lib.hid (show Keep [] W W9 from (HK1.out.trans ku (fun x hx => by simp at hx; subst hx; exact .inr (by have := HGG.out; omega))).trans hk9 (fun x hx => by simp at hx; subst hx; exact .inr (by have := HGG.out; omega)))
  have hld : (Instr.loadAt 31 (.pointer (some ⟨G + 2, 0, none⟩))).run Tryd.prog u = .ok (.agg #[.int .i64 5, .int .i64 site, .int .i64 0, .int .i64 0, .int .i64 0, .int .i64 0, .string ⟨#[]⟩, .slice none 0 0, .slice none 0 0]) u := load_row (P := Tryd.prog) Tryd.underlying31 rfl step_info eu rfl
  clear hl9 hk9 hb9 ku eu hb2 hb0
  go_wp2_with (with_reducible refine park_load 3 _ rfl ?_)
  rw [← hu]
  clear hu
  refine wpList_load_eq rfl _ (.tmp 3) rfl hld ?_
  go_wp2_with (with_reducible refine park_store 2 78 _ rfl ?_)
  refine wpList_store_eq rfl _ (.tmp 2) (.tmp 78) rfl hs9 ?_
  clear hs9 hld
  go_wp2
  exact bodyPost_ret (results_row rfl _ _ (G + 1) _ rfl HL9.out) rfl ⟨rfl, HK9.out⟩

set_option maxHeartbeats 8000000 in
set_option maxRecDepth 100000 in
theorem bare_6 (site peer unit at_ n : Int) (text : ByteArray) (ad1 ad2 : Option Addr) (nd cap1 nb cap2 : Nat) (W : World) : Calls Tryd.prog 10 #[.agg #[.int .i64 6, .int .i64 site, .int .i64 peer, .int .i64 unit, .int .i64 at_, .int .i64 n, .string text, .slice ad1 nd cap1, .slice ad2 nb cap2]] W fun e W' => e = .returned (.agg #[.int .i64 6, .int .i64 0, .int .i64 0, .int .i64 0, .int .i64 0, .int .i64 0, .string ⟨#[]⟩, .slice ad1 nd cap1, .slice none 0 0]) ∧ Keep [] W W' := by
  go_enter Tryd.func10, Tryd.ntmps10
  go_upto_region 2 with (fail)
  obtain ⟨G, hG⟩ : ∃ G, G = W.heap.size := ⟨_, rfl⟩
  obtain ⟨w1, hw1⟩ : ∃ w1, w1 = ((W.alloc (.cells #[.int .i64 6, .int .i64 site, .int .i64 peer, .int .i64 unit, .int .i64 at_, .int .i64 n, .string text, .slice ad1 nd cap1, .slice ad2 nb cap2] 31)).alloc (.cells #[.int .i64 0, .int .i64 0, .int .i64 0, .int .i64 0, .int .i64 0, .int .i64 0, .string ⟨#[]⟩, .slice none 0 0, .slice none 0 0] 31)).alloc (.cells #[.int .i64 6, .int .i64 0, .int .i64 0, .int .i64 0, .int .i64 0, .int .i64 0, .string ⟨#[]⟩, .slice none 0 0, .slice none 0 0] 31) := ⟨_, rfl⟩
  have hk1 : Keep [] W w1 := by rw [hw1]; exact (((Keep.refl _ _).alloc _).alloc _).alloc _
  have hb0 : w1.heap[G]? = some (.cells #[.int .i64 6, .int .i64 site, .int .i64 peer, .int .i64 unit, .int .i64 at_, .int .i64 n, .string text, .slice ad1 nd cap1, .slice ad2 nb cap2] 31 (0, 0)) := by rw [hw1, hG]; exact oblk (oblk (nblk (by simp)))
  have hb1 : w1.heap[G + 1]? = some (.cells #[.int .i64 0, .int .i64 0, .int .i64 0, .int .i64 0, .int .i64 0, .int .i64 0, .string ⟨#[]⟩, .slice none 0 0, .slice none 0 0] 31 (0, 0)) := by rw [hw1, hG]; exact oblk (nblk (by simp))
  have hb2 : w1.heap[G + 2]? = some (.cells #[.int .i64 6, .int .i64 0, .int .i64 0, .int .i64 0, .int .i64 0, .int .i64 0, .string ⟨#[]⟩, .slice none 0 0, .slice none 0 0] 31 (0, 0)) := by rw [hw1, hG]; exact nblk (by simp)
  rw [← hw1]
  simp only [Nat.add_assoc, Nat.reduceAdd]
  rw [← hG]
  have HK1 := Lib.hid hk1
  have HGG := Lib.hid hG
  have HB1 := Lib.hid hb1
  have c0 := cell_of_block hb0 0
  have c1 := cell_of_block hb0 1
  have c2 := cell_of_block hb0 2
  have c4 := cell_of_block hb0 4
  have c5 := cell_of_block hb0 5
  have c6 := cell_of_block hb0 6
  have c7 := cell_of_block hb0 7
  have c8 := cell_of_block hb0 8
  simp at c0 c1 c2 c4 c5 c6 c7 c8
  clear hw1 hk1 hG hb1
  have HB2 := Lib.hid hb2
  have p0 : w1.cell? ⟨G + 2, 7, none⟩ = some (.slice none 0 0) := by rw [cell_of_block hb2]; rfl
  have z0 : w1.frozen? ⟨G + 2, 7, none⟩ = false := free_of_block hb2 7
  obtain ⟨u, hu⟩ : ∃ u, u = w1.setCell ⟨G + 2, 7, none⟩ (.slice ad1 nd cap1) := ⟨_, rfl⟩
  have ku : Keep [G + 2] w1 u := by rw [hu]; exact (Keep.refl _ _).setCell (.inl (by simp)) _
  have eu : u.heap[G + 2]? = some (.cells #[.int .i64 6, .int .i64 0, .int .i64 0, .int .i64 0, .int .i64 0, .int .i64 0, .string ⟨#[]⟩, .slice ad1 nd cap1, .slice none 0 0] 31 (0, 0)) := by rw [hu]; exact block_setCell hb2 7 _
  obtain ⟨W9, hs9, hb9, hl9, hk9⟩ := put_step (G + 1) _ #[.int .i64 6, .int .i64 0, .int .i64 0, .int .i64 0, .int .i64 0, .int .i64 0, .string ⟨#[]⟩, .slice ad1 nd cap1, .slice none 0 0] u (ku.at_ HB1.out (by simp)) rfl rfl (by simp [Value.oneCell'])
  have HL9 := Lib.hid hl9
  have HK9 := Lib.hid (show Keep [] W W9 from (HK1.out.trans ku (fun x hx => by simp at hx; subst hx; exact .inr (by have := HGG.out; omega))).trans hk9 (fun x hx => by simp at hx; subst hx; exact .inr (by have := HGG.out; omega)))
  have hld : (Instr.loadAt 31 (.pointer (some ⟨G + 2, 0, none⟩))).run Tryd.prog u = .ok (.agg #[.int .i64 6, .int .i64 0, .int .i64 0, .int .i64 0, .int .i64 0, .int .i64 0, .string ⟨#[]⟩, .slice ad1 nd cap1, .slice none 0 0]) u := load_row (P := Tryd.prog) Tryd.underlying31 rfl step_info eu rfl
  clear hl9 hk9 hb9 ku eu hb2 hb0
  go_wp2_with (with_reducible refine park_load 3 _ rfl ?_)
  rw [← hu]
  clear hu
  refine wpList_load_eq rfl _ (.tmp 3) rfl hld ?_
  go_wp2_with (with_reducible refine park_store 2 78 _ rfl ?_)
  refine wpList_store_eq rfl _ (.tmp 2) (.tmp 78) rfl hs9 ?_
  clear hs9 hld
  go_wp2
  exact bodyPost_ret (results_row rfl _ _ (G + 1) _ rfl HL9.out) rfl ⟨rfl, HK9.out⟩

set_option maxHeartbeats 8000000 in
set_option maxRecDepth 100000 in
theorem bare_7 (site peer unit at_ n : Int) (text : ByteArray) (ad1 ad2 : Option Addr) (nd cap1 nb cap2 : Nat) (W : World) : Calls Tryd.prog 10 #[.agg #[.int .i64 7, .int .i64 site, .int .i64 peer, .int .i64 unit, .int .i64 at_, .int .i64 n, .string text, .slice ad1 nd cap1, .slice ad2 nb cap2]] W fun e W' => e = .returned (.agg #[.int .i64 7, .int .i64 0, .int .i64 0, .int .i64 0, .int .i64 0, .int .i64 n, .string ⟨#[]⟩, .slice none 0 0, .slice none 0 0]) ∧ Keep [] W W' := by
  go_enter Tryd.func10, Tryd.ntmps10
  go_upto_region 2 with (fail)
  obtain ⟨G, hG⟩ : ∃ G, G = W.heap.size := ⟨_, rfl⟩
  obtain ⟨w1, hw1⟩ : ∃ w1, w1 = ((W.alloc (.cells #[.int .i64 7, .int .i64 site, .int .i64 peer, .int .i64 unit, .int .i64 at_, .int .i64 n, .string text, .slice ad1 nd cap1, .slice ad2 nb cap2] 31)).alloc (.cells #[.int .i64 0, .int .i64 0, .int .i64 0, .int .i64 0, .int .i64 0, .int .i64 0, .string ⟨#[]⟩, .slice none 0 0, .slice none 0 0] 31)).alloc (.cells #[.int .i64 7, .int .i64 0, .int .i64 0, .int .i64 0, .int .i64 0, .int .i64 0, .string ⟨#[]⟩, .slice none 0 0, .slice none 0 0] 31) := ⟨_, rfl⟩
  have hk1 : Keep [] W w1 := by rw [hw1]; exact (((Keep.refl _ _).alloc _).alloc _).alloc _
  have hb0 : w1.heap[G]? = some (.cells #[.int .i64 7, .int .i64 site, .int .i64 peer, .int .i64 unit, .int .i64 at_, .int .i64 n, .string text, .slice ad1 nd cap1, .slice ad2 nb cap2] 31 (0, 0)) := by rw [hw1, hG]; exact oblk (oblk (nblk (by simp)))
  have hb1 : w1.heap[G + 1]? = some (.cells #[.int .i64 0, .int .i64 0, .int .i64 0, .int .i64 0, .int .i64 0, .int .i64 0, .string ⟨#[]⟩, .slice none 0 0, .slice none 0 0] 31 (0, 0)) := by rw [hw1, hG]; exact oblk (nblk (by simp))
  have hb2 : w1.heap[G + 2]? = some (.cells #[.int .i64 7, .int .i64 0, .int .i64 0, .int .i64 0, .int .i64 0, .int .i64 0, .string ⟨#[]⟩, .slice none 0 0, .slice none 0 0] 31 (0, 0)) := by rw [hw1, hG]; exact nblk (by simp)
  rw [← hw1]
  simp only [Nat.add_assoc, Nat.reduceAdd]
  rw [← hG]
  have HK1 := Lib.hid hk1
  have HGG := Lib.hid hG
  have HB1 := Lib.hid hb1
  have c0 := cell_of_block hb0 0
  have c1 := cell_of_block hb0 1
  have c2 := cell_of_block hb0 2
  have c4 := cell_of_block hb0 4
  have c5 := cell_of_block hb0 5
  have c6 := cell_of_block hb0 6
  have c7 := cell_of_block hb0 7
  have c8 := cell_of_block hb0 8
  simp at c0 c1 c2 c4 c5 c6 c7 c8
  clear hw1 hk1 hG hb1
  have HB2 := Lib.hid hb2
  have p0 : w1.cell? ⟨G + 2, 5, none⟩ = some (.int .i64 0) := by rw [cell_of_block hb2]; rfl
  have z0 : w1.frozen? ⟨G + 2, 5, none⟩ = false := free_of_block hb2 5
  obtain ⟨u, hu⟩ : ∃ u, u = w1.setCell ⟨G + 2, 5, none⟩ (.int .i64 n) := ⟨_, rfl⟩
  have ku : Keep [G + 2] w1 u := by rw [hu]; exact (Keep.refl _ _).setCell (.inl (by simp)) _
  have eu : u.heap[G + 2]? = some (.cells #[.int .i64 7, .int .i64 0, .int .i64 0, .int .i64 0, .int .i64 0, .int .i64 n, .string ⟨#[]⟩, .slice none 0 0, .slice none 0 0] 31 (0, 0)) := by rw [hu]; exact block_setCell hb2 5 _
  obtain ⟨W9, hs9, hb9, hl9, hk9⟩ := put_step (G + 1) _ #[.int .i64 7, .int .i64 0, .int .i64 0, .int .i64 0, .int .i64 0, .int .i64 n, .string ⟨#[]⟩, .slice none 0 0, .slice none 0 0] u (ku.at_ HB1.out (by simp)) rfl rfl (by simp [Value.oneCell'])
  have HL9 := Lib.hid hl9
  have HK9 := Lib.hid (show Keep [] W W9 from (HK1.out.trans ku (fun x hx => by simp at hx; subst hx; exact .inr (by have := HGG.out; omega))).trans hk9 (fun x hx => by simp at hx; subst hx; exact .inr (by have := HGG.out; omega)))
  have hld : (Instr.loadAt 31 (.pointer (some ⟨G + 2, 0, none⟩))).run Tryd.prog u = .ok (.agg #[.int .i64 7, .int .i64 0, .int .i64 0, .int .i64 0, .int .i64 0, .int .i64 n, .string ⟨#[]⟩, .slice none 0 0, .slice none 0 0]) u := load_row (P := Tryd.prog) Tryd.underlying31 rfl step_info eu rfl
  clear hl9 hk9 hb9 ku eu hb2 hb0
  go_wp2_with (with_reducible refine park_load 3 _ rfl ?_)
  rw [← hu]
  clear hu
  refine wpList_load_eq rfl _ (.tmp 3) rfl hld ?_
  go_wp2_with (with_reducible refine park_store 2 78 _ rfl ?_)
  refine wpList_store_eq rfl _ (.tmp 2) (.tmp 78) rfl hs9 ?_
  clear hs9 hld
  go_wp2
  exact bodyPost_ret (results_row rfl _ _ (G + 1) _ rfl HL9.out) rfl ⟨rfl, HK9.out⟩

set_option maxHeartbeats 8000000 in
set_option maxRecDepth 100000 in
theorem bare_8 (site peer unit at_ n : Int) (text : ByteArray) (ad1 ad2 : Option Addr) (nd cap1 nb cap2 : Nat) (W : World) : Calls Tryd.prog 10 #[.agg #[.int .i64 8, .int .i64 site, .int .i64 peer, .int .i64 unit, .int .i64 at_, .int .i64 n, .string text, .slice ad1 nd cap1, .slice ad2 nb cap2]] W fun e W' => e = .returned (.agg #[.int .i64 8, .int .i64 0, .int .i64 0, .int .i64 0, .int .i64 0, .int .i64 n, .string ⟨#[]⟩, .slice none 0 0, .slice none 0 0]) ∧ Keep [] W W' := by
  go_enter Tryd.func10, Tryd.ntmps10
  go_upto_region 2 with (fail)
  obtain ⟨G, hG⟩ : ∃ G, G = W.heap.size := ⟨_, rfl⟩
  obtain ⟨w1, hw1⟩ : ∃ w1, w1 = ((W.alloc (.cells #[.int .i64 8, .int .i64 site, .int .i64 peer, .int .i64 unit, .int .i64 at_, .int .i64 n, .string text, .slice ad1 nd cap1, .slice ad2 nb cap2] 31)).alloc (.cells #[.int .i64 0, .int .i64 0, .int .i64 0, .int .i64 0, .int .i64 0, .int .i64 0, .string ⟨#[]⟩, .slice none 0 0, .slice none 0 0] 31)).alloc (.cells #[.int .i64 8, .int .i64 0, .int .i64 0, .int .i64 0, .int .i64 0, .int .i64 0, .string ⟨#[]⟩, .slice none 0 0, .slice none 0 0] 31) := ⟨_, rfl⟩
  have hk1 : Keep [] W w1 := by rw [hw1]; exact (((Keep.refl _ _).alloc _).alloc _).alloc _
  have hb0 : w1.heap[G]? = some (.cells #[.int .i64 8, .int .i64 site, .int .i64 peer, .int .i64 unit, .int .i64 at_, .int .i64 n, .string text, .slice ad1 nd cap1, .slice ad2 nb cap2] 31 (0, 0)) := by rw [hw1, hG]; exact oblk (oblk (nblk (by simp)))
  have hb1 : w1.heap[G + 1]? = some (.cells #[.int .i64 0, .int .i64 0, .int .i64 0, .int .i64 0, .int .i64 0, .int .i64 0, .string ⟨#[]⟩, .slice none 0 0, .slice none 0 0] 31 (0, 0)) := by rw [hw1, hG]; exact oblk (nblk (by simp))
  have hb2 : w1.heap[G + 2]? = some (.cells #[.int .i64 8, .int .i64 0, .int .i64 0, .int .i64 0, .int .i64 0, .int .i64 0, .string ⟨#[]⟩, .slice none 0 0, .slice none 0 0] 31 (0, 0)) := by rw [hw1, hG]; exact nblk (by simp)
  rw [← hw1]
  simp only [Nat.add_assoc, Nat.reduceAdd]
  rw [← hG]
  have HK1 := Lib.hid hk1
  have HGG := Lib.hid hG
  have HB1 := Lib.hid hb1
  have c0 := cell_of_block hb0 0
  have c1 := cell_of_block hb0 1
  have c2 := cell_of_block hb0 2
  have c4 := cell_of_block hb0 4
  have c5 := cell_of_block hb0 5
  have c6 := cell_of_block hb0 6
  have c7 := cell_of_block hb0 7
  have c8 := cell_of_block hb0 8
  simp at c0 c1 c2 c4 c5 c6 c7 c8
  clear hw1 hk1 hG hb1
  have HB2 := Lib.hid hb2
  have p0 : w1.cell? ⟨G + 2, 5, none⟩ = some (.int .i64 0) := by rw [cell_of_block hb2]; rfl
  have z0 : w1.frozen? ⟨G + 2, 5, none⟩ = false := free_of_block hb2 5
  obtain ⟨u, hu⟩ : ∃ u, u = w1.setCell ⟨G + 2, 5, none⟩ (.int .i64 n) := ⟨_, rfl⟩
  have ku : Keep [G + 2] w1 u := by rw [hu]; exact (Keep.refl _ _).setCell (.inl (by simp)) _
  have eu : u.heap[G + 2]? = some (.cells #[.int .i64 8, .int .i64 0, .int .i64 0, .int .i64 0, .int .i64 0, .int .i64 n, .string ⟨#[]⟩, .slice none 0 0, .slice none 0 0] 31 (0, 0)) := by rw [hu]; exact block_setCell hb2 5 _
  obtain ⟨W9, hs9, hb9, hl9, hk9⟩ := put_step (G + 1) _ #[.int .i64 8, .int .i64 0, .int .i64 0, .int .i64 0, .int .i64 0, .int .i64 n, .string ⟨#[]⟩, .slice none 0 0, .slice none 0 0] u (ku.at_ HB1.out (by simp)) rfl rfl (by simp [Value.oneCell'])
  have HL9 := Lib.hid hl9
  have HK9 := Lib.hid (show Keep [] W W9 from (HK1.out.trans ku (fun x hx => by simp at hx; subst hx; exact .inr (by have := HGG.out; omega))).trans hk9 (fun x hx => by simp at hx; subst hx; exact .inr (by have := HGG.out; omega)))
  have hld : (Instr.loadAt 31 (.pointer (some ⟨G + 2, 0, none⟩))).run Tryd.prog u = .ok (.agg #[.int .i64 8, .int .i64 0, .int .i64 0, .int .i64 0, .int .i64 0, .int .i64 n, .string ⟨#[]⟩, .slice none 0 0, .slice none 0 0]) u := load_row (P := Tryd.prog) Tryd.underlying31 rfl step_info eu rfl
  clear hl9 hk9 hb9 ku eu hb2 hb0
  go_wp2_with (with_reducible refine park_load 3 _ rfl ?_)
  rw [← hu]
  clear hu
  refine wpList_load_eq rfl _ (.tmp 3) rfl hld ?_
  go_wp2_with (with_reducible refine park_store 2 78 _ rfl ?_)
  refine wpList_store_eq rfl _ (.tmp 2) (.tmp 78) rfl hs9 ?_
  clear hs9 hld
  go_wp2
  exact bodyPost_ret (results_row rfl _ _ (G + 1) _ rfl HL9.out) rfl ⟨rfl, HK9.out⟩

set_option maxHeartbeats 8000000 in
set_option maxRecDepth 100000 in
theorem bare_9 (site peer unit at_ n : Int) (text : ByteArray) (ad1 ad2 : Option Addr) (nd cap1 nb cap2 : Nat) (W : World) : Calls Tryd.prog 10 #[.agg #[.int .i64 9, .int .i64 site, .int .i64 peer, .int .i64 unit, .int .i64 at_, .int .i64 n, .string text, .slice ad1 nd cap1, .slice ad2 nb cap2]] W fun e W' => e = .returned (.agg #[.int .i64 9, .int .i64 0, .int .i64 0, .int .i64 0, .int .i64 0, .int .i64 n, .string ⟨#[]⟩, .slice none 0 0, .slice none 0 0]) ∧ Keep [] W W' := by
  go_enter Tryd.func10, Tryd.ntmps10
  go_upto_region 2 with (fail)
  obtain ⟨G, hG⟩ : ∃ G, G = W.heap.size := ⟨_, rfl⟩
  obtain ⟨w1, hw1⟩ : ∃ w1, w1 = ((W.alloc (.cells #[.int .i64 9, .int .i64 site, .int .i64 peer, .int .i64 unit, .int .i64 at_, .int .i64 n, .string text, .slice ad1 nd cap1, .slice ad2 nb cap2] 31)).alloc (.cells #[.int .i64 0, .int .i64 0, .int .i64 0, .int .i64 0, .int .i64 0, .int .i64 0, .string ⟨#[]⟩, .slice none 0 0, .slice none 0 0] 31)).alloc (.cells #[.int .i64 9, .int .i64 0, .int .i64 0, .int .i64 0, .int .i64 0, .int .i64 0, .string ⟨#[]⟩, .slice none 0 0, .slice none 0 0] 31) := ⟨_, rfl⟩
  have hk1 : Keep [] W w1 := by rw [hw1]; exact (((Keep.refl _ _).alloc _).alloc _).alloc _
  have hb0 : w1.heap[G]? = some (.cells #[.int .i64 9, .int .i64 site, .int .i64 peer, .int .i64 unit, .int .i64 at_, .int .i64 n, .string text, .slice ad1 nd cap1, .slice ad2 nb cap2] 31 (0, 0)) := by rw [hw1, hG]; exact oblk (oblk (nblk (by simp)))
  have hb1 : w1.heap[G + 1]? = some (.cells #[.int .i64 0, .int .i64 0, .int .i64 0, .int .i64 0, .int .i64 0, .int .i64 0, .string ⟨#[]⟩, .slice none 0 0, .slice none 0 0] 31 (0, 0)) := by rw [hw1, hG]; exact oblk (nblk (by simp))
  have hb2 : w1.heap[G + 2]? = some (.cells #[.int .i64 9, .int .i64 0, .int .i64 0, .int .i64 0, .int .i64 0, .int .i64 0, .string ⟨#[]⟩, .slice none 0 0, .slice none 0 0] 31 (0, 0)) := by rw [hw1, hG]; exact nblk (by simp)
  rw [← hw1]
  simp only [Nat.add_assoc, Nat.reduceAdd]
  rw [← hG]
  have HK1 := Lib.hid hk1
  have HGG := Lib.hid hG
  have HB1 := Lib.hid hb1
  have c0 := cell_of_block hb0 0
  have c1 := cell_of_block hb0 1
  have c2 := cell_of_block hb0 2
  have c4 := cell_of_block hb0 4
  have c5 := cell_of_block hb0 5
  have c6 := cell_of_block hb0 6
  have c7 := cell_of_block hb0 7
  have c8 := cell_of_block hb0 8
  simp at c0 c1 c2 c4 c5 c6 c7 c8
  clear hw1 hk1 hG hb1
  have HB2 := Lib.hid hb2
  have p0 : w1.cell? ⟨G + 2, 5, none⟩ = some (.int .i64 0) := by rw [cell_of_block hb2]; rfl
  have z0 : w1.frozen? ⟨G + 2, 5, none⟩ = false := free_of_block hb2 5
  obtain ⟨u, hu⟩ : ∃ u, u = w1.setCell ⟨G + 2, 5, none⟩ (.int .i64 n) := ⟨_, rfl⟩
  have ku : Keep [G + 2] w1 u := by rw [hu]; exact (Keep.refl _ _).setCell (.inl (by simp)) _
  have eu : u.heap[G + 2]? = some (.cells #[.int .i64 9, .int .i64 0, .int .i64 0, .int .i64 0, .int .i64 0, .int .i64 n, .string ⟨#[]⟩, .slice none 0 0, .slice none 0 0] 31 (0, 0)) := by rw [hu]; exact block_setCell hb2 5 _
  obtain ⟨W9, hs9, hb9, hl9, hk9⟩ := put_step (G + 1) _ #[.int .i64 9, .int .i64 0, .int .i64 0, .int .i64 0, .int .i64 0, .int .i64 n, .string ⟨#[]⟩, .slice none 0 0, .slice none 0 0] u (ku.at_ HB1.out (by simp)) rfl rfl (by simp [Value.oneCell'])
  have HL9 := Lib.hid hl9
  have HK9 := Lib.hid (show Keep [] W W9 from (HK1.out.trans ku (fun x hx => by simp at hx; subst hx; exact .inr (by have := HGG.out; omega))).trans hk9 (fun x hx => by simp at hx; subst hx; exact .inr (by have := HGG.out; omega)))
  have hld : (Instr.loadAt 31 (.pointer (some ⟨G + 2, 0, none⟩))).run Tryd.prog u = .ok (.agg #[.int .i64 9, .int .i64 0, .int .i64 0, .int .i64 0, .int .i64 0, .int .i64 n, .string ⟨#[]⟩, .slice none 0 0, .slice none 0 0]) u := load_row (P := Tryd.prog) Tryd.underlying31 rfl step_info eu rfl
  clear hl9 hk9 hb9 ku eu hb2 hb0
  go_wp2_with (with_reducible refine park_load 3 _ rfl ?_)
  rw [← hu]
  clear hu
  refine wpList_load_eq rfl _ (.tmp 3) rfl hld ?_
  go_wp2_with (with_reducible refine park_store 2 78 _ rfl ?_)
  refine wpList_store_eq rfl _ (.tmp 2) (.tmp 78) rfl hs9 ?_
  clear hs9 hld
  go_wp2
  exact bodyPost_ret (results_row rfl _ _ (G + 1) _ rfl HL9.out) rfl ⟨rfl, HK9.out⟩

set_option maxHeartbeats 8000000 in
set_option maxRecDepth 100000 in
theorem bare_10 (site peer unit at_ n : Int) (text : ByteArray) (ad1 ad2 : Option Addr) (nd cap1 nb cap2 : Nat) (W : World) : Calls Tryd.prog 10 #[.agg #[.int .i64 10, .int .i64 site, .int .i64 peer, .int .i64 unit, .int .i64 at_, .int .i64 n, .string text, .slice ad1 nd cap1, .slice ad2 nb cap2]] W fun e W' => e = .returned (.agg #[.int .i64 10, .int .i64 0, .int .i64 0, .int .i64 0, .int .i64 at_, .int .i64 n, .string ⟨#[]⟩, .slice none 0 0, .slice ad2 nb cap2]) ∧ Keep [] W W' := by
  go_enter Tryd.func10, Tryd.ntmps10
  go_upto_region 2 with (fail)
  obtain ⟨G, hG⟩ : ∃ G, G = W.heap.size := ⟨_, rfl⟩
  obtain ⟨w1, hw1⟩ : ∃ w1, w1 = ((W.alloc (.cells #[.int .i64 10, .int .i64 site, .int .i64 peer, .int .i64 unit, .int .i64 at_, .int .i64 n, .string text, .slice ad1 nd cap1, .slice ad2 nb cap2] 31)).alloc (.cells #[.int .i64 0, .int .i64 0, .int .i64 0, .int .i64 0, .int .i64 0, .int .i64 0, .string ⟨#[]⟩, .slice none 0 0, .slice none 0 0] 31)).alloc (.cells #[.int .i64 10, .int .i64 0, .int .i64 0, .int .i64 0, .int .i64 0, .int .i64 0, .string ⟨#[]⟩, .slice none 0 0, .slice none 0 0] 31) := ⟨_, rfl⟩
  have hk1 : Keep [] W w1 := by rw [hw1]; exact (((Keep.refl _ _).alloc _).alloc _).alloc _
  have hb0 : w1.heap[G]? = some (.cells #[.int .i64 10, .int .i64 site, .int .i64 peer, .int .i64 unit, .int .i64 at_, .int .i64 n, .string text, .slice ad1 nd cap1, .slice ad2 nb cap2] 31 (0, 0)) := by rw [hw1, hG]; exact oblk (oblk (nblk (by simp)))
  have hb1 : w1.heap[G + 1]? = some (.cells #[.int .i64 0, .int .i64 0, .int .i64 0, .int .i64 0, .int .i64 0, .int .i64 0, .string ⟨#[]⟩, .slice none 0 0, .slice none 0 0] 31 (0, 0)) := by rw [hw1, hG]; exact oblk (nblk (by simp))
  have hb2 : w1.heap[G + 2]? = some (.cells #[.int .i64 10, .int .i64 0, .int .i64 0, .int .i64 0, .int .i64 0, .int .i64 0, .string ⟨#[]⟩, .slice none 0 0, .slice none 0 0] 31 (0, 0)) := by rw [hw1, hG]; exact nblk (by simp)
  rw [← hw1]
  simp only [Nat.add_assoc, Nat.reduceAdd]
  rw [← hG]
  have HK1 := Lib.hid hk1
  have HGG := Lib.hid hG
  have HB1 := Lib.hid hb1
  have c0 := cell_of_block hb0 0
  have c1 := cell_of_block hb0 1
  have c2 := cell_of_block hb0 2
  have c4 := cell_of_block hb0 4
  have c5 := cell_of_block hb0 5
  have c6 := cell_of_block hb0 6
  have c7 := cell_of_block hb0 7
  have c8 := cell_of_block hb0 8
  simp at c0 c1 c2 c4 c5 c6 c7 c8
  clear hw1 hk1 hG hb1
  have HB2 := Lib.hid hb2
  go_upto_region 21 with (fail)
  obtain ⟨w2, hw2⟩ : ∃ w2, w2 = w1.drew := ⟨_, rfl⟩
  have hk2 : Keep [] w1 w2 := by rw [hw2]; exact (Keep.refl _ _).drew
  have e2 := hk2.at_ HB2.out (by simp)
  obtain ⟨u0, hu0⟩ : ∃ u0, u0 = w2.setCell ⟨G + 2, 5, none⟩ (.int .i64 n) := ⟨_, rfl⟩
  have ku0 : Keep [G + 2] w2 u0 := by rw [hu0]; exact (Keep.refl _ _).setCell (.inl (by simp)) _
  have e3 : u0.heap[G + 2]? = some (.cells #[.int .i64 10, .int .i64 0, .int .i64 0, .int .i64 0, .int .i64 0, .int .i64 n, .string ⟨#[]⟩, .slice none 0 0, .slice none 0 0] 31 (0, 0)) := by rw [hu0]; exact block_setCell e2 5 _
  have p0 : w2.cell? ⟨G + 2, 5, none⟩ = some (.int .i64 0) := by rw [cell_of_block e2]; rfl
  have z0 : w2.frozen? ⟨G + 2, 5, none⟩ = false := free_of_block e2 5
  obtain ⟨u1, hu1⟩ : ∃ u1, u1 = u0.setCell ⟨G + 2, 4, none⟩ (.int .i64 at_) := ⟨_, rfl⟩
  have ku1 : Keep [G + 2] u0 u1 := by rw [hu1]; exact (Keep.refl _ _).setCell (.inl (by simp)) _
  have e4 : u1.heap[G + 2]? = some (.cells #[.int .i64 10, .int .i64 0, .int .i64 0, .int .i64 0, .int .i64 at_, .int .i64 n, .string ⟨#[]⟩, .slice none 0 0, .slice none 0 0] 31 (0, 0)) := by rw [hu1]; exact block_setCell e3 4 _
  have p1 : u0.cell? ⟨G + 2, 4, none⟩ = some (.int .i64 0) := by rw [cell_of_block e3]; rfl
  have z1 : u0.frozen? ⟨G + 2, 4, none⟩ = false := free_of_block e3 4
  obtain ⟨u2, hu2⟩ : ∃ u2, u2 = u1.setCell ⟨G + 2, 8, none⟩ (.slice ad2 nb cap2) := ⟨_, rfl⟩
  have ku2 : Keep [G + 2] u1 u2 := by rw [hu2]; exact (Keep.refl _ _).setCell (.inl (by simp)) _
  have e5 : u2.heap[G + 2]? = some (.cells #[.int .i64 10, .int .i64 0, .int .i64 0, .int .i64 0, .int .i64 at_, .int .i64 n, .string ⟨#[]⟩, .slice none 0 0, .slice ad2 nb cap2] 31 (0, 0)) := by rw [hu2]; exact block_setCell e4 8 _
  have p2 : u1.cell? ⟨G + 2, 8, none⟩ = some (.slice none 0 0) := by rw [cell_of_block e4]; rfl
  have z2 : u1.frozen? ⟨G + 2, 8, none⟩ = false := free_of_block e4 8
  have hGG2 : G ≠ G + 2 := by omega
  have Kw2 : Keep [G + 2] w1 w2 := hk2.mono (by simp)
  have Cw2 : w2.cell? ⟨G, 5, none⟩ = some (.int .i64 n) ∧ w2.cell? ⟨G, 4, none⟩ = some (.int .i64 at_) ∧ w2.cell? ⟨G, 8, none⟩ = some (.slice ad2 nb cap2) := ⟨Kw2.cellv c5 (by simp), Kw2.cellv c4 (by simp), Kw2.cellv c8 (by simp)⟩
  have Ku0 : Keep [G + 2] w1 u0 := ((hk2.mono (L' := [G + 2]) (by simp)).trans ku0 (fun x hx => .inl hx))
  have Cu0 : u0.cell? ⟨G, 5, none⟩ = some (.int .i64 n) ∧ u0.cell? ⟨G, 4, none⟩ = some (.int .i64 at_) ∧ u0.cell? ⟨G, 8, none⟩ = some (.slice ad2 nb cap2) := ⟨Ku0.cellv c5 (by simp), Ku0.cellv c4 (by simp), Ku0.cellv c8 (by simp)⟩
  have Ku1 : Keep [G + 2] w1 u1 := (((hk2.mono (L' := [G + 2]) (by simp)).trans ku0 (fun x hx => .inl hx)).trans ku1 (fun x hx => .inl hx))
  have Cu1 : u1.cell? ⟨G, 5, none⟩ = some (.int .i64 n) ∧ u1.cell? ⟨G, 4, none⟩ = some (.int .i64 at_) ∧ u1.cell? ⟨G, 8, none⟩ = some (.slice ad2 nb cap2) := ⟨Ku1.cellv c5 (by simp), Ku1.cellv c4 (by simp), Ku1.cellv c8 (by simp)⟩
  have Ku2 : Keep [G + 2] w1 u2 := ((((hk2.mono (L' := [G + 2]) (by simp)).trans ku0 (fun x hx => .inl hx)).trans ku1 (fun x hx => .inl hx)).trans ku2 (fun x hx => .inl hx))
  have Cu2 : u2.cell? ⟨G, 5, none⟩ = some (.int .i64 n) ∧ u2.cell? ⟨G, 4, none⟩ = some (.int .i64 at_) ∧ u2.cell? ⟨G, 8, none⟩ = some (.slice ad2 nb cap2) := ⟨Ku2.cellv c5 (by simp), Ku2.cellv c4 (by simp), Ku2.cellv c8 (by simp)⟩
  have HC := Lib.hid (⟨Cw2, Cu0, Cu1, Cu2⟩ : (w2.cell? ⟨G, 5, none⟩ = some (.int .i64 n) ∧ w2.cell? ⟨G, 4, none⟩ = some (.int .i64 at_) ∧ w2.cell? ⟨G, 8, none⟩ = some (.slice ad2 nb cap2)) ∧ (u0.cell? ⟨G, 5, none⟩ = some (.int .i64 n) ∧ u0.cell? ⟨G, 4, none⟩ = some (.int .i64 at_) ∧ u0.cell? ⟨G, 8, none⟩ = some (.slice ad2 nb cap2)) ∧ (u1.cell? ⟨G, 5, none⟩ = some (.int .i64 n) ∧ u1.cell? ⟨G, 4, none⟩ = some (.int .i64 at_) ∧ u1.cell? ⟨G, 8, none⟩ = some (.slice ad2 nb cap2)) ∧ (u2.cell? ⟨G, 5, none⟩ = some (.int .i64 n) ∧ u2.cell? ⟨G, 4, none⟩ = some (.int .i64 at_) ∧ u2.cell? ⟨G, 8, none⟩ = some (.slice ad2 nb cap2)))
  have KU := Lib.hid Ku2
  have EU := Lib.hid e5
  clear Cw2 Kw2 Cu0 Ku0 Cu1 Ku1 Cu2 Ku2 hk2 ku0 ku1 ku2 e2 e3 e4 e5 hb2 c0 c1 c2 c4 c5 c6 c7 c8
  refine wp_plan (fun w' => w'.cell? ⟨G, 5, none⟩ = some (.int .i64 n) ∧ w'.cell? ⟨G, 4, none⟩ = some (.int .i64 at_) ∧ w'.cell? ⟨G, 8, none⟩ = some (.slice ad2 nb cap2)) (.take 0 (.take 1 (.take 2 (.take 3 (.take 4 (.take 5 (.take 6 (.force 7 (.take 8 (.force 9 (.take 10 (.force 11 .done)))))))))))) (by kernel_rfl) (by kernel_rfl) (by rw [← hw2]; exact HC.out.1) ?_
  intro Q0 hQ0
  refine plan_takeL rfl rfl (.pointer (some ⟨G, 5, none⟩)) ?_ ?_
  · intro w' hC K Q hK
    obtain ⟨q0, q1, q2⟩ := hC
    go_simp
    exact hK
  try simp only [Act.put, List.setIfInBounds_toArray, List.set_cons_succ, List.set_cons_zero]
  refine plan_takeL rfl rfl (.int .i64 n) ?_ ?_
  · intro w' hC K Q hK
    obtain ⟨q0, q1, q2⟩ := hC
    go_simp
    exact hK
  try simp only [Act.put, List.setIfInBounds_toArray, List.set_cons_succ, List.set_cons_zero]
  refine plan_takeL rfl rfl (.pointer (some ⟨G, 4, none⟩)) ?_ ?_
  · intro w' hC K Q hK
    obtain ⟨q0, q1, q2⟩ := hC
    go_simp
    exact hK
  try simp only [Act.put, List.setIfInBounds_toArray, List.set_cons_succ, List.set_cons_zero]
  refine plan_takeL rfl rfl (.int .i64 at_) ?_ ?_
  · intro w' hC K Q hK
    obtain ⟨q0, q1, q2⟩ := hC
    go_simp
    exact hK
  try simp only [Act.put, List.setIfInBounds_toArray, List.set_cons_succ, List.set_cons_zero]
  refine plan_takeL rfl rfl (.pointer (some ⟨G, 8, none⟩)) ?_ ?_
  · intro w' hC K Q hK
    obtain ⟨q0, q1, q2⟩ := hC
    go_simp
    exact hK
  try simp only [Act.put, List.setIfInBounds_toArray, List.set_cons_succ, List.set_cons_zero]
  refine plan_takeL rfl rfl (.slice ad2 nb cap2) ?_ ?_
  · intro w' hC K Q hK
    obtain ⟨q0, q1, q2⟩ := hC
    go_simp
    exact hK
  try simp only [Act.put, List.setIfInBounds_toArray, List.set_cons_succ, List.set_cons_zero]
  refine plan_takeL rfl rfl (.pointer (some ⟨G + 2, 5, none⟩)) ?_ ?_
  · intro w' hC K Q hK
    obtain ⟨q0, q1, q2⟩ := hC
    go_simp
    exact hK
  try simp only [Act.put, List.setIfInBounds_toArray, List.set_cons_succ, List.set_cons_zero]
  rw [← hw2]
  clear hw2
  refine plan_forceL rfl rfl fun K hK => ?_
  go_simp
  rw [← hu0]
  refine hK _ _ (HC.out.2.1) ?_
  clear hK K hu0 p0 z0
  refine plan_takeL rfl rfl (.pointer (some ⟨G + 2, 4, none⟩)) ?_ ?_
  · intro w' hC K Q hK
    obtain ⟨q0, q1, q2⟩ := hC
    go_simp
    exact hK
  try simp only [Act.put, List.setIfInBounds_toArray, List.set_cons_succ, List.set_cons_zero]
  refine plan_forceL rfl rfl fun K hK => ?_
  go_simp
  rw [← hu1]
  refine hK _ _ (HC.out.2.2.1) ?_
  clear hK K hu1 p1 z1
  refine plan_takeL rfl rfl (.pointer (some ⟨G + 2, 8, none⟩)) ?_ ?_
  · intro w' hC K Q hK
    obtain ⟨q0, q1, q2⟩ := hC
    go_simp
    exact hK
  try simp only [Act.put, List.setIfInBounds_toArray, List.set_cons_succ, List.set_cons_zero]
  refine plan_forceL rfl rfl fun K hK => ?_
  go_simp
  rw [← hu2]
  refine hK _ _ (HC.out.2.2.2) ?_
  clear hK K hu2 p2 z2
  refine hQ0 _ _ ?_
  clear hQ0 Q0
  obtain ⟨W9, hs9, hb9, hl9, hk9⟩ := put_step (G + 1) _ #[.int .i64 10, .int .i64 0, .int .i64 0, .int .i64 0, .int .i64 at_, .int .i64 n, .string ⟨#[]⟩, .slice none 0 0, .slice ad2 nb cap2] u2 (KU.out.at_ HB1.out (by simp)) rfl rfl (by simp [Value.oneCell'])
  have HL9 := Lib.hid hl9
  have HK9 := Lib.hid (show Keep [] W W9 from (HK1.out.trans KU.out (fun x hx => by simp at hx; subst hx; exact .inr (by have := HGG.out; omega))).trans hk9 (fun x hx => by simp at hx; subst hx; exact .inr (by have := HGG.out; omega)))
  have hld : (Instr.loadAt 31 (.pointer (some ⟨G + 2, 0, none⟩))).run Tryd.prog u2 = .ok (.agg #[.int .i64 10, .int .i64 0, .int .i64 0, .int .i64 0, .int .i64 at_, .int .i64 n, .string ⟨#[]⟩, .slice none 0 0, .slice ad2 nb cap2]) u2 := load_row (P := Tryd.prog) Tryd.underlying31 rfl step_info EU.out rfl
  clear hl9 hk9 hb9 hGG2
  go_wp2_with (with_reducible refine park_load 3 _ rfl ?_)
  refine wpList_load_eq rfl _ (.tmp 3) rfl hld ?_
  go_wp2_with (with_reducible refine park_store 2 78 _ rfl ?_)
  refine wpList_store_eq rfl _ (.tmp 2) (.tmp 78) rfl hs9 ?_
  clear hs9 hld
  go_wp2
  exact bodyPost_ret (results_row rfl _ _ (G + 1) _ rfl HL9.out) rfl ⟨rfl, HK9.out⟩

set_option maxHeartbeats 8000000 in
set_option maxRecDepth 100000 in
theorem bare_11 (site peer unit at_ n : Int) (text : ByteArray) (ad1 ad2 : Option Addr) (nd cap1 nb cap2 : Nat) (W : World) : Calls Tryd.prog 10 #[.agg #[.int .i64 11, .int .i64 site, .int .i64 peer, .int .i64 unit, .int .i64 at_, .int .i64 n, .string text, .slice ad1 nd cap1, .slice ad2 nb cap2]] W fun e W' => e = .returned (.agg #[.int .i64 11, .int .i64 0, .int .i64 0, .int .i64 0, .int .i64 at_, .int .i64 n, .string ⟨#[]⟩, .slice none 0 0, .slice none 0 0]) ∧ Keep [] W W' := by
  go_enter Tryd.func10, Tryd.ntmps10
  go_upto_region 2 with (fail)
  obtain ⟨G, hG⟩ : ∃ G, G = W.heap.size := ⟨_, rfl⟩
  obtain ⟨w1, hw1⟩ : ∃ w1, w1 = ((W.alloc (.cells #[.int .i64 11, .int .i64 site, .int .i64 peer, .int .i64 unit, .int .i64 at_, .int .i64 n, .string text, .slice ad1 nd cap1, .slice ad2 nb cap2] 31)).alloc (.cells #[.int .i64 0, .int .i64 0, .int .i64 0, .int .i64 0, .int .i64 0, .int .i64 0, .string ⟨#[]⟩, .slice none 0 0, .slice none 0 0] 31)).alloc (.cells #[.int .i64 11, .int .i64 0, .int .i64 0, .int .i64 0, .int .i64 0, .int .i64 0, .string ⟨#[]⟩, .slice none 0 0, .slice none 0 0] 31) := ⟨_, rfl⟩
  have hk1 : Keep [] W w1 := by rw [hw1]; exact (((Keep.refl _ _).alloc _).alloc _).alloc _
  have hb0 : w1.heap[G]? = some (.cells #[.int .i64 11, .int .i64 site, .int .i64 peer, .int .i64 unit, .int .i64 at_, .int .i64 n, .string text, .slice ad1 nd cap1, .slice ad2 nb cap2] 31 (0, 0)) := by rw [hw1, hG]; exact oblk (oblk (nblk (by simp)))
  have hb1 : w1.heap[G + 1]? = some (.cells #[.int .i64 0, .int .i64 0, .int .i64 0, .int .i64 0, .int .i64 0, .int .i64 0, .string ⟨#[]⟩, .slice none 0 0, .slice none 0 0] 31 (0, 0)) := by rw [hw1, hG]; exact oblk (nblk (by simp))
  have hb2 : w1.heap[G + 2]? = some (.cells #[.int .i64 11, .int .i64 0, .int .i64 0, .int .i64 0, .int .i64 0, .int .i64 0, .string ⟨#[]⟩, .slice none 0 0, .slice none 0 0] 31 (0, 0)) := by rw [hw1, hG]; exact nblk (by simp)
  rw [← hw1]
  simp only [Nat.add_assoc, Nat.reduceAdd]
  rw [← hG]
  have HK1 := Lib.hid hk1
  have HGG := Lib.hid hG
  have HB1 := Lib.hid hb1
  have c0 := cell_of_block hb0 0
  have c1 := cell_of_block hb0 1
  have c2 := cell_of_block hb0 2
  have c4 := cell_of_block hb0 4
  have c5 := cell_of_block hb0 5
  have c6 := cell_of_block hb0 6
  have c7 := cell_of_block hb0 7
  have c8 := cell_of_block hb0 8
  simp at c0 c1 c2 c4 c5 c6 c7 c8
  clear hw1 hk1 hG hb1
  have HB2 := Lib.hid hb2
  go_upto_region 23 with (fail)
  obtain ⟨w2, hw2⟩ : ∃ w2, w2 = w1.drew := ⟨_, rfl⟩
  have hk2 : Keep [] w1 w2 := by rw [hw2]; exact (Keep.refl _ _).drew
  have e2 := hk2.at_ HB2.out (by simp)
  obtain ⟨u0, hu0⟩ : ∃ u0, u0 = w2.setCell ⟨G + 2, 5, none⟩ (.int .i64 n) := ⟨_, rfl⟩
  have ku0 : Keep [G + 2] w2 u0 := by rw [hu0]; exact (Keep.refl _ _).setCell (.inl (by simp)) _
  have e3 : u0.heap[G + 2]? = some (.cells #[.int .i64 11, .int .i64 0, .int .i64 0, .int .i64 0, .int .i64 0, .int .i64 n, .string ⟨#[]⟩, .slice none 0 0, .slice none 0 0] 31 (0, 0)) := by rw [hu0]; exact block_setCell e2 5 _
  have p0 : w2.cell? ⟨G + 2, 5, none⟩ = some (.int .i64 0) := by rw [cell_of_block e2]; rfl
  have z0 : w2.frozen? ⟨G + 2, 5, none⟩ = false := free_of_block e2 5
  obtain ⟨u1, hu1⟩ : ∃ u1, u1 = u0.setCell ⟨G + 2, 4, none⟩ (.int .i64 at_) := ⟨_, rfl⟩
  have ku1 : Keep [G + 2] u0 u1 := by rw [hu1]; exact (Keep.refl _ _).setCell (.inl (by simp)) _
  have e4 : u1.heap[G + 2]? = some (.cells #[.int .i64 11, .int .i64 0, .int .i64 0, .int .i64 0, .int .i64 at_, .int .i64 n, .string ⟨#[]⟩, .slice none 0 0, .slice none 0 0] 31 (0, 0)) := by rw [hu1]; exact block_setCell e3 4 _
  have p1 : u0.cell? ⟨G + 2, 4, none⟩ = some (.int .i64 0) := by rw [cell_of_block e3]; rfl
  have z1 : u0.frozen? ⟨G + 2, 4, none⟩ = false := free_of_block e3 4
  have hGG2 : G ≠ G + 2 := by omega
  have Kw2 : Keep [G + 2] w1 w2 := hk2.mono (by simp)
  have Cw2 : w2.cell? ⟨G, 5, none⟩ = some (.int .i64 n) ∧ w2.cell? ⟨G, 4, none⟩ = some (.int .i64 at_) := ⟨Kw2.cellv c5 (by simp), Kw2.cellv c4 (by simp)⟩
  have Ku0 : Keep [G + 2] w1 u0 := ((hk2.mono (L' := [G + 2]) (by simp)).trans ku0 (fun x hx => .inl hx))
  have Cu0 : u0.cell? ⟨G, 5, none⟩ = some (.int .i64 n) ∧ u0.cell? ⟨G, 4, none⟩ = some (.int .i64 at_) := ⟨Ku0.cellv c5 (by simp), Ku0.cellv c4 (by simp)⟩
  have Ku1 : Keep [G + 2] w1 u1 := (((hk2.mono (L' := [G + 2]) (by simp)).trans ku0 (fun x hx => .inl hx)).trans ku1 (fun x hx => .inl hx))
  have Cu1 : u1.cell? ⟨G, 5, none⟩ = some (.int .i64 n) ∧ u1.cell? ⟨G, 4, none⟩ = some (.int .i64 at_) := ⟨Ku1.cellv c5 (by simp), Ku1.cellv c4 (by simp)⟩
  have HC := Lib.hid (⟨Cw2, Cu0, Cu1⟩ : (w2.cell? ⟨G, 5, none⟩ = some (.int .i64 n) ∧ w2.cell? ⟨G, 4, none⟩ = some (.int .i64 at_)) ∧ (u0.cell? ⟨G, 5, none⟩ = some (.int .i64 n) ∧ u0.cell? ⟨G, 4, none⟩ = some (.int .i64 at_)) ∧ (u1.cell? ⟨G, 5, none⟩ = some (.int .i64 n) ∧ u1.cell? ⟨G, 4, none⟩ = some (.int .i64 at_)))
  have KU := Lib.hid Ku1
  have EU := Lib.hid e4
  clear Cw2 Kw2 Cu0 Ku0 Cu1 Ku1 hk2 ku0 ku1 e2 e3 e4 hb2 c0 c1 c2 c4 c5 c6 c7 c8
  refine wp_plan (fun w' => w'.cell? ⟨G, 5, none⟩ = some (.int .i64 n) ∧ w'.cell? ⟨G, 4, none⟩ = some (.int .i64 at_)) (.take 0 (.take 1 (.take 2 (.take 3 (.take 4 (.force 5 (.take 6 (.force 7 .done)))))))) (by kernel_rfl) (by kernel_rfl) (by rw [← hw2]; exact HC.out.1) ?_
  intro Q0 hQ0
  refine plan_takeL rfl rfl (.pointer (some ⟨G, 5, none⟩)) ?_ ?_
  · intro w' hC K Q hK
    obtain ⟨q0, q1⟩ := hC
    go_simp
    exact hK
  try simp only [Act.put, List.setIfInBounds_toArray, List.set_cons_succ, List.set_cons_zero]
  refine plan_takeL rfl rfl (.int .i64 n) ?_ ?_
  · intro w' hC K Q hK
    obtain ⟨q0, q1⟩ := hC
    go_simp
    exact hK
  try simp only [Act.put, List.setIfInBounds_toArray, List.set_cons_succ, List.set_cons_zero]
  refine plan_takeL rfl rfl (.pointer (some ⟨G, 4, none⟩)) ?_ ?_
  · intro w' hC K Q hK
    obtain ⟨q0, q1⟩ := hC
    go_simp
    exact hK
  try simp only [Act.put, List.setIfInBounds_toArray, List.set_cons_succ, List.set_cons_zero]
  refine plan_takeL rfl rfl (.int .i64 at_) ?_ ?_
  · intro w' hC K Q hK
    obtain ⟨q0, q1⟩ := hC
    go_simp
    exact hK
  try simp only [Act.put, List.setIfInBounds_toArray, List.set_cons_succ, List.set_cons_zero]
  refine plan_takeL rfl rfl (.pointer (some ⟨G + 2, 5, none⟩)) ?_ ?_
  · intro w' hC K Q hK
    obtain ⟨q0, q1⟩ := hC
    go_simp
    exact hK
  try simp only [Act.put, List.setIfInBounds_toArray, List.set_cons_succ, List.set_cons_zero]
  rw [← hw2]
  clear hw2
  refine plan_forceL rfl rfl fun K hK => ?_
  go_simp
  rw [← hu0]
  refine hK _ _ (HC.out.2.1) ?_
  clear hK K hu0 p0 z0
  refine plan_takeL rfl rfl (.pointer (some ⟨G + 2, 4, none⟩)) ?_ ?_
  · intro w' hC K Q hK
    obtain ⟨q0, q1⟩ := hC
    go_simp
    exact hK
  try simp only [Act.put, List.setIfInBounds_toArray, List.set_cons_succ, List.set_cons_zero]
  refine plan_forceL rfl rfl fun K hK => ?_
  go_simp
  rw [← hu1]
  refine hK _ _ (HC.out.2.2) ?_
  clear hK K hu1 p1 z1
  refine hQ0 _ _ ?_
  clear hQ0 Q0
  obtain ⟨W9, hs9, hb9, hl9, hk9⟩ := put_step (G + 1) _ #[.int .i64 11, .int .i64 0, .int .i64 0, .int .i64 0, .int .i64 at_, .int .i64 n, .string ⟨#[]⟩, .slice none 0 0, .slice none 0 0] u1 (KU.out.at_ HB1.out (by simp)) rfl rfl (by simp [Value.oneCell'])
  have HL9 := Lib.hid hl9
  have HK9 := Lib.hid (show Keep [] W W9 from (HK1.out.trans KU.out (fun x hx => by simp at hx; subst hx; exact .inr (by have := HGG.out; omega))).trans hk9 (fun x hx => by simp at hx; subst hx; exact .inr (by have := HGG.out; omega)))
  have hld : (Instr.loadAt 31 (.pointer (some ⟨G + 2, 0, none⟩))).run Tryd.prog u1 = .ok (.agg #[.int .i64 11, .int .i64 0, .int .i64 0, .int .i64 0, .int .i64 at_, .int .i64 n, .string ⟨#[]⟩, .slice none 0 0, .slice none 0 0]) u1 := load_row (P := Tryd.prog) Tryd.underlying31 rfl step_info EU.out rfl
  clear hl9 hk9 hb9 hGG2
  go_wp2_with (with_reducible refine park_load 3 _ rfl ?_)
  refine wpList_load_eq rfl _ (.tmp 3) rfl hld ?_
  go_wp2_with (with_reducible refine park_store 2 78 _ rfl ?_)
  refine wpList_store_eq rfl _ (.tmp 2) (.tmp 78) rfl hs9 ?_
  clear hs9 hld
  go_wp2
  exact bodyPost_ret (results_row rfl _ _ (G + 1) _ rfl HL9.out) rfl ⟨rfl, HK9.out⟩

set_option maxHeartbeats 8000000 in
set_option maxRecDepth 100000 in
theorem bare_12 (site peer unit at_ n : Int) (text : ByteArray) (ad1 ad2 : Option Addr) (nd cap1 nb cap2 : Nat) (W : World) : Calls Tryd.prog 10 #[.agg #[.int .i64 12, .int .i64 site, .int .i64 peer, .int .i64 unit, .int .i64 at_, .int .i64 n, .string text, .slice ad1 nd cap1, .slice ad2 nb cap2]] W fun e W' => e = .returned (.agg #[.int .i64 12, .int .i64 site, .int .i64 0, .int .i64 0, .int .i64 0, .int .i64 0, .string ⟨#[]⟩, .slice none 0 0, .slice none 0 0]) ∧ Keep [] W W' := by
  go_enter Tryd.func10, Tryd.ntmps10
  go_upto_region 2 with (fail)
  obtain ⟨G, hG⟩ : ∃ G, G = W.heap.size := ⟨_, rfl⟩
  obtain ⟨w1, hw1⟩ : ∃ w1, w1 = ((W.alloc (.cells #[.int .i64 12, .int .i64 site, .int .i64 peer, .int .i64 unit, .int .i64 at_, .int .i64 n, .string text, .slice ad1 nd cap1, .slice ad2 nb cap2] 31)).alloc (.cells #[.int .i64 0, .int .i64 0, .int .i64 0, .int .i64 0, .int .i64 0, .int .i64 0, .string ⟨#[]⟩, .slice none 0 0, .slice none 0 0] 31)).alloc (.cells #[.int .i64 12, .int .i64 0, .int .i64 0, .int .i64 0, .int .i64 0, .int .i64 0, .string ⟨#[]⟩, .slice none 0 0, .slice none 0 0] 31) := ⟨_, rfl⟩
  have hk1 : Keep [] W w1 := by rw [hw1]; exact (((Keep.refl _ _).alloc _).alloc _).alloc _
  have hb0 : w1.heap[G]? = some (.cells #[.int .i64 12, .int .i64 site, .int .i64 peer, .int .i64 unit, .int .i64 at_, .int .i64 n, .string text, .slice ad1 nd cap1, .slice ad2 nb cap2] 31 (0, 0)) := by rw [hw1, hG]; exact oblk (oblk (nblk (by simp)))
  have hb1 : w1.heap[G + 1]? = some (.cells #[.int .i64 0, .int .i64 0, .int .i64 0, .int .i64 0, .int .i64 0, .int .i64 0, .string ⟨#[]⟩, .slice none 0 0, .slice none 0 0] 31 (0, 0)) := by rw [hw1, hG]; exact oblk (nblk (by simp))
  have hb2 : w1.heap[G + 2]? = some (.cells #[.int .i64 12, .int .i64 0, .int .i64 0, .int .i64 0, .int .i64 0, .int .i64 0, .string ⟨#[]⟩, .slice none 0 0, .slice none 0 0] 31 (0, 0)) := by rw [hw1, hG]; exact nblk (by simp)
  rw [← hw1]
  simp only [Nat.add_assoc, Nat.reduceAdd]
  rw [← hG]
  have HK1 := Lib.hid hk1
  have HGG := Lib.hid hG
  have HB1 := Lib.hid hb1
  have c0 := cell_of_block hb0 0
  have c1 := cell_of_block hb0 1
  have c2 := cell_of_block hb0 2
  have c4 := cell_of_block hb0 4
  have c5 := cell_of_block hb0 5
  have c6 := cell_of_block hb0 6
  have c7 := cell_of_block hb0 7
  have c8 := cell_of_block hb0 8
  simp at c0 c1 c2 c4 c5 c6 c7 c8
  clear hw1 hk1 hG hb1
  have HB2 := Lib.hid hb2
  have p0 : w1.cell? ⟨G + 2, 1, none⟩ = some (.int .i64 0) := by rw [cell_of_block hb2]; rfl
  have z0 : w1.frozen? ⟨G + 2, 1, none⟩ = false := free_of_block hb2 1
  obtain ⟨u, hu⟩ : ∃ u, u = w1.setCell ⟨G + 2, 1, none⟩ (.int .i64 site) := ⟨_, rfl⟩
  have ku : Keep [G + 2] w1 u := by rw [hu]; exact (Keep.refl _ _).setCell (.inl (by simp)) _
  have eu : u.heap[G + 2]? = some (.cells #[.int .i64 12, .int .i64 site, .int .i64 0, .int .i64 0, .int .i64 0, .int .i64 0, .string ⟨#[]⟩, .slice none 0 0, .slice none 0 0] 31 (0, 0)) := by rw [hu]; exact block_setCell hb2 1 _
  obtain ⟨W9, hs9, hb9, hl9, hk9⟩ := put_step (G + 1) _ #[.int .i64 12, .int .i64 site, .int .i64 0, .int .i64 0, .int .i64 0, .int .i64 0, .string ⟨#[]⟩, .slice none 0 0, .slice none 0 0] u (ku.at_ HB1.out (by simp)) rfl rfl (by simp [Value.oneCell'])
  have HL9 := Lib.hid hl9
  have HK9 := Lib.hid (show Keep [] W W9 from (HK1.out.trans ku (fun x hx => by simp at hx; subst hx; exact .inr (by have := HGG.out; omega))).trans hk9 (fun x hx => by simp at hx; subst hx; exact .inr (by have := HGG.out; omega)))
  have hld : (Instr.loadAt 31 (.pointer (some ⟨G + 2, 0, none⟩))).run Tryd.prog u = .ok (.agg #[.int .i64 12, .int .i64 site, .int .i64 0, .int .i64 0, .int .i64 0, .int .i64 0, .string ⟨#[]⟩, .slice none 0 0, .slice none 0 0]) u := load_row (P := Tryd.prog) Tryd.underlying31 rfl step_info eu rfl
  clear hl9 hk9 hb9 ku eu hb2 hb0
  go_wp2_with (with_reducible refine park_load 3 _ rfl ?_)
  rw [← hu]
  clear hu
  refine wpList_load_eq rfl _ (.tmp 3) rfl hld ?_
  go_wp2_with (with_reducible refine park_store 2 78 _ rfl ?_)
  refine wpList_store_eq rfl _ (.tmp 2) (.tmp 78) rfl hs9 ?_
  clear hs9 hld
  go_wp2
  exact bodyPost_ret (results_row rfl _ _ (G + 1) _ rfl HL9.out) rfl ⟨rfl, HK9.out⟩

set_option maxHeartbeats 8000000 in
set_option maxRecDepth 100000 in
theorem bare_13 (site peer unit at_ n : Int) (text : ByteArray) (ad1 ad2 : Option Addr) (nd cap1 nb cap2 : Nat) (W : World) : Calls Tryd.prog 10 #[.agg #[.int .i64 13, .int .i64 site, .int .i64 peer, .int .i64 unit, .int .i64 at_, .int .i64 n, .string text, .slice ad1 nd cap1, .slice ad2 nb cap2]] W fun e W' => e = .returned (.agg #[.int .i64 13, .int .i64 site, .int .i64 0, .int .i64 0, .int .i64 0, .int .i64 0, .string ⟨#[]⟩, .slice none 0 0, .slice none 0 0]) ∧ Keep [] W W' := by
  go_enter Tryd.func10, Tryd.ntmps10
  go_upto_region 2 with (fail)
  obtain ⟨G, hG⟩ : ∃ G, G = W.heap.size := ⟨_, rfl⟩
  obtain ⟨w1, hw1⟩ : ∃ w1, w1 = ((W.alloc (.cells #[.int .i64 13, .int .i64 site, .int .i64 peer, .int .i64 unit, .int .i64 at_, .int .i64 n, .string text, .slice ad1 nd cap1, .slice ad2 nb cap2] 31)).alloc (.cells #[.int .i64 0, .int .i64 0, .int .i64 0, .int .i64 0, .int .i64 0, .int .i64 0, .string ⟨#[]⟩, .slice none 0 0, .slice none 0 0] 31)).alloc (.cells #[.int .i64 13, .int .i64 0, .int .i64 0, .int .i64 0, .int .i64 0, .int .i64 0, .string ⟨#[]⟩, .slice none 0 0, .slice none 0 0] 31) := ⟨_, rfl⟩
  have hk1 : Keep [] W w1 := by rw [hw1]; exact (((Keep.refl _ _).alloc _).alloc _).alloc _
  have hb0 : w1.heap[G]? = some (.cells #[.int .i64 13, .int .i64 site, .int .i64 peer, .int .i64 unit, .int .i64 at_, .int .i64 n, .string text, .slice ad1 nd cap1, .slice ad2 nb cap2] 31 (0, 0)) := by rw [hw1, hG]; exact oblk (oblk (nblk (by simp)))
  have hb1 : w1.heap[G + 1]? = some (.cells #[.int .i64 0, .int .i64 0, .int .i64 0, .int .i64 0, .int .i64 0, .int .i64 0, .string ⟨#[]⟩, .slice none 0 0, .slice none 0 0] 31 (0, 0)) := by rw [hw1, hG]; exact oblk (nblk (by simp))
  have hb2 : w1.heap[G + 2]? = some (.cells #[.int .i64 13, .int .i64 0, .int .i64 0, .int .i64 0, .int .i64 0, .int .i64 0, .string ⟨#[]⟩, .slice none 0 0, .slice none 0 0] 31 (0, 0)) := by rw [hw1, hG]; exact nblk (by simp)
  rw [← hw1]
  simp only [Nat.add_assoc, Nat.reduceAdd]
  rw [← hG]
  have HK1 := Lib.hid hk1
  have HGG := Lib.hid hG
  have HB1 := Lib.hid hb1
  have c0 := cell_of_block hb0 0
  have c1 := cell_of_block hb0 1
  have c2 := cell_of_block hb0 2
  have c4 := cell_of_block hb0 4
  have c5 := cell_of_block hb0 5
  have c6 := cell_of_block hb0 6
  have c7 := cell_of_block hb0 7
  have c8 := cell_of_block hb0 8
  simp at c0 c1 c2 c4 c5 c6 c7 c8
  clear hw1 hk1 hG hb1
  have HB2 := Lib.hid hb2
  have p0 : w1.cell? ⟨G + 2, 1, none⟩ = some (.int .i64 0) := by rw [cell_of_block hb2]; rfl
  have z0 : w1.frozen? ⟨G + 2, 1, none⟩ = false := free_of_block hb2 1
  obtain ⟨u, hu⟩ : ∃ u, u = w1.setCell ⟨G + 2, 1, none⟩ (.int .i64 site) := ⟨_, rfl⟩
  have ku : Keep [G + 2] w1 u := by rw [hu]; exact (Keep.refl _ _).setCell (.inl (by simp)) _
  have eu : u.heap[G + 2]? = some (.cells #[.int .i64 13, .int .i64 site, .int .i64 0, .int .i64 0, .int .i64 0, .int .i64 0, .string ⟨#[]⟩, .slice none 0 0, .slice none 0 0] 31 (0, 0)) := by rw [hu]; exact block_setCell hb2 1 _
  obtain ⟨W9, hs9, hb9, hl9, hk9⟩ := put_step (G + 1) _ #[.int .i64 13, .int .i64 site, .int .i64 0, .int .i64 0, .int .i64 0, .int .i64 0, .string ⟨#[]⟩, .slice none 0 0, .slice none 0 0] u (ku.at_ HB1.out (by simp)) rfl rfl (by simp [Value.oneCell'])
  have HL9 := Lib.hid hl9
  have HK9 := Lib.hid (show Keep [] W W9 from (HK1.out.trans ku (fun x hx => by simp at hx; subst hx; exact .inr (by have := HGG.out; omega))).trans hk9 (fun x hx => by simp at hx; subst hx; exact .inr (by have := HGG.out; omega)))
  have hld : (Instr.loadAt 31 (.pointer (some ⟨G + 2, 0, none⟩))).run Tryd.prog u = .ok (.agg #[.int .i64 13, .int .i64 site, .int .i64 0, .int .i64 0, .int .i64 0, .int .i64 0, .string ⟨#[]⟩, .slice none 0 0, .slice none 0 0]) u := load_row (P := Tryd.prog) Tryd.underlying31 rfl step_info eu rfl
  clear hl9 hk9 hb9 ku eu hb2 hb0
  go_wp2_with (with_reducible refine park_load 3 _ rfl ?_)
  rw [← hu]
  clear hu
  refine wpList_load_eq rfl _ (.tmp 3) rfl hld ?_
  go_wp2_with (with_reducible refine park_store 2 78 _ rfl ?_)
  refine wpList_store_eq rfl _ (.tmp 2) (.tmp 78) rfl hs9 ?_
  clear hs9 hld
  go_wp2
  exact bodyPost_ret (results_row rfl _ _ (G + 1) _ rfl HL9.out) rfl ⟨rfl, HK9.out⟩

set_option maxHeartbeats 8000000 in
set_option maxRecDepth 100000 in
theorem bare_14 (site peer unit at_ n : Int) (text : ByteArray) (ad1 ad2 : Option Addr) (nd cap1 nb cap2 : Nat) (W : World) : Calls Tryd.prog 10 #[.agg #[.int .i64 14, .int .i64 site, .int .i64 peer, .int .i64 unit, .int .i64 at_, .int .i64 n, .string text, .slice ad1 nd cap1, .slice ad2 nb cap2]] W fun e W' => e = .returned (.agg #[.int .i64 14, .int .i64 0, .int .i64 0, .int .i64 0, .int .i64 0, .int .i64 0, .string ⟨#[]⟩, .slice none 0 0, .slice none 0 0]) ∧ Keep [] W W' := by
  go_enter Tryd.func10, Tryd.ntmps10
  go_upto_region 2 with (fail)
  obtain ⟨G, hG⟩ : ∃ G, G = W.heap.size := ⟨_, rfl⟩
  obtain ⟨w1, hw1⟩ : ∃ w1, w1 = ((W.alloc (.cells #[.int .i64 14, .int .i64 site, .int .i64 peer, .int .i64 unit, .int .i64 at_, .int .i64 n, .string text, .slice ad1 nd cap1, .slice ad2 nb cap2] 31)).alloc (.cells #[.int .i64 0, .int .i64 0, .int .i64 0, .int .i64 0, .int .i64 0, .int .i64 0, .string ⟨#[]⟩, .slice none 0 0, .slice none 0 0] 31)).alloc (.cells #[.int .i64 14, .int .i64 0, .int .i64 0, .int .i64 0, .int .i64 0, .int .i64 0, .string ⟨#[]⟩, .slice none 0 0, .slice none 0 0] 31) := ⟨_, rfl⟩
  have hk1 : Keep [] W w1 := by rw [hw1]; exact (((Keep.refl _ _).alloc _).alloc _).alloc _
  have hb0 : w1.heap[G]? = some (.cells #[.int .i64 14, .int .i64 site, .int .i64 peer, .int .i64 unit, .int .i64 at_, .int .i64 n, .string text, .slice ad1 nd cap1, .slice ad2 nb cap2] 31 (0, 0)) := by rw [hw1, hG]; exact oblk (oblk (nblk (by simp)))
  have hb1 : w1.heap[G + 1]? = some (.cells #[.int .i64 0, .int .i64 0, .int .i64 0, .int .i64 0, .int .i64 0, .int .i64 0, .string ⟨#[]⟩, .slice none 0 0, .slice none 0 0] 31 (0, 0)) := by rw [hw1, hG]; exact oblk (nblk (by simp))
  have hb2 : w1.heap[G + 2]? = some (.cells #[.int .i64 14, .int .i64 0, .int .i64 0, .int .i64 0, .int .i64 0, .int .i64 0, .string ⟨#[]⟩, .slice none 0 0, .slice none 0 0] 31 (0, 0)) := by rw [hw1, hG]; exact nblk (by simp)
  rw [← hw1]
  simp only [Nat.add_assoc, Nat.reduceAdd]
  rw [← hG]
  have HK1 := Lib.hid hk1
  have HGG := Lib.hid hG
  have HB1 := Lib.hid hb1
  have c0 := cell_of_block hb0 0
  have c1 := cell_of_block hb0 1
  have c2 := cell_of_block hb0 2
  have c4 := cell_of_block hb0 4
  have c5 := cell_of_block hb0 5
  have c6 := cell_of_block hb0 6
  have c7 := cell_of_block hb0 7
  have c8 := cell_of_block hb0 8
  simp at c0 c1 c2 c4 c5 c6 c7 c8
  clear hw1 hk1 hG hb1
  have HB2 := Lib.hid hb2
  obtain ⟨u, hu⟩ : ∃ u, u = w1 := ⟨_, rfl⟩
  have ku : Keep [G + 2] w1 u := by rw [hu]; exact Keep.refl _ _
  have eu : u.heap[G + 2]? = some (.cells #[.int .i64 14, .int .i64 0, .int .i64 0, .int .i64 0, .int .i64 0, .int .i64 0, .string ⟨#[]⟩, .slice none 0 0, .slice none 0 0] 31 (0, 0)) := by rw [hu]; exact hb2
  obtain ⟨W9, hs9, hb9, hl9, hk9⟩ := put_step (G + 1) _ #[.int .i64 14, .int .i64 0, .int .i64 0, .int .i64 0, .int .i64 0, .int .i64 0, .string ⟨#[]⟩, .slice none 0 0, .slice none 0 0] u (ku.at_ HB1.out (by simp)) rfl rfl (by simp [Value.oneCell'])
  have HL9 := Lib.hid hl9
  have HK9 := Lib.hid (show Keep [] W W9 from (HK1.out.trans ku (fun x hx => by simp at hx; subst hx; exact .inr (by have := HGG.out; omega))).trans hk9 (fun x hx => by simp at hx; subst hx; exact .inr (by have := HGG.out; omega)))
  have hld : (Instr.loadAt 31 (.pointer (some ⟨G + 2, 0, none⟩))).run Tryd.prog u = .ok (.agg #[.int .i64 14, .int .i64 0, .int .i64 0, .int .i64 0, .int .i64 0, .int .i64 0, .string ⟨#[]⟩, .slice none 0 0, .slice none 0 0]) u := load_row (P := Tryd.prog) Tryd.underlying31 rfl step_info eu rfl
  clear hl9 hk9 hb9 ku eu hb2 hb0
  go_wp2_with (with_reducible refine park_load 3 _ rfl ?_)
  rw [← hu]
  clear hu
  refine wpList_load_eq rfl _ (.tmp 3) rfl hld ?_
  go_wp2_with (with_reducible refine park_store 2 78 _ rfl ?_)
  refine wpList_store_eq rfl _ (.tmp 2) (.tmp 78) rfl hs9 ?_
  clear hs9 hld
  go_wp2
  exact bodyPost_ret (results_row rfl _ _ (G + 1) _ rfl HL9.out) rfl ⟨rfl, HK9.out⟩

set_option maxHeartbeats 8000000 in
set_option maxRecDepth 100000 in
theorem bare_no (kind : Int) (site peer unit at_ n : Int) (text : ByteArray) (ad1 ad2 : Option Addr) (nd cap1 nb cap2 : Nat) (W : World) (hk : kind < 1 ∨ 14 < kind) : Calls Tryd.prog 10 #[.agg #[.int .i64 kind, .int .i64 site, .int .i64 peer, .int .i64 unit, .int .i64 at_, .int .i64 n, .string text, .slice ad1 nd cap1, .slice ad2 nb cap2]] W fun e W' => e = .returned (.agg #[.int .i64 kind, .int .i64 0, .int .i64 0, .int .i64 0, .int .i64 0, .int .i64 0, .string ⟨#[]⟩, .slice none 0 0, .slice none 0 0]) ∧ Keep [] W W' := by
  have t1 : (kind == 1) = false := by simp; omega
  have t2 : (kind == 2) = false := by simp; omega
  have t3 : (kind == 3) = false := by simp; omega
  have t4 : (kind == 4) = false := by simp; omega
  have t5 : (kind == 5) = false := by simp; omega
  have t6 : (kind == 6) = false := by simp; omega
  have t7 : (kind == 7) = false := by simp; omega
  have t8 : (kind == 8) = false := by simp; omega
  have t9 : (kind == 9) = false := by simp; omega
  have t10 : (kind == 10) = false := by simp; omega
  have t11 : (kind == 11) = false := by simp; omega
  have t12 : (kind == 12) = false := by simp; omega
  have t13 : (kind == 13) = false := by simp; omega
  clear hk
  go_enter Tryd.func10, Tryd.ntmps10
  go_upto_region 2 with (fail)
  obtain ⟨G, hG⟩ : ∃ G, G = W.heap.size := ⟨_, rfl⟩
  obtain ⟨w1, hw1⟩ : ∃ w1, w1 = ((W.alloc (.cells #[.int .i64 kind, .int .i64 site, .int .i64 peer, .int .i64 unit, .int .i64 at_, .int .i64 n, .string text, .slice ad1 nd cap1, .slice ad2 nb cap2] 31)).alloc (.cells #[.int .i64 0, .int .i64 0, .int .i64 0, .int .i64 0, .int .i64 0, .int .i64 0, .string ⟨#[]⟩, .slice none 0 0, .slice none 0 0] 31)).alloc (.cells #[.int .i64 kind, .int .i64 0, .int .i64 0, .int .i64 0, .int .i64 0, .int .i64 0, .string ⟨#[]⟩, .slice none 0 0, .slice none 0 0] 31) := ⟨_, rfl⟩
  have hk1 : Keep [] W w1 := by rw [hw1]; exact (((Keep.refl _ _).alloc _).alloc _).alloc _
  have hb0 : w1.heap[G]? = some (.cells #[.int .i64 kind, .int .i64 site, .int .i64 peer, .int .i64 unit, .int .i64 at_, .int .i64 n, .string text, .slice ad1 nd cap1, .slice ad2 nb cap2] 31 (0, 0)) := by rw [hw1, hG]; exact oblk (oblk (nblk (by simp)))
  have hb1 : w1.heap[G + 1]? = some (.cells #[.int .i64 0, .int .i64 0, .int .i64 0, .int .i64 0, .int .i64 0, .int .i64 0, .string ⟨#[]⟩, .slice none 0 0, .slice none 0 0] 31 (0, 0)) := by rw [hw1, hG]; exact oblk (nblk (by simp))
  have hb2 : w1.heap[G + 2]? = some (.cells #[.int .i64 kind, .int .i64 0, .int .i64 0, .int .i64 0, .int .i64 0, .int .i64 0, .string ⟨#[]⟩, .slice none 0 0, .slice none 0 0] 31 (0, 0)) := by rw [hw1, hG]; exact nblk (by simp)
  rw [← hw1]
  simp only [Nat.add_assoc, Nat.reduceAdd]
  rw [← hG]
  have HK1 := Lib.hid hk1
  have HGG := Lib.hid hG
  have HB1 := Lib.hid hb1
  have c0 := cell_of_block hb0 0
  have c1 := cell_of_block hb0 1
  have c2 := cell_of_block hb0 2
  have c4 := cell_of_block hb0 4
  have c5 := cell_of_block hb0 5
  have c6 := cell_of_block hb0 6
  have c7 := cell_of_block hb0 7
  have c8 := cell_of_block hb0 8
  simp at c0 c1 c2 c4 c5 c6 c7 c8
  clear hw1 hk1 hG hb1
  obtain ⟨W9, hs9, hb9, hl9, hk9⟩ := put_step (G + 1) _ #[.int .i64 kind, .int .i64 0, .int .i64 0, .int .i64 0, .int .i64 0, .int .i64 0, .string ⟨#[]⟩, .slice none 0 0, .slice none 0 0] w1 HB1.out rfl rfl (by simp [Value.oneCell'])
  have HL9 := Lib.hid hl9
  have HK9 := Lib.hid (show Keep [] W W9 from HK1.out.trans hk9 (fun x hx => by simp at hx; subst hx; exact .inr (by have := HGG.out; omega)))
  have hld : (Instr.loadAt 31 (.pointer (some ⟨G + 2, 0, none⟩))).run Tryd.prog w1 = .ok (.agg #[.int .i64 kind, .int .i64 0, .int .i64 0, .int .i64 0, .int .i64 0, .int .i64 0, .string ⟨#[]⟩, .slice none 0 0, .slice none 0 0]) w1 := load_row (P := Tryd.prog) Tryd.underlying31 rfl step_info hb2 rfl
  clear hl9 hk9 hb9 hb2 hb0
  go_wp2_with (with_reducible refine park_load 3 _ rfl ?_)
  refine wpList_load_eq rfl _ (.tmp 3) rfl hld ?_
  go_wp2_with (with_reducible refine park_store 2 78 _ rfl ?_)
  refine wpList_store_eq rfl _ (.tmp 2) (.tmp 78) rfl hs9 ?_
  clear hs9 hld
  go_wp2
  exact bodyPost_ret (results_row rfl _ _ (G + 1) _ rfl HL9.out) rfl ⟨rfl, HK9.out⟩
end Go.Proofs.YtbidppjhenfjdaaDoor
namespace Go.Proofs.YtbidppjhenfjdaaDoor
open Go.RowKit
set_option linter.unusedVariables false
set_option linter.unusedSimpArgs false

theorem bare_any (s : Stp) (ad1 ad2 : Option Addr) (nd cap1 nb cap2 : Nat) (W : World) : Calls Tryd.prog 10 #[.agg (stV s (.slice ad1 nd cap1) (.slice ad2 nb cap2))] W (BarePost W s (.slice ad1 nd cap1) (.slice ad2 nb cap2)) := by
  obtain ⟨kind, site, peer, unit, at_, n, text, draws, data⟩ := s
  by_cases hk : kind < 1 ∨ 14 < kind
  · refine (bare_no kind site peer unit at_ n text ad1 ad2 nd cap1 nb cap2 W hk).mono fun e W' h => ?_
    obtain ⟨h1, h2⟩ := h
    have hb : bareS ⟨kind, site, peer, unit, at_, n, text, draws, data⟩ = Stp.zero kind := by
      unfold bareS
      rw [if_neg (by show ¬ kind = 6; omega)]
      have ht : tabF kind.toNat = [] := by
        rcases hk with hk | hk
        · rw [show kind.toNat = 0 by omega]; rfl
        · obtain ⟨m, hm⟩ : ∃ m, kind.toNat = m + 15 := ⟨kind.toNat - 15, by omega⟩
          rw [hm]
          rfl
      show (tabF kind.toNat).foldl _ _ = _
      rw [ht]
      rfl
    exact ⟨h2, .slice none 0 0, .slice none 0 0, by rw [hb]; exact h1, .inr ⟨rfl, by rw [hb]; rfl⟩, .inr ⟨rfl, by rw [hb]; rfl⟩⟩
  · have hc : kind = 1 ∨ kind = 2 ∨ kind = 3 ∨ kind = 4 ∨ kind = 5 ∨ kind = 6 ∨ kind = 7 ∨ kind = 8 ∨ kind = 9 ∨ kind = 10 ∨ kind = 11 ∨ kind = 12 ∨ kind = 13 ∨ kind = 14 := by omega
    clear hk
    rcases hc with rfl | rfl | rfl | rfl | rfl | rfl | rfl | rfl | rfl | rfl | rfl | rfl | rfl | rfl
    · exact (bare_1 site peer unit at_ n text ad1 ad2 nd cap1 nb cap2 W).mono fun e W' h => ⟨h.2, .slice none 0 0, .slice none 0 0, h.1, .inr ⟨rfl, rfl⟩, .inr ⟨rfl, rfl⟩⟩
    · exact (bare_2 site peer unit at_ n text ad1 ad2 nd cap1 nb cap2 W).mono fun e W' h => ⟨h.2, .slice none 0 0, .slice none 0 0, h.1, .inr ⟨rfl, rfl⟩, .inr ⟨rfl, rfl⟩⟩
    · exact (bare_3 site peer unit at_ n text ad1 ad2 nd cap1 nb cap2 W).mono fun e W' h => ⟨h.2, .slice none 0 0, .slice none 0 0, h.1, .inr ⟨rfl, rfl⟩, .inr ⟨rfl, rfl⟩⟩
    · exact (bare_4 site peer unit at_ n text ad1 ad2 nd cap1 nb cap2 W).mono fun e W' h => ⟨h.2, .slice none 0 0, .slice none 0 0, h.1, .inr ⟨rfl, rfl⟩, .inr ⟨rfl, rfl⟩⟩
    · exact (bare_5 site peer unit at_ n text ad1 ad2 nd cap1 nb cap2 W).mono fun e W' h => ⟨h.2, .slice none 0 0, .slice none 0 0, h.1, .inr ⟨rfl, rfl⟩, .inr ⟨rfl, rfl⟩⟩
    · exact (bare_6 site peer unit at_ n text ad1 ad2 nd cap1 nb cap2 W).mono fun e W' h => ⟨h.2, .slice ad1 nd cap1, .slice none 0 0, h.1, .inl ⟨rfl, rfl⟩, .inr ⟨rfl, rfl⟩⟩
    · exact (bare_7 site peer unit at_ n text ad1 ad2 nd cap1 nb cap2 W).mono fun e W' h => ⟨h.2, .slice none 0 0, .slice none 0 0, h.1, .inr ⟨rfl, rfl⟩, .inr ⟨rfl, rfl⟩⟩
    · exact (bare_8 site peer unit at_ n text ad1 ad2 nd cap1 nb cap2 W).mono fun e W' h => ⟨h.2, .slice none 0 0, .slice none 0 0, h.1, .inr ⟨rfl, rfl⟩, .inr ⟨rfl, rfl⟩⟩
    · exact (bare_9 site peer unit at_ n text ad1 ad2 nd cap1 nb cap2 W).mono fun e W' h => ⟨h.2, .slice none 0 0, .slice none 0 0, h.1, .inr ⟨rfl, rfl⟩, .inr ⟨rfl, rfl⟩⟩
    · exact (bare_10 site peer unit at_ n text ad1 ad2 nd cap1 nb cap2 W).mono fun e W' h => ⟨h.2, .slice none 0 0, .slice ad2 nb cap2, h.1, .inr ⟨rfl, rfl⟩, .inl ⟨rfl, rfl⟩⟩
    · exact (bare_11 site peer unit at_ n text ad1 ad2 nd cap1 nb cap2 W).mono fun e W' h => ⟨h.2, .slice none 0 0, .slice none 0 0, h.1, .inr ⟨rfl, rfl⟩, .inr ⟨rfl, rfl⟩⟩
    · exact (bare_12 site peer unit at_ n text ad1 ad2 nd cap1 nb cap2 W).mono fun e W' h => ⟨h.2, .slice none 0 0, .slice none 0 0, h.1, .inr ⟨rfl, rfl⟩, .inr ⟨rfl, rfl⟩⟩
    · exact (bare_13 site peer unit at_ n text ad1 ad2 nd cap1 nb cap2 W).mono fun e W' h => ⟨h.2, .slice none 0 0, .slice none 0 0, h.1, .inr ⟨rfl, rfl⟩, .inr ⟨rfl, rfl⟩⟩
    · exact (bare_14 site peer unit at_ n text ad1 ad2 nd cap1 nb cap2 W).mono fun e W' h => ⟨h.2, .slice none 0 0, .slice none 0 0, h.1, .inr ⟨rfl, rfl⟩, .inr ⟨rfl, rfl⟩⟩
/-- Rows of steps that are read. -/
def StRds (W : World) : List Stp → List Value → Prop
  | [], cs => cs = []
  | s :: L, cs => ∃ dv bv r, cs = (stV s dv bv).toList ++ r ∧ StRd W s dv bv ∧ StRds W L r
theorem StRds.keep0 {W W' : World} (k : Keep [] W W') : ∀ {L : List Stp} {cs : List Value}, StRds W L cs → StRds W' L cs := by
  intro L
  induction L with
  | nil => intro cs h; exact h
  | cons s L ih =>
    rintro cs ⟨dv, bv, r, rfl, h1, h2⟩
    exact ⟨dv, bv, r, rfl, h1.keep0 k, ih h2⟩
theorem StRds.snoc {W : World} {s : Stp} {dv bv : Value} (h1 : StRd W s dv bv) : ∀ {L : List Stp} {cs : List Value}, StRds W L cs → StRds W (L ++ [s]) (cs ++ (stV s dv bv).toList) := by
  intro L
  induction L with
  | nil => rintro cs rfl; exact ⟨dv, bv, [], by simp, h1, rfl⟩
  | cons s' L ih =>
    rintro cs ⟨dv', bv', r, rfl, h2, h3⟩
    exact ⟨dv', bv', _, by rw [List.append_assoc], h2, ih h3⟩
theorem StRds.at_ {W : World} : ∀ {L : List Stp} {cs : List Value}, StRds W L cs → ∀ (k : Nat) (s : Stp), L[k]? = some s → ∃ dv bv, StRd W s dv bv ∧ ∀ j u, (stV s dv bv)[j]? = some u → cs[k * 9 + j]? = some u := by
  intro L
  induction L with
  | nil => intro cs _ k s hs; simp at hs
  | cons s' L ih =>
    rintro cs ⟨dv', bv', r, rfl, h1, h2⟩ k s hs
    have hl : (stV s' dv' bv').toList.length = 9 := rfl
    cases k with
    | zero =>
      simp at hs
      subst hs
      refine ⟨dv', bv', h1, fun j u hj => ?_⟩
      have hj9 : j < 9 := (Array.getElem?_eq_some_iff.1 hj).1
      rw [List.getElem?_append_left (by rw [hl]; omega)]
      simpa using hj
    | succ k =>
      obtain ⟨dv, bv, hr, hu⟩ := ih h2 k s (by simpa using hs)
      refine ⟨dv, bv, hr, fun j u hj => ?_⟩
      rw [List.getElem?_append_right (by rw [hl]; omega), hl, show (k + 1) * 9 + j - 9 = k * 9 + j by omega]
      exact hu j u hj
theorem StRds.steps {W : World} {base : Nat} {v : Value} {L : List Stp} {cs : List Value} (h : StRds W L cs) (ho : W.ownsRow base 31 9 v L.length cs) : Steps W v L := by
  have hs := SlAt.of_owns ho
  obtain ⟨ad, cap, rfl, h0, h1⟩ := hs
  refine ⟨ad, cap, rfl, fun hn => ?_, h0.2, ?_⟩
  · obtain ⟨b, off, rfl, hc⟩ := h1 hn
    refine ⟨b, off, rfl, fun k s hk => ?_⟩
    obtain ⟨dv, bv, hr, hu⟩ := h.at_ k s hk
    exact ⟨dv, bv, hr, fun j u hj => hc _ _ (hu j u hj)⟩
  · rcases ho.2 with ⟨e, _⟩ | ⟨g, cap', cur, e, _, _, hc, _⟩
    · injection e with e1 e2 e3; omega
    · injection e with e1 e2 e3; omega
theorem nil_sl (W : World) : SlAt W (.slice none 0 0) 0 [] := ⟨none, 0, rfl, ⟨fun _ => rfl, fun _ => rfl⟩, fun h => absurd rfl h⟩
theorem BarePost.rd {W W' W0 : World} {s : Stp} {dv bv : Value} {e : Ending} (h : BarePost W s dv bv e W') (hr : StRd W0 s dv bv) : Keep [] W W' ∧ ∃ ad1 cap1 ad2 cap2, e = .returned (.agg (stV (bareS s) (.slice ad1 (bareS s).draws.length cap1) (.slice ad2 (bareS s).data.size cap2))) ∧ StRd W0 (bareS s) (.slice ad1 (bareS s).draws.length cap1) (.slice ad2 (bareS s).data.size cap2) := by
  obtain ⟨hk, dv', bv', rfl, h1, h2⟩ := h
  have h7 : SlAt W0 dv' (bareS s).draws.length (intsV (bareS s).draws) := by
    rcases h1 with ⟨rfl, e⟩ | ⟨rfl, e⟩
    · rw [e]; exact hr.1
    · rw [e]; exact nil_sl W0
  have h8 : SlAt W0 bv' (bareS s).data.size (bytV (bareS s).data) := by
    rcases h2 with ⟨rfl, e⟩ | ⟨rfl, e⟩
    · rw [e]; exact hr.2
    · rw [e]; exact nil_sl W0
  obtain ⟨ad1, cap1, e1⟩ := h7.empty
  obtain ⟨ad2, cap2, e2⟩ := h8.empty
  subst e1
  subst e2
  exact ⟨hk, ad1, cap1, ad2, cap2, rfl, h7, h8⟩
end Go.Proofs.YtbidppjhenfjdaaDoor
namespace Go.Proofs.YtbidppjhenfjdaaDoor
open Go.RowKit
set_option linter.unusedVariables false
set_option linter.unusedSimpArgs false

def kindsB (L : List Stp) : Bool := L.all fun s => decide (1 ≤ s.kind) && decide (s.kind ≤ 14)
theorem kinds_snoc {L : List Stp} {k : Nat} (hk : k < L.length) : kindsB (L.take (k + 1)) = (kindsB (L.take k) && (decide (1 ≤ L[k].kind) && decide (L[k].kind ≤ 14))) := by
  unfold kindsB
  rw [List.take_succ_eq_append_getElem hk, List.all_append]
  simp
theorem kinds_prn (L : List Stp) : kindsB L = (prn L).isSome := by
  induction L with
  | nil => rfl
  | cons s L ih =>
    unfold kindsB at ih ⊢
    unfold prn sayO
    rw [List.all_cons, ih]
    by_cases h : 1 ≤ s.kind ∧ s.kind ≤ 14
    · rw [if_pos h]
      simp [h.1, h.2]
    · rw [if_neg h]
      by_cases h1 : 1 ≤ s.kind
      · have h2 : ¬ s.kind ≤ 14 := fun e => h ⟨h1, e⟩
        simp [h1, h2]
      · simp [h1]
theorem own_ge {w : World} {base sz n : Nat} {e : TypeId} {v : Value} {xs : List Value} (h : w.ownsRow base e sz v n xs) : ∀ q ∈ v.ownBlock.toList, base ≤ q := by
  intro q hq
  rcases h.2 with ⟨rfl, _⟩ | ⟨g, cap, cur, rfl, hb, _⟩
  · simp [Value.ownBlock] at hq
  · simp [Value.ownBlock] at hq
    omega
theorem want_cells {s : Stp} {dv bv : Value} (h : dv.oneCell' = true ∧ bv.oneCell' = true) : ∀ u ∈ (stV s dv bv).toList, u.oneCell' = true := by
  intro u hu
  simp [stV] at hu
  rcases hu with rfl | rfl | rfl | rfl | rfl | rfl | rfl | rfl | rfl
  all_goals first | rfl | exact h.1 | exact h.2

set_option maxHeartbeats 32000000 in
set_option maxRecDepth 100000 in
theorem scriptBack_walk (v1 : Value) (L : List Stp) (text : ByteArray) (W : World) (h1 : Steps W v1 L) (hf1 : ∀ s ∈ L, StpOk s ∧ StpFit s) (hT : TQ W) :
    Calls Tryd.prog 3 #[v1, .string text] W fun e W' => e = .returned (.bool true) ∧ Keep [] W W' := by
  have H1 := Lib.hid h1
  have F1 := Lib.hid hf1
  have HT := Lib.hid hT
  obtain ⟨ad1, cap1, hv1⟩ := h1.slice
  subst hv1
  clear h1 hf1 hT
  obtain ⟨n1, hn1⟩ : ∃ n, n = L.length := ⟨_, rfl⟩
  rw [← hn1] at H1 ⊢
  have N1 := Lib.hid hn1
  clear hn1
  go_enter Tryd.func3, Tryd.ntmps3
  go_upto_region 1 with (fail)
  go_wp2_with fail
  refine (much_any _ L W H1.out (fun s hs => (F1.out s hs).2)).mono ?_
  rintro e w1 ⟨hk1, b1, rfl, hb1⟩
  have HK1 := Lib.hid hk1
  have HB1 := Lib.hid hb1
  clear hk1 hb1
  cases b1 with
  | true =>
    go_wp2_with fail
    refine (known_true w1 (HT.out.keep0 HK1.out)).mono ?_
    rintro e w9 ⟨rfl, hk9⟩
    have HK9 := Lib.hid (HK1.out.trans0 hk9)
    clear hk9
    go_wp2
    go_ret
    exact ⟨rfl, HK9.out⟩
  | false =>
  have FW1 := Lib.hid (HB1.out rfl)
  clear HB1
  by_cases hz : 30000 < text.size
  · have g1 := dec_lt_t (show (30000 : Int) < (text.size : Int) by omega)
    have g2 := dec_ltn_t hz
    clear hz
    go_wp2_with fail
    refine (known_true w1 (HT.out.keep0 HK1.out)).mono ?_
    rintro e w9 ⟨rfl, hk9⟩
    have HK9 := Lib.hid (HK1.out.trans0 hk9)
    clear hk9
    go_wp2
    go_ret
    exact ⟨rfl, HK9.out⟩
  have g1 := dec_lt_f (show ¬ (30000 : Int) < (text.size : Int) by omega)
  have g2 := dec_ltn_f hz
  have HZ := Lib.hid (show text.size ≤ 30000 by omega)
  clear hz
  go_upto_region 3 with (fail)
  go_wp2_with fail
  refine (print_any _ L w1 (H1.out.keep0 HK1.out) (FW1.out.ok F1.out) (by have := FW1.out.1; omega) (HT.out.keep0 HK1.out)).mono ?_
  rintro e w3 ⟨rfl, hk3⟩
  have HK3 := Lib.hid (HK1.out.trans0 hk3)
  clear hk3 HK1 g1 g2
  obtain ⟨pv, hpv⟩ : ∃ p : ByteArray × Int, prnV (prn L) = .tuple #[.string p.1, .int .i64 p.2] ∧ (p.2 = 0 ∧ prn L = some p.1 ∨ p.2 = 19 ∧ prn L = none ∧ p.1 = ⟨#[]⟩) := by
    cases prn L with
    | none => exact ⟨(ByteArray.empty, 19), rfl, .inr ⟨rfl, rfl, rfl⟩⟩
    | some s => exact ⟨(s, 0), rfl, .inl ⟨rfl, rfl⟩⟩
  obtain ⟨s, eI⟩ := pv
  obtain ⟨hpv, hpc⟩ := hpv
  rw [hpv]
  have PC := Lib.hid hpc
  clear hpv hpc
  go_upto_region 7 with (fail)
  go_loopw [7, 8, 9] (fun ov xv iv wr => ∃ (k : Nat) (cs : List Value), iv = .int .i64 k ∧ k ≤ n1 ∧ ov = .bool (kindsB (L.take k)) ∧ Keep [] W wr ∧ wr.ownsRow W.heap.size 31 9 xv k cs ∧ StRds W ((L.take k).map bareS) cs) (fun _ _ iv _ => n1 - (intOf iv).toNat)
  case atStart => exact ⟨0, [], rfl, Nat.zero_le _, rfl, HK3.out, World.ownsRow_nil _ _ _ _, rfl⟩
  case round =>
    rename World => wr
    obtain ⟨k, cs, rfl, hk, rfl, hkr, hown, hrds⟩ := hrel
    have HKR := Lib.hid hkr
    have HOWN := Lib.hid hown
    have HRDS := Lib.hid hrds
    have hn200 : n1 ≤ 200 := by have := FW1.out.1; have := N1.out; omega
    clear hkr hown hrds
    by_cases hlt : k < n1
    · have HLT := Lib.hid hlt
      have g1 := dec_lt_t (show (k : Int) < (n1 : Int) by omega)
      have g2 := dec_ltn_t hlt
      have hkL : k < L.length := by rw [← N1.out]; exact hlt
      obtain ⟨gb, off, cp, e, hel⟩ := Steps.elem H1.out (by omega)
      injection e with e1 e2 e3
      subst e1
      clear e2 e3
      obtain ⟨ad2, cap2, ad3, cap3, hrd, hcl⟩ := hel k hkL
      have HKS := Lib.hid (kinds_snoc hkL)
      have HTK := Lib.hid (show (L.take (k + 1)).map bareS = (L.take k).map bareS ++ [bareS L[k]] by rw [List.take_succ_eq_append_getElem hkL, List.map_append]; rfl)
      have hki := (F1.out _ (List.getElem_mem hkL)).1.1
      generalize L[k] = x at hrd hcl HKS HTK hki
      have HRD := Lib.hid hrd
      have c0 : wr.cell? ⟨gb, off + k * 9, none⟩ = some (.int .i64 x.kind) := HKR.out.cellv (hcl 0 _ rfl) (by simp)
      have c1 : wr.cell? ⟨gb, off + k * 9 + 1, none⟩ = some (.int .i64 x.site) := HKR.out.cellv (hcl 1 _ rfl) (by simp)
      have c2 : wr.cell? ⟨gb, off + k * 9 + 2, none⟩ = some (.int .i64 x.peer) := HKR.out.cellv (hcl 2 _ rfl) (by simp)
      have c3 : wr.cell? ⟨gb, off + k * 9 + 3, none⟩ = some (.int .i64 x.unit) := HKR.out.cellv (hcl 3 _ rfl) (by simp)
      have c4 : wr.cell? ⟨gb, off + k * 9 + 4, none⟩ = some (.int .i64 x.at_) := HKR.out.cellv (hcl 4 _ rfl) (by simp)
      have c5 : wr.cell? ⟨gb, off + k * 9 + 5, none⟩ = some (.int .i64 x.n) := HKR.out.cellv (hcl 5 _ rfl) (by simp)
      have c6 : wr.cell? ⟨gb, off + k * 9 + 6, none⟩ = some (.string x.text) := HKR.out.cellv (hcl 6 _ rfl) (by simp)
      have c7 : wr.cell? ⟨gb, off + k * 9 + 7, none⟩ = some (.slice ad2 x.draws.length cap2) := HKR.out.cellv (hcl 7 _ rfl) (by simp)
      have c8 : wr.cell? ⟨gb, off + k * 9 + 8, none⟩ = some (.slice ad3 x.data.size cap3) := HKR.out.cellv (hcl 8 _ rfl) (by simp)
      obtain ⟨kd, hkd⟩ : ∃ kd, kd = x.kind := ⟨_, rfl⟩
      rw [← hkd] at c0 HKS hki
      obtain ⟨nd, hnd⟩ : ∃ nd, nd = x.draws.length := ⟨_, rfl⟩
      obtain ⟨nb, hnb⟩ : ∃ nb, nb = x.data.size := ⟨_, rfl⟩
      rw [← hnd] at c7 HRD
      rw [← hnb] at c8 HRD
      have HSN := Lib.hid (fun ad5 cap5 ad6 cap6 (h : StRd W (bareS x) (.slice ad5 (bareS x).draws.length cap5) (.slice ad6 (bareS x).data.size cap6)) => HRDS.out.snoc h)
      have HBA := Lib.hid (bare_any x ad2 ad3 nd cap2 nb cap3 wr)
      unfold stV at HBA
      rw [← hkd] at HBA
      have KD := Lib.hid hkd
      clear hcl hel hkL hrd hkd hnd hnb hlt
      obtain ⟨ob, hob⟩ : ∃ ob, ob = kindsB (L.take k) := ⟨_, rfl⟩
      rw [← hob] at HKS ⊢
      clear hob
      by_cases hob : ob = true
      · subst hob
        by_cases hA : 1 ≤ kd
        · by_cases hB : kd ≤ 14
          · have hcs := And.intro hA hB
            have g3 : decide (1 ≤ kd) = true := decide_eq_true hA
            have g4 : decide (kd ≤ 14) = true := decide_eq_true hB
            clear hA hB
            have HK7 := Lib.hid (show kindsB (L.take (k + 1)) = true by rw [HKS.out]; simp [hcs])
            clear hcs
            go_upto_region 10 with (fail)
            go_wp2_with fail
            refine HBA.out.mono ?_
            rintro e w5 hpost
            obtain ⟨hk5, ad5, cap5, ad6, cap6, rfl, hrd5⟩ := hpost.rd HRD.out
            clear hpost HBA c0 c1 c2 c3 c4 c5 c6 c7 c8
            have hn5 := HSN.out ad5 cap5 ad6 cap6 hrd5
            generalize bareS x = y at hn5 hrd5 HTK ⊢
            obtain ⟨v6, w6, hap, hap2⟩ := out_append (W := w5) (stV y (.slice ad5 y.draws.length cap5) (.slice ad6 y.data.size cap6)) rfl (by simp [stV, Value.oneCell']) (hk5.owns HOWN.out (by simp)) (Nat.le_trans HKR.out.size hk5.size) (by omega)
            obtain ⟨ho6, hk6, hb6, _⟩ := hap2
            have HK6 := Lib.hid (show Keep [] W w6 from ((HKR.out.trans0 hk5).alloc _).trans hk6 (fun q hq => .inr (own_ge HOWN.out q hq)))
            have HO6 := Lib.hid ho6
            have HN6 := Lib.hid (show StRds W ((L.take (k + 1)).map bareS) (cs ++ (stV y (.slice ad5 y.draws.length cap5) (.slice ad6 y.data.size cap6)).toList) by rw [HTK.out]; exact hn5)
            have HAP := Lib.hid hap
            unfold stV at HAP ⊢
            clear hn5 hrd5 hap ho6 hk6 hb6 hk5
            generalize y.draws.length = ny at *
            generalize y.data.size = my at *
            go_wp2_with (at_builtin; refine wpList_append_eq rfl (.tmp 59) (.tmp 65) 22 rfl rfl rfl HAP.out ?_)
            clear HAP
            go_wp2
            go_roundw
            case rel => exact ⟨k + 1, _, by go_num, by have := HLT.out; omega, by rw [HK7.out], HK6.out, HO6.out, HN6.out⟩
            case measure => have := HLT.out; simp [intOf]; omega
          · have hcs : ¬ kd ≤ 14 := hB
            have g3 : decide (1 ≤ kd) = true := decide_eq_true hA
            have g4 : decide (kd ≤ 14) = false := decide_eq_false hB
            clear hA hB
            have HK7 := Lib.hid (show kindsB (L.take (k + 1)) = false by rw [HKS.out]; simp [hcs])
            clear hcs
            go_upto_region 10 with (fail)
            go_wp2_with fail
            refine HBA.out.mono ?_
            rintro e w5 hpost
            obtain ⟨hk5, ad5, cap5, ad6, cap6, rfl, hrd5⟩ := hpost.rd HRD.out
            clear hpost HBA c0 c1 c2 c3 c4 c5 c6 c7 c8
            have hn5 := HSN.out ad5 cap5 ad6 cap6 hrd5
            generalize bareS x = y at hn5 hrd5 HTK ⊢
            obtain ⟨v6, w6, hap, hap2⟩ := out_append (W := w5) (stV y (.slice ad5 y.draws.length cap5) (.slice ad6 y.data.size cap6)) rfl (by simp [stV, Value.oneCell']) (hk5.owns HOWN.out (by simp)) (Nat.le_trans HKR.out.size hk5.size) (by omega)
            obtain ⟨ho6, hk6, hb6, _⟩ := hap2
            have HK6 := Lib.hid (show Keep [] W w6 from ((HKR.out.trans0 hk5).alloc _).trans hk6 (fun q hq => .inr (own_ge HOWN.out q hq)))
            have HO6 := Lib.hid ho6
            have HN6 := Lib.hid (show StRds W ((L.take (k + 1)).map bareS) (cs ++ (stV y (.slice ad5 y.draws.length cap5) (.slice ad6 y.data.size cap6)).toList) by rw [HTK.out]; exact hn5)
            have HAP := Lib.hid hap
            unfold stV at HAP ⊢
            clear hn5 hrd5 hap ho6 hk6 hb6 hk5
            generalize y.draws.length = ny at *
            generalize y.data.size = my at *
            go_wp2_with (at_builtin; refine wpList_append_eq rfl (.tmp 59) (.tmp 65) 22 rfl rfl rfl HAP.out ?_)
            clear HAP
            go_wp2
            go_roundw
            case rel => exact ⟨k + 1, _, by go_num, by have := HLT.out; omega, by rw [HK7.out], HK6.out, HO6.out, HN6.out⟩
            case measure => have := HLT.out; simp [intOf]; omega
        · have hcs : ¬ 1 ≤ kd := hA
          have g3 : decide (1 ≤ kd) = false := decide_eq_false hA
          clear hA
          have HK7 := Lib.hid (show kindsB (L.take (k + 1)) = false by rw [HKS.out]; simp [hcs])
          clear hcs
          go_upto_region 10 with (fail)
          go_wp2_with fail
          refine HBA.out.mono ?_
          rintro e w5 hpost
          obtain ⟨hk5, ad5, cap5, ad6, cap6, rfl, hrd5⟩ := hpost.rd HRD.out
          clear hpost HBA c0 c1 c2 c3 c4 c5 c6 c7 c8
          have hn5 := HSN.out ad5 cap5 ad6 cap6 hrd5
          generalize bareS x = y at hn5 hrd5 HTK ⊢
          obtain ⟨v6, w6, hap, hap2⟩ := out_append (W := w5) (stV y (.slice ad5 y.draws.length cap5) (.slice ad6 y.data.size cap6)) rfl (by simp [stV, Value.oneCell']) (hk5.owns HOWN.out (by simp)) (Nat.le_trans HKR.out.size hk5.size) (by omega)
          obtain ⟨ho6, hk6, hb6, _⟩ := hap2
          have HK6 := Lib.hid (show Keep [] W w6 from ((HKR.out.trans0 hk5).alloc _).trans hk6 (fun q hq => .inr (own_ge HOWN.out q hq)))
          have HO6 := Lib.hid ho6
          have HN6 := Lib.hid (show StRds W ((L.take (k + 1)).map bareS) (cs ++ (stV y (.slice ad5 y.draws.length cap5) (.slice ad6 y.data.size cap6)).toList) by rw [HTK.out]; exact hn5)
          have HAP := Lib.hid hap
          unfold stV at HAP ⊢
          clear hn5 hrd5 hap ho6 hk6 hb6 hk5
          generalize y.draws.length = ny at *
          generalize y.data.size = my at *
          go_wp2_with (at_builtin; refine wpList_append_eq rfl (.tmp 59) (.tmp 65) 22 rfl rfl rfl HAP.out ?_)
          clear HAP
          go_wp2
          go_roundw
          case rel => exact ⟨k + 1, _, by go_num, by have := HLT.out; omega, by rw [HK7.out], HK6.out, HO6.out, HN6.out⟩
          case measure => have := HLT.out; simp [intOf]; omega
      · have hcs : ob = false := by simpa using hob
        clear hob
        subst hcs
        have hcs := trivial
        have HK7 := Lib.hid (show kindsB (L.take (k + 1)) = false by rw [HKS.out]; simp [hcs])
        clear hcs
        go_upto_region 10 with (fail)
        go_wp2_with fail
        refine HBA.out.mono ?_
        rintro e w5 hpost
        obtain ⟨hk5, ad5, cap5, ad6, cap6, rfl, hrd5⟩ := hpost.rd HRD.out
        clear hpost HBA c0 c1 c2 c3 c4 c5 c6 c7 c8
        have hn5 := HSN.out ad5 cap5 ad6 cap6 hrd5
        generalize bareS x = y at hn5 hrd5 HTK ⊢
        obtain ⟨v6, w6, hap, hap2⟩ := out_append (W := w5) (stV y (.slice ad5 y.draws.length cap5) (.slice ad6 y.data.size cap6)) rfl (by simp [stV, Value.oneCell']) (hk5.owns HOWN.out (by simp)) (Nat.le_trans HKR.out.size hk5.size) (by omega)
        obtain ⟨ho6, hk6, hb6, _⟩ := hap2
        have HK6 := Lib.hid (show Keep [] W w6 from ((HKR.out.trans0 hk5).alloc _).trans hk6 (fun q hq => .inr (own_ge HOWN.out q hq)))
        have HO6 := Lib.hid ho6
        have HN6 := Lib.hid (show StRds W ((L.take (k + 1)).map bareS) (cs ++ (stV y (.slice ad5 y.draws.length cap5) (.slice ad6 y.data.size cap6)).toList) by rw [HTK.out]; exact hn5)
        have HAP := Lib.hid hap
        unfold stV at HAP ⊢
        clear hn5 hrd5 hap ho6 hk6 hb6 hk5
        generalize y.draws.length = ny at *
        generalize y.data.size = my at *
        go_wp2_with (at_builtin; refine wpList_append_eq rfl (.tmp 59) (.tmp 65) 22 rfl rfl rfl HAP.out ?_)
        clear HAP
        go_wp2
        go_roundw
        case rel => exact ⟨k + 1, _, by go_num, by have := HLT.out; omega, by rw [HK7.out], HK6.out, HO6.out, HN6.out⟩
        case measure => have := HLT.out; simp [intOf]; omega
    · obtain rfl : k = n1 := by omega
      have g1 := dec_lt_f (show ¬ (k : Int) < (k : Int) by omega)
      have g2 := dec_ltn_f hlt
      clear hlt
      have htk : L.take k = L := by rw [N1.out, List.take_length]
      have hws := (HRDS.out.keep0 HKR.out).steps (base := W.heap.size) (v := u8) (by rw [List.length_map, List.length_take, ← N1.out, Nat.min_self]; exact HOWN.out)
      rw [htk] at hws
      obtain ⟨adw, capw, hxw⟩ := hws.slice
      subst hxw
      have HWS := Lib.hid hws
      rw [htk, kinds_prn]
      clear htk hws HOWN HRDS
      obtain ⟨lw, hlw⟩ : ∃ lw, lw = (L.map bareS).length := ⟨_, rfl⟩
      rw [← hlw] at HWS ⊢
      clear hlw
      rcases PC.out with ⟨hE, hP⟩ | ⟨hE, hP, hS⟩
      · try simp only at hE hP
        subst hE
        have HP := Lib.hid hP
        rw [hP]
        clear hP PC
        have ZS := Lib.hid (FW1.out.prn F1.out HP.out)
        have HPS := Lib.hid (prs_prn (fun x hx => (F1.out x hx).1) HP.out)
        have HOK := Lib.hid (bare_fine (FW1.out.ok F1.out))
        go_upto_region 14 with (fail)
        go_wp2_with fail
        refine (parse_says s (L.map bareS) 0 0 _ (by have := ZS.out; omega) (HT.out.keep0 HKR.out) HPS.out).mono ?_
        rintro e w5 ⟨ad5, cap5, rfl, hk5, hs5⟩
        have HS5 := Lib.hid hs5
        have HW5 := Lib.hid (HWS.out.keep0 hk5)
        have HK5 := Lib.hid (HKR.out.trans0 hk5)
        clear hk5 hs5 HWS HKR g1 g2
        obtain ⟨lm, hlm⟩ : ∃ lm, lm = (L.map bareS).length := ⟨_, rfl⟩
        rw [← hlm] at HS5 ⊢
        clear hlm
        have HPR := Lib.hid (print_any _ (L.map bareS) w5 HS5.out HOK.out (by rw [List.length_map]; have := FW1.out.1; omega) (HT.out.keep0 HK5.out))
        rw [prn_bare, HP.out] at HPR
        unfold prnV at HPR
        go_upto_region 15 with (fail)
        go_wp2_with fail
        refine HPR.out.mono ?_
        rintro e w6 ⟨rfl, hk6⟩
        have HS6 := Lib.hid (HS5.out.keep0 hk6)
        have HW6 := Lib.hid (HW5.out.keep0 hk6)
        have HK6 := Lib.hid (HK5.out.trans0 hk6)
        clear hk6 HPR HS5 HW5 HK5
        go_upto_region 16 with (fail)
        go_wp2_with fail
        refine (same_any (L.map bareS) _ _ w6 HS6.out HW6.out (by rw [List.length_map]; have := FW1.out.1; omega) (bare_draws (FW1.out.ok F1.out))).mono ?_
        rintro e w7 ⟨rfl, hk7⟩
        have HK7 := Lib.hid (HK6.out.trans0 hk7)
        clear hk7 HS6 HW6 HK6
        have hss : (s.toList == s.toList) = true := by simp
        go_upto_region 18 with (fail)
        clear hss
        have hfa := prsT_facts text
        have hfs := prsT_small HZ.out
        obtain ⟨⟨T, ln, eb⟩, hpt⟩ : ∃ r, prsT text = r := ⟨_, rfl⟩
        rw [hpt] at hfa hfs
        obtain ⟨hfa1, hfa2, hfa3, hfa4⟩ := hfa
        simp only at hfa1 hfa2 hfa3 hfa4 hfs
        go_wp2_with fail
        refine (parse_says text T ln eb _ (by have := HZ.out; omega) (HT.out.keep0 HK7.out) hpt).mono ?_
        rintro e u1 ⟨ad8, cap8, rfl, hu1, hsu1⟩
        have KU1 := Lib.hid (HK7.out.trans0 hu1)
        have SU1 := Lib.hid hsu1
        clear hu1 hsu1 hpt
        by_cases heb : eb = 0
        · subst heb
          obtain rfl : ln = 0 := hfa4 rfl
          have HOKT := Lib.hid (show StpsOk T from fun x hx => ⟨(hfa1 x hx).2.2, hfs.1 x hx⟩)
          obtain ⟨t, ht⟩ := prn_some T (fun x hx => (hfa1 x hx).2.1)
          have HPT := Lib.hid (prs_prn (fun x hx => (hfa1 x hx).2.2) ht)
          rw [bare_map hfa1] at HPT
          have ZT := Lib.hid (show t.size ≤ 100000000 by have h1 := prn_le T (fun x hx => (hfa1 x hx).2.2) ht; have := HZ.out; omega)
          have ZL := Lib.hid hfs.2
          obtain ⟨lt, hlt⟩ : ∃ lt, lt = T.length := ⟨_, rfl⟩
          rw [← hlt] at SU1 ⊢
          clear hlt
          have HPR := Lib.hid (print_any _ T u1 SU1.out HOKT.out (by have := ZL.out; omega) (HT.out.keep0 KU1.out))
          rw [ht] at HPR
          unfold prnV at HPR
          clear hfa1 hfa2 hfa3 hfa4 hfs ht
          go_upto_region 21 with (fail)
          go_wp2_with fail
          refine HPR.out.mono ?_
          rintro e u2 ⟨rfl, hu2⟩
          have KU2 := Lib.hid (KU1.out.trans0 hu2)
          have SU2 := Lib.hid (SU1.out.keep0 hu2)
          clear hu2 SU1 HPR
          go_upto_region 22 with (fail)
          go_wp2_with fail
          refine (parse_says t T 0 0 u2 ZT.out (HT.out.keep0 KU2.out) HPT.out).mono ?_
          rintro e u3 ⟨ad9, cap9, rfl, hu3, hsu3⟩
          have KU3 := Lib.hid (KU2.out.trans0 hu3)
          have SU3 := Lib.hid (SU2.out.keep0 hu3)
          have SV3 := Lib.hid hsu3
          clear hu3 hsu3 SU2
          obtain ⟨lv, hlv⟩ : ∃ lv, lv = T.length := ⟨_, rfl⟩
          rw [← hlv] at SV3 ⊢
          clear hlv
          go_upto_region 23 with (fail)
          go_wp2_with fail
          refine (same_any T _ _ u3 SV3.out SU3.out (by have := ZL.out; omega) (fun x hx => by have := (HOKT.out x hx).2.2.2; omega)).mono ?_
          rintro e u4 ⟨rfl, hu4⟩
          have KU4 := Lib.hid (KU3.out.trans0 hu4)
          clear hu4
          go_wp2_with fail
          refine (known_true u4 (HT.out.keep0 KU4.out)).mono ?_
          rintro e w9 ⟨rfl, hk9⟩
          have HK9 := Lib.hid (KU4.out.trans0 hk9)
          clear hk9
          go_wp2
          go_ret
          exact ⟨rfl, HK9.out⟩
        · obtain ⟨hT0, hl1⟩ := hfa3 heb
          subst hT0
          obtain ⟨eJ, heJ⟩ : ∃ eJ : Int, eJ = ((eb : Nat) : Int) := ⟨_, rfl⟩
          rw [← heJ]
          have g3 : (eJ != 0) = true := by simp; omega
          have g4 : decide ((0 : Int) < (ln : Int)) = true := decide_eq_true (by omega)
          have g5 : decide (0 < ln) = true := decide_eq_true (by omega)
          clear hfa1 hfa2 hfa3 hfa4 hfs heb heJ hl1
          go_wp2_with fail
          refine (known_true u1 (HT.out.keep0 KU1.out)).mono ?_
          rintro e w9 ⟨rfl, hk9⟩
          have HK9 := Lib.hid (KU1.out.trans0 hk9)
          clear hk9
          go_wp2
          go_ret
          exact ⟨rfl, HK9.out⟩
      · try simp only at hE hP hS
        subst hE
        subst hS
        rw [hP]
        clear hP PC
        go_upto_region 18 with (fail)
        clear g1 g2
        have hfa := prsT_facts text
        have hfs := prsT_small HZ.out
        obtain ⟨⟨T, ln, eb⟩, hpt⟩ : ∃ r, prsT text = r := ⟨_, rfl⟩
        rw [hpt] at hfa hfs
        obtain ⟨hfa1, hfa2, hfa3, hfa4⟩ := hfa
        simp only at hfa1 hfa2 hfa3 hfa4 hfs
        go_wp2_with fail
        refine (parse_says text T ln eb _ (by have := HZ.out; omega) (HT.out.keep0 HKR.out) hpt).mono ?_
        rintro e u1 ⟨ad8, cap8, rfl, hu1, hsu1⟩
        have KU1 := Lib.hid (HKR.out.trans0 hu1)
        have SU1 := Lib.hid hsu1
        clear hu1 hsu1 hpt
        by_cases heb : eb = 0
        · subst heb
          obtain rfl : ln = 0 := hfa4 rfl
          have HOKT := Lib.hid (show StpsOk T from fun x hx => ⟨(hfa1 x hx).2.2, hfs.1 x hx⟩)
          obtain ⟨t, ht⟩ := prn_some T (fun x hx => (hfa1 x hx).2.1)
          have HPT := Lib.hid (prs_prn (fun x hx => (hfa1 x hx).2.2) ht)
          rw [bare_map hfa1] at HPT
          have ZT := Lib.hid (show t.size ≤ 100000000 by have h1 := prn_le T (fun x hx => (hfa1 x hx).2.2) ht; have := HZ.out; omega)
          have ZL := Lib.hid hfs.2
          obtain ⟨lt, hlt⟩ : ∃ lt, lt = T.length := ⟨_, rfl⟩
          rw [← hlt] at SU1 ⊢
          clear hlt
          have HPR := Lib.hid (print_any _ T u1 SU1.out HOKT.out (by have := ZL.out; omega) (HT.out.keep0 KU1.out))
          rw [ht] at HPR
          unfold prnV at HPR
          clear hfa1 hfa2 hfa3 hfa4 hfs ht
          go_upto_region 21 with (fail)
          go_wp2_with fail
          refine HPR.out.mono ?_
          rintro e u2 ⟨rfl, hu2⟩
          have KU2 := Lib.hid (KU1.out.trans0 hu2)
          have SU2 := Lib.hid (SU1.out.keep0 hu2)
          clear hu2 SU1 HPR
          go_upto_region 22 with (fail)
          go_wp2_with fail
          refine (parse_says t T 0 0 u2 ZT.out (HT.out.keep0 KU2.out) HPT.out).mono ?_
          rintro e u3 ⟨ad9, cap9, rfl, hu3, hsu3⟩
          have KU3 := Lib.hid (KU2.out.trans0 hu3)
          have SU3 := Lib.hid (SU2.out.keep0 hu3)
          have SV3 := Lib.hid hsu3
          clear hu3 hsu3 SU2
          obtain ⟨lv, hlv⟩ : ∃ lv, lv = T.length := ⟨_, rfl⟩
          rw [← hlv] at SV3 ⊢
          clear hlv
          go_upto_region 23 with (fail)
          go_wp2_with fail
          refine (same_any T _ _ u3 SV3.out SU3.out (by have := ZL.out; omega) (fun x hx => by have := (HOKT.out x hx).2.2.2; omega)).mono ?_
          rintro e u4 ⟨rfl, hu4⟩
          have KU4 := Lib.hid (KU3.out.trans0 hu4)
          clear hu4
          go_wp2_with fail
          refine (known_true u4 (HT.out.keep0 KU4.out)).mono ?_
          rintro e w9 ⟨rfl, hk9⟩
          have HK9 := Lib.hid (KU4.out.trans0 hk9)
          clear hk9
          go_wp2
          go_ret
          exact ⟨rfl, HK9.out⟩
        · obtain ⟨hT0, hl1⟩ := hfa3 heb
          subst hT0
          obtain ⟨eJ, heJ⟩ : ∃ eJ : Int, eJ = ((eb : Nat) : Int) := ⟨_, rfl⟩
          rw [← heJ]
          have g3 : (eJ != 0) = true := by simp; omega
          have g4 : decide ((0 : Int) < (ln : Int)) = true := decide_eq_true (by omega)
          have g5 : decide (0 < ln) = true := decide_eq_true (by omega)
          clear hfa1 hfa2 hfa3 hfa4 hfs heb heJ hl1
          go_wp2_with fail
          refine (known_true u1 (HT.out.keep0 KU1.out)).mono ?_
          rintro e w9 ⟨rfl, hk9⟩
          have HK9 := Lib.hid (KU1.out.trans0 hk9)
          clear hk9
          go_wp2
          go_ret
          exact ⟨rfl, HK9.out⟩
end Go.Proofs.YtbidppjhenfjdaaDoor
namespace Go.Proofs.YtbidppjhenfjdaaDoor.scriptBack
open Go.ChangeShapes Go.WideShapes Go.ChangeAt Go.RowKit
open Go.ChangeMaps (open_string shut_string)
set_option linter.unusedVariables false

set_option maxRecDepth 100000 in
theorem contract (H : Type) (enc : TypeId × Value → H) (W : World) (base : Nat) (args : Array Value) (ds gs : List (DataW H)) (before : List MemPlace)
    (hval : ∀ (j : Nat) t v, Tryd.f3.params[j]? = some t → args[j]? = some v → Value.okWide Tryd.prog W .any base t v)
    (hW : DataW.Whole enc Tryd.prog Tryd.f3.params.toList Rows.scriptBackSpec.vars false W args.toList ds gs before) (hL : laidMetH Tryd.prog laid1 W) (hWt : (DataW.weightsEach Tryd.prog (Tryd.f3.params.toList ++ []) (ds ++ gs)).all (· ≤ reachBytes) = true) :
    Calls Tryd.prog 3 args W fun e W' => ∃ v, e = .returned v ∧ Rows.scriptBackSpec.post enc Tryd.prog Tryd.f3 false true false false W args v W' := by
  have hW' := hW
  obtain ⟨p, q, hA0, hV, rfl, hfz, hnd⟩ := hW
  have hA : DataW.TrodAll enc Tryd.prog W 0 (fun _ => true) true Tryd.f3.params.toList args.toList ds p := hA0
  rw [Tryd.params3] at hA hval hWt
  obtain ⟨v0, vs0, d0, ds0, p0, q0, hargs, rfl, rfl, h0, r0⟩ := trodAll_cons hA
  obtain ⟨v1, vs1, d1, ds1, p1, q1, rfl, rfl, rfl, h1, r1⟩ := trodAll_cons r0
  obtain ⟨rfl, rfl, rfl⟩ := trodAll_nil r1
  obtain rfl : args = #[v0, v1] := by cases args; simp_all
  obtain ⟨rfl, rfl⟩ := trodVars_none hV
  have hWt' : (DataW.weightsEach Tryd.prog [22, 9] [d0, d1]).all (· ≤ reachBytes) = true := hWt
  simp only [DataW.weightsEach, List.all_append, Bool.and_eq_true] at hWt'
  obtain ⟨w0, w1, _⟩ := hWt'
  clear hA0
  simp only [List.append_nil] at hW'
  have hlt : ∀ x ∈ p0 ++ (p1), x.block < W.heap.size := fun x hx => by simpa using hW'.lt x (by simpa using hx)
  have k0 := h0
  obtain ⟨xs0, hx0, hf0⟩ := open_steps (hval 0 22 v0 rfl rfl) h0 w0
  have k1 := h1
  obtain ⟨s1, rfl, _, _, hs1⟩ := open_string Tryd.underlying9 (hval 1 9 v1 rfl rfl) h1
  refine (scriptBack_walk v0 xs0 s1 W hx0 hf0 (table hL)).mono fun e W' ⟨he, hk⟩ => ?_
  subst he
  have hb := hk.below
  exact ⟨_, rfl, _, _, _, [], p0 ++ (p1 ++ []), [], hW', trodAll_cons_mk (shut_bool Tryd.underlying4 _) trodAll_mk0, trodAll_cons_mk (Below.trod laidOut (by kernel_rfl) (of_decide_eq_true (by kernel_rfl)) k0 hb (fun x hx => hlt x (by simp [hx]))) (trodAll_cons_mk (Below.trod laidOut (by kernel_rfl) (of_decide_eq_true (by kernel_rfl)) k1 hb (fun x hx => hlt x (by simp [hx]))) trodAll_mk0), rfl, hb.frame _, fun h => by cases h⟩

theorem laid_met (os : Os) : laidMet Tryd.prog laid1 ((laidWorld os).forCall (fun _ _ => 0) ⟨#[], #[.slice none 0 0, .string ByteArray.empty], []⟩).memory :=
  laidMet_of_run' 8 (by kernel_rfl) (by kernel_rfl)
theorem reads (os : Os) {H : Type} (enc : TypeId × Value → H) : ∃ places, DataW.whole enc Tryd.prog ((laidWorld os).forCall (fun _ _ => 0) ⟨#[], #[.slice none 0 0, .string ByteArray.empty], []⟩).memory Tryd.f3.params.toList Rows.scriptBackSpec.vars false #[(.slice none 0 0 : Value), .string ByteArray.empty].toList 8 = some ([.nil, .lit (.string [])], [], places) :=
  ⟨[], by kernel_rfl⟩

set_option maxRecDepth 100000 in
theorem lifted (os : Os) (started : os.Started) (H : Type) (enc : TypeId × Value → H) (F : Stop.Interp) :
    ReturnsInHanded {} Tryd.checked os 3 .any ((OpenSpec.ofChange Rows.scriptBackSpec).preRow enc Tryd.prog Tryd.f3 Rows.scriptBackRow.domain false Rows.scriptBackRow.laid) (((OpenSpec.ofChange Rows.scriptBackSpec).at F).post enc Tryd.prog Tryd.f3 false true false false) := by
  obtain ⟨places, hx⟩ := reads os enc
  refine returnsInHanded_of_row (C := Tryd.checked) (s := OpenSpec.ofChange Rows.scriptBackSpec) own started (by kernel_rfl) Tryd.func3
    (witness_row_at (enc := enc) (C := Tryd.checked) false (laidWorld os) #[.slice none 0 0, .string ByteArray.empty] rfl (by kernel_rfl) (by kernel_rfl) (by kernel_rfl)
      (OpenSpec.preRow_of_cond 8 hx (by kernel_rfl) (fun k hk => by cases hk) (by kernel_rfl) (laid_met os))) ?_
  intro W base args ds gs before hval hW _ _ hWt hL _ _
  exact contract H enc W base args ds gs before hval hW hL hWt

theorem said : Rows.ScriptBackSaid :=
  OpenClaim.holds_of_cond 3 Tryd.f3 rfl rfl rfl rfl rfl rfl rfl ⟨rfl, rfl, rfl, rfl, rfl⟩ rfl rfl rfl rfl rfl (by kernel_rfl) Tryd.func3 (by kernel_rfl)
    (of_decide_eq_true (by kernel_rfl)) (by unfold Func.isWrapper; first | (rw [if_pos (by decide +kernel)]; kernel_rfl) | (rw [if_neg (by decide +kernel)]; exact ⟨rfl, rfl⟩))
    (fun os started H enc _ F => by rw [OpenClaim.pre_eq_preRow]; exact lifted os started H enc F)

/-- No parameter wants a stand-in; the program's own looks are off. -/
theorem plain (f : FuncId) (fn : Func) (hf : Tryd.pinned.checked.prog.funcNamed "hearsay/hearsaylaw22.ScriptBack" = some f) (hfn : Tryd.pinned.checked.prog.funcs[f]? = some fn) :
    true = Tryd.pinned.checked.prog.looks [] ∧ ∀ (j : Nat) t, fn.params[j]? = some t → Tryd.pinned.checked.prog.wantsStandIn t = false := by
  obtain rfl : f = 3 := Option.some.inj ((show Tryd.prog.funcNamed "hearsay/hearsaylaw22.ScriptBack" = some 3 by kernel_rfl).symm.trans hf) |>.symm
  obtain rfl : fn = Tryd.f3 := (Option.some.inj (Tryd.func3.symm.trans hfn)).symm
  refine ⟨by kernel_rfl, fun j t ht => ?_⟩
  rw [Tryd.params3] at ht
  have hm := Array.mem_of_getElem? ht
  simp at hm
  have hm' : t = 22 ∨ t = 9 := by simpa using hm
  rcases hm' with rfl | rfl
  · exact (show Tryd.prog.wantsStandIn 22 = false by kernel_rfl)
  · exact (show Tryd.prog.wantsStandIn 9 = false by kernel_rfl)

/-- THE CARD. -/
theorem card : Rows.ScriptBackCardSaid :=
  Claim7.holds_tied_plain_at .later [] _ _ _ _ said (fun _ h => by cases h) (by kernel_rfl) (fun _ h => by cases h) scriptBack_row_tie rfl ⟨rfl, rfl⟩ (by kernel_rfl) rfl plain (by kernel_rfl)
end Go.Proofs.YtbidppjhenfjdaaDoor.scriptBack
