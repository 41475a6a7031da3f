/-
  The map of escapes.
-/
import Derived.Test.YtbidppjhenfjdaaGreatDoorQuoC
import Derived.Test.YtbidppjhenfjdaaGreatDoorIntMap
namespace Go.Proofs.YtbidppjhenfjdaaGreatDoor
open Go.RowKit Go.MapKept
set_option linter.unusedVariables false
set_option linter.unusedSimpArgs false

section
variable {P : Program} {t kt et : TypeId} {w : World} {b : Nat} {k : IntKind} {es : Array MapEntry} {clock : Nat} (ht : P.underlying t = some (.map kt et)) (hkt : P.underlying kt = some (.int k))
include ht hkt
/-- A key that is new, and the block that it leaves. -/
theorem upd_exact (hb : w.heap[b]? = some (.map es clock)) (hes : ∀ e ∈ es.toList, ∃ n, e.key = .int k n) (x : Int) (v : Value) (hx : ∀ e ∈ es.toList, e.key ≠ .int k x) :
    ∃ w', (Instr.mapUpdate t (.map (some b)) (.int k x) v).run P w = .ok () w' ∧ w'.heap[b]? = some (.map (es.push { key := .int k x, val := v, born := clock }) (clock + 1)) ∧ Keep [b] w w' := by
  have hkey : IsKey (.int k) (.int k x) := by simp [IsKey]
  have hck := fun e => MapKept.run_checkKey (P := P) (w := w) hkt hkey e 9999
  have hall : ∀ e ∈ es.toList, IsKey (.int k) e.key := fun e he => by obtain ⟨n, hn⟩ := hes e he; rw [hn]; simp [IsKey]
  rcases findNow_spec hkey es.toList 0 hall with ⟨h1, h2⟩ | ⟨j, e, h1, h2, h3⟩
  · have hf := MapKept.run_findKey (P := P) (w := w) hkt h1
    refine ⟨{ w with heap := w.heap.setIfInBounds b (.map (es.push { key := .int k x, val := v, born := clock }) (clock + 1)) }, by simp [Instr.mapUpdate, run_underlying ht, MapKept.run_getObj_map hb, hck, hf, MapKept.run_setObj_map _ hb, Result.andThen], ?_, ⟨rfl, rfl, rfl, by simp, fun i _ hn => ?_⟩⟩
    · have hlt := lt_of_block hb
      simp [hlt]
    · have : b ≠ i := fun e => hn (by simp [e])
      simp [this]
  · exact absurd h3 (hx e (List.mem_of_getElem? h2))
end

def escE : Array MapEntry := #[⟨.int .i32 34, .int .u8 34, 0⟩, ⟨.int .i32 92, .int .u8 92, 1⟩, ⟨.int .i32 10, .int .u8 110, 2⟩, ⟨.int .i32 13, .int .u8 114, 3⟩, ⟨.int .i32 9, .int .u8 116, 4⟩]
def escL : List (Int × Value) := [(34, .int .u8 34), (92, .int .u8 92), (10, .int .u8 110), (13, .int .u8 114), (9, .int .u8 116)]
set_option maxHeartbeats 4000000 in
theorem escapes_any (w : World) :
    Calls Tryz.prog 58 #[] w fun e w' => ∃ b, e = .returned (.map (some b)) ∧ w.heap.size ≤ b ∧ w'.heap[b]? = some (.map escE 5) ∧ Keep [] w w' := by
  have hmm := @run_makeMap Tryz.prog
  have h0 : (w.alloc (.map #[] 0)).heap[w.heap.size]? = some (.map #[] 0) := World.alloc_heap_new w _
  obtain ⟨w1, r1, i1, k1⟩ := upd_exact (P := Tryz.prog) Tryz.underlying129 Tryz.underlying21 h0 (by simp) 34 (.int .u8 34) (by simp)
  obtain ⟨w2, r2, i2, k2⟩ := upd_exact (P := Tryz.prog) Tryz.underlying129 Tryz.underlying21 i1 (by simp) 92 (.int .u8 92) (by simp)
  obtain ⟨w3, r3, i3, k3⟩ := upd_exact (P := Tryz.prog) Tryz.underlying129 Tryz.underlying21 i2 (by simp) 10 (.int .u8 110) (by simp)
  obtain ⟨w4, r4, i4, k4⟩ := upd_exact (P := Tryz.prog) Tryz.underlying129 Tryz.underlying21 i3 (by simp) 13 (.int .u8 114) (by simp)
  obtain ⟨w5, r5, i5, k5⟩ := upd_exact (P := Tryz.prog) Tryz.underlying129 Tryz.underlying21 i4 (by simp) 9 (.int .u8 116) (by simp)
  have HF := Lib.hid (show w5.heap[w.heap.size]? = some (.map escE 5) ∧ Keep [] w w5 from ⟨i5, ((((((Keep.refl [] w).alloc _).trans k1 (fun b hb => by simp at hb; exact .inr (by omega))).trans k2 (fun b hb => by simp at hb; exact .inr (by omega))).trans k3 (fun b hb => by simp at hb; exact .inr (by omega))).trans k4 (fun b hb => by simp at hb; exact .inr (by omega))).trans k5 (fun b hb => by simp at hb; exact .inr (by omega))⟩)
  clear i1 i2 i3 i4 i5 k1 k2 k3 k4 k5 h0
  go_enter Tryz.func58, Tryz.ntmps58
  go_wp2
  go_ret
  exact ⟨_, rfl, Nat.le_refl _, HF.out.1, HF.out.2⟩
theorem esc_im {w : World} {b : Nat} (h : w.heap[b]? = some (.map escE 5)) : IM w b .i32 escL := ⟨escE, 5, h, rfl⟩
theorem u8_zero (W : World) : (zeroValue 5).run Tryz.prog W = .ok (.int .u8 0) W := by kernel_rfl
/-- by[r]. -/
theorem esc_look {w : World} {b : Nat} (h : w.heap[b]? = some (.map escE 5)) (r : Nat) : (Instr.lookup 129 (.map (some b)) (.int .i32 (r : Nat)) true).run Tryz.prog w = .ok (.tuple #[.int .u8 (lett r : Nat), .bool (decide (lett r ≠ 0))]) w := by
  rw [im_lookup (P := Tryz.prog) Tryz.underlying129 Tryz.underlying21 (esc_im h) (r : Nat) true (u8_zero w), if_pos rfl]
  have h1 : imV escL (r : Nat) (.int .u8 0) = .int .u8 (lett r : Nat) ∧ imHas escL (r : Nat) = decide (lett r ≠ 0) := by
    unfold lett
    by_cases c1 : r = 34
    · subst c1; exact ⟨rfl, rfl⟩
    by_cases c2 : r = 92
    · subst c2; exact ⟨rfl, rfl⟩
    by_cases c3 : r = 10
    · subst c3; exact ⟨rfl, rfl⟩
    by_cases c4 : r = 13
    · subst c4; exact ⟨rfl, rfl⟩
    by_cases c5 : r = 9
    · subst c5; exact ⟨rfl, rfl⟩
    have e1 : ((34 : Int) == (r : Int)) = false := by simp; omega
    have e2 : ((92 : Int) == (r : Int)) = false := by simp; omega
    have e3 : ((10 : Int) == (r : Int)) = false := by simp; omega
    have e4 : ((13 : Int) == (r : Int)) = false := by simp; omega
    have e5 : ((9 : Int) == (r : Int)) = false := by simp; omega
    simp [imV, imHas, escL, e1, e2, e3, e4, e5, c1, c2, c3, c4, c5]
  rw [h1.1, h1.2]
end Go.Proofs.YtbidppjhenfjdaaGreatDoor
