/-
  The listed variables through a run; Atoi and Itoa.
-/
import Derived.Test.YtbmapellhcdipaaDoorShelf2
import Derived.Test.YtbmapellhcdipaaDoorScnC
import Derived.Test.YtbmapellhcdipaaDoorQuoC
import Derived.Test.YtbmapellhcdipaaDoorKeep
namespace Go.Proofs.YtbmapellhcdipaaDoor
open Go.RowKit Go.Shelf
set_option linter.unusedVariables false

theorem gP : Tryd.prog.globalNamed "internal/strconv.uint64pow10" = some 0 := by kernel_rfl
theorem gS : Tryd.prog.globalNamed "strconv.ErrSyntax" = some 1 := by kernel_rfl
theorem gR : Tryd.prog.globalNamed "strconv.ErrRange" = some 2 := by kernel_rfl
theorem var_keep {P : Program} {n : String} {g : Nat} (hg : P.globalNamed n = some g) {w w' : World} {cs : Array Value} {L : List Nat} (h : w.var? P n = some cs) (k : Keep L w w') (hL : g ∉ L) : w'.var? P n = some cs := by
  unfold World.var? at h ⊢
  rw [hg, Option.bind_some] at h ⊢
  cases ho : w.heap[g]? with
  | none => rw [ho] at h; cases h
  | some o =>
    rw [ho] at h
    rw [k.at_ ho hL]
    exact h
theorem var_lt {P : Program} {n : String} {g : Nat} (hg : P.globalNamed n = some g) {w : World} {cs : Array Value} (h : w.var? P n = some cs) : g < w.heap.size := by
  unfold World.var? at h
  rw [hg, Option.bind_some] at h
  cases ho : w.heap[g]? with
  | none => rw [ho] at h; cases h
  | some o => exact (Array.getElem?_eq_some_iff.1 ho).1
/-- The listed variables. -/
def TQ (w : World) : Prop := TZ w ∧ Lib.TabIs Tryd.prog w "internal/strconv.uint64pow10" .u64 Lib.pow10Tab ∧ (∃ t p, w.var? Tryd.prog "strconv.ErrSyntax" = some #[.iface t p]) ∧ (∃ t p, w.var? Tryd.prog "strconv.ErrRange" = some #[.iface t p])
/-- Their blocks. -/
def tqB : List Nat := [4, 0, 1, 2]
theorem TQ.keep {w w' : World} {L : List Nat} (h : TQ w) (k : Keep L w w') (hL : ∀ b ∈ tqB, b ∉ L) : TQ w' := by
  obtain ⟨h1, h2, ⟨t, p, h3⟩, ⟨t', p', h4⟩⟩ := h
  exact ⟨h1.keep k (hL _ (by simp [tqB])), var_keep gP h2 k (hL _ (by simp [tqB])), ⟨t, p, var_keep gS h3 k (hL _ (by simp [tqB]))⟩, ⟨t', p', var_keep gR h4 k (hL _ (by simp [tqB]))⟩⟩
theorem TQ.keep0 {w w' : World} (h : TQ w) (k : Keep [] w w') : TQ w' := h.keep k (fun _ _ => by simp)
theorem TQ.lt {w : World} (h : TQ w) : ∀ b ∈ tqB, b < w.heap.size := by
  obtain ⟨h1, h2, ⟨t, p, h3⟩, ⟨t', p', h4⟩⟩ := h
  intro b hb
  simp only [tqB, List.mem_cons, List.not_mem_nil, or_false] at hb
  rcases hb with rfl | rfl | rfl | rfl
  · exact World.block_lt_of_cell? _ _ h1
  · exact var_lt gP h2
  · exact var_lt gS h3
  · exact var_lt gR h4
theorem keep_new {w w' : World} (h : Below w.heap.size w w') : Keep [] w w' := Keep.of_below h (Nat.le_refl _)

/-- What Atoi says. -/
theorem atoi_any (x : ByteArray) (w : World) (hz : x.size ≤ 1000000) (hT : TQ w) : Calls Tryd.prog 47 #[.string x] w fun e w' =>
    Keep [] w w' ∧ ((∃ v, Lib.atoiAll x.data.toList = .ok v ∧ e = .returned (.tuple #[.int .i64 v, .nilIface])) ∨ ((∀ v, Lib.atoiAll x.data.toList ≠ .ok v) ∧ ∃ z t q, e = .returned (.tuple #[.int .i64 z, .iface t q]))) := by
  obtain ⟨h1, h2, ⟨t, p, h3⟩, ⟨t', p', h4⟩⟩ := hT
  cases ha : Lib.atoiAll x.data.toList with
  | ok v =>
    refine (Tryd.strconv_Atoi_ok x (by omega) v ha w).mono ?_
    rintro e w' ⟨rfl, rfl | ⟨y, rfl⟩⟩
    · exact ⟨Keep.refl _ _, .inl ⟨v, rfl, rfl⟩⟩
    · exact ⟨keep_new ⟨rfl, rfl, rfl, by rw [Lib.bytesWorld_size]; omega, fun k hk => Lib.bytesWorld_at_old w _ _ k (by omega)⟩, .inl ⟨v, rfl, rfl⟩⟩
  | range =>
    refine (Tryd.strconv_Atoi_range_var x (by omega) ha t' p' w h4).mono ?_
    rintro e w' ⟨N, rfl, _, _, hb⟩
    exact ⟨keep_new hb, .inr ⟨fun v hv => (by cases hv), _, _, _, rfl⟩⟩
  | _ =>
    refine (Tryd.strconv_Atoi_syntax_var x (by omega) ha t p w h3).mono ?_
    rintro e w' ⟨N, rfl, _, _, hb⟩
    exact ⟨keep_new hb, .inr ⟨fun v hv => (by cases hv), _, _, _, rfl⟩⟩
theorem atoi_range {l : List UInt8} {v : Int} (h1 : Lib.atoiAll l = .ok v) : -9223372036854775808 ≤ v ∧ v < 9223372036854775808 := by
  unfold Lib.atoiAll at h1
  cases l with
  | nil => cases h1
  | cons c r =>
    simp only at h1
    split at h1
    · cases h1
    · cases h1
    · split at h1
      · cases h1
      · split at h1
        · cases h1
        · injection h1 with h1
          split at h1 <;> omega
/-- What Itoa says. -/
theorem itoa_any (v : Int) (w : World) (h : -9223372036854775808 ≤ v ∧ v < 9223372036854775808) (hT : TQ w) : Calls Tryd.prog 48 #[.int .i64 v] w fun e w' => e = .returned (.string ⟨(Lib.itoa v).toArray⟩) ∧ Keep [] w w' := by
  refine (Tryd.strconv_Itoa v h.1 (by omega) w hT.2.1).mono ?_
  rintro e w' ⟨rfl, k, os, rfl⟩
  refine ⟨rfl, ?_⟩
  have h1 : Keep [] w (w.drewN k) := (Keep.refl [] w).drewN k
  have h2 : Keep [] (w.drewN k) (Sort.grow (w.drewN k) os) := ⟨rfl, rfl, rfl, by simp [Sort.grow], fun b hb _ => by simp only [Sort.grow]; rw [Array.getElem?_append_left hb]⟩
  exact h1.trans0 h2
end Go.Proofs.YtbmapellhcdipaaDoor
