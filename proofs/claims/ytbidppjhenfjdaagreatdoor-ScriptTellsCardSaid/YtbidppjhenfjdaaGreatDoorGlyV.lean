/-
  What Decode and Last answer: plain.
-/
import Derived.Test.YtbidppjhenfjdaaGreatDoorGlyQ
namespace Go.Proofs.YtbidppjhenfjdaaGreatDoor
set_option linter.unusedVariables false
set_option linter.unusedSimpArgs false

theorem RuneAt.cutout {s : ByteArray} {i r n : Nat} (h : RuneAt s i r n) : RuneAt (s.extract i (i + n)) 0 r (s.extract i (i + n)).size := by
  have h4 := h.n4
  obtain ⟨hs, h⟩ := h
  have hz := size_ext s i (i + n) hs
  have e : i + n - i = n := by omega
  rw [e] at hz
  rw [hz]
  refine ⟨by omega, ?_⟩
  have e0 := byt_extract s i (i + n) 0
  have e1 := byt_extract s i (i + n) 1
  have e2 := byt_extract s i (i + n) 2
  have e3 := byt_extract s i (i + n) 3
  simp only [Nat.add_zero, Nat.zero_add] at e0 e1 e2 e3 ⊢
  rcases h with ⟨rfl, h1, h2⟩ | ⟨rfl, h1, h2, h3, h4⟩ | ⟨rfl, h1, h2, h3, h4, h5, h6, h7⟩ | ⟨rfl, h1, h2, h3, h4, h5, h6, h7, h8⟩
  · rw [e0 (by omega) hs]; exact .inl ⟨rfl, h1, h2⟩
  · rw [e0 (by omega) hs, e1 (by omega) hs]; exact .inr (.inl ⟨rfl, h1, h2, h3, h4⟩)
  · rw [e0 (by omega) hs, e1 (by omega) hs, e2 (by omega) hs]; exact .inr (.inr (.inl ⟨rfl, h1, h2, h3, h4, h5, h6, h7⟩))
  · rw [e0 (by omega) hs, e1 (by omega) hs, e2 (by omega) hs, e3 (by omega) hs]; exact .inr (.inr (.inr ⟨rfl, h1, h2, h3, h4, h5, h6, h7, h8⟩))

/-- Does a rune begin there? -/
def isB (s : ByteArray) (i : Nat) : Bool := decide (wid s i ≠ 0)
/-- What Decode answers at a place within the text. -/
def decV (s : ByteArray) (i : Nat) : Value := .tuple #[.int .i32 (dec s i).1, .int .i64 (dec s i).2, .bool (isB s i)]
/-- What Decode and Last answer outside. -/
def noneV : Value := .tuple #[.int .i32 0, .int .i64 0, .bool false]

/-- What Last answers at a place within the text. -/
def lstV (s : ByteArray) (e : Nat) : Value := .tuple #[.int .i32 (lst s e).1, .int .i64 (lst s e).2, .bool (decide (lstN s e ≠ 0))]
theorem lstV_none {s : ByteArray} {e : Nat} (h : ∀ n, 1 ≤ n → n ≤ 4 → n ≤ e → wid s (e - n) ≠ n) : lstV s e = .tuple #[.int .i32 65533, .int .i64 1, .bool false] := by
  unfold lstV lst; rw [lstN_none h]; rfl
theorem lstV_is {s : ByteArray} {e n : Nat} (he : e ≤ s.size) (h1 : 1 ≤ n) (hn : n ≤ e) (hw : wid s (e - n) = n) : lstV s e = .tuple #[.int .i32 (dec s (e - n)).1, .int .i64 n, .bool true] := by
  have hne : n ≠ 0 := by omega
  unfold lstV lst; rw [lstN_is he h1 hn hw]; simp [hne]

end Go.Proofs.YtbidppjhenfjdaaGreatDoor
