/-
  What a quoted text is: plain.
-/
import Derived.Test.YtbidppjhenfjdaaGreatDoorQuoA
import Derived.Test.YtbidppjhenfjdaaGreatDoorQuoB
namespace Go.Proofs.YtbidppjhenfjdaaGreatDoor
open Go.RowKit
set_option linter.unusedVariables false
set_option linter.unusedSimpArgs false

/-- A hexadecimal digit's byte. -/
def hexd (n : Nat) : Nat := if n < 10 then 48 + n else 87 + n
theorem hexd_lt {n : Nat} (h : n < 16) : hexd n < 128 ∧ 48 ≤ hexd n := by unfold hexd; split <;> omega
/-- A number in hexadecimal digits. -/
def hexs (n : Nat) : ByteArray := if h : n < 16 then one (hexd n) else hexs (n / 16) ++ one (hexd (n % 16))
termination_by n
theorem hexs_small {n : Nat} (h : n < 16) : hexs n = one (hexd n) := by rw [hexs, dif_pos h]
theorem hexs_big {n : Nat} (h : ¬ n < 16) : hexs n = hexs (n / 16) ++ one (hexd (n % 16)) := by rw [hexs, dif_neg h]
theorem hexs_size : ∀ (k n : Nat), n < 16 ^ k → 0 < k → 1 ≤ (hexs n).size ∧ (hexs n).size ≤ k
  | 0, _, _, h => by omega
  | k + 1, n, hn, _ => by
    by_cases h : n < 16
    · rw [hexs_small h, one_size]; omega
    · rw [hexs_big h, ByteArray.size_append, one_size]
      have hk : 0 < k := by
        refine Nat.pos_of_ne_zero fun e => ?_
        subst e
        simp at hn; omega
      have := hexs_size k (n / 16) (by rw [Nat.pow_succ] at hn; omega) hk
      omega
/-- \x and two digits. -/
def two (c : Nat) : ByteArray := one 92 ++ one 120 ++ one (hexd (c / 16)) ++ one (hexd (c % 16))
/-- \u{ and digits. -/
def braces (r : Nat) : ByteArray := one 92 ++ one 117 ++ one 123 ++ hexs r ++ one 125
/-- The letter behind a backslash; 0: none. -/
def lett (r : Nat) : Nat := if r = 34 then 34 else if r = 92 then 92 else if r = 10 then 110 else if r = 13 then 114 else if r = 9 then 116 else 0
/-- A piece, quoted. -/
def qp (s : ByteArray) (i : Nat) : ByteArray :=
  if wid s i = 0 then two (byt s i)
  else if lett (dec s i).1 ≠ 0 then one 92 ++ one (lett (dec s i).1)
  else if (dec s i).1 < 32 ∨ (dec s i).1 = 127 then two (byt s i)
  else if hr (dec s i).1 = true then braces (dec s i).1
  else Utf8.encode (dec s i).1
def qcat (s : ByteArray) : List Nat → ByteArray
  | [] => ByteArray.empty
  | i :: l => qp s i ++ qcat s l
theorem qcat_append (s : ByteArray) (a b : List Nat) : qcat s (a ++ b) = qcat s a ++ qcat s b := by
  induction a with
  | nil => simp [qcat]
  | cons i a ih => simp [qcat, ih, ByteArray.append_assoc]
theorem qcat_snoc (s : ByteArray) (a : List Nat) (i : Nat) : qcat s (a ++ [i]) = qcat s a ++ qp s i := by rw [qcat_append]; simp [qcat]
/-- A text, quoted. -/
def quo (s : ByteArray) : ByteArray := one 34 ++ qcat s (cut s 0) ++ one 34
theorem two_size (c : Nat) : (two c).size = 4 := by simp [two, ByteArray.size_append, one_size]
theorem braces_size {r : Nat} (h : r ≤ 1114111) : (braces r).size ≤ 10 := by
  have := hexs_size 6 r (by omega) (by decide)
  simp [braces, ByteArray.size_append, one_size]
  omega
theorem qp_size {s : ByteArray} {i : Nat} (hi : i < s.size) : (qp s i).size ≤ 10 := by
  have h1 := dec_le hi
  have h2 := braces_size h1
  have h3 := enc_size ((dec s i).1 : Nat)
  have h4 := two_size (byt s i)
  unfold qp
  split
  · omega
  · split
    · rw [ByteArray.size_append, one_size, one_size]; omega
    · split
      · omega
      · split <;> omega
theorem qcat_size {s : ByteArray} : ∀ {l : List Nat}, (∀ i ∈ l, i < s.size) → (qcat s l).size ≤ 10 * l.length
  | [], _ => by simp [qcat]
  | i :: l, h => by
    have h1 := qp_size (h i (by simp))
    have h2 := qcat_size (l := l) (fun j hj => h j (by simp [hj]))
    simp only [qcat, ByteArray.size_append, List.length_cons]
    omega
end Go.Proofs.YtbidppjhenfjdaaGreatDoor
