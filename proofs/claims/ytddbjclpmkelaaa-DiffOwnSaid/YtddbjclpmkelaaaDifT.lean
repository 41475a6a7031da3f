/-
  What the law knows: plain facts.
-/
import Derived.Test.YtddbjclpmkelaaaDifO
namespace Go.Proofs.Ytddbjclpmkelaaa
open Go.RowKit
set_option linter.unusedVariables false
set_option linter.unusedSimpArgs false

def lftF : Nat → List Int → List Int → Nat
  | 0, _, _ => 0
  | n + 1, [], y => y.length
  | n + 1, a :: x, [] => x.length + 1
  | n + 1, a :: x, b :: y => if a = b then lftF n x y else 1 + min (lftF n x (b :: y)) (lftF n (a :: x) y)
theorem lftF_eq : ∀ (n : Nat) (x y : List Int), x.length + y.length < n → lftF n x y = lft x y
  | 0, _, _, h => by omega
  | n + 1, [], y, _ => by rw [lftF, nil_lft]
  | n + 1, a :: x, [], _ => by rw [lftF, lft_nil]; rfl
  | n + 1, a :: x, b :: y, h => by
    simp only [List.length_cons] at h
    rw [lftF]
    by_cases e : a = b
    · subst e; rw [if_pos rfl, lft_cons_same, lftF_eq n x y (by omega)]
    · rw [if_neg e, lft_cons_ne e, lftF_eq n x (b :: y) (by simp; omega), lftF_eq n (a :: x) y (by simp; omega)]
def mkF : Nat → List Int → List Int → Ed → List Ed
  | 0, _, _, _ => []
  | n + 1, [], [], e => e.flush
  | n + 1, [], b :: y, e => mkF n [] y (e.lay b)
  | n + 1, a :: x, [], e => mkF n x [] e.more
  | n + 1, a :: x, b :: y, e => if a = b then e.flush ++ mkF n x y e.nxt else if lftF 100 x (b :: y) < lftF 100 (a :: x) (b :: y) then mkF n x (b :: y) e.more else mkF n (a :: x) y (e.lay b)
theorem mkF_eq : ∀ (n : Nat) (x y : List Int) (e : Ed), x.length + y.length < n → x.length + y.length < 100 → mkF n x y e = mkE x y e
  | 0, _, _, _, h, _ => by omega
  | n + 1, [], [], e, _, _ => by rw [mkF, mkE_nil]
  | n + 1, [], b :: y, e, h, h2 => by simp only [List.length_cons, List.length_nil] at h h2; rw [mkF, mkE_lay0, mkF_eq n [] y _ (by simp; omega) (by simp; omega)]
  | n + 1, a :: x, [], e, h, h2 => by simp only [List.length_cons, List.length_nil] at h h2; rw [mkF, mkE_more0, mkF_eq n x [] _ (by simp; omega) (by simp; omega)]
  | n + 1, a :: x, b :: y, e, h, h2 => by
    simp only [List.length_cons] at h h2
    rw [mkF]
    by_cases e' : a = b
    · subst e'; rw [if_pos rfl, mkE_same, mkF_eq n x y _ (by omega) (by omega)]
    · rw [if_neg e', lftF_eq 100 x (b :: y) (by simp; omega), lftF_eq 100 (a :: x) (b :: y) (by simp; omega)]
      by_cases hl : lft x (b :: y) < lft (a :: x) (b :: y)
      · rw [if_pos hl, mkE_more e' _ _ _ hl, mkF_eq n x (b :: y) _ (by simp; omega) (by simp; omega)]
      · rw [if_neg hl, mkE_lay e' _ _ _ hl, mkF_eq n (a :: x) y _ (by simp; omega) (by simp; omega)]
def cutF (s : ByteArray) : Nat → Nat → List Nat
  | 0, _ => []
  | n + 1, i => if i < s.size then i :: cutF s n (i + (dec s i).2) else []
theorem cutF_eq (s : ByteArray) : ∀ (n i : Nat), s.size - i ≤ n → cutF s n i = cut s i := by
  intro n
  induction n with
  | zero => intro i h; rw [cut_end (by omega)]; rfl
  | succ n ih =>
    intro i h
    unfold cutF
    by_cases hi : i < s.size
    · have := dec_n hi
      rw [if_pos hi, cut_step hi, ih _ (by omega)]
    · rw [if_neg hi, cut_end hi]

theorem known_mk : mkOut ⟨#[107, 105, 116, 116, 101, 110]⟩ ⟨#[115, 105, 116, 116, 105, 110, 103]⟩ = (0, [⟨0, 1, [115]⟩, ⟨3, 1, [105]⟩, ⟨1, 0, [103]⟩]) := by
  have h1 : (⟨#[107, 105, 116, 116, 101, 110]⟩ : ByteArray) = txt [107, 105, 116, 116, 101, 110] := by kernel_rfl
  have h2 : (⟨#[115, 105, 116, 116, 105, 110, 103]⟩ : ByteArray) = txt [115, 105, 116, 116, 105, 110, 103] := by kernel_rfl
  rw [h1, h2]
  unfold mkOut
  rw [badAt_txt, badAt_txt, (runs_text _).1, (runs_text _).1, if_pos (by decide), if_pos (by decide)]
  unfold mkD
  rw [show ([107, 105, 116, 116, 101, 110] : List Int).map fixr = [107, 105, 116, 116, 101, 110] by decide, show ([115, 105, 116, 116, 105, 110, 103] : List Int).map fixr = [115, 105, 116, 116, 105, 110, 103] by decide]
  rw [← mkF_eq 20 _ _ _ (by decide) (by decide)]
  have h3 : mkF 20 [107, 105, 116, 116, 101, 110] [115, 105, 116, 116, 105, 110, 103] ⟨0, 0, []⟩ = [⟨0, 1, [115]⟩, ⟨3, 1, [105]⟩, ⟨1, 0, [103]⟩] := by kernel_rfl
  rw [h3]
theorem known_bad : mkOut ⟨#[255]⟩ ⟨#[97]⟩ = (2, []) := by
  have h1 : badAt ⟨#[255]⟩ = 0 := by unfold badAt; rw [← cutF_eq _ 1 0 (by decide)]; kernel_rfl
  unfold mkOut
  rw [h1, if_neg (by simp)]
theorem known_ap : apAll ⟨#[104, 195, 169, 121]⟩ [(1, 1, ⟨#[101, 120]⟩)] = (0, [104, 101, 120, 121], [[233]]) := by
  have h1 : (⟨#[104, 195, 169, 121]⟩ : ByteArray) = txt [104, 233, 121] := by kernel_rfl
  have h2 : (⟨#[101, 120]⟩ : ByteArray) = txt [101, 120] := by kernel_rfl
  rw [h1, h2]
  unfold apAll
  rw [badAt_txt, if_neg (by decide), (runs_text _).1, show ([104, 233, 121] : List Int).map fixr = [104, 233, 121] by decide]
  rw [ap_next (by decide) (by show ¬ 0 ≤ badAt (txt [101, 120]); rw [badAt_txt]; decide) (by decide), (runs_text _).1]
  decide
theorem known_inv : invOut ⟨#[104, 195, 169, 121]⟩ [(1, 1, ⟨#[101, 120]⟩)] = (0, [(1, 2, ⟨#[195, 169]⟩)]) := by
  unfold invOut
  rw [known_ap, if_pos rfl]
  have h2 : (cut ⟨#[101, 120]⟩ 0).length = 2 := by rw [← cutF_eq _ 2 0 (by decide)]; kernel_rfl
  have h3 : txt [233] = ⟨#[195, 169]⟩ := by kernel_rfl
  simp only [invL, h2, h3]
  rfl
theorem known_wt : wsat 0 [(0, 1, ⟨#[115]⟩), (3, 1, ⟨#[105]⟩), (1, 0, ⟨#[103]⟩)] = 5 := by
  have h1 : (cut ⟨#[115]⟩ 0).length = 1 := by rw [← cutF_eq _ 1 0 (by decide)]; kernel_rfl
  have h2 : (cut ⟨#[105]⟩ 0).length = 1 := by rw [← cutF_eq _ 1 0 (by decide)]; kernel_rfl
  have h3 : (cut ⟨#[103]⟩ 0).length = 1 := by rw [← cutF_eq _ 1 0 (by decide)]; kernel_rfl
  simp only [wsat, h1, h2, h3]
  decide
end Go.Proofs.Ytddbjclpmkelaaa
