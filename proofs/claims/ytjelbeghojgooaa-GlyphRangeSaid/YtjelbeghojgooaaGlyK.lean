/-
  Walks of the law's runes and known.
-/
import Derived.Test.YtjelbeghojgooaaGlyJ
import Derived.Test.YtjelbeghojgooaaGlyM
namespace Go.Proofs.Ytjelbeghojgooaa
open Go.RowKit
set_option linter.unusedVariables false
set_option linter.unusedSimpArgs false

set_option maxHeartbeats 4000000 in
theorem runes_true (va vb : Value) (l : List Int) (w : World) (ha : SlAt w va l.length (l.map (Value.int .i32))) (hb : SlAt w vb l.length (l.map (Value.int .i32))) (hl : l.length ≤ 4611686018427387904) :
    Calls Try.prog 25 #[va, vb] w fun e w' => e = .returned (.bool true) ∧ Keep [] w w' := by
  obtain ⟨ada, ca, rfl, _, h1⟩ := ha
  obtain ⟨adb, cb, rfl, _, h2⟩ := hb
  have H1 := Lib.hid h1; have H2 := Lib.hid h2; clear h1 h2
  obtain ⟨n, hn⟩ : ∃ n, n = l.length := ⟨_, rfl⟩
  rw [← hn] at hl ⊢
  have HNN := Lib.hid hn; clear hn
  have hne : ((n : Int) != (n : Int)) = false := by simp
  go_enter Try.func25, Try.ntmps25
  go_wp2
  go_loopw [5] (fun i wr => ∃ k : Nat, k ≤ n ∧ i = .int .i64 k ∧ Keep [] w wr) (fun i _ => n - (intOf i).toNat)
  case atStart => exact ⟨0, Nat.zero_le _, rfl, Keep.refl _ _⟩
  case round =>
    obtain ⟨k, hk, rfl, hkp⟩ := hrel
    have HK := Lib.hid hkp; clear hkp
    by_cases hlt : k < n
    · have hltd : decide (k < n) = true := by simpa using hlt
      have hkl : k < l.length := by rw [← HNN.out]; exact hlt
      obtain ⟨b1, o1, rfl, c1⟩ := H1.out (by rw [← HNN.out]; omega)
      obtain ⟨b2, o2, rfl, c2⟩ := H2.out (by rw [← HNN.out]; omega)
      have hx : (l.map (Value.int .i32))[k]? = some (.int .i32 l[k]) := by rw [List.getElem?_map, List.getElem?_eq_getElem hkl]; rfl
      have d1 := HK.out.cellv (c1 k _ hx) (by simp)
      have d2 := HK.out.cellv (c2 k _ hx) (by simp)
      have C1 := Lib.hid c1; have C2 := Lib.hid c2; clear c1 c2 hx
      generalize l[k] = x at *
      have hxx : (x != x) = false := by simp
      have hki : ((k : Int) < (n : Int)) := by omega
      go_wp2_with fail
      go_quiet (fail)
      go_wp2
      go_roundw
      case rel => exact ⟨k + 1, by omega, by go_num, HK.out.drewN _⟩
      case measure => simp [intOf]; omega
    · have hltd : decide (k < n) = false := by simpa using hlt
      obtain rfl : k = n := by omega
      go_wp2
      go_ret
      exact ⟨rfl, HK.out⟩

/-- The pieces by fuel: for a text that is written out. -/
def cutF (s : ByteArray) : Nat → Nat → List Nat
  | 0, _ => []
  | n + 1, i => if i < s.size then i :: cutF s n (i + (dec s i).2) else []
theorem cutF_eq (s : ByteArray) : ∀ n i, s.size - i ≤ n → cutF s n i = cut s i := by
  intro n
  induction n with
  | zero => intro i h; rw [cut_end (by omega)]; rfl
  | succ n ih =>
    intro i h
    unfold cutF
    by_cases hi : i < s.size
    · have := dec_n hi
      rw [if_pos hi, cut_step hi, ih _ (by omega)]
    · rw [if_neg hi, cut_end hi]
theorem slat_new (w : World) (cs : List Value) (t : TypeId) (n : Nat) (h : cs.length = n) : SlAt (w.alloc (.cells cs.toArray t)) (.slice (some ⟨w.heap.size, 0, none⟩) n n) n cs := by
  refine ⟨_, _, rfl, ⟨fun h0 => List.eq_nil_of_length_eq_zero (by omega), fun h => by cases h⟩, fun _ => ⟨_, _, rfl, fun i u hu => ?_⟩⟩
  have := cell_new_row w cs t i u hu
  rw [addr0_add] at this
  rw [Nat.zero_add]; exact this
theorem RunesPost.sl {s : ByteArray} {w : World} {r : Ending} {w' : World} (h : RunesPost s w r w') :
    r = .returned (.slice (some ⟨w.heap.size, 0, none⟩) (runs s 0).length (runs s 0).length) ∧ SlAt w' (.slice (some ⟨w.heap.size, 0, none⟩) (runs s 0).length (runs s 0).length) (runs s 0).length ((runs s 0).map (Value.int .i32)) ∧ Keep [] w w' := by
  obtain ⟨cur, rfl, hb, ht, hk⟩ := h
  refine ⟨rfl, ⟨_, _, rfl, ⟨fun h0 => by rw [List.eq_nil_of_length_eq_zero h0]; rfl, fun h => by cases h⟩, fun _ => ⟨_, _, rfl, fun i u hu => ?_⟩⟩, hk⟩
  rw [← ht, List.getElem?_take] at hu
  split at hu
  · rw [Nat.zero_add, cell_of_block hb]
    simpa using hu
  · cases hu

abbrev tA : ByteArray := ⟨#[97, 195, 169]⟩
theorem fact1 : decV ⟨#[97, 195, 169]⟩ 1 = .tuple #[.int .i32 233, .int .i64 2, .bool true] := by kernel_rfl
theorem fact2 : lstV ⟨#[226, 130]⟩ 2 = .tuple #[.int .i32 65533, .int .i64 1, .bool false] := by kernel_rfl
theorem cutA : cut ⟨#[97, 195, 169]⟩ 0 = [0, 1] := by rw [← cutF_eq _ 3 0 (by decide)]; kernel_rfl
theorem cutH : cut ⟨#[104, 195, 169, 121]⟩ 0 = [0, 1, 3] := by rw [← cutF_eq _ 4 0 (by decide)]; kernel_rfl
theorem cutE : cut ⟨#[97, 226, 130]⟩ 0 = [0, 1, 2] := by rw [← cutF_eq _ 3 0 (by decide)]; kernel_rfl
theorem cutC : cut ⟨#[195, 169, 255]⟩ 0 = [0, 2] := by rw [← cutF_eq _ 3 0 (by decide)]; kernel_rfl
theorem cutM : cut ⟨#[255]⟩ 0 = [0] := by rw [← cutF_eq _ 1 0 (by decide)]; kernel_rfl
theorem cutR : cut ⟨#[97, 255]⟩ 0 = [0, 1] := by rw [← cutF_eq _ 2 0 (by decide)]; kernel_rfl
theorem fact3 : cutV ⟨#[104, 195, 169, 121]⟩ 2 = .tuple #[.string ⟨#[104, 195, 169]⟩, .string ⟨#[121]⟩] := by
  unfold cutV cutAt; rw [cutH]; kernel_rfl
theorem fact4 : Utf8.encode 55296 = ⟨#[239, 191, 189]⟩ := by kernel_rfl
theorem fact5 : badAt ⟨#[97, 226, 130]⟩ = 1 := by unfold badAt; rw [cutE]; kernel_rfl
theorem fact6 : badAt ⟨#[97, 195, 169]⟩ = -1 := by unfold badAt; rw [cutA]; kernel_rfl
theorem fact7 : (cut ⟨#[195, 169, 255]⟩ 0).length = 2 := by rw [cutC]; rfl
theorem fact8 : mend ⟨#[255]⟩ = ⟨#[239, 191, 189]⟩ := by unfold mend runs; rw [cutM]; kernel_rfl
theorem fact9 : txt [97, -1, 119070] = ⟨#[97, 239, 191, 189, 240, 157, 132, 158]⟩ := by kernel_rfl
theorem fact10 : runs ⟨#[97, 255]⟩ 0 = [97, 65533] := by unfold runs; rw [cutR]; kernel_rfl

theorem kn1 (w : World) : Calls Try.prog 13 #[.string ⟨#[97, 195, 169]⟩, .int .i64 1] w fun e w' => e = .returned (.tuple #[.int .i32 233, .int .i64 2, .bool true]) ∧ w = w' := by
  have := decode_in ⟨#[97, 195, 169]⟩ 1 w (by decide) (by decide)
  rw [fact1] at this; exact this
theorem kn2 (w : World) : Calls Try.prog 15 #[.string ⟨#[226, 130]⟩, .int .i64 2] w fun e w' => e = .returned (.tuple #[.int .i32 65533, .int .i64 1, .bool false]) ∧ w = w' := by
  have := last_in ⟨#[226, 130]⟩ 2 w (by decide) (by decide) (by decide)
  rw [fact2] at this; exact this
theorem kn3 (w : World) : Calls Try.prog 17 #[.string ⟨#[104, 195, 169, 121]⟩, .int .i64 2] w fun e w' => e = .returned (.tuple #[.string ⟨#[104, 195, 169]⟩, .string ⟨#[121]⟩]) ∧ Keep [] w w' := by
  have := cut_any ⟨#[104, 195, 169, 121]⟩ 2 w (by decide) (by decide) (by decide)
  rw [fact3] at this; exact this
theorem kn4 (w : World) : Calls Try.prog 28 #[.int .i32 55296] w fun e w' => e = .returned (.string ⟨#[239, 191, 189]⟩) ∧ w = w' := by
  have := encode_any 55296 w
  rw [fact4] at this; exact this
theorem kn5 (w : World) : Calls Try.prog 19 #[.string ⟨#[97, 226, 130]⟩] w fun e w' => e = .returned (.int .i64 1) ∧ Keep [] w w' := by
  have := badAt_any ⟨#[97, 226, 130]⟩ w (by decide)
  rw [fact5] at this; exact this
theorem kn6 (w : World) : Calls Try.prog 19 #[.string ⟨#[97, 195, 169]⟩] w fun e w' => e = .returned (.int .i64 (-1)) ∧ Keep [] w w' := by
  have := badAt_any ⟨#[97, 195, 169]⟩ w (by decide)
  rw [fact6] at this; exact this
theorem kn7 (w : World) : Calls Try.prog 21 #[.string ⟨#[195, 169, 255]⟩] w fun e w' => e = .returned (.int .i64 2) ∧ Keep [] w w' := by
  have := count_any ⟨#[195, 169, 255]⟩ w (by decide)
  rw [fact7] at this; exact this
theorem kn8 (w : World) : Calls Try.prog 23 #[.string ⟨#[255]⟩] w fun e w' => e = .returned (.string ⟨#[239, 191, 189]⟩) ∧ Keep [] w w' := by
  have := mend_any ⟨#[255]⟩ w (by decide)
  rw [fact8] at this; exact this
theorem kn9 (w : World) : Calls Try.prog 30 #[.slice (some ⟨w.heap.size, 0, none⟩) 3 3] (w.alloc (.cells #[.int .i32 97, .int .i32 (-1), .int .i32 119070] 21)) fun e w' => e = .returned (.string ⟨#[97, 239, 191, 189, 240, 157, 132, 158]⟩) ∧ (w.alloc (.cells #[.int .i32 97, .int .i32 (-1), .int .i32 119070] 21)) = w' := by
  have := text_any _ [97, -1, 119070] _ (slat_new w [.int .i32 97, .int .i32 (-1), .int .i32 119070] 21 3 rfl)
  rw [fact9] at this; exact this
theorem kn10 (w : World) : Calls Try.prog 26 #[.string ⟨#[97, 255]⟩] w fun e w' => e = .returned (.slice (some ⟨w.heap.size, 0, none⟩) 2 2) ∧ Hid (SlAt w' (.slice (some ⟨w.heap.size, 0, none⟩) 2 2) 2 [.int .i32 97, .int .i32 65533] ∧ Keep [] w w') := by
  refine (runes_any ⟨#[97, 255]⟩ w (by decide)).mono ?_
  intro r w7 hp
  obtain ⟨rfl, hs, hk7⟩ := hp.sl
  rw [fact10] at hs ⊢
  exact ⟨rfl, hs, hk7⟩
theorem kn11 (b : Nat) (w : World) (h : SlAt w (.slice (some ⟨b, 0, none⟩) 2 2) 2 [.int .i32 97, .int .i32 65533]) : Calls Try.prog 25 #[.slice (some ⟨b, 0, none⟩) 2 2, .slice (some ⟨w.heap.size, 0, none⟩) 2 2] (w.alloc (.cells #[.int .i32 97, .int .i32 65533] 21)) fun e w' => e = .returned (.bool true) ∧ Keep [] w w' := by
  refine (runes_true _ _ [97, 65533] _ (h.keep0 ((Keep.refl _ w).alloc _)) (slat_new w [.int .i32 97, .int .i32 65533] 21 2 rfl) (by decide)).mono ?_
  rintro r w' ⟨rfl, hk⟩
  exact ⟨rfl, ((Keep.refl _ w).alloc _).trans0 hk⟩

set_option maxRecDepth 100000 in
set_option maxHeartbeats 4000000 in
theorem known_true (w : World) : Calls Try.prog 12 #[] w fun e w' => e = .returned (.bool true) ∧ Keep [] w w' := by
  go_enter Try.func12, Try.ntmps12
  go_wp2_with fail
  (with_reducible refine (kn1 _).mono ?_)
  rintro r w1 ⟨rfl, rfl⟩
  go_wp2_with fail
  (with_reducible refine (kn2 _).mono ?_)
  rintro r w1 ⟨rfl, rfl⟩
  go_wp2_with fail
  (with_reducible refine (kn3 _).mono ?_)
  rintro r w1 ⟨rfl, hk1⟩
  have HK1 := Lib.hid hk1; clear hk1
  go_wp2_with fail
  (with_reducible refine (kn4 _).mono ?_)
  rintro r w2 ⟨rfl, rfl⟩
  go_wp2_with fail
  (with_reducible refine (kn5 _).mono ?_)
  rintro r w2 ⟨rfl, hk2⟩
  have HK2 := Lib.hid (HK1.out.trans0 hk2); clear hk2 HK1
  go_wp2_with fail
  (with_reducible refine (kn6 _).mono ?_)
  rintro r w3 ⟨rfl, hk3⟩
  have HK3 := Lib.hid (HK2.out.trans0 hk3); clear hk3 HK2
  go_wp2_with fail
  (with_reducible refine (kn7 _).mono ?_)
  rintro r w4 ⟨rfl, hk4⟩
  have HK4 := Lib.hid (HK3.out.trans0 hk4); clear hk4 HK3
  go_wp2_with fail
  (with_reducible refine (kn8 _).mono ?_)
  rintro r w5 ⟨rfl, hk5⟩
  have HK5 := Lib.hid (HK4.out.trans0 hk5); clear hk5 HK4
  go_wp2_with fail
  (with_reducible refine (kn9 _).mono ?_)
  rintro r w6 ⟨rfl, rfl⟩
  have HK6 := Lib.hid (HK5.out.alloc (.cells #[.int .i32 97, .int .i32 (-1), .int .i32 119070] 21)); clear HK5
  go_wp2_with fail
  (with_reducible refine (kn10 _).mono ?_)
  rintro r w7 ⟨rfl, hp⟩
  have hs := hp.out.1
  rw [World.size_alloc] at hs
  have HS := Lib.hid hs; clear hs
  go_wp2_with fail
  (with_reducible refine (kn11 _ _ HS.out).mono ?_)
  rintro r w8 ⟨rfl, hk8⟩
  have HK8 := Lib.hid ((HK6.out.trans0 hp.out.2).trans0 hk8); clear hk8
  go_wp2
  go_ret
  exact ⟨rfl, HK8.out⟩
end Go.Proofs.Ytjelbeghojgooaa
