/-
  ScriptParses: whatever the text, Parse says the document's steps, line and error; no condition but the five listed variables of the library.
-/
import Derived.Test.YtbidppjhenfjdaaGreatDoorSMC
import Derived.Test.YtbidppjhenfjdaaGreatDoorSMB
import Derived.Test.YtbidppjhenfjdaaGreatDoorCards
import Derived.Test.YtbidppjhenfjdaaGreatDoorTie
import Derived.Test.YtbidppjhenfjdaaGreatDoorSMS
import Derived.WalkKit
import Derived.ProofKit
import Derived.OpenShut
import Derived.Deep.DeepHandedRow
import Derived.Lib.LaidTab
import Derived.Lib.TrailingZeros
import Derived.Lib.ItoaNum
import Derived.SizedLaws
import Derived.Carry
import Derived.Stop.LaidErr
namespace Go.Proofs.YtbidppjhenfjdaaGreatDoor
open Go.RowKit
set_option linter.unusedVariables false
set_option linter.unusedSimpArgs false

theorem drawL_len : ∀ {ws : List (Nat × ByteArray × Int × Nat × Nat)} {d : List Int}, drawL ws = some d → d.length = ws.length := by
  intro ws
  induction ws with
  | nil => intro d h; simp [drawL] at h; subst h; rfl
  | cons w ws ih =>
    intro d h
    unfold drawL at h
    split at h
    · cases hd : drawL ws with
      | none => rw [hd] at h; simp at h
      | some e =>
        rw [hd] at h
        simp at h
        subst h
        simp [ih hd]
    · cases h
theorem fillL_draws : ∀ {fs : List Fld} {ws : List (Nat × ByteArray × Int × Nat × Nat)} {s s' : Stp}, fillL fs ws s = some s' → s'.draws = s.draws := by
  intro fs
  induction fs with
  | nil => intro ws s s' h; simp [fillL] at h; subst h; rfl
  | cons f fs ih =>
    intro ws s s' h
    cases ws with
    | nil => simp [fillL] at h
    | cons w ws =>
      unfold fillL at h
      split at h
      · rw [ih h]
        cases f <;> rfl
      · cases h
theorem rd_draws {l : List (Nat × ByteArray × Int × Nat × Nat)} {s : Stp} (h : rd l = some s) : s.draws.length ≤ l.length := by
  cases l with
  | nil => simp [rd] at h
  | cons w ws =>
    simp only [rd] at h
    cases hk : kindF w 14 0 with
    | none => simp only [hk] at h; cases h
    | some k =>
      simp only [hk] at h
      split at h
      · cases hd : drawL ws with
        | none => rw [hd] at h; simp at h
        | some d =>
          rw [hd] at h
          simp at h
          subst h
          simp [drawL_len hd]
      · split at h
        · rw [fillL_draws h]; simp [Stp.zero]
        · cases h
theorem prs_len : ∀ (fs l : List Fn) (out : List Stp), (prs fs l out).1.length ≤ out.length + fs.length ∧ ∀ s ∈ (prs fs l out).1, s ∈ out ∨ s.draws.length ≤ l.length + fs.length := by
  intro fs
  induction fs with
  | nil => intro l out; exact ⟨by simp [prs], fun s hs => .inl hs⟩
  | cons f fs ih =>
    intro l out
    by_cases he : f.e = 0
    · by_cases hk : f.k = 4
      · cases hr : rd (l.map wdF) with
        | none => rw [prs_bad he hk hr]; exact ⟨by simp, fun s hs => by simp at hs⟩
        | some st =>
          rw [prs_step he hk hr]
          obtain ⟨h1, h2⟩ := ih [] (out ++ [st])
          refine ⟨by simp at h1 ⊢; omega, fun s hs => ?_⟩
          have hd := rd_draws hr
          rw [List.length_map] at hd
          rcases h2 s hs with h | h
          · rcases List.mem_append.1 h with h | h
            · exact .inl h
            · simp at h; subst h; exact .inr (by omega)
          · simp at h; exact .inr (by simp; omega)
      · rw [prs_word he hk]
        obtain ⟨h1, h2⟩ := ih (l ++ [f]) out
        refine ⟨by simp; omega, fun s hs => ?_⟩
        rcases h2 s hs with h | h
        · exact .inl h
        · simp at h; exact .inr (by simp; omega)
    · rw [prs_err he]; exact ⟨by simp, fun s hs => by simp at hs⟩
theorem prsT_len (s : ByteArray) : (prsT s).1.length ≤ s.size + 1 ∧ ∀ x ∈ (prsT s).1, x.draws.length ≤ s.size + 1 := by
  have h1 := scn_len1 s s.size 0 1 false (by omega) (by omega)
  obtain ⟨h2, h3⟩ := prs_len (scn s 0 1 false) [] []
  refine ⟨by unfold prsT; simp at h2; omega, fun x hx => ?_⟩
  rcases h3 x hx with h | h
  · cases h
  · simp at h; omega

set_option maxHeartbeats 8000000 in
set_option maxRecDepth 100000 in
theorem scriptParses_walk (s : ByteArray) (w : World) (hT : TQ w) : Calls Tryz.prog 3 #[.string s] w fun e w' => e = .returned (.bool true) ∧ Keep [] w w' := by
  by_cases hz : s.size ≤ 30000
  · have f1 := dec_lt_f (show ¬ (30000 : Int) < (s.size : Int) by omega)
    have f2 := dec_ltn_f (show ¬ 30000 < s.size by omega)
    have HT := Lib.hid hT; clear hT
    have HZ := Lib.hid hz
    have HLN := Lib.hid (prsT_len s)
    clear hz
    go_enter Tryz.func3, Tryz.ntmps3
    go_upto_region 3 with (fail)
    go_wp2_with fail
    refine (parse_any s w (by have := HZ.out; omega) HT.out).mono ?_
    rintro e w1 ⟨v1, cs1, bs1, rfl, hk1, ho1, hr1, hb1, hd1, hn1⟩
    have hs1 := hr1.steps ho1
    obtain ⟨ad1, cap1, hv1⟩ := hs1.slice
    subst hv1
    have HS1 := Lib.hid hs1
    have HK1 := Lib.hid hk1
    clear hk1 ho1 hr1 hb1 hd1 hn1 hs1
    go_upto_region 4 with (fail)
    go_wp2_with fail
    refine (rparse_any s w1 (by have := HZ.out; omega)).mono ?_
    rintro e w2 ⟨v2, cs2, bs2, rfl, hk2, ho2, hr2, hb2, hd2, hn2⟩
    have hs2 := hr2.steps ho2
    obtain ⟨ad2, cap2, hv2⟩ := hs2.slice
    subst hv2
    have HS2 := Lib.hid hs2
    have HS3 := Lib.hid (HS1.out.keep0 hk2)
    have HK2 := Lib.hid (HK1.out.trans0 hk2)
    clear hk2 ho2 hr2 hb2 hd2 hn2 hs2
    have HSA := Lib.hid (same_any (prsT s).1 _ _ w2 HS3.out HS2.out (by have := HLN.out.1; have := HZ.out; omega) (fun x hx => by have := HLN.out.2 x hx; have := HZ.out; omega))
    generalize (prsT s).2.1 = ln at *
    generalize (prsT s).2.2 = er at *
    generalize (prsT s).1.length = nl at *
    go_upto_region 5 with (fail)
    go_wp2_with fail
    refine HSA.out.mono ?_
    rintro e w3 ⟨rfl, hk3⟩
    have HK3 := Lib.hid (HK2.out.trans0 hk3)
    go_wp2_with fail
    refine (known_true w3 (HT.out.keep0 HK3.out)).mono ?_
    rintro e w4 ⟨rfl, hk4⟩
    have HK4 := Lib.hid (HK3.out.trans0 hk4)
    go_wp2
    go_ret
    exact ⟨rfl, HK4.out⟩
  · have f1 := dec_lt_t (show (30000 : Int) < (s.size : Int) by omega)
    have f2 := dec_ltn_t (show 30000 < s.size by omega)
    have HT := Lib.hid hT; clear hT
    go_enter Tryz.func3, Tryz.ntmps3
    go_upto_region 2 with (fail)
    go_wp2_with fail
    refine (known_true w HT.out).mono ?_
    rintro e w4 ⟨rfl, hk4⟩
    go_wp2
    go_ret
    exact ⟨rfl, hk4⟩
end Go.Proofs.YtbidppjhenfjdaaGreatDoor
namespace Go.Proofs.YtbidppjhenfjdaaGreatDoor
open Go.ChangeShapes Go.WideShapes Go.ChangeAt Go.RowKit
set_option linter.unusedVariables false

theorem own : ownKnob Tryz.prog.godebug = none := by kernel_rfl
theorem gTab : Tryz.prog.globalNamed "math/bits.deBruijn64tab" = some 5 := by kernel_rfl
theorem gTabType : (Tryz.prog.globals[5]?).map (·.type) = some 200 := by kernel_rfl
theorem gPType : (Tryz.prog.globals[2]?).map (·.type) = some 190 := by kernel_rfl
theorem gSType : (Tryz.prog.globals[0]?).map (·.type) = some 81 := by kernel_rfl
theorem gRType : (Tryz.prog.globals[1]?).map (·.type) = some 81 := by kernel_rfl
theorem cellsTab : Tryz.prog.cellsOf 200 = 64 := by kernel_rfl
theorem cellsU8 : Tryz.prog.cellsOf 5 = 1 := by kernel_rfl
theorem cellsP : Tryz.prog.cellsOf 190 = 20 := by kernel_rfl
theorem cellsU64 : Tryz.prog.cellsOf 171 = 1 := by kernel_rfl
theorem cellsES : Tryz.prog.cellsOf 197 = 1 := by kernel_rfl
theorem cellsStr : Tryz.prog.cellsOf 9 = 1 := by kernel_rfl
theorem laidOut : laidOutB Tryz.prog = true := by kernel_rfl
theorem esStar : "*" ++ "errors.errorString" = "*errors.errorString" := by decide
theorem esRow (u : TypeId) (h : Tryz.prog.typeName? 3 u = some "*errors.errorString") : u = 195 :=
  typeName_ptr_named (nm := "errors.errorString") (by rw [esStar]; kernel_rfl) (by kernel_rfl) (by decide) u (by rw [esStar]; exact h)

/-- What each row lists. -/
def laid1 : List (String × DataW Unit) := [("math/bits.deBruijn32tab", Rows.laid_math_bits_deBruijn32tab), ("math/bits.deBruijn64tab", Rows.laid_math_bits_deBruijn64tab), ("internal/strconv.uint64pow10", Rows.laid_internal_strconv_uint64pow10), ("strconv.ErrRange", Rows.laid_strconv_ErrRange), ("strconv.ErrSyntax", Rows.laid_strconv_ErrSyntax)]

theorem tab_head {P : Program} {W : World} {name : String} {k : IntKind} {zs : List Int} {rest : List (String × DataW Unit)} {g : Nat} {t e : TypeId} {n : Nat}
    (hg : P.globalNamed name = some g) (hty : (P.globals[g]?).map (·.type) = some t) (ht : P.underlying t = some (.array n e)) (he : P.underlying e = some (.int k)) (hce : P.cellsOf e = 1) (hct : P.cellsOf t = n)
    (h : laidMet P ((name, Lib.tabData k zs) :: rest) W) : Lib.TabIs P W name k zs := by
  obtain ⟨ps, ⟨g', t', cs, fuel, p, q, hg', ht', hvar, hd, _, _⟩, _⟩ := h
  obtain rfl := Option.some.inj (hg.symm.trans hg')
  obtain rfl := Option.some.inj (hty.symm.trans ht')
  unfold Lib.TabIs
  rw [hvar, ← Lib.cells_of_tab ht he hce hct hd]

/-- WHAT THE ROW's LIST GIVES. -/
theorem table {W : World} (h : laidMetH Tryz.prog laid1 W) : TQ W := by
  have h0 : laidMet Tryz.prog (("math/bits.deBruijn32tab", Rows.laid_math_bits_deBruijn32tab) :: ("math/bits.deBruijn64tab", Rows.laid_math_bits_deBruijn64tab) :: ("internal/strconv.uint64pow10", Rows.laid_internal_strconv_uint64pow10) :: ("strconv.ErrRange", Rows.laid_strconv_ErrRange) :: ("strconv.ErrSyntax", Rows.laid_strconv_ErrSyntax) :: []) W := h
  have h1 := h0.tail
  have h2 := h1.tail
  have h3 := h2.tail
  have h4 := h3.tail
  have t1 : Lib.TabIs Tryz.prog W "math/bits.deBruijn64tab" .u8 (Lib.deBruijn64tab.map Int.ofNat) := tab_head gTab gTabType Tryz.underlying200 Tryz.underlying5 cellsU8 cellsTab h1
  have t2 : Lib.TabIs Tryz.prog W "internal/strconv.uint64pow10" .u64 Lib.pow10Tab := tab_head gP gPType Tryz.underlying190 Tryz.underlying171 cellsU64 cellsP h2
  refine ⟨by have := t1.cell gTab 15 (by decide); exact this, t2, ?_, ?_⟩
  · obtain ⟨a, s, hv, _⟩ := laid_sentinel h4 gS gSType Tryz.underlying81 esRow Tryz.underlying195 Tryz.underlying197 rfl rfl Tryz.underlying9 cellsES cellsStr
    exact ⟨_, _, hv⟩
  · obtain ⟨a, s, hv, _⟩ := laid_sentinel h3 gR gRType Tryz.underlying81 esRow Tryz.underlying195 Tryz.underlying197 rfl rfl Tryz.underlying9 cellsES cellsStr
    exact ⟨_, _, hv⟩

def rangeS : ByteArray := { data := #[118, 97, 108, 117, 101, 32, 111, 117, 116, 32, 111, 102, 32, 114, 97, 110, 103, 101] }
def syntaxS : ByteArray := { data := #[105, 110, 118, 97, 108, 105, 100, 32, 115, 121, 110, 116, 97, 120] }
/-- So many blocks has the settled world. -/
noncomputable def low : Nat := (World.holding Tryz.prog default ⟨#[], #[], []⟩).heap.size
/-- A WORLD FOR THE WITNESS: the settled one, the tables' blocks holding what their initialisers lay; two blocks more, of the errors. -/
noncomputable def laidWorld (os : Os) : World :=
  let w0 := World.holding Tryz.prog os ⟨#[.cells #[.string rangeS] 197, .cells #[.string syntaxS] 197], #[], []⟩
  { w0 with heap := ((((w0.heap.modify 4 (fun
      | .cells _ t frozen => .cells (Lib.deBruijn32tab.map fun (z : Nat) => Value.int .u8 z).toArray t frozen
      | o => o)).modify 5 (fun
      | .cells _ t frozen => .cells (Lib.deBruijn64tab.map fun (z : Nat) => Value.int .u8 z).toArray t frozen
      | o => o)).modify 2 (fun
      | .cells _ t frozen => .cells (Lib.pow10Tab.map fun (z : Int) => Value.int .u64 z).toArray t frozen
      | o => o)).modify 1 (fun
      | .cells _ t frozen => .cells #[.iface 195 (.pointer (some ⟨low, 0, none⟩))] t frozen
      | o => o)).modify 0 (fun
      | .cells _ t frozen => .cells #[.iface 195 (.pointer (some ⟨low + 1, 0, none⟩))] t frozen
      | o => o) }
end Go.Proofs.YtbidppjhenfjdaaGreatDoor
namespace Go.Proofs.YtbidppjhenfjdaaGreatDoor.scriptParses
open Go.ChangeShapes Go.WideShapes Go.ChangeAt Go.RowKit
open Go.ChangeMaps (open_string shut_string)
set_option linter.unusedVariables false

set_option maxRecDepth 100000 in
theorem contract (H : Type) (enc : TypeId × Value → H) (W : World) (base : Nat) (args : Array Value) (ds gs : List (DataW H)) (before : List MemPlace)
    (hval : ∀ (j : Nat) t v, Tryz.f3.params[j]? = some t → args[j]? = some v → Value.okWide Tryz.prog W .any base t v)
    (hW : DataW.Whole enc Tryz.prog Tryz.f3.params.toList Rows.scriptParsesSpec.vars false W args.toList ds gs before) (hL : laidMetH Tryz.prog laid1 W) :
    Calls Tryz.prog 3 args W fun e W' => ∃ v, e = .returned v ∧ Rows.scriptParsesSpec.post enc Tryz.prog Tryz.f3 false true false false W args v W' := by
  have hW' := hW
  obtain ⟨p, q, hA0, hV, rfl, hfz, hnd⟩ := hW
  have hA : DataW.TrodAll enc Tryz.prog W 0 (fun _ => true) true Tryz.f3.params.toList args.toList ds p := hA0
  rw [Tryz.params3] at hA hval
  obtain ⟨v0, vs0, d0, ds0, p0, q0, hargs, rfl, rfl, h0, r0⟩ := trodAll_cons hA
  obtain ⟨rfl, rfl, rfl⟩ := trodAll_nil r0
  obtain rfl : args = #[v0] := by cases args; simp_all
  obtain ⟨rfl, rfl⟩ := trodVars_none hV
  clear hA0
  simp only [List.append_nil] at hW'
  have hlt : ∀ x ∈ p0, x.block < W.heap.size := fun x hx => by simpa using hW'.lt x (by simpa using hx)
  have k0 := h0
  obtain ⟨s0, rfl, _, _, hs0⟩ := open_string Tryz.underlying9 (hval 0 9 v0 rfl rfl) h0
  refine (scriptParses_walk s0 W  (table hL)).mono fun e W' ⟨he, hk⟩ => ?_
  subst he
  have hb := hk.below
  exact ⟨_, rfl, _, _, _, [], p0 ++ [], [], hW', trodAll_cons_mk (shut_bool Tryz.underlying4 _) trodAll_mk0, trodAll_cons_mk (Below.trod laidOut (by kernel_rfl) (of_decide_eq_true (by kernel_rfl)) k0 hb (fun x hx => hlt x (by simp [hx]))) trodAll_mk0, rfl, hb.frame _, fun h => by cases h⟩

theorem laid_met (os : Os) : laidMet Tryz.prog laid1 ((laidWorld os).forCall (fun _ _ => 0) ⟨#[], #[.string ByteArray.empty], []⟩).memory :=
  laidMet_of_run' 8 (by kernel_rfl) (by kernel_rfl)
theorem reads (os : Os) {H : Type} (enc : TypeId × Value → H) : ∃ places, DataW.whole enc Tryz.prog ((laidWorld os).forCall (fun _ _ => 0) ⟨#[], #[.string ByteArray.empty], []⟩).memory Tryz.f3.params.toList Rows.scriptParsesSpec.vars false #[(.string ByteArray.empty : Value)].toList 8 = some ([.lit (.string [])], [], places) :=
  ⟨[], by kernel_rfl⟩

set_option maxRecDepth 100000 in
theorem lifted (os : Os) (started : os.Started) (H : Type) (enc : TypeId × Value → H) (F : Stop.Interp) :
    ReturnsInHanded {} Tryz.checked os 3 .any ((OpenSpec.ofChange Rows.scriptParsesSpec).preRow enc Tryz.prog Tryz.f3 Rows.scriptParsesRow.domain false Rows.scriptParsesRow.laid) (((OpenSpec.ofChange Rows.scriptParsesSpec).at F).post enc Tryz.prog Tryz.f3 false true false false) := by
  obtain ⟨places, hx⟩ := reads os enc
  refine returnsInHanded_of_row (C := Tryz.checked) (s := OpenSpec.ofChange Rows.scriptParsesSpec) own started (by kernel_rfl) Tryz.func3
    (witness_row_at (enc := enc) (C := Tryz.checked) false (laidWorld os) #[.string ByteArray.empty] rfl (by kernel_rfl) (by kernel_rfl) (by kernel_rfl)
      (OpenSpec.preRow_of_cond 8 hx (by kernel_rfl) (fun k hk => by cases hk) (by kernel_rfl) (laid_met os))) ?_
  intro W base args ds gs before hval hW _ _ _ hL _ _
  exact contract H enc W base args ds gs before hval hW hL

theorem said : Rows.ScriptParsesSaid :=
  OpenClaim.holds_of_cond 3 Tryz.f3 rfl rfl rfl rfl rfl rfl rfl ⟨rfl, rfl, rfl, rfl, rfl⟩ rfl rfl rfl rfl rfl (by kernel_rfl) Tryz.func3 (by kernel_rfl)
    (of_decide_eq_true (by kernel_rfl)) (by unfold Func.isWrapper; first | (rw [if_pos (by decide +kernel)]; kernel_rfl) | (rw [if_neg (by decide +kernel)]; exact ⟨rfl, rfl⟩))
    (fun os started H enc _ F => by rw [OpenClaim.pre_eq_preRow]; exact lifted os started H enc F)

/-- No parameter wants a stand-in; the program's own looks are off. -/
theorem plain (f : FuncId) (fn : Func) (hf : Tryz.pinned.checked.prog.funcNamed "hearsay/hearsaylaw22.ScriptParses" = some f) (hfn : Tryz.pinned.checked.prog.funcs[f]? = some fn) :
    true = Tryz.pinned.checked.prog.looks [] ∧ ∀ (j : Nat) t, fn.params[j]? = some t → Tryz.pinned.checked.prog.wantsStandIn t = false := by
  obtain rfl : f = 3 := Option.some.inj ((show Tryz.prog.funcNamed "hearsay/hearsaylaw22.ScriptParses" = some 3 by kernel_rfl).symm.trans hf) |>.symm
  obtain rfl : fn = Tryz.f3 := (Option.some.inj (Tryz.func3.symm.trans hfn)).symm
  refine ⟨by kernel_rfl, fun j t ht => ?_⟩
  rw [Tryz.params3] at ht
  have hm := Array.mem_of_getElem? ht
  simp at hm
  subst hm
  exact (show Tryz.prog.wantsStandIn 9 = false by kernel_rfl)

/-- THE CARD. -/
theorem card : Rows.ScriptParsesCardSaid :=
  Claim7.holds_tied_plain_at .later [] _ _ _ _ said (fun _ h => by cases h) (by kernel_rfl) (fun _ h => by cases h) scriptParses_row_tie rfl ⟨rfl, rfl⟩ (by kernel_rfl) rfl plain (by kernel_rfl)
end Go.Proofs.YtbidppjhenfjdaaGreatDoor.scriptParses
