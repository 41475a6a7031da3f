/-
  Walk of the law QuoteQuotes.
-/
import Derived.Test.YtbmapellhcdipaaDoorQuoT
import Derived.Test.YtbmapellhcdipaaDoorQuoG
namespace Go.Proofs.YtbmapellhcdipaaDoor
open Go.RowKit
set_option linter.unusedVariables false
set_option linter.unusedSimpArgs false

set_option maxHeartbeats 4000000 in
theorem quoteQuotes_walk (s : ByteArray) (w : World) (hT : TZ w) : Calls Tryd.prog 3 #[.string s] w fun e w' => e = .returned (.bool true) ∧ Keep [] w w' := by
  by_cases hz : s.size ≤ 20000
  · have f1 := dec_lt_f (show ¬ (20000 : Int) < (s.size : Int) by omega)
    have f2 := dec_ltn_f (show ¬ 20000 < s.size by omega)
    have HQ := Lib.hid (quote_any s w (by omega) hT)
    have HR := Lib.hid (fun W => rquote_any s W (by omega))
    have HT := Lib.hid hT; clear hT
    generalize quo s = q at *
    have hss : (q.toList == q.toList) = true := by simp
    go_enter Tryd.func3, Tryd.ntmps3
    go_wp2_with fail
    refine HQ.out.mono ?_
    rintro e W1 ⟨rfl, hk1⟩
    have K1 := Lib.hid hk1; clear hk1
    go_wp2_with fail
    refine (HR.out _).mono ?_
    rintro e W2 ⟨rfl, hk2⟩
    have K2 := Lib.hid (K1.out.trans0 hk2); clear hk2
    go_wp2_with fail
    refine (known_true _ (HT.out.keep0 K2.out)).mono ?_
    rintro e W3 ⟨rfl, hk3⟩
    have K3 := Lib.hid (K2.out.trans0 hk3); clear hk3
    go_wp2
    go_ret
    exact ⟨rfl, K3.out⟩
  · have f1 := dec_lt_t (show (20000 : Int) < (s.size : Int) by omega)
    have f2 := dec_ltn_t (show 20000 < s.size by omega)
    go_enter Tryd.func3, Tryd.ntmps3
    go_wp2
    go_ret
    exact ⟨rfl, Keep.refl _ _⟩
end Go.Proofs.YtbmapellhcdipaaDoor
