/- lex: the law of cuts, at any memory. -/
import Derived.Test.YtpcapijakenjbaaPureLexC
import Derived.Test.YtpcapijakenjbaaArgs
set_option linter.unusedVariables false
set_option linter.unusedSimpArgs false
namespace Go.Proofs.Ytpcapijakenjbaa.Rw
open Go.RowKit Go.Proofs.Ytpcapijakenjbaa.Sl Go.Proofs.YtpcapijakenjbaaW.PrintWords
theorem lexCuts_row (w0 : World) (v : Value) (b : List UInt8) (hb : Rd Rep.byte.slice w0 b [v]) :
    Calls Try.prog 5 #[v] w0 fun e w' => e = .returned (.bool true) ∧ Below w0.heap.size w0 w' := by
  obtain ⟨k, hk⟩ := Pure.lexCuts_pure b
  obtain ⟨F, hF⟩ := hb
  obtain ⟨a, c, rfl, hle, hmx⟩ := Rep.slice_len hF
  have h1 := br_byte.C hF
  have h2 := GLex.davitlaw11_LexCuts.calls k a c (nb b) true w0 h1 (by simpa using hle) hk
  rw [nb_length] at h2
  exact h2
end Go.Proofs.Ytpcapijakenjbaa.Rw
