/- link: what the law of deeds' arguments are. -/
import Derived.Test.YtjnpohloodcddaaLinkP
import Derived.Test.YtjnpohloodcddaaArgs
set_option linter.unusedVariables false
set_option linter.unusedSimpArgs false
namespace Go.Proofs.Ytjnpohloodcddaa.Rw
open Go.RowKit Go.Proofs.Ytjnpohloodcddaa.Sl Go.Proofs.Ytjnpohloodcddaa.Peer
theorem fits_rule : Fits Try.prog 102 ruleR := by
  refine fits_struct (fun r : RuleV => (r.st, r.line, r.out, r.next)) (fun x => ⟨x.1, x.2.1, x.2.2.1, x.2.2.2⟩) (fun _ => rfl) Try.underlying102 (by kernel_rfl) ?_
  exact .cons rfl (fits_int Try.underlying3 (by kernel_rfl)) (.cons rfl (fits_slice Try.underlying22 (by kernel_rfl) (fits_byte Try.underlying5 (by kernel_rfl))) (.cons rfl (fits_slice Try.underlying22 (by kernel_rfl) (fits_byte Try.underlying5 (by kernel_rfl))) (.one rfl (fits_int Try.underlying3 (by kernel_rfl)))))
theorem fits_deed : Fits Try.prog 93 deedR := by
  refine fits_struct (fun r : DeedV => (r.what, r.n, r.line)) (fun x => ⟨x.1, x.2.1, x.2.2⟩) (fun _ => rfl) Try.underlying93 (by kernel_rfl) ?_
  exact .cons rfl (fits_int Try.underlying3 (by kernel_rfl)) (.cons rfl (fits_int Try.underlying3 (by kernel_rfl)) (.one rfl (fits_slice Try.underlying22 (by kernel_rfl) (fits_byte Try.underlying5 (by kernel_rfl)))))
theorem linkPlays_row (w0 : World) (rv : Value) (rules : List RuleV) (hr : Rd ruleR.slice w0 rules [rv]) (dv : Value) (ds : List DeedV) (hd : Rd deedR.slice w0 ds [dv]) :
    Calls Try.prog 14 #[rv, dv] w0 fun e w' => e = .returned (.bool true) ∧ Below w0.heap.size w0 w' := linkPlays_any rv dv rules ds w0 hr hd
end Go.Proofs.Ytjnpohloodcddaa.Rw
