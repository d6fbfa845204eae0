/- link: what the law of lines' arguments are. -/
import Derived.Test.YtjnpohloodcddaaLinkT
import Derived.Test.YtjnpohloodcddaaArgs
set_option linter.unusedVariables false
set_option linter.unusedSimpArgs false
namespace Go.Proofs.Ytjnpohloodcddaa.Rw
open Go.RowKit Go.Proofs.Ytjnpohloodcddaa.Sl Go.Proofs.Ytjnpohloodcddaa.Peer
theorem fits_rule : Fits Try.prog 102 ruleR := by
  refine fits_struct (fun r : RuleV => (r.st, r.line, r.out, r.next)) (fun x => ⟨x.1, x.2.1, x.2.2.1, x.2.2.2⟩) (fun _ => rfl) Try.underlying102 (by kernel_rfl) ?_
  exact .cons rfl (fits_int Try.underlying3 (by kernel_rfl)) (.cons rfl (fits_slice Try.underlying22 (by kernel_rfl) (fits_byte Try.underlying5 (by kernel_rfl))) (.cons rfl (fits_slice Try.underlying22 (by kernel_rfl) (fits_byte Try.underlying5 (by kernel_rfl))) (.one rfl (fits_int Try.underlying3 (by kernel_rfl)))))
theorem linkTakes_row (w0 : World) (rv : Value) (rules : List RuleV) (hr : Rd ruleR.slice w0 rules [rv]) (av : Value) (ahead : List (List UInt8)) (ha : Rd Rep.byte.slice.slice w0 ahead [av]) (ov : Value) (rooms : List UInt8) (ho : Rd Rep.byte.slice w0 rooms [ov]) (lv : Value) (line : List UInt8) (hl : Rd Rep.byte.slice w0 line [lv]) (a4 : Int) (h4 : (Lit.int .i64 a4).wf = true) :
    Calls Try.prog 13 #[rv, av, ov, lv, .int .i64 a4] w0 fun e w' => e = .returned (.bool true) ∧ Below w0.heap.size w0 w' := linkTakes_any rv av ov lv rules ahead rooms line a4 w0 hr ha ho hl
end Go.Proofs.Ytjnpohloodcddaa.Rw
