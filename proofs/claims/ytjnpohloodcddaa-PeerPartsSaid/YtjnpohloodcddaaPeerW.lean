/- peer: what the laws' arguments are. -/
import Derived.Test.YtjnpohloodcddaaPeerX
import Derived.Test.YtjnpohloodcddaaPeerZ
import Derived.Test.YtjnpohloodcddaaArgs
set_option linter.unusedVariables false
set_option linter.unusedSimpArgs false
namespace Go.Proofs.Ytjnpohloodcddaa.Rw
open Go.RowKit Go.Proofs.Ytjnpohloodcddaa.Sl Go.Proofs.Ytjnpohloodcddaa.Peer
theorem fits_rule : Fits Try.prog 102 ruleR := by
  refine fits_struct (fun r : RuleV => (r.st, r.line, r.out, r.next)) (fun x => ⟨x.1, x.2.1, x.2.2.1, x.2.2.2⟩) (fun _ => rfl) Try.underlying102 (by kernel_rfl) ?_
  exact .cons rfl (fits_int Try.underlying3 (by kernel_rfl)) (.cons rfl (fits_slice Try.underlying22 (by kernel_rfl) (fits_byte Try.underlying5 (by kernel_rfl))) (.cons rfl (fits_slice Try.underlying22 (by kernel_rfl) (fits_byte Try.underlying5 (by kernel_rfl))) (.one rfl (fits_int Try.underlying3 (by kernel_rfl)))))
theorem fits_peer : Fits Try.prog 42 peerR := by
  refine fits_struct (fun r : PeerV => (r.st, r.part, r.log, r.lines)) (fun x => ⟨x.1, x.2.1, x.2.2.1, x.2.2.2⟩) (fun _ => rfl) Try.underlying42 (by kernel_rfl) ?_
  exact .cons rfl (fits_int Try.underlying3 (by kernel_rfl)) (.cons rfl (fits_slice Try.underlying22 (by kernel_rfl) (fits_byte Try.underlying5 (by kernel_rfl))) (.cons rfl (fits_slice Try.underlying22 (by kernel_rfl) (fits_byte Try.underlying5 (by kernel_rfl))) (.one rfl (fits_slice Try.underlying40 (by kernel_rfl) (fits_slice Try.underlying22 (by kernel_rfl) (fits_byte Try.underlying5 (by kernel_rfl)))))))
theorem peerFeeds_row (w0 : World) (rv : Value) (rules : List RuleV) (hr : Rd ruleR.slice w0 rules [rv]) (cs : List Value) (p : PeerV) (hp : Rd peerR w0 p cs) (bv : Value) (b : List UInt8) (hb : Rd Rep.byte.slice w0 b [bv]) :
    Calls Try.prog 7 #[rv, .agg cs.toArray, bv] w0 fun e w' => e = .returned (.bool true) ∧ Below w0.heap.size w0 w' := peerFeeds_any rv bv rules p cs b w0 hr hp hb
theorem peerParts_row (w0 : World) (rv : Value) (rules : List RuleV) (hr : Rd ruleR.slice w0 rules [rv]) (cs : List Value) (p : PeerV) (hp : Rd peerR w0 p cs) (av : Value) (a : List UInt8) (ha : Rd Rep.byte.slice w0 a [av]) (bv : Value) (b : List UInt8) (hb : Rd Rep.byte.slice w0 b [bv]) :
    Calls Try.prog 8 #[rv, .agg cs.toArray, av, bv] w0 fun e w' => e = .returned (.bool true) ∧ Below w0.heap.size w0 w' := peerParts_any rv av bv rules p cs a b w0 hr hp ha hb
end Go.Proofs.Ytjnpohloodcddaa.Rw
