/- Function values against nil. -/
import Derived.Test.YtpcapijakenjbaaOp
set_option linter.unusedSimpArgs false
namespace Go.Proofs.Ytpcapijakenjbaa.Sl
open Go.RowKit
section
variable {P : Program} (w : World) {t : TypeId} {ps rs : Array TypeId} {v : Bool}
theorem eqIn_nil_nil (d : Nat) (h : P.underlying t = some (.func ps rs v)) : (Op.equalIn (d + 1) t .nilFunc .nilFunc).run P w = .ok true w := by
  simp [Op.equalIn, run_underlying h]
theorem eqIn_fn_nil (d : Nat) (h : P.underlying t = some (.func ps rs v)) (f : Fn) (a b : Array Value) : (Op.equalIn (d + 1) t (.func f a b) .nilFunc).run P w = .ok false w := by
  simp [Op.equalIn, run_underlying h]
theorem eq_nil_nil (h : P.underlying t = some (.func ps rs v)) : (Op.equal t .nilFunc .nilFunc).run P w = .ok true w := eqIn_nil_nil w 9999 h
theorem eq_fn_nil (h : P.underlying t = some (.func ps rs v)) (f : Fn) (a b : Array Value) : (Op.equal t (.func f a b) .nilFunc).run P w = .ok false w := eqIn_fn_nil w 9999 h f a b
theorem neq_nil_nil (h : P.underlying t = some (.func ps rs v)) : (binOp .neq t .nilFunc .nilFunc).run P w = .ok (.bool false) w := by
  simp only [binOp]
  simp [eq_nil_nil w h]
theorem neq_fn_nil (h : P.underlying t = some (.func ps rs v)) (f : Fn) (a b : Array Value) : (binOp .neq t (.func f a b) .nilFunc).run P w = .ok (.bool true) w := by
  simp only [binOp]
  simp [eq_fn_nil w h]
theorem eql_nil_nil (h : P.underlying t = some (.func ps rs v)) : (binOp .eql t .nilFunc .nilFunc).run P w = .ok (.bool true) w := by
  simp only [binOp]
  simp [eq_nil_nil w h]
theorem eql_fn_nil (h : P.underlying t = some (.func ps rs v)) (f : Fn) (a b : Array Value) : (binOp .eql t (.func f a b) .nilFunc).run P w = .ok (.bool false) w := by
  simp only [binOp]
  simp [eq_fn_nil w h]
end
end Go.Proofs.Ytpcapijakenjbaa.Sl
