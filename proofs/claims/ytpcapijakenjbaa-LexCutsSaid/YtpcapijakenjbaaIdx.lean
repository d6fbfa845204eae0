/- s[i], of a string. -/
import Derived.Test.YtpcapijakenjbaaSli
set_option linter.unusedVariables false
set_option linter.unusedSimpArgs false
namespace Go.Proofs.Ytpcapijakenjbaa.Sl
open Go.RowKit
section
variable {P : Program} {ops : Array Oper} {Q : Exit → Act → World → Prop} {md : Region.Mode} {n i : Nat} {L : Array Bool} {E : List Nat} {T : List Ent} {a : Act} {w : World} {oi : Oper} {v : Value}
theorem run_idx (Tb : Tabs P) {t : TypeId} {x y : Operand} {xs : List UInt8} {k : IntKind} {j : Int} {c : UInt8} (ho : oi.op = .index t x y) (hT : Tb.strs.contains t = true) (hx : a.eval x = .string ⟨xs.toArray⟩) (hy : a.eval y = .int k j) (hj : ∃ m : Nat, j = m ∧ xs[m]? = some c) :
    (execOp a.eval oi).run P w = .ok (.value (.int .u8 c.toNat)) w := by
  have hu : P.underlying t = some .string := by
    have h := List.all_eq_true.1 Tb.st1 t (by simpa using hT)
    unfold isStrB at h
    split at h
    · assumption
    · cases h
  clear hT
  obtain ⟨m, rfl, hm⟩ := hj
  obtain ⟨dst, op, ty, pos, aft, gd⟩ := oi
  simp only at ho
  subst ho
  generalize a.eval = ev at *
  obtain ⟨hlt, hc⟩ := List.getElem?_eq_some_iff.1 hm
  subst hc
  clear hm
  go_simp
  rfl
theorem vr_idx (Tb : Tabs P) {t : TypeId} {x y : Operand} {xs : List UInt8} {k : IntKind} {j : Int} {c : UInt8} (hi : opAt ops.toList i = some oi) (hs : Region.noSelect ops = true) (hf : Region.free md ops L i = true) (hr : (Region.ready md ops L).contains i = true) (hQ : ∀ c' a w, Q (.panic c') (a.put oi.dst (.int .u8 c.toNat)) w → Q (.panic c') a w) (hw : Region.wanted oi (yielded ops a.tmps) = true) (ho : oi.op = .index t x y) (hT : Tb.strs.contains t = true)
    (hx : a.eval x = .string ⟨xs.toArray⟩) (hy : a.eval y = .int k j) (hj : ∃ m : Nat, j = m ∧ xs[m]? = some c) (hK : Vr P md ops Q n (L.setIfInBounds i true) E T (a.put oi.dst (.int .u8 c.toNat)) w) : Vr P md ops Q (n + 1) L E T a w :=
  vr_pure hi hs hf hr hQ (.inl ⟨hw, fun w => run_idx Tb ho hT hx hy hj⟩) hK
theorem sq_idx (Tb : Tabs P) {K : Act → World → Prop} {t : TypeId} {x y : Operand} {xs : List UInt8} {k : IntKind} {j : Int} {c : UInt8} (ho : oi.op = .index t x y) (hgd : Region.wanted oi (yielded ops a.tmps) = true) (hT : Tb.strs.contains t = true) (hx : a.eval x = .string ⟨xs.toArray⟩) (hy : a.eval y = .int k j) (hj : ∃ m : Nat, j = m ∧ xs[m]? = some c)
    (h1 : K (a.put oi.dst (.int .u8 c.toNat)) w) : Seq P ops Q oi a w K := sq_event hgd (run_idx Tb ho hT hx hy hj) h1
end
end Go.Proofs.Ytpcapijakenjbaa.Sl
