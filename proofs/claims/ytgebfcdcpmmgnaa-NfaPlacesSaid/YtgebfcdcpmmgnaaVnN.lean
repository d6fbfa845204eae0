/- two spans compared. -/
import Derived.Test.YtgebfcdcpmmgnaaVsXa
set_option linter.unusedVariables false
set_option linter.unusedSimpArgs false
namespace Go.Proofs.Ytgebfcdcpmmgnaa.Vs
open Go.RowKit
set_option maxRecDepth 100000
theorem span_under : ∃ f1 f2, Try.prog.underlying 152 = some (.struct #[f1, f2]) ∧ f1.name ≠ "_" ∧ f2.name ≠ "_" ∧ f1.offset = 0 ∧ f2.offset = 1 ∧ Try.prog.underlying f1.type = some (.int .u8) ∧ Try.prog.underlying f2.type = some (.int .u8) := ⟨_, _, rfl, by decide, by decide, rfl, rfl, rfl, rfl⟩
theorem span_held : Try.prog.stoodInHeld 152 = false := by decide +kernel
theorem span_guard : Try.prog.eqGuardType Try.prog.depth 152 = false := by decide +kernel
theorem span_equal (a b c d : Int) (w : World) : (Op.equalIn 10000 152 (.agg #[.int .u8 a, .int .u8 b]) (.agg #[.int .u8 c, .int .u8 d])).run Try.prog w = .ok (a == c && b == d) w := by
  obtain ⟨f1, f2, hu, n1, n2, o1, o2, t1, t2⟩ := span_under
  have p1 : ∀ x y : Int, (part f1.type #[Value.int .u8 x, .int .u8 y] 0).run Try.prog w = .ok (.int .u8 x) w := fun x y => by
    simp [part, isAgg, run_underlying t1]
  have p2 : ∀ x y : Int, (part f2.type #[Value.int .u8 x, .int .u8 y] 1).run Try.prog w = .ok (.int .u8 y) w := fun x y => by
    simp [part, isAgg, run_underlying t2]
  have e1 : ∀ x y : Int, (Op.equalIn 9999 f1.type (.int .u8 x) (.int .u8 y)).run Try.prog w = .ok (x == y) w := fun x y => run_equalIn_int w 9998 f1.type .u8 .u8 x y t1
  have e2 : ∀ x y : Int, (Op.equalIn 9999 f2.type (.int .u8 x) (.int .u8 y)).run Try.prog w = .ok (x == y) w := fun x y => run_equalIn_int w 9998 f2.type .u8 .u8 x y t2
  rw [Op.equalIn]
  simp [run_underlying hu, span_held, n1, n2, o1, o2, p1, p2, e1, e2]
  by_cases h1 : a = c <;> by_cases h2 : b = d <;> simp [h1, h2]
section
variable {fr : List V} {σ : List Ob} {all r : List Oper} {nms : List Nat} {o : Oper} {nw : Nat} {tr : List (List Nat × List Nat)} {K : List V → List Ob → List (List Nat × List Nat) → Prop} {x y : Operand} {u : TypeId} {a b c d : Int}
theorem neSpan (h : RR Try.prog tabs all nms r (nw + resv o.op) (setD fr o.dst (.d (.bool (!(a == c && b == d))))) σ (tr ++ [([], [])]) K) (ho : o.op = .binOp .neq 152 x y u := by rfl) (hg : wantedV all fr o = some true := by rfl) (hx : evF fr x = .agg [.d (.int .u8 a), .d (.int .u8 b)] := by rfl) (hy : evF fr y = .agg [.d (.int .u8 c), .d (.int .u8 d)] := by rfl) : RR Try.prog tabs all nms (o :: r) nw fr σ tr K := by
  have hs : LStep Try.prog o (evF fr) [] (.d (.bool (!(a == c && b == d)))) [] := by
    refine YL.step fun C w act _ hxx => ?_
    have h1 := hxx x (by simp [ho, Op.operands])
    have h2 := hxx y (by simp [ho, Op.operands])
    rw [hx] at h1
    rw [hy] at h2
    have key : ∀ (p q : Int) (v : Value), VR C (.agg [.d (.int .u8 p), .d (.int .u8 q)]) v → v = .agg #[.int .u8 p, .int .u8 q] := fun p q v hv => by
      unfold VR at hv
      obtain ⟨us, rfl, hv⟩ := hv
      unfold VRs at hv
      obtain ⟨v1, r1, rfl, k1, hv⟩ := hv
      unfold VRs at hv
      obtain ⟨v2, r2, rfl, k2, hv⟩ := hv
      unfold VRs at hv
      subst hv
      rw [vr_int k1, vr_int k2]
    have e1 := key _ _ _ h1
    have e2 := key _ _ _ h2
    refine ⟨.bool (!(a == c && b == d)), ?_, by unfold VR DR; rfl⟩
    have hgd : (eqGuard .neq 152 x y (.agg #[.int .u8 a, .int .u8 b]) (.agg #[.int .u8 c, .int .u8 d])).run Try.prog w = .ok () w := by
      unfold eqGuard
      simp [span_guard]
    simp [execOp, ho, e1, e2, hgd, binOp, Op.equal, Op.maxDepth, span_equal]
  obtain ⟨trs, fr', σ', h1, h2⟩ := h
  exact ⟨⟨_, [], []⟩ :: trs, fr', σ', .step hg hs (by simp) (by simp) h1, by simpa [Tr.tch] using h2⟩
theorem neSpanR (h : RR Try.prog tabs all nms r (nw + resv o.op) (setD fr o.dst (.d (.bool false))) σ (tr ++ [([], [])]) K) (ho : o.op = .binOp .neq 152 x y u := by rfl) (hg : wantedV all fr o = some true := by rfl) (hx : evF fr x = .agg [.d (.int .u8 a), .d (.int .u8 b)] := by rfl) (hy : evF fr y = .agg [.d (.int .u8 a), .d (.int .u8 b)] := by rfl) : RR Try.prog tabs all nms (o :: r) nw fr σ tr K := by
  refine neSpan (a := a) (b := b) (c := a) (d := b) ?_ ho hg hx hy
  simpa using h
end
end Go.Proofs.Ytgebfcdcpmmgnaa.Vs
