/- What is known of types; the operations that only compute. -/
import Derived.Test.YtgebfcdcpmmgnaaVsB
import Derived.Test.YtgebfcdcpmmgnaaOp
set_option linter.unusedVariables false
set_option linter.unusedSimpArgs false
namespace Go.Proofs.Ytgebfcdcpmmgnaa.Vs
open Go.RowKit
inductive Inf where
  | un | int (k : IntKind) | bool | str | ptr | sl (e q b : Nat) | arr (e q n : Nat) | st (fs : List (Nat × Nat × Bool)) | map (k v : Nat) | fn | ifc
  deriving Inhabited
structure Ty where
  inf : Inf
  n : Nat
  z : List D
  deriving Inhabited
def eqD : D → Value → Bool
  | .int k n, .int k' n' => k == k' && n == n'
  | .bool b, .bool b' => b == b'
  | .str s, .string b => b.data.toList == s && decide (s.length ≤ maxLen)
  | .sl q [], .slice none 0 0 => decide (0 < q)
  | .nilp, .pointer none => true
  | .nilf, .nilFunc => true
  | .nilm, .map none => true
  | .nili, .nilIface => true
  | _, _ => false
def eqDs : List D → List Value → Bool
  | [], [] => true
  | x :: xs, v :: vs => eqD x v && eqDs xs vs
  | _, _ => false
theorem eqD_ok {G : GC} {x : D} {v : Value} (h : eqD x v = true) : DR G x [v] := by
  unfold eqD at h
  split at h <;> first | cases h | skip
  · simp only [Bool.and_eq_true, beq_iff_eq] at h; obtain ⟨rfl, rfl⟩ := h; unfold DR; rfl
  · simp only [beq_iff_eq] at h; subst h; unfold DR; rfl
  · simp only [Bool.and_eq_true, beq_iff_eq, decide_eq_true_eq] at h
    obtain ⟨h1, h2⟩ := h
    subst h1
    unfold DR
    exact ⟨rfl, h2⟩
  · unfold DR
    exact ⟨none, 0, rfl, Nat.zero_le _, by simp [maxLen], by simpa using h, fun h => absurd rfl h⟩
  all_goals (unfold DR; rfl)
theorem eqDs_ok {G : GC} : ∀ {xs : List D} {vs : List Value}, eqDs xs vs = true → DAgg G xs vs
  | [], [], _ => by unfold DAgg; rfl
  | [], _ :: _, h => by simp [eqDs] at h
  | _ :: _, [], h => by simp [eqDs] at h
  | x :: xs, v :: vs, h => by
    simp only [eqDs, Bool.and_eq_true] at h
    unfold DAgg
    exact ⟨v, vs, rfl, eqD_ok h.1, eqDs_ok h.2⟩
def infOK (P : Program) (d : TypeDesc) : Inf → Bool
  | .un => true
  | .int k => match d with | .int k' => k == k' | _ => false
  | .bool => match d with | .bool => true | _ => false
  | .str => match d with | .string => true | _ => false
  | .ptr => match d with | .pointer _ => true | _ => false
  | .sl e q b => match d with
    | .slice e' => e == e' && decide (0 < q) && (match P.info? e with
      | some j => j.size == q && j.bytes == b && (match j.zero with | some z => z.cells.size == q | none => false)
      | none => false)
    | _ => false
  | .arr e q n => match d with
    | .array n' e' => e == e' && n == n' && decide (0 < q) && (P.info? e).map (·.size) == some q
    | _ => false
  | .st fs => match d with
    | .struct fields => fields.toList.map (fun f => (f.offset, ((P.info? f.type).map (·.size)).getD 0, (match P.underlying f.type with | some (.struct _) | some (.array _ _) => true | _ => false))) == fs && fields.all (fun f => (P.underlying f.type).isSome)
    | _ => false
  | .map k v => match d with | .map k' v' => k == k' && v == v' | _ => false
  | .fn => match d with | .func _ _ _ => true | _ => false
  | .ifc => match d with | .interface _ => true | _ => false
/-- A struct or an array (some true), one cell (some false). -/
def Inf.agg : Inf → Option Bool
  | .un => none
  | .arr .. | .st .. => some true
  | _ => some false
def isAggV : Value → Bool
  | .agg _ => true
  | _ => false
def tyOK (P : Program) (t : Nat) (y : Ty) : Bool :=
  match P.info? t, P.underlying t with
  | some i, some d => i.size == y.n && infOK P d y.inf && (y.z.isEmpty || (match i.zero with | some v => eqDs y.z v.cells.toList && (isAggV v == (y.inf.agg == some true)) | none => false))
  | _, _ => false
structure Tb (P : Program) where
  tys : List Ty
  ok : (tys.zipIdx.all fun p => (match p.1.inf with | .un => true | _ => false) || tyOK P p.2 p.1) = true
section
variable {P : Program}
def Tb.ty (T : Tb P) (t : Nat) : Ty := T.tys.getD t ⟨.un, 0, []⟩
theorem Tb.get (T : Tb P) {t : Nat} {y : Ty} (h : T.ty t = y) (hy : y.inf ≠ .un) : tyOK P t y = true := by
  subst h
  unfold Tb.ty at hy ⊢
  rw [List.getD_eq_getElem?_getD] at hy ⊢
  cases hx : T.tys[t]? with
  | none => rw [hx] at hy; exact absurd rfl hy
  | some x =>
    rw [hx] at hy
    simp only [Option.getD_some] at hy ⊢
    have := List.all_eq_true.1 T.ok (x, t) (by
      rw [List.mem_iff_getElem?]
      exact ⟨t, by rw [List.getElem?_zipIdx, hx]; simp⟩)
    simp only [Bool.or_eq_true] at this
    rcases this with h | h
    · cases hi : x.inf <;> simp_all
    · exact h
structure TyS (P : Program) (t : Nat) (y : Ty) : Prop where
  size : (P.info? t).map (·.size) = some y.n
  inf : ∃ d, P.underlying t = some d ∧ infOK P d y.inf = true
  zero : y.z ≠ [] → ∃ i v, P.info? t = some i ∧ i.zero = some v ∧ eqDs y.z v.cells.toList = true
  zagg : ∀ i v, y.z ≠ [] → P.info? t = some i → i.zero = some v → isAggV v = (y.inf.agg == some true)
theorem Tb.spec (T : Tb P) {t : Nat} {y : Ty} (h : T.ty t = y) (hy : y.inf ≠ .un) : TyS P t y := by
  have h2 := T.get h hy
  unfold tyOK at h2
  split at h2
  · rename_i i d hi hd
    simp only [Bool.and_eq_true, Bool.or_eq_true, beq_iff_eq] at h2
    obtain ⟨⟨h3, h4⟩, h5⟩ := h2
    have h6 : y.z ≠ [] → ∃ v, i.zero = some v ∧ eqDs y.z v.cells.toList = true ∧ isAggV v = (y.inf.agg == some true) := fun hz => by
      rcases h5 with h5 | h5
      · exact absurd (by simpa using h5) hz
      · split at h5
        · rename_i v hv
          simp only [Bool.and_eq_true, beq_iff_eq] at h5
          exact ⟨v, hv, h5.1, h5.2⟩
        · cases h5
    refine ⟨by rw [hi]; simp [h3], ⟨d, hd, h4⟩, fun hz => ?_, fun i' v hz hi' hv => ?_⟩
    · obtain ⟨v, hv, k1, k2⟩ := h6 hz
      exact ⟨i, v, hi, hv, k1⟩
    · obtain ⟨v', hv', k1, k2⟩ := h6 hz
      rw [hi] at hi'; injection hi' with hi'; subst hi'
      rw [hv] at hv'; injection hv' with hv'; subst hv'
      exact k2
  · cases h2
theorem TyS.isAgg {t : Nat} {y : Ty} {b : Bool} (S : TyS P t y) (hb : y.inf.agg = some b) (w : World) : (isAgg t).run P w = .ok b w := by
  obtain ⟨d, hd, hi⟩ := S.inf
  unfold Go.isAgg
  rw [Sem.run_bind, run_underlying hd w]
  unfold infOK at hi
  unfold Inf.agg at hb
  cases hy : y.inf <;> rw [hy] at hi hb <;> simp only at hi hb <;> first | cases hb | skip
  all_goals (cases d <;> simp only [Bool.false_eq_true] at hi <;> first | rfl | cases hi)
/-- Constants. -/
def litV1 : Value → V
  | .int k n => .d (.int k n)
  | .bool b => .d (.bool b)
  | .string s => if s.size ≤ maxLen then .d (.str s.data.toList) else .any
  | .pointer none => .d .nilp
  | .slice none 0 0 => .nil
  | .map none => .d .nilm
  | .nilFunc => .d .nilf
  | .nilIface => .d .nili
  | .func f ⟨[]⟩ ⟨[]⟩ => .fn f [] []
  | _ => .any
def litV : Value → V
  | .agg cs => .agg (cs.toList.map litV1)
  | v => litV1 v
theorem litV1_ok (C : Cx) (v : Value) : VR C (litV1 v) v := by
  unfold litV1
  split
  case h_3 s =>
    split
    · rename_i h
      unfold VR DR
      exact ⟨by simp, by simpa using h⟩
    · unfold VR; trivial
  case h_9 f => unfold VR; exact ⟨[], [], rfl, .nil, .nil⟩
  all_goals (unfold VR; first | trivial | rfl | (unfold DR; rfl))
theorem litVs_ok (C : Cx) : ∀ vs : List Value, VRs C (vs.map litV1) vs
  | [] => .nil
  | v :: vs => .cons (litV1_ok C v) (litVs_ok C vs)
theorem litV_ok (C : Cx) (v : Value) : VR C (litV v) v := by
  unfold litV
  split
  · rename_i cs
    unfold VR
    exact ⟨cs.toList, by simp, litVs_ok C _⟩
  · exact litV1_ok C v
/-- What an operand is. -/
def evF (fr : List V) : Operand → V
  | .tmp t => fr.getD t .any
  | .const v => litV v
  | .global _ => .any
  | .func f => .fn (.func f) [] []
def FrR (C : Cx) (fr : List V) (tmps : Array Value) : Prop := VRs C fr tmps.toList
theorem VR.any' (C : Cx) (v : Value) : VR C .any v := by unfold VR; trivial
theorem evF_ok {C : Cx} {fr : List V} {a : Act} (h : FrR C fr a.tmps) (x : Operand) : VR C (evF fr x) (a.eval x) := by
  cases x with
  | tmp t =>
    show VR C (fr.getD t .any) (a.tmps.getD t undef)
    rw [List.getD_eq_getElem?_getD]
    cases hx : fr[t]? with
    | none => exact VR.any' _ _
    | some v =>
      obtain ⟨u, h1, h2⟩ := VRs.get h hx
      have : a.tmps.getD t undef = u := by
        simp only [Array.getElem?_toList] at h1
        simp [Array.getD_eq_getD_getElem?, h1]
      rw [this]
      exact h2
  | const v => exact litV_ok C v
  | global g => exact VR.any' _ _
  | func f => show VR C (.fn (.func f) [] []) _; unfold VR; exact ⟨[], [], rfl, .nil, .nil⟩
theorem FrR.put {C : Cx} {fr : List V} {a : Act} {v : V} {u : Value} (h : FrR C fr a.tmps) (hv : VR C v u) (dst : Option Tmp) : FrR C (match dst with | some d => fr.set d v | none => fr) (a.put dst u).tmps := by
  cases dst with
  | none => exact h
  | some d =>
    show VRs C (fr.set d v) (a.tmps.setIfInBounds d u).toList
    rw [Array.toList_setIfInBounds]
    exact VRs.set h hv
end
end Go.Proofs.Ytgebfcdcpmmgnaa.Vs
