/- Named blocks that are only read from now on; loops; contracts of the earlier kind. -/
import Derived.Test.YtgebfcdcpmmgnaaVsP
set_option linter.unusedVariables false
set_option linter.unusedSimpArgs false
namespace Go.Proofs.Ytgebfcdcpmmgnaa.Vs
open Go.RowKit
section
variable {P : Program} {k : Nat} {fr : List V} {σ : List Ob} {w0 : Bs} {w w' : World} {lent : Nat → Prop} {C C' : Cx} {c : Code}
mutual
/-- Where the row i stands for data, from now on. -/
inductive Fz (i q : Nat) (xs : List D) : V → V → Prop
  | row {n cap} (hn : n = xs.length) (hc : n ≤ cap) (hm : cap ≤ 9223372036854775807) : Fz i q xs (.row i 0 n cap) (.d (.sl q xs))
  | wk {v u} (h : Wk v u) : Fz i q xs v u
inductive FzL (i q : Nat) (xs : List D) : List V → List V → Prop
  | nil : FzL i q xs [] []
  | cons {v u vs us} (h : Fz i q xs v u) (t : FzL i q xs vs us) : FzL i q xs (v :: vs) (u :: us)
end
theorem Ent.freeze {i q : Nat} {t : TypeId} {vs : List V} {xs : List D} {fr' : List V} (hi : σ[i]? = some (.cells t vs)) (hq : 0 < q) (he : Elems q vs xs) (hl : xs.length ≤ 9223372036854775807) (h : FzL i q xs fr fr') : Ent k fr σ fr' (σ.set i .dead) := fun w0 lent C w a R hf hk => by
  obtain ⟨C', R', hle, hz⟩ := R.freeze hi hq he hl
  refine ⟨C', R', ?_, by simpa using hk, hle.k (by rw [R.len]; exact hk)⟩
  have key : ∀ {fr fr' : List V} {us : List Value}, FzL i q xs fr fr' → VRs C fr us → VRs C' fr' us := by
    intro fr
    induction fr with
    | nil => intro fr' us h hv; cases h; unfold VRs at hv ⊢; exact hv
    | cons v fr ih =>
      intro fr' us h hv
      cases h with
      | cons h t =>
        unfold VRs at hv ⊢
        obtain ⟨u, r, e, h1, h2⟩ := hv
        refine ⟨u, r, e, ?_, ih t h2⟩
        cases h with
        | row hn hc hm => subst hn; exact hz hc hm h1
        | wk h => exact (h.ok h1).mono hle
  exact key h hf
/-- A round's end. -/
def Nxt {ι : Type} (k : Nat) (F : ι → List V) (S : ι → List Ob) (p : ι → Prop) (μ : ι → Nat) (x : ι) (fr' : List V) (σ' : List Ob) : Prop := ∃ y, p y ∧ μ y < μ x ∧ Ent k fr' σ' (F y) (S y)
theorem W.lp {Q : Post} {ι : Type} (F : ι → List V) (S : ι → List Ob) (p : ι → Prop) (μ : ι → Nat) (x0 : ι) (h0 : p x0) (he : Ent k fr σ (F x0) (S x0)) (hb : ∀ x, p x → W P k c (F x) (S x) (thenV (Nxt k F S p μ x) Q)) : W P k (.loop c) fr σ Q :=
  W.ent he (W.loop F S p μ x0 h0 hb)
/-! ### Contracts of the earlier kind -/
/-- A function that leaves all that was there. -/
theorem Fn.of {f : FuncId} {args : List V} {r : V} (ok : callOK P f = true) (h : ∀ (G : GC) (w : World) (vals : List Value), (∀ b o v, G b o = some v → w.cell? ⟨b, o, none⟩ = some v) → VRs { G := G, ρ := [], cur := fun _ => none } args vals →
    Calls P f vals.toArray w fun e w' => ∃ G' u, e = .returned u ∧ Below w.heap.size w w' ∧ G.le G' ∧ (∀ b o, b < w.heap.size → G' b o = G b o) ∧ (∀ b o v, G' b o = some v → w'.cell? ⟨b, o, none⟩ = some v) ∧ VR { G := G', ρ := [], cur := fun _ => none } r u) (ha : V.ltL 0 args = true) (hr : r.lt 0 = true) : Fn P f args [] r [] := by
  refine ⟨ok, Nat.le_refl _, fun C w vals R hv => ?_⟩
  refine (h C.G w vals R.ro (VRs.agr (C := C) (C' := { G := C.G, ρ := [], cur := fun _ => none }) (n := 0) ⟨GC.le_refl _, fun i hi => by omega, fun i hi => by omega⟩ ha hv)).mono fun e w' ⟨G', u, he, hb, hle, hn, hro, hu⟩ => ?_
  refine ⟨{ C with G := G' }, u, he, ⟨R.len, hro, fun i o hi => by simp at hi, fun i j oi oj b hi => by simp at hi, fun i o b hi => by simp at hi, fun b hb' _ => hb.block b hb', hb.size, hb.os, hb.tape, hb.output, fun b o hb' _ => hn b o hb'⟩, ⟨hle, fun i b hi => by simp at hi, fun c n u hc => by simp at hc, fun c hc => by simp at hc⟩, VR.agr (C := { G := G', ρ := [], cur := fun _ => none }) (C' := { C with G := G' }) (n := 0) ⟨GC.le_refl _, fun i hi => by omega, fun i hi => by omega⟩ hr hu⟩
/-- The way back: a row of a law. -/
theorem Fn.below {f : FuncId} {args : List V} {b : Bool} (h : Fn P f args [] (.d (.bool b)) []) {w : World} {G : GC} (hG : ∀ b o v, G b o = some v → w.cell? ⟨b, o, none⟩ = some v) {vals : List Value} (hv : VRs { G := G, ρ := [], cur := fun _ => none } args vals) : Calls P f vals.toArray w fun e w' => e = .returned (.bool b) ∧ Below w.heap.size w w' := by
  let C : Cx := { G := G, ρ := [], cur := fun _ => none }
  have R0 : Rel ⟨w, C.G⟩ (lentB C []) C [] w := ⟨rfl, hG, fun i o hi => by simp at hi, fun i j oi oj b hi => by simp at hi, fun i o b hi => by simp at hi, fun _ _ _ => rfl, Nat.le_refl _, rfl, rfl, rfl, fun _ _ _ _ => rfl⟩
  refine (h.run C w vals R0 hv).mono fun e w' ⟨C', u, he, R, _, hu⟩ => ?_
  subst he
  exact ⟨by rw [vr_bool hu], R.os, R.tape, R.output, R.size, fun b hb => R.keep b hb (fun ⟨i, o, hi, _⟩ => by simp at hi)⟩
end
end Go.Proofs.Ytgebfcdcpmmgnaa.Vs
