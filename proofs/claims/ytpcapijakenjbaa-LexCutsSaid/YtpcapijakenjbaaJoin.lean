/- A region that draws its order: all its orders meet in one assertion behind it. -/
import Derived.Test.YtpcapijakenjbaaRun
import Derived.Control
set_option linter.unusedVariables false
set_option linter.unusedSimpArgs false
namespace Go.Proofs.Ytpcapijakenjbaa.Sl
open Go.RowKit
def putAll (a : Act) : List Nat → List Value → Act
  | s :: ss, v :: vs => putAll (a.put (some s) v) ss vs
  | _, _ => a
def slotsOf (a : Act) (ss : List Nat) : List Value := ss.map fun s => a.tmps.getD s undef
def joinQ (a : Act) (slots : List Nat) (R : List Value → World → Prop) : Exit → Act → World → Prop
  | .normal, a', w' => ∃ vs, a' = putAll a slots vs ∧ R vs w'
  | _, _, _ => False
def AllV : Nat → (List Value → Prop) → Prop
  | 0, p => p []
  | n + 1, p => ∀ v, AllV n (fun vs => p (v :: vs))
def lenR (n : Nat) (R : List Value → World → Prop) : List Value → World → Prop := fun vs w => vs.length = n ∧ R vs w
theorem AllV.get : ∀ {n : Nat} {p : List Value → Prop}, AllV n p → ∀ vs : List Value, vs.length = n → p vs
  | 0, p, h, [], _ => h
  | n + 1, p, h, v :: vs, hl => AllV.get (h v) vs (by simpa using hl)
theorem vr_join {P : Program} {ops : Array Oper} {Q : Exit → Act → World → Prop} {a : Act} {w : World} {id : Nat} (slots : List Nat) (R : List Value → World → Prop)
    (h1 : (Code.region id ops true).wp P (joinQ a slots (lenR slots.length R)) a w) (h2 : AllV slots.length (fun vs => ∀ w', R vs w' → Q .normal (putAll a slots vs) w')) : (Code.region id ops true).wp P Q a w := by
  refine wp_mono h1 fun e a' w' h => ?_
  cases e with
  | normal =>
    obtain ⟨vs, rfl, hl, h⟩ := h
    exact h2.get vs hl w' h
  | _ => exact h.elim
theorem join_end {a0 a : Act} {slots : List Nat} {R : List Value → World → Prop} {w : World} (h : a = putAll a0 slots (slotsOf a slots)) (h2 : R (slotsOf a slots) w) : joinQ a0 slots (lenR slots.length R) .normal a w :=
  ⟨_, h, by simp [slotsOf], h2⟩
end Go.Proofs.Ytpcapijakenjbaa.Sl
