/- lists: small laws; nil within a struct's cells, as a row that may grow or be written. -/
import Derived.Test.YtgebfcdcpmmgnaaVsX
set_option linter.unusedVariables false
set_option linter.unusedSimpArgs false
namespace Go.Proofs.Ytgebfcdcpmmgnaa.Vs
open Go.RowKit
theorem gdS {α : Type} {l : List α} {i : Nat} (h : i < l.length) (d : α) : l[i]? = some (l.getD i d) := by rw [List.getD_eq_getElem?_getD, List.getElem?_eq_getElem h]; rfl
theorem allT {α : Type} {p : α → Bool} {l : List α} {i : Nat} {x : α} (h : (l.take i).all p = true) (hx : l[i]? = some x) (hp : p x = true) : (l.take (i + 1)).all p = true := by
  rw [List.take_add_one, hx]; simp [hp] at h ⊢; exact h
theorem allF {α : Type} {p : α → Bool} {l : List α} {i : Nat} {x : α} (hx : l[i]? = some x) (hp : p x = false) : l.all p = false := by
  rw [List.all_eq_false]
  exact ⟨x, List.mem_of_getElem? hx, by simp [hp]⟩
section
section
variable {P : Program} {k : Nat} {fr : List V} {σ : List Ob} {w0 : Bs} {w : World} {lent : Nat → Prop} {C : Cx}
theorem Rel.retell (R : Rel w0 lent C σ w) {j : Nat} {t : TypeId} {vs us : List V} (hj : σ[j]? = some (.cells t vs)) (h : ∀ xs : List Value, VRs C vs xs → VRs C us xs) : Rel w0 lent C (σ.set j (.cells t us)) w := by
  have hjl := (List.getElem?_eq_some_iff.1 hj).1
  have hget : ∀ (i : Nat) (o : Ob), (σ.set j (.cells t us))[i]? = some o → ∃ o0, σ[i]? = some o0 ∧ blockOf C i o = blockOf C i o0 := fun i o hi => by
    by_cases hij : j = i
    · subst hij
      rw [List.getElem?_set_self hjl] at hi
      injection hi with hi
      subst hi
      exact ⟨_, hj, rfl⟩
    · rw [List.getElem?_set_ne hij] at hi
      exact ⟨o, hi, rfl⟩
  refine ⟨by rw [List.length_set]; exact R.len, R.ro, fun i o hi => ?_, fun a b oi oj bb hi hj' h1 h2 => ?_, fun i o b hi hb => ?_, R.keep, R.size, R.os, R.tape, R.output, R.gh⟩
  · by_cases hij : j = i
    · subst hij
      rw [List.getElem?_set_self hjl] at hi
      injection hi with hi
      subst hi
      obtain ⟨h0, b, cs, k1, k2, k3, k4, k5⟩ := R.obs _ _ hj
      exact ⟨h0, b, cs, k1, k2, h _ k3, k4, k5⟩
    · rw [List.getElem?_set_ne hij] at hi
      exact R.obs _ _ hi
  · obtain ⟨o1, g1, e1⟩ := hget a oi hi
    obtain ⟨o2, g2, e2⟩ := hget b oj hj'
    exact R.sep _ _ _ _ bb g1 g2 (e1 ▸ h1) (e2 ▸ h2)
  · obtain ⟨o1, g1, e1⟩ := hget i o hi
    exact R.new _ _ b g1 (e1 ▸ hb)
theorem Ent.nilOwnC {q i j : Nat} {t e : TypeId} {vs us : List V} (hi : σ[i]? = some .fresh) (hj : σ[j]? = some (.cells t vs)) (hq : 0 < q) (h : NoL q i vs us) : Ent k fr σ fr ((σ.set i (.cap e q 0)).set j (.cells t us)) := fun w0 lent C w a R hf hk => by
  obtain ⟨C', R', hle, hcur, hG⟩ := R.ownNil hi e (q := q)
  have hil : i < C'.ρ.length := by rw [R'.len]; simp; exact (List.getElem?_eq_some_iff.1 hi).1
  have hρ : C'.ρ[i]? ≠ some none := by
    have h1 := R'.obs i (.cap e q 0) (List.getElem?_set_self (List.getElem?_eq_some_iff.1 hi).1)
    exact h1.1
  have hne : i ≠ j := fun e => by subst e; rw [hi] at hj; cases hj
  have key : ∀ {fr fr' : List V} {us : List Value}, NoL q i fr fr' → VRs C' fr us → VRs C' fr' us := by
    intro fr
    induction fr with
    | nil => intro fr' us h hv; cases h; exact hv
    | cons v fr ih =>
      intro fr' us h hv
      cases h with
      | own t =>
        unfold VRs at hv ⊢
        obtain ⟨u, r, e, h1, h2⟩ := hv
        refine ⟨u, r, e, ?_, ih t h2⟩
        unfold VR at h1 ⊢
        subst h1
        refine ⟨by unfold DR; exact ⟨none, 0, rfl, Nat.le_refl _, by simp [maxLen], hq, fun h => absurd rfl h⟩, hil, hρ, fun n u hn => ?_⟩
        rw [hcur] at hn
        injection hn with hn; injection hn with h1 h2
        exact ⟨Nat.zero_le _, fun _ => h2⟩
      | cons h t =>
        unfold VRs at hv ⊢
        obtain ⟨u, r, e, h1, h2⟩ := hv
        exact ⟨u, r, e, h.ok h1, ih t h2⟩
  have R2 := R'.retell (j := j) (us := us) (by rw [List.getElem?_set_ne hne]; exact hj) (fun xs => key h)
  exact ⟨C', R2, hf.mono hle, by simpa using hk, hle.k (by rw [R.len]; exact hk)⟩
theorem Ent.nilHdC {q i j kk : Nat} {t e : TypeId} {vs us : List V} (hi : σ[i]? = some .fresh) (hj : σ[j]? = some (.cells t vs)) (h : NhKL i kk vs us) : Ent k fr σ fr ((σ.set i (.grw e q kk 0 [])).set j (.cells t us)) := fun w0 lent C w a R hf hk => by
  obtain ⟨C', R', hle, hcur, hG, hil, hρ⟩ := R.hdNil hi e q none kk
  have hne : i ≠ j := fun e => by subst e; rw [hi] at hj; cases hj
  have key : ∀ {fr fr' : List V} {us : List Value}, NhKL i kk fr fr' → VRs C' fr us → VRs C' fr' us := by
    intro fr
    induction fr with
    | nil => intro fr' us h hv; cases h; exact hv
    | cons v fr ih =>
      intro fr' us h hv
      cases h with
      | hd t =>
        unfold VRs at hv ⊢
        obtain ⟨u, r, e, h1, h2⟩ := hv
        refine ⟨u, r, e, ?_, ih t h2⟩
        unfold VR at h1 ⊢
        subst h1
        refine ⟨hil, hρ, ⟨none, 0, rfl, fun h => absurd rfl h⟩, fun m u hm => ?_⟩
        rw [hcur] at hm
        injection hm with hm; injection hm with h1 h2
        exact ⟨by omega, fun _ => h2⟩
      | cons h t =>
        unfold VRs at hv ⊢
        obtain ⟨u, r, e, h1, h2⟩ := hv
        exact ⟨u, r, e, h.ok h1, ih t h2⟩
  have R2 := R'.retell (j := j) (us := us) (by rw [List.getElem?_set_ne hne]; exact hj) (fun xs => key h)
  exact ⟨C', R2, hf.mono hle, by simpa using hk, hle.k (by rw [R.len]; exact hk)⟩
end
end
end Go.Proofs.Ytgebfcdcpmmgnaa.Vs
