/- Blocks that are only read from now on. -/
import Derived.Test.YtgebfcdcpmmgnaaVsK
set_option linter.unusedVariables false
set_option linter.unusedSimpArgs false
namespace Go.Proofs.Ytgebfcdcpmmgnaa.Vs
open Go.RowKit
section
variable {P : Program} {σ : List Ob} {w0 : Bs} {w w' : World} {lent : Nat → Prop} {C C' : Cx}
/-- Cells that are elements. -/
def Elems (q : Nat) (vs : List V) (xs : List D) : Prop := ∀ (C : Cx) (us : List Value), VRs C vs us → ∀ (i : Nat) (x : D), xs[i]? = some x → ∃ ce, ce.length = q ∧ DR C.G x ce ∧ ∀ (j : Nat) (v : Value), ce[j]? = some v → us[i * q + j]? = some v
theorem elems_map (xs : List D) : Elems 1 (xs.map .d) xs := fun C us h i x hx => by
  obtain ⟨u, h1, h2⟩ := h.get (i := i) (x := .d x) (by rw [List.getElem?_map, hx]; rfl)
  unfold VR at h2
  refine ⟨[u], rfl, h2, fun j v hj => ?_⟩
  cases j with
  | zero => simp at hj; subst hj; simpa using h1
  | succ j => simp at hj
theorem elems_of {ag : Bool} {z : List D} {n q : Nat} {vs : List V} {xs : List D} (h : elemsD ag z n vs = some xs) (hz : z.length = q) : Elems q vs xs := fun C us hv i x hx => by
  obtain ⟨_, h2⟩ := elemsD_ok h hv
  rw [hz] at h2
  exact h2 i x hx
/-- A block becomes data. -/
theorem Rel.freeze (R : Rel w0 lent C σ w) {i q : Nat} {t : TypeId} {vs : List V} {xs : List D} (hi : σ[i]? = some (.cells t vs)) (hq : 0 < q) (he : Elems q vs xs) (hl : xs.length ≤ 9223372036854775807) :
    ∃ C', Rel w0 lent C' (σ.set i .dead) w ∧ C.le C' ∧ ∀ {cap : Nat} {v : Value}, xs.length ≤ cap → cap ≤ 9223372036854775807 → VR C (.row i 0 xs.length cap) v → VR C' (.d (.sl q xs)) v := by
  obtain ⟨h0, b, cs, h1, h2, h3, h4, h5⟩ := R.obs i _ hi
  let G' : GC := fun b' o => if b' = b then cs[o]? else C.G b' o
  have hle : C.G.le G' := fun b' o v h => by
    by_cases hb : b' = b
    · subst hb; rw [h5 o] at h; cases h
    · show (if b' = b then cs[o]? else C.G b' o) = some v
      rw [if_neg hb]; exact h
  let C' : Cx := C.addG G'
  have hle' : C.le C' := Cx.addG_le hle
  have hblk : blockOf C i (.cells t vs) = some b := by simp [blockOf, h1]
  refine ⟨C', R.step hi ⟨hle', rfl, fun _ _ => rfl, fun _ _ => rfl, fun _ _ _ => rfl, fun b' o v h => ?_, fun b' hb hne o => ?_, h0, fun b' hb => by simp [blockOf] at hb, Nat.le_refl _, rfl, rfl, rfl⟩, hle', fun {cap v} hc hcm hv => ?_⟩
  · by_cases hb : b' = b
    · subst hb
      have h' : cs[o]? = some v := by
        have : (if b' = b' then cs[o]? else C.G b' o) = some v := h
        rwa [if_pos rfl] at this
      simp [World.cell?, h2, h']
    · have h' : C.G b' o = some v := by
        have : (if b' = b then cs[o]? else C.G b' o) = some v := h
        rwa [if_neg hb] at this
      exact R.ro b' o v h'
  · show (if b' = b then cs[o]? else C.G b' o) = C.G b' o
    rw [if_neg (fun e => hne (by rw [hblk, e]))]
  · unfold VR at hv ⊢
    obtain ⟨b', k1, rfl⟩ := hv
    rw [h1] at k1; injection k1 with k1; injection k1 with k1; subst k1
    unfold DR
    refine ⟨_, cap, rfl, hc, by simp only [maxLen]; omega, hq, fun _ => ⟨b, 0, rfl, DRow.of fun j x hx => ?_⟩⟩
    obtain ⟨ce, l1, l2, l3⟩ := he C' cs.toList (h3.mono hle') j x hx
    refine ⟨ce, l1, l2, fun m v hm => ?_⟩
    show (if b = b then cs[0 + j * q + m]? else C.G b (0 + j * q + m)) = some v
    rw [if_pos rfl, Nat.zero_add]
    have := l3 m v hm
    simpa using this
end
end Go.Proofs.Ytgebfcdcpmmgnaa.Vs
