/- A region that draws its order: what may come in either order reaches unlike things. -/
import Derived.Test.YtgebfcdcpmmgnaaVsN
import Derived.Test.YtgebfcdcpmmgnaaReg
set_option linter.unusedVariables false
set_option linter.unusedSimpArgs false
namespace Go.Proofs.Ytgebfcdcpmmgnaa.Vs
open Go.RowKit
/-! ### What was written last -/
def orD {α : Type} : Option α → Option α → Option α
  | some x, _ => some x
  | none, d => d
def look {α : Type} (wr : Nat → Option α) (L : Nat → Bool) : Nat → Option α → Option α
  | 0, d => d
  | n + 1, d => if L n = true then orD (wr n) (look wr L n d) else look wr L n d
section
variable {α : Type} {wr : Nat → Option α} {L L' : Nat → Bool} {d : Option α}
theorem look_congr : ∀ {n : Nat}, (∀ i, i < n → wr i ≠ none → L i = L' i) → look wr L n d = look wr L' n d
  | 0, _ => rfl
  | n + 1, h => by
    have ih := look_congr (n := n) fun i hi => h i (by omega)
    rw [look, look]
    cases hw : wr n with
    | none => simp only [ih, orD]; split <;> split <;> rfl
    | some x => rw [h n (by omega) (by rw [hw]; simp), ih]
theorem look_over {i n : Nat} (hi : i < n) (hL : ∀ j, j ≠ i → L' j = L j) (hLi : L' i = true) (hj : ∀ j, i < j → L j = true → wr j = none) : look wr L' n d = orD (wr i) (look wr L n d) ∨ (L i = true) := by
  by_cases hLL : L i = true
  · exact .inr hLL
  left
  induction n with
  | zero => omega
  | succ n ih =>
    by_cases hn : n = i
    · subst hn
      rw [look, look, if_pos hLi, if_neg hLL]
      cases hwn : wr n with
      | some x => rfl
      | none => exact look_congr fun j hj' _ => hL j (by omega)
    · have hin : i < n := by omega
      rw [look, look, hL n hn]
      by_cases hLn : L n = true
      · rw [if_pos hLn, if_pos hLn, hj n hin hLn]
        exact ih hin
      · rw [if_neg hLn, if_neg hLn]
        exact ih hin
theorem look_prefix {i n : Nat} (hi : i ≤ n) : look wr (fun j => decide (j < i)) n d = look wr (fun _ => true) i d := by
  induction n with
  | zero => obtain rfl : i = 0 := by omega
            rfl
  | succ n ih =>
    by_cases h : i = n + 1
    · subst h
      exact look_congr fun j hj _ => by simpa using hj
    · rw [look, if_neg (by simp; omega)]
      exact ih (by omega)
end
/-! ### The text's run, as what was written -/
section
variable {P : Program} {all : List Oper}
def dstw (ops : List Oper) (trs : List Tr) (s : Nat) (i : Nat) : Option V :=
  match ops[i]?, trs[i]? with
  | some o, some t => if o.dst = some s then some t.v else none
  | _, _ => none
def lastW (j : Nat) : List (Nat × Ob) → Option Ob
  | [] => none
  | p :: l => orD (lastW j l) (if p.1 = j then some p.2 else none)
def wrw (trs : List Tr) (j : Nat) (i : Nat) : Option Ob := (trs[i]?).bind fun t => lastW j t.wr
theorem upd_get : ∀ (wr : List (Nat × Ob)) (σ : List Ob) (j : Nat), j < σ.length → (upd σ wr)[j]? = orD (lastW j wr) σ[j]?
  | [], _, _, _ => rfl
  | p :: l, σ, j, hj => by
    unfold upd lastW
    rw [upd_get l _ j (by simpa using hj)]
    cases lastW j l with
    | some o => rfl
    | none =>
      simp only [orD]
      rw [List.getElem?_set]
      split
      · rename_i e; simp [e, hj]
      · rfl
theorem setD_get (fr : List V) (dst : Option Tmp) (v : V) (s : Nat) (hs : s < fr.length) : (setD fr dst v)[s]? = if dst = some s then some v else fr[s]? := by
  unfold setD
  cases dst with
  | none => simp
  | some d =>
    simp only [Option.some.injEq]
    rw [List.getElem?_set]
    split
    · rename_i e; subst e; simp [hs]
    · rfl
theorem setD_len (fr : List V) (dst : Option Tmp) (v : V) : (setD fr dst v).length = fr.length := by unfold setD; cases dst <;> simp
/-- What the run tells of operation i: what it found, and what it did. -/
structure At (P : Program) (all : List Oper) (ops : List Oper) (trs : List Tr) (fr0 : List V) (σ0 : List Ob) (i : Nat) (o : Oper) : Prop where
  h : ∃ (t : Tr) (fr : List V) (σ : List Ob), trs[i]? = some t ∧ fr.length = fr0.length ∧ σ.length = σ0.length ∧ (∀ s : Nat, s < fr0.length → fr[s]? = look (dstw ops trs s) (fun _ => true) i fr0[s]?) ∧ (∀ j : Nat, j < σ0.length → σ[j]? = look (wrw trs j) (fun _ => true) i σ0[j]?) ∧
    ((wantedV all fr o = some false ∧ t = ⟨.tup [], [], []⟩) ∨ (wantedV all fr o = some true ∧ LStep P o (evF fr) t.rd t.v t.wr ∧ (∀ p ∈ t.wr, ∃ q ∈ t.rd, q.1 = p.1) ∧ ∀ p ∈ t.rd, σ[p.1]? = some p.2))
theorem look_shift {α : Type} {wr wr' : Nat → Option α} {i : Nat} {d : Option α} (h : ∀ j, wr' j = wr (j + 1)) : look wr' (fun _ => true) i (orD (wr 0) d) = look wr (fun _ => true) (i + 1) d := by
  induction i with
  | zero => simp only [look, if_true]
  | succ i ih => rw [look, look, if_pos rfl, if_pos rfl, h i, ih]
theorem run_at : ∀ {ops : List Oper} {trs : List Tr} {fr fr' : List V} {σ σ' : List Ob}, Run P all ops fr σ trs fr' σ' → trs.length = ops.length ∧ fr'.length = fr.length ∧ σ'.length = σ.length ∧
    (∀ s : Nat, s < fr.length → fr'[s]? = look (dstw ops trs s) (fun _ => true) ops.length fr[s]?) ∧ (∀ j : Nat, j < σ.length → σ'[j]? = look (wrw trs j) (fun _ => true) ops.length σ[j]?) ∧ ∀ (i : Nat) (o : Oper), ops[i]? = some o → At P all ops trs fr σ i o
  | [], _, fr, _, σ, _, .nil => ⟨rfl, rfl, rfl, fun _ _ => rfl, fun _ _ => rfl, fun i o h => by simp at h⟩
  | o :: r, _, fr, fr', σ, σ', .skip (trs := trs) h t => by
    obtain ⟨h1, h2, h3, h4, h5, h6⟩ := run_at t
    rw [setD_len] at h2
    have hd0 : ∀ s, s < fr.length → (setD fr o.dst (.tup []))[s]? = orD (dstw (o :: r) (⟨.tup [], [], []⟩ :: trs) s 0) fr[s]? := fun s hs => by
      rw [setD_get _ _ _ _ hs]
      simp only [dstw, List.getElem?_cons_zero]
      split <;> simp_all [orD]
    have hw0 : ∀ j, σ[j]? = orD (wrw (⟨.tup [], [], []⟩ :: trs) j 0) σ[j]? := fun j => rfl
    have hsd : ∀ s j, dstw r trs s j = dstw (o :: r) (⟨.tup [], [], []⟩ :: trs) s (j + 1) := fun s j => rfl
    have hsw : ∀ s j, wrw trs s j = wrw (⟨.tup [], [], []⟩ :: trs) s (j + 1) := fun s j => rfl
    refine ⟨by simp [h1], h2, h3, fun s hs => ?_, fun j hj => ?_, fun i o' hi => ?_⟩
    · rw [h4 s (by rw [setD_len]; exact hs), hd0 s hs, look_shift (hsd s)]; rfl
    · rw [h5 j hj]; conv => lhs; rw [hw0 j]
      rw [look_shift (hsw j)]; rfl
    · cases i with
      | zero =>
        simp at hi; subst hi
        exact ⟨⟨_, fr, σ, rfl, rfl, rfl, fun _ _ => rfl, fun _ _ => rfl, .inl ⟨h, rfl⟩⟩⟩
      | succ i =>
        obtain ⟨t', fr1, σ1, k1, k2, k3, k4, k5, k6⟩ := (h6 i o' (by simpa using hi)).h
        refine ⟨⟨t', fr1, σ1, by simpa using k1, by rw [k2, setD_len], k3, fun s hs => ?_, fun j hj => ?_, k6⟩⟩
        · rw [k4 s (by rw [setD_len]; exact hs), hd0 s hs, look_shift (hsd s)]
        · rw [k5 j hj]; conv => lhs; rw [hw0 j]
          rw [look_shift (hsw j)]
  | o :: r, _, fr, fr', σ, σ', .step (trs := trs) (v := v) (rd := rd) (wr := wr) h hs hw hr t => by
    obtain ⟨h1, h2, h3, h4, h5, h6⟩ := run_at t
    rw [setD_len] at h2
    rw [upd_length] at h3
    have hd0 : ∀ s, s < fr.length → (setD fr o.dst v)[s]? = orD (dstw (o :: r) (⟨v, rd, wr⟩ :: trs) s 0) fr[s]? := fun s hs => by
      rw [setD_get _ _ _ _ hs]
      simp only [dstw, List.getElem?_cons_zero]
      split <;> simp_all [orD]
    have hw0 : ∀ j, j < σ.length → (upd σ wr)[j]? = orD (wrw (⟨v, rd, wr⟩ :: trs) j 0) σ[j]? := fun j hj => by
      rw [upd_get _ _ _ hj]; rfl
    have hsd : ∀ s j, dstw r trs s j = dstw (o :: r) (⟨v, rd, wr⟩ :: trs) s (j + 1) := fun s j => rfl
    have hsw : ∀ s j, wrw trs s j = wrw (⟨v, rd, wr⟩ :: trs) s (j + 1) := fun s j => rfl
    refine ⟨by simp [h1], h2, h3, fun s hs => ?_, fun j hj => ?_, fun i o' hi => ?_⟩
    · rw [h4 s (by rw [setD_len]; exact hs), hd0 s hs, look_shift (hsd s)]; rfl
    · rw [h5 j (by rw [upd_length]; exact hj), hw0 j hj, look_shift (hsw j)]; rfl
    · cases i with
      | zero =>
        simp at hi; subst hi
        exact ⟨⟨_, fr, σ, rfl, rfl, rfl, fun _ _ => rfl, fun _ _ => rfl, .inr ⟨h, hs, hw, hr⟩⟩⟩
      | succ i =>
        obtain ⟨t', fr1, σ1, k1, k2, k3, k4, k5, k6⟩ := (h6 i o' (by simpa using hi)).h
        refine ⟨⟨t', fr1, σ1, by simpa using k1, by rw [k2, setD_len], by rw [k3, upd_length], fun s hs => ?_, fun j hj => ?_, k6⟩⟩
        · rw [k4 s (by rw [setD_len]; exact hs), hd0 s hs, look_shift (hsd s)]
        · rw [k5 j (by rw [upd_length]; exact hj), hw0 j hj, look_shift (hsw j)]
end
end Go.Proofs.Ytgebfcdcpmmgnaa.Vs
