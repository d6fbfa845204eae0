/- arrays, built whole; structs, built whole. -/
import Derived.Test.YtpmbeldmclcjlaaVsX
set_option linter.unusedVariables false
set_option linter.unusedSimpArgs false
namespace Go.Proofs.Ytpmbeldmclcjlaa.Vs
open Go.RowKit
section
theorem fill_all (vs : List V) : ∀ (pre zs : List V), zs.length = vs.length → (∀ v ∈ vs, V.part v = some [v]) → fillV (fun i => some (i * 1, 1)) (pre ++ zs) ((List.range' pre.length vs.length).zip vs) = some (pre ++ vs) := by
  induction vs with
  | nil =>
    intro pre zs hz _
    obtain rfl := List.eq_nil_of_length_eq_zero hz
    simp [fillV]
  | cons v vs ih =>
    intro pre zs hz hp
    match zs, hz with
    | z :: zs, hz =>
      have h1 := hp v (by simp)
      have h2 := ih (pre ++ [v]) zs (by simpa using hz) (fun x hx => hp x (by simp [hx]))
      simp only [List.length_cons, List.range'_succ, List.zip_cons_cons, fillV, h1, Nat.mul_one]
      rw [if_pos (by simp)]
      have h3 : spl (pre ++ z :: zs) pre.length [v] = pre ++ [v] ++ zs := by
        unfold spl
        simp
      rw [h3]
      simpa using h2
variable {fr us : List V} {σ : List Ob} {all r : List Oper} {nms : List Nat} {o : Oper} {nw n e : Nat} {tr : List (List Nat × List Nat)} {K : List V → List Ob → List (List Nat × List Nat) → Prop} {t : TypeId} {parts : Array (Nat × Operand)}
theorem opArr (h : RR Try.prog tabs all nms r (nw + resv o.op) (setD fr o.dst (.agg us)) σ (tr ++ [([], [])]) K) (ho : o.op = .build t parts := by rfl) (hg : wantedV all fr o = some true := by rfl) (hi : (tabs.ty t).inf = .arr e 1 n := by rfl) (hus : parts.toList.map (fun p => evF fr p.2) = us := by (simp only [go_sem]; rfl)) (hix : parts.toList.map (·.1) = List.range' 0 parts.toList.length := by rfl) (hz : (tabs.ty t).z.length = parts.toList.length := by rfl) (h0 : parts.toList.length ≠ 0 := by decide) (hp : us.map V.part = us.map (fun v => some [v]) := by rfl) : RR Try.prog tabs all nms (o :: r) nw fr σ tr K := by
  refine RR.op hg ?_
  rw [ho] at h ⊢
  have hu : us.length = parts.toList.length := by rw [← hus, List.length_map]
  have hpv : partsV (evF fr) parts = (List.range' 0 us.length).zip us := by
    rw [hu, ← hix, ← hus]
    unfold partsV
    induction parts.toList with
    | nil => rfl
    | cons a l ih => simp only [List.map_cons, List.zip_cons_cons, ih]
  have hparts : ∀ v ∈ us, V.part v = some [v] := fun v hv => by
    obtain ⟨i, hi⟩ := List.mem_iff_getElem?.1 hv
    have := congrArg (fun l => l[i]?) hp
    simp only [List.getElem?_map, hi, Option.map_some, Option.some.injEq] at this
    exact this
  have hf := fill_all us [] (zeroN tabs t) (by unfold zeroN; rw [List.length_map, hz, hu]) hparts
  show buildV tabs t (partsV (evF fr) parts) (pureK _)
  unfold buildV
  refine ⟨fun hn => h0 (by rw [← hz, hn]; rfl), ?_⟩
  rw [hi]
  show (match fillV (fun i => some (i * 1, 1)) (zeroN tabs t) (partsV (evF fr) parts) with
    | some cells => _
    | none => False)
  rw [hpv]
  simp only [List.nil_append, List.length_nil] at hf
  rw [hf]
  exact h
end
section
variable {fr us : List V} {σ : List Ob} {all r : List Oper} {nms : List Nat} {o : Oper} {nw n e : Nat} {tr : List (List Nat × List Nat)} {K : List V → List Ob → List (List Nat × List Nat) → Prop} {t : TypeId} {parts : Array (Nat × Operand)}
/-- Parts in a row that fill the whole. -/
def seqV (place : Nat → Option (Nat × Nat)) (off : Nat) : List (Nat × V) → Option (List V)
  | [] => some []
  | (i, v) :: rest => match place i, v.part with
    | some (o, s), some vs => if o = off ∧ s = vs.length then (match seqV place (off + s) rest with | some r => some (vs ++ r) | none => none) else none
    | _, _ => none
theorem fill_seq (place : Nat → Option (Nat × Nat)) : ∀ (parts : List (Nat × V)) (pre zs us : List V), seqV place pre.length parts = some us → zs.length = us.length → fillV place (pre ++ zs) parts = some (pre ++ us)
  | [], pre, zs, us, h, hz => by
    simp only [seqV, Option.some.injEq] at h
    subst h
    obtain rfl := List.eq_nil_of_length_eq_zero hz
    simp [fillV]
  | (i, v) :: rest, pre, zs, us, h, hz => by
    simp only [seqV] at h
    split at h
    · rename_i o s vs h1 h2
      split at h
      · rename_i h3
        obtain ⟨rfl, rfl⟩ := h3
        split at h
        · rename_i r hr
          injection h with h
          subst h
          simp only [List.length_append] at hz
          simp only [fillV, h1, h2]
          rw [if_pos (by simp only [List.length_append, true_and]; omega)]
          have h4 : spl (pre ++ zs) pre.length vs = (pre ++ vs) ++ zs.drop vs.length := by
            unfold spl
            simp [List.drop_append]
          rw [h4, fill_seq place rest (pre ++ vs) (zs.drop vs.length) r (by rw [List.length_append]; exact hr) (by rw [List.length_drop]; omega), List.append_assoc]
        · cases h
      · cases h
    · cases h
theorem opSt {fs : List (Nat × Nat × Bool)} (h : RR Try.prog tabs all nms r (nw + resv o.op) (setD fr o.dst (.agg us)) σ (tr ++ [([], [])]) K) (ho : o.op = .build t parts := by rfl) (hg : wantedV all fr o = some true := by rfl) (hi : (tabs.ty t).inf = .st fs := by rfl) (hus : (parts.toList.map (fun p => match (evF fr p.2).part with | some l => l | none => [])).flatten = us := by (simp only [go_sem]; rfl)) (hq : seqV (fun i => (fs[i]?).map fun f => (f.1, f.2.1)) 0 (partsV (evF fr) parts) = some us := by rfl) (hz : (tabs.ty t).z.length = us.length := by rfl) (h0 : us.length ≠ 0 := by exact Nat.succ_ne_zero _) : RR Try.prog tabs all nms (o :: r) nw fr σ tr K := by
  refine RR.op hg ?_
  rw [ho] at h ⊢
  have hf := fill_seq _ (partsV (evF fr) parts) [] (zeroN tabs t) us hq (by unfold zeroN; rw [List.length_map, hz])
  show buildV tabs t (partsV (evF fr) parts) (pureK _)
  unfold buildV
  refine ⟨fun hn => h0 (by rw [← hz, hn]; rfl), ?_⟩
  rw [hi]
  show (match fillV (fun i => (fs[i]?).map fun f => (f.1, f.2.1)) (zeroN tabs t) (partsV (evF fr) parts) with
    | some cells => _
    | none => False)
  simp only [List.nil_append] at hf
  rw [hf]
  exact h
end
end Go.Proofs.Ytpmbeldmclcjlaa.Vs
