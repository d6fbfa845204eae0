/- What tells less; calls; functions. -/
import Derived.Test.YtgebfcdcpmmgnaaVsM
set_option linter.unusedVariables false
set_option linter.unusedSimpArgs false
namespace Go.Proofs.Ytgebfcdcpmmgnaa.Vs
open Go.RowKit
mutual
/-- The second tells less. -/
inductive Wk : V → V → Prop
  | rfl {v} : Wk v v
  | any {v} : Wk v .any
  | d {x y} (h : x = y) : Wk (.d x) (.d y)
  | own {q q' xs ys c} (hq : q = q') (h : xs = ys) : Wk (.own q xs c) (.d (.sl q' ys))
  | nil {q ys} (hq : 0 < q) (h : ys = []) : Wk .nil (.d (.sl q ys))
  | z {q ys} (hq : 0 < q) (h : ys = []) : Wk .z0 (.d (.sl q ys))
  | nn {b q q' xs ys} (hq : q = q') (h : xs = ys) : Wk (.nn b q xs) (.d (.sl q' ys))
  | agg {vs us} (h : WkL vs us) : Wk (.agg vs) (.agg us)
  | tup {vs us} (h : WkL vs us) : Wk (.tup vs) (.tup us)
inductive WkL : List V → List V → Prop
  | nil : WkL [] []
  | cons {v u vs us} (h : Wk v u) (t : WkL vs us) : WkL (v :: vs) (u :: us)
end
mutual
theorem Wk.ok {C : Cx} : ∀ {v u : V} {x : Value}, Wk v u → VR C v x → VR C u x
  | _, _, _, .rfl, h => h
  | _, _, _, .any, _ => VR.any' _ _
  | _, _, _, .d e, h => by subst e; exact h
  | _, _, _, .own hq e, h => by subst hq; subst e; unfold VR at h ⊢; exact h.1
  | _, _, _, .nil hq e, h => by
    subst e; unfold VR at h ⊢; subst h
    unfold DR; exact ⟨none, 0, Eq.refl _, Nat.le_refl _, by simp [maxLen], hq, fun h => absurd (Eq.refl _) h⟩
  | _, _, _, .z hq e, h => by
    subst e; unfold VR at h ⊢; obtain ⟨a, rfl⟩ := h
    unfold DR; exact ⟨a, 0, Eq.refl _, Nat.le_refl _, by simp [maxLen], hq, fun h => absurd (Eq.refl _) h⟩
  | _, _, _, .nn hq e, h => by subst hq; subst e; unfold VR at h ⊢; exact h.1
  | _, _, _, .agg e, h => by unfold VR at h ⊢; obtain ⟨us, h1, h2⟩ := h; exact ⟨us, h1, WkL.ok e h2⟩
  | _, _, _, .tup e, h => by unfold VR at h ⊢; obtain ⟨us, h1, h2⟩ := h; exact ⟨us, h1, WkL.ok e h2⟩
theorem WkL.ok {C : Cx} : ∀ {vs us : List V} {xs : List Value}, WkL vs us → VRs C vs xs → VRs C us xs
  | _, _, _, .nil, h => h
  | _, _, _, .cons e t, h => by unfold VRs at h ⊢; obtain ⟨v, r, h1, h2, h3⟩ := h; exact ⟨v, r, h1, Wk.ok e h2, WkL.ok t h3⟩
end
mutual
/-- Names below n alone. -/
def V.lt (n : Nat) : V → Bool
  | .own _ _ c => decide (c < n)
  | .ptr i _ => decide (i < n)
  | .row i _ _ _ => decide (i < n)
  | .map i => decide (i < n)
  | .hd i _ _ => decide (i < n)
  | .ep i _ _ => decide (i < n)
  | .fn _ us vs => V.ltL n us && V.ltL n vs
  | .iface _ v => V.lt n v
  | .agg vs => V.ltL n vs
  | .tup vs => V.ltL n vs
  | _ => true
def V.ltL (n : Nat) : List V → Bool
  | [] => true
  | v :: vs => V.lt n v && V.ltL n vs
end
def Ob.lt (n : Nat) : Ob → Bool
  | .cells _ vs => V.ltL n vs
  | .grw _ _ _ _ vs => V.ltL n vs
  | .mp es _ => V.ltL n (es.map fun e => e.2.1)
  | .mq _ => false
  | .tick _ _ => false
  | _ => true
/-- The first n names of a place are those of another one. -/
structure Agr (n : Nat) (C C' : Cx) : Prop where
  G : C.G.le C'.G
  ρ : ∀ i, i < n → C'.ρ[i]? = C.ρ[i]?
  cur : ∀ i, i < n → C'.cur i = C.cur i
theorem Agr.at {n : Nat} {C C' : Cx} (h : Agr n C C') {i b : Nat} (hi : i < n) (hb : C.ρ[i]? = some (some b)) : C'.ρ[i]? = some (some b) := (h.ρ i hi).trans hb
mutual
theorem VR.agr {n : Nat} {C C' : Cx} (h : Agr n C C') : ∀ {x : V} {v : Value}, x.lt n = true → VR C x v → VR C' x v
  | .any, _, _, _ => VR.any' _ _
  | .d x, v, _, k => by unfold VR at k ⊢; exact k.mono h.G
  | .nil, _, _, k => by unfold VR at k ⊢; exact k
  | .own q xs c, v, hl, k => by
    unfold VR at k ⊢
    simp only [V.lt, decide_eq_true_eq] at hl
    obtain ⟨k1, k2, k3, k4⟩ := k
    have he := h.ρ c hl
    refine ⟨k1.mono h.G, ?_, by rw [he]; exact k3, fun m u hu => k4 m u (by rw [← h.cur c hl]; exact hu)⟩
    have h1 := List.getElem?_eq_getElem k2
    rw [h1] at he
    exact (List.getElem?_eq_some_iff.1 he).1
  | .ptr i off, v, hl, k => by unfold VR at k ⊢; obtain ⟨b, h1, h2⟩ := k; exact ⟨b, h.at (by simpa [V.lt] using hl) h1, h2⟩
  | .row i off len cap, v, hl, k => by unfold VR at k ⊢; obtain ⟨b, h1, h2⟩ := k; exact ⟨b, h.at (by simpa [V.lt] using hl) h1, h2⟩
  | .map i, v, hl, k => by unfold VR at k ⊢; obtain ⟨b, h1, h2⟩ := k; exact ⟨b, h.at (by simpa [V.lt] using hl) h1, h2⟩
  | .hd i kk m, v, hl, k => by
    unfold VR at k ⊢
    simp only [V.lt, decide_eq_true_eq] at hl
    obtain ⟨k2, k3, k1, k4⟩ := k
    have he := h.ρ i hl
    refine ⟨?_, by rw [he]; exact k3, k1, fun m u hu => k4 m u (by rw [← h.cur i hl]; exact hu)⟩
    have h1 := List.getElem?_eq_getElem k2
    rw [h1] at he
    exact (List.getElem?_eq_some_iff.1 he).1
  | .ep i kk off, v, hl, k => by
    unfold VR at k ⊢
    simp only [V.lt, decide_eq_true_eq] at hl
    obtain ⟨k2, k3, k1, k4⟩ := k
    have he := h.ρ i hl
    refine ⟨?_, by rw [he]; exact k3, k1, fun m u hu => k4 m u (by rw [← h.cur i hl]; exact hu)⟩
    have h1 := List.getElem?_eq_getElem k2
    rw [h1] at he
    exact (List.getElem?_eq_some_iff.1 he).1
  | .z0, v, _, k => by unfold VR at k ⊢; exact k
  | .nn b q xs, v, _, k => by unfold VR at k ⊢; exact ⟨k.1.mono h.G, k.2⟩
  | .el q x off, v, _, k => by unfold VR at k ⊢; obtain ⟨b, o, cs, h1, h0, h2, h3⟩ := k; exact ⟨b, o, cs, h1, h0, h2.mono h.G, fun j u hu => h.G _ _ _ (h3 j u hu)⟩
  | .fn f fs caps, v, hl, k => by simp only [V.lt, Bool.and_eq_true] at hl; unfold VR at k ⊢; obtain ⟨us, vs, h1, h0, h2⟩ := k; exact ⟨us, vs, h1, VRs.agr h hl.1 h0, VRs.agr h hl.2 h2⟩
  | .iface t x, v, hl, k => by unfold VR at k ⊢; obtain ⟨u, h1, h2⟩ := k; exact ⟨u, h1, VR.agr h (by simpa [V.lt] using hl) h2⟩
  | .agg xs, v, hl, k => by unfold VR at k ⊢; obtain ⟨vs, h1, h2⟩ := k; exact ⟨vs, h1, VRs.agr h (by simpa [V.lt] using hl) h2⟩
  | .tup xs, v, hl, k => by unfold VR at k ⊢; obtain ⟨vs, h1, h2⟩ := k; exact ⟨vs, h1, VRs.agr h (by simpa [V.lt] using hl) h2⟩
theorem VRs.agr {n : Nat} {C C' : Cx} (h : Agr n C C') : ∀ {xs : List V} {vs : List Value}, V.ltL n xs = true → VRs C xs vs → VRs C' xs vs
  | [], _, _, k => by unfold VRs at k ⊢; exact k
  | x :: xs, vs, hl, k => by
    simp only [V.ltL, Bool.and_eq_true] at hl
    unfold VRs at k ⊢
    obtain ⟨v, r, e, h1, h2⟩ := k
    exact ⟨v, r, e, VR.agr h hl.1 h1, VRs.agr h hl.2 h2⟩
end
section
variable {P : Program} {k : Nat} {fr : List V} {σ : List Ob} {w0 : Bs} {w w' : World} {lent : Nat → Prop} {C C' : Cx}
theorem Ent.wk {fr' : List V} (h : WkL fr fr') : Ent k fr σ fr' σ := fun w0 lent C w a R hf hk => ⟨C, R, WkL.ok h hf, hk, .refl _ _⟩
theorem Ent.rfl' : Ent k fr σ fr σ := fun w0 lent C w a R hf hk => ⟨C, R, hf, hk, .refl _ _⟩
theorem Ent.trans {fr1 fr2 : List V} {σ1 σ2 : List Ob} (h : Ent k fr σ fr1 σ1) (j : Ent k fr1 σ1 fr2 σ2) : Ent k fr σ fr2 σ2 := fun w0 lent C w a R hf hk => by
  obtain ⟨C1, R1, hf1, hk1, h1⟩ := h w0 lent C w a R hf hk
  obtain ⟨C2, R2, hf2, hk2, h2⟩ := j w0 lent C1 w a R1 hf1 hk1
  exact ⟨C2, R2, hf2, hk2, h1.trans h2⟩
theorem ltL_d {n : Nat} {α : Type} {f : α → D} : ∀ l : List α, V.ltL n (l.map fun e => V.d (f e)) = true
  | [] => rfl
  | e :: l => by simp [V.ltL, V.lt, ltL_d l]
/-- The first n things alone. -/
theorem Rel.take (R : Rel w0 lent C σ w) (n : Nat) (hn : n ≤ σ.length) (h : (σ.take n).all (Ob.lt n) = true) : ∃ C', Rel w0 lent C' (σ.take n) w ∧ Agr n C C' ∧ C'.G = C.G ∧ LeK n C C' := by
  have hρ : ∀ i, i < n → (C.ρ.take n)[i]? = C.ρ[i]? := fun i hi => by rw [List.getElem?_take, if_pos hi]
  have ha : Agr n C { C with ρ := C.ρ.take n } := ⟨GC.le_refl _, hρ, fun _ _ => rfl⟩
  have hget : ∀ (i : Nat) (o : Ob), (σ.take n)[i]? = some o → i < n ∧ σ[i]? = some o ∧ o.lt n = true := fun i o hi => by
    have hm := List.mem_of_getElem? hi
    rw [List.getElem?_take] at hi
    split at hi
    · exact ⟨by assumption, hi, List.all_eq_true.1 h o hm⟩
    · cases hi
  have hblk : ∀ (i : Nat) (o : Ob), i < n → blockOf { C with ρ := C.ρ.take n } i o = blockOf C i o := fun i o hi => by
    cases o <;> first | (simp only [blockOf, hρ i hi]; done) | simp [blockOf]
  refine ⟨{ C with ρ := C.ρ.take n }, ⟨by simp [R.len], R.ro, fun i o hi => ?_, fun i j oi oj b hi hj hb hb' => ?_, fun i o b hi hb => ?_, R.keep, R.size, R.os, R.tape, R.output, R.gh⟩, ha, rfl, ⟨GC.le_refl _, fun i b hi hb => (hρ i hi).trans hb, fun c m u _ hm _ => ⟨m, u, hm, .inl ⟨rfl, rfl⟩⟩, fun c hc hx => by rw [← hρ c hc]; exact hx⟩⟩
  · obtain ⟨hin, hi, hlt⟩ := hget i o hi
    have h1 := R.obs i o hi
    cases o with
    | dead => exact h1
    | fresh => exact ⟨(hρ i hin).trans h1.1, h1.2⟩
    | cells t vs =>
      obtain ⟨h0, b, cs, k1, k2, k3, k4, k5⟩ := h1
      exact ⟨h0, b, cs, (hρ i hin).trans k1, k2, k3.agr ha hlt, k4, k5⟩
    | cap t q m =>
      obtain ⟨h0, u, cs, k1, k2, k3⟩ := h1
      exact ⟨by simp only; rw [hρ i hin]; exact h0, u, cs, k1, k2, k3⟩
    | grw t q m n' vs =>
      obtain ⟨h0, u, xs, k1, k2, k3, k4⟩ := h1
      exact ⟨by simp only; rw [hρ i hin]; exact h0, u, xs, k1, k2, k3.agr ha hlt, k4⟩
    | mp es clock =>
      obtain ⟨h0, b, l, k1, k2, k3, k5⟩ := h1
      refine ⟨h0, b, l, (hρ i hin).trans k1, k2, ⟨k3.1.agr ha ?_, k3.2.1.agr ha hlt, k3.2.2⟩, k5⟩
      exact ltL_d _
    | mq es => cases hlt
    | tick m q => cases hlt
  · obtain ⟨hin, hi, _⟩ := hget i oi hi
    obtain ⟨hjn, hj, _⟩ := hget j oj hj
    rw [hblk i oi hin] at hb
    rw [hblk j oj hjn] at hb'
    exact R.sep i j oi oj b hi hj hb hb'
  · obtain ⟨hin, hi, _⟩ := hget i o hi
    rw [hblk i o hin] at hb
    exact R.new i o b hi hb
theorem LeK.mono {k n : Nat} (h : LeK n C C') (hk : k ≤ n) : LeK k C C' := ⟨h.G, fun i b hi => h.ρ i b (by omega), fun c m u hc => h.cur c m u (by omega), fun c hc => h.st c (by omega)⟩
/-- What is behind the first n names is forgotten. -/
theorem Ent.take {n : Nat} (hk : k ≤ n) (hn : n ≤ σ.length) (ho : (σ.take n).all (Ob.lt n) = true) (hf : V.ltL n fr = true) : Ent k fr σ fr (σ.take n) := fun w0 lent C w a R hfr _ => by
  obtain ⟨C', R', ha, _, hle⟩ := R.take n hn ho
  exact ⟨C', R', VRs.agr ha hf hfr, by simp; omega, hle.mono hk⟩
/-! ### Functions -/
def callOK (P : Program) (g : FuncId) : Bool := match P.funcs[g]? with
  | some fn => fn.name != "runtime.NumGoroutine" && fn.body.isSome
  | none => false
def lentB (C : Cx) (σ : List Ob) : Nat → Prop := fun b => ∃ i o, σ[i]? = some o ∧ blockOf C i o = some b
/-- f, handed args and the things σ, answers r and leaves the things so. -/
structure Fn (P : Program) (f : FuncId) (args : List V) (σ : List Ob) (r : V) (σ' : List Ob) : Prop where
  ok : callOK P f = true
  len : σ.length ≤ σ'.length
  run : ∀ (C : Cx) (w : World) (vals : List Value), Rel ⟨w, C.G⟩ (lentB C σ) C σ w → VRs C args vals → Calls P f vals.toArray w fun e w' => ∃ C' u, e = .returned u ∧ Rel ⟨w, C.G⟩ (lentB C σ) C' σ' w' ∧ LeK σ.length C C' ∧ VR C' r u
/-- A call's step. -/
structure CStep (P : Program) (g : FuncId) (vs : List V) (rd : List (Nat × Ob)) (v : V) (wr : List (Nat × Ob)) : Prop where
  ok : callOK P g = true
  run : ∀ (w0 : Bs) (lent : Nat → Prop) (C : Cx) (σ : List Ob) (w : World) (vals : List Value), Rel w0 lent C σ w → VRs C vs vals → (∀ p ∈ rd, σ[p.1]? = some p.2) →
    Calls P g vals.toArray w fun e w' => ∃ C' u, e = .returned u ∧ Rel w0 lent C' (upd σ wr) w' ∧ C.le C' ∧ VR C' v u
def calleeV (ev : Operand → V) (c : Call) : Option (FuncId × List V) :=
  match c.callee with
  | .value f => (match ev f with
    | .fn (.func g) fs caps => some (g, fs ++ c.args.toList.map ev ++ caps)
    | _ => none)
  | _ => none
theorem callFunc_run {g : FuncId} (h : callOK P g = true) (args : Array Value) (w : World) : (callFunc g args).run P w = .ok (.enter g args) w := by
  unfold callOK at h
  split at h
  · rename_i fn hfn
    simp only [Bool.and_eq_true, bne_iff_ne, ne_eq] at h
    obtain ⟨h1, h2⟩ := h
    have h3 : fn.body.isNone = false := by cases hb : fn.body <;> simp_all
    unfold callFunc
    have h4 : ¬ fn.body = none := by intro e; rw [e] at h2; cases h2
    simp [hfn, h1, h4]
  · cases h
theorem CStep.step {o : Oper} {c : Call} {ev : Operand → V} {g : FuncId} {vs : List V} {rd wr : List (Nat × Ob)} {v : V} (h : CStep P g vs rd v wr) (ho : o.op = .call c) (hc : calleeV ev c = some (g, vs)) : LStep P o ev rd v wr := by
  intro w0 lent C σ w a R hx hrd K Q hK
  unfold calleeV at hc
  split at hc
  · rename_i f hf
    split at hc
    · rename_i g' fs caps hg
      injection hc with hc
      injection hc with h1 h2
      subst h1; subst h2
      have hfv := hx f (by simp [ho, Op.operands, Call.operands, hf])
      rw [hg] at hfv
      unfold VR at hfv
      obtain ⟨ts, us, hfe, hts, hus⟩ := hfv
      have hargs : VRs C (c.args.toList.map ev) (c.args.toList.map a.eval) := VRs.of (by simp) fun i x v h1 h2 => by
        rw [List.getElem?_map] at h1 h2
        cases hci : c.args.toList[i]? with
        | none => rw [hci] at h1; cases h1
        | some y =>
          rw [hci] at h1 h2
          injection h1 with h1; injection h2 with h2
          subst h1; subst h2
          refine hx y ?_
          simp only [ho, Op.operands, Call.operands, hf]
          have := List.mem_of_getElem? hci
          simp at this ⊢
          exact .inr this
      have hcall := h.run w0 lent C σ w _ R ((hts.append hargs).append hus) hrd
      have hrun : (execOp a.eval o).run P w = .ok (.enter g' (ts ++ (c.args.toList.map a.eval) ++ us).toArray) w := by
        have he : ts.toArray ++ c.args.map a.eval ++ us.toArray = (ts ++ (c.args.toList.map a.eval) ++ us).toArray := by
          apply Array.ext'
          simp
        rw [← he]
        simp [execOp, ho, resolve, hf, hfe, Deferred.ofValue, invoke, callFunc_run h.ok]
      unfold Oper.wp
      rw [hrun, Oper.upon_enter]
      refine hcall.mono fun e w' ⟨C', u, he, R', hle, hv⟩ => ?_
      subst he
      exact hK C' w' u R' hle hv
    · cases hc
  · cases hc
variable {T : Tb P} {all : List Oper} {nms : List Nat} {o : Oper} {r : List Oper} {nw : Nat} {tr : List (List Nat × List Nat)} {K : List V → List Ob → List (List Nat × List Nat) → Prop}
theorem RR.call {c : Call} {g : FuncId} {vs : List V} {rd wr : List (Nat × Ob)} {v : V} (hg : wantedV all fr o = some true) (ho : o.op = .call c) (hc : calleeV (evF fr) c = some (g, vs)) (hs : CStep P g vs rd v wr) (hw : ∀ p ∈ wr, ∃ q ∈ rd, q.1 = p.1) (hr : ∀ p ∈ rd, σ[p.1]? = some p.2)
    (h : RR P T all nms r (nw + resv o.op) (setD fr o.dst v) (upd σ wr) (tr ++ [(rd.map (·.1), wr.map (·.1))]) K) : RR P T all nms (o :: r) nw fr σ tr K := by
  obtain ⟨trs, fr', σ', h1, h2⟩ := h
  exact ⟨⟨v, rd, wr⟩ :: trs, fr', σ', .step hg (hs.step ho hc) hw hr h1, by simpa [Tr.tch] using h2⟩
/-- A function that is handed data alone, and answers data. -/
theorem CStep.pure {g : FuncId} {vs args : List V} {v : V} (h : Fn P g args [] v []) (hw : WkL vs args) (ha : V.ltL 0 args = true) (hv : v.lt 0 = true) : CStep P g vs [] v [] := by
  refine ⟨h.ok, fun w0 lent C σ w vals R hvs _ => ?_⟩
  let C0 : Cx := { G := C.G, ρ := [], cur := fun _ => none }
  have h0 : VRs C0 args vals := VRs.agr (C := C) (C' := C0) (n := 0) ⟨GC.le_refl _, fun i hi => by omega, fun i hi => by omega⟩ ha (WkL.ok hw hvs)
  have R0 : Rel ⟨w, C.G⟩ (lentB C0 []) C0 [] w := ⟨rfl, R.ro, fun i o hi => by simp at hi, fun i j oi oj b hi => by simp at hi, fun i o b hi => by simp at hi, fun _ _ _ => rfl, Nat.le_refl _, rfl, rfl, rfl, fun _ _ _ _ => rfl⟩
  refine (h.run C0 w vals R0 h0).mono fun e w' ⟨C', u, he, R', hle, hu⟩ => ?_
  have hnl : ∀ b, ¬ lentB C0 [] b := fun b ⟨i, o, hi, _⟩ => by simp at hi
  have hheap : ∀ b, b < w.heap.size → w'.heap[b]? = w.heap[b]? := fun b hb => R'.keep b hb (hnl b)
  let C1 : Cx := { C with G := C'.G }
  have hle1 : C.le C1 := Cx.addG_le hle.G
  have R1 : Rel w0 lent C σ w' := R.same hheap R'.size R'.os R'.tape R'.output
  refine ⟨C1, u, he, ⟨R1.len, R'.ro, fun i o hi => ?_, fun i j oi oj b hi hj hb hb' => R1.sep i j oi oj b hi hj (by cases oi <;> exact hb) (by cases oj <;> exact hb'), fun i o b hi hb => R1.new i o b hi (by cases o <;> exact hb), R1.keep, R1.size, R1.os, R1.tape, R1.output, fun b o hb hl => ?_⟩, hle1, VR.agr (C := C') (C' := C1) (n := 0) ⟨GC.le_refl _, fun i hi => by omega, fun i hi => by omega⟩ hv hu⟩
  · have h1 := R1.obs i o hi
    have hG : ∀ b, blockOf C i o = some b → ∀ q, C'.G b q = C.G b q := fun b hb q => R'.gh b q ((R.obs i o hi).lt hb) (hnl b)
    cases o with
    | dead => exact h1
    | fresh => exact h1
    | cells t vs =>
      obtain ⟨h0, b, cs, k1, k2, k3, k4, k5⟩ := h1
      exact ⟨h0, b, cs, k1, k2, k3.mono hle1, k4, fun q => (hG b (by simp [blockOf, k1]) q).trans (k5 q)⟩
    | cap t q n =>
      obtain ⟨h0, u, cs, k1, k2, k3⟩ := h1
      exact ⟨h0, u, cs, k1, k2, fun b hb p hp => (hG b (by simp [blockOf, k1, hb]) p).trans (k3 b hb p hp)⟩
    | grw t q k n vs =>
      obtain ⟨h0, u, xs, k1, k2, k3, k4⟩ := h1
      exact ⟨h0, u, xs, k1, k2, k3.mono hle1, fun b hb p => (hG b (by simp [blockOf, k1, hb]) p).trans (k4 b hb p)⟩
    | mp es clock =>
      obtain ⟨h0, b, l, k1, k2, k3, k5⟩ := h1
      exact ⟨h0, b, l, k1, k2, k3.mono hle1, fun q => (hG b (by simp [blockOf, k1]) q).trans (k5 q)⟩
    | mq es =>
      obtain ⟨b, l, c, n, k1, h0, k2, k3, k5⟩ := h1
      exact ⟨b, l, c, n, k1, h0, k2, k3.mono hle1, fun q => (hG b (by simp [blockOf, k1]) q).trans (k5 q)⟩
    | tick m q => exact h1
  · show C'.G b o = w0.G b o
    have hb2 : b < w.heap.size := Nat.lt_of_lt_of_le hb R.size
    rw [R'.gh b o hb2 (hnl b)]
    exact R.gh b o hb hl
/-! ### Results -/
def resV (T : Tb P) (fr : List V) (σ : List Ob) : ResultVar → Option V
  | .tmp t => some (fr.getD t .any)
  | .cell a t => (match fr.getD a .any with
    | .ptr i off => (match σ[i]? with
      | some (.cells _ vs) => (match (T.ty t).inf.agg with
        | some true => if off + (T.ty t).n ≤ vs.length then some (.agg ((vs.drop off).take (T.ty t).n)) else none
        | some false => if off < vs.length then some (vs.getD off .any) else none
        | none => none)
      | _ => none)
    | _ => none)
def resVs (T : Tb P) (fr : List V) (σ : List Ob) : List ResultVar → Option (List V)
  | [] => some []
  | r :: rs => (match resV T fr σ r, resVs T fr σ rs with | some v, some vs => some (v :: vs) | _, _ => none)
theorem resV_ok (R : Rel w0 lent C σ w) {tmps : Array Value} (hf : FrR C fr tmps) : ∀ {rs : List ResultVar} {vs : List V}, resVs T fr σ rs = some vs → ∃ us, Sl.ResV P w tmps rs us ∧ VRs C vs us
  | [], vs, h => by simp only [resVs, Option.some.injEq] at h; subst h; exact ⟨[], .nil, .nil⟩
  | .tmp t :: rs, vs, h => by
    simp only [resVs] at h
    split at h
    · rename_i v vs' h1 h2
      injection h with h; subst h
      obtain ⟨us, h3, h4⟩ := resV_ok R hf h2
      simp only [resV, Option.some.injEq] at h1
      subst h1
      exact ⟨_, .tmp rfl h3, .cons (evF_ok (a := ⟨tmps, []⟩) hf (.tmp t)) h4⟩
    · cases h
  | .cell p t :: rs, vs, h => by
    simp only [resVs] at h
    split at h
    · rename_i v vs' h1 h2
      injection h with h; subst h
      obtain ⟨us, h3, h4⟩ := resV_ok R hf h2
      simp only [resV] at h1
      split at h1
      · rename_i i off hp
        have hpv := evF_ok (a := ⟨tmps, []⟩) hf (.tmp p)
        have hp' : evF fr (.tmp p) = .ptr i off := hp
        rw [hp'] at hpv
        unfold VR at hpv
        obtain ⟨b, hb, he⟩ := hpv
        have he' : tmps.getD p undef = .pointer (some ⟨b, off, none⟩) := he
        split at h1
        · rename_i ct ws hσ
          obtain ⟨b', cs, k1, k2, k3, k4, k5⟩ := R.cellAt hσ
          rw [hb] at k1; injection k1 with k1; injection k1 with k1; subst k1
          split at h1
          · rename_i hag
            split at h1
            · rename_i hle
              injection h1 with h1; subst h1
              have S := T.spec (t := t) rfl (by intro e; rw [e] at hag; cases hag)
              have hl : ((cs.drop off).take (T.ty t).n).length = (T.ty t).n := by have := k2.length; simp; omega
              refine ⟨_, .cell he' (v := .agg ((cs.drop off).take (T.ty t).n).toArray) ?_ h3, .cons (by unfold VR; exact ⟨_, rfl, (k2.drop _).take _⟩) h4⟩
              have h5 := run_loadCells_list (P := P) w ⟨b, off, none⟩ ((cs.drop off).take (T.ty t).n) (fun j v hv => by
                rw [add_at]
                rw [List.getElem?_take] at hv
                split at hv
                · rw [List.getElem?_drop] at hv; exact k5 _ _ hv
                · cases hv)
              rw [hl] at h5
              simp [loadVar, S.isAgg hag, sizeOf_run S.size, h5]
            · cases h1
          · rename_i hag
            split at h1
            · rename_i hlt
              injection h1 with h1; subst h1
              have S := T.spec (t := t) rfl (by intro e; rw [e] at hag; cases hag)
              obtain ⟨u, h5, h6⟩ := k2.get (List.getElem?_eq_getElem hlt)
              refine ⟨u :: us, .cell he' (v := u) ?_ h3, .cons (by simpa [List.getD, hlt] using h6) h4⟩
              simp [loadVar, S.isAgg hag, k5 _ _ h5]
            · cases h1
          · cases h1
        · cases h1
      · cases h1
    · cases h
def oneRes : List V → V
  | [v] => v
  | vs => .tup vs
/-- What is to be shown at a function's end. -/
def RetQ (T : Tb P) (rs : List ResultVar) (rv : V) (σ' : List Ob) : Post := fun ex fr1 σ1 => (ex = .ret ∨ ex = .normal) ∧ ∃ vs, resVs T fr1 σ1 rs = some vs ∧ Wk (oneRes vs) rv ∧ rv.lt σ'.length = true ∧ σ'.length ≤ σ1.length ∧ σ1.take σ'.length = σ' ∧ σ'.all (Ob.lt σ'.length) = true
/-- A function, entered. -/
theorem Fn.enter (T : Tb P) {f : FuncId} {fn : Func} {c : Code} {args : List V} {rv : V} {σ' : List Ob} (hf : P.funcs[f]? = some fn) (hb : fn.body = some c) (hn : (fn.name != "runtime.NumGoroutine") = true) (hl : σ.length ≤ σ'.length)
    (h : W P σ.length c (args ++ List.replicate (fn.ntmps - args.length) .any) σ (RetQ T fn.results.toList rv σ')) : Fn P f args σ rv σ' := by
  refine ⟨by unfold callOK; rw [hf]; simp [hn, hb], hl, fun C w vals R hv => ?_⟩
  refine calls_of_wp hf hb ?_
  have hfr : FrR C (args ++ List.replicate (fn.ntmps - args.length) .any) (vals.toArray ++ Array.replicate (fn.ntmps - vals.toArray.size) undef) := by
    unfold FrR
    rw [Array.toList_append, Array.toList_replicate]
    refine VRs.append (by simpa using hv) ?_
    rw [List.size_toArray, hv.length]
    exact vrs_any (by simp)
  refine wp_mono (h _ _ C w _ R hfr rfl (Nat.le_refl _)) fun e a' w' ⟨C', fr1, σ1, ⟨he, vs, h1, h2, h3, h4, h5, h6⟩, R', hf', hd, hk, hle⟩ => ?_
  obtain ⟨us, hres, hus⟩ := resV_ok (T := T) R' hf' h1
  have hrun := Sl.results_run (P := P) (w := w') (fn := fn) (tmps := a'.tmps) (rs := fn.results.toList) (by simp) hres
  obtain ⟨C2, R2, ha, hG, hle2⟩ := R'.take σ'.length h4 (by rw [h5]; exact h6)
  rw [h5] at R2
  have hval : ∃ u, (results fn a'.tmps).run P w' = .ok u w' ∧ VR C' (oneRes vs) u := by
    refine ⟨_, hrun, ?_⟩
    have hl2 := hus.length
    match vs, us, hus, hl2 with
    | [v], [u], hus, _ => unfold VRs at hus; obtain ⟨v', r', e1, e2, _⟩ := hus; injection e1 with e1; subst e1; simpa [oneRes] using e2
    | [], [], hus, _ => simp [oneRes]; unfold VR; exact ⟨[], rfl, hus⟩
    | v1 :: v2 :: vs, u1 :: u2 :: us, hus, _ => simp [oneRes]; unfold VR; exact ⟨_, rfl, hus⟩
  obtain ⟨u, hr, hu⟩ := hval
  have hfin : ∃ C'' u', (Ending.returned u) = .returned u' ∧ Rel ⟨w, C.G⟩ (lentB C σ) C'' σ' w' ∧ LeK σ.length C C'' ∧ VR C'' rv u' := ⟨C2, u, rfl, R2, hle.trans (hle2.mono hl), VR.agr ha h3 (h2.ok hu)⟩
  rcases he with rfl | rfl
  · exact ⟨hd, u, hr, hfin⟩
  · exact ⟨hd, u, hr, hfin⟩
end
end Go.Proofs.Ytgebfcdcpmmgnaa.Vs
