/- Named things: made, read, written. -/
import Derived.Test.YtgebfcdcpmmgnaaVsH
set_option linter.unusedVariables false
set_option linter.unusedSimpArgs false
namespace Go.Proofs.Ytgebfcdcpmmgnaa.Vs
open Go.RowKit
section
variable {P : Program} {o : Oper} {ev : Operand → V} {w0 : Bs} {w w' : World} {lent : Nat → Prop} {C C' : Cx} {σ : List Ob}
theorem Rel.noG (R : Rel w0 lent C σ w) (b : Nat) (hb : w.heap.size ≤ b) (k : Nat) : C.G b k = none := by
  cases h : C.G b k with
  | none => rfl
  | some v =>
    have := World.block_lt_of_cell? w _ (R.ro b k v h)
    simp at this; omega
theorem put_le {i : Nat} {b : Option Nat} {c : Option (Nat × Value)} {G : GC} (hG : C.G.le G) (hf : C.ρ[i]? = some none) (hb : b ≠ none) : C.le { G := G, ρ := C.ρ.set i b, cur := fun j => if j = i then c else C.cur j } := by
  have hil : i < C.ρ.length := (List.getElem?_eq_some_iff.1 hf).1
  refine ⟨hG, fun j k hj => ?_, by simp, fun j n u hj hn hne => ?_, fun j hj hl => ?_⟩
  · by_cases e : i = j
    · subst e; rw [hf] at hj; cases hj
    · rw [List.getElem?_set_ne e]; exact hj
  · by_cases e : j = i
    · subst e; exact absurd hf hne
    · simp only [e, if_false] at hn
      exact ⟨n, u, hn, .inl ⟨rfl, rfl⟩⟩
  · by_cases e : i = j
    · subst e
      rw [List.getElem?_set_self hil] at hj
      exact absurd (Option.some.inj hj) hb
    · rw [List.getElem?_set_ne e] at hj; exact hj
/-- A new block of cells. -/
theorem Rel.alloc (R : Rel w0 lent C σ w) {i : Nat} (hi : σ[i]? = some .fresh) {t : TypeId} {cs : Array Value} {vs : List V} (hv : VRs C vs cs.toList) (h1 : ∀ v ∈ cs.toList, v.oneCell' = true) :
    ∃ C', Rel w0 lent C' (σ.set i (.cells t vs)) (w.alloc (.cells cs t (0, 0))) ∧ C.le C' ∧ C'.ρ[i]? = some (some w.heap.size) := by
  obtain ⟨hf, hc⟩ := R.obs i _ hi
  have hil : i < C.ρ.length := (List.getElem?_eq_some_iff.1 hf).1
  have hle : C.le { G := C.G, ρ := C.ρ.set i (some w.heap.size), cur := fun j => if j = i then none else C.cur j } := put_le (GC.le_refl _) hf (by simp)
  have hget : (C.ρ.set i (some w.heap.size))[i]? = some (some w.heap.size) := List.getElem?_set_self hil
  refine ⟨_, R.step hi ⟨hle, by simp, fun j hj => by simp only; rw [List.getElem?_set_ne (fun e => hj e.symm)], fun j hj => by simp [hj], fun b hb _ => Below.heap_alloc w _ b hb, fun b k v h => ?_, fun _ _ _ _ => rfl, ?_, fun b hb => ?_, by simp, rfl, rfl, rfl⟩, hle, hget⟩
  · rw [World.cell?_of_block (Below.heap_alloc w _ b (World.block_lt_of_cell? w _ (R.ro b k v h)))]
    exact R.ro b k v h
  · exact ⟨by simp, w.heap.size, cs, hget, heap_alloc_new w _, hv.mono hle, h1, fun k => R.noG _ (Nat.le_refl _) k⟩
  · simp only [blockOf, hget, Option.join_some, Option.some.injEq] at hb
    exact .inr (by omega)
def allocV (T : Tb P) (t nw : Nat) (K : V → List (Nat × Ob) → List (Nat × Ob) → Prop) : Prop :=
  (T.ty t).inf ≠ .un ∧ (T.ty t).z ≠ [] ∧ K (.ptr nw 0) [(nw, .fresh)] [(nw, .cells t (zeroN T t))]
theorem alloc_ok {T : Tb P} {t nw : Nat} {K : V → List (Nat × Ob) → List (Nat × Ob) → Prop} (ho : o.op = .alloc t) (h : allocV T t nw K) (hnw : σ[nw]? = some .fresh) : ∃ v rd wr, K v rd wr ∧ LStep P o ev rd v wr ∧ (∀ p ∈ wr, ∃ q ∈ rd, q.1 = p.1) ∧ ∀ p ∈ rd, σ[p.1]? = some p.2 := by
  obtain ⟨hun, hz, h⟩ := h
  refine ⟨_, _, _, h, fun w0 lent C σ w a R hx hrd K Q hK => ?_, by simp, by simpa using hnw⟩
  obtain ⟨z, hz1, hz2, hz3⟩ := zeroN_run hun hz C
  obtain ⟨C', R', hle, hr⟩ := R.alloc (hrd (nw, .fresh) (by simp)) (t := t) hz2 hz3
  unfold Oper.wp
  have hrun : (execOp a.eval o).run P w = .ok (.value (.pointer (some ⟨w.heap.size, 0, none⟩))) (w.alloc (.cells z.cells t (0, 0))) := by
    simp [execOp, ho, Instr.alloc, hz1, newVar, newRow]
  rw [hrun]
  exact hK _ _ _ R' hle (by unfold VR; exact ⟨_, hr, rfl⟩)
def boxV (T : Tb P) (t nw : Nat) (x : V) (K : V → List (Nat × Ob) → List (Nat × Ob) → Prop) : Prop :=
  match x.part with
  | some vs => vs.all V.one = true ∧ K (.ptr nw 0) [(nw, .fresh)] [(nw, .cells t vs)]
  | none => False
theorem all_one {vs : List V} (h : vs.all V.one = true) {us : List Value} (hv : VRs C vs us) : ∀ u ∈ us, u.oneCell' = true := fun u hu => by
  obtain ⟨i, hi, rfl⟩ := List.mem_iff_getElem.1 hu
  have hl : i < vs.length := by rw [← hv.length]; exact hi
  obtain ⟨u, h1, h2⟩ := hv.get (List.getElem?_eq_getElem hl)
  rw [List.getElem?_eq_getElem hi] at h1
  injection h1 with h1
  rw [h1]
  exact (one_ok (List.all_eq_true.1 h _ (List.getElem_mem hl)) h2).1
theorem box_ok {T : Tb P} {t nw : Nat} {x : Operand} {K : V → List (Nat × Ob) → List (Nat × Ob) → Prop} (ho : o.op = .box t x) (h : boxV T t nw (ev x) K) (hnw : σ[nw]? = some .fresh) : ∃ v rd wr, K v rd wr ∧ LStep P o ev rd v wr ∧ (∀ p ∈ wr, ∃ q ∈ rd, q.1 = p.1) ∧ ∀ p ∈ rd, σ[p.1]? = some p.2 := by
  unfold boxV at h
  split at h
  · rename_i vs hvs
    obtain ⟨h1, h⟩ := h
    refine ⟨_, _, _, h, fun w0 lent C σ w a R hx hrd K Q hK => ?_, by simp, by simpa using hnw⟩
    have hv := part_ok hvs (hx x (by simp [ho, Op.operands]))
    obtain ⟨C', R', hle, hr⟩ := R.alloc (hrd (nw, .fresh) (by simp)) (t := t) hv (all_one h1 hv)
    unfold Oper.wp
    have hrun : (execOp a.eval o).run P w = .ok (.value (.pointer (some ⟨w.heap.size, 0, none⟩))) (w.alloc (.cells (a.eval x).cells t (0, 0))) := by
      simp [execOp, ho, Instr.box, newVar, newRow]
    rw [hrun]
    exact hK _ _ _ R' hle (by unfold VR; exact ⟨_, hr, rfl⟩)
  · exact h.elim
/-- A load out of a named block. -/
def loadV (T : Tb P) (t : Nat) (x : V) (σ : List Ob) (K : V → List (Nat × Ob) → List (Nat × Ob) → Prop) : Prop :=
  match x with
  | .ptr i off => (match σ[i]? with
    | some (.cells ct vs) => (match (T.ty t).inf.agg with
      | some true => off + (T.ty t).n ≤ vs.length ∧ K (.agg ((vs.drop off).take (T.ty t).n)) [(i, .cells ct vs)] []
      | some false => off < vs.length ∧ K (vs.getD off (.d ((T.ty t).z.getD 0 .nilp))) [(i, .cells ct vs)] []
      | none => False)
    | _ => False)
  | x => loadElV T t x fun v => K v [] []
theorem Rel.cellAt (R : Rel w0 lent C σ w) {i : Nat} {t : TypeId} {vs : List V} (hi : σ[i]? = some (.cells t vs)) : ∃ b cs, C.ρ[i]? = some (some b) ∧ VRs C vs cs ∧ (∀ v ∈ cs, v.oneCell' = true) ∧ w.heap[b]? = some (.cells cs.toArray t (0, 0)) ∧ ∀ (j : Nat) (v : Value), cs[j]? = some v → w.cell? ⟨b, j, none⟩ = some v := by
  obtain ⟨_, b, cs, h1, h2, h3, h4, h5⟩ := R.obs i _ hi
  exact ⟨b, cs.toList, h1, h3, h4, by simpa using h2, fun j v hv => by simp [World.cell?, h2]; simpa using hv⟩
theorem load_ok {T : Tb P} {t : Nat} {x : Operand} {K : V → List (Nat × Ob) → List (Nat × Ob) → Prop} (ho : o.op = .load t x) (h : loadV T t (ev x) σ K) : ∃ v rd wr, K v rd wr ∧ LStep P o ev rd v wr ∧ (∀ p ∈ wr, ∃ q ∈ rd, q.1 = p.1) ∧ ∀ p ∈ rd, σ[p.1]? = some p.2 := by
  unfold loadV at h
  split at h
  · rename_i i off hx'
    split at h
    · rename_i ct vs hσ
      split at h
      · rename_i hag
        obtain ⟨hb, h⟩ := h
        refine ⟨_, _, _, h, fun w0 lent C σ w a R hx hrd K Q hK => ?_, by simp, by simpa using hσ⟩
        obtain ⟨b, cs, h1, h2, h3, _, h4⟩ := R.cellAt (hrd (i, .cells ct vs) (by simp))
        have h5 := hx x (by simp [ho, Op.operands]); rw [hx'] at h5; unfold VR at h5
        obtain ⟨b', h6, e1⟩ := h5
        rw [h1] at h6; injection h6 with h6; injection h6 with h6; subst h6
        have S := T.spec (t := t) rfl (by intro e; rw [e] at hag; cases hag)
        have hl : ((cs.drop off).take (T.ty t).n).length = (T.ty t).n := by have := h2.length; simp; omega
        have hrun := Sl.run_load_agg (P := P) (w := w) (vs := (cs.drop off).take (T.ty t).n) ho e1 (S.isAgg hag w) (by rw [hl]; exact S.size) (fun j v hv => by
          rw [add_at]
          rw [List.getElem?_take] at hv
          split at hv
          · rw [List.getElem?_drop] at hv; exact h4 _ _ hv
          · cases hv)
        unfold Oper.wp
        rw [hrun]
        exact hK C w _ R (Cx.le_refl C) (by unfold VR; exact ⟨_, rfl, (h2.drop _).take _⟩)
      · rename_i hag
        obtain ⟨hb, h⟩ := h
        refine ⟨_, _, _, h, fun w0 lent C σ w a R hx hrd K Q hK => ?_, by simp, by simpa using hσ⟩
        obtain ⟨b, cs, h1, h2, h3, _, h4⟩ := R.cellAt (hrd (i, .cells ct vs) (by simp))
        have h5 := hx x (by simp [ho, Op.operands]); rw [hx'] at h5; unfold VR at h5
        obtain ⟨b', h6, e1⟩ := h5
        rw [h1] at h6; injection h6 with h6; injection h6 with h6; subst h6
        have S := T.spec (t := t) rfl (by intro e; rw [e] at hag; cases hag)
        obtain ⟨u, h7, h8⟩ := h2.get (List.getElem?_eq_getElem hb)
        have hrun := Sl.run_load_at (P := P) (w := w) ho e1 (S.isAgg hag w) (h4 _ _ h7)
        unfold Oper.wp
        rw [hrun]
        exact hK C w _ R (Cx.le_refl C) (by simpa [List.getD, hb] using h8)
      · exact h.elim
    · exact h.elim
  · obtain ⟨v, hK, hy⟩ := loadEl_ok ho h
    exact ⟨v, [], [], hK, hy.step, by simp, by simp⟩
/-- Writing into a named block. -/
theorem Rel.write (R : Rel w0 lent C σ w) {i b : Nat} {t : TypeId} {vs vs' : List V} {cs' : List Value} (hi : σ[i]? = some (.cells t vs)) (hb : C.ρ[i]? = some (some b)) (hv : VRs C vs' cs') (h1 : ∀ v ∈ cs', v.oneCell' = true) :
    Rel w0 lent C (σ.set i (.cells t vs')) (w.setRow b cs'.toArray) := by
  obtain ⟨h0, b', cs, k1, k2, k3, k4, k5⟩ := R.obs i _ hi
  rw [hb] at k1; injection k1 with k1; injection k1 with k1; subst k1
  have hblk : blockOf C i (.cells t vs) = some b := by simp [blockOf, hb]
  have hoth : ∀ k, k ≠ b → (w.setRow b cs'.toArray).heap[k]? = w.heap[k]? := fun k hk => setRow_other w b k _ hk
  refine R.step hi ⟨Cx.le_refl C, rfl, fun _ _ => rfl, fun _ _ => rfl, fun k hk hne => hoth k (fun e => hne (by rw [hblk, e])), fun k q v h => ?_, fun _ _ _ _ => rfl, ?_, fun k hk => .inl (by simpa [blockOf] using hk), by simp [World.setRow], rfl, rfl, rfl⟩
  · have hk : k ≠ b := fun e => by subst e; rw [k5] at h; cases h
    rw [World.cell?_of_block (hoth k hk)]
    exact R.ro k q v h
  · exact ⟨h0, b, cs'.toArray, hb, setRow_heap w b cs _ t _ k2, by simpa using hv, by simpa using h1, k5⟩
def storeV (T : Tb P) (t : Nat) (p x : V) (σ : List Ob) (K : V → List (Nat × Ob) → List (Nat × Ob) → Prop) : Prop :=
  match p with
  | .ptr i off => (match σ[i]? with
    | some (.cells ct vs) => (match (T.ty t).inf.agg, x with
      | some true, .agg us => us.length = (T.ty t).n ∧ us.all V.one = true ∧ off + us.length ≤ vs.length ∧ K .any [(i, .cells ct vs)] [(i, .cells ct (spl vs off us))]
      | some false, x => (T.ty t).n = 1 ∧ x.one = true ∧ off < vs.length ∧ K .any [(i, .cells ct vs)] [(i, .cells ct (vs.set off x))]
      | _, _ => False)
    | _ => False)
  | _ => False
theorem setCell_row {b : Nat} {t : TypeId} {cs : List Value} (h : w.heap[b]? = some (.cells cs.toArray t (0, 0))) (off : Nat) (v : Value) : w.setCell ⟨b, off, none⟩ v = w.setRow b (cs.set off v).toArray := by
  unfold World.setCell World.setRow
  congr 1
  apply Array.ext_getElem?
  intro k
  simp only [Array.getElem?_modify]
  split
  · rename_i hk
    subst hk
    rw [h]
    simp
  · rfl
theorem store_ok {T : Tb P} {t : Nat} {p x : Operand} {K : V → List (Nat × Ob) → List (Nat × Ob) → Prop} (ho : o.op = .store t p x) (h : storeV T t (ev p) (ev x) σ K) : ∃ v rd wr, K v rd wr ∧ LStep P o ev rd v wr ∧ (∀ p ∈ wr, ∃ q ∈ rd, q.1 = p.1) ∧ ∀ p ∈ rd, σ[p.1]? = some p.2 := by
  unfold storeV at h
  split at h
  · rename_i i off hp'
    split at h
    · rename_i ct vs hσ
      split at h
      · rename_i us hag hx'
        obtain ⟨hn, hone, hb, h⟩ := h
        refine ⟨_, _, _, h, fun w0 lent C σ w a R hx hrd K Q hK => ?_, by simp, by simpa using hσ⟩
        have hi := hrd (i, .cells ct vs) (by simp)
        obtain ⟨b, cs, h1, h2, h3, h4, _⟩ := R.cellAt hi
        have h5 := hx p (by simp [ho, Op.operands]); rw [hp'] at h5; unfold VR at h5
        obtain ⟨b', h6, e1⟩ := h5
        rw [h1] at h6; injection h6 with h6; injection h6 with h6; subst h6
        have h7 := hx x (by simp [ho, Op.operands]); rw [hx'] at h7; unfold VR at h7
        obtain ⟨ws, e2, h8⟩ := h7
        have hwone := all_one hone h8
        have S := T.spec (t := t) rfl (by intro e; rw [e] at hag; cases hag)
        have hr := run_storeCells_at (P := P) b off ct ws 0 cs.toArray w h4 (by have := h2.length; have := h8.length; simp; omega) (fun v hv => hwone v hv)
        simp only [Nat.add_zero] at hr
        have R' := R.write hi h1 (spl_ok h2 h8 off) (fun v hv => by
          unfold spl at hv
          simp only [List.mem_append] at hv
          rcases hv with (hv | hv) | hv
          · exact h3 v (List.mem_of_mem_take hv)
          · exact hwone v hv
          · exact h3 v (List.mem_of_mem_drop hv))
        have hrun : (execOp a.eval o).run P w = .ok .skip (w.setRow b (spl cs off ws).toArray) := by
          simp [execOp, ho, e1, e2, Instr.storeAt, Instr.sureAddr, storeVar, Value.cells, sizeOf_run S.size, ← hn, h8.length, hr, spl]
        unfold Oper.wp
        rw [hrun]
        exact hK C _ _ R' (Cx.le_refl C) (VR.any' _ _)
      · rename_i hag
        obtain ⟨hn, hone, hb, h⟩ := h
        refine ⟨_, _, _, h, fun w0 lent C σ w a R hx hrd K Q hK => ?_, by simp, by simpa using hσ⟩
        have hi := hrd (i, .cells ct vs) (by simp)
        obtain ⟨b, cs, h1, h2, h3, h4, h4'⟩ := R.cellAt hi
        have h5 := hx p (by simp [ho, Op.operands]); rw [hp'] at h5; unfold VR at h5
        obtain ⟨b', h6, e1⟩ := h5
        rw [h1] at h6; injection h6 with h6; injection h6 with h6; subst h6
        have h7 := hx x (by simp [ho, Op.operands])
        obtain ⟨hu1, _⟩ := one_ok hone h7
        have S := T.spec (t := t) rfl (by intro e; rw [e] at hag; cases hag)
        have hcl : off < cs.length := by rw [h2.length]; exact hb
        have hrun : (execOp a.eval o).run P w = .ok .skip (w.setCell ⟨b, off, none⟩ (a.eval x)) :=
          Sl.run_store_at (P := P) ho e1 rfl hu1 (by rw [S.size, hn]) (h4' off _ (List.getElem?_eq_getElem hcl)) (by simp [World.frozen?, h4])
        rw [setCell_row h4] at hrun
        have R' := R.write hi h1 (h2.set (i := off) h7) (fun v hv => by
          rcases List.mem_or_eq_of_mem_set hv with hv | hv
          · exact h3 v hv
          · rw [hv]; exact hu1)
        unfold Oper.wp
        rw [hrun]
        exact hK C _ _ R' (Cx.le_refl C) (VR.any' _ _)
      · exact h.elim
    · exact h.elim
  · exact h.elim
end
end Go.Proofs.Ytgebfcdcpmmgnaa.Vs
