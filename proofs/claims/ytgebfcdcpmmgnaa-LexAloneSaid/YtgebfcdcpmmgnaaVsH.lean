/- Named things: made, read, written; structs put together. -/
import Derived.Test.YtgebfcdcpmmgnaaVsG
set_option linter.unusedVariables false
set_option linter.unusedSimpArgs false
namespace Go.Proofs.Ytgebfcdcpmmgnaa.Vs
open Go.RowKit
section
variable {P : Program} {o : Oper} {ev : Operand → V} {K : V → Prop}
/-! ### Structs put together -/
def V.part : V → Option (List V)
  | .agg vs => some vs
  | v => if v.one then some [v] else none
def spl {α : Type} (cells : List α) (off : Nat) (vs : List α) : List α := cells.take off ++ vs ++ cells.drop (off + vs.length)
def fillV (place : Nat → Option (Nat × Nat)) (cells : List V) : List (Nat × V) → Option (List V)
  | [] => some cells
  | (i, v) :: rest => match place i, v.part with
    | some (off, size), some vs => if vs.length = size ∧ off + size ≤ cells.length then fillV place (spl cells off vs) rest else none
    | _, _ => none
theorem part_ok {C : Cx} {v : V} {vs : List V} {u : Value} (h : v.part = some vs) (hv : VR C v u) : VRs C vs u.cells.toList := by
  unfold V.part at h
  split at h
  · injection h with h
    subst h
    unfold VR at hv
    obtain ⟨us, rfl, hv⟩ := hv
    simpa [Value.cells] using hv
  · split at h
    · rename_i hone
      injection h with h
      subst h
      rw [(one_ok hone hv).2]
      exact .cons hv .nil
    · cases h
theorem foldl_spl (off : Nat) : ∀ (v : List Value) (k : Nat) (cells : Array Value), off + k + v.length ≤ cells.size → ((v.zipIdx k).foldl (fun cs p => cs.setIfInBounds (off + p.2) p.1) cells).toList = cells.toList.take (off + k) ++ v ++ cells.toList.drop (off + k + v.length)
  | [], k, cells, _ => by simp
  | x :: xs, k, cells, h => by
    simp only [List.zipIdx_cons, List.foldl_cons]
    simp only [List.length_cons] at h
    rw [foldl_spl off xs (k + 1) _ (by simp; omega)]
    have hl : off + k < cells.toList.length := by simp; omega
    have h1 : (cells.toList.set (off + k) x).take (off + (k + 1)) = cells.toList.take (off + k) ++ [x] := by
      rw [show off + (k + 1) = off + k + 1 by omega, List.take_add_one, List.take_set_of_le (Nat.le_refl _), List.getElem?_set_self hl]
      rfl
    have h2 : (cells.toList.set (off + k) x).drop (off + (k + 1) + xs.length) = cells.toList.drop (off + k + (xs.length + 1)) := by
      rw [List.drop_set_of_lt (by omega)]
      congr 1; omega
    simp only [Array.toList_setIfInBounds, h1, h2, List.length_cons]
    simp
theorem spl_ok {C : Cx} {cells vs : List V} {cs us : List Value} (h : VRs C cells cs) (hv : VRs C vs us) (off : Nat) : VRs C (spl cells off vs) (spl cs off us) := by
  unfold spl
  rw [hv.length]
  exact ((h.take _).append hv).append (h.drop _)
theorem fill_ok {C : Cx} {place : Nat → Option (Nat × Nat)} : ∀ {parts : List (Nat × V)} {ps : List (Nat × Value)} {cells : List V} {cs : Array Value} {out : List V}, fillV place cells parts = some out → VRs C cells cs.toList → ps.length = parts.length → (∀ (j : Nat) (p : Nat × V) (q : Nat × Value), parts[j]? = some p → ps[j]? = some q → p.1 = q.1 ∧ VR C p.2 q.2) → ∃ os, Instr.fill place cs ps = some os ∧ VRs C out os.toList
  | [], [], cells, cs, out, h, hc, _, _ => by
    simp only [fillV, Option.some.injEq] at h
    subst h
    exact ⟨cs, rfl, hc⟩
  | [], _ :: _, _, _, _, _, _, hl, _ => by simp at hl
  | _ :: _, [], _, _, _, _, _, hl, _ => by simp at hl
  | (i, v) :: parts, (i', u) :: ps, cells, cs, out, h, hc, hl, hp => by
    obtain ⟨rfl, hv⟩ := hp 0 (i, v) (i', u) rfl rfl
    simp only at hv
    simp only [fillV] at h
    split at h
    · rename_i off size vs h1 h2
      split at h
      · rename_i h3
        have hvs := part_ok h2 hv
        have hsz : u.cells.size = size := by rw [← h3.1, ← hvs.length]; simp
        have hcs : cs.size = cells.length := by rw [← hc.length]; simp
        have hfold : (u.cells.zipIdx.foldl (fun cs (p : Value × Nat) => cs.setIfInBounds (off + p.2) p.1) cs).toList = spl cs.toList off u.cells.toList := by
          have := foldl_spl off u.cells.toList 0 cs (by simp; omega)
          simp only [Nat.add_zero] at this
          rw [← Array.foldl_toList, Array.toList_zipIdx]
          exact this
        obtain ⟨os, h5, h6⟩ := fill_ok (cs := u.cells.zipIdx.foldl (fun cs (p : Value × Nat) => cs.setIfInBounds (off + p.2) p.1) cs) h (by rw [hfold]; exact spl_ok hc hvs off) (by simpa using hl) (fun j p q hj hq => hp (j + 1) p q (by simpa using hj) (by simpa using hq))
        refine ⟨os, ?_, h6⟩
        unfold Instr.fill
        simp only [h1]
        rw [if_neg (by simp [hsz]; omega)]
        exact h5
      · cases h
    · cases h
def zeroV (T : Tb P) (t : Nat) : List V := (T.ty t).z.map .d
theorem zero_run {T : Tb P} {t : Nat} (ht : (T.ty t).inf ≠ .un) (hz : (T.ty t).z ≠ []) (C : Cx) : ∃ z, (∀ w, (zeroValue t).run P w = .ok z w) ∧ VRs C (zeroV T t) z.cells.toList ∧ ∀ v ∈ z.cells.toList, v.oneCell' = true := by
  obtain ⟨i, z, hi, hzz, he⟩ := (T.spec rfl ht).zero hz
  have h1 := eqDs_ok (G := C.G) he
  exact ⟨z, fun w => by simp [zeroValue, typeInfo, hi, hzz], dagg_vrs h1, h1.one⟩
/-- Zeros; rows are nil. -/
def zN : D → V
  | .sl _ [] => .nil
  | x => .d x
def zeroN (T : Tb P) (t : Nat) : List V := (T.ty t).z.map zN
theorem zN_ok {C : Cx} {x : D} {v : Value} (h : eqD x v = true) : VR C (zN x) v := by
  have h1 := eqD_ok (G := C.G) h
  unfold zN
  split
  · unfold eqD at h
    split at h <;> first | cases h | skip
    all_goals first | (rename_i hx; cases hx; done) | (rename_i hx _; cases hx; done) | skip
    unfold VR; rfl
  · unfold VR; exact h1
theorem zN_vrs {C : Cx} : ∀ {xs : List D} {vs : List Value}, eqDs xs vs = true → VRs C (xs.map zN) vs
  | [], [], _ => by unfold VRs; rfl
  | [], _ :: _, h => by simp [eqDs] at h
  | _ :: _, [], h => by simp [eqDs] at h
  | x :: xs, v :: vs, h => by
    simp only [eqDs, Bool.and_eq_true] at h
    exact .cons (zN_ok h.1) (zN_vrs h.2)
theorem zeroN_run {T : Tb P} {t : Nat} (ht : (T.ty t).inf ≠ .un) (hz : (T.ty t).z ≠ []) (C : Cx) : ∃ z, (∀ w, (zeroValue t).run P w = .ok z w) ∧ VRs C (zeroN T t) z.cells.toList ∧ ∀ v ∈ z.cells.toList, v.oneCell' = true := by
  obtain ⟨i, z, hi, hzz, he⟩ := (T.spec rfl ht).zero hz
  have h1 := eqDs_ok (G := C.G) he
  exact ⟨z, fun w => by simp [zeroValue, typeInfo, hi, hzz], zN_vrs he, h1.one⟩
def buildV (T : Tb P) (t : Nat) (parts : List (Nat × V)) (K : V → Prop) : Prop :=
  (T.ty t).z ≠ [] ∧ (match (T.ty t).inf with
  | .st fs => (match fillV (fun i => (fs[i]?).map fun f => (f.1, f.2.1)) (zeroN T t) parts with
    | some cells => K (.agg cells)
    | none => False)
  | .arr _ q _ => (match fillV (fun i => some (i * q, q)) (zeroN T t) parts with
    | some cells => K (.agg cells)
    | none => False)
  | _ => False)
/-- The parts of a literal. -/
def partsV (ev : Operand → V) (parts : Array (Nat × Operand)) : List (Nat × V) := parts.toList.map fun p => (p.1, ev p.2)
theorem partsV_ok {parts : Array (Nat × Operand)} {C : Cx} {a : Act} (hx : ∀ x ∈ parts.toList.map (·.2), VR C (ev x) (a.eval x)) : (parts.map fun (i, x) => (i, a.eval x)).toList.length = (partsV ev parts).length ∧ ∀ (j : Nat) (p : Nat × V) (q : Nat × Value), (partsV ev parts)[j]? = some p → (parts.map fun (i, x) => (i, a.eval x)).toList[j]? = some q → p.1 = q.1 ∧ VR C p.2 q.2 := by
  refine ⟨by simp [partsV], fun j p q hp hq => ?_⟩
  unfold partsV at hp
  rw [List.getElem?_map] at hp
  rw [Array.toList_map, List.getElem?_map] at hq
  cases hj : parts.toList[j]? with
  | none => rw [hj] at hp; cases hp
  | some x =>
    rw [hj] at hp hq
    injection hp with hp; injection hq with hq
    subst hp; subst hq
    exact ⟨rfl, hx x.2 (List.mem_map.2 ⟨x, List.mem_of_getElem? hj, rfl⟩)⟩
theorem fields_places {fields : Array Field} {fs : List (Nat × Nat × Bool)} (h : fields.toList.map (fun f => (f.offset, ((P.info? f.type).map (·.size)).getD 0, (match P.underlying f.type with | some (.struct _) | some (.array _ _) => true | _ => false))) = fs) (hall : fields.all (fun f => (P.underlying f.type).isSome) = true) (w : World) :
    (fields.mapM fun f => do pure (f.offset, ← sizeOf f.type) : Sem _).run P w = .ok (fs.map fun f => (f.1, f.2.1)).toArray w := by
  have key : ∀ l : List Field, (∀ f ∈ l, (P.underlying f.type).isSome) → (l.mapM fun f => do pure (f.offset, ← sizeOf f.type) : Sem _).run P w = .ok (l.map fun f => (f.offset, ((P.info? f.type).map (·.size)).getD 0)) w := by
    intro l
    induction l with
    | nil => intro _; simp
    | cons f l ih =>
      intro hl
      have h1 := hl f (by simp)
      have h2 : ∃ i, P.info? f.type = some i := by
        unfold Program.underlying at h1
        cases hi : P.info? f.type with
        | none => rw [hi] at h1; simp at h1
        | some i => exact ⟨i, rfl⟩
      obtain ⟨i, hi⟩ := h2
      have h3 := ih (fun g hg => hl g (by simp [hg]))
      have h4 : (sizeOf f.type).run P w = .ok i.size w := sizeOf_run (by rw [hi]; rfl) w
      rw [List.mapM_cons]
      simp only [Sem.run_bind, h4, h3, Result.andThen_ok, Sem.run_pure, List.map_cons, hi, Option.map_some, Option.getD_some]
  have hm : (fields.mapM fun f => do pure (f.offset, ← sizeOf f.type) : Sem (Array (Nat × Nat))) = (do let l ← (fields.toList.mapM fun f => do pure (f.offset, ← sizeOf f.type)); pure l.toArray) := by
    rw [Array.mapM_eq_mapM_toList]
    rfl
  rw [hm, Sem.run_bind, key _ (fun f hf => by
    have := Array.all_eq_true'.1 hall f (by simpa using hf)
    exact this)]
  simp only [Result.andThen_ok, Sem.run_pure]
  rw [← h]
  simp [List.map_map, Function.comp_def]
theorem build_ok {T : Tb P} {t : Nat} {parts : Array (Nat × Operand)} (ho : o.op = .build t parts) (h : buildV T t (partsV ev parts) K) : ∃ v, K v ∧ YL P o ev v := by
  have h0 : ∀ (C : Cx) (a : Act), (∀ x ∈ o.op.operands.toList, VR C (ev x) (a.eval x)) → (∀ x ∈ parts.toList.map (·.2), VR C (ev x) (a.eval x)) := fun C a hx x hm => hx x (by simpa [ho, Op.operands] using hm)
  obtain ⟨hz, h⟩ := h
  have hun : (T.ty t).inf ≠ .un := by intro e; rw [e] at h; exact h
  split at h
  · rename_i fs hs
    obtain ⟨d, hd, hk⟩ := inf_of T hs (by simp)
    cases d <;> simp only [infOK, Bool.false_eq_true] at hk
    rename_i fields
    simp only [Bool.and_eq_true, beq_iff_eq] at hk
    split at h
    · rename_i cells hf
      refine ⟨_, h, fun C w a _ hx => ?_⟩
      obtain ⟨z, hz1, hz2, _⟩ := zeroN_run hun hz C
      obtain ⟨hl, hp⟩ := partsV_ok (h0 C a hx)
      obtain ⟨os, h1, h2⟩ := fill_ok (cs := z.cells) hf hz2 hl hp
      refine ⟨.agg os, ?_, by unfold VR; exact ⟨os.toList, by simp, h2⟩⟩
      have h3 := fields_places (P := P) hk.1 hk.2 w
      have h4 : (fun i : Nat => (fs.map fun (f : Nat × Nat × Bool) => (f.1, f.2.1)).toArray[i]?) = (fun i : Nat => (fs[i]?).map fun (f : Nat × Nat × Bool) => (f.1, f.2.1)) := by
        funext i; simp
      simp only [execOp, ho, Instr.build, Sem.run_bind, hz1, Result.andThen_ok, run_underlying hd, h3, h4]
      rw [h1]
      rfl
    · exact h.elim
  · rename_i e q n hs
    obtain ⟨hu, _, hq⟩ := inf_arr T hs
    split at h
    · rename_i cells hf
      refine ⟨_, h, fun C w a _ hx => ?_⟩
      obtain ⟨z, hz1, hz2, _⟩ := zeroN_run hun hz C
      obtain ⟨hl, hp⟩ := partsV_ok (h0 C a hx)
      obtain ⟨os, h1, h2⟩ := fill_ok (cs := z.cells) hf hz2 hl hp
      refine ⟨.agg os, ?_, by unfold VR; exact ⟨os.toList, by simp, h2⟩⟩
      simp only [execOp, ho, Instr.build, Sem.run_bind, hz1, Result.andThen_ok, run_underlying hu, sizeOf_run hq]
      rw [h1]
      rfl
    · exact h.elim
  · exact h.elim
def fieldV (T : Tb P) (s : Nat) (x : V) (f : Nat) (K : V → Prop) : Prop :=
  match (T.ty s).inf, x with
  | .st fs, .agg vs => (match fs[f]? with
    | some (off, sz, true) => sz ≠ 0 ∧ off + sz ≤ vs.length ∧ K (.agg ((vs.drop off).take sz))
    | some (off, _, false) => off < vs.length ∧ K (vs.getD off .any)
    | none => False)
  | _, _ => False
theorem field_ok {T : Tb P} {s f : Nat} {x : Operand} (ho : o.op = .field s x f) (h : fieldV T s (ev x) f K) : ∃ v, K v ∧ YL P o ev v := by
  have h0 : ∀ (C : Cx) (a : Act), (∀ x ∈ o.op.operands.toList, VR C (ev x) (a.eval x)) → VR C (ev x) (a.eval x) := fun C a hx => hx x (by simp [ho, Op.operands])
  unfold fieldV at h
  split at h
  · rename_i fs vs hs hx'
    obtain ⟨fields, hu, hall⟩ := inf_st T hs
    split at h
    · rename_i off sz hf
      obtain ⟨hz, hb, h⟩ := h
      obtain ⟨fd, h1, h2, h3, h4⟩ := hall f off sz true hf
      refine ⟨_, h, fun C w a _ hx => ?_⟩
      have h5 := h0 C a hx; rw [hx'] at h5; unfold VR at h5
      obtain ⟨us, e1, hv⟩ := h5
      refine ⟨.agg ((us.drop off).take sz).toArray, ?_, by unfold VR; exact ⟨_, rfl, (hv.drop _).take _⟩⟩
      have h6 : us.toArray.extract off (off + sz) = ((us.drop off).take sz).toArray := by
        apply Array.ext'
        simp [Array.toList_extract]
      simp [execOp, ho, e1, Instr.field, run_underlying hu, h1, asAgg, part, h4, sizeOf_run (info_size h3 hz), h2, h6]
    · rename_i off sz hf
      obtain ⟨hb, h⟩ := h
      obtain ⟨fd, h1, h2, h3, h4⟩ := hall f off sz false hf
      refine ⟨_, h, fun C w a _ hx => ?_⟩
      have h5 := h0 C a hx; rw [hx'] at h5; unfold VR at h5
      obtain ⟨us, e1, hv⟩ := h5
      obtain ⟨u, h6, h7⟩ := hv.get (List.getElem?_eq_getElem hb)
      refine ⟨u, ?_, by simpa [List.getD, hb] using h7⟩
      simp [execOp, ho, e1, Instr.field, run_underlying hu, h1, asAgg, part, h4, h2, h6]
    · exact h.elim
  · exact h.elim
end
end Go.Proofs.Ytgebfcdcpmmgnaa.Vs
