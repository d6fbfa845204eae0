/- One operation, whatever it is; a row of operations. -/
import Derived.Test.YtgebfcdcpmmgnaaVsKg
set_option linter.unusedVariables false
set_option linter.unusedSimpArgs false
namespace Go.Proofs.Ytgebfcdcpmmgnaa.Vs
open Go.RowKit
section
variable {P : Program} {o : Oper} {ev : Operand → V} {C : Cx} {σ : List Ob}
abbrev pureK (K : KK) : V → Prop := fun v => K v [] []
def isHd (nm : Bool) : V → Bool
  | .hd .. | .z0 => true
  | .nil => nm
  | .row _ _ l c => nm && (l == 0 && c == 0)
  | _ => false
def isMap : V → Bool
  | .map _ => true
  | _ => false
def isEp : V → Bool
  | .ep .. => true
  | _ => false
def isHdr : V → Bool
  | .hd .. => true
  | _ => false
def callB (T : Tb P) (f : Callee) (args : List Operand) (ts : List TypeId) (ev : Operand → V) (σ : List Ob) (nw : Nat) (nm : Bool) (K : KK) : Prop :=
  match f, args, ts with
  | .builtin .len, [x], [t] => if isMap (ev x) then lenMapV T t (ev x) σ K else lenV T t (ev x) (pureK K)
  | .builtin .append, [s, x], [t, u] => if t = u then (if isHd nm (ev s) then appendHV T t (ev s) (ev x) σ nw K else appendV T t (ev s) (ev x) σ nw K) else appendZV T t u (ev s) (ev x) σ nw K
  | .builtin .delete, [m, k], [t, _] => deleteV T t (ev m) (ev k) σ K
  | .builtin .min, [x, y], _ => minV (ev x) (ev y) (pureK K)
  | _, _, _ => False
def opV (T : Tb P) (op : Op) (ev : Operand → V) (σ : List Ob) (nw : Nat) (nm : Bool) (K : KK) : Prop :=
  match op with
  | .move x => K (ev x) [] []
  | .assign x => K (ev x) [] []
  | .pick c a b => pickV (ev c) (ev a) (ev b) (pureK K)
  | .alloc t => σ[nw]? = some .fresh ∧ allocV T t nw K
  | .box t x => σ[nw]? = some .fresh ∧ boxV T t nw (ev x) K
  | .build t ps => buildV T t (partsV ev ps) (pureK K)
  | .buildSlice t n ps => σ[nw]? = some .fresh ∧ buildSliceV T t n (partsV ev ps) nm nw K
  | .load t x => if isEp (ev x) then loadEpV T t (ev x) σ K else loadV T t (ev x) σ K
  | .store t p x => if isEp (ev p) then storeEpV T t (ev p) (ev x) σ K else storeV T t (ev p) (ev x) σ K
  | .makeMap t r => σ[nw]? = some .fresh ∧ (if nm then makeMqV T t (r.map ev) nw K else makeMapV T t (r.map ev) nw K)
  | .lookup t x k ok => if isQ (ev x) σ then lookupQV T t (ev x) (ev k) ok σ K else lookupV T t (ev x) (ev k) ok σ K
  | .mapUpdate t m k x => updateV T t (ev m) (ev k) (ev x) σ K
  | .insert t m k x => if isQ (ev m) σ then insertV T t (ev m) (ev k) (ev x) σ nw K else updateV T t (ev m) (ev k) (ev x) σ K
  | .nilCheck x => nilCheckV (ev x) (pureK K)
  | .binOp op t x y _ => (match (T.ty t).inf with
    | .arr e _ _ => (match (T.ty e).inf with
      | .int .u8 => eqArr T op t (ev x) (ev y) (pureK K)
      | _ => eqArrI T op t (ev x) (ev y) (pureK K))
    | _ => binV T op t (ev x) (ev y) (pureK K))
  | .sliceToArrayPointer t x => arrayAtV T t (ev x) (pureK K)
  | .makeSlice t l c => σ[nw]? = some .fresh ∧ makeSliceV T t (ev l) (ev c) nm nw K
  | .unOp op _ x => unV op (ev x) (pureK K)
  | .convert s d x => (match (T.ty d).inf with
    | .sl .. => convSlV T s d (ev x) σ K
    | _ => convV T s d (ev x) (pureK K))
  | .slice t x lo hi none => if isHdr (ev x) then sliceHdV T t (ev x) (lo.map ev) (hi.map ev) σ K else sliceV T t (ev x) (lo.map ev) (hi.map ev) (pureK K)
  | .slice t x lo (some hi) (some mx) => if lo.isNone && isZ hi && isZ mx then slice0V T t (ev x) (pureK K) else slice3V T t (ev x) (lo.map ev) (ev hi) (ev mx) (pureK K)
  | .fieldAddr s x f => fieldAddrV T s (ev x) f (pureK K)
  | .field s x f => fieldV T s (ev x) f (pureK K)
  | .indexAddr t x i => indexAddrV T t (ev x) (ev i) (pureK K)
  | .index t x i => indexV T t (ev x) (ev i) (pureK K)
  | .extract x i => extractV (ev x) i (pureK K)
  | .makeFunc f fs caps => K (.fn f (fs.toList.map ev) (caps.toList.map ev)) [] []
  | .makeInterface t x => ifaceV T t (ev x) (pureK K)
  | .call c => (match c.callee, c.args.toList with
    | .builtin .append, s :: _ => (needNew (ev s) = true → σ[nw]? = some .fresh) ∧ callB T c.callee c.args.toList c.argTypes.toList ev σ nw nm K
    | .builtin _, _ => callB T c.callee c.args.toList c.argTypes.toList ev σ nw nm K
    | _, _ => False)
  | _ => False
/-- It yields v, having read rd, and leaves wr. -/
def OpOK (P : Program) (o : Oper) (ev : Operand → V) (σ : List Ob) (K : KK) : Prop :=
  ∃ v rd wr, K v rd wr ∧ LStep P o ev rd v wr ∧ (∀ p ∈ wr, ∃ q ∈ rd, q.1 = p.1) ∧ ∀ p ∈ rd, σ[p.1]? = some p.2
theorem OpOK.pure {K : KK} (h : ∃ v, pureK K v ∧ YL P o ev v) : OpOK P o ev σ K := by
  obtain ⟨v, h1, h2⟩ := h
  exact ⟨v, [], [], h1, h2.step, by simp, by simp⟩
theorem call_shape {c : Call} {b : Builtin} {xs : List Operand} {ts : List TypeId} (h1 : c.callee = .builtin b) (h2 : c.args.toList = xs) (h3 : c.argTypes.toList = ts) : c = { callee := .builtin b, args := xs.toArray, argTypes := ts.toArray } := by
  obtain ⟨f, a, t⟩ := c
  simp only at h1 h2 h3
  subst h1; subst h2; subst h3
  rfl
theorem callB_ok {T : Tb P} {c : Call} {nw : Nat} {nm : Bool} {K : KK} (ho : o.op = .call c) (h : callB T c.callee c.args.toList c.argTypes.toList ev σ nw nm K) (hn : ∀ s l, c.args.toList = s :: l → c.callee = .builtin .append → needNew (ev s) = true → σ[nw]? = some .fresh) : OpOK P o ev σ K := by
  have st : (∃ v rd wr, K v rd wr ∧ LStep P o ev rd v wr ∧ (∀ p ∈ wr, ∃ q ∈ rd, q.1 = p.1) ∧ ∀ p ∈ rd, σ[p.1]? = some p.2) → OpOK P o ev σ K := fun ⟨v, rd, wr, h4, h5, h6, h7⟩ => ⟨v, rd, wr, h4, h5, h6, h7⟩
  unfold callB at h
  split at h
  · rename_i x t h1 h2 h3
    split at h
    · exact st (lenMap_ok (by rw [ho, call_shape h1 h2 h3]) h)
    · exact .pure (len_ok (by rw [ho, call_shape h1 h2 h3]) h)
  · rename_i s x t u h1 h2 h3
    split at h
    · rename_i e
      subst e
      split at h
      · refine st (appendH_ok (by rw [ho, call_shape h1 h2 h3]) h (fun hs => hn s [x] h2 h1 ?_))
        split at hs
        · rename_i hs'; rw [hs']; rfl
        · rename_i hs'; rw [hs']; rfl
        · rename_i hs'; rw [hs']; rfl
        · exact hs.elim
      · exact st (append_ok (by rw [ho, call_shape h1 h2 h3]) h (fun hs => hn s [x] h2 h1 hs))
    · exact st (appendZ_ok (by rw [ho, call_shape h1 h2 h3]) h (fun hs => hn s [x] h2 h1 (by rw [hs]; rfl)))
  · rename_i m k t t2 h1 h2 h3
    exact st (delete_ok (by rw [ho, call_shape h1 h2 h3]) h)
  · rename_i x y ts h1 h2
    exact .pure (min_ok (ts := c.argTypes) (by rw [ho]; obtain ⟨f, a, t⟩ := c; simp only at h1 h2; subst h1; congr 1; congr 1; exact Array.ext' h2) h)
  · exact h.elim
theorem opV_ok {T : Tb P} {nw : Nat} {nm : Bool} {K : KK} (h : opV T o.op ev σ nw nm K) : OpOK P o ev σ K := by
  unfold opV at h
  split at h <;> rename_i ho
  · exact .pure ⟨_, h, yl_move (.inl ho)⟩
  · exact .pure ⟨_, h, yl_move (.inr ho)⟩
  · exact .pure (pick_ok ho h)
  · exact alloc_ok ho h.2 h.1
  · exact box_ok (T := T) ho h.2 h.1
  · exact .pure (build_ok ho h)
  · exact buildSlice_ok ho h.2 h.1
  · split at h
    · exact loadEp_ok ho h
    · exact load_ok ho h
  · split at h
    · exact storeEp_ok ho h
    · exact store_ok ho h
  · obtain ⟨h1, h⟩ := h
    split at h
    · exact makeMq_ok ho h h1
    · exact makeMap_ok ho h h1
  · split at h
    · exact lookupQ_ok ho h
    · exact lookup_ok ho h
  · exact update_ok (.inl ho) h
  · split at h
    · exact insertQ_ok ho h
    · exact update_ok (.inr ho) h
  · exact .pure (nilCheck_ok ho h)
  · split at h
    · split at h
      · exact .pure (eqArr_ok ho h)
      · exact .pure (eqArrI_ok ho h)
    · exact .pure (bin_ok ho h)
  · exact .pure (arrayAt_ok ho h)
  · exact makeSlice_ok ho h.2 h.1
  · exact .pure (un_ok ho h)
  · split at h
    · exact convSl_ok ho h
    · exact .pure (conv_ok ho h)
  · split at h
    · exact sliceHd_ok ho h
    · exact .pure (slice_ok ho h)
  · split at h
    · rename_i t x lo hi mx hz
      simp only [Bool.and_eq_true, Option.isNone_iff_eq_none] at hz
      obtain ⟨⟨rfl, h1⟩, h2⟩ := hz
      exact .pure (slice0_ok ho h1 h2 h)
    · exact .pure (slice3_ok ho h)
  · exact .pure (fieldAddr_ok ho h)
  · exact .pure (field_ok ho h)
  · exact .pure (indexAddr_ok ho h)
  · exact .pure (index_ok ho h)
  · exact .pure (extract_ok ho h)
  · exact .pure (makeFunc_ok ho h)
  · exact .pure (makeInterface_ok ho h)
  · split at h
    · rename_i s l hc hl
      exact callB_ok ho h.2 (fun s' l' hl' _ hs' => by
        rw [hl] at hl'
        injection hl' with e1 e2
        subst e1
        exact h.1 hs')
    · rename_i hc
      exact callB_ok ho h (fun s' l' hl' hc' hs' => by simp_all)
    · exact h.elim
  · exact h.elim
/-! ### A row of operations -/
def slotOf (all : List Oper) (j : Nat) : Option Tmp := (all[j]?).bind (·.dst)
def setD (fr : List V) (dst : Option Tmp) (v : V) : List V := match dst with | some d => fr.set d v | none => fr
/-- Is it carried out? -/
def wantedV (all : List Oper) (fr : List V) (o : Oper) : Option Bool :=
  match o.guard with
  | none => some true
  | some (j, want) => (match slotOf all j with
    | some s => (match fr.getD s .any with | .d (.bool b) => some (b == want) | .tup [] => some false | _ => none)
    | none => none)
theorem wantedV_ok {all : Array Oper} {fr : List V} {tmps : Array Value} {b : Bool} (h : wantedV all.toList fr o = some b) (hf : FrR C fr tmps) : Region.wanted o (yielded all tmps) = b := by
  unfold wantedV at h
  unfold Region.wanted
  split at h
  · rename_i hg; rw [hg]; simpa using h
  · rename_i j want hg
    rw [hg]
    simp only
    split at h
    · rename_i s hs
      split at h
      · rename_i b' hb
        injection h with h
        subst h
        have hs' : (all[j]?).bind (·.dst) = some s := by simpa [slotOf] using hs
        rw [List.getD_eq_getElem?_getD] at hb
        cases hx : fr[s]? with
        | none => rw [hx] at hb; cases hb
        | some v =>
          rw [hx] at hb
          simp only [Option.getD_some] at hb
          subst hb
          obtain ⟨u, h1, h2⟩ := VRs.get hf hx
          have h3 := vr_bool h2
          subst h3
          have h4 : tmps[s]? = some (.bool b') := by simpa using h1
          unfold yielded
          simp [hs', h4]
      · rename_i hb
        injection h with h
        subst h
        have hs' : (all[j]?).bind (·.dst) = some s := by simpa [slotOf] using hs
        rw [List.getD_eq_getElem?_getD] at hb
        cases hx : fr[s]? with
        | none => rw [hx] at hb; cases hb
        | some v =>
          rw [hx] at hb
          simp only [Option.getD_some] at hb
          subst hb
          obtain ⟨u, h1, h2⟩ := VRs.get hf hx
          unfold VR at h2
          obtain ⟨us, rfl, h3⟩ := h2
          unfold VRs at h3
          subst h3
          have h4 : tmps[s]? = some (.tuple #[]) := by simpa using h1
          unfold yielded
          simp [hs', h4]
      · cases h
    · cases h
theorem vr_undef (C : Cx) : VR C (.tup []) undef := by unfold VR; exact ⟨[], rfl, .nil⟩
structure Tr where
  v : V
  rd : List (Nat × Ob)
  wr : List (Nat × Ob)
inductive Run (P : Program) (all : List Oper) : List Oper → List V → List Ob → List Tr → List V → List Ob → Prop
  | nil {fr σ} : Run P all [] fr σ [] fr σ
  | skip {o r fr σ trs fr' σ'} (h : wantedV all fr o = some false) (t : Run P all r (setD fr o.dst (.tup [])) σ trs fr' σ') : Run P all (o :: r) fr σ (⟨.tup [], [], []⟩ :: trs) fr' σ'
  | step {o r fr σ trs fr' σ' v rd wr} (h : wantedV all fr o = some true) (hs : LStep P o (evF fr) rd v wr) (hw : ∀ p ∈ wr, ∃ q ∈ rd, q.1 = p.1) (hr : ∀ p ∈ rd, σ[p.1]? = some p.2) (t : Run P all r (setD fr o.dst v) (upd σ wr) trs fr' σ') : Run P all (o :: r) fr σ (⟨v, rd, wr⟩ :: trs) fr' σ'
/-- Which things are read, and written. -/
def Tr.tch (t : Tr) : List Nat × List Nat := (t.rd.map (·.1), t.wr.map (·.1))
/-- What is to be shown of the operations that are left. -/
def RR (P : Program) (T : Tb P) (all : List Oper) (nms : List Nat) (r : List Oper) (nw : Nat) (fr : List V) (σ : List Ob) (tr : List (List Nat × List Nat)) (K : List V → List Ob → List (List Nat × List Nat) → Prop) : Prop :=
  ∃ trs fr' σ', Run P all r fr σ trs fr' σ' ∧ K fr' σ' (tr ++ trs.map Tr.tch)
def nmOf (nms : List Nat) (dst : Option Tmp) : Bool := match dst with | some d => nms.contains d | none => false
/-- How many names an operation may need. -/
def resv : Op → Nat
  | .alloc _ | .box _ _ | .buildSlice .. | .makeSlice .. | .makeMap .. | .insert .. => 1
  | .call c => (match c.callee with | .builtin .append => 1 | _ => 0)
  | _ => 0
variable {T : Tb P} {all : List Oper} {nms : List Nat} {r : List Oper} {nw : Nat} {fr : List V} {tr : List (List Nat × List Nat)} {K : List V → List Ob → List (List Nat × List Nat) → Prop}
theorem RR.nil (h : K fr σ tr) : RR P T all nms [] nw fr σ tr K := ⟨[], fr, σ, .nil, by simpa using h⟩
theorem RR.op (hg : wantedV all fr o = some true) (h : opV T o.op (evF fr) σ nw (nmOf nms o.dst) fun v rd wr => RR P T all nms r (nw + resv o.op) (setD fr o.dst v) (upd σ wr) (tr ++ [(rd.map (·.1), wr.map (·.1))]) K) : RR P T all nms (o :: r) nw fr σ tr K := by
  obtain ⟨v, rd, wr, ⟨trs, fr', σ', h1, h2⟩, h3, h4, h5⟩ := opV_ok h
  exact ⟨⟨v, rd, wr⟩ :: trs, fr', σ', .step hg h3 h4 h5 h1, by simpa [Tr.tch] using h2⟩
theorem RR.skip (hg : wantedV all fr o = some false) (h : RR P T all nms r (nw + resv o.op) (setD fr o.dst (.tup [])) σ (tr ++ [([], [])]) K) : RR P T all nms (o :: r) nw fr σ tr K := by
  obtain ⟨trs, fr', σ', h1, h2⟩ := h
  exact ⟨⟨.tup [], [], []⟩ :: trs, fr', σ', .skip hg h1, by simpa [Tr.tch] using h2⟩
/-- A guard that isn't decided. -/
theorem RR.split {s : Nat} {b : Bool} (hs : fr[s]? = some (.d (.bool b))) (h1 : b = true → RR P T all nms r nw (fr.set s (.d (.bool true))) σ tr K) (h2 : b = false → RR P T all nms r nw (fr.set s (.d (.bool false))) σ tr K) : RR P T all nms r nw fr σ tr K := by
  have he : fr.set s (.d (.bool b)) = fr := by
    apply List.ext_getElem?
    intro i
    rw [List.getElem?_set]
    split
    · rename_i e
      subst e
      rw [hs]
      simp [(List.getElem?_eq_some_iff.1 hs).1]
    · rfl
  cases b with
  | true => have := h1 rfl; rwa [he] at this
  | false => have := h2 rfl; rwa [he] at this
/-- In the order of the text. -/
theorem run_wpOps {ops : Array Oper} : ∀ {trs : List Tr} {l : List Oper} {i : Nat} {fr fr' : List V} {σ σ' : List Ob}, ops.toList.drop i = l → Run P ops.toList l fr σ trs fr' σ' → ∀ {w0 lent} {C : Cx} {w : World} {a : Act}, Rel w0 lent C σ w → FrR C fr a.tmps → ∀ {Q : Exit → Act → World → Prop}, (∀ C' w' a', Rel w0 lent C' σ' w' → C.le C' → FrR C' fr' a'.tmps → a'.defers = a.defers → Q .normal a' w') →
    wpOps P ops Q (List.range' i l.length) a w
  | _, _, i, _, _, _, _, hd, .nil, w0, lent, C, w, a, R, hf, Q, hQ => by
    simp only [List.length_nil, List.range'_zero, wpOps]
    exact hQ C w a R (Cx.le_refl C) hf rfl
  | _, o :: l, i, _, _, _, _, hd, .skip h t, w0, lent, C, w, a, R, hf, Q, hQ => by
    have hi : ops[i]? = some o := by
      have := congrArg List.head? hd
      rw [List.head?_drop] at this
      simpa using this
    have hd' : ops.toList.drop (i + 1) = l := by rw [← List.tail_drop, hd]; rfl
    simp only [List.length_cons, List.range'_succ, wpOps, hi, wantedV_ok h hf]
    refine run_wpOps hd' t R ?_ fun C' w' a' R' hle hf' hd => hQ C' w' a' R' hle hf' ?_
    · exact FrR.put hf (vr_undef C) o.dst
    · rw [hd]; cases o.dst <;> rfl
  | _, o :: l, i, _, _, _, _, hd, .step h hs hw hr t, w0, lent, C, w, a, R, hf, Q, hQ => by
    have hi : ops[i]? = some o := by
      have := congrArg List.head? hd
      rw [List.head?_drop] at this
      simpa using this
    have hd' : ops.toList.drop (i + 1) = l := by rw [← List.tail_drop, hd]; rfl
    simp only [List.length_cons, List.range'_succ, wpOps, hi, wantedV_ok h hf, if_true]
    left
    refine hs w0 lent C _ w a R (fun x _ => evF_ok hf x) hr _ _ fun C1 w1 u R1 hle1 hu => ?_
    refine run_wpOps hd' t R1 (FrR.put (hf.mono hle1) hu o.dst) fun C' w' a' R' hle hf' hd => hQ C' w' a' R' (Cx.le_trans hle1 hle) hf' ?_
    rw [hd]; cases o.dst <;> rfl
end
end Go.Proofs.Ytgebfcdcpmmgnaa.Vs
