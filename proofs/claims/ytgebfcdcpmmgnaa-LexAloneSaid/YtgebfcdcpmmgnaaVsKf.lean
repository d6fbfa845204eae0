/- Maps: the operations. -/
import Derived.Test.YtgebfcdcpmmgnaaVsKe
set_option linter.unusedVariables false
set_option linter.unusedSimpArgs false
namespace Go.Proofs.Ytgebfcdcpmmgnaa.Vs
open Go.RowKit
section
variable {P : Program} {o : Oper} {ev : Operand → V} {w0 : Bs} {w w' : World} {lent : Nat → Prop} {C : Cx} {σ : List Ob}
theorem check_key {T : Tb P} {kt : Nat} {key : D} {u : Value} (hk : isKey (T.ty kt).inf key = true) (em : Bool) (w : World) : (Instr.checkKey em 10000 kt u).run P w = .ok () w := by
  have hu := kd_under T hk
  unfold Instr.checkKey
  rw [Sem.run_bind, run_underlying hu w]
  cases hi : (T.ty kt).inf <;> rw [hi] at hk <;> simp only [isKey, Bool.false_eq_true] at hk <;> rfl
theorem find_key {T : Tb P} {kt : Nat} {G : GC} {key : D} {u : Value} (hk : isKey (T.ty kt).inf key = true) (hu : DR G key [u]) {es : List (D × V × Nat)} {l : List MapEntry} (ha : es.all (fun e => isKey (T.ty kt).inf e.1) = true) (hl : l.length = es.length) (h : ∀ (j : Nat) (e : D × V × Nat) (m : MapEntry), es[j]? = some e → l[j]? = some m → DR G e.1 [m.key]) (w : World) :
    (Instr.findKey kt u l).run P w = .ok ((mfind key es).bind fun p => (l[p.1]?).map fun m => (p.1, m.val)) w := by
  have h1 := find_now (kd := (T.ty kt).inf) hk hu 0 ha (by simp [hl]) h
  unfold Instr.findKey
  rw [Sem.run_bind, run_underlying (kd_under T hk) w]
  simp only [Result.andThen_ok, h1, Sem.run_pure, Nat.zero_add]
def lookupV (T : Tb P) (t : Nat) (x k : V) (ok : Bool) (σ : List Ob) (K : KK) : Prop :=
  match (T.ty t).inf, k with
  | .map kt et, .d key => isKey (T.ty kt).inf key = true ∧ (match zV T et with
    | some zv => entsV x σ fun es rd => es.all (fun e => isKey (T.ty kt).inf e.1) = true ∧ (if ok then K (.tup [mget zv key es, .d (.bool (mhas key es))]) rd [] else K (mget zv key es) rd [])
    | none => False)
  | _, _ => False
theorem lookup_ok {T : Tb P} {t : Nat} {x k : Operand} {ok : Bool} {K : KK} (ho : o.op = .lookup t x k ok) (h : lookupV T t (ev x) (ev k) ok σ K) : ∃ v rd wr, K v rd wr ∧ LStep P o ev rd v wr ∧ (∀ p ∈ wr, ∃ q ∈ rd, q.1 = p.1) ∧ ∀ p ∈ rd, σ[p.1]? = some p.2 := by
  unfold lookupV at h
  split at h
  · rename_i kt et key hs hk'
    obtain ⟨hk, h⟩ := h
    split at h
    · rename_i zv hz
      obtain ⟨es, rd, ⟨ha, h⟩, hrd0, hents⟩ := ents_ok h
      have hmain : ∀ (w0 : Bs) (lent : Nat → Prop) (C : Cx) (σ : List Ob) (w : World) (a : Act), Rel w0 lent C σ w → (∀ x ∈ o.op.operands.toList, VR C (ev x) (a.eval x)) → (∀ p ∈ rd, σ[p.1]? = some p.2) → ∃ u, VR C (mget zv key es) u ∧ (Instr.lookup t (a.eval x) (a.eval k) ok).run P w = .ok (if ok then .tuple #[u, .bool (mhas key es)] else u) w := by
        intro w0 lent C σ w a R hx hrd
        have hxx := hx x (by simp [ho, Op.operands])
        have hkk := hx k (by simp [ho, Op.operands]); rw [hk'] at hkk; unfold VR at hkk
        obtain ⟨l, hE, hl⟩ := hents w0 lent C σ w _ R hrd hxx
        obtain ⟨z, hz1, hz2⟩ := zV_ok hz C
        have hf := find_key hk hkk ha hE.len (fun j e m h1 h2 => (hE.at h1 h2).1) w
        obtain ⟨g1, g2⟩ := mfind_get (key := key) (zv := zv) (es := es)
        have hc := fun em => check_key (u := a.eval k) hk em w
        have hut := run_underlying (inf_map T hs) w
        have hes : (match a.eval x with
            | .map none => (pure #[] : Sem (Array MapEntry))
            | .map (some r) => do
              let .map es _ ← getObj r | stuck "Lookup: map expected"
              pure es
            | _ => stuck "Lookup: map expected").run P w = .ok l.toArray w := by
          rcases hl with ⟨e1, e2⟩ | ⟨b, c, e1, e2⟩
          · rw [e1, e2]; rfl
          · rw [e1]; simp [MapKept.run_getObj_map e2]
        cases hm : mfind key es with
        | none =>
          rw [hm] at hf g1 g2
          refine ⟨z, by rw [g1]; exact hz2, ?_⟩
          unfold Instr.lookup
          rcases hl with ⟨e1, e2⟩ | ⟨b, c, e1, e2⟩
          · subst e2
            simp only [e1, Sem.run_bind, hut, Result.andThen_ok, Sem.run_pure, hc, hf, Option.bind_none, hz1, g2]
            cases ok <;> rfl
          · simp only [e1, Sem.run_bind, hut, Result.andThen_ok, Sem.run_pure, MapKept.run_getObj_map e2, hc, hf, Option.bind_none, hz1, g2]
            cases ok <;> rfl
        | some p =>
          rw [hm] at hf g1 g2
          obtain ⟨e, k1, k2, k3⟩ := mfind_lt hm
          have hpl : p.1 < l.length := by rw [hE.len]; exact (List.getElem?_eq_some_iff.1 k1).1
          have hlp : l[p.1]? = some l[p.1] := List.getElem?_eq_getElem hpl
          refine ⟨l[p.1].val, by rw [g1]; have := (hE.at k1 hlp).2.1; rw [k2] at this; exact this, ?_⟩
          unfold Instr.lookup
          simp only [Option.bind_some, hlp, Option.map_some] at hf
          rcases hl with ⟨e1, e2⟩ | ⟨b, c, e1, e2⟩
          · subst e2; simp at hpl
          · simp only [e1, Sem.run_bind, hut, Result.andThen_ok, Sem.run_pure, MapKept.run_getObj_map e2, hc, hf, g2]
            cases ok <;> rfl
      cases ok with
      | true =>
        simp only [if_true] at h
        refine ⟨_, _, _, h, fun w0 lent C σ w a R hx hrd K Q hK => ?_, by simp, hrd0⟩
        obtain ⟨u, hu, hr⟩ := hmain w0 lent C σ w a R hx hrd
        unfold Oper.wp
        rw [show (execOp a.eval o).run P w = .ok (.value (.tuple #[u, .bool (mhas key es)])) w by simp [execOp, ho, hr]]
        refine hK C w _ R (Cx.le_refl C) ?_
        unfold VR
        exact ⟨[u, .bool (mhas key es)], rfl, .cons hu (.cons (by unfold VR DR; rfl) .nil)⟩
      | false =>
        simp only [Bool.false_eq_true, if_false] at h
        refine ⟨_, _, _, h, fun w0 lent C σ w a R hx hrd K Q hK => ?_, by simp, hrd0⟩
        obtain ⟨u, hu, hr⟩ := hmain w0 lent C σ w a R hx hrd
        unfold Oper.wp
        rw [show (execOp a.eval o).run P w = .ok (.value u) w by simp [execOp, ho, hr]]
        exact hK C w _ R (Cx.le_refl C) hu
    · exact h.elim
  · exact h.elim
/-- A map's block is written. -/
theorem Rel.writeM (R : Rel w0 lent C σ w) {i b c c' : Nat} {es es' : List (D × V × Nat)} {l' : List MapEntry} (hi : σ[i]? = some (.mp es c)) (hb : C.ρ[i]? = some (some b)) (hv : EsR C es' l') : Rel w0 lent C (σ.set i (.mp es' c')) { w with heap := w.heap.setIfInBounds b (.map l'.toArray c') } := by
  obtain ⟨h0, b', l, k1, k2, k3, k5⟩ := R.obs i _ hi
  rw [hb] at k1; injection k1 with k1; injection k1 with k1; subst k1
  have hblk : blockOf C i (.mp es c) = some b := by simp [blockOf, hb]
  have hoth : ∀ k, k ≠ b → ({ w with heap := w.heap.setIfInBounds b (.map l'.toArray c') } : World).heap[k]? = w.heap[k]? := fun k hk => by
    simp only
    rw [Array.getElem?_setIfInBounds_ne (fun e => hk e.symm)]
  have hbl := (Array.getElem?_eq_some_iff.1 k2).1
  refine R.step hi ⟨Cx.le_refl C, rfl, fun _ _ => rfl, fun _ _ => rfl, fun k hk hne => hoth k (fun e => hne (by rw [hblk, e])), fun k q v h => ?_, fun _ _ _ _ => rfl, ?_, fun k hk => .inl (by simpa [blockOf] using hk), by simp, rfl, rfl, rfl⟩
  · have hk : k ≠ b := fun e => by subst e; rw [k5] at h; cases h
    rw [World.cell?_of_block (hoth k hk)]
    exact R.ro k q v h
  · refine ⟨h0, b, l'.toArray, hb, ?_, by simpa using hv, k5⟩
    simp only
    rw [Array.getElem?_setIfInBounds_self_of_lt hbl]
def updateV (T : Tb P) (t : Nat) (m k x : V) (σ : List Ob) (K : KK) : Prop :=
  match (T.ty t).inf, m, k with
  | .map kt et, .map j, .d key => isKey (T.ty kt).inf key = true ∧ (match σ[j]? with
    | some (.mp es c) => es.all (fun e => isKey (T.ty kt).inf e.1) = true ∧ K .any [(j, .mp es c)] [(j, .mp (mput key x c es) (if mhas key es then c else c + 1))]
    | _ => False)
  | _, _, _ => False
theorem keeps {kd : Inf} {G : GC} {key : D} {u : Value} (hk : isKey kd key = true) (hu : DR G key [u]) (w : World) : (Instr.keyThatStays u u).run P w = .ok u w := by
  unfold Instr.keyThatStays
  have : Instr.sameBits 10000 u u = true := by
    cases key <;> (cases kd <;> simp only [isKey, Bool.false_eq_true] at hk)
    · unfold DR at hu
      simp only [List.cons.injEq, and_true] at hu
      subst hu
      simp [Instr.sameBits]
    · unfold DR at hu
      obtain ⟨hu, _⟩ := hu
      simp only [List.cons.injEq, and_true] at hu
      subst hu
      simp only [Instr.sameBits]
      rename_i s hs2
      rw [show (({ data := s.toArray } : ByteArray) == { data := s.toArray }) = (s.toArray == s.toArray) from rfl, beq_self_eq_true]
  rw [this]
  rfl
theorem key_val {kd : Inf} {G : GC} {a b : D} {u v : Value} (ha : isKey kd a = true) (hb : isKey kd b = true) (h : dkey a b = true) (hu : DR G a [u]) (hv : DR G b [v]) : v = u := by
  have := isKey_eq ha hb h
  subst this
  cases a <;> (cases kd <;> simp only [isKey, Bool.false_eq_true] at ha)
  · unfold DR at hu hv
    simp only [List.cons.injEq, and_true] at hu hv
    rw [hu, hv]
  · unfold DR at hu hv
    have h1 := hu.1
    have h2 := hv.1
    simp only [List.cons.injEq, and_true] at h1 h2
    rw [h1, h2]
theorem update_ok {T : Tb P} {t : Nat} {m k x : Operand} {K : KK} (ho : o.op = .mapUpdate t m k x ∨ o.op = .insert t m k x) (h : updateV T t (ev m) (ev k) (ev x) σ K) : ∃ v rd wr, K v rd wr ∧ LStep P o ev rd v wr ∧ (∀ p ∈ wr, ∃ q ∈ rd, q.1 = p.1) ∧ ∀ p ∈ rd, σ[p.1]? = some p.2 := by
  unfold updateV at h
  split at h
  · rename_i kt et j key hs hm' hk'
    obtain ⟨hk, h⟩ := h
    split at h
    · rename_i es c hσ
      obtain ⟨ha, h⟩ := h
      refine ⟨_, _, _, h, fun w0 lent C σ w a R hx hrd K Q hK => ?_, by simp, by simpa using hσ⟩
      have hops : ∀ y, y = m ∨ y = k ∨ y = x → y ∈ o.op.operands.toList := fun y hy => by rcases ho with ho | ho <;> simp [ho, Op.operands] <;> exact hy
      have hmm := hx m (hops m (.inl rfl)); rw [hm'] at hmm; unfold VR at hmm
      have hkk := hx k (hops k (.inr (.inl rfl))); rw [hk'] at hkk; unfold VR at hkk
      have hxx := hx x (hops x (.inr (.inr rfl)))
      have hi := hrd (j, .mp es c) (by simp)
      obtain ⟨b, hb, e1⟩ := hmm
      obtain ⟨_, b', l, k1, k2, hE, _⟩ := R.obs j _ hi
      rw [hb] at k1; injection k1 with k1; injection k1 with k1; subst k1
      have hf := find_key (l := l.toList) hk hkk ha hE.len (fun j e m h1 h2 => (hE.at h1 h2).1) w
      have hc := check_key (u := a.eval k) hk false w
      have hut := run_underlying (inf_map T hs) w
      obtain ⟨_, g2⟩ := mfind_get (key := key) (zv := .any) (es := es)
      have hll := hE.len
      have hrun : ∃ l' : List MapEntry, (Instr.mapUpdate t (a.eval m) (a.eval k) (a.eval x)).run P w = .ok () { w with heap := w.heap.setIfInBounds b (.map l'.toArray (if mhas key es then c else c + 1)) } ∧ EsR C (mput key (ev x) c es) l' := by
        rw [mput_eq]
        cases hm : mfind key es with
        | none =>
          rw [hm] at hf g2
          refine ⟨l.toList ++ [{ key := a.eval k, val := a.eval x, born := c }], ?_, EsR.of (by rw [List.length_append, List.length_append, hll]; rfl) fun i e m h1 h2 => ?_⟩
          · unfold Instr.mapUpdate
            rw [e1]
            simp only [Sem.run_bind, hut, Result.andThen_ok, MapKept.run_getObj_map k2, hc, hf, Option.bind_none, MapKept.run_setObj_map _ k2, g2]
            simp
            congr 2
            apply Array.ext'
            simp
          · by_cases hil : i < es.length
            · rw [List.getElem?_append_left hil] at h1
              rw [List.getElem?_append_left (by omega)] at h2
              exact hE.at h1 h2
            · rw [List.getElem?_append_right (by omega)] at h1
              rw [List.getElem?_append_right (by omega)] at h2
              have hie : i = es.length := by
                have := (List.getElem?_eq_some_iff.1 h1).1
                simp at this; omega
              rw [hie, Nat.sub_self] at h1
              rw [hll, hie, Nat.sub_self] at h2
              simp at h1 h2
              subst h1; subst h2
              exact ⟨hkk, hxx, rfl⟩
        | some p =>
          rw [hm] at hf g2
          obtain ⟨e, q1, q2, q3⟩ := mfind_lt hm
          have hpl : p.1 < l.toList.length := by rw [hll]; exact (List.getElem?_eq_some_iff.1 q1).1
          have hlp : l.toList[p.1]? = some l.toList[p.1] := List.getElem?_eq_getElem hpl
          obtain ⟨r1, r2, r3⟩ := hE.at q1 hlp
          have hek : isKey (T.ty kt).inf e.1 = true := List.all_eq_true.1 ha e (List.mem_of_getElem? q1)
          have hkv := key_val hk hek q3 hkk r1
          have hlp' : l[p.1]? = some l.toList[p.1] := by rw [← hlp, Array.getElem?_toList]
          refine ⟨l.toList.modify p.1 (fun e => { e with key := a.eval k, val := a.eval x }), ?_, EsR.of (by simp [hll]) fun i e' m h1 h2 => ?_⟩
          · unfold Instr.mapUpdate
            rw [e1]
            simp only [Option.bind_some, hlp, Option.map_some] at hf
            simp only [Sem.run_bind, hut, Result.andThen_ok, MapKept.run_getObj_map k2, hc, hf, hlp', Option.map_some, Option.getD_some, hkv, keeps hk hkk, MapKept.run_setObj_map _ k2, g2]
            simp
            congr 2
            apply Array.ext'
            simp
          · rw [List.getElem?_modify] at h1 h2
            cases he : es[i]? with
            | none => rw [he] at h1; simp at h1
            | some e2 =>
              cases hm2 : l.toList[i]? with
              | none => rw [hm2] at h2; simp at h2
              | some m2 =>
                rw [he] at h1; rw [hm2] at h2
                simp only [Option.map_eq_map, Option.map_some, Option.some.injEq] at h1 h2
                obtain ⟨s1, s2, s3⟩ := hE.at he hm2
                by_cases hpi : p.1 = i
                · subst hpi
                  rw [q1] at he; injection he with he; subst he
                  simp only [if_true] at h1 h2
                  subst h1; subst h2
                  refine ⟨?_, hxx, s3⟩
                  have := isKey_eq hk hek q3
                  rw [← this]; exact hkk
                · rw [if_neg hpi] at h1 h2
                  subst h1; subst h2
                  exact ⟨s1, s2, s3⟩
      obtain ⟨l', hr, hE'⟩ := hrun
      have R' := R.writeM (c' := if mhas key es then c else c + 1) hi hb hE'
      unfold Oper.wp
      rw [show (execOp a.eval o).run P w = .ok .skip _ by rcases ho with ho | ho <;> simp [execOp, ho, hr] <;> rfl]
      exact hK C _ _ R' (Cx.le_refl C) (VR.any' _ _)
    · exact h.elim
  · exact h.elim
def makeMapV (T : Tb P) (t : Nat) (r : Option V) (nw : Nat) (K : KK) : Prop :=
  match (T.ty t).inf, r with
  | .map _ _, none => K (.map nw) [(nw, .fresh)] [(nw, .mp [] 0)]
  | .map _ _, some (.d (.int _ _)) => K (.map nw) [(nw, .fresh)] [(nw, .mp [] 0)]
  | _, _ => False
theorem Rel.allocMap (R : Rel w0 lent C σ w) {i : Nat} (hi : σ[i]? = some .fresh) :
    ∃ C', Rel w0 lent C' (σ.set i (.mp [] 0)) (w.alloc (.map #[] 0)) ∧ C.le C' ∧ C'.ρ[i]? = some (some w.heap.size) := by
  obtain ⟨hf, hc⟩ := R.obs i _ hi
  have hil : i < C.ρ.length := (List.getElem?_eq_some_iff.1 hf).1
  have hle : C.le { G := C.G, ρ := C.ρ.set i (some w.heap.size), cur := fun j => if j = i then none else C.cur j } := put_le (GC.le_refl _) hf (by simp)
  have hget : (C.ρ.set i (some w.heap.size))[i]? = some (some w.heap.size) := List.getElem?_set_self hil
  refine ⟨_, R.step hi ⟨hle, by simp, fun j hj => by simp only; rw [List.getElem?_set_ne (fun e => hj e.symm)], fun j hj => by simp [hj], fun b hb _ => Below.heap_alloc w _ b hb, fun b k v h => ?_, fun _ _ _ _ => rfl, ?_, fun b hb => ?_, by simp, rfl, rfl, rfl⟩, hle, hget⟩
  · rw [World.cell?_of_block (Below.heap_alloc w _ b (World.block_lt_of_cell? w _ (R.ro b k v h)))]
    exact R.ro b k v h
  · exact ⟨by simp, w.heap.size, #[], hget, heap_alloc_new w _, ⟨.nil, .nil, rfl⟩, fun k => R.noG _ (Nat.le_refl _) k⟩
  · simp only [blockOf, hget, Option.join_some, Option.some.injEq] at hb
    exact .inr (by omega)
theorem makeMap_ok {T : Tb P} {t nw : Nat} {r : Option Operand} {K : KK} (ho : o.op = .makeMap t r) (h : makeMapV T t (r.map ev) nw K) (hnw : σ[nw]? = some .fresh) : ∃ v rd wr, K v rd wr ∧ LStep P o ev rd v wr ∧ (∀ p ∈ wr, ∃ q ∈ rd, q.1 = p.1) ∧ ∀ p ∈ rd, σ[p.1]? = some p.2 := by
  unfold makeMapV at h
  split at h
  · rename_i kt et hs hr'
    obtain rfl : r = none := by simpa using hr'
    refine ⟨_, _, _, h, fun w0 lent C σ w a R hx hrd K Q hK => ?_, by simp, by simpa using hnw⟩
    obtain ⟨C', R', hle, hr⟩ := R.allocMap (hrd (nw, .fresh) (by simp))
    unfold Oper.wp
    rw [show (execOp a.eval o).run P w = .ok (.value (.map (some w.heap.size))) (w.alloc (.map #[] 0)) by simp [execOp, ho, Instr.makeMap]]
    exact hK _ _ _ R' hle (by unfold VR; exact ⟨_, hr, rfl⟩)
  · rename_i kt et k n hs hr'
    obtain ⟨y, rfl, hy⟩ := Option.map_eq_some_iff.1 hr'
    refine ⟨_, _, _, h, fun w0 lent C σ w a R hx hrd K Q hK => ?_, by simp, by simpa using hnw⟩
    have hyy := hx y (by simp [ho, Op.operands]); rw [hy] at hyy
    obtain ⟨C', R', hle, hr⟩ := R.allocMap (hrd (nw, .fresh) (by simp))
    unfold Oper.wp
    rw [show (execOp a.eval o).run P w = .ok (.value (.map (some w.heap.size))) (w.alloc (.map #[] 0)) by simp [execOp, ho, Instr.makeMap, vr_int hyy, run_underlying (inf_map T hs), asInt, asIntOf]]
    exact hK _ _ _ R' hle (by unfold VR; exact ⟨_, hr, rfl⟩)
  · exact h.elim
def deleteV (T : Tb P) (t : Nat) (m k : V) (σ : List Ob) (K : KK) : Prop :=
  match (T.ty t).inf, m, k with
  | .map kt et, .map j, .d key => isKey (T.ty kt).inf key = true ∧ (match σ[j]? with
    | some (.mp es c) => es.all (fun e => isKey (T.ty kt).inf e.1) = true ∧ K (.tup []) [(j, .mp es c)] [(j, .mp (mdel key es) c)]
    | _ => False)
  | _, _, _ => False
theorem delete_ok {T : Tb P} {t t2 : Nat} {m k : Operand} {K : KK} (ho : o.op = .call { callee := .builtin .delete, args := #[m, k], argTypes := #[t, t2] }) (h : deleteV T t (ev m) (ev k) σ K) : ∃ v rd wr, K v rd wr ∧ LStep P o ev rd v wr ∧ (∀ p ∈ wr, ∃ q ∈ rd, q.1 = p.1) ∧ ∀ p ∈ rd, σ[p.1]? = some p.2 := by
  unfold deleteV at h
  split at h
  · rename_i kt et j key hs hm' hk'
    obtain ⟨hk, h⟩ := h
    split at h
    · rename_i es c hσ
      obtain ⟨ha, h⟩ := h
      refine ⟨_, _, _, h, fun w0 lent C σ w a R hx hrd K Q hK => ?_, by simp, by simpa using hσ⟩
      have hmm := hx m (by simp [ho, Op.operands, Call.operands]); rw [hm'] at hmm; unfold VR at hmm
      have hkk := hx k (by simp [ho, Op.operands, Call.operands]); rw [hk'] at hkk; unfold VR at hkk
      have hi := hrd (j, .mp es c) (by simp)
      obtain ⟨b, hb, e1⟩ := hmm
      obtain ⟨_, b', l, k1, k2, hE, _⟩ := R.obs j _ hi
      rw [hb] at k1; injection k1 with k1; injection k1 with k1; subst k1
      have hf := find_key (l := l.toList) hk hkk ha hE.len (fun j e m h1 h2 => (hE.at h1 h2).1) w
      have hc := fun em => check_key (u := a.eval k) hk em w
      have hut := run_underlying (inf_map T hs) w
      have hll := hE.len
      have hrun : ∃ l' : List MapEntry, (Builtin.delete_ #[t, t2] o.type #[a.eval m, a.eval k]).run P w = .ok (.tuple #[]) { w with heap := w.heap.setIfInBounds b (.map l'.toArray c) } ∧ EsR C (mdel key es) l' := by
        rw [mdel_eq]
        cases hm : mfind key es with
        | none =>
          rw [hm] at hf
          refine ⟨l.toList, ?_, hE⟩
          unfold Builtin.delete_
          simp [e1, hut, MapKept.run_getObj_map k2, hc, hf, MapKept.run_setObj_map _ k2]
        | some p =>
          rw [hm] at hf
          obtain ⟨e, q1, q2, q3⟩ := mfind_lt hm
          have hpl : p.1 < l.toList.length := by rw [hll]; exact (List.getElem?_eq_some_iff.1 q1).1
          have hlp : l.toList[p.1]? = some l.toList[p.1] := List.getElem?_eq_getElem hpl
          refine ⟨l.toList.eraseIdx p.1, ?_, EsR.of (by rw [List.length_eraseIdx, List.length_eraseIdx, hll]) fun i e' m h1 h2 => ?_⟩
          · simp only [Option.bind_some, hlp, Option.map_some] at hf
            unfold Builtin.delete_
            have he : (l.eraseIdxIfInBounds p.1) = (l.toList.eraseIdx p.1).toArray := by
              apply Array.ext'
              simp
            simp [e1, hut, MapKept.run_getObj_map k2, hc, hf, MapKept.run_setObj_map _ k2, he]
          · rw [List.getElem?_eraseIdx] at h1 h2
            split at h1
            · rename_i hlt
              rw [if_pos hlt] at h2
              exact hE.at h1 h2
            · rename_i hlt
              rw [if_neg hlt] at h2
              exact hE.at h1 h2
      obtain ⟨l', hr, hE'⟩ := hrun
      have R' := R.writeM (c' := c) hi hb hE'
      unfold Oper.wp
      rw [show (execOp a.eval o).run P w = .ok (.value (.tuple #[])) _ by simp only [execOp, ho, resolve, Sem.run_bind, Sem.run_pure, Result.andThen_ok, invoke, builtin]; simp [hr]; rfl]
      exact hK C _ _ R' (Cx.le_refl C) (by unfold VR; exact ⟨[], rfl, .nil⟩)
    · exact h.elim
  · exact h.elim
def lenMapV (T : Tb P) (t : Nat) (x : V) (σ : List Ob) (K : KK) : Prop :=
  match (T.ty t).inf, x with
  | .map _ _, .map j => (match σ[j]? with
    | some (.mp es c) => K (.d (.int .i64 es.length)) [(j, .mp es c)] []
    | _ => False)
  | _, _ => False
theorem lenMap_ok {T : Tb P} {t : Nat} {x : Operand} {K : KK} (ho : o.op = .call { callee := .builtin .len, args := #[x], argTypes := #[t] }) (h : lenMapV T t (ev x) σ K) : ∃ v rd wr, K v rd wr ∧ LStep P o ev rd v wr ∧ (∀ p ∈ wr, ∃ q ∈ rd, q.1 = p.1) ∧ ∀ p ∈ rd, σ[p.1]? = some p.2 := by
  unfold lenMapV at h
  split at h
  · rename_i kt et j hs hx'
    split at h
    · rename_i es c hσ
      refine ⟨_, _, _, h, fun w0 lent C σ w a R hx hrd K Q hK => ?_, by simp, by simpa using hσ⟩
      have hxx := hx x (by simp [ho, Op.operands, Call.operands]); rw [hx'] at hxx; unfold VR at hxx
      obtain ⟨b, hb, e1⟩ := hxx
      obtain ⟨_, b', l, k1, k2, hE, _⟩ := R.obs j _ (hrd (j, .mp es c) (by simp))
      rw [hb] at k1; injection k1 with k1; injection k1 with k1; subst k1
      have hll := hE.len
      unfold Oper.wp
      rw [show (execOp a.eval o).run P w = .ok (.value (.int .i64 es.length)) w by
        simp [execOp, ho, resolve, invoke, builtin, e1, Builtin.len_, run_underlying (inf_map T hs), MapKept.run_getObj_map k2, goInt]
        simp only [Array.length_toList] at hll
        omega]
      exact hK C _ _ R (Cx.le_refl C) (by unfold VR DR; rfl)
    · exact h.elim
  · exact h.elim
end
end Go.Proofs.Ytgebfcdcpmmgnaa.Vs
