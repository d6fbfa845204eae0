/- A map that is being made of given entries, in any order. -/
import Derived.Test.YtgebfcdcpmmgnaaVsKf
set_option linter.unusedVariables false
set_option linter.unusedSimpArgs false
namespace Go.Proofs.Ytgebfcdcpmmgnaa.Vs
open Go.RowKit
/-- Each key once. -/
def mqD (es : List (D × V)) : Bool := (List.range es.length).all fun i => (List.range es.length).all fun j => i == j || !dkey (es.getD i (.nilp, .any)).1 (es.getD j (.nilp, .any)).1
def mqIx (key : D) : List (D × V) → Nat
  | [] => 0
  | e :: es => if dkey key e.1 then 0 else mqIx key es + 1
/-- As a map's entries. -/
def mq0 (es : List (D × V)) : List (D × V × Nat) := es.map fun e => (e.1, e.2, 0)
theorem mq0_nil : mq0 [] = [] := rfl
theorem mq0_cons (k : D) (v : V) (es : List (D × V)) : mq0 ((k, v) :: es) = (k, v, 0) :: mq0 es := rfl
def mqEs (es : List (D × V)) (is bs : List Nat) : List (D × V × Nat) := (is.zip bs).map fun p => ((es.getD p.1 (.nilp, .any)).1, (es.getD p.1 (.nilp, .any)).2, p.2)
theorem mqEs_1 (es : List (D × V)) : ∀ (is bs : List Nat), is.length = bs.length → (mqEs es is bs).map (fun e => V.d e.1) = is.map (fun i => V.d (es.getD i (.nilp, .any)).1) ∧ (mqEs es is bs).map (fun e => e.2.1) = is.map (fun i => (es.getD i (.nilp, .any)).2) ∧ (mqEs es is bs).map (fun e => e.2.2) = bs
  | [], [], _ => ⟨rfl, rfl, rfl⟩
  | [], b :: bs, h => by simp at h
  | i :: is, [], h => by simp at h
  | i :: is, b :: bs, h => by
    obtain ⟨h1, h2, h3⟩ := mqEs_1 es is bs (by simpa using h)
    unfold mqEs at *
    simp only [List.zip_cons_cons, List.map_cons, h1, h2, h3, and_self]
theorem mqEs_mem {es : List (D × V)} {is bs : List Nat} {e : D × V × Nat} (h : e ∈ mqEs es is bs) : ∃ i ∈ is, e.1 = (es.getD i (.nilp, .any)).1 ∧ e.2.1 = (es.getD i (.nilp, .any)).2 := by
  unfold mqEs at h
  obtain ⟨p, hp, rfl⟩ := List.mem_map.1 h
  exact ⟨p.1, (List.of_mem_zip hp).1, rfl, rfl⟩
theorem mqEs_of {es : List (D × V)} {is bs : List Nat} {i : Nat} (hl : is.length = bs.length) (h : i ∈ is) : ∃ e ∈ mqEs es is bs, e.1 = (es.getD i (.nilp, .any)).1 := by
  have h1 : V.d (es.getD i (.nilp, .any)).1 ∈ is.map (fun i => V.d (es.getD i (.nilp, .any)).1) := List.mem_map.2 ⟨i, h, rfl⟩
  rw [← (mqEs_1 es is bs hl).1] at h1
  obtain ⟨e, he, h2⟩ := List.mem_map.1 h1
  injection h2 with h2
  exact ⟨e, he, h2⟩
theorem MqR.es {C : Cx} {es : List (D × V)} {n : Nat} {l : List MapEntry} (h : MqR C es n l) : ∃ is : List Nat, (∀ i ∈ is, i < es.length) ∧ (∀ i, i < es.length → n.testBit i = true → i ∈ is) ∧ is.length = (l.map (·.born)).length ∧ EsR C (mqEs es is (l.map (·.born))) l := by
  obtain ⟨is, h1, h2, h3, h4⟩ := h
  have hl : is.length = (l.map (·.born)).length := by have := h3.length; simpa using this.symm
  obtain ⟨k1, k2, k3⟩ := mqEs_1 es is _ hl
  exact ⟨is, h1, h2, hl, by rw [k1]; exact h3, by rw [k2]; exact h4, k3.symm⟩
theorem MqR.of {C : Cx} {es : List (D × V)} {n : Nat} {l : List MapEntry} {is bs : List Nat} (h1 : ∀ i ∈ is, i < es.length) (h2 : ∀ i, i < es.length → n.testBit i = true → i ∈ is) (hl : is.length = bs.length) (h : EsR C (mqEs es is bs) l) : MqR C es n l := by
  obtain ⟨k1, k2, k3⟩ := mqEs_1 es is bs hl
  refine ⟨is, h1, h2, ?_, ?_⟩
  · have := h.1; rw [k1] at this; exact this
  · have := h.2.1; rw [k2] at this; exact this
theorem mq_all {kd : Inf} {es : List (D × V)} {is bs : List Nat} (ha : es.all (fun e => isKey kd e.1) = true) (h1 : ∀ i ∈ is, i < es.length) : (mqEs es is bs).all (fun e => isKey kd e.1) = true := by
  rw [List.all_eq_true]
  intro e he
  obtain ⟨i, hi, e1, _⟩ := mqEs_mem he
  rw [e1]
  have hlt := h1 i hi
  refine List.all_eq_true.1 ha (es.getD i (.nilp, .any)) ?_
  rw [List.getD_eq_getElem?_getD, List.getElem?_eq_getElem hlt]
  exact List.getElem_mem hlt
theorem mqD_inj {es : List (D × V)} (h : mqD es = true) {i j : Nat} (hi : i < es.length) (hj : j < es.length) (hd : dkey (es.getD i (.nilp, .any)).1 (es.getD j (.nilp, .any)).1 = true) : i = j := by
  have := List.all_eq_true.1 (List.all_eq_true.1 h i (by simpa using hi)) j (by simpa using hj)
  rw [hd] at this
  simpa using this
theorem dkey_refl {kd : Inf} {a : D} (h : isKey kd a = true) : dkey a a = true := by
  cases a <;> (cases kd <;> simp only [isKey, Bool.false_eq_true] at h) <;> simp [dkey]
theorem mfind_none {key : D} : ∀ {es : List (D × V × Nat)}, mfind key es = none → ∀ e ∈ es, dkey key e.1 = false
  | [], _, e, he => by simp at he
  | x :: es, h, e, he => by
    unfold mfind at h
    split at h
    · cases h
    · rename_i hd
      rcases List.mem_cons.1 he with rfl | he
      · simpa using hd
      · exact mfind_none (by simpa using h) e he
/-- Maps of like entries answer alike. -/
theorem mget_like {key : D} {zv : V} {es es0 : List (D × V × Nat)} (h : ∀ e ∈ es, ∃ e0 ∈ es0, e0.1 = e.1 ∧ e0.2.1 = e.2.1) (h0 : ∀ e0 ∈ es0, ∃ e ∈ es, e.1 = e0.1) (hd : ∀ e ∈ es0, ∀ e' ∈ es0, dkey key e.1 = true → dkey key e'.1 = true → e.2.1 = e'.2.1) : mget zv key es = mget zv key es0 ∧ mhas key es = mhas key es0 := by
  obtain ⟨a1, a2⟩ := mfind_get (key := key) (zv := zv) (es := es)
  obtain ⟨b1, b2⟩ := mfind_get (key := key) (zv := zv) (es := es0)
  rw [a1, a2, b1, b2]
  cases hm : mfind key es with
  | none =>
    cases hm0 : mfind key es0 with
    | none => exact ⟨rfl, rfl⟩
    | some p =>
      obtain ⟨e, q1, q2, q3⟩ := mfind_lt hm0
      obtain ⟨e', r1, r2⟩ := h0 e (List.mem_of_getElem? q1)
      have := mfind_none hm e' r1
      rw [r2, q3] at this
      cases this
  | some p =>
    obtain ⟨e, q1, q2, q3⟩ := mfind_lt hm
    obtain ⟨e0, r1, r2, r3⟩ := h e (List.mem_of_getElem? q1)
    cases hm0 : mfind key es0 with
    | none =>
      have := mfind_none hm0 e0 r1
      rw [r2, q3] at this
      cases this
    | some p0 =>
      obtain ⟨e1, s1, s2, s3⟩ := mfind_lt hm0
      refine ⟨?_, rfl⟩
      show p.2 = p0.2
      rw [← q2, ← s2, ← r3]
      exact hd e0 r1 e1 (List.mem_of_getElem? s1) (by rw [r2]; exact q3) s3
section
variable {P : Program} {o : Oper} {ev : Operand → V} {w0 : Bs} {w w' : World} {lent : Nat → Prop} {C : Cx} {σ : List Ob}
def isQ (x : V) (σ : List Ob) : Bool := match x with
  | .map j => (match σ[j]? with
    | some (.mq _) => true
    | _ => false)
  | _ => false
def makeMqV (T : Tb P) (t : Nat) (r : Option V) (nw : Nat) (K : KK) : Prop :=
  match (T.ty t).inf, r with
  | .map _ _, none => ∃ es, K (.map nw) [(nw, .fresh)] [(nw, .mq es)]
  | .map _ _, some (.d (.int _ _)) => ∃ es, K (.map nw) [(nw, .fresh)] [(nw, .mq es)]
  | _, _ => False
theorem Rel.allocMq (R : Rel w0 lent C σ w) {i : Nat} (hi : σ[i]? = some .fresh) (es : List (D × V)) :
    ∃ C', Rel w0 lent C' (σ.set i (.mq es)) (w.alloc (.map #[] 0)) ∧ C.le C' ∧ C'.ρ[i]? = some (some w.heap.size) := by
  obtain ⟨hf, hc⟩ := R.obs i _ hi
  have hil : i < C.ρ.length := (List.getElem?_eq_some_iff.1 hf).1
  have hle : C.le { G := C.G, ρ := C.ρ.set i (some w.heap.size), cur := fun j => if j = i then some (0, .map none) else C.cur j } := put_le (GC.le_refl _) hf (by simp)
  have hget : (C.ρ.set i (some w.heap.size))[i]? = some (some w.heap.size) := List.getElem?_set_self hil
  refine ⟨_, R.step hi ⟨hle, by simp, fun j hj => by simp only; rw [List.getElem?_set_ne (fun e => hj e.symm)], fun j hj => by simp [hj], fun b hb _ => Below.heap_alloc w _ b hb, fun b k v h => ?_, fun _ _ _ _ => rfl, ?_, fun b hb => ?_, by simp, rfl, rfl, rfl⟩, hle, hget⟩
  · rw [World.cell?_of_block (Below.heap_alloc w _ b (World.block_lt_of_cell? w _ (R.ro b k v h)))]
    exact R.ro b k v h
  · refine ⟨w.heap.size, #[], 0, 0, hget, by simp, heap_alloc_new w _, ⟨[], by simp, fun i _ h => by simp at h, .nil, .nil⟩, fun k => R.noG _ (Nat.le_refl _) k⟩
  · simp only [blockOf, hget, Option.join_some, Option.some.injEq] at hb
    exact .inr (by omega)
theorem makeMq_ok {T : Tb P} {t nw : Nat} {r : Option Operand} {K : KK} (ho : o.op = .makeMap t r) (h : makeMqV T t (r.map ev) nw K) (hnw : σ[nw]? = some .fresh) : ∃ v rd wr, K v rd wr ∧ LStep P o ev rd v wr ∧ (∀ p ∈ wr, ∃ q ∈ rd, q.1 = p.1) ∧ ∀ p ∈ rd, σ[p.1]? = some p.2 := by
  unfold makeMqV at h
  split at h
  · rename_i kt et hs hr'
    obtain rfl : r = none := by simpa using hr'
    obtain ⟨es, h⟩ := h
    refine ⟨_, _, _, h, fun w0 lent C σ w a R hx hrd K Q hK => ?_, by simp, by simpa using hnw⟩
    obtain ⟨C', R', hle, hr⟩ := R.allocMq (hrd (nw, .fresh) (by simp)) es
    unfold Oper.wp
    rw [show (execOp a.eval o).run P w = .ok (.value (.map (some w.heap.size))) (w.alloc (.map #[] 0)) by simp [execOp, ho, Instr.makeMap]]
    exact hK _ _ _ R' hle (by unfold VR; exact ⟨_, hr, rfl⟩)
  · rename_i kt et k n hs hr'
    obtain ⟨y, rfl, hy⟩ := Option.map_eq_some_iff.1 hr'
    obtain ⟨es, h⟩ := h
    refine ⟨_, _, _, h, fun w0 lent C σ w a R hx hrd K Q hK => ?_, by simp, by simpa using hnw⟩
    have hyy := hx y (by simp [ho, Op.operands]); rw [hy] at hyy
    obtain ⟨C', R', hle, hr⟩ := R.allocMq (hrd (nw, .fresh) (by simp)) es
    unfold Oper.wp
    rw [show (execOp a.eval o).run P w = .ok (.value (.map (some w.heap.size))) (w.alloc (.map #[] 0)) by simp [execOp, ho, Instr.makeMap, vr_int hyy, run_underlying (inf_map T hs), asInt, asIntOf]]
    exact hK _ _ _ R' hle (by unfold VR; exact ⟨_, hr, rfl⟩)
  · exact h.elim
/-- An entry is laid into a map that is being made. -/
theorem Rel.tickM (R : Rel w0 lent C σ w) {j g b i c' n : Nat} {c : Nat} {l : Array MapEntry} {es : List (D × V)} {l' : List MapEntry} (hj : σ[j]? = some (.mq es)) (hg : σ[g]? = some .fresh) (hb : C.ρ[j]? = some (some b)) (hcur : C.cur j = some (n, .map none)) (hh : w.heap[b]? = some (.map l c)) (hv : MqR C es (n ||| 2 ^ i) l') :
    ∃ C', Rel w0 lent C' (σ.set g (.tick j i)) { w with heap := w.heap.setIfInBounds b (.map l'.toArray c') } ∧ C.le C' := by
  have hblk : blockOf C j (.mq es) = some b := by simp [blockOf, hb]
  have hoth : ∀ k, k ≠ b → ({ w with heap := w.heap.setIfInBounds b (.map l'.toArray c') } : World).heap[k]? = w.heap[k]? := fun k hk => by
    simp only
    rw [Array.getElem?_setIfInBounds_ne (fun e => hk e.symm)]
  have hbl := (Array.getElem?_eq_some_iff.1 hh).1
  have hbG : ∀ o, C.G b o = none := by
    obtain ⟨b', l2, c2, n2, k1, _, _, _, k5⟩ := R.obs j _ hj
    rw [hb] at k1; injection k1 with k1; injection k1 with k1; subst k1
    exact k5
  have hgj : g ≠ j := fun e => by subst e; rw [hj] at hg; cases hg
  obtain ⟨hgr, hgc⟩ := R.obs g _ hg
  let C' : Cx := { G := C.G, ρ := C.ρ, cur := fun k => if k = j then some (n ||| 2 ^ i, .map none) else C.cur k }
  have hcj : C'.cur j = some (n ||| 2 ^ i, .map none) := if_pos rfl
  have hck : ∀ k, k ≠ j → C'.cur k = C.cur k := fun k hk => if_neg hk
  have hle : C.le C' := by
    refine ⟨GC.le_refl _, fun _ _ h => h, Nat.le_refl _, fun c m u _ h _ => ?_, fun _ h _ => h⟩
    by_cases e : c = j
    · subst e
      rw [hcj] at h
      injection h with h
      injection h with h1 h2
      subst h2
      refine ⟨n, _, hcur, ?_⟩
      rcases Nat.lt_or_ge n m with h3 | h3
      · exact .inr h3
      · have : n ≤ n ||| 2 ^ i := Nat.left_le_or
        exact .inl ⟨by omega, rfl⟩
    · rw [hck c e] at h
      exact ⟨m, u, h, .inl ⟨rfl, rfl⟩⟩
  have hgl : g < σ.length := (List.getElem?_eq_some_iff.1 hg).1
  have hget : ∀ (k : Nat) (o : Ob), (σ.set g (.tick j i))[k]? = some o → (k = g ∧ o = .tick j i) ∨ (k ≠ g ∧ σ[k]? = some o) := fun k o hk => by
    rw [List.getElem?_set] at hk
    split at hk
    · rename_i e
      subst e
      simp only [hgl, if_true, Option.some.injEq] at hk
      exact .inl ⟨rfl, hk.symm⟩
    · rename_i e
      exact .inr ⟨fun h => e h.symm, hk⟩
  have hbk : ∀ (k : Nat) (o : Ob), σ[k]? = some o → blockOf C' k o = blockOf C k o := fun k o hk => by
    by_cases e : k = j
    · subst e
      rw [hj] at hk
      injection hk with hk
      subst hk
      rfl
    · cases o <;> simp only [blockOf, hck k e] <;> rfl
  have hob : ∀ (k : Nat) (o : Ob) (b2 : Nat), k ≠ j → σ[k]? = some o → blockOf C k o = some b2 → b2 ≠ b := fun k o b2 hk ho hb2 e => by
    subst e
    exact hk (R.sep k j o _ b2 ho hj hb2 hblk)
  refine ⟨C', ⟨by simp [C', R.len], fun b2 q v h => ?_, fun k o hk => ?_, fun k m ok om b2 hk hm h1 h2 => ?_, fun k o b2 hk h1 => ?_, fun b2 h1 h2 => ?_, by simp only [Array.size_setIfInBounds]; exact R.size, R.os, R.tape, R.output, R.gh⟩, hle⟩
  · have hk : b2 ≠ b := fun e => by subst e; have := hbG q; rw [show C.G b2 q = some v from h] at this; cases this
    rw [World.cell?_of_block (hoth b2 hk)]
    exact R.ro b2 q v h
  · rcases hget k o hk with ⟨rfl, rfl⟩ | ⟨hkg, hk2⟩
    · refine ⟨(hck k hgj).trans hgc, ⟨b, hb⟩, n ||| 2 ^ i, hcj, ?_⟩
      simp [Nat.testBit_or, Nat.testBit_two_pow_self]
    · have h := R.obs k o hk2
      by_cases e : k = j
      · subst e
        have hk3 := hj.symm.trans hk2
        injection hk3 with hk3
        subst hk3
        refine ⟨b, l'.toArray, c', n ||| 2 ^ i, hb, hcj, ?_, ?_, hbG⟩
        · simp only
          rw [Array.getElem?_setIfInBounds_self_of_lt hbl]
        · simpa using hv.mono hle
      · have hne : ∀ b2, blockOf C k o = some b2 → ({ w with heap := w.heap.setIfInBounds b (.map l'.toArray c') } : World).heap[b2]? = w.heap[b2]? := fun b2 h1 => hoth b2 (hob k o b2 e hk2 h1)
        cases o with
        | dead => exact (hck k e).trans h
        | fresh => exact ⟨h.1, (hck k e).trans h.2⟩
        | cells t vs =>
          obtain ⟨h0, b2, cs, h1, h2, h3, h4, h5⟩ := h
          exact ⟨(hck k e).trans h0, b2, cs, h1, (hne b2 (by simp [blockOf, h1])).trans h2, h3.mono hle, h4, h5⟩
        | cap t q m =>
          obtain ⟨h0, u, cs, h1, h2, h3⟩ := h
          refine ⟨h0, u, cs, (hck k e).trans h1, ⟨h2.1, ?_⟩, h3⟩
          rcases h2.2 with e2 | ⟨g2, cap, cur, e2, h4, h5, h6⟩
          · exact .inl e2
          · exact .inr ⟨g2, cap, cur, e2, h4, (hne g2 (by simp [blockOf, h1, e2, Value.ownBlock])).trans h5, h6⟩
        | grw t q k2 m vs =>
          obtain ⟨h0, u, xs, h1, h2, h3, h4⟩ := h
          exact ⟨h0, u, xs, (hck k e).trans h1, h2.same fun b2 hb2 => hne b2 (by simp [blockOf, h1, hb2]), h3.mono hle, h4⟩
        | mp es2 clock =>
          obtain ⟨h0, b2, l2, h1, h2, h3, h5⟩ := h
          exact ⟨(hck k e).trans h0, b2, l2, h1, (hne b2 (by simp [blockOf, h1])).trans h2, h3.mono hle, h5⟩
        | mq es2 =>
          obtain ⟨b2, l2, c2, n2, h1, h0, h2, h3, h5⟩ := h
          exact ⟨b2, l2, c2, n2, h1, (hck k e).trans h0, (hne b2 (by simp [blockOf, h1])).trans h2, h3.mono hle, h5⟩
        | tick m q =>
          obtain ⟨h0, hb0, n2, h1, h2⟩ := h
          by_cases em : m = j
          · subst em
            rw [hcur] at h1
            injection h1 with h1
            injection h1 with h1 _
            subst h1
            exact ⟨(hck k e).trans h0, hb0, n ||| 2 ^ i, hcj, by rw [Nat.testBit_or, h2]; rfl⟩
          · exact ⟨(hck k e).trans h0, hb0, n2, (hck m em).trans h1, h2⟩
  · rcases hget k ok hk with ⟨rfl, rfl⟩ | ⟨hkg, hk⟩
    · simp [blockOf] at h1
    · rcases hget m om hm with ⟨rfl, rfl⟩ | ⟨hmg, hm⟩
      · simp [blockOf] at h2
      · rw [hbk k ok hk] at h1
        rw [hbk m om hm] at h2
        exact R.sep k m ok om b2 hk hm h1 h2
  · rcases hget k o hk with ⟨rfl, rfl⟩ | ⟨hkg, hk⟩
    · simp [blockOf] at h1
    · rw [hbk k o hk] at h1
      exact R.new k o b2 hk h1
  · have hk : b2 ≠ b := fun e => by
      subst e
      rcases R.new j _ b2 hj hblk with h3 | h3
      · omega
      · exact h2 h3
    exact (hoth b2 hk).trans (R.keep b2 h1 h2)
theorem mapUpdate_run {T : Tb P} {t kt et b c : Nat} {key : D} {x : V} {kv xv : Value} {es : List (D × V × Nat)} {l : Array MapEntry} (hs : (T.ty t).inf = .map kt et) (hk : isKey (T.ty kt).inf key = true) (hkk : DR C.G key [kv]) (hxx : VR C x xv) (ha : es.all (fun e => isKey (T.ty kt).inf e.1) = true) (hE : EsR C es l.toList) (k2 : w.heap[b]? = some (.map l c)) :
    ∃ l' : List MapEntry, (Instr.mapUpdate t (.map (some b)) kv xv).run P w = .ok () { w with heap := w.heap.setIfInBounds b (.map l'.toArray (if mhas key es then c else c + 1)) } ∧ EsR C (mput key x c es) l' := by
  have hf := find_key (l := l.toList) hk hkk ha hE.len (fun j e m h1 h2 => (hE.at h1 h2).1) w
  have hc := check_key (u := kv) hk false w
  have hut := run_underlying (inf_map T hs) w
  obtain ⟨_, g2⟩ := mfind_get (key := key) (zv := .any) (es := es)
  have hll := hE.len
  rw [mput_eq]
  cases hm : mfind key es with
  | none =>
    rw [hm] at hf g2
    refine ⟨l.toList ++ [{ key := kv, val := xv, born := c }], ?_, EsR.of (by rw [List.length_append, List.length_append, hll]; rfl) fun i e m h1 h2 => ?_⟩
    · unfold Instr.mapUpdate
      simp only [Sem.run_bind, hut, Result.andThen_ok, MapKept.run_getObj_map k2, hc, hf, Option.bind_none, MapKept.run_setObj_map _ k2, g2]
      simp
      congr 2
      apply Array.ext'
      simp
    · by_cases hil : i < es.length
      · rw [List.getElem?_append_left hil] at h1
        rw [List.getElem?_append_left (by omega)] at h2
        exact hE.at h1 h2
      · rw [List.getElem?_append_right (by omega)] at h1
        rw [List.getElem?_append_right (by omega)] at h2
        have hie : i = es.length := by
          have := (List.getElem?_eq_some_iff.1 h1).1
          simp at this; omega
        rw [hie, Nat.sub_self] at h1
        rw [hll, hie, Nat.sub_self] at h2
        simp at h1 h2
        subst h1; subst h2
        exact ⟨hkk, hxx, rfl⟩
  | some p =>
    rw [hm] at hf g2
    obtain ⟨e, q1, q2, q3⟩ := mfind_lt hm
    have hpl : p.1 < l.toList.length := by rw [hll]; exact (List.getElem?_eq_some_iff.1 q1).1
    have hlp : l.toList[p.1]? = some l.toList[p.1] := List.getElem?_eq_getElem hpl
    obtain ⟨r1, r2, r3⟩ := hE.at q1 hlp
    have hek : isKey (T.ty kt).inf e.1 = true := List.all_eq_true.1 ha e (List.mem_of_getElem? q1)
    have hkv := key_val hk hek q3 hkk r1
    have hlp' : l[p.1]? = some l.toList[p.1] := by rw [← hlp, Array.getElem?_toList]
    refine ⟨l.toList.modify p.1 (fun e => { e with key := kv, val := xv }), ?_, EsR.of (by simp [hll]) fun i e' m h1 h2 => ?_⟩
    · unfold Instr.mapUpdate
      simp only [Option.bind_some, hlp, Option.map_some] at hf
      simp only [Sem.run_bind, hut, Result.andThen_ok, MapKept.run_getObj_map k2, hc, hf, hlp', Option.map_some, Option.getD_some, hkv, keeps hk hkk, MapKept.run_setObj_map _ k2, g2]
      simp
      congr 2
      apply Array.ext'
      simp
    · rw [List.getElem?_modify] at h1 h2
      cases he : es[i]? with
      | none => rw [he] at h1; simp at h1
      | some e2 =>
        cases hm2 : l.toList[i]? with
        | none => rw [hm2] at h2; simp at h2
        | some m2 =>
          rw [he] at h1; rw [hm2] at h2
          simp only [Option.map_eq_map, Option.map_some, Option.some.injEq] at h1 h2
          obtain ⟨s1, s2, s3⟩ := hE.at he hm2
          by_cases hpi : p.1 = i
          · subst hpi
            rw [q1] at he; injection he with he; subst he
            simp only [if_true] at h1 h2
            subst h1; subst h2
            refine ⟨?_, hxx, s3⟩
            have := isKey_eq hk hek q3
            rw [← this]; exact hkk
          · rw [if_neg hpi] at h1 h2
            subst h1; subst h2
            exact ⟨s1, s2, s3⟩
/-- What was laid into it is a part of it still. -/
theorem MqR.put {es : List (D × V)} {n c i : Nat} {kd : Inf} {key : D} {x : V} {is : List Nat} {l l' : List MapEntry} (hk : isKey kd key = true) (ha : es.all (fun e => isKey kd e.1) = true) (hd : mqD es = true) (hi : es[i]? = some (key, x)) (h1 : ∀ i ∈ is, i < es.length) (h2 : ∀ i, i < es.length → n.testBit i = true → i ∈ is) (hl : is.length = (l.map (·.born)).length) (h : EsR C (mput key x c (mqEs es is (l.map (·.born)))) l') : MqR C es (n ||| 2 ^ i) l' := by
  have hil := (List.getElem?_eq_some_iff.1 hi).1
  have hgi : es.getD i (.nilp, .any) = (key, x) := by rw [List.getD_eq_getElem?_getD, hi]; rfl
  have bit : ∀ j, (n ||| 2 ^ i).testBit j = true → n.testBit j = true ∨ j = i := fun j hj => by
    rw [Nat.testBit_or, Bool.or_eq_true] at hj
    rcases hj with hj | hj
    · exact .inl hj
    · rw [Nat.testBit_two_pow] at hj
      exact .inr (of_decide_eq_true hj).symm
  rw [mput_eq] at h
  cases hm : mfind key (mqEs es is (l.map (·.born))) with
  | none =>
    rw [hm] at h
    have e : mqEs es is (l.map (·.born)) ++ [(key, x, c)] = mqEs es (is ++ [i]) (l.map (·.born) ++ [c]) := by
      unfold mqEs
      rw [List.zip_append hl, List.map_append]
      simp [hgi, List.getD_eq_getElem?_getD, hi]
    simp only [e] at h
    refine MqR.of (fun k hk => ?_) (fun k hk hb => ?_) (by rw [List.length_append, List.length_append, hl]; rfl) h
    · rcases List.mem_append.1 hk with hk | hk
      · exact h1 k hk
      · simp at hk; subst hk; exact hil
    · rcases bit k hb with hb | rfl
      · exact List.mem_append_left _ (h2 k hk hb)
      · simp
  | some p =>
    rw [hm] at h
    obtain ⟨e, q1, q2, q3⟩ := mfind_lt hm
    obtain ⟨k, k1, k2, k3⟩ := mqEs_mem (List.mem_of_getElem? q1)
    have hki : k = i := by
      refine mqD_inj hd (h1 k k1) hil ?_
      rw [hgi, ← k2]
      have hek : isKey kd e.1 = true := List.all_eq_true.1 (mq_all ha h1) e (List.mem_of_getElem? q1)
      have := isKey_eq hk hek q3
      rw [← this]
      exact dkey_refl hk
    subst hki
    have e2 : e.2.1 = x := by rw [k3, hgi]
    have hmod : (mqEs es is (l.map (·.born))).modify p.1 (fun e => (e.1, x, e.2.2)) = mqEs es is (l.map (·.born)) := by
      apply List.ext_getElem?
      intro j
      rw [List.getElem?_modify]
      by_cases hj : p.1 = j
      · subst hj
        rw [q1]
        simp [← e2]
      · simp [hj]
    simp only [hmod] at h
    refine MqR.of h1 (fun j hj hb => ?_) hl h
    rcases bit j hb with hb | rfl
    · exact h2 j hj hb
    · exact k1
def insertV (T : Tb P) (t : Nat) (m k x : V) (σ : List Ob) (nw : Nat) (K : KK) : Prop :=
  match (T.ty t).inf, m, k with
  | .map kt et, .map j, .d key => isKey (T.ty kt).inf key = true ∧ (match σ[j]? with
    | some (.mq es) => es.all (fun e => isKey (T.ty kt).inf e.1) = true ∧ mqD es = true ∧ σ[nw]? = some .fresh ∧ es[mqIx key es]? = some (key, x) ∧ K .any [(j, .mq es), (nw, .fresh)] [(nw, .tick j (mqIx key es))]
    | _ => False)
  | _, _, _ => False
theorem insertQ_ok {T : Tb P} {t nw : Nat} {m k x : Operand} {K : KK} (ho : o.op = .insert t m k x) (h : insertV T t (ev m) (ev k) (ev x) σ nw K) : ∃ v rd wr, K v rd wr ∧ LStep P o ev rd v wr ∧ (∀ p ∈ wr, ∃ q ∈ rd, q.1 = p.1) ∧ ∀ p ∈ rd, σ[p.1]? = some p.2 := by
  unfold insertV at h
  split at h
  · rename_i kt et j key hs hm' hk'
    obtain ⟨hk, h⟩ := h
    split at h
    · rename_i es hσ
      obtain ⟨ha, hd, hnw, hix, h⟩ := h
      refine ⟨_, _, _, h, fun w0 lent C σ w a R hx hrd K Q hK => ?_, by simp, by simp [hσ, hnw]⟩
      have hops : ∀ y, y = m ∨ y = k ∨ y = x → y ∈ o.op.operands.toList := fun y hy => by simp [ho, Op.operands]; exact hy
      have hmm := hx m (hops m (.inl rfl)); rw [hm'] at hmm; unfold VR at hmm
      have hkk := hx k (hops k (.inr (.inl rfl))); rw [hk'] at hkk; unfold VR at hkk
      have hxx := hx x (hops x (.inr (.inr rfl)))
      have hi := hrd (j, .mq es) (by simp)
      have hg := hrd (nw, .fresh) (by simp)
      obtain ⟨b, hb, e1⟩ := hmm
      obtain ⟨b', l, c, n, k1, hcur, k2, hE, _⟩ := R.obs j _ hi
      rw [hb] at k1; injection k1 with k1; injection k1 with k1; subst k1
      obtain ⟨is, h1, h2, hl, hE⟩ := hE.es
      obtain ⟨l', hr, hE'⟩ := mapUpdate_run hs hk hkk hxx (mq_all ha h1) hE k2
      obtain ⟨C', R', hle⟩ := R.tickM (c' := if mhas key (mqEs es is (l.toList.map (·.born))) then c else c + 1) hi hg hb hcur k2 (MqR.put hk ha hd hix h1 h2 hl hE')
      unfold Oper.wp
      rw [show (execOp a.eval o).run P w = .ok .skip _ by simp [execOp, ho, e1, hr]; rfl]
      exact hK C' _ _ R' hle (VR.any' _ _)
    · exact h.elim
  · exact h.elim
/-- Which entry of map j a thing tells of. -/
def tickIx (j : Nat) : Ob → Option Nat
  | .tick m i => if m = j then some i else none
  | .dead => none
  | .fresh => none
  | .cells _ _ => none
  | .cap _ _ _ => none
  | .grw _ _ _ _ _ => none
  | .mp _ _ => none
  | .mq _ => none
def ticks (j : Nat) : Nat → List Ob → List (Nat × Nat)
  | _, [] => []
  | k, o :: l => match tickIx j o with
    | some i => (k, i) :: ticks j (k + 1) l
    | none => ticks j (k + 1) l
theorem ticks_at {j : Nat} : ∀ {l : List Ob} {k : Nat} {p : Nat × Nat}, p ∈ ticks j k l → k ≤ p.1 ∧ l[p.1 - k]? = some (.tick j p.2)
  | [], _, _, h => by simp [ticks] at h
  | o :: l, k, p, h => by
    unfold ticks at h
    have rest : p ∈ ticks j (k + 1) l → k ≤ p.1 ∧ (o :: l)[p.1 - k]? = some (.tick j p.2) := fun h => by
      obtain ⟨h1, h2⟩ := ticks_at h
      refine ⟨by omega, ?_⟩
      rw [show p.1 - k = (p.1 - (k + 1)) + 1 by omega, List.getElem?_cons_succ]
      exact h2
    split at h
    · rename_i i hi
      rcases List.mem_cons.1 h with rfl | h
      · refine ⟨Nat.le_refl _, ?_⟩
        simp only [Nat.sub_self, List.getElem?_cons_zero]
        cases o <;> simp only [tickIx] at hi <;> try cases hi
        split at hi
        · rename_i e
          injection hi with hi
          subst e; subst hi; rfl
        · cases hi
      · exact rest h
    · exact rest h
def tickB (n : Nat) (ts : List (Nat × Nat)) : Bool := (List.range n).all fun i => ts.any fun p => p.2 == i
def lookupQV (T : Tb P) (t : Nat) (x k : V) (ok : Bool) (σ : List Ob) (K : KK) : Prop :=
  match (T.ty t).inf, x, k with
  | .map kt et, .map j, .d key => isKey (T.ty kt).inf key = true ∧ (match zV T et with
    | some zv => (match σ[j]? with
      | some (.mq es) => es.all (fun e => isKey (T.ty kt).inf e.1) = true ∧ mqD es = true ∧ tickB es.length (ticks j 0 σ) = true ∧ (if ok then K (.tup [mget zv key (mq0 es), .d (.bool (mhas key (mq0 es)))]) ((j, .mq es) :: (ticks j 0 σ).map fun p => (p.1, .tick j p.2)) [] else K (mget zv key (mq0 es)) ((j, .mq es) :: (ticks j 0 σ).map fun p => (p.1, .tick j p.2)) [])
      | _ => False)
    | none => False)
  | _, _, _ => False
theorem lookupQ_ok {T : Tb P} {t : Nat} {x k : Operand} {ok : Bool} {K : KK} (ho : o.op = .lookup t x k ok) (h : lookupQV T t (ev x) (ev k) ok σ K) : ∃ v rd wr, K v rd wr ∧ LStep P o ev rd v wr ∧ (∀ p ∈ wr, ∃ q ∈ rd, q.1 = p.1) ∧ ∀ p ∈ rd, σ[p.1]? = some p.2 := by
  unfold lookupQV at h
  split at h
  · rename_i kt et j key hs hx' hk'
    obtain ⟨hk, h⟩ := h
    split at h
    · rename_i zv hz
      split at h
      · rename_i es hσ
        obtain ⟨ha, hd, htb, h⟩ := h
        have hrd0 : ∀ p ∈ ((j, Ob.mq es) :: (ticks j 0 σ).map fun p => (p.1, Ob.tick j p.2)), σ[p.1]? = some p.2 := fun p hp => by
          rcases List.mem_cons.1 hp with rfl | hp
          · exact hσ
          · obtain ⟨q, hq, rfl⟩ := List.mem_map.1 hp
            have h9 := (ticks_at hq).2
            rw [Nat.sub_zero] at h9
            exact h9
        have hmain : ∀ (w0 : Bs) (lent : Nat → Prop) (C : Cx) (σ1 : List Ob) (w : World) (a : Act), Rel w0 lent C σ1 w → (∀ x ∈ o.op.operands.toList, VR C (ev x) (a.eval x)) → (∀ p ∈ ((j, Ob.mq es) :: (ticks j 0 σ).map fun p => (p.1, Ob.tick j p.2)), σ1[p.1]? = some p.2) → ∃ u, VR C (mget zv key (mq0 es)) u ∧ (Instr.lookup t (a.eval x) (a.eval k) ok).run P w = .ok (if ok then .tuple #[u, .bool (mhas key (mq0 es))] else u) w := by
          intro w0 lent C σ1 w a R hx hrd
          have hxx := hx x (by simp [ho, Op.operands]); rw [hx'] at hxx; unfold VR at hxx
          have hkk := hx k (by simp [ho, Op.operands]); rw [hk'] at hkk; unfold VR at hkk
          obtain ⟨b, hb, e1⟩ := hxx
          obtain ⟨b', l, c, n, k1, hcur, k2, hE, _⟩ := R.obs j _ (hrd (j, .mq es) (by simp))
          rw [hb] at k1; injection k1 with k1; injection k1 with k1; subst k1
          obtain ⟨is, h1, h2, hl, hE⟩ := hE.es
          have hbits : ∀ i, i < es.length → i ∈ is := fun i hi => by
            refine h2 i hi ?_
            have h3 := List.all_eq_true.1 htb i (by simpa using hi)
            obtain ⟨p, hp, h4⟩ := List.any_eq_true.1 h3
            have h4 : p.2 = i := by simpa using h4
            obtain ⟨_, _, n2, h5, h6⟩ := R.obs p.1 _ (hrd (p.1, .tick j p.2) (List.mem_cons_of_mem _ (List.mem_map.2 ⟨p, hp, rfl⟩)))
            rw [hcur] at h5
            injection h5 with h5
            injection h5 with h5 _
            rw [h5, ← h4]
            exact h6
          have hlike := mget_like (key := key) (zv := zv) (es := mqEs es is (l.toList.map (·.born))) (es0 := mq0 es) (fun e he => by
            obtain ⟨i, hi, q1, q2⟩ := mqEs_mem he
            refine ⟨((es.getD i (.nilp, .any)).1, (es.getD i (.nilp, .any)).2, 0), List.mem_map.2 ⟨es.getD i (.nilp, .any), ?_, rfl⟩, q1.symm, q2.symm⟩
            have hlt := h1 i hi
            rw [List.getD_eq_getElem?_getD, List.getElem?_eq_getElem hlt]
            exact List.getElem_mem hlt) (fun e0 he0 => by
            obtain ⟨e, he2, rfl⟩ := List.mem_map.1 he0
            obtain ⟨i, hi, rfl⟩ := List.getElem_of_mem he2
            obtain ⟨e', q1, q2⟩ := mqEs_of (es := es) hl (hbits i hi)
            exact ⟨e', q1, by rw [q2, List.getD_eq_getElem?_getD, List.getElem?_eq_getElem hi]; rfl⟩) (fun e he e' he' q1 q2 => by
            obtain ⟨e3, he3, rfl⟩ := List.mem_map.1 he
            obtain ⟨e4, he4, rfl⟩ := List.mem_map.1 he'
            obtain ⟨i, hi, rfl⟩ := List.getElem_of_mem he3
            obtain ⟨i', hi', rfl⟩ := List.getElem_of_mem he4
            have r1 := isKey_eq hk (List.all_eq_true.1 ha _ he3) q1
            have r2 := isKey_eq hk (List.all_eq_true.1 ha _ he4) q2
            have : i = i' := mqD_inj hd hi hi' (by
              rw [List.getD_eq_getElem?_getD, List.getD_eq_getElem?_getD, List.getElem?_eq_getElem hi, List.getElem?_eq_getElem hi']
              simp only [Option.getD_some]
              rw [← r1, ← r2]
              exact dkey_refl hk)
            subst this
            rfl)
          obtain ⟨z, hz1, hz2⟩ := zV_ok hz C
          have ha' := mq_all (bs := l.toList.map (·.born)) ha h1
          have hf := find_key (l := l.toList) hk hkk ha' hE.len (fun j e m h1 h2 => (hE.at h1 h2).1) w
          obtain ⟨g1, g2⟩ := mfind_get (key := key) (zv := zv) (es := mqEs es is (l.toList.map (·.born)))
          have hc := fun em => check_key (u := a.eval k) hk em w
          have hut := run_underlying (inf_map T hs) w
          rw [← hlike.1, ← hlike.2]
          cases hm : mfind key (mqEs es is (l.toList.map (·.born))) with
          | none =>
            rw [hm] at hf g1 g2
            refine ⟨z, by rw [g1]; exact hz2, ?_⟩
            unfold Instr.lookup
            simp only [e1, Sem.run_bind, hut, Result.andThen_ok, Sem.run_pure, MapKept.run_getObj_map k2, hc, hf, Option.bind_none, hz1, g2]
            cases ok <;> rfl
          | some p =>
            rw [hm] at hf g1 g2
            obtain ⟨e, q1, q2, q3⟩ := mfind_lt hm
            have hpl : p.1 < l.toList.length := by rw [hE.len]; exact (List.getElem?_eq_some_iff.1 q1).1
            have hlp : l.toList[p.1]? = some l.toList[p.1] := List.getElem?_eq_getElem hpl
            refine ⟨l.toList[p.1].val, by rw [g1]; have := (hE.at q1 hlp).2.1; rw [q2] at this; exact this, ?_⟩
            unfold Instr.lookup
            simp only [Option.bind_some, hlp, Option.map_some] at hf
            simp only [e1, Sem.run_bind, hut, Result.andThen_ok, Sem.run_pure, MapKept.run_getObj_map k2, hc, hf, g2]
            cases ok <;> rfl
        cases ok with
        | true =>
          simp only [if_true] at h
          refine ⟨_, _, _, h, fun w0 lent C σ w a R hx hrd K Q hK => ?_, by simp, hrd0⟩
          obtain ⟨u, hu, hr⟩ := hmain w0 lent C σ w a R hx hrd
          unfold Oper.wp
          rw [show (execOp a.eval o).run P w = .ok (.value (.tuple #[u, .bool (mhas key (mq0 es))])) w by simp [execOp, ho, hr]]
          refine hK C w _ R (Cx.le_refl C) ?_
          unfold VR
          exact ⟨[u, .bool (mhas key (mq0 es))], rfl, .cons hu (.cons (by unfold VR DR; rfl) .nil)⟩
        | false =>
          simp only [Bool.false_eq_true, if_false] at h
          refine ⟨_, _, _, h, fun w0 lent C σ w a R hx hrd K Q hK => ?_, by simp, hrd0⟩
          obtain ⟨u, hu, hr⟩ := hmain w0 lent C σ w a R hx hrd
          unfold Oper.wp
          rw [show (execOp a.eval o).run P w = .ok (.value u) w by simp [execOp, ho, hr]]
          exact hK C w _ R (Cx.le_refl C) hu
      · exact h.elim
    · exact h.elim
  · exact h.elim
end
end Go.Proofs.Ytgebfcdcpmmgnaa.Vs
