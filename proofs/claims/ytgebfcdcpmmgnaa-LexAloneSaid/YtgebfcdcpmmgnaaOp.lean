/- Operations in the walk: each law takes the state S and hands the next one on. -/
import Derived.Test.YtgebfcdcpmmgnaaRep
set_option linter.unusedVariables false
set_option linter.unusedSimpArgs false
namespace Go.Proofs.Ytgebfcdcpmmgnaa.Sl
open Go.RowKit
/-- Types of one cell; types and how many cells they have; types of several cells (structs, arrays). -/
def isCellB (P : Program) (t : TypeId) : Bool := match P.underlying t with
  | some (.struct _) | some (.array _ _) | none => false
  | some _ => true
def isAggB (P : Program) (t : TypeId) : Bool := match P.underlying t with
  | some (.struct _) | some (.array _ _) => true
  | _ => false
def hasSize (P : Program) (q : Nat × Nat) : Bool := (P.info? q.1).map (·.size) == some q.2
def isBytesB (P : Program) (t : TypeId) : Bool := match P.underlying t with
  | some (.slice e) => match P.underlying e with
    | some (.int .u8) => true
    | _ => false
  | _ => false
/-- A slice's type: its element's type, how many cells and bytes an element has. -/
def isSlB (P : Program) (q : Nat × Nat × Nat × Nat) : Bool := (match P.underlying q.1 with
  | some (.slice e) => e == q.2.1
  | _ => false) && (match P.info? q.2.1 with
  | some i => i.size == q.2.2.1 && i.bytes == q.2.2.2 && (match i.zero with
    | some z => z.cells.size == q.2.2.1
    | none => false)
  | none => false)
def isStrB (P : Program) (t : TypeId) : Bool := match P.underlying t with
  | some .string => true
  | _ => false
/-- A slice of bytes' type, its element's. -/
def isMkB (P : Program) (q : Nat × Nat) : Bool := (match P.underlying q.1 with
  | some (.slice e) => e == q.2
  | _ => false) && (match P.info? q.2 with
  | some i => i.size == 1 && i.bytes == 1 && (match i.zero with
    | some (.int .u8 0) => true
    | _ => false)
  | none => false)
structure Tabs (P : Program) where
  strs : List Nat
  st1 : strs.all (isStrB P) = true
  mks : List (Nat × Nat)
  m1 : mks.all (isMkB P) = true
  sls : List (Nat × Nat × Nat × Nat)
  s1 : sls.all (isSlB P) = true
  bytes : List Nat
  b1 : bytes.all (isBytesB P) = true
  cells : List Nat
  aggs : List (Nat × Nat)
  c1 : cells.all (fun t => isCellB P t && hasSize P (t, 1)) = true
  a1 : aggs.all (fun q => isAggB P q.1 && hasSize P q) = true
theorem isAgg_cell {P : Program} {t : TypeId} (h : isCellB P t = true) (w : World) : (isAgg t).run P w = .ok false w := by
  unfold isCellB at h
  split at h
  · cases h
  · cases h
  · cases h
  · rename_i d h1 h2 hd
    unfold isAgg
    rw [Sem.run_bind, run_underlying hd w]
    cases d <;> first | rfl | simp_all
theorem isAgg_agg {P : Program} {t : TypeId} (h : isAggB P t = true) (w : World) : (isAgg t).run P w = .ok true w := by
  unfold isAggB at h
  split at h
  · rename_i hd
    unfold isAgg
    rw [Sem.run_bind, run_underlying hd w]
    rfl
  · rename_i hd
    unfold isAgg
    rw [Sem.run_bind, run_underlying hd w]
    rfl
  · cases h
theorem lookup_mem {β : Type} {t : Nat} {n : β} : ∀ {l : List (Nat × β)}, l.lookup t = some n → (t, n) ∈ l
  | [], h => by simp at h
  | (a, b) :: l, h => by
    rw [List.lookup_cons] at h
    split at h
    · rename_i hq
      injection h with h
      simp at hq
      subst hq; subst h
      exact List.mem_cons_self
    · exact List.mem_cons_of_mem _ (lookup_mem h)
section
variable {P : Program} {ops : Array Oper} {rest : List Oper} {K : Act → World → Prop} {o : Oper} {a : Act} {Q : Exit → Act → World → Prop} {w : World} {G : Gh} {l l' l2 : List As}

/-- One operation, and K behind it: in a list in order, or in a region that draws its order. -/
def Seq (P : Program) (ops : Array Oper) (Q : Exit → Act → World → Prop) (o : Oper) (a : Act) (w : World) (K : Act → World → Prop) : Prop :=
  ∀ K' : Act → World → Prop, (∀ a w, K a w → K' a w) → if Region.wanted o (yielded ops a.tmps) = true then Oper.wp P o a w K' Q else K' (a.put o.dst undef) w
theorem wpl_of_seq (h : Seq P ops Q o a w (wpList P ops Q rest)) : wpList P ops Q (o :: rest) a w := wpList_step h
theorem sq_event {v : Value} {w1 : World} (hgd : Region.wanted o (yielded ops a.tmps) = true) (hrun : (execOp a.eval o).run P w = .ok (.value v) w1) (h : K (a.put o.dst v) w1) : Seq P ops Q o a w K := by
  refine fun K hK => ?_
  rw [if_pos hgd]
  unfold Oper.wp
  rw [hrun]
  exact hK _ _ h
theorem sq_skip {w1 : World} (hgd : Region.wanted o (yielded ops a.tmps) = true) (hd : o.dst = none) (hrun : (execOp a.eval o).run P w = .ok .skip w1) (h : K a w1) : Seq P ops Q o a w K := by
  refine fun K hK => ?_
  rw [if_pos hgd]
  unfold Oper.wp
  rw [hrun]
  refine hK _ _ ?_
  rw [hd]
  exact h
/-- A new block: box, alloc, buildSlice's .. -/
theorem sq_box (S : St w G l) {t : TypeId} {x : Operand} (ho : o.op = .box t x) (hgd : Region.wanted o (yielded ops a.tmps) = true) {cs : List Value} {e : TypeId}
    (hrun : (execOp a.eval o).run P w = .ok (.value (.pointer (some ⟨w.heap.size, 0, none⟩))) (w.alloc (.cells cs.toArray e (0, 0))))
    (h : ∀ g w1, St w1 G (Cs g cs e :: l) → K (a.put o.dst (.pointer (some ⟨g, 0, none⟩))) w1) : Seq P ops Q o a w K :=
  sq_event hgd hrun (h _ _ (S.alloc _))
theorem sq_alloc (S : St w G l) {t : TypeId} (ho : o.op = .alloc t) (hgd : Region.wanted o (yielded ops a.tmps) = true) {cs : List Value} {e : TypeId}
    (hrun : (execOp a.eval o).run P w = .ok (.value (.pointer (some ⟨w.heap.size, 0, none⟩))) (w.alloc (.cells cs.toArray e (0, 0))))
    (h : ∀ g w1, St w1 G (Cs g cs e :: l) → K (a.put o.dst (.pointer (some ⟨g, 0, none⟩))) w1) : Seq P ops Q o a w K :=
  sq_event hgd hrun (h _ _ (S.alloc _))
theorem sq_lit (S : St w G l) {t : TypeId} {n : Nat} {ps : Array (Nat × Operand)} (ho : o.op = .buildSlice t n ps) (hgd : Region.wanted o (yielded ops a.tmps) = true) {cs : List Value} {e : TypeId} {n1 n2 : Nat}
    (hrun : (execOp a.eval o).run P w = .ok (.value (.slice (some ⟨w.heap.size, 0, none⟩) n1 n2)) (w.alloc (.cells cs.toArray e (0, 0))))
    (h : ∀ g w1, St w1 G (Cs g cs e :: l) → K (a.put o.dst (.slice (some ⟨g, 0, none⟩) n1 n2)) w1) : Seq P ops Q o a w K :=
  sq_event hgd hrun (h _ _ (S.alloc _))
/-- A load of one cell out of a block of one's own. -/
theorem run_load_at {t : TypeId} {x : Operand} (ho : o.op = .load t x) {ad : Addr} (hx : a.eval x = .pointer (some ad)) (ht : (isAgg t).run P w = .ok false w) {v : Value} (hc : w.cell? ad = some v) :
    (execOp a.eval o).run P w = .ok (.value v) w := by
  unfold execOp
  simp only [ho, hx, Instr.loadAt, Instr.sureAddr, loadVar, Sem.run_bind, Sem.run_pure, Result.andThen_ok, ht, Bool.false_eq_true, if_false, run_load, hc]
theorem sq_load (T : Tabs P) (S : St w G l) {t : TypeId} {x : Operand} (ho : o.op = .load t x) (hgd : Region.wanted o (yielded ops a.tmps) = true) (hT : T.cells.contains t = true) {g j : Nat} (hx : a.eval x = .pointer (some ⟨g, j, none⟩))
    {cs : List Value} {e : TypeId} (hp : Pick l (Cs g cs e) l') {v : Value} (hv : cs[j]? = some v) (h : K (a.put o.dst v) w) : Seq P ops Q o a w K := by
  have h1 := List.all_eq_true.1 T.c1 t (by simpa using hT)
  simp only [Bool.and_eq_true] at h1
  exact sq_event hgd (run_load_at ho hx (isAgg_cell h1.1 w) (S.cell j hp hv)) h
theorem run_load_agg {t : TypeId} {x : Operand} (ho : o.op = .load t x) {ad : Addr} (hx : a.eval x = .pointer (some ad)) (ht : (isAgg t).run P w = .ok true w) {vs : List Value} (hs : (P.info? t).map (·.size) = some vs.length)
    (hc : ∀ j v, vs[j]? = some v → w.cell? (ad.add j) = some v) : (execOp a.eval o).run P w = .ok (.value (.agg vs.toArray)) w := by
  cases hq : P.info? t with
  | none => simp [hq] at hs
  | some i =>
    have hsz : i.size = vs.length := by simpa [hq] using hs
    have hl := run_loadCells_list (P := P) w ad vs hc
    unfold execOp
    simp [ho, hx, Instr.loadAt, Instr.sureAddr, loadVar, ht, sizeOf, typeInfo, hq, hsz, hl]
/-- A load of a struct or an array out of a block of one's own. -/
theorem sq_load_agg (T : Tabs P) (S : St w G l) {t : TypeId} {x : Operand} (ho : o.op = .load t x) (hgd : Region.wanted o (yielded ops a.tmps) = true) {n : Nat} (hT : T.aggs.lookup t = some n) {g j : Nat} (hx : a.eval x = .pointer (some ⟨g, j, none⟩))
    {cs : List Value} {e : TypeId} (hp : Pick l (Cs g cs e) l') {vs : List Value} (hv : (cs.drop j).take n = vs) (hn : vs.length = n) (h : K (a.put o.dst (.agg vs.toArray)) w) : Seq P ops Q o a w K := by
  have h1 := List.all_eq_true.1 T.a1 (t, n) (lookup_mem hT)
  simp only [Bool.and_eq_true, hasSize, beq_iff_eq] at h1
  refine sq_event hgd (run_load_agg ho hx (isAgg_agg h1.1 w) (by rw [hn]; exact h1.2) (fun k v hk => ?_)) h
  have ha : (⟨g, j, none⟩ : Addr).add k = ⟨g, j + k, none⟩ := by unfold Addr.add; split <;> simp_all
  rw [ha]
  refine S.cell _ hp ?_
  subst hv
  rw [List.getElem?_take] at hk
  split at hk
  · rwa [List.getElem?_drop] at hk
  · cases hk
/-- A store of one cell into a block of one's own. -/
theorem run_store_at {t : TypeId} {p x : Operand} (ho : o.op = .store t p x) {ad : Addr} {v u : Value} (hp : a.eval p = .pointer (some ad)) (hx : a.eval x = v) (h1 : v.oneCell' = true) (ht : (P.info? t).map (·.size) = some 1)
    (hc : w.cell? ad = some u) (hf : w.frozen? ad = false) : (execOp a.eval o).run P w = .ok .skip (w.setCell ad v) := by
  have hcells : v.cells = #[v] := by cases v <;> first | rfl | (simp [Value.oneCell'] at h1)
  cases hq : P.info? t with
  | none => simp [hq] at ht
  | some i =>
    have hs : i.size = 1 := by simpa [hq] using ht
    have ha0 : ad.add 0 = ad := by simp [Addr.add]
    have hst := run_store P w ad v .plain h1
    rw [hc, hf] at hst
    simp only [Bool.false_eq_true, if_false] at hst
    unfold execOp
    simp [ho, hp, hx, Instr.storeAt, Instr.sureAddr, storeVar, sizeOf, typeInfo, hq, hcells, hs, storeCells, ha0, hst]
theorem sq_store (T : Tabs P) (S : St w G l) {t : TypeId} {p x : Operand} (ho : o.op = .store t p x) (hgd : Region.wanted o (yielded ops a.tmps) = true) (hd : o.dst = none) (hT : T.cells.contains t = true) {g j : Nat} {v : Value} (hp : a.eval p = .pointer (some ⟨g, j, none⟩)) (hx : a.eval x = v) (h1 : v.oneCell' = true)
    {cs : List Value} {e : TypeId} (u : Upd l (Cs g cs e) (Cs g (cs.set j v) e) l') (hj : j < cs.length)
    (h : ∀ w1, St w1 G l' → K a w1) : Seq P ops Q o a w K := by
  have h2 := List.all_eq_true.1 T.c1 t (by simpa using hT)
  simp only [Bool.and_eq_true, hasSize, beq_iff_eq] at h2
  obtain ⟨r, p1, p2⟩ := u.pick
  exact sq_skip hgd hd (run_store_at ho hp hx h1 h2.2 (S.cell j p1 (List.getElem?_eq_getElem hj)) (S.frozen j p1)) (h _ (S.put j u))
def splice (cs : List Value) (j : Nat) (vs : List Value) : List Value := cs.take j ++ vs ++ cs.drop (j + vs.length)
theorem St.putRow {cs cs' : List Value} {g : Nat} {e : TypeId} (S : St w G l) (u : Upd l (Cs g cs e) (Cs g cs' e) l') : St (w.setRow g cs'.toArray) G l' := by
  refine S.stepU u rfl rfl rfl (fun F hA _ => ?_)
  obtain ⟨a, f⟩ := hA
  refine ⟨fun b hb _ => setRow_other w g b _ (fun e => hb ((f b).2 e)), F, ⟨setRow_heap w g cs.toArray _ e _ a, f⟩, fun b hb => .inl hb⟩
/-- A store of a struct or an array into a block of one's own. -/
theorem sq_store_agg (T : Tabs P) (S : St w G l) {t : TypeId} {p x : Operand} (ho : o.op = .store t p x) (hgd : Region.wanted o (yielded ops a.tmps) = true) (hd : o.dst = none) {vs : List Value} (hx : a.eval x = .agg vs.toArray) (hT : T.aggs.lookup t = some vs.length) {g j : Nat} (hp : a.eval p = .pointer (some ⟨g, j, none⟩)) (h1 : vs.all (·.oneCell') = true)
    {cs : List Value} {e : TypeId} (u : Upd l (Cs g cs e) (Cs g (splice cs j vs) e) l') (hj : j + vs.length ≤ cs.length)
    (h : ∀ w1, St w1 G l' → K a w1) : Seq P ops Q o a w K := by
  have h2 := List.all_eq_true.1 T.a1 (t, vs.length) (lookup_mem hT)
  simp only [Bool.and_eq_true, hasSize, beq_iff_eq] at h2
  obtain ⟨r, p1, p2⟩ := u.pick
  have hr := run_storeCells_at (P := P) g j e vs 0 cs.toArray w (S.blk p1) (by simp; omega) (fun v hv => List.all_eq_true.1 h1 v hv)
  simp only [Nat.add_zero] at hr
  refine sq_skip hgd hd ?_ (h _ (S.putRow u))
  cases hq : P.info? t with
  | none => simp [hq] at h2
  | some i =>
    have hsz : i.size = vs.length := by simpa [hq] using h2.2
    unfold execOp
    simp [ho, hp, hx, Instr.storeAt, Instr.sureAddr, storeVar, Value.cells, sizeOf, typeInfo, hq, hsz, hr, splice]
end
/-! ### []byte of a constant text: a new row, marked as a text's -/
section
variable {P : Program} {ops : Array Oper} {rest : List Oper} {K : Act → World → Prop} {o : Oper} {a : Act} {Q : Exit → Act → World → Prop} {w : World} {G : Gh} {l l' : List As}
theorem st_mark {g : Nat} {xs : List UInt8} {e : TypeId} (S : St w G (Cs g (xs.map bv) e :: l)) {n c : Nat} (hn : n = xs.length) (hc : n ≤ c) (hm : c ≤ maxLen) :
    St (w.freeze ⟨g, n, none⟩ 1) G (Val false Rep.byte.slice [.slice (some ⟨g, 0, none⟩) n c] xs :: l) := by
  subst hn
  refine S.step rfl rfl rfl (fun F hF hd => ?_)
  obtain ⟨h1, f⟩ := hF
  have hlt : g < w.heap.size := (Array.getElem?_eq_some_iff.1 h1).1
  have hg : hp (w.freeze ⟨g, xs.length, none⟩ 1) g = some (.cells (xs.map bv).toArray e (xs.length, xs.length + 1)) := by
    unfold hp World.freeze
    simp only [Nat.one_ne_zero, if_false, Array.getElem?_modify, if_true]
    have h2 : w.heap[g]? = some (.cells (xs.map bv).toArray e (0, 0)) := h1
    rw [h2]
    simp
  refine ⟨fun b hb _ => ?_, F, ⟨⟨some ⟨g, 0, none⟩, c, rfl, hc, Nat.le_trans hc hm, fun _ => ⟨⟨g, 0, none⟩, (xs.map bv).map fun x => [x], rfl, .inl ((f g).2 rfl), bytes_all2 _ _ _, fun j v hv => ?_⟩⟩, fun b hb => ?_⟩, fun b hb => .inl hb⟩
  · unfold hp World.freeze
    simp only [Nat.one_ne_zero, if_false, Array.getElem?_modify]
    rw [if_neg (fun e => hb ((f b).2 e.symm))]
  · rw [flatten_singles] at hv
    have ha : (⟨g, 0, none⟩ : Addr).add j = ⟨g, j, none⟩ := by unfold Addr.add; split <;> simp_all
    rw [ha]
    unfold cellH
    rw [hg]
    simpa using hv
  · rw [(f b).1 hb, hg]; simp
theorem run_text {t : TypeId} (ht : isBytesB P t = true) {g n c : Nat} {cs : Array Value} {e : TypeId} (hg : w.heap[g]? = some (.cells cs e (0, 0))) :
    (convert t t (.slice (some ⟨g, 0, none⟩) n c)).run P w = .ok (.slice (some ⟨g, 0, none⟩) n c) (w.freeze ⟨g, cs.size, none⟩ 1) := by
  unfold isBytesB at ht
  split at ht
  · rename_i e1 h1
    split at ht
    · rename_i h2
      have hs : w.shape? g = some (e, cs.size) := by simp [World.shape?, hg]
      unfold convert
      simp only [Sem.run_bind, run_underlying h1 w, Result.andThen_ok, run_underlying h2 w, beq_self_eq_true, markStringish, run_shape, hs, run_freeze, Sem.run_pure]
    · cases ht
  · cases ht
theorem sq_text (T : Tabs P) {g : Nat} {xs : List UInt8} {e t : TypeId} {x : Operand} {n c : Nat} (S : St w G (Cs g (xs.map bv) e :: l)) (ho : o.op = .convert t t x) (hgd : Region.wanted o (yielded ops a.tmps) = true) (hT : T.bytes.contains t = true) (hx : a.eval x = .slice (some ⟨g, 0, none⟩) n c)
    (hn : n = xs.length) (hc : n ≤ c) (hm : c ≤ maxLen)
    (h : ∀ w1, St w1 G (Val false Rep.byte.slice [.slice (some ⟨g, 0, none⟩) n c] xs :: l) → K (a.put o.dst (.slice (some ⟨g, 0, none⟩) n c)) w1) : Seq P ops Q o a w K := by
  refine sq_event hgd ?_ (h _ (st_mark S hn hc hm))
  have hb := List.all_eq_true.1 T.b1 t (by simpa using hT)
  have hr := run_text (n := n) (c := c) hb (S.blk .here)
  unfold execOp
  simp only [ho, hx, Sem.run_bind, hr, Result.andThen_ok, Sem.run_pure]
  simp [hn]
end
/-! ### string(b); make([]byte, n) -/
section
variable {P : Program} {ops : Array Oper} {rest : List Oper} {K : Act → World → Prop} {o : Oper} {a : Act} {Q : Exit → Act → World → Prop} {w : World} {G : Gh} {l l' : List As}
theorem run_str (T : Tabs P) {t u : TypeId} (hT : T.bytes.contains t = true) (hU : T.strs.contains u = true) {v : Value} {xs : List UInt8} (hr : Rd Rep.byte.slice w xs [v]) : (convert t u v).run P w = .ok (.string ⟨xs.toArray⟩) w := by
  have hb := List.all_eq_true.1 T.b1 t (by simpa using hT)
  have hs := List.all_eq_true.1 T.st1 u (by simpa using hU)
  unfold isBytesB at hb
  unfold isStrB at hs
  split at hb
  · rename_i e1 h1
    split at hb
    · rename_i h2
      split at hs
      · rename_i h3
        obtain ⟨F, ad, c, e, hle, hm, hsl⟩ := hr
        injection e with e _
        subst e
        cases ad with
        | none =>
          have hn : xs = [] := Classical.byContradiction fun hn => by obtain ⟨x, _, hx, _⟩ := hsl hn; cases hx
          subst hn
          exact run_convert_bytes_nil w t e1 h1 h2 _ _ u h3
        | some x =>
          refine run_convert_bytes_back w t u e1 x c xs h1 h2 h3 (fun j hj => ?_)
          obtain ⟨ad, e, hc⟩ := Rep.bytes_at hsl (List.getElem?_eq_getElem hj)
          injection e with e
          subst e
          exact hc
      · cases hs
    · cases hb
  · cases hb
theorem sq_str (T : Tabs P) {t u : TypeId} {x : Operand} {ad : Option Addr} {n c : Nat} {xs : List UInt8} (ho : o.op = .convert t u x) (hgd : Region.wanted o (yielded ops a.tmps) = true) (hT : T.bytes.contains t = true) (hU : T.strs.contains u = true) (hx : a.eval x = .slice ad n c) (hr : Rd Rep.byte.slice w xs [.slice ad n c])
    (h : K (a.put o.dst (.string ⟨xs.toArray⟩)) w) : Seq P ops Q o a w K := by
  refine sq_event hgd ?_ h
  unfold execOp
  simp only [ho, hx, Sem.run_bind, run_str T hT hU hr, Result.andThen_ok, Sem.run_pure]
theorem mkB_spec {t e : Nat} (h : isMkB P (t, e) = true) : P.underlying t = some (.slice e) ∧ ∃ i, P.info? e = some i ∧ i.zero = some (.int .u8 0) ∧ i.size = 1 ∧ i.bytes = 1 := by
  unfold isMkB at h
  simp only [Bool.and_eq_true] at h
  obtain ⟨h1, h2⟩ := h
  split at h1
  · rename_i e1 hu
    simp at h1
    subst h1
    split at h2
    · rename_i i hi
      simp only [Bool.and_eq_true, beq_iff_eq] at h2
      obtain ⟨⟨h3, h4⟩, h5⟩ := h2
      split at h5
      · rename_i hz
        exact ⟨hu, i, hi, hz, h3, h4⟩
      · cases h5
    · cases h2
  · cases h1
theorem sq_make (T : Tabs P) {t e : TypeId} {x y : Operand} {kl kc : IntKind} {n : Nat} (S : St w G l) (ho : o.op = .makeSlice t x y) (hgd : Region.wanted o (yielded ops a.tmps) = true) (hT : T.mks.lookup t = some e) (hx : a.eval x = .int kl (n : Int)) (hy : a.eval y = .int kc (n : Int)) (hn : n ≤ 281474976710656)
    (h : ∀ g w1, St w1 G (Cs g (List.replicate n (bv 0)) e :: l) → K (a.put o.dst (.slice (some ⟨g, 0, none⟩) n n)) w1) : Seq P ops Q o a w K := by
  obtain ⟨hu, i, hi, hz, hs, hb⟩ := mkB_spec (List.all_eq_true.1 T.m1 (t, e) (lookup_mem hT))
  have hr := run_make (P := P) w t e i (.int .u8 0) hu hi hz kl kc (n : Int) (n : Int) (by omega) (Int.le_refl _) (by rw [hb]; omega) (by omega)
  rw [hs] at hr
  have hc : madeCells (Value.int .u8 0).cells ((n : Int).toNat * 1) = (List.replicate n (bv 0)).toArray := by
    apply Array.ext'
    rw [List.toList_toArray]
    simp only [Int.toNat_natCast, Nat.mul_one]
    exact toList_madeCells_one (.int .u8 0) n
  rw [hc] at hr
  simp only [Int.toNat_natCast] at hr
  refine sq_event hgd ?_ (h _ _ (S.alloc _))
  unfold execOp
  simp only [ho, hx, hy, Sem.run_bind, hr, Result.andThen_ok, Sem.run_pure]
end
/-! ### append -/
theorem slB_spec {P : Program} {t e sz by_ : Nat} (h : isSlB P (t, e, sz, by_) = true) : P.underlying t = some (.slice e) ∧ ∃ i z, P.info? e = some i ∧ i.zero = some z ∧ i.size = sz ∧ i.bytes = by_ ∧ z.cells.size = sz := by
  unfold isSlB at h
  simp only [Bool.and_eq_true] at h
  obtain ⟨h1, h2⟩ := h
  split at h1
  · rename_i e1 hu
    simp at h1
    subst h1
    split at h2
    · rename_i i hi
      simp only [Bool.and_eq_true, beq_iff_eq] at h2
      obtain ⟨⟨h3, h4⟩, h5⟩ := h2
      split at h5
      · rename_i z hz
        exact ⟨hu, i, z, hi, hz, h3, h4, by simpa using h5⟩
      · cases h5
    · cases h2
  · cases h1
def As.and (A B : As) : As where
  p G h F := ∃ F1 F2, A.p G h F1 ∧ B.p G h F2 ∧ (∀ b, F1 b → ¬ F2 b) ∧ ∀ b, F b ↔ (F1 b ∨ F2 b)
  loc := fun ⟨F1, F2, a, b, d, f⟩ k => ⟨F1, F2, A.loc a (fun x hx hn => k x (hx.imp (fun y => (f x).2 (.inl y)) id) hn), B.loc b (fun x hx hn => k x (hx.imp (fun y => (f x).2 (.inr y)) id) hn), d, f⟩
  mono := fun ⟨F1, F2, a, b, d, f⟩ k q => ⟨F1, F2, A.mono a k (fun x hx => q x ((f x).2 (.inl hx))), B.mono b k (fun x hx => q x ((f x).2 (.inr hx))), d, f⟩
  dom := fun ⟨F1, F2, a, b, d, f⟩ x hx => ((f x).1 hx).elim (A.dom a x) (B.dom b x)
section
variable {P : Program} {ops : Array Oper} {rest : List Oper} {K : Act → World → Prop} {o : Oper} {a : Act} {Q : Exit → Act → World → Prop} {w : World} {G : Gh} {l l' l2 : List As} {α : Type} {A : Rep α} {r : Bool} {e : TypeId} {v : Value} {xs ys : List α}
theorem St.join {A B : As} (S : St w G (A :: B :: l)) : St w G (A.and B :: l) := by
  obtain ⟨F1, h1, d1, F2, h2, d2, s⟩ := S.sep
  refine ⟨S.ro, S.os, S.tape, S.output, fun b => F1 b ∨ F2 b, ⟨F1, F2, h1, h2, fun b x y => d2 b y (.inr x), fun b => Iff.rfl⟩, fun b hb => hb.elim (d1 b) (fun x y => d2 b x (.inl y)), Sep.dom_mono s (fun b hb => .inl ?_)⟩
  rcases hb with x | (x | x)
  · exact .inl (.inl x)
  · exact .inl (.inr x)
  · exact .inr x
theorem run_append_any {t ty sz by_ : Nat} (hs : isSlB P (t, e, sz, by_) = true) (hsz : 0 < sz) {n : Nat} {cells : List Value} (H : RowP (hp w) e sz v n cells) {ad : Option Addr} {m c : Nat} {news : List Value} (hl : news.length = m * sz)
    (hc : ∀ j u, news[j]? = some u → ∃ x, ad = some x ∧ w.cell? (x.add j) = some u) (h1 : ∀ u ∈ news, u.oneCell' = true) (hm : (n + m) * by_ ≤ 140737488355328) (h63 : n + m ≤ maxLen) :
    ∃ v1 w1, (Builtin.append_ #[t, t] ty #[v, .slice ad m c]).run P w = .ok v1 w1 ∧ RowP (hp w1) e sz v1 (n + m) (cells ++ news) ∧ w.grownBy w1 v.ownBlock ∧ (v1.ownBlock = v.ownBlock ∨ v1.ownBlock = some w.heap.size) := by
  obtain ⟨hu, i, z, hi, hz, hsi, hby, hzs⟩ := slB_spec hs
  have hown := rowP_iff.1 H
  cases ad with
  | some x =>
    obtain ⟨v1, w1, hr, h2, h3, _, h5⟩ := run_append_own_at (P := P) w 0 t ty e i z sz by_ hu hi hz hsi hby hzs hsz v n cells hown x m c news hl (fun j u hj => by
      obtain ⟨x', hx', h⟩ := hc j u hj
      injection hx' with hx'
      subst hx'
      exact h) h1 h63 hm (Nat.zero_le _)
    exact ⟨v1, w1, hr, rowP_iff.2 h2, h3, h5⟩
  | none =>
    have hn : news = [] := by
      cases news with
      | nil => rfl
      | cons u us => obtain ⟨x, hx, _⟩ := hc 0 u rfl; cases hx
    subst hn
    obtain rfl : m = 0 := by
      have h0 := hl.symm
      simp only [List.length_nil] at h0
      rcases Nat.mul_eq_zero.1 h0 with h | h
      · exact h
      · omega
    refine ⟨v, w, ?_, by simpa using H, World.grownBy.refl w _, .inl rfl⟩
    rcases hown.2 with ⟨rfl, hn0⟩ | ⟨g, cap, cur, rfl, _, _, hnc, _⟩
    · simp [Builtin.append_, run_underlying hu, sizeOf, typeInfo, hi, Builtin.lenOf, Builtin.firstCells]
    · simp [Builtin.append_, run_underlying hu, sizeOf, typeInfo, hi, Builtin.lenOf, Builtin.firstCells, hnc, storeCells]
/-- What is appended: its cells, and what they are. -/
theorem own_append {t ty sz by_ : Nat} (hs : isSlB P (t, e, sz, by_) = true) (hsz : A.sz = sz) {F Fy : Nat → Prop} (H : (Own r A e v xs).p G (hp w) F) (hF : ∀ b, F b → ¬ G.dom b) {css : List (List Value)} (hy : All2 (A.K (hp w) (rdom r G Fy)) ys css) (hyd : ∀ b, Fy b → hp w b ≠ none) (hyn : ∀ b, v.ownBlock = some b → ¬ Fy b)
    (hG : ∀ b, G.dom b → hp w b ≠ none) {ad : Option Addr} {c : Nat} (hc : ∀ j u, css.flatten[j]? = some u → ∃ x, ad = some x ∧ w.cell? (x.add j) = some u) (hm : (xs.length + ys.length) * by_ ≤ 140737488355328) (h63 : xs.length + ys.length ≤ maxLen) :
    ∃ v1 w1, (Builtin.append_ #[t, t] ty #[v, .slice ad ys.length c]).run P w = .ok v1 w1 ∧ w1.os = w.os ∧ w1.tape = w.tape ∧ w1.output = w.output ∧ (∀ b, v.ownBlock ≠ some b → hp w b ≠ none → hp w1 b = hp w b) ∧
      ∃ F', (Own r A e v1 (xs ++ ys)).p G (hp w1) F' ∧ ∀ b, F' b → F b ∨ Fy b ∨ hp w b = none := by
  subst hsz
  obtain ⟨cx, Fe, k1, k2, k3, k4, k5⟩ := H
  have hl : ∀ q ∈ css, q.length = A.sz := fun q hq => by
    obtain ⟨x, _, hx⟩ := hy.mem hq
    exact A.len hx
  have ho : ∀ u ∈ css.flatten, u.oneCell' = true := fun u hu => by
    obtain ⟨q, hq, huq⟩ := List.mem_flatten.1 hu
    obtain ⟨x, _, hx⟩ := hy.mem hq
    exact A.one hx u huq
  obtain ⟨v1, w1, hr, h2, h3, h4⟩ := run_append_any (ty := ty) (c := c) hs A.pos k1 (m := ys.length) (by rw [flat_len hl, hy.length]) hc ho hm h63
  have hkeep : ∀ b, v.ownBlock ≠ some b → hp w b ≠ none → hp w1 b = hp w b := fun b hb hn => h3.block b (hp_some hn) (fun e => hb e.symm)
  refine ⟨v1, w1, hr, h3.os, h3.tape, h3.output, hkeep, fun b => v1.ownBlock = some b ∨ (Fe b ∨ Fy b), ?_, fun b hb => ?_⟩
  · refine ⟨cx ++ css, fun b => Fe b ∨ Fy b, ?_, ?_, ?_, ?_, fun b => Iff.rfl⟩
    · rw [List.length_append, List.flatten_append]; exact h2
    · refine All2.append (k2.imp (fun _ _ q => ?_)) (hy.imp (fun _ _ q => ?_))
      · refine A.up (A.loc q (fun b hb hn => hkeep b (fun hv => k4 b hv hb) hn)) (fun b hb _ => hb.imp .inl id)
      · refine A.up (A.loc q (fun b hb hn => hkeep b (fun hv => ?_) hn)) (fun b hb _ => hb.imp .inr id)
        rcases hb with hb | hb
        · exact hyn b hv hb
        · exact hF b ((k5 b).2 (.inl hv)) hb.2
    · intro b hb
      rcases hb with hb | hb
      · rw [hkeep b (fun hv => k4 b hv (.inl hb)) (k3 b hb)]; exact k3 b hb
      · rw [hkeep b (fun hv => hyn b hv hb) (hyd b hb)]; exact hyd b hb
    · intro b hb hr2
      rcases h4 with h4 | h4
      · rw [h4] at hb
        rcases hr2 with (hr2 | hr2) | hr2
        · exact k4 b hb (.inl hr2)
        · exact hyn b hb hr2
        · exact hF b ((k5 b).2 (.inl hb)) hr2.2
      · rw [h4] at hb
        injection hb with hb
        subst hb
        have hnone : hp w w.heap.size = none := by unfold hp; simp
        rcases hr2 with (hr2 | hr2) | hr2
        · exact k3 _ hr2 hnone
        · exact hyd _ hr2 hnone
        · exact hG _ hr2.2 hnone
  · rcases hb with hb | hb | hb
    · rcases h4 with h4 | h4
      · exact .inl ((k5 b).2 (.inl (by rw [← h4]; exact hb)))
      · rw [h4] at hb
        injection hb with hb
        subst hb
        exact .inr (.inr (by unfold hp; simp))
    · exact .inl ((k5 b).2 (.inr hb))
    · exact .inr (.inl hb)
theorem St.gdom (S : St w G l) : ∀ b, G.dom b → hp w b ≠ none := fun b hb => by
  unfold Gh.dom at hb
  cases hg : G.heap b with
  | none => exact absurd hg hb
  | some o => unfold hp; rw [S.ro b o hg]; simp
theorem append_exec {s x : Operand} {t : TypeId} {v1 : Value} {w1 : World} (ho : o.op = .call { callee := .builtin .append, args := #[s, x], argTypes := #[t, t] }) {v y : Value} (hs : a.eval s = v) (hx : a.eval x = y)
    (hr : (Builtin.append_ #[t, t] o.type #[v, y]).run P w = .ok v1 w1) : (execOp a.eval o).run P w = .ok (.value v1) w1 := by
  unfold execOp
  simp only [ho, resolve, invoke, builtin, Sem.run_bind, Sem.run_pure, Result.andThen_ok, List.map_toArray, List.map_cons, List.map_nil, hs, hx, hr]
/-- append(v, ys...), where the elements hold no memory. -/
theorem sq_append_flat (T : Tabs P) {s x : Operand} {t sz by_ : Nat} {av : Option Addr} {nv cv : Nat} (S : St w G l) (ho : o.op = .call { callee := .builtin .append, args := #[s, x], argTypes := #[t, t] }) (hgd : Region.wanted o (yielded ops a.tmps) = true)
    (hs : a.eval s = .slice av nv cv) (hp : Pick l (Own r A e (.slice av nv cv) xs) l') (hT : T.sls.lookup t = some (e, sz, by_)) (hsz : A.sz = sz) (hA : A.Flat) {ay : Option Addr} {ny cy : Nat} (hx : a.eval x = .slice ay ny cy) (hy : Rd A.slice w ys [.slice ay ny cy]) (hm : (xs.length + ys.length) * by_ ≤ 140737488355328) (h63 : xs.length + ys.length ≤ maxLen)
    (h : ∀ a1 c1 w1, St w1 G (Own r A e (.slice a1 (xs.length + ys.length) c1) (xs ++ ys) :: l') → K (a.put o.dst (.slice a1 (xs.length + ys.length) c1)) w1) : Seq P ops Q o a w K := by
  have hsb := List.all_eq_true.1 T.s1 _ (lookup_mem hT)
  have S1 := S.pick hp
  obtain ⟨F, H, hd⟩ := S.get hp
  obtain ⟨Fy, ad, c, e1, hle, hmx, hsl⟩ := hy
  injection e1 with e1
  injection e1 with e1 e2 e3
  subst e1; subst e2; subst e3
  have hq : ∃ css, All2 (A.K (Sl.hp w) (rdom r G (fun _ => False))) ys css ∧ ∀ j u, css.flatten[j]? = some u → ∃ x, ay = some x ∧ w.cell? (x.add j) = some u := by
    by_cases hn : ys = []
    · subst hn; exact ⟨[], .nil, fun j u hj => by simp at hj⟩
    · obtain ⟨x, css, rfl, _, h2, h3⟩ := hsl hn
      exact ⟨css, h2.imp (fun _ _ q => hA _ _ _ _ q _ _), fun j u hj => ⟨x, rfl, h3 j u hj⟩⟩
  obtain ⟨css, hq1, hq2⟩ := hq
  obtain ⟨v1, w1, hr, k1, k2, k3, k4, F', k5, k6⟩ := own_append (ty := o.type) (c := cy) hsb hsz H hd hq1 (fun b hb => hb.elim) (fun b _ hb => hb) S.gdom hq2 hm h63
  obtain ⟨a1, c1, rfl, _⟩ : ∃ a1 c1, v1 = .slice a1 (xs ++ ys).length c1 ∧ True := by
    obtain ⟨a1, c1, h1, _⟩ := Rep.slice_len (own_val_p k5).1
    exact ⟨a1, c1, h1, trivial⟩
  rw [List.length_append] at *
  refine sq_event hgd (append_exec ho hs hx hr) (h a1 c1 w1 ?_)
  refine S1.step k1 k2 k3 (fun F1 H1 hd1 => ?_)
  obtain ⟨v2, w2, hr2, j1, j2, j3, j4, F2, j5, j6⟩ := own_append (ty := o.type) (c := cy) hsb hsz H1 hd1 hq1 (fun b hb => hb.elim) (fun b _ hb => hb) S.gdom hq2 hm h63
  rw [hr] at hr2
  injection hr2 with q1 q2
  subst q1; subst q2
  refine ⟨fun b hb hn => j4 b (fun hv => ?_) hn, F2, j5, fun b hb => (j6 b hb).imp id (fun x => x.elim (fun y => y.elim) id)⟩
  obtain ⟨_, _, _, _, _, _, k⟩ := H1
  exact hb ((k b).2 (.inl hv))
/-- What loads yield, out of facts on the world. -/
def AggAt (w : World) (ad : Addr) (vs : List Value) : Prop := ∀ j v, vs[j]? = some v → w.cell? (ad.add j) = some v
theorem yield_load (T : Tabs P) {t : TypeId} {x : Operand} (ho : o.op = .load t x) (hT : T.cells.contains t = true) {ad : Addr} (hx : a.eval x = .pointer (some ad)) {v : Value} (h : w.cell? ad = some v) : (execOp a.eval o).run P w = .ok (.value v) w := by
  have h1 := List.all_eq_true.1 T.c1 t (by simpa using hT)
  simp only [Bool.and_eq_true] at h1
  exact run_load_at ho hx (isAgg_cell h1.1 w) h
theorem yield_agg (T : Tabs P) {t : TypeId} {x : Operand} (ho : o.op = .load t x) {n : Nat} (hT : T.aggs.lookup t = some n) {ad : Addr} (hx : a.eval x = .pointer (some ad)) {vs : List Value} (h : AggAt w ad vs) (hn : vs.length = n) : (execOp a.eval o).run P w = .ok (.value (.agg vs.toArray)) w := by
  have h1 := List.all_eq_true.1 T.a1 (t, n) (lookup_mem hT)
  simp only [Bool.and_eq_true, hasSize, beq_iff_eq] at h1
  exact run_load_agg ho hx (isAgg_agg h1.1 w) (by rw [hn]; exact h1.2) h
theorem yield_str (T : Tabs P) {t u : TypeId} {x : Operand} (ho : o.op = .convert t u x) (hT : T.bytes.contains t = true) (hU : T.strs.contains u = true) {v : Value} (hx : a.eval x = v) {xs : List UInt8} (h : Rd Rep.byte.slice w xs [v]) : (execOp a.eval o).run P w = .ok (.value (.string ⟨xs.toArray⟩)) w := by
  unfold execOp
  simp only [ho, hx, Sem.run_bind, run_str T hT hU h, Result.andThen_ok, Sem.run_pure]
theorem St.aggAt {g j : Nat} {cs : List Value} {e : TypeId} (S : St w G l) (hp : Pick l (Cs g cs e) l') {vs : List Value} (hv : (cs.drop j).take vs.length = vs) : AggAt w ⟨g, j, none⟩ vs := fun k v hk => by
  have ha : (⟨g, j, none⟩ : Addr).add k = ⟨g, j + k, none⟩ := by unfold Addr.add; split <;> simp_all
  rw [ha]
  refine S.cell _ hp ?_
  rw [← hv] at hk
  rw [List.getElem?_take] at hk
  split at hk
  · rwa [List.getElem?_drop] at hk
  · cases hk
theorem sq_load_ro (T : Tabs P) {t : TypeId} {x : Operand} (ho : o.op = .load t x) (hgd : Region.wanted o (yielded ops a.tmps) = true) (hT : T.cells.contains t = true) {ad : Addr} (hx : a.eval x = .pointer (some ad)) {v : Value} (h : w.cell? ad = some v) (h1 : K (a.put o.dst v) w) : Seq P ops Q o a w K :=
  sq_event hgd (yield_load T ho hT hx h) h1
theorem sq_load_agg_ro (T : Tabs P) {t : TypeId} {x : Operand} (ho : o.op = .load t x) (hgd : Region.wanted o (yielded ops a.tmps) = true) {n : Nat} (hT : T.aggs.lookup t = some n) {ad : Addr} (hx : a.eval x = .pointer (some ad)) {vs : List Value} (h : AggAt w ad vs) (hn : vs.length = n) (h1 : K (a.put o.dst (.agg vs.toArray)) w) : Seq P ops Q o a w K :=
  sq_event hgd (yield_agg T ho hT hx h hn) h1
end
/-! ### The end: results -/
inductive ResV (P : Program) (w : World) (tmps : Array Value) : List ResultVar → List Value → Prop
  | nil : ResV P w tmps [] []
  | tmp {t rs v vs} (h : tmps.getD t undef = v) (r : ResV P w tmps rs vs) : ResV P w tmps (.tmp t :: rs) (v :: vs)
  | cell {p ty ad rs v vs} (h : tmps.getD p undef = .pointer (some ad)) (hl : (loadVar ty ad).run P w = .ok v w) (r : ResV P w tmps rs vs) : ResV P w tmps (.cell p ty :: rs) (v :: vs)
section
variable {P : Program} {w : World} {G : Gh} {l l' : List As}
theorem resV_run {tmps : Array Value} {rs : List ResultVar} {vs : List Value} (hv : ResV P w tmps rs vs) (f : ResultVar → Sem Value) (hf : ∀ u, f (.tmp u) = pure (tmps.getD u undef)) (hc : ∀ a t, f (.cell a t) = (do loadVar t (← asAddr (tmps.getD a undef)))) :
    (rs.mapM f).run P w = .ok vs w := by
  induction hv with
  | nil => simp
  | tmp h _ ih => simp [List.mapM_cons, hf, h, ih]
  | cell h hl _ ih =>
    rw [List.mapM_cons, hc, h]
    simp [asAddr, hl, ih]
theorem results_run {fn : Func} {tmps : Array Value} {rs : List ResultVar} {vs : List Value} (h : fn.results = rs.toArray) (hv : ResV P w tmps rs vs) : (results fn tmps).run P w = .ok (if h : vs.toArray.size = 1 then vs.toArray[0] else .tuple vs.toArray) w := by
  unfold results
  rw [h, List.mapM_toArray]
  simp only [Sem.run_bind, Sem.run_map]
  rw [resV_run hv]
  · simp
  · intro u; rfl
  · intro a t; rfl
/-- One result. -/
theorem fin1 {fn : Func} {R : Ending → World → Prop} {a : Act} {r : ResultVar} {v : Value} (h : fn.results = #[r]) (hv : ResV P w a.tmps [r] [v]) (hd : a.defers = []) (hR : R (.returned v) w) : bodyPost P fn R .ret a w :=
  bodyPost_ret (results_run (rs := [r]) h hv) hd hR
/-- No result. -/
theorem fin0 {fn : Func} {R : Ending → World → Prop} {a : Act} (h : fn.results = #[]) (hv : ResV P w a.tmps [] []) (hd : a.defers = []) (hR : R (.returned (.tuple #[])) w) : bodyPost P fn R .ret a w :=
  bodyPost_ret (by rw [results_run (rs := []) h hv]; simp) hd hR
theorem fin0n {fn : Func} {R : Ending → World → Prop} {a : Act} (h : fn.results = #[]) (hv : ResV P w a.tmps [] []) (hd : a.defers = []) (hR : R (.returned (.tuple #[])) w) : bodyPost P fn R .normal a w := fin0 h hv hd hR
theorem fin1n {fn : Func} {R : Ending → World → Prop} {a : Act} {r : ResultVar} {v : Value} (h : fn.results = #[r]) (hv : ResV P w a.tmps [r] [v]) (hd : a.defers = []) (hR : R (.returned v) w) : bodyPost P fn R .normal a w :=
  bodyPost_ret (results_run (rs := [r]) h hv) hd hR
/-- Two results or more. -/
theorem finN {fn : Func} {R : Ending → World → Prop} {a : Act} {r1 r2 : ResultVar} {rs : List ResultVar} {v1 v2 : Value} {vs : List Value} (h : fn.results = (r1 :: r2 :: rs).toArray) (hv : ResV P w a.tmps (r1 :: r2 :: rs) (v1 :: v2 :: vs)) (hd : a.defers = []) (hR : R (.returned (.tuple (v1 :: v2 :: vs).toArray)) w) : bodyPost P fn R .ret a w :=
  bodyPost_ret (by rw [results_run h hv]; simp) hd hR
theorem fin2 {fn : Func} {R : Ending → World → Prop} {a : Act} {r1 r2 : ResultVar} {v1 v2 : Value} (h : fn.results = #[r1, r2]) (hv : ResV P w a.tmps [r1, r2] [v1, v2]) (hd : a.defers = []) (hR : R (.returned (.tuple #[v1, v2])) w) : bodyPost P fn R .ret a w :=
  finN (rs := []) (vs := []) h hv hd hR
theorem fin3 {fn : Func} {R : Ending → World → Prop} {a : Act} {r1 r2 r3 : ResultVar} {v1 v2 v3 : Value} (h : fn.results = #[r1, r2, r3]) (hv : ResV P w a.tmps [r1, r2, r3] [v1, v2, v3]) (hd : a.defers = []) (hR : R (.returned (.tuple #[v1, v2, v3])) w) : bodyPost P fn R .ret a w :=
  finN (rs := [r3]) (vs := [v3]) h hv hd hR
theorem load_agg_run (T : Tabs P) (S : St w G l) {t : TypeId} {n : Nat} (hT : T.aggs.lookup t = some n) {g j : Nat} {cs : List Value} {e : TypeId} (hp : Pick l (Cs g cs e) l') {vs : List Value} (hv : (cs.drop j).take n = vs) (hn : vs.length = n) : (loadVar t ⟨g, j, none⟩).run P w = .ok (.agg vs.toArray) w := by
  have h1 := List.all_eq_true.1 T.a1 (t, n) (lookup_mem hT)
  simp only [Bool.and_eq_true, hasSize, beq_iff_eq] at h1
  have hc : ∀ k v, vs[k]? = some v → w.cell? ((⟨g, j, none⟩ : Addr).add k) = some v := fun k v hk => by
    have ha : (⟨g, j, none⟩ : Addr).add k = ⟨g, j + k, none⟩ := by unfold Addr.add; split <;> simp_all
    rw [ha]
    refine S.cell _ hp ?_
    subst hv
    rw [List.getElem?_take] at hk
    split at hk
    · rwa [List.getElem?_drop] at hk
    · cases hk
  have hl := run_loadCells_list (P := P) w ⟨g, j, none⟩ vs hc
  cases hq : P.info? t with
  | none => simp [hq] at h1
  | some i =>
    have hsz : i.size = vs.length := by have h2 := h1.2; simp [hq] at h2; omega
    simp [loadVar, isAgg_agg h1.1 w, sizeOf, typeInfo, hq, hsz, hl]
theorem load_cell_run (T : Tabs P) (S : St w G l) {t : TypeId} (hT : T.cells.contains t = true) {g j : Nat} {cs : List Value} {e : TypeId} (hp : Pick l (Cs g cs e) l') {v : Value} (hv : cs[j]? = some v) : (loadVar t ⟨g, j, none⟩).run P w = .ok v w := by
  have h1 := List.all_eq_true.1 T.c1 t (by simpa using hT)
  simp only [Bool.and_eq_true] at h1
  simp [loadVar, isAgg_cell h1.1 w, S.cell j hp hv]
end
end Go.Proofs.Ytgebfcdcpmmgnaa.Sl
