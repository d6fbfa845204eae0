/- Operations in the walk: each law takes the state S and hands the next one on. -/
import Derived.Test.YtjnpohloodcddaaRep
set_option linter.unusedVariables false
set_option linter.unusedSimpArgs false
namespace Go.Proofs.Ytjnpohloodcddaa.Sl
open Go.RowKit
/-- Types of one cell; types and how many cells they have; types of several cells (structs, arrays). -/
def isCellB (P : Program) (t : TypeId) : Bool := match P.underlying t with
  | some (.struct _) | some (.array _ _) | none => false
  | some _ => true
def isAggB (P : Program) (t : TypeId) : Bool := match P.underlying t with
  | some (.struct _) | some (.array _ _) => true
  | _ => false
def hasSize (P : Program) (q : Nat × Nat) : Bool := (P.info? q.1).map (·.size) == some q.2
def isBytesB (P : Program) (t : TypeId) : Bool := match P.underlying t with
  | some (.slice e) => match P.underlying e with
    | some (.int .u8) => true
    | _ => false
  | _ => false
structure Tabs (P : Program) where
  bytes : List Nat
  b1 : bytes.all (isBytesB P) = true
  cells : List Nat
  aggs : List (Nat × Nat)
  c1 : cells.all (fun t => isCellB P t && hasSize P (t, 1)) = true
  a1 : aggs.all (fun q => isAggB P q.1 && hasSize P q) = true
theorem isAgg_cell {P : Program} {t : TypeId} (h : isCellB P t = true) (w : World) : (isAgg t).run P w = .ok false w := by
  unfold isCellB at h
  split at h
  · cases h
  · cases h
  · cases h
  · rename_i d h1 h2 hd
    unfold isAgg
    rw [Sem.run_bind, run_underlying hd w]
    cases d <;> first | rfl | simp_all
theorem isAgg_agg {P : Program} {t : TypeId} (h : isAggB P t = true) (w : World) : (isAgg t).run P w = .ok true w := by
  unfold isAggB at h
  split at h
  · rename_i hd
    unfold isAgg
    rw [Sem.run_bind, run_underlying hd w]
    rfl
  · rename_i hd
    unfold isAgg
    rw [Sem.run_bind, run_underlying hd w]
    rfl
  · cases h
theorem lookup_mem {t n : Nat} : ∀ {l : List (Nat × Nat)}, l.lookup t = some n → (t, n) ∈ l
  | [], h => by simp at h
  | (a, b) :: l, h => by
    rw [List.lookup_cons] at h
    split at h
    · rename_i hq
      injection h with h
      simp at hq
      subst hq; subst h
      exact List.mem_cons_self
    · exact List.mem_cons_of_mem _ (lookup_mem h)
section
variable {P : Program} {ops : Array Oper} {rest : List Oper} {o : Oper} {a : Act} {Q : Exit → Act → World → Prop} {w : World} {G : Gh} {l l' l2 : List As}

theorem wpl_event {v : Value} {w1 : World} (hgd : o.guard = none) (hrun : (execOp a.eval o).run P w = .ok (.value v) w1) (h : wpList P ops Q rest (a.put o.dst v) w1) : wpList P ops Q (o :: rest) a w := by
  refine wpList_plain hgd fun K hK => ?_
  unfold Oper.wp
  rw [hrun]
  exact hK _ _ h
theorem wpl_skip {w1 : World} (hgd : o.guard = none) (hd : o.dst = none) (hrun : (execOp a.eval o).run P w = .ok .skip w1) (h : wpList P ops Q rest a w1) : wpList P ops Q (o :: rest) a w := by
  refine wpList_plain hgd fun K hK => ?_
  unfold Oper.wp
  rw [hrun]
  refine hK _ _ ?_
  rw [hd]
  exact h
/-- A new block: box, alloc, buildSlice's .. -/
theorem wpl_box (S : St w G l) {t : TypeId} {x : Operand} (ho : o.op = .box t x) (hgd : o.guard = none) {cs : List Value} {e : TypeId}
    (hrun : (execOp a.eval o).run P w = .ok (.value (.pointer (some ⟨w.heap.size, 0, none⟩))) (w.alloc (.cells cs.toArray e (0, 0))))
    (h : ∀ g w1, St w1 G (Cs g cs e :: l) → wpList P ops Q rest (a.put o.dst (.pointer (some ⟨g, 0, none⟩))) w1) : wpList P ops Q (o :: rest) a w :=
  wpl_event hgd hrun (h _ _ (S.alloc _))
theorem wpl_alloc (S : St w G l) {t : TypeId} (ho : o.op = .alloc t) (hgd : o.guard = none) {cs : List Value} {e : TypeId}
    (hrun : (execOp a.eval o).run P w = .ok (.value (.pointer (some ⟨w.heap.size, 0, none⟩))) (w.alloc (.cells cs.toArray e (0, 0))))
    (h : ∀ g w1, St w1 G (Cs g cs e :: l) → wpList P ops Q rest (a.put o.dst (.pointer (some ⟨g, 0, none⟩))) w1) : wpList P ops Q (o :: rest) a w :=
  wpl_event hgd hrun (h _ _ (S.alloc _))
theorem wpl_lit (S : St w G l) {t : TypeId} {n : Nat} {ps : Array (Nat × Operand)} (ho : o.op = .buildSlice t n ps) (hgd : o.guard = none) {cs : List Value} {e : TypeId} {n1 n2 : Nat}
    (hrun : (execOp a.eval o).run P w = .ok (.value (.slice (some ⟨w.heap.size, 0, none⟩) n1 n2)) (w.alloc (.cells cs.toArray e (0, 0))))
    (h : ∀ g w1, St w1 G (Cs g cs e :: l) → wpList P ops Q rest (a.put o.dst (.slice (some ⟨g, 0, none⟩) n1 n2)) w1) : wpList P ops Q (o :: rest) a w :=
  wpl_event hgd hrun (h _ _ (S.alloc _))
/-- A load of one cell out of a block of one's own. -/
theorem run_load_at {t : TypeId} {x : Operand} (ho : o.op = .load t x) {ad : Addr} (hx : a.eval x = .pointer (some ad)) (ht : (isAgg t).run P w = .ok false w) {v : Value} (hc : w.cell? ad = some v) :
    (execOp a.eval o).run P w = .ok (.value v) w := by
  unfold execOp
  simp only [ho, hx, Instr.loadAt, Instr.sureAddr, loadVar, Sem.run_bind, Sem.run_pure, Result.andThen_ok, ht, Bool.false_eq_true, if_false, run_load, hc]
theorem wpl_load (T : Tabs P) (S : St w G l) {t : TypeId} {x : Operand} (ho : o.op = .load t x) (hgd : o.guard = none) (hT : T.cells.contains t = true) {g j : Nat} (hx : a.eval x = .pointer (some ⟨g, j, none⟩))
    {cs : List Value} {e : TypeId} (hp : Pick l (Cs g cs e) l') {v : Value} (hv : cs[j]? = some v) (h : wpList P ops Q rest (a.put o.dst v) w) : wpList P ops Q (o :: rest) a w := by
  have h1 := List.all_eq_true.1 T.c1 t (by simpa using hT)
  simp only [Bool.and_eq_true] at h1
  exact wpl_event hgd (run_load_at ho hx (isAgg_cell h1.1 w) (S.cell j hp hv)) h
theorem run_load_agg {t : TypeId} {x : Operand} (ho : o.op = .load t x) {ad : Addr} (hx : a.eval x = .pointer (some ad)) (ht : (isAgg t).run P w = .ok true w) {vs : List Value} (hs : (P.info? t).map (·.size) = some vs.length)
    (hc : ∀ j v, vs[j]? = some v → w.cell? (ad.add j) = some v) : (execOp a.eval o).run P w = .ok (.value (.agg vs.toArray)) w := by
  cases hq : P.info? t with
  | none => simp [hq] at hs
  | some i =>
    have hsz : i.size = vs.length := by simpa [hq] using hs
    have hl := run_loadCells_list (P := P) w ad vs hc
    unfold execOp
    simp [ho, hx, Instr.loadAt, Instr.sureAddr, loadVar, ht, sizeOf, typeInfo, hq, hsz, hl]
/-- A load of a struct or an array out of a block of one's own. -/
theorem wpl_load_agg (T : Tabs P) (S : St w G l) {t : TypeId} {x : Operand} (ho : o.op = .load t x) (hgd : o.guard = none) {n : Nat} (hT : T.aggs.lookup t = some n) {g j : Nat} (hx : a.eval x = .pointer (some ⟨g, j, none⟩))
    {cs : List Value} {e : TypeId} (hp : Pick l (Cs g cs e) l') {vs : List Value} (hv : (cs.drop j).take n = vs) (hn : vs.length = n) (h : wpList P ops Q rest (a.put o.dst (.agg vs.toArray)) w) : wpList P ops Q (o :: rest) a w := by
  have h1 := List.all_eq_true.1 T.a1 (t, n) (lookup_mem hT)
  simp only [Bool.and_eq_true, hasSize, beq_iff_eq] at h1
  refine wpl_event hgd (run_load_agg ho hx (isAgg_agg h1.1 w) (by rw [hn]; exact h1.2) (fun k v hk => ?_)) h
  have ha : (⟨g, j, none⟩ : Addr).add k = ⟨g, j + k, none⟩ := by unfold Addr.add; split <;> simp_all
  rw [ha]
  refine S.cell _ hp ?_
  subst hv
  rw [List.getElem?_take] at hk
  split at hk
  · rwa [List.getElem?_drop] at hk
  · cases hk
/-- A store of one cell into a block of one's own. -/
theorem run_store_at {t : TypeId} {p x : Operand} (ho : o.op = .store t p x) {ad : Addr} {v u : Value} (hp : a.eval p = .pointer (some ad)) (hx : a.eval x = v) (h1 : v.oneCell' = true) (ht : (P.info? t).map (·.size) = some 1)
    (hc : w.cell? ad = some u) (hf : w.frozen? ad = false) : (execOp a.eval o).run P w = .ok .skip (w.setCell ad v) := by
  have hcells : v.cells = #[v] := by cases v <;> first | rfl | (simp [Value.oneCell'] at h1)
  cases hq : P.info? t with
  | none => simp [hq] at ht
  | some i =>
    have hs : i.size = 1 := by simpa [hq] using ht
    have ha0 : ad.add 0 = ad := by simp [Addr.add]
    have hst := run_store P w ad v .plain h1
    rw [hc, hf] at hst
    simp only [Bool.false_eq_true, if_false] at hst
    unfold execOp
    simp [ho, hp, hx, Instr.storeAt, Instr.sureAddr, storeVar, sizeOf, typeInfo, hq, hcells, hs, storeCells, ha0, hst]
theorem wpl_store (T : Tabs P) (S : St w G l) {t : TypeId} {p x : Operand} (ho : o.op = .store t p x) (hgd : o.guard = none) (hd : o.dst = none) (hT : T.cells.contains t = true) {g j : Nat} {v : Value} (hp : a.eval p = .pointer (some ⟨g, j, none⟩)) (hx : a.eval x = v) (h1 : v.oneCell' = true)
    {cs : List Value} {e : TypeId} (u : Upd l (Cs g cs e) (Cs g (cs.set j v) e) l') (hj : j < cs.length)
    (h : ∀ w1, St w1 G l' → wpList P ops Q rest a w1) : wpList P ops Q (o :: rest) a w := by
  have h2 := List.all_eq_true.1 T.c1 t (by simpa using hT)
  simp only [Bool.and_eq_true, hasSize, beq_iff_eq] at h2
  obtain ⟨r, p1, p2⟩ := u.pick
  exact wpl_skip hgd hd (run_store_at ho hp hx h1 h2.2 (S.cell j p1 (List.getElem?_eq_getElem hj)) (S.frozen j p1)) (h _ (S.put j u))
def splice (cs : List Value) (j : Nat) (vs : List Value) : List Value := cs.take j ++ vs ++ cs.drop (j + vs.length)
theorem St.putRow {cs cs' : List Value} {g : Nat} {e : TypeId} (S : St w G l) (u : Upd l (Cs g cs e) (Cs g cs' e) l') : St (w.setRow g cs'.toArray) G l' := by
  refine S.stepU u rfl rfl rfl (fun F hA _ => ?_)
  obtain ⟨a, f⟩ := hA
  refine ⟨fun b hb _ => setRow_other w g b _ (fun e => hb ((f b).2 e)), F, ⟨setRow_heap w g cs.toArray _ e _ a, f⟩, fun b hb => .inl hb⟩
/-- A store of a struct or an array into a block of one's own. -/
theorem wpl_store_agg (T : Tabs P) (S : St w G l) {t : TypeId} {p x : Operand} (ho : o.op = .store t p x) (hgd : o.guard = none) (hd : o.dst = none) {vs : List Value} (hx : a.eval x = .agg vs.toArray) (hT : T.aggs.lookup t = some vs.length) {g j : Nat} (hp : a.eval p = .pointer (some ⟨g, j, none⟩)) (h1 : vs.all (·.oneCell') = true)
    {cs : List Value} {e : TypeId} (u : Upd l (Cs g cs e) (Cs g (splice cs j vs) e) l') (hj : j + vs.length ≤ cs.length)
    (h : ∀ w1, St w1 G l' → wpList P ops Q rest a w1) : wpList P ops Q (o :: rest) a w := by
  have h2 := List.all_eq_true.1 T.a1 (t, vs.length) (lookup_mem hT)
  simp only [Bool.and_eq_true, hasSize, beq_iff_eq] at h2
  obtain ⟨r, p1, p2⟩ := u.pick
  have hr := run_storeCells_at (P := P) g j e vs 0 cs.toArray w (S.blk p1) (by simp; omega) (fun v hv => List.all_eq_true.1 h1 v hv)
  simp only [Nat.add_zero] at hr
  refine wpl_skip hgd hd ?_ (h _ (S.putRow u))
  cases hq : P.info? t with
  | none => simp [hq] at h2
  | some i =>
    have hsz : i.size = vs.length := by simpa [hq] using h2.2
    unfold execOp
    simp [ho, hp, hx, Instr.storeAt, Instr.sureAddr, storeVar, Value.cells, sizeOf, typeInfo, hq, hsz, hr, splice]
end
/-! ### []byte of a constant text: a new row, marked as a text's -/
section
variable {P : Program} {ops : Array Oper} {rest : List Oper} {o : Oper} {a : Act} {Q : Exit → Act → World → Prop} {w : World} {G : Gh} {l l' : List As}
theorem st_mark {g : Nat} {xs : List UInt8} {e : TypeId} (S : St w G (Cs g (xs.map bv) e :: l)) {n c : Nat} (hn : n = xs.length) (hc : n ≤ c) (hm : c ≤ maxLen) :
    St (w.freeze ⟨g, n, none⟩ 1) G (Val false Rep.byte.slice [.slice (some ⟨g, 0, none⟩) n c] xs :: l) := by
  subst hn
  refine S.step rfl rfl rfl (fun F hF hd => ?_)
  obtain ⟨h1, f⟩ := hF
  have hlt : g < w.heap.size := (Array.getElem?_eq_some_iff.1 h1).1
  have hg : hp (w.freeze ⟨g, xs.length, none⟩ 1) g = some (.cells (xs.map bv).toArray e (xs.length, xs.length + 1)) := by
    unfold hp World.freeze
    simp only [Nat.one_ne_zero, if_false, Array.getElem?_modify, if_true]
    have h2 : w.heap[g]? = some (.cells (xs.map bv).toArray e (0, 0)) := h1
    rw [h2]
    simp
  refine ⟨fun b hb _ => ?_, F, ⟨⟨some ⟨g, 0, none⟩, c, rfl, hc, hm, fun _ => ⟨⟨g, 0, none⟩, (xs.map bv).map fun x => [x], rfl, .inl ((f g).2 rfl), bytes_all2 _ _ _, fun j v hv => ?_⟩⟩, fun b hb => ?_⟩, fun b hb => .inl hb⟩
  · unfold hp World.freeze
    simp only [Nat.one_ne_zero, if_false, Array.getElem?_modify]
    rw [if_neg (fun e => hb ((f b).2 e.symm))]
  · rw [flatten_singles] at hv
    have ha : (⟨g, 0, none⟩ : Addr).add j = ⟨g, j, none⟩ := by unfold Addr.add; split <;> simp_all
    rw [ha]
    unfold cellH
    rw [hg]
    simpa using hv
  · rw [(f b).1 hb, hg]; simp
theorem run_text {t : TypeId} (ht : isBytesB P t = true) {g n c : Nat} {cs : Array Value} {e : TypeId} (hg : w.heap[g]? = some (.cells cs e (0, 0))) :
    (convert t t (.slice (some ⟨g, 0, none⟩) n c)).run P w = .ok (.slice (some ⟨g, 0, none⟩) n c) (w.freeze ⟨g, cs.size, none⟩ 1) := by
  unfold isBytesB at ht
  split at ht
  · rename_i e1 h1
    split at ht
    · rename_i h2
      have hs : w.shape? g = some (e, cs.size) := by simp [World.shape?, hg]
      unfold convert
      simp only [Sem.run_bind, run_underlying h1 w, Result.andThen_ok, run_underlying h2 w, beq_self_eq_true, markStringish, run_shape, hs, run_freeze, Sem.run_pure]
    · cases ht
  · cases ht
theorem wpl_text (T : Tabs P) {g : Nat} {xs : List UInt8} {e t : TypeId} {x : Operand} {n c : Nat} (S : St w G (Cs g (xs.map bv) e :: l)) (ho : o.op = .convert t t x) (hgd : o.guard = none) (hT : T.bytes.contains t = true) (hx : a.eval x = .slice (some ⟨g, 0, none⟩) n c)
    (hn : n = xs.length) (hc : n ≤ c) (hm : c ≤ maxLen)
    (h : ∀ w1, St w1 G (Val false Rep.byte.slice [.slice (some ⟨g, 0, none⟩) n c] xs :: l) → wpList P ops Q rest (a.put o.dst (.slice (some ⟨g, 0, none⟩) n c)) w1) : wpList P ops Q (o :: rest) a w := by
  refine wpl_event hgd ?_ (h _ (st_mark S hn hc hm))
  have hb := List.all_eq_true.1 T.b1 t (by simpa using hT)
  have hr := run_text (n := n) (c := c) hb (S.blk .here)
  unfold execOp
  simp only [ho, hx, Sem.run_bind, hr, Result.andThen_ok, Sem.run_pure]
  simp [hn]
end
/-! ### The end: results -/
inductive ResV (P : Program) (w : World) (tmps : Array Value) : List ResultVar → List Value → Prop
  | nil : ResV P w tmps [] []
  | tmp {t rs v vs} (h : tmps.getD t undef = v) (r : ResV P w tmps rs vs) : ResV P w tmps (.tmp t :: rs) (v :: vs)
  | cell {p ty ad rs v vs} (h : tmps.getD p undef = .pointer (some ad)) (hl : (loadVar ty ad).run P w = .ok v w) (r : ResV P w tmps rs vs) : ResV P w tmps (.cell p ty :: rs) (v :: vs)
section
variable {P : Program} {w : World} {G : Gh} {l l' : List As}
theorem resV_run {tmps : Array Value} {rs : List ResultVar} {vs : List Value} (hv : ResV P w tmps rs vs) (f : ResultVar → Sem Value) (hf : ∀ u, f (.tmp u) = pure (tmps.getD u undef)) (hc : ∀ a t, f (.cell a t) = (do loadVar t (← asAddr (tmps.getD a undef)))) :
    (rs.mapM f).run P w = .ok vs w := by
  induction hv with
  | nil => simp
  | tmp h _ ih => simp [List.mapM_cons, hf, h, ih]
  | cell h hl _ ih =>
    rw [List.mapM_cons, hc, h]
    simp [asAddr, hl, ih]
theorem results_run {fn : Func} {tmps : Array Value} {rs : List ResultVar} {vs : List Value} (h : fn.results = rs.toArray) (hv : ResV P w tmps rs vs) : (results fn tmps).run P w = .ok (if h : vs.toArray.size = 1 then vs.toArray[0] else .tuple vs.toArray) w := by
  unfold results
  rw [h, List.mapM_toArray]
  simp only [Sem.run_bind, Sem.run_map]
  rw [resV_run hv]
  · simp
  · intro u; rfl
  · intro a t; rfl
/-- One result. -/
theorem fin1 {fn : Func} {R : Ending → World → Prop} {a : Act} {r : ResultVar} {v : Value} (h : fn.results = #[r]) (hv : ResV P w a.tmps [r] [v]) (hd : a.defers = []) (hR : R (.returned v) w) : bodyPost P fn R .ret a w :=
  bodyPost_ret (results_run (rs := [r]) h hv) hd hR
/-- Two results or more. -/
theorem finN {fn : Func} {R : Ending → World → Prop} {a : Act} {r1 r2 : ResultVar} {rs : List ResultVar} {v1 v2 : Value} {vs : List Value} (h : fn.results = (r1 :: r2 :: rs).toArray) (hv : ResV P w a.tmps (r1 :: r2 :: rs) (v1 :: v2 :: vs)) (hd : a.defers = []) (hR : R (.returned (.tuple (v1 :: v2 :: vs).toArray)) w) : bodyPost P fn R .ret a w :=
  bodyPost_ret (by rw [results_run h hv]; simp) hd hR
theorem load_agg_run (T : Tabs P) (S : St w G l) {t : TypeId} {n : Nat} (hT : T.aggs.lookup t = some n) {g j : Nat} {cs : List Value} {e : TypeId} (hp : Pick l (Cs g cs e) l') {vs : List Value} (hv : (cs.drop j).take n = vs) (hn : vs.length = n) : (loadVar t ⟨g, j, none⟩).run P w = .ok (.agg vs.toArray) w := by
  have h1 := List.all_eq_true.1 T.a1 (t, n) (lookup_mem hT)
  simp only [Bool.and_eq_true, hasSize, beq_iff_eq] at h1
  have hc : ∀ k v, vs[k]? = some v → w.cell? ((⟨g, j, none⟩ : Addr).add k) = some v := fun k v hk => by
    have ha : (⟨g, j, none⟩ : Addr).add k = ⟨g, j + k, none⟩ := by unfold Addr.add; split <;> simp_all
    rw [ha]
    refine S.cell _ hp ?_
    subst hv
    rw [List.getElem?_take] at hk
    split at hk
    · rwa [List.getElem?_drop] at hk
    · cases hk
  have hl := run_loadCells_list (P := P) w ⟨g, j, none⟩ vs hc
  cases hq : P.info? t with
  | none => simp [hq] at h1
  | some i =>
    have hsz : i.size = vs.length := by have h2 := h1.2; simp [hq] at h2; omega
    simp [loadVar, isAgg_agg h1.1 w, sizeOf, typeInfo, hq, hsz, hl]
theorem load_cell_run (T : Tabs P) (S : St w G l) {t : TypeId} (hT : T.cells.contains t = true) {g j : Nat} {cs : List Value} {e : TypeId} (hp : Pick l (Cs g cs e) l') {v : Value} (hv : cs[j]? = some v) : (loadVar t ⟨g, j, none⟩).run P w = .ok v w := by
  have h1 := List.all_eq_true.1 T.c1 t (by simpa using hT)
  simp only [Bool.and_eq_true] at h1
  simp [loadVar, isAgg_cell h1.1 w, S.cell j hp hv]
end
end Go.Proofs.Ytjnpohloodcddaa.Sl
