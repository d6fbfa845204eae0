/- x[i:j] -/
import Derived.Test.YtpcapijakenjbaaRun
import Derived.IntWalk
set_option linter.unusedVariables false
set_option linter.unusedSimpArgs false
namespace Go.Proofs.Ytpcapijakenjbaa.Sl
open Go.RowKit
section
variable {P : Program} {ops : Array Oper} {Q : Exit → Act → World → Prop} {md : Region.Mode} {n i : Nat} {L : Array Bool} {E : List Nat} {T : List Ent} {a : Act} {w : World} {oi : Oper} {v : Value}
theorem run_sl (Tb : Tabs P) {t : TypeId} {x l h : Operand} {ad : Option Addr} {m c : Nat} {k1 k2 : IntKind} {iv : Int} {jv : Int} (ho : oi.op = .slice t x (some l) (some h) none) {q : Nat × Nat × Nat} (hT : Tb.sls.lookup t = some q) (hx : a.eval x = .slice ad m c) (hl : a.eval l = .int k1 iv) (hh : a.eval h = .int k2 jv) (hb : 0 ≤ iv ∧ iv ≤ jv ∧ jv ≤ c) :
    (execOp a.eval oi).run P w = .ok (.value (.slice (if c = iv.toNat then ad else ad.map (·.add (iv.toNat * q.2.1))) (jv.toNat - iv.toNat) (c - iv.toNat))) w := by
  obtain ⟨hu, inf, z, hinf, _, hsz, _⟩ := slB_spec (e := q.1) (sz := q.2.1) (by_ := q.2.2) (List.all_eq_true.1 Tb.s1 _ (lookup_mem hT))
  have hsz2 : (sizeOf q.1).run P w = .ok q.2.1 w := by
    have h := run_sizeOf (P := P) (w := w) hinf
    rw [h]; unfold Program.cellsOf; rw [hinf]; simp [hsz]
  obtain ⟨dst, op, ty, pos, aft, gd⟩ := oi
  simp only at ho
  subst ho
  obtain ⟨i, rfl⟩ : ∃ i : Nat, iv = i := ⟨iv.toNat, by omega⟩
  obtain ⟨j, rfl⟩ : ∃ j : Nat, jv = j := ⟨jv.toNat, by omega⟩
  generalize a.eval = ev at *
  have h1 : i ≤ j := by omega
  have h2 : j ≤ c := by omega
  have h3 : i ≤ c := by omega
  clear hb hT
  go_simp
theorem vr_sl (Tb : Tabs P) {q : Nat × Nat × Nat} {t : TypeId} {x l h : Operand} {ad : Option Addr} {m c : Nat} {k1 k2 : IntKind} {iv : Int} {jv : Int} (hi : opAt ops.toList i = some oi) (hs : Region.noSelect ops = true) (hf : Region.free md ops L i = true) (hr : (Region.ready md ops L).contains i = true) (hQ : ∀ c' a w, Q (.panic c') (a.put oi.dst (.slice (if c = iv.toNat then ad else ad.map (·.add (iv.toNat * q.2.1))) (jv.toNat - iv.toNat) (c - iv.toNat))) w → Q (.panic c') a w) (hw : Region.wanted oi (yielded ops a.tmps) = true) (ho : oi.op = .slice t x (some l) (some h) none) (hT : Tb.sls.lookup t = some q)
    (hx : a.eval x = .slice ad m c) (hl : a.eval l = .int k1 iv) (hh : a.eval h = .int k2 jv) (hb : 0 ≤ iv ∧ iv ≤ jv ∧ jv ≤ c) (hK : Vr P md ops Q n (L.setIfInBounds i true) E T (a.put oi.dst (.slice (if c = iv.toNat then ad else ad.map (·.add (iv.toNat * q.2.1))) (jv.toNat - iv.toNat) (c - iv.toNat))) w) : Vr P md ops Q (n + 1) L E T a w :=
  vr_pure hi hs hf hr hQ (.inl ⟨hw, fun w => run_sl Tb ho hT hx hl hh hb⟩) hK
theorem sq_sl (Tb : Tabs P) {q : Nat × Nat × Nat} {K : Act → World → Prop} {t : TypeId} {x l h : Operand} {ad : Option Addr} {m c : Nat} {k1 k2 : IntKind} {iv : Int} {jv : Int} (ho : oi.op = .slice t x (some l) (some h) none) (hgd : Region.wanted oi (yielded ops a.tmps) = true) (hT : Tb.sls.lookup t = some q) (hx : a.eval x = .slice ad m c) (hl : a.eval l = .int k1 iv) (hh : a.eval h = .int k2 jv) (hb : 0 ≤ iv ∧ iv ≤ jv ∧ jv ≤ c)
    (h1 : K (a.put oi.dst (.slice (if c = iv.toNat then ad else ad.map (·.add (iv.toNat * q.2.1))) (jv.toNat - iv.toNat) (c - iv.toNat))) w) : Seq P ops Q oi a w K := sq_event hgd (run_sl Tb ho hT hx hl hh hb) h1
theorem run_slf (Tb : Tabs P) {t : TypeId} {x l : Operand} {ad : Option Addr} {m c : Nat} {k1 : IntKind} {iv : Int} (ho : oi.op = .slice t x (some l) none none) {q : Nat × Nat × Nat} (hT : Tb.sls.lookup t = some q) (hx : a.eval x = .slice ad m c) (hl : a.eval l = .int k1 iv) (hb : 0 ≤ iv ∧ iv ≤ m) :
    (execOp a.eval oi).run P w = .ok (.value (.slice (if c = iv.toNat then ad else ad.map (·.add (iv.toNat * q.2.1))) (m - iv.toNat) (c - iv.toNat))) w := by
  obtain ⟨hu, inf, z, hinf, _, hsz, _⟩ := slB_spec (e := q.1) (sz := q.2.1) (by_ := q.2.2) (List.all_eq_true.1 Tb.s1 _ (lookup_mem hT))
  have hsz2 : (sizeOf q.1).run P w = .ok q.2.1 w := by
    have h := run_sizeOf (P := P) (w := w) hinf
    rw [h]; unfold Program.cellsOf; rw [hinf]; simp [hsz]
  obtain ⟨dst, op, ty, pos, aft, gd⟩ := oi
  simp only at ho
  subst ho
  obtain ⟨i, rfl⟩ : ∃ i : Nat, iv = i := ⟨iv.toNat, by omega⟩
  generalize a.eval = ev at *
  have h1 : i ≤ m := by omega
  clear hb hT
  go_simp
theorem vr_slf (Tb : Tabs P) {q : Nat × Nat × Nat} {t : TypeId} {x l : Operand} {ad : Option Addr} {m c : Nat} {k1 : IntKind} {iv : Int} (hi : opAt ops.toList i = some oi) (hs : Region.noSelect ops = true) (hf : Region.free md ops L i = true) (hr : (Region.ready md ops L).contains i = true) (hQ : ∀ c' a w, Q (.panic c') (a.put oi.dst (.slice (if c = iv.toNat then ad else ad.map (·.add (iv.toNat * q.2.1))) (m - iv.toNat) (c - iv.toNat))) w → Q (.panic c') a w) (hw : Region.wanted oi (yielded ops a.tmps) = true) (ho : oi.op = .slice t x (some l) none none) (hT : Tb.sls.lookup t = some q)
    (hx : a.eval x = .slice ad m c) (hl : a.eval l = .int k1 iv) (hb : 0 ≤ iv ∧ iv ≤ m) (hK : Vr P md ops Q n (L.setIfInBounds i true) E T (a.put oi.dst (.slice (if c = iv.toNat then ad else ad.map (·.add (iv.toNat * q.2.1))) (m - iv.toNat) (c - iv.toNat))) w) : Vr P md ops Q (n + 1) L E T a w :=
  vr_pure hi hs hf hr hQ (.inl ⟨hw, fun w => run_slf Tb ho hT hx hl hb⟩) hK
theorem sq_slf (Tb : Tabs P) {q : Nat × Nat × Nat} {K : Act → World → Prop} {t : TypeId} {x l : Operand} {ad : Option Addr} {m c : Nat} {k1 : IntKind} {iv : Int} (ho : oi.op = .slice t x (some l) none none) (hgd : Region.wanted oi (yielded ops a.tmps) = true) (hT : Tb.sls.lookup t = some q) (hx : a.eval x = .slice ad m c) (hl : a.eval l = .int k1 iv) (hb : 0 ≤ iv ∧ iv ≤ m)
    (h1 : K (a.put oi.dst (.slice (if c = iv.toNat then ad else ad.map (·.add (iv.toNat * q.2.1))) (m - iv.toNat) (c - iv.toNat))) w) : Seq P ops Q oi a w K := sq_event hgd (run_slf Tb ho hT hx hl hb) h1
theorem run_slt (Tb : Tabs P) {t : TypeId} {x h : Operand} {ad : Option Addr} {m c : Nat} {k2 : IntKind} {jv : Int} (ho : oi.op = .slice t x none (some h) none) {q : Nat × Nat × Nat} (hT : Tb.sls.lookup t = some q) (hx : a.eval x = .slice ad m c) (hh : a.eval h = .int k2 jv) (hb : 0 ≤ jv ∧ jv ≤ c) :
    (execOp a.eval oi).run P w = .ok (.value (.slice ad jv.toNat c)) w := by
  obtain ⟨hu, inf, z, hinf, _, hsz, _⟩ := slB_spec (e := q.1) (sz := q.2.1) (by_ := q.2.2) (List.all_eq_true.1 Tb.s1 _ (lookup_mem hT))
  have hsz2 : (sizeOf q.1).run P w = .ok q.2.1 w := by
    have h := run_sizeOf (P := P) (w := w) hinf
    rw [h]; unfold Program.cellsOf; rw [hinf]; simp [hsz]
  obtain ⟨dst, op, ty, pos, aft, gd⟩ := oi
  simp only at ho
  subst ho
  obtain ⟨j, rfl⟩ : ∃ j : Nat, jv = j := ⟨jv.toNat, by omega⟩
  generalize a.eval = ev at *
  have h1 : j ≤ c := by omega
  clear hb hT
  go_simp
theorem vr_slt (Tb : Tabs P) {q : Nat × Nat × Nat} {t : TypeId} {x h : Operand} {ad : Option Addr} {m c : Nat} {k2 : IntKind} {jv : Int} (hi : opAt ops.toList i = some oi) (hs : Region.noSelect ops = true) (hf : Region.free md ops L i = true) (hr : (Region.ready md ops L).contains i = true) (hQ : ∀ c' a w, Q (.panic c') (a.put oi.dst (.slice ad jv.toNat c)) w → Q (.panic c') a w) (hw : Region.wanted oi (yielded ops a.tmps) = true) (ho : oi.op = .slice t x none (some h) none) (hT : Tb.sls.lookup t = some q)
    (hx : a.eval x = .slice ad m c) (hh : a.eval h = .int k2 jv) (hb : 0 ≤ jv ∧ jv ≤ c) (hK : Vr P md ops Q n (L.setIfInBounds i true) E T (a.put oi.dst (.slice ad jv.toNat c)) w) : Vr P md ops Q (n + 1) L E T a w :=
  vr_pure hi hs hf hr hQ (.inl ⟨hw, fun w => run_slt Tb ho hT hx hh hb⟩) hK
theorem sq_slt (Tb : Tabs P) {q : Nat × Nat × Nat} {K : Act → World → Prop} {t : TypeId} {x h : Operand} {ad : Option Addr} {m c : Nat} {k2 : IntKind} {jv : Int} (ho : oi.op = .slice t x none (some h) none) (hgd : Region.wanted oi (yielded ops a.tmps) = true) (hT : Tb.sls.lookup t = some q) (hx : a.eval x = .slice ad m c) (hh : a.eval h = .int k2 jv) (hb : 0 ≤ jv ∧ jv ≤ c)
    (h1 : K (a.put oi.dst (.slice ad jv.toNat c)) w) : Seq P ops Q oi a w K := sq_event hgd (run_slt Tb ho hT hx hh hb) h1
theorem run_i64add {t u : TypeId} {x y : Operand} {m1 m2 : Int} (ho : oi.op = .binOp .add t x y u) (hx : a.eval x = .int .i64 m1) (hy : a.eval y = .int .i64 m2) (hb : -9223372036854775808 ≤ m1 + m2 ∧ m1 + m2 ≤ 9223372036854775807) :
    (execOp a.eval oi).run P w = .ok (.value (.int .i64 (m1 + m2))) w := by
  have h0 : IntKind.i64.wrap (m1 + m2) = m1 + m2 := IntWalk.i64_in _ hb
  clear hb
  obtain ⟨dst, op, ty, pos, aft, gd⟩ := oi
  simp only at ho
  subst ho
  generalize a.eval = ev at *
  go_simp
theorem vr_i64add {t u : TypeId} {x y : Operand} {m1 m2 : Int} (hi : opAt ops.toList i = some oi) (hs : Region.noSelect ops = true) (hf : Region.free md ops L i = true) (hr : (Region.ready md ops L).contains i = true) (hQ : ∀ c' a w, Q (.panic c') (a.put oi.dst (.int .i64 (m1 + m2))) w → Q (.panic c') a w) (hw : Region.wanted oi (yielded ops a.tmps) = true) (ho : oi.op = .binOp .add t x y u)
    (hx : a.eval x = .int .i64 m1) (hy : a.eval y = .int .i64 m2) (hb : -9223372036854775808 ≤ m1 + m2 ∧ m1 + m2 ≤ 9223372036854775807) (hK : Vr P md ops Q n (L.setIfInBounds i true) E T (a.put oi.dst (.int .i64 (m1 + m2))) w) : Vr P md ops Q (n + 1) L E T a w :=
  vr_pure hi hs hf hr hQ (.inl ⟨hw, fun w => run_i64add ho hx hy hb⟩) hK
theorem run_i64sub {t u : TypeId} {x y : Operand} {m1 m2 : Int} (ho : oi.op = .binOp .sub t x y u) (hx : a.eval x = .int .i64 m1) (hy : a.eval y = .int .i64 m2) (hb : -9223372036854775808 ≤ m1 - m2 ∧ m1 - m2 ≤ 9223372036854775807) :
    (execOp a.eval oi).run P w = .ok (.value (.int .i64 (m1 - m2))) w := by
  have h0 : IntKind.i64.wrap (m1 - m2) = m1 - m2 := IntWalk.i64_in _ hb
  clear hb
  obtain ⟨dst, op, ty, pos, aft, gd⟩ := oi
  simp only at ho
  subst ho
  generalize a.eval = ev at *
  go_simp
theorem vr_i64sub {t u : TypeId} {x y : Operand} {m1 m2 : Int} (hi : opAt ops.toList i = some oi) (hs : Region.noSelect ops = true) (hf : Region.free md ops L i = true) (hr : (Region.ready md ops L).contains i = true) (hQ : ∀ c' a w, Q (.panic c') (a.put oi.dst (.int .i64 (m1 - m2))) w → Q (.panic c') a w) (hw : Region.wanted oi (yielded ops a.tmps) = true) (ho : oi.op = .binOp .sub t x y u)
    (hx : a.eval x = .int .i64 m1) (hy : a.eval y = .int .i64 m2) (hb : -9223372036854775808 ≤ m1 - m2 ∧ m1 - m2 ≤ 9223372036854775807) (hK : Vr P md ops Q n (L.setIfInBounds i true) E T (a.put oi.dst (.int .i64 (m1 - m2))) w) : Vr P md ops Q (n + 1) L E T a w :=
  vr_pure hi hs hf hr hQ (.inl ⟨hw, fun w => run_i64sub ho hx hy hb⟩) hK
end
end Go.Proofs.Ytpcapijakenjbaa.Sl
