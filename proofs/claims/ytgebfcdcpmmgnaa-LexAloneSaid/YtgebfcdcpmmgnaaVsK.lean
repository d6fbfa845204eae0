/- append, literals of slices, make. -/
import Derived.Test.YtgebfcdcpmmgnaaVsJ
set_option linter.unusedVariables false
set_option linter.unusedSimpArgs false
namespace Go.Proofs.Ytgebfcdcpmmgnaa.Vs
open Go.RowKit
section
variable {P : Program} {o : Oper} {ev : Operand → V} {w0 : Bs} {w w' : World} {lent : Nat → Prop} {C : Cx} {σ : List Ob}
abbrev KK := V → List (Nat × Ob) → List (Nat × Ob) → Prop
/-- Cells as data; z tells what a nil slice is. -/
def toD1 (z : D) : V → Option D
  | .d (.agg _) => none
  | .d x => some x
  | .nil => (match z with | .sl q _ => if 0 < q then some (.sl q []) else none | _ => none)
  | .own q xs _ => some (.sl q xs)
  | _ => none
def toDs : List D → List V → Option (List D)
  | [], [] => some []
  | z :: zs, v :: vs => (match toD1 z v, toDs zs vs with | some x, some xs => some (x :: xs) | _, _ => none)
  | _, _ => none
def elemD (ag : Bool) (z : List D) (cells : List V) : Option D :=
  match toDs z cells with
  | some xs => if ag then some (.agg xs) else (match xs with | [x] => some x | _ => none)
  | none => none
def elemsD (ag : Bool) (z : List D) : Nat → List V → Option (List D)
  | 0, _ => some []
  | n + 1, cells => (match elemD ag z (cells.take z.length), elemsD ag z n (cells.drop z.length) with | some x, some xs => some (x :: xs) | _, _ => none)
theorem toD1_ok {z x : D} {v : V} {u : Value} (h : toD1 z v = some x) (hv : VR C v u) : DR C.G x [u] := by
  unfold toD1 at h
  split at h <;> first | (cases h; done) | skip
  · rename_i x' _
    injection h with h; subst h; unfold VR at hv; exact hv
  · unfold VR at hv; subst hv
    split at h
    · split at h
      · injection h with h; subst h
        unfold DR; exact ⟨none, 0, rfl, Nat.le_refl _, by simp [maxLen], by assumption, fun h => absurd rfl h⟩
      · cases h
    · cases h
  · injection h with h; subst h; unfold VR at hv; exact hv.1
theorem toDs_ok : ∀ {z : List D} {vs : List V} {xs : List D} {us : List Value}, toDs z vs = some xs → VRs C vs us → DAgg C.G xs us ∧ xs.length = z.length
  | [], [], xs, us, h, hv => by
    simp only [toDs, Option.some.injEq] at h; subst h
    unfold VRs at hv; subst hv
    exact ⟨by unfold DAgg; rfl, rfl⟩
  | [], _ :: _, _, _, h, _ => by simp [toDs] at h
  | _ :: _, [], _, _, h, _ => by simp [toDs] at h
  | z :: zs, v :: vs, xs, us, h, hv => by
    simp only [toDs] at h
    split at h
    · rename_i x ys h1 h2
      injection h with h; subst h
      unfold VRs at hv
      obtain ⟨u, r, rfl, h3, h4⟩ := hv
      obtain ⟨h5, h6⟩ := toDs_ok h2 h4
      exact ⟨by unfold DAgg; exact ⟨u, r, rfl, toD1_ok h1 h3, h5⟩, by simp [h6]⟩
    · cases h
theorem elemD_ok {ag : Bool} {z : List D} {cells : List V} {x : D} {us : List Value} (h : elemD ag z cells = some x) (hv : VRs C cells us) : DR C.G x us ∧ us.length = z.length := by
  unfold elemD at h
  split at h
  · rename_i xs hx
    obtain ⟨h1, h2⟩ := toDs_ok hx hv
    refine ⟨?_, by rw [h1.length, h2]⟩
    split at h
    · injection h with h; subst h; unfold DR; exact h1
    · split at h
      · injection h with h; subst h
        unfold DAgg at h1
        obtain ⟨v, r, rfl, h3, h4⟩ := h1
        unfold DAgg at h4; subst h4
        exact h3
      · cases h
  · cases h
theorem elemsD_ok {ag : Bool} {z : List D} : ∀ {n : Nat} {cells : List V} {xs : List D} {us : List Value}, elemsD ag z n cells = some xs → VRs C cells us → xs.length = n ∧ ∀ (k : Nat) (x : D), xs[k]? = some x → ∃ ce, ce.length = z.length ∧ DR C.G x ce ∧ ∀ (j : Nat) (v : Value), ce[j]? = some v → us[k * z.length + j]? = some v
  | 0, _, _, _, h, _ => by simp only [elemsD, Option.some.injEq] at h; subst h; exact ⟨rfl, fun k x hk => by simp at hk⟩
  | n + 1, cells, xs, us, h, hv => by
    simp only [elemsD] at h
    split at h
    · rename_i x ys h1 h2
      injection h with h; subst h
      obtain ⟨h3, h4⟩ := elemD_ok h1 (hv.take _)
      obtain ⟨h5, h6⟩ := elemsD_ok h2 (hv.drop _)
      refine ⟨by simp [h5], fun k y hk => ?_⟩
      cases k with
      | zero =>
        simp at hk; subst hk
        refine ⟨_, h4, h3, fun j v hj => ?_⟩
        rw [List.getElem?_take] at hj
        split at hj
        · simpa using hj
        · cases hj
      | succ k =>
        obtain ⟨ce, l1, l2, l3⟩ := h6 k y (by simpa using hk)
        refine ⟨ce, l1, l2, fun j v hj => ?_⟩
        have := l3 j v hj
        rw [List.getElem?_drop] at this
        rwa [show z.length + (k * z.length + j) = (k + 1) * z.length + j by rw [Nat.add_mul]; omega] at this
    · cases h
/-- A slice's elements. -/
def rowOf (q : Nat) : V → Option (List D)
  | .d (.sl q' ys) => if q' = q then some ys else none
  | .own q' ys _ => if q' = q then some ys else none
  | .nil => some []
  | .nn _ q' ys => if q' = q then some ys else none
  | _ => none
theorem rowOf_ok {q : Nat} (hq : 0 < q) {v : V} {ys : List D} {u : Value} (h : rowOf q v = some ys) (hv : VR C v u) : DR C.G (.sl q ys) [u] := by
  unfold rowOf at h
  split at h <;> first | (cases h; done) | skip
  · split at h
    · rename_i hq'; injection h with h; subst h; subst hq'; unfold VR at hv; exact hv
    · cases h
  · split at h
    · rename_i hq'; injection h with h; subst h; subst hq'; unfold VR at hv; exact hv.1
    · cases h
  · injection h with h; subst h; unfold VR at hv; subst hv
    unfold DR; exact ⟨none, 0, rfl, Nat.le_refl _, by simp [maxLen], hq, fun h => absurd rfl h⟩
  · split at h
    · rename_i hq'; injection h with h; subst h; subst hq'; unfold VR at hv; exact hv.1
    · cases h
/-- The cells of what is read. -/
theorem dr_news {G : GC} (hG : ∀ b o v, G b o = some v → w.cell? ⟨b, o, none⟩ = some v) {q : Nat} {ys : List D} {u : Value} (h : DR G (.sl q ys) [u]) : ∃ (ad : Option Addr) (c : Nat) (news : List Value), u = .slice ad ys.length c ∧ news.length = ys.length * q ∧ (∀ v ∈ news, v.oneCell' = true) ∧ (∀ (j : Nat) (v : Value), news[j]? = some v → ∃ x, ad = some x ∧ w.cell? (x.add j) = some v) ∧
    ∀ (k : Nat) (y : D), ys[k]? = some y → ∃ ce, ce.length = q ∧ DR G y ce ∧ ∀ (j : Nat) (v : Value), ce[j]? = some v → news[k * q + j]? = some v := by
  unfold DR at h
  obtain ⟨a, c, e1, h1, h2, h3, h4⟩ := h
  injection e1 with e1
  by_cases hn : ys = []
  · subst hn
    exact ⟨a, c, [], e1, by simp, by simp, by simp, by simp⟩
  · obtain ⟨b, o', rfl, hr⟩ := h4 hn
    obtain ⟨news, l1, l2, l3⟩ := hr.cells
    refine ⟨_, c, news, e1, l1, l2, fun j v hj => ⟨_, rfl, by rw [add_at]; exact hG _ _ _ (l3 j v hj)⟩, fun k y hk => ?_⟩
    obtain ⟨ce, k1, k2, k3⟩ := hr.get hk
    refine ⟨ce, k1, k2, fun j v hj => ?_⟩
    have hkl : k < ys.length := (List.getElem?_eq_some_iff.1 hk).1
    have hjl : j < q := by rw [← k1]; exact (List.getElem?_eq_some_iff.1 hj).1
    have hlt : k * q + j < news.length := by
      rw [l1]
      have : (k + 1) * q ≤ ys.length * q := Nat.mul_le_mul_right _ hkl
      rw [Nat.add_mul] at this; omega
    have h5 := l3 _ _ (List.getElem?_eq_getElem hlt)
    have h6 := k3 j v hj
    rw [← Nat.add_assoc] at h5
    rw [h6] at h5
    injection h5 with h5
    rw [List.getElem?_eq_getElem hlt, h5]
/-- The nil slice, named: a row without elements. -/
theorem Rel.ownNil (R : Rel w0 lent C σ w) {i : Nat} (hi : σ[i]? = some .fresh) (e : Nat) {q : Nat} : ∃ C', Rel w0 lent C' (σ.set i (.cap e q 0)) w ∧ C.le C' ∧ C'.cur i = some (0, .slice none 0 0) ∧ C'.G = C.G := by
  obtain ⟨hf, hc⟩ := R.obs i _ hi
  have hil : i < C.ρ.length := (List.getElem?_eq_some_iff.1 hf).1
  have hle : C.le { G := C.G, ρ := C.ρ.set i (some 0), cur := fun j => if j = i then some (0, .slice none 0 0) else C.cur j } := put_le (GC.le_refl _) hf (by simp)
  refine ⟨_, R.step hi ⟨hle, by simp, fun j hj => by simp only; rw [List.getElem?_set_ne (fun e => hj e.symm)], fun j hj => by simp [hj], fun b hb _ => rfl, R.ro, fun _ _ _ _ => rfl, ?_, fun b hb => ?_, Nat.le_refl _, rfl, rfl, rfl⟩, hle, by simp, rfl⟩
  · refine ⟨by simp only; rw [List.getElem?_set_self hil]; simp, .slice none 0 0, [], by simp, World.ownsRow_nil w 0 e q, fun b hb => by simp [Value.ownBlock] at hb⟩
  · simp [blockOf, Value.ownBlock] at hb
def appendV (T : Tb P) (t : Nat) (s x : V) (σ : List Ob) (nw : Nat) (K : KK) : Prop :=
  match (T.ty t).inf with
  | .sl e q b => (match rowOf q x with
    | some ys => (match s with
      | .nil => ys.length * b ≤ 140737488355328 ∧ ys.length ≤ 9223372036854775807 ∧ K (.own q ys nw) [(nw, .fresh)] [(nw, .cap e q ys.length)]
      | .own q' xs c => (match σ[c]? with
        | some (.cap e' q'' n) => q' = q ∧ e' = e ∧ q'' = q ∧ n = xs.length ∧ (xs.length + ys.length) * b ≤ 140737488355328 ∧ xs.length + ys.length ≤ 9223372036854775807 ∧ K (.own q (xs ++ ys) c) [(c, .cap e q n)] [(c, .cap e q (n + ys.length))]
        | _ => False)
      | .row i off len cap => (match σ[i]? with
        | some (.cells ct vs) => off + len * q ≤ vs.length ∧ len ≤ cap ∧ cap < len + ys.length ∧ (T.ty e).z.length = q ∧ (len + ys.length) * b ≤ 140737488355328 ∧ len + ys.length ≤ 9223372036854775807 ∧ (match (T.ty e).inf.agg with
          | some ag => (match elemsD ag (T.ty e).z len ((vs.drop off).take (len * q)) with
            | some xs => K (.own q (xs ++ ys) nw) [(i, .cells ct vs), (nw, .fresh)] [(nw, .cap e q (len + ys.length))]
            | none => False)
          | none => False)
        | _ => False)
      | _ => False)
    | none => False)
  | _ => False
def needNew : V → Bool
  | .nil | .row .. | .z0 => true
  | _ => false
theorem append_ok {T : Tb P} {t nw : Nat} {s x : Operand} {K : KK} (ho : o.op = .call { callee := .builtin .append, args := #[s, x], argTypes := #[t, t] }) (h : appendV T t (ev s) (ev x) σ nw K) (hnw : needNew (ev s) = true → σ[nw]? = some .fresh) : ∃ v rd wr, K v rd wr ∧ LStep P o ev rd v wr ∧ (∀ p ∈ wr, ∃ q ∈ rd, q.1 = p.1) ∧ ∀ p ∈ rd, σ[p.1]? = some p.2 := by
  unfold appendV at h
  split at h
  · rename_i e q b hs
    obtain ⟨hu, hpos, ti, z, hi, hz, hq, hb, hzs⟩ := inf_sl T hs
    split at h
    · rename_i ys hys
      split at h
      · rename_i hsn
        obtain ⟨h1, h2, h⟩ := h
        refine ⟨_, _, _, h, fun w0 lent C σ w a R hx hrd K Q hK => ?_, by simp, by simpa using hnw (by rw [hsn]; rfl)⟩
        have hxs := hx s (by simp [ho, Op.operands, Call.operands]); rw [hsn] at hxs; unfold VR at hxs
        have hxx := rowOf_ok hpos hys (hx x (by simp [ho, Op.operands, Call.operands]))
        obtain ⟨C1, R1, hle1, hcur1, hG1⟩ := R.ownNil (hrd (nw, .fresh) (by simp)) e (q := q)
        have hxx1 := hxx.mono hle1.G
        obtain ⟨ad, c, news, e1, l1, l2, l3, l4⟩ := dr_news R1.ro hxx1
        have hown : w.ownsRow 0 e q (.slice none 0 0) 0 [] := World.ownsRow_nil w 0 e q
        obtain ⟨u', w', hr, hg⟩ := append_run (P := P) (ty := o.type) (c := c) hu hi hz hq hb hzs hpos hown l1 l3 l2 (by simpa using h1) (by simpa using h2)
        obtain ⟨hil, _⟩ := List.getElem?_eq_some_iff.1 (hrd (nw, .fresh) (by simp))
        obtain ⟨C2, R2, hle2, hv2⟩ := R1.grow (i := nw) (e := e) (q := q) (n := 0) (xs := []) (ys := ys) (by rw [List.getElem?_set_self hil]) hcur1 hown hpos rfl rfl (by unfold DR; exact ⟨none, 0, rfl, Nat.le_refl _, by simp [maxLen], hpos, fun h => absurd rfl h⟩) l4 l1 hg (by simp [maxLen]; omega)
        have hrun : (execOp a.eval o).run P w = .ok (.value u') w' := by
          simp [execOp, ho, resolve, invoke, builtin, hxs, e1, hr]
        unfold Oper.wp
        rw [hrun]
        refine hK C2 w' u' ?_ (Cx.le_trans hle1 hle2) hv2
        simpa [upd] using R2
      · rename_i q' xs c hsn
        split at h
        · rename_i e' q'' n hσ
          obtain ⟨rfl, rfl, rfl, rfl, h1, h2, h⟩ := h
          refine ⟨_, _, _, h, fun w0 lent C σ w a R hx hrd K Q hK => ?_, by simp, by simpa using hσ⟩
          have hxs := hx s (by simp [ho, Op.operands, Call.operands]); rw [hsn] at hxs; unfold VR at hxs
          have hxx := rowOf_ok hpos hys (hx x (by simp [ho, Op.operands, Call.operands]))
          obtain ⟨k1, k2, k3, k4⟩ := hxs
          have hi' := hrd (c, .cap e' q'' xs.length) (by simp)
          obtain ⟨_, u, cs, hcur, hown, _⟩ := R.obs c _ hi'
          obtain ⟨_, hvu⟩ := k4 _ _ hcur
          have hvu := hvu rfl
          rw [hvu] at k1
          obtain ⟨ad, c', news, e1, l1, l2, l3, l4⟩ := dr_news R.ro hxx
          obtain ⟨u', w', hr, hg⟩ := append_run (P := P) (ty := o.type) (c := c') hu hi hz hq hb hzs hpos hown l1 l3 l2 h1 h2
          obtain ⟨C2, R2, hle2, hv2⟩ := R.grow hi' hcur hown hpos rfl rfl k1 l4 l1 hg (by simp [maxLen]; omega)
          have hrun : (execOp a.eval o).run P w = .ok (.value u') w' := by
            simp [execOp, ho, resolve, invoke, builtin, hvu, e1, hr]
          unfold Oper.wp
          rw [hrun]
          exact hK C2 w' u' (by simpa [upd] using R2) hle2 hv2
        · exact h.elim
      · rename_i i off len cap hsn
        split at h
        · rename_i ct vs hσ
          obtain ⟨h0, hlc, hgr, hzl, h1, h2, h⟩ := h
          split at h
          · rename_i ag hag
            split at h
            · rename_i xs hel
              have hnw' := hnw (by rw [hsn]; rfl)
              refine ⟨_, _, _, h, fun w0 lent C σ w a R hx hrd K Q hK => ?_, by simp, by simp [hσ, hnw']⟩
              have hxs := hx s (by simp [ho, Op.operands, Call.operands]); rw [hsn] at hxs; unfold VR at hxs
              obtain ⟨bl, hbl, hxs⟩ := hxs
              have hxx := rowOf_ok hpos hys (hx x (by simp [ho, Op.operands, Call.operands]))
              obtain ⟨bl', cs, c1, c2, c3, c4, c5⟩ := R.cellAt (hrd (i, .cells ct vs) (by simp))
              rw [hbl] at c1; injection c1 with c1; injection c1 with c1; subst c1
              obtain ⟨k1, k2⟩ := elemsD_ok hel ((c2.drop off).take (len * q))
              rw [hzl] at k2
              have hol : ((cs.drop off).take (len * q)).length = len * q := by have := c2.length; simp; omega
              generalize hod : (cs.drop off).take (len * q) = olds at *
              have hcell : ∀ (j : Nat) (v : Value), olds[j]? = some v → w.cell? ((⟨bl, off, none⟩ : Addr).add j) = some v := fun j v hv => by
                rw [add_at]
                rw [← hod, List.getElem?_take] at hv
                split at hv
                · rw [List.getElem?_drop] at hv; exact c5 _ _ hv
                · cases hv
              obtain ⟨C1, R1, hle1, hcur1, hG1⟩ := R.ownNil (hrd (nw, .fresh) (by simp)) e (q := q)
              have hxx1 := hxx.mono hle1.G
              obtain ⟨ad, c, news, e1, l1, l2, l3, l4⟩ := dr_news R1.ro hxx1
              have hmpos : ys.length ≠ 0 := by omega
              have had : ∃ x, ad = some x ∧ ∀ (j : Nat) (v : Value), news[j]? = some v → w.cell? (x.add j) = some v := by
                have hlt : 0 < news.length := by rw [l1]; exact Nat.mul_pos (by omega) hpos
                obtain ⟨x, hx, _⟩ := l3 0 _ (List.getElem?_eq_getElem hlt)
                refine ⟨x, hx, fun j v hv => ?_⟩
                obtain ⟨x', hx', h⟩ := l3 j v hv
                rw [hx] at hx'; injection hx' with hx'; subst hx'; exact h
              obtain ⟨xa, rfl, hxa⟩ := had
              have hown : w.ownsRow 0 e q (.slice none 0 0) 0 [] := World.ownsRow_nil w 0 e q
              subst hq; subst hb
              have hr := run_append_grow (P := P) w t o.type e ti z hu hi hz ⟨bl, off, none⟩ len cap olds hol hcell xa ys.length c news l1 hxa (by omega) (by omega) (growslice_fits (by omega) h1)
              have hml : len + ys.length ≤ maxLen := by simp only [maxLen]; omega
              have hg := grown_new (w := w) (e := e) (q := ti.size) (u := .slice none 0 0) (n := 0) (cs := []) (m := len + ys.length) (cap := grownCap w (len + ys.length) cap e) (news := olds ++ news) (rest := Builtin.zeroCells z.cells (grownCap w (len + ys.length) cap e - (len + ys.length))) (by simp) (by rw [List.length_append, hol, l1, Nat.add_mul]) (by have := grownCap_ge w (len + ys.length) cap e; omega) (grownCap_le_maxLen w _ _ _ hml) (by rw [zeroCells_size, hzs]; simp) (by omega)
              obtain ⟨hil, _⟩ := List.getElem?_eq_some_iff.1 (hrd (nw, .fresh) (by simp))
              obtain ⟨C2, R2, hle2, hv2⟩ := R1.grow (i := nw) (e := e) (q := ti.size) (n := 0) (xs := []) (ys := xs ++ ys) (m := len + ys.length) (by rw [List.getElem?_set_self hil]) hcur1 hown hpos rfl (by rw [List.length_append, k1]) (by unfold DR; exact ⟨none, 0, rfl, Nat.le_refl _, by simp [maxLen], hpos, fun h => absurd rfl h⟩) (fun k y hk => by
                rw [List.getElem?_append] at hk
                split at hk
                · rename_i hkl
                  obtain ⟨ce, m1, m2, m3⟩ := k2 k y hk
                  refine ⟨ce, m1, m2.mono hle1.G, fun j v hv => ?_⟩
                  have h3 := m3 j v hv
                  rw [List.getElem?_append_left (List.getElem?_eq_some_iff.1 h3).1]; exact h3
                · rename_i hkl
                  obtain ⟨ce, m1, m2, m3⟩ := l4 _ y hk
                  refine ⟨ce, m1, m2, fun j v hv => ?_⟩
                  have h3 := m3 j v hv
                  have h4 : len * ti.size ≤ k * ti.size := Nat.mul_le_mul_right _ (by omega)
                  rw [List.getElem?_append_right (by omega), hol]
                  rw [k1, Nat.sub_mul] at h3
                  rwa [show k * ti.size + j - len * ti.size = k * ti.size - len * ti.size + j by omega]) (by rw [List.length_append, hol, l1, Nat.add_mul]) hg (by simp [maxLen]; omega)
              have hrun : (execOp a.eval o).run P w = .ok (.value (.slice (some ⟨w.heap.size, 0, none⟩) (0 + (len + ys.length)) (grownCap w (len + ys.length) cap e))) (w.drew.alloc (.cells ((([] : List Value)).toArray ++ (olds ++ news).toArray ++ Builtin.zeroCells z.cells (grownCap w (len + ys.length) cap e - (len + ys.length))) e)) := by
                simp [execOp, ho, resolve, invoke, builtin, hxs, e1, hr]
              unfold Oper.wp
              rw [hrun]
              refine hK C2 _ _ ?_ (Cx.le_trans hle1 hle2) hv2
              simpa [upd] using R2
            · exact h.elim
          · exact h.elim
        · exact h.elim
      · exact h.elim
    · exact h.elim
  · exact h.elim
/-- A literal of a slice: a row that may grow, or (nm) a named block. -/
def buildSliceV (T : Tb P) (t len : Nat) (parts : List (Nat × V)) (nm : Bool) (nw : Nat) (K : KK) : Prop :=
  match (T.ty t).inf with
  | .sl e q _ => len * q ≤ 16777216 ∧ len ≤ 9223372036854775807 ∧ (match fillV (fun i => some (i * q, q)) (List.replicate (len * q) .any) parts with
    | some cells => if nm then cells.all V.one = true ∧ K (.row nw 0 len len) [(nw, .fresh)] [(nw, .cells e cells)]
      else (T.ty e).z.length = q ∧ (match (T.ty e).inf.agg with
        | some ag => (match elemsD ag (T.ty e).z len cells with
          | some xs => K (.own q xs nw) [(nw, .fresh)] [(nw, .cap e q len)]
          | none => False)
        | none => False)
    | none => False)
  | _ => False
theorem vrs_any : ∀ {n : Nat} {us : List Value}, us.length = n → VRs C (List.replicate n .any) us
  | 0, us, h => by rw [List.eq_nil_of_length_eq_zero h]; exact .nil
  | n + 1, [], h => by simp at h
  | n + 1, u :: us, h => by rw [List.replicate_succ]; exact .cons (VR.any' _ _) (vrs_any (by simpa using h))
theorem bs_run {t e q len : Nat} {i : TypeInfo} {z : Value} {parts : Array (Nat × Operand)} (ho : o.op = .buildSlice t len parts) (hu : P.underlying t = some (.slice e)) (hi : P.info? e = some i) (hz : i.zero = some z) (hq : i.size = q) (hsz : len * q ≤ 16777216) {C : Cx} {w : World} {a : Act} {pv : List (Nat × V)} {cells : List V}
    (hf : fillV (fun i => some (i * q, q)) (List.replicate (len * q) .any) pv = some cells) (hl : (parts.map fun (i, x) => (i, a.eval x)).toList.length = pv.length) (hp : ∀ (j : Nat) (p : Nat × V) (q : Nat × Value), pv[j]? = some p → (parts.map fun (i, x) => (i, a.eval x)).toList[j]? = some q → p.1 = q.1 ∧ VR C p.2 q.2) :
    ∃ os : Array Value, VRs C cells os.toList ∧ (execOp a.eval o).run P w = .ok (.value (.slice (some ⟨w.heap.size, 0, none⟩) len len)) (w.alloc (.cells os e (0, 0))) := by
  have h48 : ¬ (2 ^ 24 < len * q) := by omega
  have hzv : (zeroValue e).run P w = .ok z w := by simp [zeroValue, typeInfo, hi, hz]
  have hso : (sizeOf e).run P w = .ok q w := sizeOf_run (by rw [hi]; simp [hq]) w
  by_cases h0 : len * q = 0
  · obtain ⟨os, h1, h2⟩ := fill_ok (C := C) (cs := (Array.range (len * q)).map ((#[] : Array Value)[· % (#[] : Array Value).size]!)) hf (vrs_any (by simp)) hl hp
    refine ⟨os, h2, ?_⟩
    simp only [execOp, ho, Instr.buildSlice, Sem.run_bind, run_underlying hu, Result.andThen_ok, hso, gt_iff_lt, if_neg h48, if_pos h0, Sem.run_pure]
    rw [h1]
    simp [newRow]
  · obtain ⟨os, h1, h2⟩ := fill_ok (C := C) (cs := (Array.range (len * q)).map (z.cells[· % z.cells.size]!)) hf (vrs_any (by simp)) hl hp
    refine ⟨os, h2, ?_⟩
    simp only [execOp, ho, Instr.buildSlice, Sem.run_bind, run_underlying hu, Result.andThen_ok, hso, gt_iff_lt, if_neg h48, if_neg h0, Sem.run_pure, hzv]
    rw [h1]
    simp [newRow]
theorem fill_length {q : Nat} : ∀ {l : List (Nat × V)} {c0 c1 : List V}, fillV (fun i => some (i * q, q)) c0 l = some c1 → c1.length = c0.length := by
  intro l
  induction l with
  | nil => intro c0 c1 h; simp only [fillV, Option.some.injEq] at h; rw [h]
  | cons p l ih =>
    intro c0 c1 h
    obtain ⟨pi, pv⟩ := p
    simp only [fillV] at h
    split at h
    · rename_i off size vs h5 h6
      injection h5 with h5
      injection h5 with h5 h7
      subst h5; subst h7
      split at h
      · rename_i h8
        rw [ih h]
        unfold spl
        simp; omega
      · cases h
    · cases h
/-- A new row without elements. -/
theorem Rel.own0 (R : Rel w0 lent C σ w) {i : Nat} (hi : σ[i]? = some .fresh) (e : Nat) {q : Nat} {os : Array Value} (hs : os.size = 0) : ∃ C', Rel w0 lent C' (σ.set i (.cap e q 0)) (w.alloc (.cells os e (0, 0))) ∧ C.le C' ∧ C'.cur i = some (0, .slice (some ⟨w.heap.size, 0, none⟩) 0 0) ∧ C'.ρ[i]? = some (some 0) := by
  obtain ⟨hf, hc⟩ := R.obs i _ hi
  have hil : i < C.ρ.length := (List.getElem?_eq_some_iff.1 hf).1
  have hle : C.le { G := C.G, ρ := C.ρ.set i (some 0), cur := fun j => if j = i then some (0, .slice (some ⟨w.heap.size, 0, none⟩) 0 0) else C.cur j } := put_le (GC.le_refl _) hf (by simp)
  have hget : (C.ρ.set i (some 0))[i]? = some (some 0) := List.getElem?_set_self hil
  refine ⟨_, R.step hi ⟨hle, by simp, fun j hj => by simp only; rw [List.getElem?_set_ne (fun e => hj e.symm)], fun j hj => by simp [hj], fun b hb _ => Below.heap_alloc w _ b hb, fun b k v h => ?_, fun _ _ _ _ => rfl, ?_, fun b hb => ?_, by simp, rfl, rfl, rfl⟩, hle, by simp, hget⟩
  · rw [World.cell?_of_block (Below.heap_alloc w _ b (World.block_lt_of_cell? w _ (R.ro b k v h)))]
    exact R.ro b k v h
  · refine ⟨by rw [hget]; simp, .slice (some ⟨w.heap.size, 0, none⟩) 0 0, [], by simp, World.ownsRow_made w os 0 (Nat.zero_le _) (Nat.zero_le _) (by simpa using hs), fun b hb k _ => ?_⟩
    simp only [Value.ownBlock, Option.some.injEq] at hb
    subst hb
    exact R.noG _ (Nat.le_refl _) k
  · simp [blockOf, Value.ownBlock] at hb
    exact .inr (by omega)
theorem buildSlice_ok {T : Tb P} {t len nw : Nat} {nm : Bool} {parts : Array (Nat × Operand)} {K : KK} (ho : o.op = .buildSlice t len parts) (h : buildSliceV T t len (partsV ev parts) nm nw K) (hnw : σ[nw]? = some .fresh) : ∃ v rd wr, K v rd wr ∧ LStep P o ev rd v wr ∧ (∀ p ∈ wr, ∃ q ∈ rd, q.1 = p.1) ∧ ∀ p ∈ rd, σ[p.1]? = some p.2 := by
  unfold buildSliceV at h
  split at h
  · rename_i e q b hs
    obtain ⟨hu, hpos, i, z, hi, hz, hq, hb, hzs⟩ := inf_sl T hs
    obtain ⟨hsz, hlm, h⟩ := h
    split at h
    · rename_i cells hf
      have hrun : ∀ (C : Cx) (w : World) (a : Act), (∀ x ∈ o.op.operands.toList, VR C (ev x) (a.eval x)) → ∃ os : Array Value, VRs C cells os.toList ∧ (execOp a.eval o).run P w = .ok (.value (.slice (some ⟨w.heap.size, 0, none⟩) len len)) (w.alloc (.cells os e (0, 0))) := fun C w a hx => by
        obtain ⟨hl, hp⟩ := partsV_ok (parts := parts) (C := C) (a := a) (ev := ev) (fun x hm => hx x (by simpa [ho, Op.operands] using hm))
        exact bs_run (by rw [ho]) hu hi hz hq hsz hf hl hp
      split at h
      · obtain ⟨hone, h⟩ := h
        refine ⟨_, _, _, h, fun w0 lent C σ w a R hx hrd K Q hK => ?_, by simp, by simpa using hnw⟩
        obtain ⟨os, h1, h2⟩ := hrun C w a hx
        obtain ⟨C', R', hle, hr⟩ := R.alloc (hrd (nw, .fresh) (by simp)) (t := e) h1 (all_one hone h1)
        unfold Oper.wp
        rw [h2]
        exact hK C' _ _ R' hle (by unfold VR; exact ⟨_, hr, rfl⟩)
      · obtain ⟨hzl, h⟩ := h
        split at h
        · rename_i ag hag
          split at h
          · rename_i xs hxs
            refine ⟨_, _, _, h, fun w0 lent C σ w a R hx hrd K Q hK => ?_, by simp, by simpa using hnw⟩
            obtain ⟨C1, R1, hle1, hcur1, hG1⟩ := R.ownNil (hrd (nw, .fresh) (by simp)) e (q := q)
            obtain ⟨os, h1, h2⟩ := hrun C1 w a (fun x hm => (hx x hm).mono hle1)
            obtain ⟨hlen, hel⟩ := elemsD_ok hxs h1
            rw [hzl] at hel
            obtain ⟨hil, _⟩ := List.getElem?_eq_some_iff.1 (hrd (nw, .fresh) (by simp))
            have hosl : os.toList.length = len * q := by rw [h1.length, fill_length hf]; simp
            unfold Oper.wp
            by_cases h0 : len = 0
            · subst h0
              obtain ⟨C2, R2, hle2, hcur2, hρ2⟩ := R.own0 (hrd (nw, .fresh) (by simp)) e (q := q) (os := os) (by simpa using hosl)
              rw [h2]
              refine hK C2 _ _ (by simpa [upd] using R2) hle2 ?_
              have hxn : xs = [] := List.eq_nil_of_length_eq_zero hlen
              subst hxn
              unfold VR
              refine ⟨by unfold DR; exact ⟨_, 0, rfl, Nat.le_refl _, by simp [maxLen], hpos, fun h => absurd rfl h⟩, (List.getElem?_eq_some_iff.1 hρ2).1, by rw [hρ2]; simp, fun n u hn => ?_⟩
              rw [hcur2] at hn
              simp only [Option.some.injEq, Prod.mk.injEq] at hn
              exact ⟨by simp, fun _ => hn.2⟩
            · have hgr : Grown w e q (.slice none 0 0) 0 [] (w.alloc (.cells os e (0, 0))) (.slice (some ⟨w.heap.size, 0, none⟩) (0 + len) len) len os.toList := by
                refine ⟨⟨by simpa using hosl, .inr ⟨w.heap.size, len, os, rfl, Nat.zero_le _, Go.heap_alloc_new w _, by omega, by simp [maxLen]; omega, by simpa using hosl, ?_⟩⟩, rfl, rfl, rfl, by simp, fun h => absurd h h0, .inr ⟨rfl, fun b hb => Below.heap_alloc w _ b hb⟩⟩
                simp only [Nat.zero_add, List.nil_append]
                rw [← hosl]
                exact List.take_length
              obtain ⟨C2, R2, hle2, hv2⟩ := R1.grow (i := nw) (e := e) (q := q) (n := 0) (m := len) (xs := []) (ys := xs) (by rw [List.getElem?_set_self hil]) hcur1 (World.ownsRow_nil w 0 e q) hpos rfl hlen (by unfold DR; exact ⟨none, 0, rfl, Nat.le_refl _, by simp [maxLen], hpos, fun h => absurd rfl h⟩) hel hosl hgr (by simp [maxLen]; omega)
              rw [h2]
              simp only [Nat.zero_add, List.nil_append, List.set_set] at R2 hv2
              exact hK C2 _ _ (by simpa [upd] using R2) (Cx.le_trans hle1 hle2) hv2
          · exact h.elim
        · exact h.elim
    · exact h.elim
  · exact h.elim
end
end Go.Proofs.Ytgebfcdcpmmgnaa.Vs
