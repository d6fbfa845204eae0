/- More operations that leave what is named: places, parts, lengths, literals. -/
import Derived.Test.YtgebfcdcpmmgnaaVsE
set_option linter.unusedVariables false
set_option linter.unusedSimpArgs false
namespace Go.Proofs.Ytgebfcdcpmmgnaa.Vs
open Go.RowKit
theorem add_at (b o k : Nat) : (⟨b, o, none⟩ : Addr).add k = ⟨b, o + k, none⟩ := by unfold Addr.add; split <;> simp_all
section
variable {P : Program} {o : Oper} {ev : Operand → V} {K : V → Prop}
/-- Values of one cell. -/
def V.one : V → Bool
  | .d (.agg _) | .any | .agg _ | .tup _ => false
  | _ => true
theorem one_ok {C : Cx} {v : V} {u : Value} (h : v.one = true) (hv : VR C v u) : u.oneCell' = true ∧ u.cells = #[u] := by
  have : u.oneCell' = true := by
    cases v <;> simp only [V.one, Bool.false_eq_true] at h
    case d x =>
      unfold VR at hv
      exact hv.one u (by simp)
    case own q xs c => unfold VR at hv; exact hv.1.one u (by simp)
    case nil => unfold VR at hv; subst hv; rfl
    case ptr => unfold VR at hv; obtain ⟨b, _, rfl⟩ := hv; rfl
    case row => unfold VR at hv; obtain ⟨b, _, rfl⟩ := hv; rfl
    case map => unfold VR at hv; obtain ⟨b, _, rfl⟩ := hv; rfl
    case hd => unfold VR at hv; obtain ⟨_, _, ⟨a, c, rfl, _⟩, _⟩ := hv; rfl
    case ep => unfold VR at hv; obtain ⟨_, _, ⟨b, rfl⟩, _⟩ := hv; rfl
    case z0 => unfold VR at hv; obtain ⟨a, rfl⟩ := hv; rfl
    case nn => unfold VR at hv; obtain ⟨_, a, n, c, rfl, _⟩ := hv; rfl
    case el => unfold VR at hv; obtain ⟨b, o, cs, rfl, _⟩ := hv; rfl
    case fn => unfold VR at hv; obtain ⟨us, vs, rfl, _⟩ := hv; rfl
    case iface => unfold VR at hv; obtain ⟨u', rfl, _⟩ := hv; rfl
  exact ⟨this, by cases u <;> first | rfl | (simp [Value.oneCell'] at this)⟩
/-! ### Places -/
def fieldAddrV (T : Tb P) (s : Nat) (x : V) (f : Nat) (K : V → Prop) : Prop :=
  match (T.ty s).inf with
  | .st fs => (match fs[f]? with
    | some (off, sz, _) => sz ≠ 0 ∧ (match x with
      | .ptr i o => K (.ptr i (o + off))
      | .el q y o => K (.el q y (o + off))
      | .ep i k o => K (.ep i k (o + off))
      | _ => False)
    | none => False)
  | _ => False
theorem inf_st (T : Tb P) {t : Nat} {fs : List (Nat × Nat × Bool)} (h : (T.ty t).inf = .st fs) : ∃ fields, P.underlying t = some (.struct fields) ∧ ∀ (f off sz : Nat) (ag : Bool), fs[f]? = some (off, sz, ag) → ∃ fd, fields[f]? = some fd ∧ fd.offset = off ∧ ((P.info? fd.type).map (·.size)).getD 0 = sz ∧ ∀ w, (isAgg fd.type).run P w = .ok ag w := by
  obtain ⟨d, hd, hk⟩ := inf_of T h (by simp)
  cases d <;> simp only [infOK, Bool.false_eq_true] at hk
  rename_i fields
  simp only [Bool.and_eq_true, beq_iff_eq] at hk
  obtain ⟨hk, hall⟩ := hk
  refine ⟨fields, hd, fun f off sz ag hf => ?_⟩
  rw [← hk, List.getElem?_map] at hf
  cases hx : fields.toList[f]? with
  | none => rw [hx] at hf; cases hf
  | some fd =>
    rw [hx] at hf
    simp only [Option.map_some, Option.some.injEq, Prod.mk.injEq] at hf
    obtain ⟨h1, h2, h3⟩ := hf
    have hx' : fields[f]? = some fd := by simpa using hx
    refine ⟨fd, hx', h1, h2, fun w => ?_⟩
    have hm : fd ∈ fields := by
      rw [Array.mem_iff_getElem?]; exact ⟨f, hx'⟩
    have hs := (Array.all_eq_true'.1 hall) fd hm
    cases hu : P.underlying fd.type with
    | none => rw [hu] at hs; cases hs
    | some d =>
      unfold isAgg
      rw [Sem.run_bind, run_underlying hu w]
      rw [hu] at h3
      subst h3
      cases d <;> rfl
theorem sizeOf_run {t n : Nat} (h : (P.info? t).map (·.size) = some n) (w : World) : (sizeOf t).run P w = .ok n w := by
  cases hi : P.info? t with
  | none => rw [hi] at h; cases h
  | some i =>
    rw [hi] at h
    simp only [Option.map_some, Option.some.injEq] at h
    simp [sizeOf, typeInfo, hi, h]
theorem info_size {t sz : Nat} (h : ((P.info? t).map (·.size)).getD 0 = sz) (hz : sz ≠ 0) : (P.info? t).map (·.size) = some sz := by
  cases hi : P.info? t with
  | none => rw [hi] at h; simp at h; omega
  | some i => rw [hi] at h; simpa using h
theorem fieldAddr_ok {T : Tb P} {s f : Nat} {x : Operand} (ho : o.op = .fieldAddr s x f) (h : fieldAddrV T s (ev x) f K) : ∃ v, K v ∧ YL P o ev v := by
  have h0 : ∀ (C : Cx) (a : Act), (∀ x ∈ o.op.operands.toList, VR C (ev x) (a.eval x)) → VR C (ev x) (a.eval x) := fun C a hx => hx x (by simp [ho, Op.operands])
  unfold fieldAddrV at h
  split at h
  · rename_i fs hs
    obtain ⟨fields, hu, hall⟩ := inf_st T hs
    split at h
    · rename_i off sz ag hf
      obtain ⟨hz, h⟩ := h
      obtain ⟨fd, h1, h2, h3, _⟩ := hall f off sz ag hf
      have hrun : ∀ (w : World) (b o' : Nat), (Instr.fieldAt s (.pointer (some ⟨b, o', none⟩)) f).run P w = .ok (.pointer (some ⟨b, o' + off, none⟩)) w := fun w b o' => by
        simp [Instr.fieldAt, run_underlying hu, h1, Instr.sureAddr, fieldPlace, sizeOf_run (info_size h3 hz), hz, add_at, h2]
      split at h
      · rename_i i o' hx'
        refine ⟨_, h, fun C w a _ hx => ?_⟩
        have h4 := h0 C a hx; rw [hx'] at h4; unfold VR at h4
        obtain ⟨b, h5, h6⟩ := h4
        exact ⟨.pointer (some ⟨b, o' + off, none⟩), by simp [execOp, ho, h6, hrun], by unfold VR; exact ⟨b, h5, rfl⟩⟩
      · rename_i q y o' hx'
        refine ⟨_, h, fun C w a _ hx => ?_⟩
        have h4 := h0 C a hx; rw [hx'] at h4; unfold VR at h4
        obtain ⟨b, o2, cs, h5, h6⟩ := h4
        exact ⟨.pointer (some ⟨b, o2 + o' + off, none⟩), by simp [execOp, ho, h5, hrun], by unfold VR; exact ⟨b, o2, cs, by rw [Nat.add_assoc], h6⟩⟩
      · rename_i i k o' hx'
        refine ⟨_, h, fun C w a _ hx => ?_⟩
        have h4 := h0 C a hx; rw [hx'] at h4; unfold VR at h4
        obtain ⟨h5, h6, ⟨b, h7⟩, h8⟩ := h4
        refine ⟨.pointer (some ⟨b, o' + off, none⟩), by simp [execOp, ho, h7, hrun], ?_⟩
        unfold VR
        refine ⟨h5, h6, ⟨b, rfl⟩, fun m u hu => ⟨(h8 m u hu).1, fun e => ?_⟩⟩
        obtain ⟨b', n, c, e1, e2⟩ := (h8 m u hu).2 e
        rw [h7] at e2; injection e2 with e2; injection e2 with e2; injection e2 with e2 _
        subst e2
        exact ⟨_, n, c, e1, rfl⟩
      · exact h.elim
    · exact h.elim
  · exact h.elim
def nilCheckV (x : V) (K : V → Prop) : Prop :=
  match x with
  | .ptr .. | .el .. | .row .. | .map .. | .fn (.func _) _ _ => K x
  | .iface .. | .ep .. => K x
  | _ => False
theorem nilCheck_ok {x : Operand} (ho : o.op = .nilCheck x) (h : nilCheckV (ev x) K) : ∃ v, K v ∧ YL P o ev v := by
  have h0 : ∀ (C : Cx) (a : Act), (∀ x ∈ o.op.operands.toList, VR C (ev x) (a.eval x)) → VR C (ev x) (a.eval x) := fun C a hx => hx x (by simp [ho, Op.operands])
  refine ⟨ev x, ?_, fun C w a _ hx => ⟨a.eval x, ?_, h0 C a hx⟩⟩
  · unfold nilCheckV at h
    split at h <;> first | exact h.elim | simp_all
  · have h4 := h0 C a hx
    unfold nilCheckV at h
    split at h <;> rename_i hx' <;> first | exact h.elim | skip
    all_goals (rw [hx'] at h4; unfold VR at h4)
    · obtain ⟨b, _, e⟩ := h4; simp [execOp, ho, e]
    · obtain ⟨b, o2, cs, e, _⟩ := h4; simp [execOp, ho, e]
    · obtain ⟨b, _, e⟩ := h4; simp [execOp, ho, e]
    · obtain ⟨b, _, e⟩ := h4; simp [execOp, ho, e]
    · obtain ⟨us, vs, e, _⟩ := h4; simp [execOp, ho, e]
    · obtain ⟨u, e, _⟩ := h4; simp [execOp, ho, e]
    · obtain ⟨_, _, ⟨b, e⟩, _⟩ := h4; simp [execOp, ho, e]
theorem dr_el {G : GC} {q : Nat} {xs : List D} {v : Value} (h : DR G (.sl q xs) [v]) {n : Nat} (hn : n < xs.length) (d : D) : ∃ b o c cs, v = .slice (some ⟨b, o, none⟩) xs.length c ∧ cs.length = q ∧ DR G (xs.getD n d) cs ∧ ∀ (j : Nat) (u : Value), cs[j]? = some u → G b (o + n * q + j) = some u := by
  unfold DR at h
  obtain ⟨a, c, e1, _, _, _, h4⟩ := h
  injection e1 with e1
  obtain ⟨b, o, rfl, hr⟩ := h4 (by intro h0; subst h0; simp at hn)
  obtain ⟨cs, h5, h6, h7⟩ := hr.get (List.getElem?_eq_getElem hn)
  exact ⟨b, o, c, cs, e1, h5, by simpa [List.getD, hn] using h6, h7⟩
/-- What a new thing of a type is. -/
def zd (T : Tb P) (e : TypeId) : D := match (T.ty e).inf.agg with | some false => (T.ty e).z.getD 0 .nilp | _ => .agg (T.ty e).z
def indexAddrV (T : Tb P) (t : Nat) (x i : V) (K : V → Prop) : Prop :=
  match i with
  | .d (.int _ n) => (match (T.ty t).inf, x with
    | .sl e q _, .d (.sl q' xs) => q = q' ∧ 0 ≤ n ∧ n.toNat < xs.length ∧ K (.el q (xs.getD n.toNat (zd T e)) 0)
    | .sl e q _, .own q' xs _ => q = q' ∧ 0 ≤ n ∧ n.toNat < xs.length ∧ K (.el q (xs.getD n.toNat (zd T e)) 0)
    | .sl _ q _, .row j off len _ => 0 ≤ n ∧ n.toNat < len ∧ K (.ptr j (off + n.toNat * q))
    | .sl _ q _, .hd j k m => 0 ≤ n ∧ n.toNat < m ∧ K (.ep j k (n.toNat * q))
    | .arr _ q m, .ptr j off => 0 ≤ n ∧ n.toNat < m ∧ K (.ptr j (off + n.toNat * q))
    | .arr _ q m, .el q' y off => 0 ≤ n ∧ n.toNat < m ∧ K (.el q' y (off + n.toNat * q))
    | _, _ => False)
  | _ => False
theorem indexAddr_ok {T : Tb P} {t : Nat} {x i : Operand} (ho : o.op = .indexAddr t x i) (h : indexAddrV T t (ev x) (ev i) K) : ∃ v, K v ∧ YL P o ev v := by
  have h0 : ∀ (C : Cx) (a : Act), (∀ x ∈ o.op.operands.toList, VR C (ev x) (a.eval x)) → VR C (ev x) (a.eval x) ∧ VR C (ev i) (a.eval i) := fun C a hx => ⟨hx x (by simp [ho, Op.operands]), hx i (by simp [ho, Op.operands])⟩
  have hsl : ∀ {e q b : Nat} {k : IntKind} {n : Int} {bl o' len c : Nat}, (T.ty t).inf = .sl e q b → 0 ≤ n → n.toNat < len → ∀ w : World, (Instr.indexAt t (.slice (some ⟨bl, o', none⟩) len c) (.int k n)).run P w = .ok (.pointer (some ⟨bl, o' + n.toNat * q, none⟩)) w := fun {e q b k n bl o' len c} hs h1 h2 w => by
    obtain ⟨hu, _, inf, z, hi, _, hq, _⟩ := inf_sl T hs
    have h3 : 0 ≤ n ∧ n < (len : Int) := by omega
    simp [Instr.indexAt, asIntOf, run_underlying hu, h3, sizeOf_run (n := q) (by rw [hi]; simp [hq]), add_at]
  have har : ∀ {e q m : Nat} {k : IntKind} {n : Int} {bl o' : Nat}, (T.ty t).inf = .arr e q m → 0 ≤ n → n.toNat < m → ∀ w : World, (Instr.indexAt t (.pointer (some ⟨bl, o', none⟩)) (.int k n)).run P w = .ok (.pointer (some ⟨bl, o' + n.toNat * q, none⟩)) w := fun {e q m k n bl o'} hs h1 h2 w => by
    obtain ⟨hu, _, hq⟩ := inf_arr T hs
    have h3 : 0 ≤ n ∧ n < (m : Int) := by omega
    simp [Instr.indexAt, asIntOf, run_underlying hu, h3, sizeOf_run hq, add_at, Instr.sureAddr]
  unfold indexAddrV at h
  split at h
  · rename_i k n hi
    split at h
    · rename_i e q b q' xs hs hx'
      obtain ⟨rfl, h1, h2, h⟩ := h
      refine ⟨_, h, fun C w a _ hx => ?_⟩
      obtain ⟨h3, h4⟩ := h0 C a hx
      rw [hx'] at h3; rw [hi] at h4; unfold VR at h3
      obtain ⟨bl, o', c, cs, e1, h5, h6, h7⟩ := dr_el h3 h2 (zd T _)
      exact ⟨.pointer (some ⟨bl, o' + n.toNat * q, none⟩), by simp [execOp, ho, e1, vr_int h4, hsl hs h1 h2], by unfold VR; exact ⟨bl, o' + n.toNat * q, cs, rfl, h5, h6, h7⟩⟩
    · rename_i e q b q' xs c' hs hx'
      obtain ⟨rfl, h1, h2, h⟩ := h
      refine ⟨_, h, fun C w a _ hx => ?_⟩
      obtain ⟨h3, h4⟩ := h0 C a hx
      rw [hx'] at h3; rw [hi] at h4; unfold VR at h3
      obtain ⟨bl, o', c, cs, e1, h5, h6, h7⟩ := dr_el h3.1 h2 (zd T _)
      exact ⟨.pointer (some ⟨bl, o' + n.toNat * q, none⟩), by simp [execOp, ho, e1, vr_int h4, hsl hs h1 h2], by unfold VR; exact ⟨bl, o' + n.toNat * q, cs, rfl, h5, h6, h7⟩⟩
    · rename_i e q b j off len c hs hx'
      obtain ⟨h1, h2, h⟩ := h
      refine ⟨_, h, fun C w a _ hx => ?_⟩
      obtain ⟨h3, h4⟩ := h0 C a hx
      rw [hx'] at h3; rw [hi] at h4; unfold VR at h3
      obtain ⟨bl, h5, e1⟩ := h3
      exact ⟨.pointer (some ⟨bl, off + n.toNat * q, none⟩), by simp [execOp, ho, e1, vr_int h4, hsl hs h1 h2], by unfold VR; exact ⟨bl, h5, rfl⟩⟩
    · rename_i e q b j kk m hs hx'
      obtain ⟨h1, h2, h⟩ := h
      refine ⟨_, h, fun C w a _ hx => ?_⟩
      obtain ⟨h3, h4⟩ := h0 C a hx
      rw [hx'] at h3; rw [hi] at h4; unfold VR at h3
      obtain ⟨h5, h6, ⟨ad, c, e1, h7⟩, h8⟩ := h3
      obtain ⟨bl, rfl⟩ := h7 (by omega)
      refine ⟨.pointer (some ⟨bl, 0 + n.toNat * q, none⟩), by simp only [execOp, ho, e1, vr_int h4, Sem.run_bind, hsl hs h1 h2, Result.andThen_ok, Sem.run_pure], ?_⟩
      rw [Nat.zero_add]
      unfold VR
      refine ⟨h5, h6, ⟨bl, rfl⟩, fun mm u hu => ⟨(h8 mm u hu).1, fun e => ?_⟩⟩
      rw [← (h8 mm u hu).2 e]
      exact ⟨bl, m, c, e1, rfl⟩
    · rename_i e q m j off hs hx'
      obtain ⟨h1, h2, h⟩ := h
      refine ⟨_, h, fun C w a _ hx => ?_⟩
      obtain ⟨h3, h4⟩ := h0 C a hx
      rw [hx'] at h3; rw [hi] at h4; unfold VR at h3
      obtain ⟨bl, h5, e1⟩ := h3
      exact ⟨.pointer (some ⟨bl, off + n.toNat * q, none⟩), by simp [execOp, ho, e1, vr_int h4, har hs h1 h2], by unfold VR; exact ⟨bl, h5, rfl⟩⟩
    · rename_i e q m q' y off hs hx'
      obtain ⟨h1, h2, h⟩ := h
      refine ⟨_, h, fun C w a _ hx => ?_⟩
      obtain ⟨h3, h4⟩ := h0 C a hx
      rw [hx'] at h3; rw [hi] at h4; unfold VR at h3
      obtain ⟨bl, o2, cs, e1, h5⟩ := h3
      exact ⟨.pointer (some ⟨bl, o2 + off + n.toNat * q, none⟩), by simp [execOp, ho, e1, vr_int h4, har hs h1 h2], by unfold VR; exact ⟨bl, o2, cs, by rw [Nat.add_assoc], h5⟩⟩
    · exact h.elim
  · exact h.elim
/-- A load out of data. -/
def loadElV (T : Tb P) (t : Nat) (x : V) (K : V → Prop) : Prop :=
  match x with
  | .el q y off => (match (T.ty t).inf.agg with
    | some true => off + (T.ty t).n ≤ q ∧ (match y, off with
      | .agg xs, 0 => if (T.ty t).n = q then K (.agg (xs.map .d)) else K (.agg ((List.range (T.ty t).n).map fun j => .d (y.cell (off + j))))
      | _, _ => K (.agg ((List.range (T.ty t).n).map fun j => .d (y.cell (off + j)))))
    | some false => off < q ∧ K (.d (y.cell off))
    | none => False)
  | _ => False
theorem loadEl_ok {T : Tb P} {t : Nat} {x : Operand} (ho : o.op = .load t x) (h : loadElV T t (ev x) K) : ∃ v, K v ∧ YL P o ev v := by
  have h0 : ∀ (C : Cx) (a : Act), (∀ x ∈ o.op.operands.toList, VR C (ev x) (a.eval x)) → VR C (ev x) (a.eval x) := fun C a hx => hx x (by simp [ho, Op.operands])
  unfold loadElV at h
  split at h
  · rename_i q y off hx'
    split at h
    · rename_i hag
      obtain ⟨h1, h⟩ := h
      have S := T.spec (t := t) rfl (by intro e; rw [e] at hag; cases hag)
      have gen : YL P o ev (.agg ((List.range (T.ty t).n).map fun j => .d (y.cell (off + j)))) := fun C w a hG hx => by
        have h3 := h0 C a hx; rw [hx'] at h3; unfold VR at h3
        obtain ⟨b, o', cs, e1, h4, h5, h6⟩ := h3
        have hl : ((cs.drop off).take (T.ty t).n).length = (T.ty t).n := by simp; omega
        refine ⟨.agg ((cs.drop off).take (T.ty t).n).toArray, Sl.run_load_agg ho e1 (S.isAgg hag w) (by rw [hl]; exact S.size) (fun j v hv => ?_), ?_⟩
        · rw [add_at]
          refine hG _ _ _ ?_
          rw [List.getElem?_take] at hv
          split at hv
          · rw [List.getElem?_drop] at hv
            have := h6 _ _ hv
            rwa [← Nat.add_assoc] at this
          · cases hv
        · unfold VR
          refine ⟨_, rfl, VRs.of (by rw [hl]; simp) fun i x v hx hv => ?_⟩
          rw [List.getElem?_take] at hv
          split at hv
          · rename_i hi
            rw [List.getElem?_drop] at hv
            simp only [List.getElem?_map, List.getElem?_range hi, Option.map_some, Option.some.injEq] at hx
            subst hx
            unfold VR
            exact h5.cell hv
          · cases hv
      split at h
      · rename_i xs
        split at h
        · rename_i hnq
          refine ⟨_, h, fun C w a hG hx => ?_⟩
          have h3 := h0 C a hx; rw [hx'] at h3; unfold VR at h3
          obtain ⟨b, o', cs, e1, h4, h5, h6⟩ := h3
          simp only [Nat.add_zero] at e1
          refine ⟨.agg cs.toArray, Sl.run_load_agg ho e1 (S.isAgg hag w) (by rw [h4, ← hnq]; exact S.size) (fun j v hv => by rw [add_at]; exact hG _ _ _ (h6 j v hv)), ?_⟩
          unfold VR
          unfold DR at h5
          exact ⟨cs, rfl, dagg_vrs h5⟩
        · exact ⟨_, h, gen⟩
      · exact ⟨_, h, gen⟩
    · rename_i hag
      obtain ⟨h1, h⟩ := h
      have S := T.spec (t := t) rfl (by intro e; rw [e] at hag; cases hag)
      refine ⟨_, h, fun C w a hG hx => ?_⟩
      have h3 := h0 C a hx; rw [hx'] at h3; unfold VR at h3
      obtain ⟨b, o', cs, e1, h4, h5, h6⟩ := h3
      have hv : cs[off]? = some (cs[off]'(by omega)) := List.getElem?_eq_getElem (by omega)
      refine ⟨_, Sl.run_load_at ho e1 (S.isAgg hag w) (hG _ _ _ (h6 _ _ hv)), by unfold VR; exact h5.cell hv⟩
    · exact h.elim
  · exact h.elim
end
end Go.Proofs.Ytgebfcdcpmmgnaa.Vs
