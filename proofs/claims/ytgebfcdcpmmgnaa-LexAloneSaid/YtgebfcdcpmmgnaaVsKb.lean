/- append of zeros, make, arrays out of slices, arrays compared. -/
import Derived.Test.YtgebfcdcpmmgnaaVsKa
import Derived.Stop.BytesEq
import Derived.Laws.Cover3
set_option linter.unusedVariables false
set_option linter.unusedSimpArgs false
namespace Go.Proofs.Ytgebfcdcpmmgnaa.Vs
open Go.RowKit
section
variable {P : Program} {o : Oper} {ev : Operand → V} {w0 : Bs} {w w' : World} {lent : Nat → Prop} {C : Cx} {σ : List Ob}
theorem append_zrun {t ti ty e q b : Nat} {kk kx : IntKind} {i : TypeInfo} {z : Value} (hu : P.underlying t = some (.slice e)) (hti : P.underlying ti = some (.int kk)) (hi : P.info? e = some i) (hz : i.zero = some z) (hq : i.size = q) (hb : i.bytes = b) (hzs : z.cells.size = q) (hpos : 0 < q) (h1 : ∀ v ∈ z.cells.toList, v.oneCell' = true)
    {u : Value} {n : Nat} {cs : List Value} (H : w.ownsRow 0 e q u n cs) {m : Nat} (hm : (n + m) * b ≤ 140737488355328) (h63 : n + m ≤ 9223372036854775807) : ∃ u' w', (Builtin.append_ #[t, ti] ty #[u, .int kx (m : Int)]).run P w = .ok u' w' ∧ Grown w e q u n cs w' u' m (Builtin.zeroCells z.cells m).toList := by
  subst hq; subst hb
  have hml : n + m ≤ maxLen := by simp only [maxLen]; omega
  have hl : (Builtin.zeroCells z.cells m).toList.length = m * i.size := by rw [Array.length_toList, zeroCells_size, hzs]
  have hz1 : ∀ v ∈ (Builtin.zeroCells z.cells m).toList, v.oneCell' = true := fun v hv => by
    unfold Builtin.zeroCells at hv
    simp only [Array.toList_map, List.mem_map, Array.toList_range, List.mem_range] at hv
    obtain ⟨k, _, rfl⟩ := hv
    have hk : k % z.cells.size < z.cells.size := Nat.mod_lt _ (by omega)
    rw [getElem!_pos z.cells _ hk]
    exact h1 _ (by simp)
  have hw : IntKind.i64.wrap (m : Int) = (m : Int) := by rw [IntKind.wrap_i64]; omega
  have hmb : ¬ (281474976710656 < (m : Int) * (i.bytes : Int)) := by
    have : m * i.bytes ≤ (n + m) * i.bytes := Nat.mul_le_mul_right _ (by omega)
    have h2 : ((m * i.bytes : Nat) : Int) = (m : Int) * (i.bytes : Int) := by simp
    omega
  have hn0 : ¬ ((m : Int) < 0) := by omega
  have hzero : ∀ w : World, (if m * i.size = 0 then pure #[] else do pure (Builtin.zeroCells (← zeroValue e).cells m) : Sem (Array Value)).run P w = .ok (Builtin.zeroCells z.cells m) w := fun w => by
    split
    · rename_i h0
      have : (Builtin.zeroCells z.cells m).size = 0 := by rw [zeroCells_size, hzs]; exact h0
      have : Builtin.zeroCells z.cells m = #[] := Array.eq_empty_of_size_eq_zero this
      rw [this]; rfl
    · simp [zeroValue, typeInfo, hi, hz]
  by_cases hmz : m = 0
  · subst hmz
    have hg : Grown w e i.size u n cs w u 0 (Builtin.zeroCells z.cells 0).toList := by
      have : (Builtin.zeroCells z.cells 0).toList = [] := List.eq_nil_of_length_eq_zero (by rw [hl]; simp)
      rw [this]
      exact ⟨by simpa using H, rfl, rfl, rfl, Nat.le_refl _, fun _ => rfl, .inl ⟨rfl, fun _ _ _ => rfl⟩⟩
    refine ⟨u, w, ?_, hg⟩
    rcases H.2 with ⟨rfl, rfl⟩ | ⟨g, cap, cur, rfl, _, _, hnc, _⟩
    · simp [Builtin.append_, run_underlying hu, run_underlying hti, sizeOf, typeInfo, hi, asInt, asIntOf, IntKind.wrap_i64]
    · simp [Builtin.append_, run_underlying hu, run_underlying hti, sizeOf, typeInfo, hi, asInt, asIntOf, IntKind.wrap_i64, hnc, storeCells]
  have hms : m * i.size ≠ 0 := Nat.mul_ne_zero hmz (by omega)
  rcases H.2 with ⟨rfl, rfl⟩ | ⟨g, cap, cur, rfl, _, hg, hnc, hcm, hcs, ht⟩
  · have hx : cs = [] := List.eq_nil_of_length_eq_zero (by simpa using H.1)
    subst hx
    have h48' : ¬ (281474976710656 < Builtin.nextslicecap m 0 * i.bytes) := by rw [nextslicecap_zero (by omega)]; simp only [Nat.zero_add] at hm; omega
    have h63' : ¬ (9223372036854775807 < (m : Int)) := by omega
    have hk : m ≤ grownCap w m 0 e ∧ grownCap w m 0 e ≤ maxLen := ⟨grownCap_ge w _ _ _, grownCap_le_maxLen w _ _ _ (by simpa using hml)⟩
    have hgn := grown_new (w := w) (e := e) (q := i.size) (u := .slice none 0 0) (n := 0) (cs := []) (m := m) (cap := grownCap w m 0 e) (news := (Builtin.zeroCells z.cells m).toList) (rest := Builtin.zeroCells z.cells (grownCap w m 0 e - m)) (by simp) hl (by omega) hk.2 (by rw [zeroCells_size, hzs]; simp) hmz
    refine ⟨_, _, ?_, hgn⟩
    simp [Builtin.append_, run_underlying hu, run_underlying hti, sizeOf, typeInfo, zeroValue, hi, hz, asInt, asIntOf, hw, hn0, hmb, Builtin.firstCells, hmz, hms, h63', h48', Question.forced, newRow, grownCap]
  · by_cases hroom : n + m ≤ cap
    · have hst := run_storeCells_at P g (n * i.size) e (Builtin.zeroCells z.cells m).toList 0 cur w hg (by rw [hl]; simp only [Nat.add_zero]; rw [← Nat.add_mul, hcs]; exact Nat.mul_le_mul_right _ hroom) hz1
      simp only [Nat.add_zero] at hst
      refine ⟨.slice (some ⟨g, 0, none⟩) (n + m) cap, w.setRow g (cur.toList.take (n * i.size) ++ (Builtin.zeroCells z.cells m).toList ++ cur.toList.drop (n * i.size + (Builtin.zeroCells z.cells m).toList.length)).toArray, ?_, ⟨?_, .inr ⟨g, cap, _, rfl, Nat.zero_le _, setRow_heap w g cur _ e _ hg, hroom, hcm, ?_, ?_⟩⟩, rfl, rfl, rfl, by simp [World.setRow], fun h => absurd h hmz, .inl ⟨rfl, fun b hb hne => setRow_other w g b _ (fun e => hne (by simp [Value.ownBlock, e]))⟩⟩
      · simp [Builtin.append_, run_underlying hu, run_underlying hti, sizeOf, typeInfo, zeroValue, hi, hz, asInt, asIntOf, hw, hn0, hmb, hms, hroom, Addr.add_lit]
        simp only [Array.length_toList] at hst
        rw [hst]
        simp [List.append_assoc]
      · rw [List.length_append, H.1, hl, Nat.add_mul]
      · simp only [List.size_toArray, List.length_append, List.length_take, List.length_drop, Array.length_toList, zeroCells_size, hzs, hcs]
        have : (n + m) * i.size ≤ cap * i.size := Nat.mul_le_mul_right _ hroom
        rw [Nat.add_mul] at this
        omega
      · have hlen : (cs ++ (Builtin.zeroCells z.cells m).toList).length = (n + m) * i.size := by rw [List.length_append, H.1, hl, Nat.add_mul]
        rw [ht, ← hlen]
        exact List.take_left
    · have holds : ∀ (j : Nat) (v : Value), cs[j]? = some v → w.cell? ((⟨g, 0, none⟩ : Addr).add j) = some v := H.cells (g := g) rfl
      have hk : n + m ≤ grownCap w (n + m) cap e ∧ grownCap w (n + m) cap e ≤ maxLen := ⟨grownCap_ge w _ _ _, grownCap_le_maxLen w _ _ _ hml⟩
      have hgn := grown_new (w := w) (e := e) (q := i.size) (u := .slice (some ⟨g, 0, none⟩) n cap) (n := n) (cs := cs) (m := m) (cap := grownCap w (n + m) cap e) (news := (Builtin.zeroCells z.cells m).toList) (rest := Builtin.zeroCells z.cells (grownCap w (n + m) cap e - (n + m))) H.1 hl hk.1 hk.2 (by rw [zeroCells_size, hzs]) hmz
      have h48' : ¬ (281474976710656 < Builtin.nextslicecap (n + m) cap * i.bytes) := by have := growslice_fits (need := n + m) (old := cap) (by omega) hm; omega
      have h63' : ¬ (9223372036854775807 < ((n : Int) + (m : Int))) := by omega
      have hf := run_firstCells_some (P := P) w.drew i.size n ⟨g, 0, none⟩ n cap cs H.1 (by simpa using holds)
      refine ⟨_, _, ?_, hgn⟩
      simp [Builtin.append_, run_underlying hu, run_underlying hti, sizeOf, typeInfo, zeroValue, hi, hz, asInt, asIntOf, hw, hn0, hmb, hms, hroom, h63', h48', Question.forced, newRow, grownCap]
      rw [hf]
      simp [Array.append_assoc]
theorem zeroCells_get {z : Array Value} {q m : Nat} (hz : z.size = q) (hq : 0 < q) {k j : Nat} (hk : k < m) (hj : j < q) : (Builtin.zeroCells z m).toList[k * q + j]? = z.toList[j]? := by
  subst hz
  unfold Builtin.zeroCells
  have hlt : k * z.size + j < m * z.size := by
    have : (k + 1) * z.size ≤ m * z.size := Nat.mul_le_mul_right _ hk
    rw [Nat.add_mul] at this; omega
  have hmod : (k * z.size + j) % z.size = j := by rw [Nat.mul_comm, Nat.mul_add_mod, Nat.mod_eq_of_lt hj]
  rw [Array.toList_map, Array.toList_range, List.getElem?_map, List.getElem?_range hlt]
  simp only [Option.map_some, hmod]
  rw [getElem!_pos z j hj]
  simp [hj]
/-- append of zeros. -/
def zElem (T : Tb P) (e : Nat) : Option D := (match (T.ty e).inf.agg with
  | some true => some (.agg (T.ty e).z)
  | some false => (match (T.ty e).z with | [x] => some x | _ => none)
  | none => none)
def appendZV (T : Tb P) (t u : Nat) (s x : V) (σ : List Ob) (nw : Nat) (K : KK) : Prop :=
  match (T.ty t).inf, (T.ty u).inf, x with
  | .sl e q b, .int _, .d (.int _ m) => 0 ≤ m ∧ (T.ty e).z ≠ [] ∧ (match zElem T e with
    | some z0 => (match s with
      | .nil => m.toNat * b ≤ 140737488355328 ∧ m.toNat ≤ 9223372036854775807 ∧ K (.own q (List.replicate m.toNat z0) nw) [(nw, .fresh)] [(nw, .cap e q m.toNat)]
      | .own q' xs c => (match σ[c]? with
        | some (.cap e' q'' n) => q' = q ∧ e' = e ∧ q'' = q ∧ n = xs.length ∧ (xs.length + m.toNat) * b ≤ 140737488355328 ∧ xs.length + m.toNat ≤ 9223372036854775807 ∧ K (.own q (xs ++ List.replicate m.toNat z0) c) [(c, .cap e q n)] [(c, .cap e q (n + m.toNat))]
        | _ => False)
      | _ => False)
    | none => False)
  | _, _, _ => False
theorem zElem_ok {T : Tb P} {e : Nat} {z0 : D} {i : TypeInfo} {z : Value} (h : zElem T e = some z0) (hi : P.info? e = some i) (hz : i.zero = some z) (hne : (T.ty e).z ≠ []) (G : GC) : DR G z0 z.cells.toList ∧ ∀ v ∈ z.cells.toList, v.oneCell' = true := by
  have hun : (T.ty e).inf ≠ .un := by
    intro he; unfold zElem at h; rw [he] at h; cases h
  obtain ⟨i', v, hi', hv, he⟩ := (T.spec rfl hun).zero hne
  rw [hi] at hi'; injection hi' with hi'; subst hi'
  rw [hz] at hv; injection hv with hv; subst hv
  have h1 := eqDs_ok (G := G) he
  refine ⟨?_, h1.one⟩
  unfold zElem at h
  split at h
  · injection h with h; subst h; unfold DR; exact h1
  · split at h
    · rename_i x hx
      injection h with h; subst h
      rw [hx] at h1
      unfold DAgg at h1
      obtain ⟨v, r, e1, h2, h3⟩ := h1
      unfold DAgg at h3; subst h3
      rw [e1]; exact h2
    · cases h
  · cases h
theorem appendZ_ok {T : Tb P} {t u nw : Nat} {s x : Operand} {K : KK} (ho : o.op = .call { callee := .builtin .append, args := #[s, x], argTypes := #[t, u] }) (h : appendZV T t u (ev s) (ev x) σ nw K) (hnw : (ev s = .nil → σ[nw]? = some .fresh)) : ∃ v rd wr, K v rd wr ∧ LStep P o ev rd v wr ∧ (∀ p ∈ wr, ∃ q ∈ rd, q.1 = p.1) ∧ ∀ p ∈ rd, σ[p.1]? = some p.2 := by
  unfold appendZV at h
  split at h
  · rename_i e q b ku kx m hs hui hxv
    obtain ⟨hu, hpos, i, z, hi, hz, hq, hb, hzs⟩ := inf_sl T hs
    have hti := inf_int T hui
    obtain ⟨hm0, hne, h⟩ := h
    split at h
    · rename_i z0 hz0
      have hex : ∀ (a : Act) (w w' : World) (u1 u' : Value), a.eval s = u1 → a.eval x = .int kx m → (Builtin.append_ #[t, u] o.type #[u1, .int kx m]).run P w = .ok u' w' → (execOp a.eval o).run P w = .ok (.value u') w' := fun a w w' u1 u' h1 h2 hr => by
        simp [execOp, ho, resolve, invoke, builtin, h1, h2, hr]
      have hel : ∀ (G : GC) (k : Nat) (y : D), (List.replicate m.toNat z0)[k]? = some y → ∃ ce, ce.length = q ∧ DR G y ce ∧ ∀ (j : Nat) (v : Value), ce[j]? = some v → (Builtin.zeroCells z.cells m.toNat).toList[k * q + j]? = some v := fun G k y hk => by
        rw [List.getElem?_replicate] at hk
        split at hk
        · rename_i hkm
          injection hk with hk; subst hk
          refine ⟨z.cells.toList, by simpa using hzs, (zElem_ok hz0 hi hz hne G).1, fun j v hj => ?_⟩
          have hjl : j < q := by rw [← hzs]; simpa using (List.getElem?_eq_some_iff.1 hj).1
          rw [zeroCells_get hzs hpos hkm hjl]; exact hj
        · cases hk
      have hzl : (Builtin.zeroCells z.cells m.toNat).toList.length = m.toNat * q := by rw [Array.length_toList, zeroCells_size, hzs]
      have hmm : ((m.toNat : Nat) : Int) = m := by omega
      split at h
      · rename_i hsn
        obtain ⟨h1, h2, h⟩ := h
        refine ⟨_, _, _, h, fun w0 lent C σ w a R hx hrd K Q hK => ?_, by simp, by simpa using hnw hsn⟩
        have hxs := hx s (by simp [ho, Op.operands, Call.operands]); rw [hsn] at hxs; unfold VR at hxs
        have hxx := hx x (by simp [ho, Op.operands, Call.operands]); rw [hxv] at hxx
        obtain ⟨C1, R1, hle1, hcur1, hG1⟩ := R.ownNil (hrd (nw, .fresh) (by simp)) e (q := q)
        have hown : w.ownsRow 0 e q (.slice none 0 0) 0 [] := World.ownsRow_nil w 0 e q
        obtain ⟨u', w', hr, hg⟩ := append_zrun (P := P) (ty := o.type) (kx := kx) hu hti hi hz hq hb hzs hpos (zElem_ok hz0 hi hz hne C.G).2 hown (m := m.toNat) (by simpa using h1) (by simpa using h2)
        rw [hmm] at hr
        obtain ⟨hil, _⟩ := List.getElem?_eq_some_iff.1 (hrd (nw, .fresh) (by simp))
        obtain ⟨C2, R2, hle2, hv2⟩ := R1.grow (i := nw) (e := e) (q := q) (n := 0) (xs := []) (ys := List.replicate m.toNat z0) (by rw [List.getElem?_set_self hil]) hcur1 hown hpos rfl (by simp) (by unfold DR; exact ⟨none, 0, rfl, Nat.le_refl _, by simp [maxLen], hpos, fun h => absurd rfl h⟩) (hel _) hzl hg (by simp [maxLen]; omega)
        unfold Oper.wp
        rw [hex a w w' _ u' hxs (vr_int hxx) hr]
        refine hK C2 w' u' ?_ (Cx.le_trans hle1 hle2) hv2
        simpa [upd] using R2
      · rename_i q' xs c hsn
        split at h
        · rename_i e' q'' n hσ
          obtain ⟨rfl, rfl, rfl, rfl, h1, h2, h⟩ := h
          refine ⟨_, _, _, h, fun w0 lent C σ w a R hx hrd K Q hK => ?_, by simp, by simpa using hσ⟩
          have hxs := hx s (by simp [ho, Op.operands, Call.operands]); rw [hsn] at hxs; unfold VR at hxs
          have hxx := hx x (by simp [ho, Op.operands, Call.operands]); rw [hxv] at hxx
          obtain ⟨k1, k2, k3, k4⟩ := hxs
          have hi' := hrd (c, .cap e' q'' xs.length) (by simp)
          obtain ⟨_, u1, cs, hcur, hown, _⟩ := R.obs c _ hi'
          obtain ⟨_, hvu⟩ := k4 _ _ hcur
          have hvu := hvu rfl
          rw [hvu] at k1
          obtain ⟨u', w', hr, hg⟩ := append_zrun (P := P) (ty := o.type) (kx := kx) hu hti hi hz hq hb hzs hpos (zElem_ok hz0 hi hz hne C.G).2 hown (m := m.toNat) h1 h2
          rw [hmm] at hr
          obtain ⟨C2, R2, hle2, hv2⟩ := R.grow (ys := List.replicate m.toNat z0) hi' hcur hown hpos rfl (by simp) k1 (hel _) hzl hg (by simp [maxLen]; omega)
          unfold Oper.wp
          rw [hex a w w' _ u' hvu (vr_int hxx) hr]
          exact hK C2 w' u' (by simpa [upd] using R2) hle2 hv2
        · exact h.elim
      · exact h.elim
    · exact h.elim
  · exact h.elim
/-- So many zeros. -/
def zeros (n : Nat) (z : D) : List D := List.replicate n z
/-- make: a named block of zeros. -/
def makeSliceV (T : Tb P) (t : Nat) (l c : V) (nm : Bool) (nw : Nat) (K : KK) : Prop :=
  match (T.ty t).inf, l, c with
  | .sl e q b, .d (.int _ n), .d (.int _ m) => (T.ty e).inf ≠ .un ∧ (T.ty e).z ≠ [] ∧ 0 ≤ n ∧ n = m ∧ n.toNat * b ≤ 281474976710656 ∧ n.toNat ≤ 9223372036854775807 ∧ (if nm then (match (T.ty e).z with
      | [z] => q = 1 ∧ K (.d (.sl q (zeros n.toNat z))) [(nw, .fresh)] [(nw, .dead)]
      | _ => False)
    else K (.row nw 0 n.toNat n.toNat) [(nw, .fresh)] [(nw, .cells e (List.replicate n.toNat (zeroV T e)).flatten)])
  | _, _, _ => False
theorem made_list {z : Array Value} {q : Nat} (hz : z.size = q) (hq : 0 < q) : ∀ n : Nat, (madeCells z (n * q)).toList = (List.replicate n z.toList).flatten
  | 0 => by simp [madeCells]
  | n + 1 => by
    have ih := made_list hz hq n
    subst hz
    unfold madeCells at ih ⊢
    rw [Array.toList_map, Array.toList_range] at ih ⊢
    rw [Nat.add_mul, Nat.one_mul, List.range_add, List.map_append, ih, List.replicate_succ', List.flatten_append]
    congr 1
    rw [List.map_map]
    simp only [List.flatten_cons, List.flatten_nil, List.append_nil]
    apply List.ext_getElem?
    intro j
    rw [List.getElem?_map]
    by_cases hj : j < z.size
    · rw [List.getElem?_range hj]
      simp only [Option.map_some, Function.comp_apply]
      rw [show (n * z.size + j) % z.size = j by rw [Nat.mul_comm, Nat.mul_add_mod, Nat.mod_eq_of_lt hj], getElem!_pos z j hj]
      simp [hj]
    · rw [List.getElem?_eq_none (by simpa using hj), List.getElem?_eq_none (by simpa using hj)]
      rfl
theorem vrs_flatten {vs : List V} {us : List Value} (h : VRs C vs us) : ∀ n : Nat, VRs C (List.replicate n vs).flatten (List.replicate n us).flatten
  | 0 => .nil
  | n + 1 => by rw [List.replicate_succ, List.replicate_succ, List.flatten_cons, List.flatten_cons]; exact h.append (vrs_flatten h n)
theorem makeSlice_ok {T : Tb P} {t nw : Nat} {nm : Bool} {l c : Operand} {K : KK} (ho : o.op = .makeSlice t l c) (h : makeSliceV T t (ev l) (ev c) nm nw K) (hnw : σ[nw]? = some .fresh) : ∃ v rd wr, K v rd wr ∧ LStep P o ev rd v wr ∧ (∀ p ∈ wr, ∃ q ∈ rd, q.1 = p.1) ∧ ∀ p ∈ rd, σ[p.1]? = some p.2 := by
  unfold makeSliceV at h
  split at h
  · rename_i e q b kl n kc m hs hl hc
    obtain ⟨hu, hpos, i, z, hi, hz, hq, hb, hzs⟩ := inf_sl T hs
    obtain ⟨hun, hne, h0, rfl, h1, h2, h⟩ := h
    have key : ∀ (w0 : Bs) (lent : Nat → Prop) (C : Cx) (σ : List Ob) (w : World) (a : Act), Rel w0 lent C σ w → (∀ x ∈ o.op.operands.toList, VR C (ev x) (a.eval x)) → σ[nw]? = some .fresh → ∃ C', Rel w0 lent C' (σ.set nw (.cells e (List.replicate n.toNat (zeroV T e)).flatten)) (w.alloc (.cells (madeCells z.cells (n.toNat * q)) e)) ∧ C.le C' ∧ C'.ρ[nw]? = some (some w.heap.size) ∧ (execOp a.eval o).run P w = .ok (.value (.slice (some ⟨w.heap.size, 0, none⟩) n.toNat n.toNat)) (w.alloc (.cells (madeCells z.cells (n.toNat * q)) e)) := by
      intro w0 lent C σ w a R hx hrd
      have hlv := hx l (by simp [ho, Op.operands]); rw [hl] at hlv
      have hcv := hx c (by simp [ho, Op.operands]); rw [hc] at hcv
      have hbn : ((n.toNat * b : Nat) : Int) = (b : Int) * n := by
        rw [Int.natCast_mul, Int.toNat_of_nonneg h0, Int.mul_comm]
      have hr := run_make (P := P) w t e i z hu hi hz kl kc n n h0 (Int.le_refl _) (by rw [hb]; omega) (by omega)
      rw [hq] at hr
      obtain ⟨z', hz1, hz2, hz3⟩ := zero_run hun hne C
      have hzz : z' = z := by
        have h3 := hz1 w
        have h4 : (zeroValue e).run P w = .ok z w := by simp [zeroValue, typeInfo, hi, hz]
        rw [h4] at h3; injection h3 with h3; exact h3.symm
      subst hzz
      have hml := made_list hzs hpos n.toNat
      have hv : VRs C (List.replicate n.toNat (zeroV T e)).flatten (madeCells z'.cells (n.toNat * q)).toList := by
        rw [hml]; exact vrs_flatten hz2 _
      have hone : ∀ v ∈ (madeCells z'.cells (n.toNat * q)).toList, v.oneCell' = true := fun v hv => by
        rw [hml] at hv
        obtain ⟨l', hl', hvl⟩ := List.mem_flatten.1 hv
        rw [List.eq_of_mem_replicate hl'] at hvl
        exact hz3 v hvl
      obtain ⟨C', R', hle, hr'⟩ := R.alloc hrd (t := e) hv hone
      refine ⟨C', R', hle, hr', ?_⟩
      simp [execOp, ho, vr_int hlv, vr_int hcv, hr]
    split at h
    · split at h
      · rename_i z0 hz0
        obtain ⟨rfl, h⟩ := h
        refine ⟨_, _, _, h, fun w0 lent C σ w a R hx hrd K Q hK => ?_, by simp, by simpa using hnw⟩
        obtain ⟨C', R', hle, hr', hrun⟩ := key w0 lent C σ w a R hx (hrd (nw, .fresh) (by simp))
        have hfl : (List.replicate n.toNat (zeroV T e)).flatten = (List.replicate n.toNat z0).map V.d := by
          unfold zeroV
          rw [hz0]
          induction n.toNat with
          | zero => rfl
          | succ m ih => rw [List.replicate_succ, List.replicate_succ, List.flatten_cons, ih]; rfl
        rw [hfl] at R'
        have hil : nw < σ.length := (List.getElem?_eq_some_iff.1 (hrd (nw, .fresh) (by simp))).1
        obtain ⟨C2, R2, hle2, hz2⟩ := R'.freeze (i := nw) (q := 1) (List.getElem?_set_self hil) (by decide) (elems_map _) (by simp; omega)
        rw [List.set_set] at R2
        unfold Oper.wp
        rw [hrun]
        refine hK _ _ _ R2 (Cx.le_trans hle hle2) (hz2 (cap := n.toNat) (by simp) (by omega) ?_)
        unfold VR
        exact ⟨_, hr', by simp⟩
      · exact h.elim
    · refine ⟨_, _, _, h, fun w0 lent C σ w a R hx hrd K Q hK => ?_, by simp, by simpa using hnw⟩
      obtain ⟨C', R', hle, hr', hrun⟩ := key w0 lent C σ w a R hx (hrd (nw, .fresh) (by simp))
      unfold Oper.wp
      rw [hrun]
      exact hK _ _ _ R' hle (by unfold VR; exact ⟨_, hr', rfl⟩)
  · exact h.elim
/-- A slice's head as an array. -/
def arrayAtV (T : Tb P) (t : Nat) (x : V) (K : V → Prop) : Prop :=
  match (T.ty t).inf, x with
  | .arr _ 1 n, .d (.sl 1 xs) => 0 < n ∧ n ≤ xs.length ∧ K (.el n (.agg (xs.take n)) 0)
  | .arr _ 1 n, .own 1 xs _ => 0 < n ∧ n ≤ xs.length ∧ K (.el n (.agg (xs.take n)) 0)
  | _, _ => False
theorem drow_agg {G : GC} : ∀ {xs : List D} {b o : Nat}, DRow G 1 xs b o → ∃ cs, cs.length = xs.length ∧ DAgg G xs cs ∧ ∀ (j : Nat) (u : Value), cs[j]? = some u → G b (o + j) = some u
  | [], _, _, _ => ⟨[], rfl, by unfold DAgg; rfl, by simp⟩
  | x :: xs, b, o, h => by
    unfold DRow at h
    obtain ⟨⟨c1, h1, h2, h3⟩, h4⟩ := h
    obtain ⟨v, rfl⟩ := List.length_eq_one_iff.1 h1
    obtain ⟨cs, k1, k2, k3⟩ := drow_agg h4
    refine ⟨v :: cs, by simp [k1], by unfold DAgg; exact ⟨v, cs, rfl, h2, k2⟩, fun j u hj => ?_⟩
    cases j with
    | zero => exact h3 0 u (by simpa using hj)
    | succ j =>
      have := k3 j u (by simpa using hj)
      rwa [show o + 1 + j = o + (j + 1) by omega] at this
theorem arrayAt_ok {T : Tb P} {t : Nat} {x : Operand} {K : V → Prop} (ho : o.op = .sliceToArrayPointer t x) (h : arrayAtV T t (ev x) K) : ∃ v, K v ∧ YL P o ev v := by
  have h0 : ∀ (C : Cx) (a : Act), (∀ x ∈ o.op.operands.toList, VR C (ev x) (a.eval x)) → VR C (ev x) (a.eval x) := fun C a hx => hx x (by simp [ho, Op.operands])
  have key : ∀ {e n : Nat} {xs : List D}, (T.ty t).inf = .arr e 1 n → 0 < n → n ≤ xs.length → (∀ C v, VR C (ev x) v → DR C.G (.sl 1 xs) [v]) → YL P o ev (.el n (.agg (xs.take n)) 0) := fun {e n xs} hs hn hl hv C w a hG hx => by
    have h1 := hv C _ (h0 C a hx)
    unfold DR at h1
    obtain ⟨ad, c, e1, _, _, _, h4⟩ := h1
    injection e1 with e1
    obtain ⟨b, o', rfl, hr⟩ := h4 (by intro e; subst e; simp at hl; omega)
    obtain ⟨cs, k1, k2, k3⟩ := drow_agg (hr.take n)
    refine ⟨.pointer (some ⟨b, o', none⟩), ?_, ?_⟩
    · have hlt : ¬ xs.length < n := by omega
      simp [execOp, ho, e1, Instr.arrayAt, run_underlying (inf_arr T hs).1, hlt]
    · unfold VR
      exact ⟨b, o', cs, rfl, by rw [k1]; simp; omega, by unfold DR; exact k2, k3⟩
  unfold arrayAtV at h
  split at h
  · rename_i e n xs hs hx'
    obtain ⟨h1, h2, h⟩ := h
    exact ⟨_, h, key hs h1 h2 fun C v hv => by rw [hx'] at hv; unfold VR at hv; exact hv⟩
  · rename_i e n xs c hs hx'
    obtain ⟨h1, h2, h⟩ := h
    exact ⟨_, h, key hs h1 h2 fun C v hv => by rw [hx'] at hv; unfold VR at hv; exact hv.1⟩
  · exact h.elim
/-- Arrays of bytes, compared. -/
def bytesOf (vs : List V) (bs : List UInt8) : Prop := vs = bs.map fun b => .d (.int .u8 b.toNat)
def eqArr (T : Tb P) (op : BinOp) (t : Nat) (x y : V) (K : V → Prop) : Prop :=
  match (T.ty t).inf, x, y with
  | .arr e 1 n, .agg us, .agg vs => (T.ty e).inf = .int .u8 ∧ us.length = n ∧ vs.length = n ∧ ∃ xs ys : List UInt8, bytesOf us xs ∧ bytesOf vs ys ∧ (match op with
    | .eql => K (.d (.bool (xs == ys)))
    | .neq => K (.d (.bool (!(xs == ys))))
    | _ => False)
  | _, _, _ => False
theorem bytesOf_vr {C : Cx} : ∀ {xs : List UInt8} {us : List Value}, VRs C (xs.map fun b => .d (.int .u8 b.toNat)) us → us = xs.map Extern.Stop.cell
  | [], us, h => by simp only [List.map_nil] at h; unfold VRs at h; exact h
  | x :: xs, us, h => by
    simp only [List.map_cons] at h
    unfold VRs at h
    obtain ⟨v, r, rfl, h1, h2⟩ := h
    rw [vr_int h1, bytesOf_vr h2]
    rfl
/-- Arrays of whole numbers, compared. -/
def intsOf (k : IntKind) (vs : List V) (xs : List Int) : Prop := vs = xs.map fun n => .d (.int k n)
def eqArrI (T : Tb P) (op : BinOp) (t : Nat) (x y : V) (K : V → Prop) : Prop :=
  match (T.ty t).inf, x, y with
  | .arr e 1 n, .agg us, .agg vs => us.length = n ∧ vs.length = n ∧ (match (T.ty e).inf with
    | .int k => ∃ xs ys : List Int, intsOf k us xs ∧ intsOf k vs ys ∧ (match op with
      | .eql => K (.d (.bool (xs == ys)))
      | .neq => K (.d (.bool (!(xs == ys))))
      | _ => False)
    | _ => False)
  | _, _, _ => False
theorem intsOf_vr {C : Cx} {k : IntKind} : ∀ {xs : List Int} {us : List Value}, VRs C (xs.map fun n => .d (.int k n)) us → us = xs.map (.int k)
  | [], us, h => by simp only [List.map_nil] at h; unfold VRs at h; exact h
  | x :: xs, us, h => by
    simp only [List.map_cons] at h
    unfold VRs at h
    obtain ⟨v, r, rfl, h1, h2⟩ := h
    rw [vr_int h1, intsOf_vr h2]
    rfl
theorem all_ints : ∀ (xs ys : List Int), xs.length = ys.length → ((List.range xs.length).all fun i => xs.getD i 0 == ys.getD i 0) = (xs == ys)
  | [], [], _ => rfl
  | x :: xs, y :: ys, h => by
    have ih := all_ints xs ys (by simpa using h)
    rw [List.length_cons, List.range_succ_eq_map, List.all_cons, List.all_map]
    simp only [List.getD_cons_zero, Function.comp_def, List.getD_cons_succ, ih]
    simp [List.cons_beq_cons]
  | [], _ :: _, h => by simp at h
  | _ :: _, [], h => by simp at h
theorem run_equalIn_ints {k : IntKind} (w : World) (d : Nat) (t e n : Nat) (ht : P.underlying t = some (.array n e)) (he : P.underlying e = some (.int k)) (hsz : ∀ w, (sizeOf e).run P w = .ok 1 w) (xs ys : List Int) (hx : xs.length = n) (hy : ys.length = n) :
    (Op.equalIn (d + 2) t (.agg (xs.map (Value.int k)).toArray) (.agg (ys.map (Value.int k)).toArray)).run P w = .ok (xs == ys) w := by
  have hlen := hx.trans hy.symm
  rw [← all_ints xs ys hlen, hx, List.range_eq_range', Op.equalIn]
  simp only [Sem.run_bind, run_underlying ht, Result.andThen_ok, hsz, Std.Legacy.Range.forIn_eq_forIn_range', Std.Legacy.Range.size, Nat.sub_zero, Nat.add_sub_cancel, Nat.div_one]
  have hl : ∀ i ∈ List.range' 0 n 1, i < n := fun i hi => by simpa using (List.mem_range'_1.1 hi).2
  generalize List.range' 0 n 1 = l at hl ⊢
  induction l with
  | nil => simp
  | cons i l ih =>
    have hi : i < n := hl i (by simp)
    have px : ∀ zs : List Int, zs.length = n → (part e (zs.map (Value.int k)).toArray (i * 1)).run P w = .ok (.int k (zs.getD i 0)) w := fun zs hz => by
      simp [part, isAgg, run_underlying he, List.getD, List.getElem?_eq_getElem (show i < zs.length by omega)]
    have pe : (Op.equalIn (d + 1) e (.int k (xs.getD i 0)) (.int k (ys.getD i 0))).run P w = .ok (xs.getD i 0 == ys.getD i 0) w := by
      rw [run_equalIn_int w d e k k _ _ he]
    simp only [List.forIn_cons, Sem.run_bind, px xs hx, px ys hy, pe, Result.andThen_ok, List.all_cons]
    cases hb : (xs.getD i 0 == ys.getD i 0)
    · simp
    · simp only [Bool.not_true, Bool.false_eq_true, if_false, Sem.run_pure, Result.andThen_ok, Bool.true_and]
      exact ih fun j hj => hl j (by simp [hj])
theorem guard_arr {T : Tb P} {t e n : Nat} {k : IntKind} (hs : (T.ty t).inf = .arr e 1 n) (he : (T.ty e).inf = .int k) : P.eqGuardType P.depth t = false := by
  have h1 := (inf_arr T hs).1
  have h2 := inf_int T he
  unfold Program.depth
  rw [show 2 * (P.types.size + Made.depth) + 2 = (2 * (P.types.size + Made.depth)) + 1 + 1 by omega]
  simp [Program.eqGuardType, h1, h2]
theorem eqArr_ok {T : Tb P} {op : BinOp} {t u : TypeId} {x y : Operand} {K : V → Prop} (ho : o.op = .binOp op t x y u) (h : eqArr T op t (ev x) (ev y) K) : ∃ v, K v ∧ YL P o ev v := by
  have h0 : ∀ (C : Cx) (a : Act), (∀ x ∈ o.op.operands.toList, VR C (ev x) (a.eval x)) → VR C (ev x) (a.eval x) ∧ VR C (ev y) (a.eval y) := fun C a hx => ⟨hx x (by simp [ho, Op.operands]), hx y (by simp [ho, Op.operands])⟩
  unfold eqArr at h
  split at h
  · rename_i e n us vs hs hx' hy'
    obtain ⟨he, hul, hvl, xs, ys, hxs, hys, h⟩ := h
    unfold bytesOf at hxs hys
    subst hxs; subst hys
    have hgd := guard_arr hs he
    obtain ⟨hu, _, hq⟩ := inf_arr T hs
    have hq1 : ∀ w, (Op.equalIn 10000 t (.agg (xs.map Extern.Stop.cell).toArray) (.agg (ys.map Extern.Stop.cell).toArray)).run P w = .ok (xs == ys) w := fun w =>
      run_equalIn_bytes w 9998 t e n hu (inf_int T he) (fun w => sizeOf_run hq w) xs ys (by simpa using hul) (by simpa using hvl)
    have hval : ∀ (C : Cx) (a : Act), (∀ x ∈ o.op.operands.toList, VR C (ev x) (a.eval x)) → a.eval x = .agg (xs.map Extern.Stop.cell).toArray ∧ a.eval y = .agg (ys.map Extern.Stop.cell).toArray := fun C a hx => by
      obtain ⟨h6, h7⟩ := h0 C a hx
      rw [hx'] at h6; rw [hy'] at h7
      unfold VR at h6 h7
      obtain ⟨u1, e1, h6⟩ := h6
      obtain ⟨u2, e2, h7⟩ := h7
      rw [e1, e2, bytesOf_vr h6, bytesOf_vr h7]
      exact ⟨rfl, rfl⟩
    have hg : ∀ (op : BinOp) (w : World), (eqGuard op t x y (.agg (xs.map Extern.Stop.cell).toArray) (.agg (ys.map Extern.Stop.cell).toArray)).run P w = .ok () w := fun op w => by
      unfold eqGuard
      cases op <;> simp [hgd]
    cases op <;> simp only at h <;> first | exact h.elim | skip
    · refine ⟨_, h, fun C w a _ hx => ?_⟩
      obtain ⟨e1, e2⟩ := hval C a hx
      exact ⟨.bool (xs == ys), by simp [execOp, ho, e1, e2, hg, binOp, Op.equal, Op.maxDepth, hq1], by unfold VR DR; rfl⟩
    · refine ⟨_, h, fun C w a _ hx => ?_⟩
      obtain ⟨e1, e2⟩ := hval C a hx
      exact ⟨.bool (!(xs == ys)), by simp [execOp, ho, e1, e2, hg, binOp, Op.equal, Op.maxDepth, hq1], by unfold VR DR; rfl⟩
  · exact h.elim
theorem eqArrI_ok {T : Tb P} {op : BinOp} {t u : TypeId} {x y : Operand} {K : V → Prop} (ho : o.op = .binOp op t x y u) (h : eqArrI T op t (ev x) (ev y) K) : ∃ v, K v ∧ YL P o ev v := by
  have h0 : ∀ (C : Cx) (a : Act), (∀ x ∈ o.op.operands.toList, VR C (ev x) (a.eval x)) → VR C (ev x) (a.eval x) ∧ VR C (ev y) (a.eval y) := fun C a hx => ⟨hx x (by simp [ho, Op.operands]), hx y (by simp [ho, Op.operands])⟩
  unfold eqArrI at h
  split at h
  · rename_i e n us vs hs hx' hy'
    obtain ⟨hul, hvl, h⟩ := h
    split at h
    · rename_i k he
      obtain ⟨xs, ys, hxs, hys, h⟩ := h
      unfold intsOf at hxs hys
      subst hxs; subst hys
      have hgd := guard_arr hs he
      obtain ⟨hu, _, hq⟩ := inf_arr T hs
      have hq1 : ∀ w, (Op.equalIn 10000 t (.agg (xs.map (Value.int k)).toArray) (.agg (ys.map (Value.int k)).toArray)).run P w = .ok (xs == ys) w := fun w =>
        run_equalIn_ints w 9998 t e n hu (inf_int T he) (fun w => sizeOf_run hq w) xs ys (by simpa using hul) (by simpa using hvl)
      have hval : ∀ (C : Cx) (a : Act), (∀ x ∈ o.op.operands.toList, VR C (ev x) (a.eval x)) → a.eval x = .agg (xs.map (Value.int k)).toArray ∧ a.eval y = .agg (ys.map (Value.int k)).toArray := fun C a hx => by
        obtain ⟨h6, h7⟩ := h0 C a hx
        rw [hx'] at h6; rw [hy'] at h7
        unfold VR at h6 h7
        obtain ⟨u1, e1, h6⟩ := h6
        obtain ⟨u2, e2, h7⟩ := h7
        rw [e1, e2, intsOf_vr h6, intsOf_vr h7]
        exact ⟨rfl, rfl⟩
      have hg : ∀ (op : BinOp) (w : World), (eqGuard op t x y (.agg (xs.map (Value.int k)).toArray) (.agg (ys.map (Value.int k)).toArray)).run P w = .ok () w := fun op w => by
        unfold eqGuard
        cases op <;> simp [hgd]
      cases op <;> simp only at h <;> first | exact h.elim | skip
      · refine ⟨_, h, fun C w a _ hx => ?_⟩
        obtain ⟨e1, e2⟩ := hval C a hx
        exact ⟨.bool (xs == ys), by simp [execOp, ho, e1, e2, hg, binOp, Op.equal, Op.maxDepth, hq1], by unfold VR DR; rfl⟩
      · refine ⟨_, h, fun C w a _ hx => ?_⟩
        obtain ⟨e1, e2⟩ := hval C a hx
        exact ⟨.bool (!(xs == ys)), by simp [execOp, ho, e1, e2, hg, binOp, Op.equal, Op.maxDepth, hq1], by unfold VR DR; rfl⟩
    · exact h.elim
  · exact h.elim
end
end Go.Proofs.Ytgebfcdcpmmgnaa.Vs
