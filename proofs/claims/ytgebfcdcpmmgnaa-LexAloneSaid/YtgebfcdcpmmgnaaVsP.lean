/- A region that draws its order, walked once. -/
import Derived.Test.YtgebfcdcpmmgnaaVsO
set_option linter.unusedVariables false
set_option linter.unusedSimpArgs false
namespace Go.Proofs.Ytgebfcdcpmmgnaa.Vs
open Go.RowKit
def maskOf (acc : List Nat) (o : Oper) : Nat := o.after.toList.foldl (fun s e => if Region.binds .any e then s ||| 2 ^ e.on ||| acc.getD e.on 0 else s) 0
def masksGo : List Oper → List Nat → List Nat
  | [], acc => acc
  | o :: l, acc => masksGo l (acc ++ [maskOf acc o])
theorem fold_bit {acc : List Nat} {i : Nat} : ∀ {l : List Edge} {s : Nat}, (l.foldl (fun s e => if Region.binds .any e then s ||| 2 ^ e.on ||| acc.getD e.on 0 else s) s).testBit i = true → s.testBit i = true ∨ ∃ e ∈ l, Region.binds .any e = true ∧ (e.on = i ∨ (acc.getD e.on 0).testBit i = true)
  | [], s, h => .inl h
  | e :: l, s, h => by
    rw [List.foldl_cons] at h
    rcases fold_bit h with h | ⟨e', h1, h2⟩
    · split at h
      · rename_i hb
        simp only [Nat.testBit_or, Bool.or_eq_true] at h
        rcases h with (h | h) | h
        · exact .inl h
        · refine .inr ⟨e, by simp, hb, .inl ?_⟩
          rw [Nat.testBit_two_pow] at h
          simpa using h
        · exact .inr ⟨e, by simp, hb, .inr h⟩
      · exact .inl h
    · exact .inr ⟨e', by simp [h1], h2⟩
theorem masks_ok {ops : Array Oper} : ∀ {l pre : List Oper} {acc : List Nat}, ops.toList = pre ++ l → acc.length = pre.length → (∀ (j m : Nat), acc[j]? = some m → ∀ i, m.testBit i = true → Sl.Anc .any ops i j) → ∀ (j m : Nat), (masksGo l acc)[j]? = some m → ∀ i, m.testBit i = true → Sl.Anc .any ops i j
  | [], _, _, _, _, h => h
  | o :: l, pre, acc, ho, hl, h => by
    unfold masksGo
    refine masks_ok (pre := pre ++ [o]) (by rw [ho]; simp) (by simp [hl]) fun j m hj i hi => ?_
    by_cases hjl : j < acc.length
    · rw [List.getElem?_append_left hjl] at hj
      exact h j m hj i hi
    · rw [List.getElem?_append_right (by omega)] at hj
      have hj0 : j = acc.length := by
        have := (List.getElem?_eq_some_iff.1 hj).1
        simp at this; omega
      subst hj0
      simp at hj
      subst hj
      have hop : ops[acc.length]? = some o := by
        rw [← Array.getElem?_toList, ho, hl, List.getElem?_append_right (Nat.le_refl _)]
        simp
      rcases fold_bit hi with hi | ⟨e, he, hb, hi⟩
      · simp at hi
      · have he' : e ∈ o.after := by simpa using he
        rcases hi with hi | hi
        · exact .base hop he' hb hi
        · refine .step hop he' hb ?_
          rw [List.getD_eq_getElem?_getD] at hi
          cases hx : acc[e.on]? with
          | none => rw [hx] at hi; simp at hi
          | some m => rw [hx] at hi; exact h _ m hx i hi
def freeB (ops : Array Oper) (oi oj : Oper) (ti tj : List Nat × List Nat) : Bool :=
  oi.apart ops oj && ti.2.all (fun x => !tj.1.contains x) && tj.2.all (fun x => !ti.1.contains x)
/-- What may come in either order reaches unlike things. -/
def indepB (ops : Array Oper) (tch : List (List Nat × List Nat)) : Bool :=
  (ops.toList.zipIdx.all fun p => p.1.after.toList.all fun e => !Region.binds .any e || decide (e.on < p.2)) &&
  ((List.range ops.size).all fun j => (List.range j).all fun i => ((masksGo ops.toList []).getD j 0).testBit i ||
    (match ops[i]?, ops[j]?, tch[i]?, tch[j]? with
    | some oi, some oj, some ti, some tj => freeB ops oi oj ti tj
    | _, _, _, _ => false))
section
variable {P : Program} {ops : Array Oper} {trs : List Tr}
theorem indep_spec (h : indepB ops (trs.map Tr.tch) = true) : (∀ (j : Nat) (o : Oper) (e : Edge), ops[j]? = some o → e ∈ o.after → Region.binds .any e = true → e.on < j) ∧
    ∀ (i j : Nat) (oi oj : Oper) (ti tj : Tr), i < j → ops[i]? = some oi → ops[j]? = some oj → trs[i]? = some ti → trs[j]? = some tj → Sl.Anc .any ops i j ∨ freeB ops oi oj ti.tch tj.tch = true := by
  unfold indepB at h
  rw [Bool.and_eq_true] at h
  obtain ⟨h1, h2⟩ := h
  refine ⟨fun j o e ho he hb => ?_, fun i j oi oj ti tj hij hi hj hti htj => ?_⟩
  · have := List.all_eq_true.1 h1 (o, j) (by
      rw [List.mem_iff_getElem?]
      exact ⟨j, by rw [List.getElem?_zipIdx, Array.getElem?_toList, ho]; simp⟩)
    have := List.all_eq_true.1 this e (by simpa using he)
    simpa [hb] using this
  · have hjl : j < ops.size := (Array.getElem?_eq_some_iff.1 hj).1
    have := List.all_eq_true.1 h2 j (by simpa using hjl)
    have := List.all_eq_true.1 this i (by simpa using hij)
    rw [Bool.or_eq_true] at this
    rcases this with h | h
    · left
      rw [List.getD_eq_getElem?_getD] at h
      cases hx : (masksGo ops.toList [])[j]? with
      | none => rw [hx] at h; simp at h
      | some m =>
        rw [hx] at h
        exact masks_ok (pre := []) rfl rfl (fun j m hj => by simp at hj) j m hx i h
    · right
      simp only [List.getElem?_map, hi, hj, hti, htj, Option.map_some] at h
      exact h
def LB (L : Array Bool) : Nat → Bool := fun i => L.getD i false
structure StIs (ops : Array Oper) (trs : List Tr) (fr0 : List V) (σ0 : List Ob) (L : Array Bool) (fr : List V) (σ : List Ob) : Prop where
  fl : fr.length = fr0.length
  sl : σ.length = σ0.length
  f : ∀ s : Nat, s < fr0.length → fr[s]? = look (dstw ops.toList trs s) (LB L) ops.size fr0[s]?
  s : ∀ j : Nat, j < σ0.length → σ[j]? = look (wrw trs j) (LB L) ops.size σ0[j]?
theorem dstw_some {l : List Oper} {s j : Nat} (h : dstw l trs s j ≠ none) : ∃ o t, l[j]? = some o ∧ trs[j]? = some t ∧ o.dst = some s := by
  unfold dstw at h
  split at h
  · rename_i o t h1 h2
    split at h
    · exact ⟨o, t, h1, h2, by assumption⟩
    · exact absurd rfl h
  · exact absurd rfl h
theorem lastW_mem {j : Nat} : ∀ {wr : List (Nat × Ob)}, lastW j wr ≠ none → j ∈ wr.map (·.1)
  | [], h => absurd rfl h
  | p :: l, h => by
    unfold lastW at h
    cases hl : lastW j l with
    | some o => exact List.mem_cons_of_mem _ (lastW_mem (by rw [hl]; simp))
    | none =>
      rw [hl] at h
      simp only [orD] at h
      split at h
      · rename_i e; subst e; simp
      · exact absurd rfl h
theorem wrw_some {k j : Nat} (h : wrw trs k j ≠ none) : ∃ t, trs[j]? = some t ∧ k ∈ t.wr.map (·.1) := by
  unfold wrw at h
  cases ht : trs[j]? with
  | none => rw [ht] at h; exact absurd rfl h
  | some t => rw [ht] at h; exact ⟨t, rfl, lastW_mem h⟩
theorem free_dst {oi oj : Oper} {ti tj : List Nat × List Nat} (h : freeB ops oi oj ti tj = true) {s : Nat} : (oi.dst = some s → s ∉ oj.looksAt ops ∧ oj.dst ≠ some s) ∧ (oj.dst = some s → s ∉ oi.looksAt ops) := by
  unfold freeB at h
  simp only [Bool.and_eq_true] at h
  obtain ⟨h1, h2, h3⟩ := Oper.apart_spec h.1.1
  exact ⟨fun e => ⟨h1 s e, h2 s e⟩, fun e => h3 s e⟩
theorem free_wr {oi oj : Oper} {ti tj : List Nat × List Nat} (h : freeB ops oi oj ti tj = true) {k : Nat} : (k ∈ ti.2 → k ∉ tj.1) ∧ (k ∈ tj.2 → k ∉ ti.1) := by
  unfold freeB at h
  simp only [Bool.and_eq_true] at h
  refine ⟨fun hk => ?_, fun hk => ?_⟩
  · have := List.all_eq_true.1 h.1.2 k hk; simpa using this
  · have := List.all_eq_true.1 h.2 k hk; simpa using this
variable {L : Array Bool} {fr0 fr : List V} {σ0 σ : List Ob}
/-- Where i is ready, what writes something that i looks at is there just if it is ahead of i in the text. -/
theorem order_at (hind : indepB ops (trs.map Tr.tch) = true) (hd : Sl.Down .any ops L) {i : Nat} (hr : i ∈ Region.ready .any ops L) {oi : Oper} {ti : Tr} (hi : ops[i]? = some oi) (hti : trs[i]? = some ti) {j : Nat} {oj : Oper} {tj : Tr} (hj : ops[j]? = some oj) (htj : trs[j]? = some tj)
    (hc : i ≠ j → freeB ops oi oj ti.tch tj.tch = false ∧ freeB ops oj oi tj.tch ti.tch = false) : LB L j = decide (j < i) := by
  have hLi : LB L i = false := Sl.ready_false hr
  obtain ⟨_, h2⟩ := indep_spec hind
  rcases Nat.lt_trichotomy j i with h | h | h
  · have hA : Sl.Anc .any ops j i := by
      rcases h2 j i oj oi tj ti h hj hi htj hti with h' | h'
      · exact h'
      · rw [(hc (by omega)).2] at h'; cases h'
    have := hd.ready hA hr
    simp only [LB]
    rw [this]; simp [h]
  · subst h; rw [hLi]; simp
  · have hA : Sl.Anc .any ops i j := by
      rcases h2 i j oi oj ti tj h hi hj hti htj with h' | h'
      · exact h'
      · rw [(hc (by omega)).1] at h'; cases h'
    have hLj : LB L j = false := by
      cases hx : LB L j with
      | false => rfl
      | true => exact absurd (hd.anc hA hx) (by rw [show L.getD i false = false from hLi]; simp)
    rw [hLj]; simp; omega
def cntF (f : Nat → Bool) (n : Nat) : Nat := (List.range n).countP fun i => !f i
theorem cntF_set {f f' : Nat → Bool} {i : Nat} (h1 : ∀ j, j ≠ i → f' j = f j) (h2 : f i = false) (h3 : f' i = true) : ∀ {n : Nat}, i < n → cntF f' n + 1 = cntF f n
  | 0, h => by omega
  | n + 1, h => by
    unfold cntF
    rw [List.range_succ, List.countP_append, List.countP_append]
    by_cases hn : n = i
    · subst hn
      have : (List.range n).countP (fun i => !f' i) = (List.range n).countP (fun i => !f i) := List.countP_congr fun x hx => by
        rw [h1 x (by have := List.mem_range.1 hx; omega)]
      simp [this, h2, h3]
    · have := cntF_set h1 h2 h3 (n := n) (by omega)
      unfold cntF at this
      simp only [List.countP_cons, List.countP_nil, h1 n hn]
      omega
theorem cntF_zero {f : Nat → Bool} : ∀ {n : Nat}, cntF f n = 0 → ∀ i, i < n → f i = true
  | 0, _, i, h => by omega
  | n + 1, h, i, hi => by
    unfold cntF at h
    rw [List.range_succ, List.countP_append] at h
    by_cases hn : i = n
    · subst hn
      cases hf : f i with
      | true => rfl
      | false => simp [hf] at h
    · exact cntF_zero (n := n) (by unfold cntF; omega) i (by omega)
theorem ready_nil (hlt : ∀ (j : Nat) (o : Oper) (e : Edge), ops[j]? = some o → e ∈ o.after → Region.binds .any e = true → e.on < j) (hL : L.size = ops.size) (h : Region.ready .any ops L = []) : ∀ i, i < ops.size → LB L i = true := by
  intro i
  induction i using Nat.strongRecOn with
  | _ i ih =>
    intro hi
    cases hx : LB L i with
    | true => rfl
    | false =>
      have : i ∈ Region.ready .any ops L := by
        refine mem_ready.2 ⟨?_, ops[i], Array.getElem?_eq_getElem hi, fun e he hb => ?_⟩
        · unfold LB at hx
          have hil : i < L.size := by omega
          simpa [hil] using hx
        · have hlt' := hlt i _ e (Array.getElem?_eq_getElem hi) he hb
          exact ih e.on hlt' (by omega)
      rw [h] at this
      cases this
theorem any_ok {fr' : List V} {σ' : List Ob} (hrun : Run P ops.toList ops.toList fr0 σ0 trs fr' σ') (hind : indepB ops (trs.map Tr.tch) = true) {w0 : Bs} {lent : Nat → Prop} {C0 : Cx} {Q : Exit → Act → World → Prop} {ds : List Deferred}
    (hQ : ∀ (C' : Cx) (w' : World) (a' : Act), Rel w0 lent C' σ' w' → C0.le C' → FrR C' fr' a'.tmps → a'.defers = ds → Q .normal a' w') :
    ∀ (n : Nat) (L : Array Bool) (fr : List V) (σ : List Ob) (C : Cx) (w : World) (a : Act), L.size = ops.size → cntF (LB L) ops.size ≤ n → Sl.Down .any ops L → StIs ops trs fr0 σ0 L fr σ → Rel w0 lent C σ w → C0.le C → FrR C fr a.tmps → a.defers = ds → wpAny P .any ops Q n L a w := by
  obtain ⟨hlen, hfl, hsl, hfe, hse, hat⟩ := run_at hrun
  obtain ⟨hlt, _⟩ := indep_spec hind
  have hend : ∀ (L : Array Bool) (fr : List V) (σ : List Ob), (∀ i, i < ops.size → LB L i = true) → StIs ops trs fr0 σ0 L fr σ → fr = fr' ∧ σ = σ' := fun L fr σ hall hst => by
    refine ⟨List.ext_getElem? fun s => ?_, List.ext_getElem? fun j => ?_⟩
    · by_cases hs : s < fr0.length
      · rw [hst.f s hs, hfe s hs, Array.length_toList]
        exact look_congr fun i hi _ => hall i hi
      · rw [List.getElem?_eq_none (by rw [hst.fl]; omega), List.getElem?_eq_none (by rw [hfl]; omega)]
    · by_cases hj : j < σ0.length
      · rw [hst.s j hj, hse j hj, Array.length_toList]
        exact look_congr fun i hi _ => hall i hi
      · rw [List.getElem?_eq_none (by rw [hst.sl]; omega), List.getElem?_eq_none (by rw [hsl]; omega)]
  have hdone : ∀ (L : Array Bool) (fr : List V) (σ : List Ob) (C : Cx) (w : World) (a : Act), L.size = ops.size → StIs ops trs fr0 σ0 L fr σ → Rel w0 lent C σ w → C0.le C → FrR C fr a.tmps → a.defers = ds → Region.ready .any ops L = [] → Q .normal a w := fun L fr σ C w a hL hst R hle hf hd hr => by
    obtain ⟨rfl, rfl⟩ := hend L fr σ (ready_nil hlt hL hr) hst
    exact hQ C w a R hle hf hd
  intro n
  induction n with
  | zero =>
    intro L fr σ C w a hL hc hd hst R hle hf hdf
    have hall := cntF_zero (Nat.le_zero.1 hc)
    have hr : Region.ready .any ops L = [] := by
      cases hx : Region.ready .any ops L with
      | nil => rfl
      | cons i l =>
        have hi : i ∈ Region.ready .any ops L := by rw [hx]; simp
        have h1 := Sl.ready_false hi
        obtain ⟨_, o, ho, _⟩ := mem_ready.1 hi
        have h2 := hall i (Array.getElem?_eq_some_iff.1 ho).1
        unfold LB at h2
        rw [h1] at h2; cases h2
    exact ⟨hr, hdone L fr σ C w a hL hst R hle hf hdf hr⟩
  | succ n ih =>
    intro L fr σ C w a hL hc hd hst R hle hf hdf
    refine ⟨hdone L fr σ C w a hL hst R hle hf hdf, fun i hir => ?_⟩
    obtain ⟨_, oi, hoi, _⟩ := mem_ready.1 hir
    have hin : i < ops.size := (Array.getElem?_eq_some_iff.1 hoi).1
    have hLi : LB L i = false := Sl.ready_false hir
    obtain ⟨ti, fri, σi, hti, hfil, hsil, hfi, hsi, hcase⟩ := (hat i oi (by simpa using hoi)).h
    have hop : ∀ {j : Nat} {o : Oper}, ops.toList[j]? = some o → ops[j]? = some o := fun h => by simpa using h
    -- slots that the operation looks at
    have hslot : ∀ s, s ∈ oi.looksAt ops → fr[s]? = fri[s]? := fun s hs => by
      by_cases hsl' : s < fr0.length
      · rw [hst.f s hsl', hfi s hsl', ← look_prefix (n := ops.size) (Nat.le_of_lt hin)]
        refine look_congr fun j hj hne => ?_
        obtain ⟨oj, tj, h1, h2, h3⟩ := dstw_some hne
        refine order_at hind hd hir hoi hti (hop h1) h2 fun hij => ⟨?_, ?_⟩
        · cases hx : freeB ops oi oj ti.tch tj.tch with
          | false => rfl
          | true => exact absurd hs ((free_dst hx).2 h3)
        · cases hx : freeB ops oj oi tj.tch ti.tch with
          | false => rfl
          | true => exact absurd hs ((free_dst hx).1 h3).1
      · have e1 := hst.fl
        have n1 : fr[s]? = none := List.getElem?_eq_none (by rw [e1]; exact Nat.le_of_not_lt hsl')
        have n2 : fri[s]? = none := List.getElem?_eq_none (by rw [hfil]; exact Nat.le_of_not_lt hsl')
        rw [n1, n2]
    have hev : ∀ x ∈ oi.op.operands.toList, evF fri x = evF fr x := fun x hx => by
      cases x with
      | tmp s =>
        have hs : s ∈ oi.looksAt ops := List.mem_append_left _ (List.mem_filterMap.2 ⟨.tmp s, hx, rfl⟩)
        show fri.getD s .any = fr.getD s .any
        rw [List.getD_eq_getElem?_getD, List.getD_eq_getElem?_getD, hslot s hs]
      | _ => rfl
    have hwant : wantedV ops.toList fr oi = wantedV ops.toList fri oi := by
      unfold wantedV
      cases hg : oi.guard with
      | none => rfl
      | some jw =>
        obtain ⟨g, want⟩ := jw
        simp only
        cases hso : slotOf ops.toList g with
        | none => rfl
        | some s =>
          have hs : s ∈ oi.looksAt ops := by
            refine List.mem_append_right _ ?_
            rw [hg]
            simp only [Option.mem_toList]
            simpa [slotOf] using hso
          simp only [List.getD_eq_getElem?_getD, hslot s hs]
    have hput : ∀ (j : Nat), j ≠ i → LB (L.setIfInBounds i true) j = LB L j := fun j hj => getD_set_ne false (fun e => hj e.symm)
    have hputi : LB (L.setIfInBounds i true) i = true := by
      unfold LB
      have : i < L.size := by omega
      simp [this]
    have hL' : (L.setIfInBounds i true).size = ops.size := by simpa using hL
    have hd' := hd.set hir
    have hc' : cntF (LB (L.setIfInBounds i true)) ops.size ≤ n := by
      have := cntF_set hput hLi hputi hin
      omega
    -- the state behind it
    have hst' : StIs ops trs fr0 σ0 (L.setIfInBounds i true) (setD fr oi.dst ti.v) (upd σ ti.wr) := by
      refine ⟨by rw [setD_len, hst.fl], by rw [upd_length, hst.sl], fun s hs => ?_, fun j hj => ?_⟩
      · rw [setD_get _ _ _ _ (by rw [hst.fl]; exact hs), hst.f s hs]
        by_cases hw : oi.dst = some s
        · have hwi : dstw ops.toList trs s i = some ti.v := by
            unfold dstw
            simp [hoi, hti, hw]
          rcases look_over (wr := dstw ops.toList trs s) (d := fr0[s]?) hin hput hputi (fun j hj hLj => by
            cases hx : dstw ops.toList trs s j with
            | none => rfl
            | some y =>
              obtain ⟨oj, tj, h1, h2, h3⟩ := dstw_some (l := ops.toList) (trs := trs) (s := s) (j := j) (by rw [hx]; simp)
              have := order_at hind hd hir hoi hti (hop h1) h2 fun hij => ⟨by
                cases hx : freeB ops oi oj ti.tch tj.tch with
                | false => rfl
                | true => exact absurd h3 ((free_dst hx).1 hw).2, by
                cases hx : freeB ops oj oi tj.tch ti.tch with
                | false => rfl
                | true => exact absurd hw ((free_dst hx).1 h3).2⟩
              rw [hLj] at this
              simp at this; omega) with h | h
          · rw [h, hwi, if_pos hw]; rfl
          · rw [hLi] at h; cases h
        · rw [if_neg hw]
          refine look_congr fun j hj hne => (hput j fun e => ?_).symm
          subst e
          obtain ⟨o, t, h1, _, h3⟩ := dstw_some hne
          rw [hop h1] at hoi
          injection hoi with hoi
          subst hoi
          exact hw h3
      · rw [upd_get _ _ _ (by rw [hst.sl]; exact hj), hst.s j hj]
        have hwi : wrw trs j i = lastW j ti.wr := by unfold wrw; rw [hti]; rfl
        by_cases hw : lastW j ti.wr = none
        · rw [hw]
          simp only [orD]
          refine look_congr fun k hk hne => (hput k fun e => ?_).symm
          subst e
          exact hne (hwi.trans hw)
        · have hmem := lastW_mem hw
          have hrd : j ∈ ti.rd.map (·.1) := by
            obtain ⟨p, hp, hpj⟩ := List.mem_map.1 hmem
            rcases hcase with ⟨_, h⟩ | ⟨_, _, h, _⟩
            · rw [h] at hp; cases hp
            · obtain ⟨q, hq, hqp⟩ := h p hp
              exact List.mem_map.2 ⟨q, hq, hqp.trans hpj⟩
          rcases look_over (wr := wrw trs j) (d := σ0[j]?) hin hput hputi (fun k hk hLk => by
            cases hx : wrw trs j k with
            | none => rfl
            | some y =>
              obtain ⟨tk, h2, h3⟩ := wrw_some (trs := trs) (k := j) (j := k) (by rw [hx]; simp)
              have hkl : k < ops.size := by
                have := (List.getElem?_eq_some_iff.1 h2).1
                rw [hlen] at this
                simpa using this
              have := order_at hind hd hir hoi hti (Array.getElem?_eq_getElem hkl) h2 fun hij => ⟨by
                cases hx : freeB ops oi ops[k] ti.tch tk.tch with
                | false => rfl
                | true => exact absurd hrd ((free_wr hx).2 h3), by
                cases hx : freeB ops ops[k] oi tk.tch ti.tch with
                | false => rfl
                | true => exact absurd hrd ((free_wr hx).1 h3)⟩
              rw [hLk] at this
              simp at this; omega) with h | h
          · rw [h, hwi]
          · rw [hLi] at h; cases h
    unfold wpOp
    rw [hoi]
    simp only
    rcases hcase with ⟨hwf, hte⟩ | ⟨hwt, hstep, hww, hrr⟩
    · rw [wantedV_ok (by rw [hwant]; exact hwf) hf]
      simp only [Bool.false_eq_true, if_false]
      rw [hte] at hst'
      refine ih _ _ _ C w _ hL' hc' hd' hst' R hle (FrR.put hf (vr_undef C) oi.dst) ?_
      rw [← hdf]; cases oi.dst <;> rfl
    · rw [wantedV_ok (by rw [hwant]; exact hwt) hf]
      simp only [if_true]
      left
      refine hstep w0 lent C σ w a R (fun x hx => by rw [hev x hx]; exact evF_ok hf x) (fun p hp => ?_) _ _ fun C' w' u R' hle' hu => ?_
      · have hpi := hrr p hp
        have hpl : p.1 < σ0.length := by rw [← hsil]; exact (List.getElem?_eq_some_iff.1 hpi).1
        rw [← hpi, hst.s p.1 hpl, hsi p.1 hpl, ← look_prefix (n := ops.size) (Nat.le_of_lt hin)]
        refine look_congr fun j hj hne => ?_
        obtain ⟨tj, h2, h3⟩ := wrw_some hne
        have hrd : p.1 ∈ ti.rd.map (·.1) := List.mem_map.2 ⟨p, hp, rfl⟩
        refine order_at hind hd hir hoi hti (Array.getElem?_eq_getElem hj) h2 fun hij => ⟨?_, ?_⟩
        · cases hx : freeB ops oi ops[j] ti.tch tj.tch with
          | false => rfl
          | true => exact absurd hrd ((free_wr hx).2 h3)
        · cases hx : freeB ops ops[j] oi tj.tch ti.tch with
          | false => rfl
          | true => exact absurd hrd ((free_wr hx).1 h3)
      · refine ih _ _ _ C' w' _ hL' hc' hd' hst' R' (Cx.le_trans hle hle') (FrR.put (VRs.mono hle' hf) hu oi.dst) ?_
        rw [← hdf]; cases oi.dst <;> rfl
/-- A region that draws its order. -/
theorem W.draw {T : Tb P} {k : Nat} {Q : Post} {id : Nat} {l : List Oper} {nms : List Nat} (hm : P.follows .mixedOrders = true) (hl : ops.toList = l)
    (h : RR P T l nms l σ.length fr (σ ++ List.replicate (resvs l) .fresh) [] fun fr' σ' tr => indepB ops tr = true ∧ Q .normal fr' (trimN σ.length σ')) : W P k (.region id ops true) fr σ Q := fun w0 lent C w a R hf hd hk => by
  obtain ⟨trs, fr', σ', hrun, hind, hq⟩ := h
  obtain ⟨C1, R1, hle1⟩ := R.reserve (resvs l)
  subst hl
  have R1' : Rel w0 lent C1 (σ ++ List.replicate (resvs ops.toList) .fresh) w.drew := R1.same (fun _ _ => rfl) (Nat.le_refl _) rfl rfl rfl
  refine wp_region_any hm (any_ok (C0 := C1) hrun (by simpa using hind) (ds := a.defers) (fun C2 w2 a2 R2 hle2 hf2 hd2 => ?_) ops.size _ fr _ C1 _ a (by simp) ?_ ?_ ⟨rfl, rfl, fun s hs => ?_, fun j hj => ?_⟩ R1' (Cx.le_refl _) (VRs.mono hle1 hf) rfl)
  · obtain ⟨m, hm⟩ := trimN_eq σ.length σ'
    have hlen := hrun.length
    rw [hm] at R2
    obtain ⟨R3, hfr⟩ := R2.cut
    have hkl : σ.length ≤ (trimN σ.length σ').length := trimN_len _ _ (by rw [hlen]; simp)
    refine ⟨_, fr', _, hq, R3, VRs.cut hfr hf2, by rw [hd2, hd], by omega, (hle1.k (by rw [R.len]; exact hk)).trans ((hle2.k (by rw [R1.len]; simp; omega)).trans ?_)⟩
    refine ⟨GC.le_refl _, fun i b hi hb => VR.cut_at hfr hb, fun c n u _ h _ => ⟨n, u, h, .inl ⟨rfl, rfl⟩⟩, fun c hc h => ?_⟩
    simp only [Cx.cut] at h
    rw [List.getElem?_take, if_pos (by omega)] at h
    exact h
  · unfold cntF
    have := List.countP_le_length (p := fun i => !LB (Array.replicate ops.size false) i) (l := List.range ops.size)
    simpa using this
  · intro j o e _ hj
    simp [Array.getElem?_replicate] at hj
    split at hj <;> simp_all
  · have hz : ∀ (wr : Nat → Option V) (n : Nat) (d : Option V), look wr (LB (Array.replicate ops.size false)) n d = d := by
      intro wr n d
      induction n with
      | zero => rfl
      | succ n ih =>
        rw [look, if_neg, ih]
        simp [LB, Array.getElem?_replicate]
        split <;> simp
    rw [hz]
  · have hz : ∀ (wr : Nat → Option Ob) (n : Nat) (d : Option Ob), look wr (LB (Array.replicate ops.size false)) n d = d := by
      intro wr n d
      induction n with
      | zero => rfl
      | succ n ih =>
        rw [look, if_neg, ih]
        simp [LB, Array.getElem?_replicate]
        split <;> simp
    rw [hz]
end
end Go.Proofs.Ytgebfcdcpmmgnaa.Vs
