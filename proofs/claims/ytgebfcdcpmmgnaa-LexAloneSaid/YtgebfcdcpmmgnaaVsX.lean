/- Written rows become data; nil becomes a row that may be written. -/
import Derived.Test.YtgebfcdcpmmgnaaVsW
set_option linter.unusedVariables false
set_option linter.unusedSimpArgs false
namespace Go.Proofs.Ytgebfcdcpmmgnaa.Vs
open Go.RowKit
section
variable {P : Program} {k : Nat} {fr : List V} {σ : List Ob} {w0 : Bs} {w w' : World} {lent : Nat → Prop} {C C' : Cx} {c : Code}
theorem Rel.freezeH (R : Rel w0 lent C σ w) {i e q k n : Nat} {vs : List V} {xs : List D} (hi : σ[i]? = some (.grw e q k n vs)) (hq : 0 < q) (he : Elems q vs xs) (hn : n = xs.length) :
    ∃ C', Rel w0 lent C' (σ.set i .dead) w ∧ C.le C' ∧ ∀ {v : Value}, VR C (.hd i k n) v → VR C' (.d (.sl q xs)) v := by
  obtain ⟨h0, u, cs, hcur, hr, hvs, hG⟩ := R.obs i _ hi
  rcases hr.2 with ⟨hn0, a, hu⟩ | ⟨b, cap, cur, hu, hc0, h1, h2, h3, h4, h5, h6⟩
  · let C' : Cx := { C with cur := fun j => if j = i then none else C.cur j }
    have hle : C.le C' := ⟨GC.le_refl _, fun _ _ h => h, Nat.le_refl _, fun j m u _ h _ => by
      have h' : (if j = i then none else C.cur j) = some (m, u) := h
      split at h'
      · cases h'
      · exact ⟨m, u, h', .inl ⟨rfl, rfl⟩⟩, fun _ h _ => h⟩
    refine ⟨C', R.step hi ⟨hle, rfl, fun _ _ => rfl, fun j hj => by simp [C', hj], fun _ _ _ => rfl, R.ro, fun _ _ _ _ => rfl, by simp [ObR, C'], fun b hb => by simp [blockOf] at hb, Nat.le_refl _, rfl, rfl, rfl⟩, hle, fun {v} hv => ?_⟩
    unfold VR at hv ⊢
    obtain ⟨_, _, _, k4⟩ := hv
    rw [(k4 _ _ hcur).2 rfl, hu]
    have hx : xs = [] := List.eq_nil_of_length_eq_zero (by omega)
    subst hx
    unfold DR
    exact ⟨a, 0, rfl, Nat.le_refl _, by simp [maxLen], hq, fun h => absurd rfl h⟩
  · have hb0 : hdBlock u = some b := by rw [hu]; simp only [hdBlock]; rw [if_neg (by omega)]
    have hGb := hG b hb0
    let G' : GC := fun b' o => if b' = b then cs[o]? else C.G b' o
    have hle : C.G.le G' := fun b' o v h => by
      by_cases hb : b' = b
      · subst hb; rw [hGb o] at h; cases h
      · show (if b' = b then cs[o]? else C.G b' o) = some v
        rw [if_neg hb]; exact h
    let C' : Cx := { G := G', ρ := C.ρ, cur := fun j => if j = i then none else C.cur j }
    have hle' : C.le C' := ⟨hle, fun _ _ h => h, Nat.le_refl _, fun j m u _ h _ => by
      have h' : (if j = i then none else C.cur j) = some (m, u) := h
      split at h'
      · cases h'
      · exact ⟨m, u, h', .inl ⟨rfl, rfl⟩⟩, fun _ h _ => h⟩
    have hblk : blockOf C i (.grw e q k n vs) = some b := by simp only [blockOf, hcur, Option.bind_some]; exact hb0
    refine ⟨C', R.step hi ⟨hle', rfl, fun _ _ => rfl, fun j hj => by simp [C', hj], fun _ _ _ => rfl, fun b' o v h => ?_, fun b' hb hne o => ?_, by simp [ObR, C'], fun b' hb => by simp [blockOf] at hb, Nat.le_refl _, rfl, rfl, rfl⟩, hle', fun {v} hv => ?_⟩
    · by_cases hb : b' = b
      · subst hb
        have h' : cs[o]? = some v := by
          have : (if b' = b' then cs[o]? else C.G b' o) = some v := h
          rwa [if_pos rfl] at this
        rw [← h5, List.getElem?_take] at h'
        split at h'
        · simp [World.cell?, h1]; simpa using h'
        · cases h'
      · have h' : C.G b' o = some v := by
          have : (if b' = b then cs[o]? else C.G b' o) = some v := h
          rwa [if_neg hb] at this
        exact R.ro b' o v h'
    · show (if b' = b then cs[o]? else C.G b' o) = C.G b' o
      rw [if_neg (fun e => hne (by rw [hblk, e]))]
    · unfold VR at hv ⊢
      obtain ⟨_, _, _, k4⟩ := hv
      rw [(k4 _ _ hcur).2 rfl, hu]
      unfold DR
      refine ⟨_, cap, by rw [hn], by rw [← hn]; exact h2, h3, hq, fun _ => ⟨b, 0, rfl, DRow.of fun j x hx => ?_⟩⟩
      obtain ⟨ce, l1, l2, l3⟩ := he C' cs (hvs.mono hle') j x hx
      refine ⟨ce, l1, l2, fun m v hm => ?_⟩
      show (if b = b then cs[0 + j * q + m]? else C.G b (0 + j * q + m)) = some v
      rw [if_pos rfl, Nat.zero_add]
      exact l3 m v hm
/-- Where the row i stands for data, from now on. -/
inductive FzH (i q kk : Nat) (xs : List D) : V → V → Prop
  | hd {n} (hn : n = xs.length) : FzH i q kk xs (.hd i kk n) (.d (.sl q xs))
  | wk {v u} (h : Wk v u) : FzH i q kk xs v u
inductive FzHL (i q kk : Nat) (xs : List D) : List V → List V → Prop
  | nil : FzHL i q kk xs [] []
  | cons {v u vs us} (h : FzH i q kk xs v u) (t : FzHL i q kk xs vs us) : FzHL i q kk xs (v :: vs) (u :: us)
theorem Ent.freezeH {i q e kk n : Nat} {vs : List V} {xs : List D} {fr' : List V} (hi : σ[i]? = some (.grw e q kk n vs)) (hq : 0 < q) (he : Elems q vs xs) (hn : n = xs.length) (h : FzHL i q kk xs fr fr') : Ent k fr σ fr' (σ.set i .dead) := fun w0 lent C w a R hf hk => by
  obtain ⟨C', R', hle, hz⟩ := R.freezeH hi hq he hn
  refine ⟨C', R', ?_, by simpa using hk, hle.k (by rw [R.len]; exact hk)⟩
  have key : ∀ {fr fr' : List V} {us : List Value}, FzHL i q kk xs fr fr' → VRs C fr us → VRs C' fr' us := by
    intro fr
    induction fr with
    | nil => intro fr' us h hv; cases h; unfold VRs at hv ⊢; exact hv
    | cons v fr ih =>
      intro fr' us h hv
      cases h with
      | cons h t =>
        unfold VRs at hv ⊢
        obtain ⟨u, r, e, h1, h2⟩ := hv
        refine ⟨u, r, e, ?_, ih t h2⟩
        cases h with
        | hd h0 => subst h0; subst hn; exact hz h1
        | wk h => exact (h.ok h1).mono hle
  exact key h hf
/-- All ways through x meet in one state. -/
def meetV (k : Nat) (F1 : List V) (S1 : List Ob) : Post := fun e fr' σ' => e = .normal ∧ Ent k fr' σ' F1 S1
@[go_sem ↓] theorem meet_n {F1 : List V} {S1 : List Ob} : meetV k F1 S1 .normal fr σ = Ent k fr σ F1 S1 := by simp [meetV]
theorem W.jn {P : Program} {x y : Code} {Q : Post} (F1 : List V) (S1 : List Ob) (h1 : W P k x fr σ (meetV k F1 S1)) (h2 : W P k y F1 S1 Q) : W P k x fr σ (thenV (fun fr' σ' => W P k y fr' σ' Q) Q) :=
  h1.mono fun e fr' σ' ⟨he, hent⟩ => by subst he; exact W.ent hent h2
/-- A block that nothing is named after any more gets another name. -/
theorem Rel.adopt (R : Rel w0 lent C σ w) {j b : Nat} {o' : Ob} {c : Option (Nat × Value)} (hj : σ[j]? = some .fresh) (hun : ∀ (m : Nat) (o : Ob), σ[m]? = some o → blockOf C m o ≠ some b) (hnew : w0.w.heap.size ≤ b ∨ lent b)
    (hob : C.le { G := C.G, ρ := C.ρ.set j (some b), cur := fun m => if m = j then c else C.cur m } → ObR { G := C.G, ρ := C.ρ.set j (some b), cur := fun m => if m = j then c else C.cur m } w j o') (hblk : ∀ b', blockOf { G := C.G, ρ := C.ρ.set j (some b), cur := fun m => if m = j then c else C.cur m } j o' = some b' → b' = b) :
    ∃ C', C' = { G := C.G, ρ := C.ρ.set j (some b), cur := fun m => if m = j then c else C.cur m } ∧ Rel w0 lent C' (σ.set j o') w ∧ C.le C' := by
  obtain ⟨hf, hc⟩ := R.obs j _ hj
  have hjl : j < σ.length := (List.getElem?_eq_some_iff.1 hj).1
  have hle : C.le { G := C.G, ρ := C.ρ.set j (some b), cur := fun m => if m = j then c else C.cur m } := put_le (GC.le_refl _) hf (by simp)
  refine ⟨_, rfl, ?_, hle⟩
  have hob' := hob hle
  clear hob
  generalize hC : ({ G := C.G, ρ := C.ρ.set j (some b), cur := fun m => if m = j then c else C.cur m } : Cx) = C' at *
  have hρ : ∀ m, m ≠ j → C'.ρ[m]? = C.ρ[m]? := fun m hm => by subst hC; simp only; rw [List.getElem?_set_ne (fun e => hm e.symm)]
  have hcur : ∀ m, m ≠ j → C'.cur m = C.cur m := fun m hm => by subst hC; simp [hm]
  have hG : C'.G = C.G := by subst hC; rfl
  have hget : ∀ (m : Nat) (o : Ob), (σ.set j o')[m]? = some o → (m = j ∧ o = o') ∨ (m ≠ j ∧ σ[m]? = some o) := fun m o hm => by
    rw [List.getElem?_set] at hm
    split at hm
    · rename_i e
      subst e
      simp only [hjl, if_true, Option.some.injEq] at hm
      exact .inl ⟨rfl, hm.symm⟩
    · rename_i e
      exact .inr ⟨fun h => e h.symm, hm⟩
  have hbk : ∀ (m : Nat) (o : Ob), m ≠ j → blockOf C' m o = blockOf C m o := fun m o hm => by
    cases o <;> simp [blockOf, hρ m hm, hcur m hm]
  refine ⟨by subst hC; simp [R.len], fun b' k v h => R.ro b' k v (by rw [← hG]; exact h), fun m o hm => ?_, fun m n om on b' hm hn hb hb' => ?_, fun m o b' hm hb => ?_, R.keep, R.size, R.os, R.tape, R.output, fun b' k hb hl => by rw [hG]; exact R.gh b' k hb hl⟩
  · rcases hget m o hm with ⟨rfl, rfl⟩ | ⟨hne, hm⟩
    · exact hob'
    · have h := R.obs m o hm
      cases o with
      | dead => exact (hcur m hne).trans h
      | fresh => exact ⟨(hρ m hne).trans h.1, (hcur m hne).trans h.2⟩
      | cells t vs =>
        obtain ⟨h0, b1, cs, h1, h2, h3, h4, h5⟩ := h
        exact ⟨(hcur m hne).trans h0, b1, cs, (hρ m hne).trans h1, h2, h3.mono hle, h4, fun o => by rw [hG]; exact h5 o⟩
      | cap t q n =>
        obtain ⟨h0, u, cs, h1, h2, h3⟩ := h
        exact ⟨by rw [hρ m hne]; exact h0, u, cs, (hcur m hne).trans h1, h2, fun b1 hb1 o ho => by rw [hG]; exact h3 b1 hb1 o ho⟩
      | grw t q k n vs =>
        obtain ⟨h0, u, xs, h1, h2, h3, h4⟩ := h
        exact ⟨by rw [hρ m hne]; exact h0, u, xs, (hcur m hne).trans h1, h2, h3.mono hle, fun b1 hb1 o => by rw [hG]; exact h4 b1 hb1 o⟩
      | mp es clock =>
        obtain ⟨h0, b1, l, h1, h2, h3, h5⟩ := h
        exact ⟨(hcur m hne).trans h0, b1, l, (hρ m hne).trans h1, h2, h3.mono hle, fun o => by rw [hG]; exact h5 o⟩
      | mq es =>
        obtain ⟨b1, l, c1, n, h1, h0, h2, h3, h5⟩ := h
        exact ⟨b1, l, c1, n, (hρ m hne).trans h1, (hcur m hne).trans h0, h2, h3.mono hle, fun o => by rw [hG]; exact h5 o⟩
      | tick m2 q =>
        obtain ⟨h0, ⟨b1, hb1⟩, n, h1, h2⟩ := h
        have hm2 : m2 ≠ j := fun e => by subst e; rw [hc] at h1; cases h1
        exact ⟨(hcur m hne).trans h0, ⟨b1, (hρ m2 hm2).trans hb1⟩, n, (hcur m2 hm2).trans h1, h2⟩
  · rcases hget m om hm with ⟨rfl, rfl⟩ | ⟨hm1, hm2⟩ <;> rcases hget n on hn with ⟨rfl, rfl⟩ | ⟨hn1, hn2⟩
    · rfl
    · rw [hbk n on hn1] at hb'
      rw [hblk b' hb] at hb'
      exact absurd hb' (hun n on hn2)
    · rw [hbk m om hm1] at hb
      rw [hblk b' hb'] at hb
      exact absurd hb (hun m om hm2)
    · rw [hbk m om hm1] at hb
      rw [hbk n on hn1] at hb'
      exact R.sep m n om on b' hm2 hn2 hb hb'
  · rcases hget m o hm with ⟨rfl, rfl⟩ | ⟨hm1, hm2⟩
    · rw [hblk b' hb]; exact hnew
    · rw [hbk m o hm1] at hb
      exact R.new m o b' hm2 hb
/-- A block that was made is a row that may grow, under another name. -/
theorem Rel.rowHd (R : Rel w0 lent C σ w) {i j e q n : Nat} {vs : List V} (hi : σ[i]? = some (.cells e vs)) (hj : σ[j]? = some .fresh) (hn : vs.length = n * q) (h0 : 0 < n) (hm : n ≤ 9223372036854775807) : ∃ C', Rel w0 lent C' ((σ.set i .dead).set j (.grw e q 0 n vs)) w ∧ C.le C' ∧ ∀ {v : Value}, VR C (.row i 0 n n) v → VR C' (.hd j 0 n) v := by
  obtain ⟨h1, b, cs, h2, h3, h4, h5, h6⟩ := R.obs i _ hi
  have hij : i ≠ j := fun e => by subst e; rw [hi] at hj; cases hj
  have hil : i < σ.length := (List.getElem?_eq_some_iff.1 hi).1
  have hblk : blockOf C i (.cells e vs) = some b := by simp [blockOf, h2]
  have R1 : Rel w0 lent C (σ.set i .dead) w := R.step hi ⟨Cx.le_refl C, rfl, fun _ _ => rfl, fun _ _ => rfl, fun _ _ _ => rfl, R.ro, fun _ _ _ _ => rfl, h1, fun b' hb => by simp [blockOf] at hb, Nat.le_refl _, rfl, rfl, rfl⟩
  have hl := h4.length
  obtain ⟨C', hC, R2, hle⟩ := R1.adopt (j := j) (b := b) (o' := .grw e q 0 n vs) (c := some (0, .slice (some ⟨b, 0, none⟩) n n)) (by rw [List.getElem?_set_ne hij]; exact hj) (fun m o hm hb => by
    rw [List.getElem?_set] at hm
    split at hm
    · (try rw [if_pos hil] at hm)
      injection hm with hm; subst hm
      simp [blockOf] at hb
    · rename_i hne
      exact hne (R.sep m i o _ b hm hi hb hblk).symm) (R.new i _ b hi hblk)
    (fun hle => ⟨by
      have hjl : j < C.ρ.length := by rw [R.len]; exact (List.getElem?_eq_some_iff.1 hj).1
      simp only; rw [List.getElem?_set_self hjl]; simp, _, cs.toList, by simp, ⟨by rw [hl, hn], .inr ⟨b, n, cs, rfl, h0, h3, Nat.le_refl _, by simp only [maxLen]; omega, by rw [← Array.length_toList, hl, hn], List.take_of_length_le (by omega), h5⟩⟩, h4.mono hle, fun b' hb' o => by
        simp only [hdBlock] at hb'
        rw [if_neg (by omega)] at hb'
        injection hb' with hb'
        subst hb'
        exact h6 o⟩)
    (fun b' hb' => by
      simp only [blockOf, if_true, Option.bind_some, hdBlock] at hb'
      rw [if_neg (by omega)] at hb'
      injection hb' with hb'
      exact hb'.symm)
  refine ⟨C', R2, hle, fun {v} hv => ?_⟩
  unfold VR at hv ⊢
  obtain ⟨b', h7, rfl⟩ := hv
  rw [h2] at h7; injection h7 with h7; injection h7 with h7; subst h7
  have hjl : j < C.ρ.length := by rw [R.len]; exact (List.getElem?_eq_some_iff.1 hj).1
  subst hC
  refine ⟨by simp; exact hjl, by simp only; rw [List.getElem?_set_self hjl]; simp, ⟨_, n, rfl, fun _ => ⟨_, rfl⟩⟩, fun m u hm => ?_⟩
  simp only [if_true, Option.some.injEq, Prod.mk.injEq] at hm
  obtain ⟨rfl, rfl⟩ := hm
  exact ⟨Nat.le_refl _, fun _ => rfl⟩
inductive RhL (i j n : Nat) : List V → List V → Prop
  | nil : RhL i j n [] []
  | hd {m c vs us} (h1 : m = n) (h2 : c = n) (t : RhL i j n vs us) : RhL i j n (.row i 0 m c :: vs) (.hd j 0 n :: us)
  | cons {v u vs us} (h : Wk v u) (t : RhL i j n vs us) : RhL i j n (v :: vs) (u :: us)
theorem Ent.rowHd {i j e q n : Nat} {vs : List V} {fr' : List V} (hi : σ[i]? = some (.cells e vs)) (hj : σ[j]? = some .fresh) (hn : vs.length = n * q) (h0 : 0 < n) (hm : n ≤ 9223372036854775807) (h : RhL i j n fr fr') : Ent k fr σ fr' ((σ.set i .dead).set j (.grw e q 0 n vs)) := fun w0 lent C w a R hf hk => by
  obtain ⟨C', R', hle, hz⟩ := R.rowHd hi hj hn h0 hm
  refine ⟨C', R', ?_, by simpa using hk, hle.k (by rw [R.len]; exact hk)⟩
  have key : ∀ {fr fr' : List V} {us : List Value}, RhL i j n fr fr' → VRs C fr us → VRs C' fr' us := by
    intro fr
    induction fr with
    | nil => intro fr' us h hv; cases h; unfold VRs at hv ⊢; exact hv
    | cons v fr ih =>
      intro fr' us h hv
      cases h with
      | hd e1 e2 t =>
        subst e1; subst e2
        unfold VRs at hv ⊢
        obtain ⟨u, r, e, h1, h2⟩ := hv
        exact ⟨u, r, e, hz h1, ih t h2⟩
      | cons h t =>
        unfold VRs at hv ⊢
        obtain ⟨u, r, e, h1, h2⟩ := hv
        exact ⟨u, r, e, (h.ok h1).mono hle, ih t h2⟩
  exact key h hf
/-- A row that a function answers, as data. -/
theorem Fn.frz {P : Program} {f : FuncId} {args : List V} {e q kk n : Nat} {vs : List V} {xs : List D} (h : Fn P f args [] (.hd 0 kk n) [.grw e q kk n vs]) (hq : 0 < q) (he : Elems q vs xs) (hn : n = xs.length) : Fn P f args [] (.d (.sl q xs)) [] := by
  refine ⟨h.ok, by simp, fun C w vals R hv => (h.run C w vals R hv).mono fun _ _ ⟨C', u, he', R', hle, hu⟩ => ?_⟩
  obtain ⟨C2, R2, hle2, hz⟩ := R'.freezeH (i := 0) rfl hq he hn
  obtain ⟨C3, R3, ha, hG, hle3⟩ := R2.take 0 (Nat.zero_le _) (by simp)
  exact ⟨C3, u, he', by simpa using R3, hle.trans ((hle2.k (Nat.zero_le _)).trans (hle3.mono (by simp))), VR.agr ha (by rfl) (hz hu)⟩
mutual
/-- A row that is frozen, wherever it stands. -/
inductive FzD (i q kk n : Nat) (xs : List D) : V → V → Prop
  | hd : FzD i q kk n xs (.hd i kk n) (.d (.sl q xs))
  | wk {v u} (h : Wk v u) : FzD i q kk n xs v u
  | agg {vs us} (h : FzDL i q kk n xs vs us) : FzD i q kk n xs (.agg vs) (.agg us)
  | tup {vs us} (h : FzDL i q kk n xs vs us) : FzD i q kk n xs (.tup vs) (.tup us)
inductive FzDL (i q kk n : Nat) (xs : List D) : List V → List V → Prop
  | nil : FzDL i q kk n xs [] []
  | cons {v u vs us} (h : FzD i q kk n xs v u) (t : FzDL i q kk n xs vs us) : FzDL i q kk n xs (v :: vs) (u :: us)
end
mutual
theorem FzD.ok {C C2 : Cx} {i q kk n : Nat} {xs : List D} (hz : ∀ {v : Value}, VR C (.hd i kk n) v → VR C2 (.d (.sl q xs)) v) (hle : C.le C2) : ∀ {v u : V} {x : Value}, FzD i q kk n xs v u → VR C v x → VR C2 u x
  | _, _, _, .hd, h => hz h
  | _, _, _, .wk e, h => (e.ok h).mono hle
  | _, _, _, .agg e, h => by unfold VR at h ⊢; obtain ⟨us, h1, h2⟩ := h; exact ⟨us, h1, FzDL.ok hz hle e h2⟩
  | _, _, _, .tup e, h => by unfold VR at h ⊢; obtain ⟨us, h1, h2⟩ := h; exact ⟨us, h1, FzDL.ok hz hle e h2⟩
theorem FzDL.ok {C C2 : Cx} {i q kk n : Nat} {xs : List D} (hz : ∀ {v : Value}, VR C (.hd i kk n) v → VR C2 (.d (.sl q xs)) v) (hle : C.le C2) : ∀ {vs us : List V} {x : List Value}, FzDL i q kk n xs vs us → VRs C vs x → VRs C2 us x
  | _, _, _, .nil, h => by unfold VRs at h ⊢; exact h
  | _, _, _, .cons e t, h => by unfold VRs at h ⊢; obtain ⟨v, r, h1, h2, h3⟩ := h; exact ⟨v, r, h1, FzD.ok hz hle e h2, FzDL.ok hz hle t h3⟩
end
theorem Fn.frzV {P : Program} {f : FuncId} {args : List V} {e q kk n : Nat} {vs : List V} {xs : List D} {r r' : V} (h : Fn P f args [] r [.grw e q kk n vs]) (hq : 0 < q) (he : Elems q vs xs) (hn : n = xs.length) (hz : FzD 0 q kk n xs r r') (hr : r'.lt 0 = true) : Fn P f args [] r' [] := by
  refine ⟨h.ok, by simp, fun C w vals R hv => (h.run C w vals R hv).mono fun _ _ ⟨C', u, he', R', hle, hu⟩ => ?_⟩
  obtain ⟨C2, R2, hle2, hz2⟩ := R'.freezeH (i := 0) rfl hq he hn
  obtain ⟨C3, R3, ha, hG, hle3⟩ := R2.take 0 (Nat.zero_le _) (by simp)
  exact ⟨C3, u, he', by simpa using R3, hle.trans ((hle2.k (Nat.zero_le _)).trans (hle3.mono (by simp))), VR.agr ha hr (FzD.ok hz2 hle2 hz hu)⟩
/-- nil is a row that may be written, too. -/
inductive NhL (i : Nat) : List V → List V → Prop
  | nil : NhL i [] []
  | hd {vs us} (t : NhL i vs us) : NhL i (.nil :: vs) (.hd i 0 0 :: us)
  | cons {v u vs us} (h : Wk v u) (t : NhL i vs us) : NhL i (v :: vs) (u :: us)
theorem Ent.nilHd {i : Nat} {fr' : List V} (e q : Nat) (hi : σ[i]? = some .fresh) (h : NhL i fr fr') : Ent k fr σ fr' (σ.set i (.grw e q 0 0 [])) := fun w0 lent C w a R hf hk => by
  obtain ⟨C', R', hle, hcur, hG, hil, hρ⟩ := R.hdNil hi e q none
  refine ⟨C', R', ?_, by simpa using hk, hle.k (by rw [R.len]; exact hk)⟩
  have key : ∀ {fr fr' : List V} {us : List Value}, NhL i fr fr' → VRs C fr us → VRs C' fr' us := by
    intro fr
    induction fr with
    | nil => intro fr' us h hv; cases h; unfold VRs at hv ⊢; exact hv
    | cons v fr ih =>
      intro fr' us h hv
      cases h with
      | hd t =>
        unfold VRs at hv ⊢
        obtain ⟨u, r, e, h1, h2⟩ := hv
        refine ⟨u, r, e, ?_, ih t h2⟩
        unfold VR at h1 ⊢
        subst h1
        refine ⟨hil, hρ, ⟨none, 0, rfl, fun h => absurd rfl h⟩, fun m u hm => ?_⟩
        rw [hcur] at hm
        injection hm with hm; injection hm with h1 h2
        exact ⟨Nat.zero_le _, fun _ => h2⟩
      | cons h t =>
        unfold VRs at hv ⊢
        obtain ⟨u, r, e, h1, h2⟩ := hv
        exact ⟨u, r, e, (h.ok h1).mono hle, ih t h2⟩
  exact key h hf
/-- And with a clock of one's own. -/
inductive NhKL (i kk : Nat) : List V → List V → Prop
  | nil : NhKL i kk [] []
  | hd {vs us} (t : NhKL i kk vs us) : NhKL i kk (.nil :: vs) (.hd i kk 0 :: us)
  | cons {v u vs us} (h : Wk v u) (t : NhKL i kk vs us) : NhKL i kk (v :: vs) (u :: us)
theorem Ent.nilHdK {i kk : Nat} {fr' : List V} (e q : Nat) (hi : σ[i]? = some .fresh) (h : NhKL i kk fr fr') : Ent k fr σ fr' (σ.set i (.grw e q kk 0 [])) := fun w0 lent C w a R hf hk => by
  obtain ⟨C', R', hle, hcur, hG, hil, hρ⟩ := R.hdNil hi e q none kk
  refine ⟨C', R', ?_, by simpa using hk, hle.k (by rw [R.len]; exact hk)⟩
  have key : ∀ {fr fr' : List V} {us : List Value}, NhKL i kk fr fr' → VRs C fr us → VRs C' fr' us := by
    intro fr
    induction fr with
    | nil => intro fr' us h hv; cases h; unfold VRs at hv ⊢; exact hv
    | cons v fr ih =>
      intro fr' us h hv
      cases h with
      | hd t =>
        unfold VRs at hv ⊢
        obtain ⟨u, r, e, h1, h2⟩ := hv
        refine ⟨u, r, e, ?_, ih t h2⟩
        unfold VR at h1 ⊢
        subst h1
        refine ⟨hil, hρ, ⟨none, 0, rfl, fun h => absurd rfl h⟩, fun m u hm => ?_⟩
        rw [hcur] at hm
        injection hm with hm; injection hm with h1 h2
        exact ⟨by omega, fun _ => h2⟩
      | cons h t =>
        unfold VRs at hv ⊢
        obtain ⟨u, r, e, h1, h2⟩ := hv
        exact ⟨u, r, e, (h.ok h1).mono hle, ih t h2⟩
  exact key h hf
end
theorem WkL.anysN : ∀ vs : List V, WkL vs (List.replicate vs.length .any)
  | [] => .nil
  | v :: vs => .cons .any (WkL.anysN vs)
/-- A scalar: it lies nowhere else. -/
def D.flat : D → Bool
  | .int .. | .bool _ | .str _ => true
  | _ => false
theorem flat_dr {x : D} {G G' : GC} {cs : List Value} (h : x.flat = true) (hx : DR G x cs) : DR G' x cs := by
  cases x <;> simp only [D.flat, Bool.false_eq_true] at h <;> (unfold DR at hx ⊢; exact hx)
theorem flat_one {x : D} (h : x.flat = true) : x.sz = 1 := by cases x <;> simp only [D.flat, Bool.false_eq_true] at h <;> rfl
/-- What may stand beside a row: scalars. -/
def V.flatL : List V → Bool
  | [] => true
  | .d x :: l => x.flat && V.flatL l
  | _ => false
theorem flatL_vr {C C' : Cx} : ∀ {l : List V} {us : List Value}, V.flatL l = true → VRs C l us → VRs C' l us
  | [], us, _, h => by unfold VRs at h ⊢; exact h
  | v :: l, us, hl, h => by
    cases v <;> simp only [V.flatL, Bool.false_eq_true, Bool.and_eq_true] at hl
    unfold VRs at h ⊢
    obtain ⟨u, r, e, h1, h2⟩ := h
    refine ⟨u, r, e, ?_, flatL_vr hl.2 h2⟩
    unfold VR at h1 ⊢
    exact flat_dr hl.1 h1
/-- A row that a function answers may be written by its caller. -/
theorem Fn.thaw {P : Program} {f : FuncId} {args : List V} {xs : List D} {e n : Nat} {rest : List V} (h : Fn P f args [] (.tup (.own 1 xs 0 :: rest)) [.cap e 1 n]) (hn : n = xs.length) (hx : xs.all D.flat = true) (hr : V.flatL rest = true) : Fn P f args [] (.tup (.hd 0 n n :: rest)) [.grw e 1 n n (xs.map .d)] := by
  refine ⟨h.ok, by simp, fun C w vals R hv => (h.run C w vals R hv).mono fun _ w' ⟨C', u, he, R', hle, hu⟩ => ?_⟩
  unfold VR at hu
  obtain ⟨us, rfl, hus⟩ := hu
  unfold VRs at hus
  obtain ⟨v, r, rfl, hv1, hv2⟩ := hus
  unfold VR at hv1
  obtain ⟨k1, k2, k3, k4⟩ := hv1
  obtain ⟨hρ, u0, cs, hcur, hown, hG⟩ := R'.obs 0 _ rfl
  have hvu := (k4 _ _ hcur).2 hn
  subst hvu
  have hlen1 : C'.ρ.length = 1 := by have := R'.len; simpa using this
  -- cells of the row
  have hcs : VRs C' (xs.map .d) cs ∧ ∀ x ∈ cs, x.oneCell' = true := by
    have hl : cs.length = xs.length := by rw [hown.1, hn, Nat.mul_one]
    have hget : ∀ (i : Nat) (x : D) (y : Value), xs[i]? = some x → cs[i]? = some y → DR C'.G x [y] := fun i x y h1 h2 => by
      unfold DR at k1
      obtain ⟨a, c, e1, _, _, _, k5⟩ := k1
      obtain ⟨b, o, e2, hrow⟩ := k5 (by intro e; subst e; simp at h1)
      subst e2
      injection e1 with e1 _
      rcases hown.2 with ⟨e3, _⟩ | ⟨g, cap, cur, e3, _, h4, _, _, _, h5⟩
      · rw [e1] at e3; cases e3
      · rw [e1] at e3
        injection e3 with e3
        injection e3 with e3
        injection e3 with e3 e4
        subst e3; subst e4
        obtain ⟨ce, l1, l2, l3⟩ := hrow.get h1
        obtain ⟨y', rfl⟩ := List.length_eq_one_iff.1 l1
        have h6 := R'.ro _ _ _ (l3 0 y' rfl)
        simp only [Nat.zero_add, Nat.mul_one, Nat.add_zero] at h6
        rw [← h5, List.getElem?_take] at h2
        split at h2
        · simp only [World.cell?, h4] at h6
          simp at h6 h2
          rw [h6] at h2
          injection h2 with h2
          subst h2
          exact l2
        · cases h2
    refine ⟨VRs.of (by simp [hl]) fun i x y h1 h2 => ?_, fun y hy => ?_⟩
    · rw [List.getElem?_map] at h1
      cases hxi : xs[i]? with
      | none => rw [hxi] at h1; cases h1
      | some d =>
        rw [hxi] at h1
        injection h1 with h1
        subst h1
        unfold VR
        exact hget i d y hxi h2
    · obtain ⟨i, hi, rfl⟩ := List.mem_iff_getElem.1 hy
      exact (hget i _ _ (List.getElem?_eq_getElem (by omega)) (List.getElem?_eq_getElem hi)).one _ (by simp)
  let G2 : GC := fun b o => if v.ownBlock = some b then none else C'.G b o
  let C2 : Cx := { C' with G := G2 }
  have hnew : ∀ b, v.ownBlock = some b → w.heap.size ≤ b := fun b hb => by
    rcases R'.new 0 _ b rfl (by simp [blockOf, hcur, hb]) with h | ⟨i, o, hi, _⟩
    · exact h
    · simp at hi
  have hG2 : ∀ b o, v.ownBlock ≠ some b → G2 b o = C'.G b o := fun b o h => if_neg h
  have hbl : ∀ b, hdBlock v = some b → v.ownBlock = some b := fun b hb => by
    cases v <;> simp only [hdBlock] at hb <;> first | cases hb | skip
    rename_i a n' c
    cases a with
    | none => cases hb
    | some a =>
      simp only at hb
      split at hb
      · cases hb
      · exact hb
  have hcells : VRs C2 (xs.map .d) cs := by
    refine VRs.of (by rw [hcs.1.length]) fun i x y h1 h2 => ?_
    obtain ⟨y', h3, h4⟩ := hcs.1.get h1
    rw [h2] at h3; injection h3 with h3; subst h3
    rw [List.getElem?_map] at h1
    cases hxi : xs[i]? with
    | none => rw [hxi] at h1; cases h1
    | some d =>
      rw [hxi] at h1
      injection h1 with h1
      subst h1
      unfold VR at h4 ⊢
      exact flat_dr (List.all_eq_true.1 hx d (List.mem_of_getElem? hxi)) h4
  have hrow : rowH w' e 1 v n cs := by
    refine ⟨hown.1, ?_⟩
    rcases hown.2 with ⟨rfl, h0⟩ | ⟨g, cap, cur, e3, _, h4, h5, h6, h7, h8⟩
    · exact .inl ⟨h0, none, rfl⟩
    · by_cases hc : cap = 0
      · subst hc
        have h0 : n = 0 := by omega
        subst h0
        exact .inl ⟨rfl, some ⟨g, 0, none⟩, e3⟩
      · exact .inr ⟨g, cap, cur, e3, by omega, h4, h5, h6, h7, h8, hcs.2⟩
  refine ⟨C2, _, he, ⟨by simp [C2, hlen1], fun b o x hb => ?_, fun i ob hi => ?_, fun i j oi oj b hi hj _ _ => ?_, fun i ob b hi hb => ?_, R'.keep, R'.size, R'.os, R'.tape, R'.output, fun b o hb hl => ?_⟩, ⟨fun b o x hb => ?_, fun i b hi => by simp at hi, fun c _ _ hc => by simp at hc, fun c hc => by simp at hc⟩, ?_⟩
  · by_cases h1 : v.ownBlock = some b
    · have : G2 b o = none := if_pos h1
      rw [show C2.G b o = G2 b o from rfl, this] at hb; cases hb
    · exact R'.ro b o x (by rw [← hG2 b o h1]; exact hb)
  · cases i with
    | zero =>
      simp only [List.getElem?_cons_zero, Option.some.injEq] at hi
      subst hi
      exact ⟨hρ, v, cs, hcur, hrow, hcells, fun b hb o => if_pos (hbl b hb)⟩
    | succ i => simp at hi
  · cases i <;> cases j <;> simp_all
  · cases i with
    | zero =>
      simp only [List.getElem?_cons_zero, Option.some.injEq] at hi
      subst hi
      simp only [blockOf] at hb
      rw [show C2.cur 0 = some (n, v) from hcur] at hb
      exact .inl (hnew b (hbl b hb))
    | succ i => simp at hi
  · show G2 b o = C.G b o
    rw [hG2 b o (fun h1 => by have := hnew b h1; simp at hb; omega)]
    exact R'.gh b o hb hl
  · have hb' := World.block_lt_of_cell? w _ (R.ro b o x hb)
    show G2 b o = some x
    rw [hG2 b o (fun h1 => by have := hnew b h1; simp at hb'; omega)]
    exact hle.G b o x hb
  · unfold VR
    refine ⟨v :: r, rfl, .cons ?_ (flatL_vr hr hv2)⟩
    unfold VR
    refine ⟨by simp [C2]; omega, hρ, ?_, fun m y hm => ?_⟩
    · rcases hrow.2 with ⟨h0, a, e1⟩ | ⟨g, cap, cur, e1, _⟩
      · exact ⟨a, 0, by rw [e1, h0], fun h => absurd h0 h⟩
      · exact ⟨_, cap, e1, fun _ => ⟨g, rfl⟩⟩
    · rw [show C2.cur 0 = some (n, v) from hcur] at hm
      injection hm with hm; injection hm with h1 h2
      subst h1; subst h2
      exact ⟨Nat.le_refl _, fun _ => rfl⟩
/-- Data that is nil, or isn't. -/
theorem Fn.split1 {P : Program} {f : FuncId} {q : Nat} {xs : List D} {r : V} {σ σ' : List Ob} {rest : List V} (h1 : xs = [] → Fn P f (.nn true q [] :: rest) σ r σ') (h2 : Fn P f (.nn false q xs :: rest) σ r σ') : Fn P f (.d (.sl q xs) :: rest) σ r σ' := by
  refine ⟨h2.ok, h2.len, fun C w vals R hv => ?_⟩
  unfold VRs at hv
  obtain ⟨v, l, rfl, hv1, hv2⟩ := hv
  unfold VR at hv1
  have hd := hv1
  unfold DR at hd
  obtain ⟨a, c, e, k1, k2, k3, k4⟩ := hd
  injection e with e _
  cases a with
  | some a => exact h2.run C w _ R (.cons (by unfold VR; exact ⟨hv1, _, _, c, e, rfl⟩) hv2)
  | none =>
    have hx : xs = [] := Classical.byContradiction fun hn => by obtain ⟨b, o, e2, _⟩ := k4 hn; cases e2
    subst hx
    exact (h1 rfl).run C w _ R (.cons (by unfold VR; exact ⟨hv1, _, _, c, e, rfl⟩) hv2)
/-- Names that are not told of. -/
theorem Fn.drop {P : Program} {f : FuncId} {args : List V} {r r' : V} {σ' : List Ob} (h : Fn P f args [] r σ') (hw : Wk r r') (hr : r'.lt 0 = true) : Fn P f args [] r' [] := by
  refine ⟨h.ok, by simp, fun C w vals R hv => (h.run C w vals R hv).mono fun _ _ ⟨C', u, he, R', hle, hu⟩ => ?_⟩
  obtain ⟨C2, R2, ha, hG, hle2⟩ := R'.take 0 (Nat.zero_le _) (by simp)
  exact ⟨C2, u, he, by simpa using R2, hle.trans (hle2.mono (by simp)), VR.agr ha hr (hw.ok hu)⟩
/-- Elements that are structs. -/
theorem elems_agg {q : Nat} {xs : List (List D)} (h : ∀ x ∈ xs, x.length = q) : Elems q ((xs.map D.agg).map dcells).flatten (xs.map .agg) := fun C us hv i x hx => by
  rw [List.getElem?_map] at hx
  cases hxi : xs[i]? with
  | none => rw [hxi] at hx; cases hx
  | some y =>
    rw [hxi] at hx
    injection hx with hx
    subst hx
    have hy := h y (List.mem_of_getElem? hxi)
    have hall : ∀ z ∈ (xs.map D.agg).map dcells, z.length = q := fun z hz => by
      simp only [List.map_map, List.mem_map] at hz
      obtain ⟨y', hy', rfl⟩ := hz
      simp [dcells, h y' hy']
    have hlen := hv.length
    rw [flat_length hall] at hlen
    have hil : i < xs.length := (List.getElem?_eq_some_iff.1 hxi).1
    have hiq : i * q + q ≤ us.length := by
      rw [hlen]
      simp only [List.length_map]
      have : (i + 1) * q ≤ xs.length * q := Nat.mul_le_mul_right _ hil
      rw [Nat.add_mul] at this; omega
    refine ⟨(us.drop (i * q)).take q, by simp; omega, ?_, fun j v hj => ?_⟩
    · unfold DR
      have h1 : ((((xs.map D.agg).map dcells).flatten.drop (i * q)).take q) = y.map .d := by
        apply List.ext_getElem?
        intro j
        rw [List.getElem?_take]
        split
        · rename_i hj
          rw [List.getElem?_drop, flat_get hall (l := y.map .d) (by simp [hxi, dcells]) hj]
        · rename_i hj
          rw [List.getElem?_eq_none]
          simp; omega
      have h2 := (hv.drop (i * q)).take q
      rw [h1] at h2
      generalize (us.drop (i * q)).take q = cs at *
      clear h1 hlen hall hy hxi
      induction y generalizing cs with
      | nil => unfold DAgg; simp only [List.map_nil] at h2; unfold VRs at h2; exact h2
      | cons z y ih =>
        simp only [List.map_cons] at h2
        unfold VRs at h2
        obtain ⟨v, r, e, h3, h4⟩ := h2
        unfold DAgg
        unfold VR at h3
        exact ⟨v, r, e, h3, ih r h4⟩
    · rw [List.getElem?_take] at hj
      split at hj
      · rwa [List.getElem?_drop] at hj
      · cases hj
end Go.Proofs.Ytgebfcdcpmmgnaa.Vs
