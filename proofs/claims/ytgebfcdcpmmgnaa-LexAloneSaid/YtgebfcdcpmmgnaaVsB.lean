/- What a world holds of what is named; one step. -/
import Derived.Test.YtgebfcdcpmmgnaaVsA
set_option linter.unusedVariables false
set_option linter.unusedSimpArgs false
namespace Go.Proofs.Ytgebfcdcpmmgnaa.Vs
open Go.RowKit
def Ob.isCap : Ob → Bool
  | .cap .. => true
  | _ => false
/-- A row's header, and its cells. -/
def hdBlock (u : Value) : Option Nat := match u with
  | .slice (some a) _ c => if c = 0 then none else some a.block
  | _ => none
def rowH (w : World) (e q : Nat) (u : Value) (n : Nat) (xs : List Value) : Prop :=
  xs.length = n * q ∧ ((n = 0 ∧ ∃ a, u = .slice a 0 0) ∨
    ∃ g cap cur, u = .slice (some ⟨g, 0, none⟩) n cap ∧ 0 < cap ∧ w.heap[g]? = some (.cells cur e (0, 0)) ∧ n ≤ cap ∧ cap ≤ maxLen ∧ cur.size = cap * q ∧ cur.toList.take (n * q) = xs ∧ ∀ v ∈ xs, v.oneCell' = true)
/-- The block of a named thing. -/
def blockOf (C : Cx) (i : Nat) : Ob → Option Nat
  | .cells _ _ => (C.ρ[i]?).join
  | .cap _ _ _ => (C.cur i).bind fun p => p.2.ownBlock
  | .grw _ _ _ _ _ => (C.cur i).bind fun p => hdBlock p.2
  | .mp _ _ => (C.ρ[i]?).join
  | .mq _ => (C.ρ[i]?).join
  | _ => none
/-- A map's entries. -/
def EsR (C : Cx) (es : List (D × V × Nat)) (l : List MapEntry) : Prop := VRs C (es.map fun e => .d e.1) (l.map (·.key)) ∧ VRs C (es.map fun e => e.2.1) (l.map (·.val)) ∧ l.map (·.born) = es.map fun e => e.2.2
theorem EsR.mono {C C' : Cx} (h : C.le C') {es : List (D × V × Nat)} {l : List MapEntry} (k : EsR C es l) : EsR C' es l := ⟨k.1.mono h, k.2.1.mono h, k.2.2⟩
/-- Some of a map's entries: all those that are ticked in n are there. -/
def MqR (C : Cx) (es : List (D × V)) (n : Nat) (l : List MapEntry) : Prop := ∃ is : List Nat, (∀ i ∈ is, i < es.length) ∧ (∀ i, i < es.length → n.testBit i = true → i ∈ is) ∧ VRs C (is.map fun i => .d (es.getD i (.nilp, .any)).1) (l.map (·.key)) ∧ VRs C (is.map fun i => (es.getD i (.nilp, .any)).2) (l.map (·.val))
theorem MqR.mono {C C' : Cx} (h : C.le C') {es : List (D × V)} {n : Nat} {l : List MapEntry} (k : MqR C es n l) : MqR C' es n l := let ⟨is, h1, h2, h3, h4⟩ := k; ⟨is, h1, h2, h3.mono h, h4.mono h⟩
def Ob.isMq : Ob → Bool
  | .mq _ => true
  | _ => false
def ObR (C : Cx) (w : World) (i : Nat) : Ob → Prop
  | .dead => C.cur i = none
  | .fresh => C.ρ[i]? = some none ∧ C.cur i = none
  | .cells t vs => C.cur i = none ∧ ∃ b cs, C.ρ[i]? = some (some b) ∧ w.heap[b]? = some (.cells cs t (0, 0)) ∧ VRs C vs cs.toList ∧ (∀ v ∈ cs.toList, v.oneCell' = true) ∧ ∀ o, C.G b o = none
  | .cap t q n => C.ρ[i]? ≠ some none ∧ ∃ u cs, C.cur i = some (n, u) ∧ w.ownsRow 0 t q u n cs ∧ ∀ b, u.ownBlock = some b → ∀ o, n * q ≤ o → C.G b o = none
  | .grw t q k n vs => C.ρ[i]? ≠ some none ∧ ∃ u xs, C.cur i = some (k, u) ∧ rowH w t q u n xs ∧ VRs C vs xs ∧ ∀ b, hdBlock u = some b → ∀ o, C.G b o = none
  | .mp es clock => C.cur i = none ∧ ∃ b l, C.ρ[i]? = some (some b) ∧ w.heap[b]? = some (.map l clock) ∧ EsR C es l.toList ∧ ∀ o, C.G b o = none
  | .mq es => ∃ b l c n, C.ρ[i]? = some (some b) ∧ C.cur i = some (n, .map none) ∧ w.heap[b]? = some (.map l c) ∧ MqR C es n l.toList ∧ ∀ o, C.G b o = none
  | .tick m j => C.cur i = none ∧ (∃ b, C.ρ[m]? = some (some b)) ∧ ∃ n, C.cur m = some (n, .map none) ∧ n.testBit j = true
theorem rowH.lt {w : World} {e q n : Nat} {u : Value} {xs : List Value} (h : rowH w e q u n xs) {b : Nat} (hb : hdBlock u = some b) : b < w.heap.size := by
  rcases h.2 with ⟨_, a, rfl⟩ | ⟨g, cap, cur, rfl, h0, h1, _⟩
  · cases a <;> simp [hdBlock] at hb
  · simp only [hdBlock, show cap ≠ 0 by omega, if_false, Option.some.injEq] at hb
    subst hb
    exact (Array.getElem?_eq_some_iff.1 h1).1
theorem rowH.same {w w' : World} {e q n : Nat} {u : Value} {xs : List Value} (h : rowH w e q u n xs) (hb : ∀ b, hdBlock u = some b → w'.heap[b]? = w.heap[b]?) : rowH w' e q u n xs := by
  refine ⟨h.1, ?_⟩
  rcases h.2 with h0 | ⟨g, cap, cur, rfl, h0, h1, h2⟩
  · exact .inl h0
  · exact .inr ⟨g, cap, cur, rfl, h0, (hb g (by simp only [hdBlock, show cap ≠ 0 by omega, if_false])).trans h1, h2⟩
/-- Where a function began. -/
structure Bs where
  w : World
  G : GC
structure Rel (w0 : Bs) (lent : Nat → Prop) (C : Cx) (σ : List Ob) (w : World) : Prop where
  len : C.ρ.length = σ.length
  ro : ∀ b o v, C.G b o = some v → w.cell? ⟨b, o, none⟩ = some v
  obs : ∀ (i : Nat) (o : Ob), σ[i]? = some o → ObR C w i o
  sep : ∀ (i j : Nat) (oi oj : Ob) (b : Nat), σ[i]? = some oi → σ[j]? = some oj → blockOf C i oi = some b → blockOf C j oj = some b → i = j
  new : ∀ (i : Nat) (o : Ob) (b : Nat), σ[i]? = some o → blockOf C i o = some b → w0.w.heap.size ≤ b ∨ lent b
  keep : ∀ b, b < w0.w.heap.size → ¬ lent b → w.heap[b]? = w0.w.heap[b]?
  size : w0.w.heap.size ≤ w.heap.size
  os : w.os = w0.w.os
  tape : w.tape = w0.w.tape
  output : w.output = w0.w.output
  gh : ∀ b o, b < w0.w.heap.size → ¬ lent b → C.G b o = w0.G b o
section
variable {w0 : Bs} {w w' : World} {lent : Nat → Prop} {C C' : Cx} {σ : List Ob} {i : Nat} {o o' : Ob}
theorem ObR.lt (h : ObR C w i o) {b : Nat} (hb : blockOf C i o = some b) : b < w.heap.size := by
  cases o with
  | dead => simp [blockOf] at hb
  | fresh => simp [blockOf] at hb
  | cells t vs =>
    obtain ⟨_, b', cs, h1, h2, _⟩ := h
    simp [blockOf, h1] at hb
    subst hb
    exact (Array.getElem?_eq_some_iff.1 h2).1
  | cap t q n =>
    obtain ⟨_, u, cs, h1, h2, _⟩ := h
    simp [blockOf, h1] at hb
    exact (h2.lt _ hb).2
  | grw t q k n vs =>
    obtain ⟨_, u, xs, h1, h2, _⟩ := h
    simp [blockOf, h1] at hb
    exact h2.lt hb
  | mp es clock =>
    obtain ⟨_, b', l, h1, h2, _⟩ := h
    simp [blockOf, h1] at hb
    subst hb
    exact (Array.getElem?_eq_some_iff.1 h2).1
  | mq es =>
    obtain ⟨b', l, c, n, h1, _, h2, _⟩ := h
    simp [blockOf, h1] at hb
    subst hb
    exact (Array.getElem?_eq_some_iff.1 h2).1
  | tick m j => simp [blockOf] at hb
/-- What is no map under construction has not its mark. -/
theorem ObR.noTag (h : ObR C w i o) (hq : o.isMq = false) {n : Nat} : C.cur i ≠ some (n, .map none) := fun e => by
  cases o with
  | dead => exact absurd (h.symm.trans e) (by simp)
  | fresh => exact absurd (h.2.symm.trans e) (by simp)
  | cells t vs => exact absurd (h.1.symm.trans e) (by simp)
  | cap t q n =>
    obtain ⟨_, u, cs, h1, h2, _⟩ := h
    rw [h1] at e
    injection e with e
    injection e with _ e
    subst e
    rcases h2.2 with ⟨e, _⟩ | ⟨g, cap, cur, e, _⟩ <;> cases e
  | grw t q k n vs =>
    obtain ⟨_, u, xs, h1, h2, _⟩ := h
    rw [h1] at e
    injection e with e
    injection e with _ e
    subst e
    rcases h2.2 with ⟨_, a, e⟩ | ⟨g, cap, cur, e, _⟩ <;> cases e
  | mp es clock => exact absurd (h.1.symm.trans e) (by simp)
  | mq es => cases hq
  | tick m j => exact absurd (h.1.symm.trans e) (by simp)
/-- What a step may change: the thing i alone, and what is new. -/
structure Moves (w : World) (C : Cx) (σ : List Ob) (i : Nat) (o : Ob) (C' : Cx) (o' : Ob) (w' : World) : Prop where
  le : C.le C'
  rlen : C'.ρ.length = C.ρ.length
  rho : ∀ j, j ≠ i → C'.ρ[j]? = C.ρ[j]?
  cur : ∀ j, j ≠ i → C'.cur j = C.cur j
  heap : ∀ b, b < w.heap.size → blockOf C i o ≠ some b → w'.heap[b]? = w.heap[b]?
  ro : ∀ b o v, C'.G b o = some v → w'.cell? ⟨b, o, none⟩ = some v
  ghost : ∀ b, b < w.heap.size → blockOf C i o ≠ some b → ∀ o, C'.G b o = C.G b o
  ob : ObR C' w' i o'
  blk : ∀ b, blockOf C' i o' = some b → blockOf C i o = some b ∨ w.heap.size ≤ b
  size : w.heap.size ≤ w'.heap.size
  os : w'.os = w.os
  tape : w'.tape = w.tape
  output : w'.output = w.output
theorem Rel.step (R : Rel w0 lent C σ w) (hi : σ[i]? = some o) (M : Moves w C σ i o C' o' w') (hq : o.isMq = false := by rfl) : Rel w0 lent C' (σ.set i o') w' := by
  have hil : i < σ.length := (List.getElem?_eq_some_iff.1 hi).1
  have hget : ∀ (j : Nat) (oj : Ob), (σ.set i o')[j]? = some oj → (j = i ∧ oj = o') ∨ (j ≠ i ∧ σ[j]? = some oj) := fun j oj hj => by
    rw [List.getElem?_set] at hj
    split at hj
    · rename_i e
      subst e
      simp only [hil, if_true, Option.some.injEq] at hj
      exact .inl ⟨rfl, hj.symm⟩
    · rename_i e
      exact .inr ⟨fun h => e h.symm, hj⟩
  have hblk : ∀ (j : Nat) (oj : Ob), j ≠ i → blockOf C' j oj = blockOf C j oj := fun j oj hne => by
    cases oj <;> simp [blockOf, M.rho j hne, M.cur j hne]
  have hother : ∀ (j : Nat) (oj : Ob) (b : Nat), j ≠ i → σ[j]? = some oj → blockOf C j oj = some b → b < w.heap.size ∧ blockOf C i o ≠ some b := fun j oj b hne hj hb =>
    ⟨(R.obs j oj hj).lt hb, fun hb' => hne (R.sep j i oj o b hj hi hb hb')⟩
  refine ⟨by rw [M.rlen, R.len]; simp, M.ro, fun j oj hj => ?_, fun j k oj ok b hj hk hb hb' => ?_, fun j oj b hj hb => ?_, fun b hb hl => ?_, Nat.le_trans R.size M.size, M.os.trans R.os, M.tape.trans R.tape, M.output.trans R.output, fun b k hb hl => ?_⟩
  · rcases hget j oj hj with ⟨rfl, rfl⟩ | ⟨hne, hj⟩
    · exact M.ob
    · have h := R.obs j oj hj
      have hb : ∀ b, blockOf C j oj = some b → w'.heap[b]? = w.heap[b]? ∧ ∀ o, C'.G b o = C.G b o := fun b hb =>
        let ⟨h1, h2⟩ := hother j oj b hne hj hb
        ⟨M.heap b h1 h2, M.ghost b h1 h2⟩
      cases oj with
      | dead => exact (M.cur j hne).trans h
      | fresh => exact ⟨(M.rho j hne).trans h.1, (M.cur j hne).trans h.2⟩
      | cells t vs =>
        obtain ⟨h0, b, cs, h1, h2, h3, h4, h5⟩ := h
        obtain ⟨k1, k2⟩ := hb b (by simp [blockOf, h1])
        exact ⟨(M.cur j hne).trans h0, b, cs, (M.rho j hne).trans h1, k1.trans h2, h3.mono M.le, h4, fun o => (k2 o).trans (h5 o)⟩
      | cap t q n =>
        obtain ⟨h0, u, cs, h1, h2, h3⟩ := h
        refine ⟨by rw [M.rho j hne]; exact h0, u, cs, (M.cur j hne).trans h1, ?_, fun b hb' o ho => ?_⟩
        · refine ⟨h2.1, ?_⟩
          rcases h2.2 with e | ⟨g, cap, cur, e, h4, h5, h6⟩
          · exact .inl e
          · exact .inr ⟨g, cap, cur, e, h4, (hb g (by simp [blockOf, h1, e, Value.ownBlock])).1.trans h5, h6⟩
        · exact ((hb b (by simp [blockOf, h1, hb'])).2 o).trans (h3 b hb' o ho)
      | grw t q k n vs =>
        obtain ⟨h0, u, xs, h1, h2, h3, h4⟩ := h
        refine ⟨by rw [M.rho j hne]; exact h0, u, xs, (M.cur j hne).trans h1, h2.same fun b hb' => (hb b (by simp [blockOf, h1, hb'])).1, h3.mono M.le, fun b hb' o => ?_⟩
        exact ((hb b (by simp [blockOf, h1, hb'])).2 o).trans (h4 b hb' o)
      | mp es clock =>
        obtain ⟨h0, b, l, h1, h2, h3, h5⟩ := h
        obtain ⟨k1, k2⟩ := hb b (by simp [blockOf, h1])
        exact ⟨(M.cur j hne).trans h0, b, l, (M.rho j hne).trans h1, k1.trans h2, h3.mono M.le, fun o => (k2 o).trans (h5 o)⟩
      | mq es =>
        obtain ⟨b, l, c, n, h1, h0, h2, h3, h5⟩ := h
        obtain ⟨k1, k2⟩ := hb b (by simp [blockOf, h1])
        exact ⟨b, l, c, n, (M.rho j hne).trans h1, (M.cur j hne).trans h0, k1.trans h2, h3.mono M.le, fun o => (k2 o).trans (h5 o)⟩
      | tick m q =>
        obtain ⟨h0, ⟨b, hb0⟩, n, h1, h2⟩ := h
        have hm : m ≠ i := fun e => by subst e; exact (R.obs m o hi).noTag hq h1
        exact ⟨(M.cur j hne).trans h0, ⟨b, (M.rho m hm).trans hb0⟩, n, (M.cur m hm).trans h1, h2⟩
  · rcases hget j oj hj with ⟨rfl, rfl⟩ | ⟨hnj, hj2⟩ <;> rcases hget k ok hk with ⟨rfl, rfl⟩ | ⟨hnk, hk2⟩
    · rfl
    · rw [hblk k ok hnk] at hb'
      obtain ⟨h1, h2⟩ := hother k ok b hnk hk2 hb'
      rcases M.blk b hb with h | h
      · exact absurd h h2
      · omega
    · rw [hblk j oj hnj] at hb
      obtain ⟨h1, h2⟩ := hother j oj b hnj hj2 hb
      rcases M.blk b hb' with h | h
      · exact absurd h h2
      · omega
    · rw [hblk j oj hnj] at hb
      rw [hblk k ok hnk] at hb'
      exact R.sep j k oj ok b hj2 hk2 hb hb'
  · rcases hget j oj hj with ⟨rfl, rfl⟩ | ⟨hnj, hj2⟩
    · rcases M.blk b hb with h | h
      · exact R.new _ _ b hi h
      · exact .inl (Nat.le_trans R.size h)
    · rw [hblk j oj hnj] at hb
      exact R.new j oj b hj2 hb
  · rw [M.heap b (Nat.lt_of_lt_of_le hb R.size) (fun h => ?_)]
    · exact R.keep b hb hl
    · rcases R.new i o b hi h with h | h
      · omega
      · exact hl h
  · rw [M.ghost b (Nat.lt_of_lt_of_le hb R.size) (fun h => ?_)]
    · exact R.gh b k hb hl
    · rcases R.new i o b hi h with h | h
      · omega
      · exact hl h
/-- A step that leaves all that is named, and all cells. -/
theorem Rel.same (R : Rel w0 lent C σ w) (hh : ∀ b, b < w.heap.size → w'.heap[b]? = w.heap[b]?) (hs : w.heap.size ≤ w'.heap.size) (ho : w'.os = w.os) (ht : w'.tape = w.tape) (hu : w'.output = w.output) : Rel w0 lent C σ w' := by
  have hcell : ∀ b o v, w.cell? ⟨b, o, none⟩ = some v → w'.cell? ⟨b, o, none⟩ = some v := fun b o v h => by
    have hb := World.block_lt_of_cell? w _ h
    rw [World.cell?_of_block (hh b hb)]; exact h
  refine ⟨R.len, fun b o v h => hcell b o v (R.ro b o v h), fun j oj hj => ?_, R.sep, R.new, fun b hb hl => (hh b (Nat.lt_of_lt_of_le hb R.size)).trans (R.keep b hb hl), Nat.le_trans R.size hs, ho.trans R.os, ht.trans R.tape, hu.trans R.output, R.gh⟩
  have h := R.obs j oj hj
  cases oj with
  | dead => exact h
  | fresh => exact h
  | cells t vs =>
    obtain ⟨h0, b, cs, h1, h2, h3⟩ := h
    exact ⟨h0, b, cs, h1, (hh b (Array.getElem?_eq_some_iff.1 h2).1).trans h2, h3⟩
  | cap t q n =>
    obtain ⟨h0, u, cs, h1, h2, h3⟩ := h
    refine ⟨h0, u, cs, h1, ⟨h2.1, ?_⟩, h3⟩
    rcases h2.2 with e | ⟨g, cap, cur, e, h4, h5, h6⟩
    · exact .inl e
    · exact .inr ⟨g, cap, cur, e, h4, (hh g (Array.getElem?_eq_some_iff.1 h5).1).trans h5, h6⟩
  | grw t q k n vs =>
    obtain ⟨h0, u, xs, h1, h2, h3⟩ := h
    exact ⟨h0, u, xs, h1, h2.same fun b hb => hh b (h2.lt hb), h3⟩
  | mp es clock =>
    obtain ⟨h0, b, l, h1, h2, h3⟩ := h
    exact ⟨h0, b, l, h1, (hh b (Array.getElem?_eq_some_iff.1 h2).1).trans h2, h3⟩
  | mq es =>
    obtain ⟨b, l, c, n, h1, h0, h2, h3⟩ := h
    exact ⟨b, l, c, n, h1, h0, (hh b (Array.getElem?_eq_some_iff.1 h2).1).trans h2, h3⟩
  | tick m q => exact h
/-- More cells are known to stay. -/
def Cx.addG (C : Cx) (G : GC) : Cx := { C with G := G }
theorem Cx.addG_le {G : GC} (h : C.G.le G) : C.le (C.addG G) := ⟨h, fun _ _ h => h, Nat.le_refl _, fun c n u _ h _ => ⟨n, u, h, .inl ⟨rfl, rfl⟩⟩, fun _ h _ => h⟩
/-- A name's place. -/
def Cx.put (C : Cx) (i : Nat) (b : Option Nat) (c : Option (Nat × Value)) : Cx := { C with ρ := C.ρ.set i b, cur := fun j => if j = i then c else C.cur j }
end
/-! ### Operations -/
def upd (σ : List Ob) : List (Nat × Ob) → List Ob
  | [] => σ
  | p :: l => upd (σ.set p.1 p.2) l
/-- One operation, as far as it reaches: it reads rd (things by name), yields v, and leaves wr. -/
def LStep (P : Program) (o : Oper) (ev : Operand → V) (rd : List (Nat × Ob)) (v : V) (wr : List (Nat × Ob)) : Prop :=
  ∀ (w0 : Bs) (lent : Nat → Prop) (C : Cx) (σ : List Ob) (w : World) (a : Act), Rel w0 lent C σ w → (∀ x ∈ o.op.operands.toList, VR C (ev x) (a.eval x)) → (∀ p ∈ rd, σ[p.1]? = some p.2) →
    ∀ (K : Act → World → Prop) (Q : Exit → Act → World → Prop), (∀ (C' : Cx) (w' : World) (u : Value), Rel w0 lent C' (upd σ wr) w' → C.le C' → VR C' v u → K (a.put o.dst u) w') → Oper.wp P o a w K Q
section
variable {P : Program} {o : Oper} {ev : Operand → V}
theorem LStep.value {v : V}
    (h : ∀ (w0 : Bs) (lent : Nat → Prop) (C : Cx) (σ : List Ob) (w : World) (a : Act), Rel w0 lent C σ w → (∀ x ∈ o.op.operands.toList, VR C (ev x) (a.eval x)) → ∃ u, (execOp a.eval o).run P w = .ok (.value u) w ∧ VR C v u) : LStep P o ev [] v [] := by
  intro w0 lent C σ w a R hx _ K Q hK
  obtain ⟨u, h1, h2⟩ := h w0 lent C σ w a R hx
  unfold Oper.wp
  rw [h1]
  exact hK C w u R (Cx.le_refl C) h2
end
end Go.Proofs.Ytgebfcdcpmmgnaa.Vs
