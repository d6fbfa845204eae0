/- A region that draws its order: what yields the same in every world that it may find is taken first; the events are met in each order that may be. -/
import Derived.Test.YtgebfcdcpmmgnaaCall
import Derived.OrdersHeld
set_option linter.unusedVariables false
set_option linter.unusedSimpArgs false
namespace Go.Proofs.Ytgebfcdcpmmgnaa.Sl
open Go.RowKit
section
variable {P : Program} {ops : Array Oper} {Q : Exit → Act → World → Prop} {md : Region.Mode}
/-- i must come before j. -/
inductive Anc (md : Region.Mode) (ops : Array Oper) (i : Nat) : Nat → Prop
  | base {j : Nat} {o : Oper} {e} (ho : ops[j]? = some o) (he : e ∈ o.after) (hb : Region.binds md e = true) (h : e.on = i) : Anc md ops i j
  | step {j : Nat} {o : Oper} {e} (ho : ops[j]? = some o) (he : e ∈ o.after) (hb : Region.binds md e = true) (h : Anc md ops i e.on) : Anc md ops i j
def ancB (md : Region.Mode) (ops : Array Oper) (i : Nat) : Nat → Nat → Bool
  | 0, _ => false
  | f + 1, j => match ops.toList[j]? with
    | none => false
    | some o => o.after.toList.any fun e => Region.binds md e && (e.on == i || ancB md ops i f e.on)
theorem ancB_sound {i : Nat} : ∀ {f j : Nat}, ancB md ops i f j = true → Anc md ops i j
  | 0, _, h => by simp [ancB] at h
  | f + 1, j, h => by
    unfold ancB at h
    split at h
    · cases h
    · rename_i o ho
      obtain ⟨e, he, hb⟩ := List.any_eq_true.1 h
      rw [Array.mem_toList_iff] at he
      rw [Array.getElem?_toList] at ho
      simp only [Bool.and_eq_true, Bool.or_eq_true, beq_iff_eq] at hb
      rcases hb with ⟨hb, h | h⟩
      · exact .base ho he hb h
      · exact .step ho he hb (ancB_sound h)
def Down (md : Region.Mode) (ops : Array Oper) (L : Array Bool) : Prop :=
  ∀ j o e, ops[j]? = some o → L.getD j false = true → e ∈ o.after → Region.binds md e = true → L.getD e.on false = true
theorem Down.anc {L : Array Bool} (hd : Down md ops L) {i j : Nat} (h : Anc md ops i j) : L.getD j false = true → L.getD i false = true := by
  induction h with
  | base ho he hb h => intro hj; subst h; exact hd _ _ _ ho hj he hb
  | step ho he hb _ ih => intro hj; exact ih (hd _ _ _ ho hj he hb)
theorem Down.ready {L : Array Bool} (hd : Down md ops L) {i j : Nat} (h : Anc md ops i j) (hr : j ∈ Region.ready md ops L) : L.getD i false = true := by
  obtain ⟨_, o, ho, hall⟩ := mem_ready.1 hr
  cases h with
  | base ho' he hb h => rw [ho] at ho'; injection ho' with ho'; subst ho'; subst h; exact hall _ he hb
  | step ho' he hb h => rw [ho] at ho'; injection ho' with ho'; subst ho'; exact hd.anc h (hall _ he hb)
theorem getD_set_same {L : Array Bool} {i j : Nat} (h : (L.setIfInBounds i true).getD j false = true) : i = j ∨ L.getD j false = true := by
  by_cases hij : i = j
  · exact .inl hij
  · rw [getD_set_ne false hij] at h; exact .inr h
theorem Down.set {L : Array Bool} (hd : Down md ops L) {i : Nat} (hr : i ∈ Region.ready md ops L) : Down md ops (L.setIfInBounds i true) := by
  intro j o e ho hj he hb
  rcases getD_set_same hj with rfl | hj
  · obtain ⟨_, o', ho', hall⟩ := mem_ready.1 hr
    rw [ho] at ho'; injection ho' with ho'; subst ho'
    exact getD_set_true (hall e he hb)
  · exact getD_set_true (hd j o e ho hj he hb)
theorem ready_false {L : Array Bool} {i : Nat} (hr : i ∈ Region.ready md ops L) : L.getD i false = false := by
  have h := (mem_ready.1 hr).1
  rcases Nat.lt_or_ge i L.size with h' | h'
  · simpa [h'] using h
  · simp [Array.getElem?_eq_none h']
/-- What holds of every world till one of 'kills' is carried out. -/
structure Ent where
  kills : List Nat
  fact : World → Prop
def Ob : List Ent → List Nat → World → Prop
  | [], _, _ => True
  | p :: T, E, w => ((p.kills.any fun k => E.contains k) = true ∨ p.fact w) ∧ Ob T E w
theorem Ob.get : ∀ {T : List Ent} {E : List Nat} {w : World}, Ob T E w → ∀ {p}, p ∈ T → (∀ k ∈ E, k ∉ p.kills) → p.fact w
  | q :: T, E, w, h, p, hp, hk => by
    rcases List.mem_cons.1 hp with rfl | hp
    · rcases h.1 with h1 | h1
      · obtain ⟨k, hk1, hk2⟩ := List.any_eq_true.1 h1
        exact absurd hk1 (hk k (by simpa using hk2))
      · exact h1
    · exact Ob.get h.2 hp hk
theorem Ob.mono : ∀ {T : List Ent} {E E' : List Nat} {w : World}, Ob T E w → (∀ k ∈ E, k ∈ E') → Ob T E' w
  | [], _, _, _, _, _ => trivial
  | p :: T, E, E', w, h, k => by
    refine ⟨h.1.imp (fun h1 => ?_) id, Ob.mono h.2 k⟩
    obtain ⟨x, hx, hx2⟩ := List.any_eq_true.1 h1
    exact List.any_eq_true.2 ⟨x, hx, by simpa using k x (by simpa using hx2)⟩
def Wr (P : Program) (md : Region.Mode) (ops : Array Oper) (Q : Exit → Act → World → Prop) : Nat → Array Bool → List Nat → List Ent → Act → World → Prop
  | 0, L, _, _, a, w => Region.ready md ops L = [] ∧ Q .normal a w
  | n + 1, L, E, T, a, w => (Region.ready md ops L = [] → Q .normal a w) ∧
    ∀ i ∈ Region.ready md ops L, wpOp P ops Q i (fun a' w' => ∃ T', (∀ p ∈ T, p ∈ T') ∧ Ob T' (i :: E) w' ∧ Wr P md ops Q n (L.setIfInBounds i true) (i :: E) T' a' w') a w
theorem Wr.any : ∀ {n : Nat} {L : Array Bool} {E : List Nat} {T : List Ent} {a : Act} {w : World}, Wr P md ops Q n L E T a w → wpAny P md ops Q n L a w
  | 0, _, _, _, _, _, h => h
  | n + 1, _, _, _, _, _, h => ⟨h.1, fun i hi => wpOp_mono (fun a' w' ⟨T', _, _, h'⟩ => Wr.any h') (h.2 i hi)⟩
theorem Wr.mono : ∀ {n : Nat} {L : Array Bool} {E E' : List Nat} {T T0 : List Ent} {a : Act} {w : World}, Wr P md ops Q n L E T a w → (∀ k ∈ E, k ∈ E') → (∀ p ∈ T0, p ∈ T) → Wr P md ops Q n L E' T0 a w
  | 0, _, _, _, _, _, _, _, h, _, _ => h
  | n + 1, _, _, _, _, _, _, _, h, k, q => ⟨h.1, fun i hi => wpOp_mono (fun a' w' ⟨T', h1, h2, h3⟩ => ⟨T', fun p hp => h1 p (q p hp), h2.mono (fun x hx => (List.mem_cons.1 hx).elim (fun e => e ▸ List.mem_cons_self) (fun e => List.mem_cons_of_mem _ (k x e))), h3.mono (fun x hx => (List.mem_cons.1 hx).elim (fun e => e ▸ List.mem_cons_self) (fun e => List.mem_cons_of_mem _ (k x e))) (fun _ h => h)⟩) (h.2 i hi)⟩
theorem wr_first {i : Nat} {oi : Oper} {v : Value} {F : World → Prop} (hi : ops[i]? = some oi) (hsel : ∀ (j : Nat) (o : Oper) cs b, ops[j]? = some o → o.op ≠ .select cs b)
    (hQ : ∀ c a w, Q (.panic c) (a.put oi.dst v) w → Q (.panic c) a w) :
    ∀ (n : Nat) (L : Array Bool) (E : List Nat) (T : List Ent) (a : Act) (w : World), Down md ops L → (∀ k ∈ E, L.getD k false = true) →
      (∀ T' E' w', (∀ p ∈ T, p ∈ T') → Ob T' E' w' → (∀ k ∈ E', ¬ Anc md ops i k) → F w') →
      (∀ j oj, ops[j]? = some oj → j ≠ i → L.getD j true = false → (∀ e ∈ oj.after, Region.binds md e = true → e.on ≠ i) → oi.apart ops oj = true) →
      i ∈ Region.ready md ops L → YieldsIf P ops F oi v a → Ob T E w →
      Wr P md ops Q n (L.setIfInBounds i true) E T (a.put oi.dst v) w → Wr P md ops Q (n + 1) L E T a w := by
  intro n
  have start : ∀ {n : Nat} {L : Array Bool} {E : List Nat} {T : List Ent} {a : Act} {w : World}, Down md ops L → (∀ k ∈ E, L.getD k false = true) →
      (∀ T' E' w', (∀ p ∈ T, p ∈ T') → Ob T' E' w' → (∀ k ∈ E', ¬ Anc md ops i k) → F w') → i ∈ Region.ready md ops L → YieldsIf P ops F oi v a → Ob T E w →
      Wr P md ops Q n (L.setIfInBounds i true) E T (a.put oi.dst v) w → wpOp P ops Q i (fun a' w' => ∃ T', (∀ p ∈ T, p ∈ T') ∧ Ob T' (i :: E) w' ∧ Wr P md ops Q n (L.setIfInBounds i true) (i :: E) T' a' w') a w := by
    intro n L E T a w hd hE hF hr hy ho H
    have hlist : ∀ k ∈ E, ¬ Anc md ops i k := fun k hk hA => by
      have h1 := hd.anc hA (hE k hk)
      rw [ready_false hr] at h1
      cases h1
    exact hy.wpOp hi (hF T E w (fun _ h => h) ho hlist) ⟨T, fun _ h => h, ho.mono (fun _ h => List.mem_cons_of_mem _ h), H.mono (fun _ h => List.mem_cons_of_mem _ h) (fun _ h => h)⟩
  induction n with
  | zero =>
    intro L E T a w hd hE hF hfree hr hy ho H
    refine ⟨fun h => (by rw [h] at hr; cases hr), fun j hj => ?_⟩
    by_cases hji : j = i
    · subst hji; exact start hd hE hF hr hy ho H
    · have := ready_mono hj hji
      rw [H.1] at this
      cases this
  | succ n ih =>
    intro L E T a w hd hE hF hfree hr hy ho H
    refine ⟨fun h => (by rw [h] at hr; cases hr), fun j hj => ?_⟩
    by_cases hji : j = i
    · subst hji; exact start hd hE hF hr hy ho H
    · have h1 := H.2 j (ready_mono hj hji)
      obtain ⟨hjun, oj, hoj, hall⟩ := mem_ready.1 hj
      have hnot : ∀ e ∈ oj.after, Region.binds md e = true → e.on ≠ i := fun e he hb heq => by
        have h1 := hall e he hb
        rw [heq, ready_false hr] at h1
        cases h1
      have h2 := wpOp_putIf hoj (hfree j oj hoj hji hjun hnot) (fun cs b => hsel i oi cs b hi) (fun cs b => hsel j oj cs b hoj) hQ hy h1
      have hfree' : ∀ k ok, ops[k]? = some ok → k ≠ i → (L.setIfInBounds j true).getD k true = false →
          (∀ e ∈ ok.after, Region.binds md e = true → e.on ≠ i) → oi.apart ops ok = true := fun k ok hk hki hun hno => by
        refine hfree k ok hk hki ?_ hno
        by_cases hjk : j = k
        · subst hjk; exact hjun
        · rw [getD_set_ne true hjk] at hun; exact hun
      have hlt : j < L.size := by
        rcases Nat.lt_or_ge j L.size with h' | h'
        · exact h'
        · simp [Array.getElem?_eq_none h'] at hjun
      refine wpOp_mono (fun a' w' h3 => ?_) h2
      obtain ⟨hy', T', hs, ho', hW⟩ := h3
      refine ⟨T', hs, ho', ih (L.setIfInBounds j true) (j :: E) T' a' w' (hd.set hj) (fun k hk => ?_) (fun T2 E2 w2 hs2 => hF T2 E2 w2 (fun p hp => hs2 p (hs p hp))) hfree' (ready_mono hr (Ne.symm hji)) hy' ho' ?_⟩
      · rcases List.mem_cons.1 hk with rfl | hk
        · simp [hlt]
        · exact getD_set_true (hE k hk)
      · rw [Array.setIfInBounds_comm _ _ hji]
        exact hW
/-- Operation i, written out. -/
def opAt : List Oper → Nat → Option Oper
  | [], _ => none
  | o :: _, 0 => some o
  | _ :: l, i + 1 => opAt l i
theorem opAt_list : ∀ {l : List Oper} {i : Nat}, opAt l i = l[i]?
  | [], i => by simp [opAt]
  | o :: l, 0 => by simp [opAt]
  | o :: l, i + 1 => by simp [opAt, opAt_list]
theorem opAt_spec {i : Nat} {o : Oper} (h : opAt ops.toList i = some o) : ops[i]? = some o := by
  rw [opAt_list] at h
  simpa using h
/-- The walk's own form: its side conditions are carried inside. -/
structure Vr (P : Program) (md : Region.Mode) (ops : Array Oper) (Q : Exit → Act → World → Prop) (n : Nat) (L : Array Bool) (E : List Nat) (T : List Ent) (a : Act) (w : World) : Prop where
  out : Down md ops L → (∀ k ∈ E, L.getD k false = true) → Ob T E w → Wr P md ops Q n L E T a w
variable {n i : Nat} {L : Array Bool} {E : List Nat} {T : List Ent} {a : Act} {w : World} {oi : Oper} {v : Value}
theorem vr_pure (hi : opAt ops.toList i = some oi) (hs : Region.noSelect ops = true) (hf : Region.free md ops L i = true) (hr : (Region.ready md ops L).contains i = true)
    (hQ : ∀ c a w, Q (.panic c) (a.put oi.dst v) w → Q (.panic c) a w) (hy : Yields P ops oi v a)
    (h : Vr P md ops Q n (L.setIfInBounds i true) E T (a.put oi.dst v) w) : Vr P md ops Q (n + 1) L E T a w := by
  refine ⟨fun hd hE ho => ?_⟩
  have hr : i ∈ Region.ready md ops L := by simpa using hr
  exact wr_first (F := fun _ => True) (opAt_spec hi) (Region.noSelect_spec hs) hQ n L E T a w hd hE (fun _ _ _ _ _ _ => trivial) (Region.free_spec (opAt_spec hi) hf) hr (hy.imp (fun x => ⟨x.1, fun w _ => x.2 w⟩) id) ho (h.out (hd.set hr) (fun k hk => getD_set_true (hE k hk)) ho)
theorem vr_take {m : Nat} {p : Ent} (hi : opAt ops.toList i = some oi) (hs : Region.noSelect ops = true) (hf : Region.free md ops L i = true) (hr : (Region.ready md ops L).contains i = true)
    (hp : T[m]? = some p) (hk : (p.kills.all fun k => ancB md ops i ops.size k) = true)
    (hQ : ∀ c a w, Q (.panic c) (a.put oi.dst v) w → Q (.panic c) a w) (hw : Region.wanted oi (yielded ops a.tmps) = true) (hy : ∀ w, p.fact w → (execOp a.eval oi).run P w = .ok (.value v) w)
    (h : Vr P md ops Q n (L.setIfInBounds i true) E T (a.put oi.dst v) w) : Vr P md ops Q (n + 1) L E T a w := by
  refine ⟨fun hd hE ho => ?_⟩
  have hr : i ∈ Region.ready md ops L := by simpa using hr
  refine wr_first (F := p.fact) (opAt_spec hi) (Region.noSelect_spec hs) hQ n L E T a w hd hE (fun T' E' w' hT hO hA => ?_) (Region.free_spec (opAt_spec hi) hf) hr (.inl ⟨hw, hy⟩) ho (h.out (hd.set hr) (fun k hk => getD_set_true (hE k hk)) ho)
  exact hO.get (hT p (List.mem_of_getElem? hp)) (fun k hk1 hk2 => hA k hk1 (ancB_sound (List.all_eq_true.1 hk k hk2)))
theorem vr_load (Tb : Tabs P) {m : Nat} {kills : List Nat} {t : TypeId} {x : Operand} {ad : Addr} (hi : opAt ops.toList i = some oi) (hs : Region.noSelect ops = true) (hf : Region.free md ops L i = true) (hr : (Region.ready md ops L).contains i = true) (hp : T[m]? = some ⟨kills, fun w => w.cell? ad = some v⟩) (hk : (kills.all fun k => ancB md ops i ops.size k) = true) (hQ : ∀ c a w, Q (.panic c) (a.put oi.dst v) w → Q (.panic c) a w) (hw : Region.wanted oi (yielded ops a.tmps) = true) (ho : oi.op = .load t x) (hT : Tb.cells.contains t = true) (hx : a.eval x = .pointer (some ad))
    (h : Vr P md ops Q n (L.setIfInBounds i true) E T (a.put oi.dst v) w) : Vr P md ops Q (n + 1) L E T a w :=
  vr_take hi hs hf hr hp hk hQ hw (fun w hw => yield_load Tb ho hT hx hw) h
theorem vr_agg (Tb : Tabs P) {m : Nat} {kills : List Nat} {t : TypeId} {x : Operand} {ad : Addr} {vs : List Value} (hi : opAt ops.toList i = some oi) (hs : Region.noSelect ops = true) (hf : Region.free md ops L i = true) (hr : (Region.ready md ops L).contains i = true) (hp : T[m]? = some ⟨kills, fun w => AggAt w ad vs⟩) (hk : (kills.all fun k => ancB md ops i ops.size k) = true) (hQ : ∀ c a w, Q (.panic c) (a.put oi.dst (.agg vs.toArray)) w → Q (.panic c) a w) (hw : Region.wanted oi (yielded ops a.tmps) = true) (ho : oi.op = .load t x) {c : Nat} (hT : Tb.aggs.lookup t = some c) (hx : a.eval x = .pointer (some ad)) (hn : vs.length = c)
    (h : Vr P md ops Q n (L.setIfInBounds i true) E T (a.put oi.dst (.agg vs.toArray)) w) : Vr P md ops Q (n + 1) L E T a w :=
  vr_take hi hs hf hr hp hk hQ hw (fun w hw => yield_agg Tb ho hT hx hw hn) h
theorem vr_str (Tb : Tabs P) {m : Nat} {kills : List Nat} {t u : TypeId} {x : Operand} {xs : List UInt8} (hi : opAt ops.toList i = some oi) (hs : Region.noSelect ops = true) (hf : Region.free md ops L i = true) (hr : (Region.ready md ops L).contains i = true) (hp : T[m]? = some ⟨kills, fun w => Rd Rep.byte.slice w xs [v]⟩) (hk : (kills.all fun k => ancB md ops i ops.size k) = true) (hQ : ∀ c a w, Q (.panic c) (a.put oi.dst (.string ⟨xs.toArray⟩)) w → Q (.panic c) a w) (hw : Region.wanted oi (yielded ops a.tmps) = true) (ho : oi.op = .convert t u x) (hT : Tb.bytes.contains t = true) (hU : Tb.strs.contains u = true) (hx : a.eval x = v)
    (h : Vr P md ops Q n (L.setIfInBounds i true) E T (a.put oi.dst (.string ⟨xs.toArray⟩)) w) : Vr P md ops Q (n + 1) L E T a w :=
  vr_take hi hs hf hr hp hk hQ hw (fun w hw => yield_str Tb ho hT hU hx hw) h
theorem vr_done (hr : Region.ready md ops L = []) (h : Q .normal a w) : Vr P md ops Q n L E T a w := by
  refine ⟨fun _ _ _ => ?_⟩
  cases n with
  | zero => exact ⟨hr, h⟩
  | succ n => exact ⟨fun _ => h, by rw [hr]; simp⟩
theorem vr_ent {kills : List Nat} {F : World → Prop} (hF : (kills.any fun k => E.contains k) = true ∨ F w) (h : Vr P md ops Q n L E (⟨kills, F⟩ :: T) a w) : Vr P md ops Q n L E T a w :=
  ⟨fun hd hE ho => (h.out hd hE ⟨hF, ho⟩).mono (fun _ h => h) (fun _ h => List.mem_cons_of_mem _ h)⟩
def AllUpto (p : Nat → Prop) : Nat → Prop
  | 0 => True
  | n + 1 => AllUpto p n ∧ p n
theorem AllUpto.get {p : Nat → Prop} : ∀ {n i : Nat}, AllUpto p n → i < n → p i
  | n + 1, i, h, hi => by
    rcases Nat.lt_or_ge i n with h' | h'
    · exact h.1.get h'
    · obtain rfl : i = n := by omega
      exact h.2
theorem vr_branch (h : AllUpto (fun i => (Region.ready md ops L).contains i = false ∨ ∃ o, opAt ops.toList i = some o ∧ Seq P ops Q o a w (fun a' w' => Ob T (i :: E) w' ∧ Vr P md ops Q n (L.setIfInBounds i true) (i :: E) T a' w')) ops.size)
    (hne : (Region.ready md ops L).isEmpty = false) : Vr P md ops Q (n + 1) L E T a w := by
  refine ⟨fun hd hE ho => ?_⟩
  refine ⟨fun h0 => (by rw [h0] at hne; cases hne), fun i hi => ?_⟩
  obtain ⟨hun, oi, hoi, hall⟩ := mem_ready.1 hi
  have hlt : i < ops.size := (Array.getElem?_eq_some_iff.1 hoi).1
  rcases h.get hlt with h1 | ⟨o, ho1, h1⟩
  rotate_left
  have ho1 := opAt_spec ho1
  rotate_left
  · have : (Region.ready md ops L).contains i = true := by simpa using hi
    rw [h1] at this
    cases this
  · rw [ho1] at hoi; injection hoi with hoi; subst hoi
    have hlL : i < L.size := by
      rcases Nat.lt_or_ge i L.size with h' | h'
      · exact h'
      · simp [Array.getElem?_eq_none h'] at hun
    refine wpOp_step ho1 (fun K' hK => h1 K' (fun a' w' ⟨h2, h3⟩ => hK a' w' ⟨T, fun _ h => h, h2, h3.out (hd.set hi) (fun k hk => ?_) h2⟩))
    rcases List.mem_cons.1 hk with rfl | hk
    · simp [hlL]
    · exact getD_set_true (hE k hk)
theorem sq_in {o : Oper} {K : Act → World → Prop} (h : ∀ K' : Act → World → Prop, Hd (∀ a w, K a w → K' a w) → if Region.wanted o (yielded ops a.tmps) = true then Oper.wp P o a w K' Q else K' (a.put o.dst undef) w) : Seq P ops Q o a w K :=
  fun K' hK => h K' ⟨hK⟩
theorem vr_start {id : Nat} (hm : P.follows .mixedOrders = true) (h : Vr P .any ops Q ops.size (Array.replicate ops.size false) [] [] a w.drew) : (Code.region id ops true).wp P Q a w := by
  refine wp_region_any hm (Wr.any (h.out (fun j o e _ hj => ?_) (fun k hk => by cases hk) trivial))
  simp [Array.getElem?_replicate] at hj
  split at hj <;> simp_all
end
end Go.Proofs.Ytgebfcdcpmmgnaa.Sl
