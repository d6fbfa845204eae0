/- Calls that lend named things, and bring new ones. -/
import Derived.Test.YtgebfcdcpmmgnaaVsN
set_option linter.unusedVariables false
set_option linter.unusedSimpArgs false
namespace Go.Proofs.Ytgebfcdcpmmgnaa.Vs
open Go.RowKit
mutual
/-- The callee's names, as the caller's. -/
def V.ren (π : List Nat) : V → V
  | .own q xs c => .own q xs (π.getD c 0)
  | .ptr i off => .ptr (π.getD i 0) off
  | .row i off len cap => .row (π.getD i 0) off len cap
  | .map i => .map (π.getD i 0)
  | .hd i k n => .hd (π.getD i 0) k n
  | .ep i k off => .ep (π.getD i 0) k off
  | .z0 => .z0
  | .nn b q xs => .nn b q xs
  | .fn f fs caps => .fn f (V.renL π fs) (V.renL π caps)
  | .iface t v => .iface t (V.ren π v)
  | .agg vs => .agg (V.renL π vs)
  | .tup vs => .tup (V.renL π vs)
  | .any => .any
  | .d x => .d x
  | .nil => .nil
  | .el q x off => .el q x off
def V.renL (π : List Nat) : List V → List V
  | [] => []
  | v :: vs => V.ren π v :: V.renL π vs
end
def Ob.ren (π : List Nat) : Ob → Ob
  | .cells t vs => .cells t (V.renL π vs)
  | .cap t q n => .cap t q n
  | .grw t q k n vs => .grw t q k n (V.renL π vs)
  | .mp es c => .mp (es.map fun e => (e.1, V.ren π e.2.1, e.2.2)) c
  | .mq es => .mq es
  | .tick m j => .tick m j
  | .dead => .dead
  | .fresh => .fresh
/-- The first m names of B are those of A, renamed. -/
structure Emb (m : Nat) (π : List Nat) (A B : Cx) : Prop where
  G : B.G = A.G
  ρ : ∀ i, i < m → B.ρ[i]? = A.ρ[π.getD i 0]?
  cur : ∀ i, i < m → B.cur i = A.cur (π.getD i 0)
mutual
theorem VR.emb {m : Nat} {π : List Nat} {A B : Cx} (h : Emb m π A B) : ∀ {x : V} {v : Value}, x.lt m = true → (VR A (x.ren π) v ↔ VR B x v)
  | .any, _, _ => by unfold V.ren VR; exact Iff.rfl
  | .d x, v, _ => by unfold V.ren VR; rw [h.G]
  | .nil, v, _ => by unfold V.ren VR; exact Iff.rfl
  | .own q xs c, v, hl => by
    simp only [V.lt, decide_eq_true_eq] at hl
    have he := h.ρ c hl
    unfold V.ren VR
    rw [h.G, ← he, ← h.cur c hl]
    have hlt : ∀ (C : Cx) (i : Nat), i < C.ρ.length ↔ ∃ y, C.ρ[i]? = some y := fun C i => ⟨fun h => ⟨_, List.getElem?_eq_getElem h⟩, fun ⟨y, h⟩ => (List.getElem?_eq_some_iff.1 h).1⟩
    rw [hlt A, hlt B, he]
  | .ptr i off, v, hl => by simp only [V.lt, decide_eq_true_eq] at hl; unfold V.ren VR; rw [h.ρ i hl]
  | .row i off len cap, v, hl => by simp only [V.lt, decide_eq_true_eq] at hl; unfold V.ren VR; rw [h.ρ i hl]
  | .map i, v, hl => by simp only [V.lt, decide_eq_true_eq] at hl; unfold V.ren VR; rw [h.ρ i hl]
  | .hd i k n, v, hl => by
    simp only [V.lt, decide_eq_true_eq] at hl
    have he := h.ρ i hl
    unfold V.ren VR
    rw [← he, ← h.cur i hl]
    have hlt : ∀ (C : Cx) (i : Nat), i < C.ρ.length ↔ ∃ y, C.ρ[i]? = some y := fun C i => ⟨fun h => ⟨_, List.getElem?_eq_getElem h⟩, fun ⟨y, h⟩ => (List.getElem?_eq_some_iff.1 h).1⟩
    rw [hlt A, hlt B, he]
  | .ep i k off, v, hl => by
    simp only [V.lt, decide_eq_true_eq] at hl
    have he := h.ρ i hl
    unfold V.ren VR
    rw [← he, ← h.cur i hl]
    have hlt : ∀ (C : Cx) (i : Nat), i < C.ρ.length ↔ ∃ y, C.ρ[i]? = some y := fun C i => ⟨fun h => ⟨_, List.getElem?_eq_getElem h⟩, fun ⟨y, h⟩ => (List.getElem?_eq_some_iff.1 h).1⟩
    rw [hlt A, hlt B, he]
  | .z0, v, hl => by unfold V.ren VR; exact Iff.rfl
  | .nn b q xs, v, hl => by unfold V.ren VR; rw [h.G]
  | .el q x off, v, _ => by unfold V.ren VR; rw [h.G]
  | .fn f fs caps, v, hl => by
    simp only [V.lt, Bool.and_eq_true] at hl
    unfold V.ren VR
    exact ⟨fun ⟨us, vs, h1, h0, h2⟩ => ⟨us, vs, h1, (VRs.emb h hl.1).1 h0, (VRs.emb h hl.2).1 h2⟩, fun ⟨us, vs, h1, h0, h2⟩ => ⟨us, vs, h1, (VRs.emb h hl.1).2 h0, (VRs.emb h hl.2).2 h2⟩⟩
  | .iface t x, v, hl => by
    simp only [V.lt] at hl
    unfold V.ren VR
    exact ⟨fun ⟨u, h1, h2⟩ => ⟨u, h1, (VR.emb h hl).1 h2⟩, fun ⟨u, h1, h2⟩ => ⟨u, h1, (VR.emb h hl).2 h2⟩⟩
  | .agg xs, v, hl => by
    simp only [V.lt] at hl
    unfold V.ren VR
    exact ⟨fun ⟨u, h1, h2⟩ => ⟨u, h1, (VRs.emb h hl).1 h2⟩, fun ⟨u, h1, h2⟩ => ⟨u, h1, (VRs.emb h hl).2 h2⟩⟩
  | .tup xs, v, hl => by
    simp only [V.lt] at hl
    unfold V.ren VR
    exact ⟨fun ⟨u, h1, h2⟩ => ⟨u, h1, (VRs.emb h hl).1 h2⟩, fun ⟨u, h1, h2⟩ => ⟨u, h1, (VRs.emb h hl).2 h2⟩⟩
theorem VRs.emb {m : Nat} {π : List Nat} {A B : Cx} (h : Emb m π A B) : ∀ {xs : List V} {vs : List Value}, V.ltL m xs = true → (VRs A (V.renL π xs) vs ↔ VRs B xs vs)
  | [], vs, _ => by unfold V.renL VRs; exact Iff.rfl
  | x :: xs, vs, hl => by
    simp only [V.ltL, Bool.and_eq_true] at hl
    unfold V.renL VRs
    exact ⟨fun ⟨v, r, e, h1, h2⟩ => ⟨v, r, e, (VR.emb h hl.1).1 h1, (VRs.emb h hl.2).1 h2⟩, fun ⟨v, r, e, h1, h2⟩ => ⟨v, r, e, (VR.emb h hl.1).2 h1, (VRs.emb h hl.2).2 h2⟩⟩
end
theorem blockOf.emb {m : Nat} {π : List Nat} {A B : Cx} (h : Emb m π A B) {i : Nat} {o : Ob} (hi : i < m) : blockOf A (π.getD i 0) (o.ren π) = blockOf B i o := by
  cases o <;> simp only [Ob.ren, blockOf, h.ρ i hi, h.cur i hi]
theorem ObR.emb {m : Nat} {π : List Nat} {A B : Cx} (h : Emb m π A B) {i : Nat} {o : Ob} {w : World} (hi : i < m) (hl : o.lt m = true) : ObR A w (π.getD i 0) (o.ren π) ↔ ObR B w i o := by
  cases o with
  | dead => simp only [Ob.ren, ObR, h.cur i hi]
  | fresh => simp only [Ob.ren, ObR, h.cur i hi, h.ρ i hi]
  | cells t vs =>
    simp only [Ob.lt] at hl
    simp only [Ob.ren, ObR, h.cur i hi, h.ρ i hi, h.G]
    refine and_congr Iff.rfl (exists_congr fun b => exists_congr fun cs => and_congr Iff.rfl (and_congr Iff.rfl (and_congr (VRs.emb h hl) Iff.rfl)))
  | cap t q n => simp only [Ob.ren, ObR, h.cur i hi, h.ρ i hi, h.G]
  | grw t q k n vs =>
    simp only [Ob.lt] at hl
    simp only [Ob.ren, ObR, h.cur i hi, h.ρ i hi, h.G]
    refine and_congr Iff.rfl (exists_congr fun u => exists_congr fun xs => and_congr Iff.rfl (and_congr Iff.rfl (and_congr (VRs.emb h hl) Iff.rfl)))
  | mp es clock =>
    simp only [Ob.lt] at hl
    simp only [Ob.ren, ObR, h.cur i hi, h.ρ i hi, h.G]
    have e1 : (es.map fun e => (e.1, V.ren π e.2.1, e.2.2)).map (fun e => V.d e.1) = V.renL π (es.map fun e => .d e.1) := by
      clear hl
      induction es with
      | nil => unfold V.renL; rfl
      | cons e es ih => simp only [List.map_cons]; unfold V.renL; rw [ih]; unfold V.ren; rfl
    have e2 : (es.map fun e => (e.1, V.ren π e.2.1, e.2.2)).map (fun e => e.2.1) = V.renL π (es.map fun e => e.2.1) := by
      clear hl e1
      induction es with
      | nil => unfold V.renL; rfl
      | cons e es ih => simp only [List.map_cons]; unfold V.renL; rw [ih]
    have e3 : (es.map fun e => (e.1, V.ren π e.2.1, e.2.2)).map (fun e => e.2.2) = es.map fun e => e.2.2 := by rw [List.map_map]; rfl
    have hl1 : V.ltL m (es.map fun e => V.d e.1) = true := by
      clear hl e1 e2 e3
      induction es with
      | nil => rfl
      | cons e es ih => simp [V.ltL, V.lt, ih]
    refine and_congr Iff.rfl (exists_congr fun b => exists_congr fun l => and_congr Iff.rfl (and_congr Iff.rfl (and_congr ?_ Iff.rfl)))
    unfold EsR
    rw [e1, e2, e3]
    exact and_congr (VRs.emb h hl1) (and_congr (VRs.emb h hl) Iff.rfl)
  | mq es => cases hl
  | tick m q => cases hl
theorem upd_out : ∀ {wr : List (Nat × Ob)} {σ : List Ob} {j : Nat}, j ∉ wr.map (·.1) → (upd σ wr)[j]? = σ[j]?
  | [], _, _, _ => rfl
  | p :: l, σ, j, h => by
    simp only [List.map_cons, List.mem_cons, not_or] at h
    unfold upd
    rw [upd_out h.2, List.getElem?_set_ne (fun e => h.1 e.symm)]
theorem upd_in : ∀ {wr : List (Nat × Ob)} {σ : List Ob} {i j : Nat} {o : Ob}, (wr.map (·.1)).Nodup → wr[i]? = some (j, o) → j < σ.length → (upd σ wr)[j]? = some o
  | [], _, _, _, _, _, h, _ => by simp at h
  | p :: l, σ, 0, j, o, hn, h, hj => by
    simp only [List.getElem?_cons_zero, Option.some.injEq] at h
    subst h
    simp only [List.map_cons, List.nodup_cons] at hn
    unfold upd
    rw [upd_out hn.1, List.getElem?_set_self hj]
  | p :: l, σ, i + 1, j, o, hn, h, hj => by
    simp only [List.map_cons, List.nodup_cons] at hn
    unfold upd
    exact upd_in hn.2 (by simpa using h) (by simpa using hj)
section
variable {P : Program}
theorem CStep.lend {g : FuncId} {vs args : List V} {σg σg' : List Ob} {r : V} {ϖ : List Nat} {e : Nat} (h : Fn P g args σg r σg') (hw : WkL vs (V.renL ϖ args)) (he : ϖ.length = σg.length + e) (hl' : σg'.length = ϖ.length) (hn : ϖ.Nodup)
    (ha : V.ltL σg.length args = true) (ho : σg.all (Ob.lt σg.length) = true) (hr : r.lt ϖ.length = true) (ho' : σg'.all (Ob.lt ϖ.length) = true) :
    CStep P g vs (ϖ.zip ((σg ++ List.replicate e Ob.fresh).map (Ob.ren ϖ))) (r.ren ϖ) (ϖ.zip (σg'.map (Ob.ren ϖ))) := by
  refine ⟨h.ok, fun w0 lent C σ w vals R hvs hrd => ?_⟩
  have hget : ∀ i, i < ϖ.length → ϖ[i]? = some (ϖ.getD i 0) := fun i hi => by simp [List.getD, hi]
  have hin : ∀ i (o : Ob), (σg ++ List.replicate e .fresh)[i]? = some o → σ[ϖ.getD i 0]? = some (o.ren ϖ) := fun i o hi => by
    have hil := (List.getElem?_eq_some_iff.1 hi).1
    simp only [List.length_append, List.length_replicate] at hil
    refine hrd (ϖ.getD i 0, o.ren ϖ) (List.mem_of_getElem? (i := i) ?_)
    rw [List.getElem?_zip_eq_some]
    refine ⟨hget i (by omega), ?_⟩
    rw [List.getElem?_map, hi]; rfl
  have hin1 : ∀ i (o : Ob), σg[i]? = some o → σ[ϖ.getD i 0]? = some (o.ren ϖ) := fun i o hi => hin i o (by rw [List.getElem?_append_left (List.getElem?_eq_some_iff.1 hi).1]; exact hi)
  have hin2 : ∀ i, σg.length ≤ i → i < ϖ.length → σ[ϖ.getD i 0]? = some .fresh := fun i h1 h2 => by
    refine hin i .fresh ?_
    rw [List.getElem?_append_right h1, List.getElem?_replicate, if_pos (by omega)]
  have hlt : ∀ i, i < ϖ.length → ϖ.getD i 0 < C.ρ.length := fun i hi => by
    rw [R.len]
    rcases Nat.lt_or_ge i σg.length with h1 | h1
    · exact (List.getElem?_eq_some_iff.1 (hin1 i _ (List.getElem?_eq_getElem h1))).1
    · exact (List.getElem?_eq_some_iff.1 (hin2 i h1 hi)).1
  have hidx : ∀ i, i < ϖ.length → ϖ.idxOf (ϖ.getD i 0) = i := fun i hi => by
    have : ϖ.getD i 0 = ϖ[i] := by simp [List.getD, hi]
    rw [this]
    exact hn.idxOf_getElem i hi
  have hinj : ∀ i j, i < ϖ.length → j < ϖ.length → ϖ.getD i 0 = ϖ.getD j 0 → i = j := fun i j hi hj e => by rw [← hidx i hi, ← hidx j hj, e]
  let m := σg.length
  have hm : m ≤ ϖ.length := by show σg.length ≤ _; omega
  let Cg : Cx := { G := C.G, ρ := (List.range m).map fun i => (C.ρ[ϖ.getD i 0]?).getD none, cur := fun i => if i < m then C.cur (ϖ.getD i 0) else none }
  have E0 : Emb m ϖ C Cg := ⟨rfl, fun i hi => by
    show ((List.range m).map fun i => (C.ρ[ϖ.getD i 0]?).getD none)[i]? = _
    rw [List.getElem?_map, List.getElem?_range hi]
    show some ((C.ρ[ϖ.getD i 0]?).getD none) = _
    rw [List.getElem?_eq_getElem (hlt i (Nat.lt_of_lt_of_le hi hm))]; rfl, fun i hi => if_pos hi⟩
  have hall : ∀ {n : Nat} {l : List Ob}, l.all (Ob.lt n) = true → ∀ (i : Nat) (o : Ob), l[i]? = some o → o.lt n = true := fun hl i o hi => List.all_eq_true.1 hl o (List.mem_of_getElem? hi)
  have R0 : Rel ⟨w, C.G⟩ (lentB Cg σg) Cg σg w := by
    refine ⟨by simp [Cg, m], R.ro, fun i o hi => ?_, fun i j oi oj b hi hj hb hb' => ?_, fun i o b hi hb => .inr ⟨i, o, hi, hb⟩, fun _ _ _ => rfl, Nat.le_refl _, rfl, rfl, rfl, fun _ _ _ _ => rfl⟩
    · exact (ObR.emb E0 (List.getElem?_eq_some_iff.1 hi).1 (hall ho i o hi)).1 (R.obs _ _ (hin1 i o hi))
    · have h1 := (List.getElem?_eq_some_iff.1 hi).1
      have h2 := (List.getElem?_eq_some_iff.1 hj).1
      rw [← blockOf.emb E0 h1] at hb
      rw [← blockOf.emb E0 h2] at hb'
      exact hinj i j (by omega) (by omega) (R.sep _ _ _ _ b (hin1 i oi hi) (hin1 j oj hj) hb hb')
  have hv0 : VRs Cg args vals := (VRs.emb E0 ha).1 (WkL.ok hw hvs)
  refine (h.run Cg w vals R0 hv0).mono fun x w' ⟨C', u, hx, R', hle, hu⟩ => ?_
  have hlen' : C'.ρ.length = ϖ.length := R'.len.trans hl'
  let C2 : Cx := { G := C'.G, ρ := (List.range C.ρ.length).map fun j => if ϖ.idxOf j < ϖ.length then (C'.ρ[ϖ.idxOf j]?).getD none else (C.ρ[j]?).getD none, cur := fun j => if ϖ.idxOf j < ϖ.length then C'.cur (ϖ.idxOf j) else C.cur j }
  have hρj : ∀ j, j < C.ρ.length → C2.ρ[j]? = some (if ϖ.idxOf j < ϖ.length then (C'.ρ[ϖ.idxOf j]?).getD none else (C.ρ[j]?).getD none) := fun j hj => by
    show ((List.range C.ρ.length).map _)[j]? = _
    rw [List.getElem?_map, List.getElem?_range hj]; rfl
  have E1 : Emb ϖ.length ϖ C2 C' := ⟨rfl, fun i hi => by
    rw [hρj _ (hlt i hi), hidx i hi, if_pos hi, List.getElem?_eq_getElem (by rw [hlen']; exact hi)]; rfl, fun i hi => by
    show _ = (if ϖ.idxOf (ϖ.getD i 0) < ϖ.length then C'.cur (ϖ.idxOf (ϖ.getD i 0)) else _)
    rw [hidx i hi, if_pos hi]⟩
  have hout : ∀ j, j ∉ ϖ → C2.ρ[j]? = C.ρ[j]? ∧ C2.cur j = C.cur j := fun j hj => by
    have h1 : ¬ ϖ.idxOf j < ϖ.length := fun e => hj (List.idxOf_lt_length_iff.1 e)
    refine ⟨?_, if_neg h1⟩
    rcases Nat.lt_or_ge j C.ρ.length with h2 | h2
    · rw [hρj j h2, if_neg h1, List.getElem?_eq_getElem h2]; rfl
    · rw [List.getElem?_eq_none h2]
      exact List.getElem?_eq_none (by simp [C2]; exact h2)
  have hcase : ∀ j, (∃ i, i < ϖ.length ∧ j = ϖ.getD i 0) ∨ j ∉ ϖ := fun j => by
    by_cases hj : j ∈ ϖ
    · obtain ⟨i, hi, e⟩ := List.getElem_of_mem hj
      exact .inl ⟨i, hi, by simp [List.getD, hi, e]⟩
    · exact .inr hj
  have hfresh : ∀ i, σg.length ≤ i → i < ϖ.length → C.ρ[ϖ.getD i 0]? = some none := fun i h1 h2 => (R.obs _ _ (hin2 i h1 h2)).1
  have hle2 : C.le C2 := by
    refine ⟨hle.G, fun j b hb => ?_, by simp [C2], fun c n u hc hcu hne => ?_, fun c hc hl => ?_⟩
    · rcases hcase j with ⟨i, hi, rfl⟩ | hj
      · rcases Nat.lt_or_ge i σg.length with h1 | h1
        · rw [← E1.ρ i hi]
          exact hle.ρ i b h1 (by rw [E0.ρ i h1]; exact hb)
        · rw [hfresh i h1 hi] at hb; cases hb
      · rw [(hout j hj).1]; exact hb
    · rcases hcase c with ⟨i, hi, rfl⟩ | hj
      · rcases Nat.lt_or_ge i σg.length with h1 | h1
        · rw [← E1.cur i hi] at hcu
          rw [← E0.cur i h1]
          exact hle.cur i n u h1 hcu (by rw [E0.ρ i h1]; exact hne)
        · exact absurd (hfresh i h1 hi) hne
      · rw [(hout c hj).2] at hcu
        exact ⟨n, u, hcu, .inl ⟨rfl, rfl⟩⟩
    · rcases hcase c with ⟨i, hi, rfl⟩ | hj
      · rcases Nat.lt_or_ge i σg.length with h1 | h1
        · rw [← E1.ρ i hi] at hc
          rw [← E0.ρ i h1]
          exact hle.st i h1 hc
        · exact hfresh i h1 hi
      · rw [(hout c hj).1] at hc; exact hc
  refine ⟨C2, u, hx, ?_, hle2, (VR.emb E1 hr).2 hu⟩
  have hzn : ((ϖ.zip (σg'.map (Ob.ren ϖ))).map (·.1)) = ϖ := by
    rw [List.map_fst_zip]; simp [hl']
  have hget2 : ∀ (j : Nat) (o : Ob), (upd σ (ϖ.zip (σg'.map (Ob.ren ϖ))))[j]? = some o → (∃ i o', i < ϖ.length ∧ j = ϖ.getD i 0 ∧ σg'[i]? = some o' ∧ o = o'.ren ϖ) ∨ (j ∉ ϖ ∧ σ[j]? = some o) := fun j o hj => by
    rcases hcase j with ⟨i, hi, rfl⟩ | hj'
    · have h1 : σg'[i]? = some (σg'[i]'(by omega)) := List.getElem?_eq_getElem (by omega)
      refine .inl ⟨i, _, hi, rfl, h1, ?_⟩
      have h2 := upd_in (σ := σ) (i := i) (j := ϖ.getD i 0) (o := (σg'[i]'(by omega)).ren ϖ) (wr := ϖ.zip (σg'.map (Ob.ren ϖ))) (by rw [hzn]; exact hn) (by
        rw [List.getElem?_zip_eq_some]
        exact ⟨hget i hi, by rw [List.getElem?_map, h1]; rfl⟩) (by rw [← R.len]; exact hlt i hi)
      rw [h2] at hj
      exact (Option.some.inj hj).symm
    · refine .inr ⟨hj', ?_⟩
      rw [upd_out (by rw [hzn]; exact hj')] at hj
      exact hj
  have hlo : ∀ b, lentB Cg σg b → ∃ i o, i < ϖ.length ∧ σ[ϖ.getD i 0]? = some o ∧ blockOf C (ϖ.getD i 0) o = some b := fun b ⟨i, o, hi, hb⟩ => by
    have h1 := (List.getElem?_eq_some_iff.1 hi).1
    exact ⟨i, o.ren ϖ, by omega, hin1 i o hi, by rw [blockOf.emb E0 h1]; exact hb⟩
  have hother : ∀ (j : Nat) (o : Ob) (b : Nat), j ∉ ϖ → σ[j]? = some o → blockOf C j o = some b → b < w.heap.size ∧ ¬ lentB Cg σg b := fun j o b hj ho hb =>
    ⟨(R.obs j o ho).lt hb, fun hl => by
      obtain ⟨i, o', hi, h1, h2⟩ := hlo b hl
      have := R.sep _ _ _ _ b ho h1 hb h2
      exact hj (by rw [this]; exact List.mem_of_getElem? (hget i hi))⟩
  have hbo : ∀ (j : Nat) (o : Ob), j ∉ ϖ → blockOf C2 j o = blockOf C j o := fun j o hj => by
    cases o <;> simp only [blockOf, (hout j hj).1, (hout j hj).2]
  have hnl : ∀ b, b < w0.w.heap.size → ¬ lent b → ¬ lentB Cg σg b := fun b hb hl hlb => by
    obtain ⟨i, o, hi, h1, h2⟩ := hlo b hlb
    rcases R.new _ _ b h1 h2 with h | h
    · omega
    · exact hl h
  refine ⟨by simp [C2, upd_length, R.len], R'.ro, fun j o hj => ?_, fun j k oj ok b hj hk hb hb' => ?_, fun j o b hj hb => ?_, fun b hb hl => ?_, Nat.le_trans R.size R'.size, R'.os.trans R.os, R'.tape.trans R.tape, R'.output.trans R.output, fun b o hb hl => ?_⟩
  · rcases hget2 j o hj with ⟨i, o', hi, rfl, h1, rfl⟩ | ⟨hj', h1⟩
    · exact (ObR.emb E1 hi (hall ho' i o' h1)).2 (R'.obs i o' h1)
    · have h2 := R.obs j o h1
      have hkeep : ∀ b, blockOf C j o = some b → w'.heap[b]? = w.heap[b]? ∧ ∀ q, C'.G b q = C.G b q := fun b hb =>
        let ⟨h3, h4⟩ := hother j o b hj' h1 hb
        ⟨R'.keep b h3 h4, fun q => R'.gh b q h3 h4⟩
      obtain ⟨hρ, hcu⟩ := hout j hj'
      cases o with
      | dead => exact hcu.trans h2
      | fresh => exact ⟨hρ.trans h2.1, hcu.trans h2.2⟩
      | cells t vs =>
        obtain ⟨h0, b, cs, k1, k2, k3, k4, k5⟩ := h2
        obtain ⟨l1, l2⟩ := hkeep b (by simp [blockOf, k1])
        exact ⟨hcu.trans h0, b, cs, hρ.trans k1, l1.trans k2, k3.mono hle2, k4, fun q => (l2 q).trans (k5 q)⟩
      | cap t q n =>
        obtain ⟨h0, u, cs, k1, k2, k3⟩ := h2
        refine ⟨by rw [hρ]; exact h0, u, cs, hcu.trans k1, ⟨k2.1, ?_⟩, fun b hb p hp => ((hkeep b (by simp [blockOf, k1, hb])).2 p).trans (k3 b hb p hp)⟩
        rcases k2.2 with e | ⟨g, cap, cur, e, h4, h5, h6⟩
        · exact .inl e
        · exact .inr ⟨g, cap, cur, e, h4, (hkeep g (by simp [blockOf, k1, e, Value.ownBlock])).1.trans h5, h6⟩
      | grw t q k n vs =>
        obtain ⟨h0, u, xs, k1, k2, k3, k4⟩ := h2
        exact ⟨by rw [hρ]; exact h0, u, xs, hcu.trans k1, k2.same fun b hb => (hkeep b (by simp [blockOf, k1, hb])).1, k3.mono hle2, fun b hb p => ((hkeep b (by simp [blockOf, k1, hb])).2 p).trans (k4 b hb p)⟩
      | mp es clock =>
        obtain ⟨h0, b, l, k1, k2, k3, k5⟩ := h2
        obtain ⟨l1, l2⟩ := hkeep b (by simp [blockOf, k1])
        exact ⟨hcu.trans h0, b, l, hρ.trans k1, l1.trans k2, k3.mono hle2, fun q => (l2 q).trans (k5 q)⟩
      | mq es =>
        obtain ⟨b, l, c, n, k1, h0, k2, k3, k5⟩ := h2
        obtain ⟨l1, l2⟩ := hkeep b (by simp [blockOf, k1])
        exact ⟨b, l, c, n, hρ.trans k1, hcu.trans h0, l1.trans k2, k3.mono hle2, fun q => (l2 q).trans (k5 q)⟩
      | tick m q =>
        obtain ⟨h0, ⟨b, hb0⟩, n, k1, k2⟩ := h2
        have hm : m ∉ ϖ := fun hm => by
          rcases hcase m with ⟨i, hi, rfl⟩ | h'
          · rcases Nat.lt_or_ge i σg.length with h3 | h3
            · have h4 := List.getElem?_eq_getElem h3
              have h5 := R.obs _ _ (hin1 i _ h4)
              refine h5.noTag ?_ k1
              have h6 := hall ho i _ h4
              generalize σg[i] = oo at h6
              cases oo <;> first | rfl | cases h6
            · exact absurd ((R.obs _ _ (hin2 i h3 hi)).2.symm.trans k1) (by simp)
          · exact h' hm
        exact ⟨hcu.trans h0, ⟨b, (hout m hm).1.trans hb0⟩, n, (hout m hm).2.trans k1, k2⟩
  · have hblk : ∀ (i : Nat) (o' : Ob) (c : Nat), i < ϖ.length → σg'[i]? = some o' → blockOf C2 (ϖ.getD i 0) (o'.ren ϖ) = some c → blockOf C' i o' = some c ∧ (w.heap.size ≤ c ∨ lentB Cg σg c) := fun i o' c hi h1 hc => by
      rw [blockOf.emb E1 hi] at hc
      exact ⟨hc, R'.new i o' c h1 hc⟩
    rcases hget2 j oj hj with ⟨i, o', hi, rfl, h1, rfl⟩ | ⟨hj', h1⟩ <;> rcases hget2 k ok hk with ⟨l, o'', hl, rfl, h2, rfl⟩ | ⟨hk', h2⟩
    · obtain ⟨e1, _⟩ := hblk i o' b hi h1 hb
      obtain ⟨e2, _⟩ := hblk l o'' b hl h2 hb'
      rw [R'.sep i l o' o'' b h1 h2 e1 e2]
    · obtain ⟨_, e1⟩ := hblk i o' b hi h1 hb
      rw [hbo k ok hk'] at hb'
      obtain ⟨e2, e3⟩ := hother k ok b hk' h2 hb'
      rcases e1 with e | e
      · omega
      · exact absurd e e3
    · obtain ⟨_, e1⟩ := hblk l o'' b hl h2 hb'
      rw [hbo j oj hj'] at hb
      obtain ⟨e2, e3⟩ := hother j oj b hj' h1 hb
      rcases e1 with e | e
      · omega
      · exact absurd e e3
    · rw [hbo j oj hj'] at hb
      rw [hbo k ok hk'] at hb'
      exact R.sep j k oj ok b h1 h2 hb hb'
  · rcases hget2 j o hj with ⟨i, o', hi, rfl, h1, rfl⟩ | ⟨hj', h1⟩
    · rw [blockOf.emb E1 hi] at hb
      rcases R'.new i o' b h1 hb with e | e
      · exact .inl (Nat.le_trans R.size e)
      · obtain ⟨l, o2, _, k1, k2⟩ := hlo b e
        exact R.new _ _ b k1 k2
    · rw [hbo j o hj'] at hb
      exact R.new j o b h1 hb
  · exact (R'.keep b (Nat.lt_of_lt_of_le hb R.size) (hnl b hb hl)).trans (R.keep b hb hl)
  · show C'.G b o = w0.G b o
    exact (R'.gh b o (Nat.lt_of_lt_of_le hb R.size) (hnl b hb hl)).trans (R.gh b o hb hl)
/-- Names to come. -/
theorem Ent.more {k : Nat} {fr : List V} {σ : List Ob} (n : Nat) : Ent k fr σ fr (σ ++ List.replicate n .fresh) := fun w0 lent C w a R hf hk => by
  obtain ⟨C', R', hle⟩ := R.reserve n
  exact ⟨C', R', VRs.mono hle hf, by simp; omega, hle.k (by rw [R.len]; exact hk)⟩
/-- A thing told less of. -/
inductive ObWk : Ob → Ob → Prop
  | rfl {o} : ObWk o o
  | cells {t vs us} (h : WkL vs us) : ObWk (.cells t vs) (.cells t us)
  | grw {t q k n vs us} (h : WkL vs us) : ObWk (.grw t q k n vs) (.grw t q k n us)
/-- Names of σ, one by one, and what they are told to be. -/
inductive Owl (σ : List Ob) : List Nat → List Ob → Prop
  | nil : Owl σ [] []
  | cons {i : Nat} {o o' : Ob} {l : List Nat} {os : List Ob} (hi : σ[i]? = some o) (hw : ObWk o o') (t : Owl σ l os) : Owl σ (i :: l) (o' :: os)
theorem Owl.get {σ : List Ob} : ∀ {l : List Nat} {os : List Ob} {i : Nat} {o' : Ob}, Owl σ l os → os[i]? = some o' → ∃ o, σ[l.getD i 0]? = some o ∧ ObWk o o'
  | _, _, _, _, .nil, h => by simp at h
  | _, _, 0, _, .cons hi hw _, h => by simp at h; subst h; exact ⟨_, hi, hw⟩
  | _, _, i + 1, _, .cons _ _ t, h => by simpa using t.get (by simpa using h)
/-- Some of the names alone, in another order, told less of. -/
theorem Ent.sub {k : Nat} {fr fr' : List V} {σ σ' : List Ob} {ϖ : List Nat} (hl : σ'.length = ϖ.length) (hk : ϖ.take k = List.range k) (hn : ϖ.Nodup) (hσ : Owl σ ϖ (σ'.map (Ob.ren ϖ))) (hf : WkL fr (V.renL ϖ fr')) (ha : V.ltL ϖ.length fr' = true) (ho : σ'.all (Ob.lt ϖ.length) = true) : Ent k fr σ fr' σ' := fun w0 lent C w a R hfr hkk => by
  have hin : ∀ i (o' : Ob), σ'[i]? = some o' → ∃ o, σ[ϖ.getD i 0]? = some o ∧ ObWk o (o'.ren ϖ) := fun i o' hi => hσ.get (by rw [List.getElem?_map, hi]; rfl)
  have hlt : ∀ i, i < ϖ.length → ϖ.getD i 0 < C.ρ.length := fun i hi => by
    obtain ⟨o, h1, _⟩ := hin i _ (List.getElem?_eq_getElem (by omega))
    rw [R.len]
    exact (List.getElem?_eq_some_iff.1 h1).1
  have hidx : ∀ i, i < ϖ.length → ϖ.idxOf (ϖ.getD i 0) = i := fun i hi => by
    have : ϖ.getD i 0 = ϖ[i] := by simp [List.getD, hi]
    rw [this]
    exact hn.idxOf_getElem i hi
  have hinj : ∀ i j, i < ϖ.length → j < ϖ.length → ϖ.getD i 0 = ϖ.getD j 0 → i = j := fun i j hi hj e => by rw [← hidx i hi, ← hidx j hj, e]
  let Cg : Cx := { G := C.G, ρ := (List.range ϖ.length).map fun i => (C.ρ[ϖ.getD i 0]?).getD none, cur := fun i => C.cur (ϖ.getD i 0) }
  have E0 : Emb ϖ.length ϖ C Cg := ⟨rfl, fun i hi => by
    show ((List.range ϖ.length).map fun i => (C.ρ[ϖ.getD i 0]?).getD none)[i]? = _
    rw [List.getElem?_map, List.getElem?_range hi]
    show some ((C.ρ[ϖ.getD i 0]?).getD none) = _
    rw [List.getElem?_eq_getElem (hlt i hi)]; rfl, fun i hi => rfl⟩
  have hblk : ∀ (j : Nat) (o o' : Ob), ObWk o o' → blockOf C j o' = blockOf C j o := fun j o o' h => by cases h <;> rfl
  have hobr : ∀ (j : Nat) (o o' : Ob), ObWk o o' → ObR C w j o → ObR C w j o' := fun j o o' h hr => by
    cases h with
    | rfl => exact hr
    | cells h =>
      obtain ⟨h0, b, cs, k1, k2, k3, k4, k5⟩ := hr
      exact ⟨h0, b, cs, k1, k2, h.ok k3, k4, k5⟩
    | grw h =>
      obtain ⟨h0, u, xs, k1, k2, k3, k4⟩ := hr
      exact ⟨h0, u, xs, k1, k2, h.ok k3, k4⟩
  have hall : ∀ (i : Nat) (o : Ob), σ'[i]? = some o → o.lt ϖ.length = true := fun i o hi => List.all_eq_true.1 ho o (List.mem_of_getElem? hi)
  have hle : k ≤ ϖ.length := by
    have := congrArg List.length hk
    simp at this
    omega
  have hid : ∀ i, i < k → ϖ.getD i 0 = i := fun i hi => by
    have h1 : (ϖ.take k)[i]? = some i := by rw [hk, List.getElem?_range hi]
    rw [List.getElem?_take, if_pos hi] at h1
    simp [List.getD, h1]
  refine ⟨Cg, ⟨by simp [Cg, hl], R.ro, fun i o hi => ?_, fun i j oi oj b hi hj hb hb' => ?_, fun i o b hi hb => ?_, R.keep, R.size, R.os, R.tape, R.output, R.gh⟩, (VRs.emb E0 ha).1 (hf.ok hfr), by omega, ?_⟩
  · obtain ⟨o1, h1, h2⟩ := hin i o hi
    have hil := (List.getElem?_eq_some_iff.1 hi).1
    exact (ObR.emb E0 (by omega) (hall i o hi)).1 (hobr _ _ _ h2 (R.obs _ _ h1))
  · obtain ⟨o1, h1, h2⟩ := hin i oi hi
    obtain ⟨o2, h3, h4⟩ := hin j oj hj
    have hil := (List.getElem?_eq_some_iff.1 hi).1
    have hjl := (List.getElem?_eq_some_iff.1 hj).1
    rw [← blockOf.emb E0 (by omega), hblk _ _ _ h2] at hb
    rw [← blockOf.emb E0 (by omega), hblk _ _ _ h4] at hb'
    exact hinj i j (by omega) (by omega) (R.sep _ _ _ _ b h1 h3 hb hb')
  · obtain ⟨o1, h1, h2⟩ := hin i o hi
    have hil := (List.getElem?_eq_some_iff.1 hi).1
    rw [← blockOf.emb E0 (by omega), hblk _ _ _ h2] at hb
    exact R.new _ _ b h1 hb
  · refine ⟨GC.le_refl _, fun i b hi hb => ?_, fun c n u hc hcu _ => ?_, fun c hc h => ?_⟩
    · rw [E0.ρ i (by omega), hid i hi]; exact hb
    · rw [E0.cur c (by omega), hid c hc] at hcu
      exact ⟨n, u, hcu, .inl ⟨rfl, rfl⟩⟩
    · rw [E0.ρ c (by omega), hid c hc] at h; exact h
end
end Go.Proofs.Ytgebfcdcpmmgnaa.Vs
