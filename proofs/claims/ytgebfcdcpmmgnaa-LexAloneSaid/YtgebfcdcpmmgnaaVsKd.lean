/- Rows that grow and are written; maps. -/
import Derived.Test.YtgebfcdcpmmgnaaVsKc
set_option linter.unusedVariables false
set_option linter.unusedSimpArgs false
namespace Go.Proofs.Ytgebfcdcpmmgnaa.Vs
open Go.RowKit
/-- What an append does to memory. -/
structure GrownH (w : World) (e q : Nat) (u : Value) (n : Nat) (cs : List Value) (w' : World) (u' : Value) (m : Nat) (news : List Value) : Prop where
  row : rowH w' e q u' (n + m) (cs ++ news)
  os : w'.os = w.os
  tape : w'.tape = w.tape
  output : w'.output = w.output
  size : w.heap.size ≤ w'.heap.size
  heap : (hdBlock u' = hdBlock u ∧ ∀ b, b < w.heap.size → hdBlock u ≠ some b → w'.heap[b]? = w.heap[b]?) ∨ (hdBlock u' = some w.heap.size ∧ ∀ b, b < w.heap.size → w'.heap[b]? = w.heap[b]?)
section
variable {P : Program} {w : World}
theorem grownH_new {e q : Nat} {u : Value} {n m cap : Nat} {cs news : List Value} {rest : Array Value} (hl : cs.length = n * q) (hm : news.length = m * q) (hc : n + m ≤ cap) (hcm : cap ≤ maxLen) (hr : rest.size = (cap - (n + m)) * q) (h0 : m ≠ 0) (h1 : ∀ v ∈ cs, v.oneCell' = true) (h2 : ∀ v ∈ news, v.oneCell' = true) :
    GrownH w e q u n cs (w.drew.alloc (.cells (cs.toArray ++ news.toArray ++ rest) e)) (.slice (some ⟨w.heap.size, 0, none⟩) (n + m) cap) m news := by
  have hlen : (cs ++ news).length = (n + m) * q := by rw [List.length_append, hl, hm, Nat.add_mul]
  refine ⟨⟨hlen, .inr ⟨w.heap.size, cap, _, rfl, by omega, Go.heap_alloc_new w.drew _, hc, hcm, ?_, ?_, ?_⟩⟩, rfl, rfl, rfl, by simp, .inr ⟨by simp only [hdBlock]; rw [if_neg (by omega)], fun b hb => Below.heap_alloc w.drew _ b hb⟩⟩
  · simp only [Array.size_append, List.size_toArray, hr, hl, hm, ← Nat.add_mul]
    congr 1; omega
  · simp only [Array.toList_append, List.append_assoc]
    rw [← List.append_assoc, ← hlen]
    exact List.take_left
  · intro v hv
    rcases List.mem_append.1 hv with hv | hv
    · exact h1 v hv
    · exact h2 v hv
theorem append_runH {t ty e q b : Nat} {i : TypeInfo} {z : Value} (hu : P.underlying t = some (.slice e)) (hi : P.info? e = some i) (hz : i.zero = some z) (hq : i.size = q) (hb : i.bytes = b) (hzs : z.cells.size = q) (hpos : 0 < q)
    {u : Value} {n : Nat} {cs : List Value} (H : rowH w e q u n cs) {ad : Option Addr} {m c : Nat} {news : List Value} (hl : news.length = m * q) (hc : ∀ (j : Nat) (v : Value), news[j]? = some v → ∃ x, ad = some x ∧ w.cell? (x.add j) = some v) (h1 : ∀ v ∈ news, v.oneCell' = true)
    (hm : (n + m) * b ≤ 140737488355328) (h63 : n + m ≤ 9223372036854775807) : ∃ u' w', (Builtin.append_ #[t, t] ty #[u, .slice ad m c]).run P w = .ok u' w' ∧ GrownH w e q u n cs w' u' m news := by
  subst hq; subst hb
  have hml : n + m ≤ maxLen := by simp only [maxLen]; omega
  have hgc : ∀ old, n + m ≤ grownCap w (n + m) old e ∧ grownCap w (n + m) old e ≤ maxLen := fun old => ⟨grownCap_ge w _ _ _, grownCap_le_maxLen w _ _ _ hml⟩
  have hsame : m = 0 → GrownH w e i.size u n cs w u m news := fun h0 => by
    subst h0
    have hn : news = [] := List.eq_nil_of_length_eq_zero (by simpa using hl)
    subst hn
    exact ⟨by simpa using H, rfl, rfl, rfl, Nat.le_refl _, .inl ⟨rfl, fun _ _ _ => rfl⟩⟩
  have had : m ≠ 0 → ∃ x, ad = some x ∧ ∀ (j : Nat) (v : Value), news[j]? = some v → w.cell? (x.add j) = some v := fun h0 => by
    have hlt : 0 < news.length := by rw [hl]; exact Nat.mul_pos (by omega) hpos
    obtain ⟨x, hx, _⟩ := hc 0 _ (List.getElem?_eq_getElem hlt)
    refine ⟨x, hx, fun j v hv => ?_⟩
    obtain ⟨x', hx', h⟩ := hc j v hv
    rw [hx] at hx'; injection hx' with hx'; subst hx'; exact h
  rcases H.2 with ⟨rfl, a0, rfl⟩ | ⟨g, cap, cur, rfl, hcap, hg, hnc, hcm, hcs, ht, hcone⟩
  · have hx : cs = [] := List.eq_nil_of_length_eq_zero (by simpa using H.1)
    subst hx
    by_cases h0 : m = 0
    · refine ⟨_, _, ?_, hsame h0⟩
      subst h0
      cases ad <;> cases a0 <;> simp [Builtin.append_, run_underlying hu, sizeOf, typeInfo, hi, Builtin.lenOf, Builtin.firstCells, loadCells, loadCellsFrom, storeCells]
    · obtain ⟨x, rfl, hx⟩ := had h0
      have hk := hgc 0
      simp only [Nat.zero_add] at hk
      have hgn := grownH_new (w := w) (e := e) (q := i.size) (u := .slice a0 0 0) (n := 0) (cs := []) (m := m) (cap := grownCap w m 0 e) (news := news) (rest := Builtin.zeroCells z.cells (grownCap w m 0 e - m)) (by simp) hl (by omega) hk.2 (by rw [zeroCells_size, hzs]; simp) h0 (by simp) h1
      cases a0 with
      | none =>
        have hr := run_append_nil (P := P) w t ty e i z hu hi hz x m c news hl hx (by omega) (by omega) (by simp only [Nat.zero_add] at hm; omega)
        refine ⟨_, _, hr, ?_⟩
        simpa using hgn
      | some x0 =>
        have hr := run_append_grow (P := P) w t ty e i z hu hi hz x0 0 0 [] (by simp) (by simp) x m c news hl hx (by omega) (by omega) (growslice_fits (by omega) (by simpa using hm))
        simp only [Nat.zero_add, List.nil_append] at hr hgn
        refine ⟨_, _, hr, ?_⟩
        simpa using hgn
  · have hcsone : ∀ v ∈ cs, v.oneCell' = true := hcone
    by_cases hroom : n + m ≤ cap
    · by_cases h0 : m = 0
      · refine ⟨_, _, ?_, hsame h0⟩
        subst h0
        cases ad <;> simp [Builtin.append_, run_underlying hu, sizeOf, typeInfo, hi, Builtin.lenOf, Builtin.firstCells, loadCells, loadCellsFrom, hnc, storeCells]
      · obtain ⟨x, rfl, hx⟩ := had h0
        have hfit : n * i.size + news.length ≤ cur.size := by rw [hl, hcs, ← Nat.add_mul]; exact Nat.mul_le_mul_right _ hroom
        have hr := run_append_room (P := P) w t ty e i hu hi g n cap cur hg x m c news hl hx h1 hroom hfit
        refine ⟨_, _, hr, ⟨?_, .inr ⟨g, cap, _, rfl, hcap, setRow_heap w g cur _ e _ hg, hroom, hcm, ?_, ?_, ?_⟩⟩, rfl, rfl, rfl, by simp [World.setRow], .inl ⟨rfl, fun b hb hne => setRow_other w g b _ (fun e => hne (by simp only [hdBlock, show cap ≠ 0 by omega, if_false, e]))⟩⟩
        · rw [List.length_append, H.1, hl, Nat.add_mul]
        · simp only [List.size_toArray, List.length_append, List.length_take, List.length_drop, Array.length_toList]
          omega
        · have hlen : (cs ++ news).length = (n + m) * i.size := by rw [List.length_append, H.1, hl, Nat.add_mul]
          rw [ht, ← hlen]
          exact List.take_left
        · intro v hv
          rcases List.mem_append.1 hv with hv | hv
          · exact hcone v hv
          · exact h1 v hv
    · obtain ⟨x, rfl, hx⟩ := had (by omega)
      have holds : ∀ (j : Nat) (v : Value), cs[j]? = some v → w.cell? ((⟨g, 0, none⟩ : Addr).add j) = some v := fun j v hj => by
        rw [add_at, Nat.zero_add]
        rw [← ht, List.getElem?_take] at hj
        split at hj
        · simp [World.cell?, hg]; simpa using hj
        · cases hj
      have hr := run_append_grow (P := P) w t ty e i z hu hi hz ⟨g, 0, none⟩ n cap cs H.1 holds x m c news hl hx (by omega) (by omega) (growslice_fits (by omega) hm)
      have hk := hgc cap
      exact ⟨_, _, hr, grownH_new H.1 hl hk.1 hk.2 (by rw [zeroCells_size, hzs]) (by omega) hcsone h1⟩
end
section
variable {P : Program} {o : Oper} {ev : Operand → V} {w0 : Bs} {w w' : World} {lent : Nat → Prop} {C : Cx} {σ : List Ob}
/-- A row's header turns: another version. -/
theorem Rel.turn (R : Rel w0 lent C σ w) {i e q k n n' : Nat} {vs vs' : List V} {u u' : Value} {cs' : List Value} (hi : σ[i]? = some (.grw e q k n vs)) (hcur : C.cur i = some (k, u)) (hr : rowH w' e q u' n' cs') (hv : VRs C vs' cs')
    (os : w'.os = w.os) (tape : w'.tape = w.tape) (output : w'.output = w.output) (size : w.heap.size ≤ w'.heap.size)
    (heap : (hdBlock u' = hdBlock u ∧ ∀ b, b < w.heap.size → hdBlock u ≠ some b → w'.heap[b]? = w.heap[b]?) ∨ (hdBlock u' = some w.heap.size ∧ ∀ b, b < w.heap.size → w'.heap[b]? = w.heap[b]?) ∨ (hdBlock u' = none ∧ ∀ b, b < w.heap.size → w'.heap[b]? = w.heap[b]?)) :
    ∃ C', Rel w0 lent C' (σ.set i (.grw e q (k + 1) n' vs')) w' ∧ C.le C' ∧ VR C' (.hd i (k + 1) n') u' := by
  obtain ⟨hρ, u0, cs0, hc0, hr0, hv0, hgh⟩ := R.obs i _ hi
  rw [hcur] at hc0
  simp only [Option.some.injEq, Prod.mk.injEq, true_and] at hc0
  subst hc0
  have hil : i < C.ρ.length := by rw [R.len]; exact (List.getElem?_eq_some_iff.1 hi).1
  let C' : Cx := { C with cur := fun j => if j = i then some (k + 1, u') else C.cur j }
  have hCi : C'.cur i = some (k + 1, u') := by simp [C']
  have hle : C.le C' := by
    refine ⟨GC.le_refl _, fun _ _ h => h, Nat.le_refl _, fun c m v hc hk hne => ?_, fun _ h _ => h⟩
    by_cases e1 : c = i
    · subst e1
      rw [hCi] at hk
      simp only [Option.some.injEq, Prod.mk.injEq] at hk
      obtain ⟨rfl, rfl⟩ := hk
      exact ⟨k, u, hcur, .inr (by omega)⟩
    · simp only [C', e1, if_false] at hk
      exact ⟨m, v, hk, .inl ⟨rfl, rfl⟩⟩
  have hub : ∀ b, hdBlock u = some b → b < w.heap.size := fun b hb => hr0.lt hb
  have hcell : ∀ b k v, C.G b k = some v → w'.cell? ⟨b, k, none⟩ = some v := fun b k v h => by
    have hb := World.block_lt_of_cell? w _ (R.ro b k v h)
    have h1 := R.ro b k v h
    rcases heap with ⟨_, h3⟩ | ⟨_, h3⟩ | ⟨_, h3⟩
    · by_cases hub : hdBlock u = some b
      · rw [hgh b hub k] at h; cases h
      · rw [World.cell?_of_block (h3 b hb hub)]; exact h1
    · rw [World.cell?_of_block (h3 b hb)]; exact h1
    · rw [World.cell?_of_block (h3 b hb)]; exact h1
  refine ⟨C', R.step hi ⟨hle, rfl, fun _ _ => rfl, fun j hj => by simp [C', hj], fun b hb hne => ?_, hcell, fun _ _ _ _ => rfl, ?_, fun b hb => ?_, size, os, tape, output⟩, hle, ?_⟩
  · have hne' : hdBlock u ≠ some b := fun e => hne (by simp [blockOf, hcur, e])
    rcases heap with ⟨_, h3⟩ | ⟨_, h3⟩ | ⟨_, h3⟩
    · exact h3 b hb hne'
    · exact h3 b hb
    · exact h3 b hb
  · refine ⟨hρ, u', cs', hCi, hr, hv.mono hle, fun b hb o => ?_⟩
    rcases heap with ⟨h2, _⟩ | ⟨h2, _⟩ | ⟨h2, _⟩
    · exact hgh b (h2 ▸ hb) o
    · rw [h2] at hb
      injection hb with hb
      subst hb
      exact R.noG _ (Nat.le_refl _) o
    · rw [h2] at hb; cases hb
  · simp only [blockOf, hCi, Option.bind_some] at hb
    simp only [blockOf, hcur, Option.bind_some]
    rcases heap with ⟨h2, _⟩ | ⟨h2, _⟩ | ⟨h2, _⟩
    · exact .inl (h2 ▸ hb)
    · rw [h2] at hb
      injection hb with hb
      exact .inr (by omega)
    · rw [h2] at hb; cases hb
  · unfold VR
    refine ⟨hil, hρ, ?_, fun m v hk => ?_⟩
    · rcases hr.2 with ⟨rfl, a, rfl⟩ | ⟨g, cap, cur, rfl, _⟩
      · exact ⟨a, 0, rfl, fun h => absurd rfl h⟩
      · exact ⟨_, cap, rfl, fun _ => ⟨g, rfl⟩⟩
    · rw [hCi] at hk
      simp only [Option.some.injEq, Prod.mk.injEq] at hk
      obtain ⟨rfl, rfl⟩ := hk
      exact ⟨Nat.le_refl _, fun _ => rfl⟩
/-- A slice without room, named: a row that may be written. -/
theorem Rel.hdNil (R : Rel w0 lent C σ w) {i : Nat} (hi : σ[i]? = some .fresh) (e q : Nat) (a : Option Addr) (kk : Nat := 0) : ∃ C', Rel w0 lent C' (σ.set i (.grw e q kk 0 [])) w ∧ C.le C' ∧ C'.cur i = some (kk, .slice a 0 0) ∧ C'.G = C.G ∧ i < C'.ρ.length ∧ C'.ρ[i]? ≠ some none := by
  obtain ⟨hf, hc⟩ := R.obs i _ hi
  have hil : i < C.ρ.length := (List.getElem?_eq_some_iff.1 hf).1
  have hle : C.le { G := C.G, ρ := C.ρ.set i (some 0), cur := fun j => if j = i then some (kk, .slice a 0 0) else C.cur j } := put_le (GC.le_refl _) hf (by simp)
  have hb0 : hdBlock (.slice a 0 0) = none := by cases a <;> simp [hdBlock]
  refine ⟨_, R.step hi ⟨hle, by simp, fun j hj => by simp only; rw [List.getElem?_set_ne (fun e => hj e.symm)], fun j hj => by simp [hj], fun b hb _ => rfl, R.ro, fun _ _ _ _ => rfl, ?_, fun b hb => ?_, Nat.le_refl _, rfl, rfl, rfl⟩, hle, by simp, rfl, by simp; exact hil, by simp only; rw [List.getElem?_set_self hil]; simp⟩
  · refine ⟨by simp only; rw [List.getElem?_set_self hil]; simp, .slice a 0 0, [], by simp, ⟨by simp, .inl ⟨rfl, a, rfl⟩⟩, .nil, fun b hb => by rw [hb0] at hb; cases hb⟩
  · simp [blockOf, hb0] at hb
/-- An element's cells. -/
def dcells : D → List V
  | .agg xs => xs.map .d
  | x => [.d x]
theorem dcells_ok {C : Cx} {x : D} {cs : List Value} (h : DR C.G x cs) : VRs C (dcells x) cs := by
  have h1 := h.len
  cases x
  case agg xs => unfold DR at h; exact dagg_vrs h
  all_goals
    obtain ⟨v, rfl⟩ := List.length_eq_one_iff.1 h1
    exact .cons (by unfold VR; exact h) .nil
theorem dcells_len (x : D) : (dcells x).length = x.sz := by cases x <;> simp [dcells, D.sz]
theorem flat_get {α : Type} {q : Nat} : ∀ {ls : List (List α)} {i j : Nat} {l : List α}, (∀ x ∈ ls, x.length = q) → ls[i]? = some l → j < q → ls.flatten[i * q + j]? = l[j]?
  | [], _, _, _, _, h, _ => by simp at h
  | x :: ls, 0, j, l, hl, h, hj => by
    simp only [List.getElem?_cons_zero, Option.some.injEq] at h
    subst h
    rw [Nat.zero_mul, Nat.zero_add, List.flatten_cons, List.getElem?_append_left (by rw [hl x (by simp)]; exact hj)]
  | x :: ls, i + 1, j, l, hl, h, hj => by
    have hx := hl x (by simp)
    rw [List.flatten_cons, List.getElem?_append_right (by rw [hx, Nat.add_mul]; omega), hx, show (i + 1) * q + j - q = i * q + j by rw [Nat.add_mul]; omega]
    exact flat_get (fun y hy => hl y (by simp [hy])) (by simpa using h) hj
theorem flat_length {α : Type} {q : Nat} : ∀ {ls : List (List α)}, (∀ x ∈ ls, x.length = q) → ls.flatten.length = ls.length * q
  | [], _ => by simp
  | x :: ls, hl => by rw [List.flatten_cons, List.length_append, hl x (by simp), flat_length (fun y hy => hl y (by simp [hy])), List.length_cons, Nat.add_mul]; omega
/-- Elements' cells, one element behind the other. -/
theorem elems_vrs {C : Cx} {q : Nat} {ys : List D} {news : List Value} (hl : news.length = ys.length * q) (h : ∀ (k : Nat) (y : D), ys[k]? = some y → ∃ ce, ce.length = q ∧ DR C.G y ce ∧ ∀ (j : Nat) (v : Value), ce[j]? = some v → news[k * q + j]? = some v) : VRs C (ys.map dcells).flatten news := by
  have hq : ∀ x ∈ ys.map dcells, x.length = q := fun x hx => by
    obtain ⟨y, hy, rfl⟩ := List.mem_map.1 hx
    obtain ⟨i, hi, rfl⟩ := List.mem_iff_getElem.1 hy
    obtain ⟨ce, h1, h2, _⟩ := h i _ (List.getElem?_eq_getElem hi)
    rw [dcells_len, ← h2.len, h1]
  refine VRs.of (by rw [hl, flat_length hq, List.length_map]) fun i x v hx hv => ?_
  by_cases h0 : q = 0
  · have := (List.getElem?_eq_some_iff.1 hv).1
    rw [hl, h0, Nat.mul_zero] at this; omega
  · have hil : i < ys.length * q := by rw [← hl]; exact (List.getElem?_eq_some_iff.1 hv).1
    have hi : i / q < ys.length := by rw [Nat.div_lt_iff_lt_mul (by omega)]; exact hil
    have hj : i % q < q := Nat.mod_lt _ (by omega)
    have hij : i / q * q + i % q = i := by rw [Nat.mul_comm]; exact Nat.div_add_mod i q
    have hy : ys[i / q]? = some ys[i / q] := List.getElem?_eq_getElem hi
    have h1 := flat_get (i := i / q) (j := i % q) hq (by rw [List.getElem?_map, hy]; rfl) hj
    rw [hij, hx] at h1
    obtain ⟨ce, k1, k2, k3⟩ := h _ _ hy
    obtain ⟨u, k4, k5⟩ := (dcells_ok k2).get h1.symm
    have k6 := k3 _ _ k4
    rw [hij, hv] at k6
    injection k6 with k6
    subst k6
    exact k5
/-- What is appended: data, or a literal's block. -/
def newsV (q : Nat) (x : V) (σ : List Ob) (K : Nat → List V → List (Nat × Ob) → Prop) : Prop :=
  match x with
  | .row j off len _ => (match σ[j]? with
    | some (.cells ct vs) => off + len * q ≤ vs.length ∧ K len ((vs.drop off).take (len * q)) [(j, .cells ct vs)]
    | _ => False)
  | x => (match rowOf q x with
    | some ys => K ys.length (ys.map dcells).flatten []
    | none => False)
theorem news_ok {q : Nat} (hq : 0 < q) {x : V} {K : Nat → List V → List (Nat × Ob) → Prop} (h : newsV q x σ K) : ∃ m vs rd, K m vs rd ∧ (∀ p ∈ rd, σ[p.1]? = some p.2) ∧ (∀ p ∈ rd, ∃ ct us, p.2 = .cells ct us) ∧ ∀ (w0 : Bs) (lent : Nat → Prop) (C : Cx) (σ1 : List Ob) (w : World) (v : Value), Rel w0 lent C σ1 w → (∀ p ∈ rd, σ1[p.1]? = some p.2) → VR C x v →
    ∃ ad c news, v = .slice ad m c ∧ news.length = m * q ∧ (∀ v ∈ news, v.oneCell' = true) ∧ (∀ (j : Nat) (v : Value), news[j]? = some v → ∃ x, ad = some x ∧ w.cell? (x.add j) = some v) ∧ VRs C vs news := by
  unfold newsV at h
  split at h
  · rename_i j off len cap
    split at h
    · rename_i ct vs hσ
      obtain ⟨h1, h⟩ := h
      refine ⟨_, _, _, h, by simpa using hσ, by simp, fun w0 lent C σ1 w v R hrd hv => ?_⟩
      unfold VR at hv
      obtain ⟨bl, hbl, rfl⟩ := hv
      obtain ⟨bl', cs, c1, c2, c3, c4, c5⟩ := R.cellAt (hrd (j, .cells ct vs) (by simp))
      rw [hbl] at c1; injection c1 with c1; injection c1 with c1; subst c1
      refine ⟨_, cap, (cs.drop off).take (len * q), rfl, by have := c2.length; simp; omega, fun v hv => c3 v (List.mem_of_mem_drop (List.mem_of_mem_take hv)), fun i v hv => ⟨_, rfl, ?_⟩, (c2.drop off).take _⟩
      rw [add_at]
      rw [List.getElem?_take] at hv
      split at hv
      · rw [List.getElem?_drop] at hv; exact c5 _ _ hv
      · cases hv
    · exact h.elim
  · split at h
    · rename_i ys hys
      refine ⟨_, _, _, h, by simp, by simp, fun w0 lent C σ1 w v R hrd hv => ?_⟩
      obtain ⟨ad, c, news, e1, l1, l2, l3, l4⟩ := dr_news R.ro (rowOf_ok hq hys hv)
      exact ⟨ad, c, news, e1, l1, l2, l3, elems_vrs l1 l4⟩
    · exact h.elim
def appendHV (T : Tb P) (t : Nat) (s x : V) (σ : List Ob) (nw : Nat) (K : KK) : Prop :=
  match (T.ty t).inf with
  | .sl e q b => (T.ty e).inf ≠ .un ∧ (T.ty e).z ≠ [] ∧ newsV q x σ fun m ys rd => (match s with
      | .nil => m * b ≤ 140737488355328 ∧ m ≤ 9223372036854775807 ∧ K (.hd nw 1 m) ((nw, .fresh) :: rd) [(nw, .grw e q 1 m ys)]
      | .z0 => m * b ≤ 140737488355328 ∧ m ≤ 9223372036854775807 ∧ K (.hd nw 1 m) ((nw, .fresh) :: rd) [(nw, .grw e q 1 m ys)]
      | .row _ _ l c => l = 0 ∧ c = 0 ∧ m * b ≤ 140737488355328 ∧ m ≤ 9223372036854775807 ∧ K (.hd nw 1 m) ((nw, .fresh) :: rd) [(nw, .grw e q 1 m ys)]
      | .hd c k n => (match σ[c]? with
        | some (.grw e' q' k' n' vs) => k' = k ∧ e' = e ∧ q' = q ∧ n' = n ∧ (n + m) * b ≤ 140737488355328 ∧ n + m ≤ 9223372036854775807 ∧ K (.hd c (k + 1) (n + m)) ((c, .grw e q k n vs) :: rd) [(c, .grw e q (k + 1) (n + m) (vs ++ ys))]
        | _ => False)
      | _ => False)
  | _ => False
theorem appendH_ok {T : Tb P} {t nw : Nat} {s x : Operand} {K : KK} (ho : o.op = .call { callee := .builtin .append, args := #[s, x], argTypes := #[t, t] }) (h : appendHV T t (ev s) (ev x) σ nw K) (hnw : (match ev s with | .nil | .z0 | .row _ _ _ _ => True | _ => False) → σ[nw]? = some .fresh) : ∃ v rd wr, K v rd wr ∧ LStep P o ev rd v wr ∧ (∀ p ∈ wr, ∃ q ∈ rd, q.1 = p.1) ∧ ∀ p ∈ rd, σ[p.1]? = some p.2 := by
  unfold appendHV at h
  split at h
  · rename_i e q b hs
    obtain ⟨hun, hne, h⟩ := h
    obtain ⟨hu, hpos, ti, z, hi, hz, hq, hb, hzs⟩ := inf_sl T hs
    obtain ⟨m, ys, rd, h, hrd0, hrdc, hnews⟩ := news_ok hpos h
    have hfirst : ∀ {K' : Prop} {xa : V}, (∀ (C : Cx) (u : Value), VR C (ev s) u → ∃ a, u = .slice a 0 0) → σ[nw]? = some .fresh → m * b ≤ 140737488355328 → m ≤ 9223372036854775807 → LStep P o ev ((nw, .fresh) :: rd) (.hd nw 1 m) [(nw, .grw e q 1 m ys)] := by
      intro K' xa hsn hfr h1 h2 w0 lent C σ w a R hx hrd K Q hK
      obtain ⟨a0, hxs⟩ := hsn C _ (hx s (by simp [ho, Op.operands, Call.operands]))
      have hxx := hx x (by simp [ho, Op.operands, Call.operands])
      have hfr' := hrd (nw, .fresh) (by simp)
      obtain ⟨C1, R1, hle1, hcur1, hG1, _⟩ := R.hdNil hfr' e q a0
      obtain ⟨ad, c, news, e1, l1, l2, l3, l4⟩ := hnews w0 lent C σ w _ R (fun p hp => hrd p (by simp [hp])) hxx
      have hown : rowH w e q (.slice a0 0 0) 0 [] := ⟨by simp, .inl ⟨rfl, a0, rfl⟩⟩
      obtain ⟨u', w', hr, hg⟩ := append_runH (P := P) (ty := o.type) (c := c) hu hi hz hq hb hzs hpos hown l1 l3 l2 (by simpa using h1) (by simpa using h2)
      obtain ⟨hil, _⟩ := List.getElem?_eq_some_iff.1 hfr'
      have hrow := hg.row
      simp only [Nat.zero_add, List.nil_append] at hrow
      obtain ⟨C2, R2, hle2, hv2⟩ := R1.turn (i := nw) (vs' := ys) (by rw [List.getElem?_set_self hil]) hcur1 hrow (l4.mono hle1) hg.os hg.tape hg.output hg.size (by rcases hg.heap with h | h; exact .inl h; exact .inr (.inl h))
      have hrun : (execOp a.eval o).run P w = .ok (.value u') w' := by
        simp [execOp, ho, resolve, invoke, builtin, hxs, e1, hr]
      unfold Oper.wp
      rw [hrun]
      rw [List.set_set] at R2
      refine hK C2 w' u' ?_ (Cx.le_trans hle1 hle2) (by simpa using hv2)
      simpa [upd] using R2
    split at h
    · rename_i hsn
      obtain ⟨h1, h2, h⟩ := h
      have hfr := hnw (by rw [hsn]; trivial)
      exact ⟨_, _, _, h, hfirst (K' := True) (xa := .nil) (fun C u hv => by rw [hsn] at hv; unfold VR at hv; exact ⟨none, hv⟩) hfr h1 h2, by simp, fun p hp => by rcases List.mem_cons.1 hp with rfl | hp; exact hfr; exact hrd0 p hp⟩
    · rename_i hsn
      obtain ⟨h1, h2, h⟩ := h
      have hfr := hnw (by rw [hsn]; trivial)
      exact ⟨_, _, _, h, hfirst (K' := True) (xa := .nil) (fun C u hv => by rw [hsn] at hv; unfold VR at hv; exact hv) hfr h1 h2, by simp, fun p hp => by rcases List.mem_cons.1 hp with rfl | hp; exact hfr; exact hrd0 p hp⟩
    · rename_i i0 off0 l0 c0 hsn
      obtain ⟨rfl, rfl, h1, h2, h⟩ := h
      have hfr := hnw (by rw [hsn]; trivial)
      exact ⟨_, _, _, h, hfirst (K' := True) (xa := .nil) (fun C u hv => by rw [hsn] at hv; unfold VR at hv; obtain ⟨_, _, hv⟩ := hv; exact ⟨_, hv⟩) hfr h1 h2, by simp, fun p hp => by rcases List.mem_cons.1 hp with rfl | hp; exact hfr; exact hrd0 p hp⟩
    · rename_i c k n hsn
      split at h
      · rename_i e' q' k' n' vs hσ
        obtain ⟨rfl, rfl, rfl, rfl, h1, h2, h⟩ := h
        refine ⟨_, _, _, h, fun w0 lent C σ w a R hx hrd K Q hK => ?_, by simp, fun p hp => by rcases List.mem_cons.1 hp with rfl | hp; exact hσ; exact hrd0 p hp⟩
        have hxs := hx s (by simp [ho, Op.operands, Call.operands]); rw [hsn] at hxs; unfold VR at hxs
        have hxx := hx x (by simp [ho, Op.operands, Call.operands])
        obtain ⟨_, _, _, k4⟩ := hxs
        have hi' := hrd (c, .grw e' q' k' n' vs) (by simp)
        obtain ⟨_, u, cs, hcur, hown, hvs, _⟩ := R.obs c _ hi'
        have hvu := (k4 _ _ hcur).2 rfl
        obtain ⟨ad, c', news, e1, l1, l2, l3, l4⟩ := hnews w0 lent C σ w _ R (fun p hp => hrd p (by simp [hp])) hxx
        obtain ⟨u', w', hr, hg⟩ := append_runH (P := P) (ty := o.type) (c := c') hu hi hz hq hb hzs hpos hown l1 l3 l2 h1 h2
        obtain ⟨C2, R2, hle2, hv2⟩ := R.turn hi' hcur hg.row (hvs.append l4) hg.os hg.tape hg.output hg.size (by rcases hg.heap with h | h; exact .inl h; exact .inr (.inl h))
        have hrun : (execOp a.eval o).run P w = .ok (.value u') w' := by
          simp [execOp, ho, resolve, invoke, builtin, hvu, e1, hr]
        unfold Oper.wp
        rw [hrun]
        exact hK C2 w' u' (by simpa [upd] using R2) hle2 hv2
      · exact h.elim
    · exact h.elim
  · exact h.elim
end
end Go.Proofs.Ytgebfcdcpmmgnaa.Vs
