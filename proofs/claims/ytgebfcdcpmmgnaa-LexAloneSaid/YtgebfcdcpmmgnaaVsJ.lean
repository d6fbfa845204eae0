/- Rows that grow: append, literals, make. -/
import Derived.Test.YtgebfcdcpmmgnaaVsI
set_option linter.unusedVariables false
set_option linter.unusedSimpArgs false
namespace Go.Proofs.Ytgebfcdcpmmgnaa.Vs
open Go.RowKit
/-- What an append does to memory. -/
structure Grown (w : World) (e q : Nat) (u : Value) (n : Nat) (cs : List Value) (w' : World) (u' : Value) (m : Nat) (news : List Value) : Prop where
  row : w'.ownsRow 0 e q u' (n + m) (cs ++ news)
  os : w'.os = w.os
  tape : w'.tape = w.tape
  output : w'.output = w.output
  size : w.heap.size ≤ w'.heap.size
  same : m = 0 → u' = u
  heap : (u'.ownBlock = u.ownBlock ∧ ∀ b, b < w.heap.size → u.ownBlock ≠ some b → w'.heap[b]? = w.heap[b]?) ∨ (u'.ownBlock = some w.heap.size ∧ ∀ b, b < w.heap.size → w'.heap[b]? = w.heap[b]?)
section
variable {P : Program} {w : World}
theorem zeroCells_size (z : Array Value) (n : Nat) : (Builtin.zeroCells z n).size = n * z.size := by simp [Builtin.zeroCells]
theorem grown_new {e q : Nat} {u : Value} {n m cap : Nat} {cs news : List Value} {rest : Array Value} (hl : cs.length = n * q) (hm : news.length = m * q) (hc : n + m ≤ cap) (hcm : cap ≤ maxLen) (hr : rest.size = (cap - (n + m)) * q) (h0 : m ≠ 0) :
    Grown w e q u n cs (w.drew.alloc (.cells (cs.toArray ++ news.toArray ++ rest) e)) (.slice (some ⟨w.heap.size, 0, none⟩) (n + m) cap) m news := by
  have hlen : (cs ++ news).length = (n + m) * q := by rw [List.length_append, hl, hm, Nat.add_mul]
  refine ⟨⟨hlen, .inr ⟨w.heap.size, cap, _, rfl, Nat.zero_le _, Go.heap_alloc_new w.drew _, hc, hcm, ?_, ?_⟩⟩, rfl, rfl, rfl, by simp, fun h => absurd h h0, .inr ⟨rfl, fun b hb => Below.heap_alloc w.drew _ b hb⟩⟩
  · simp only [Array.size_append, List.size_toArray, hr, hl, hm, ← Nat.add_mul]
    congr 1; omega
  · simp only [Array.toList_append, List.append_assoc]
    rw [← List.append_assoc, ← hlen]
    exact List.take_left
theorem append_run {t ty e q b : Nat} {i : TypeInfo} {z : Value} (hu : P.underlying t = some (.slice e)) (hi : P.info? e = some i) (hz : i.zero = some z) (hq : i.size = q) (hb : i.bytes = b) (hzs : z.cells.size = q) (hpos : 0 < q)
    {u : Value} {n : Nat} {cs : List Value} (H : w.ownsRow 0 e q u n cs) {ad : Option Addr} {m c : Nat} {news : List Value} (hl : news.length = m * q) (hc : ∀ (j : Nat) (v : Value), news[j]? = some v → ∃ x, ad = some x ∧ w.cell? (x.add j) = some v) (h1 : ∀ v ∈ news, v.oneCell' = true)
    (hm : (n + m) * b ≤ 140737488355328) (h63 : n + m ≤ 9223372036854775807) : ∃ u' w', (Builtin.append_ #[t, t] ty #[u, .slice ad m c]).run P w = .ok u' w' ∧ Grown w e q u n cs w' u' m news := by
  subst hq; subst hb
  have hml : n + m ≤ maxLen := by simp only [maxLen]; omega
  have hgc : ∀ old, n + m ≤ grownCap w (n + m) old e ∧ grownCap w (n + m) old e ≤ maxLen := fun old => ⟨grownCap_ge w _ _ _, grownCap_le_maxLen w _ _ _ hml⟩
  have hsame : m = 0 → Grown w e i.size u n cs w u m news := fun h0 => by
    subst h0
    have hn : news = [] := List.eq_nil_of_length_eq_zero (by simpa using hl)
    subst hn
    exact ⟨by simpa using H, rfl, rfl, rfl, Nat.le_refl _, fun _ => rfl, .inl ⟨rfl, fun _ _ _ => rfl⟩⟩
  have had : m ≠ 0 → ∃ x, ad = some x ∧ ∀ (j : Nat) (v : Value), news[j]? = some v → w.cell? (x.add j) = some v := fun h0 => by
    have hlt : 0 < news.length := by rw [hl]; exact Nat.mul_pos (by omega) hpos
    obtain ⟨x, hx, _⟩ := hc 0 _ (List.getElem?_eq_getElem hlt)
    refine ⟨x, hx, fun j v hv => ?_⟩
    obtain ⟨x', hx', h⟩ := hc j v hv
    rw [hx] at hx'; injection hx' with hx'; subst hx'; exact h
  rcases H.2 with ⟨rfl, rfl⟩ | ⟨g, cap, cur, rfl, _, hg, hnc, hcm, hcs, ht⟩
  · have hx : cs = [] := List.eq_nil_of_length_eq_zero (by simpa using H.1)
    subst hx
    by_cases h0 : m = 0
    · refine ⟨_, _, ?_, hsame h0⟩
      subst h0
      cases ad <;> simp [Builtin.append_, run_underlying hu, sizeOf, typeInfo, hi, Builtin.lenOf, Builtin.firstCells, loadCells, loadCellsFrom]
    · obtain ⟨x, rfl, hx⟩ := had h0
      have hr := run_append_nil (P := P) w t ty e i z hu hi hz x m c news hl hx (by omega) (by omega) (by simp only [Nat.zero_add] at hm; omega)
      have hk := hgc 0
      simp only [Nat.zero_add] at hk
      refine ⟨_, _, hr, ?_⟩
      have := grown_new (w := w) (e := e) (q := i.size) (u := .slice none 0 0) (n := 0) (cs := []) (m := m) (cap := grownCap w m 0 e) (news := news) (rest := Builtin.zeroCells z.cells (grownCap w m 0 e - m)) (by simp) hl (by omega) hk.2 (by rw [zeroCells_size, hzs]; simp) h0
      simpa using this
  · by_cases hroom : n + m ≤ cap
    · by_cases h0 : m = 0
      · refine ⟨_, _, ?_, hsame h0⟩
        subst h0
        cases ad <;> simp [Builtin.append_, run_underlying hu, sizeOf, typeInfo, hi, Builtin.lenOf, Builtin.firstCells, loadCells, loadCellsFrom, hnc, storeCells]
      · obtain ⟨x, rfl, hx⟩ := had h0
        have hfit : n * i.size + news.length ≤ cur.size := by rw [hl, hcs, ← Nat.add_mul]; exact Nat.mul_le_mul_right _ hroom
        have hr := run_append_room (P := P) w t ty e i hu hi g n cap cur hg x m c news hl hx h1 hroom hfit
        refine ⟨_, _, hr, ⟨?_, .inr ⟨g, cap, _, rfl, Nat.zero_le _, setRow_heap w g cur _ e _ hg, hroom, hcm, ?_, ?_⟩⟩, rfl, rfl, rfl, by simp [World.setRow], fun h => absurd h h0, .inl ⟨rfl, fun b hb hne => setRow_other w g b _ (fun e => hne (by simp [Value.ownBlock, e]))⟩⟩
        · rw [List.length_append, H.1, hl, Nat.add_mul]
        · simp only [List.size_toArray, List.length_append, List.length_take, List.length_drop, Array.length_toList]
          omega
        · have hlen : (cs ++ news).length = (n + m) * i.size := by rw [List.length_append, H.1, hl, Nat.add_mul]
          rw [ht, ← hlen]
          exact List.take_left
    · obtain ⟨x, rfl, hx⟩ := had (by omega)
      have holds : ∀ (j : Nat) (v : Value), cs[j]? = some v → w.cell? ((⟨g, 0, none⟩ : Addr).add j) = some v := H.cells (g := g) rfl
      have hr := run_append_grow (P := P) w t ty e i z hu hi hz ⟨g, 0, none⟩ n cap cs H.1 holds x m c news hl hx (by omega) (by omega) (growslice_fits (by omega) hm)
      have hk := hgc cap
      exact ⟨_, _, hr, grown_new H.1 hl hk.1 hk.2 (by rw [zeroCells_size, hzs]) (by omega)⟩
end
section
variable {P : Program} {o : Oper} {ev : Operand → V} {w0 : Bs} {w w' : World} {lent : Nat → Prop} {C : Cx} {σ : List Ob}
/-- A row that grew: what is named so is more. -/
theorem Rel.grow (R : Rel w0 lent C σ w) {i : Nat} {e q n m : Nat} {xs ys : List D} {u u' : Value} {cs news : List Value} (hi : σ[i]? = some (.cap e q n)) (hcur : C.cur i = some (n, u)) (H : w.ownsRow 0 e q u n cs) (hpos : 0 < q) (hn : xs.length = n) (hm : ys.length = m)
    (hx : DR C.G (.sl q xs) [u]) (hy : ∀ (k : Nat) (y : D), ys[k]? = some y → ∃ ce, ce.length = q ∧ DR C.G y ce ∧ ∀ (j : Nat) (v : Value), ce[j]? = some v → news[k * q + j]? = some v)
    (hnl : news.length = m * q) (hg : Grown w e q u n cs w' u' m news) (hml : n + m ≤ maxLen) :
    ∃ C', Rel w0 lent C' (σ.set i (.cap e q (n + m))) w' ∧ C.le C' ∧ VR C' (.own q (xs ++ ys) i) u' := by
  obtain ⟨hρ, u0, cs0, hc0, hr0, hgh⟩ := R.obs i _ hi
  rw [hcur] at hc0
  simp only [Option.some.injEq, Prod.mk.injEq, true_and] at hc0
  subst hc0
  have hcs : cs0 = cs := by
    rcases hr0.2 with ⟨e1, e2⟩ | ⟨g, cap, cur, e1, _, h2, _, _, _, h3⟩
    · have h1 : cs0 = [] := List.eq_nil_of_length_eq_zero (by rw [hr0.1, e2]; simp)
      have h2 : cs = [] := List.eq_nil_of_length_eq_zero (by rw [H.1, e2]; simp)
      rw [h1, h2]
    · rcases H.2 with ⟨e3, _⟩ | ⟨g', cap', cur', e3, _, h4, _, _, _, h5⟩
      · rw [e1] at e3; cases e3
      · rw [e1] at e3
        injection e3 with e3 _ _
        injection e3 with e3
        injection e3 with e3
        subst e3
        rw [h2] at h4; injection h4 with h4; injection h4 with h4; subst h4
        rw [← h3, ← h5]
  subst hcs
  have hil : i < C.ρ.length := by rw [R.len]; exact (List.getElem?_eq_some_iff.1 hi).1
  -- cells of the row as it was
  have hold : ∀ (g k : Nat) (v : Value), u.ownBlock = some g → C.G g k = some v → cs0[k]? = some v := fun g k v hb h => by
    have hk : k < n * q := by
      rcases Nat.lt_or_ge k (n * q) with h' | h'
      · exact h'
      · rw [hgh g hb k h'] at h; cases h
    have h1 := R.ro g k v h
    have h2 := H.cells hb k (cs0[k]'(by rw [H.1]; exact hk)) (List.getElem?_eq_getElem _)
    rw [add_at, Nat.zero_add] at h2
    rw [h1] at h2
    rw [List.getElem?_eq_getElem (by rw [H.1]; exact hk)]
    exact h2.symm
  let G' : GC := fun b k => if u'.ownBlock = some b ∧ k < (n + m) * q then (cs0 ++ news)[k]? else C.G b k
  have hG1 : ∀ b k, u'.ownBlock = some b → k < (n + m) * q → G' b k = (cs0 ++ news)[k]? := fun b k h1 h2 => if_pos ⟨h1, h2⟩
  have hG2 : ∀ b k, ¬ (u'.ownBlock = some b ∧ k < (n + m) * q) → G' b k = C.G b k := fun b k h => if_neg h
  have hlen : (cs0 ++ news).length = (n + m) * q := by rw [List.length_append, H.1, hnl, Nat.add_mul]
  have hle : C.G.le G' := fun b k v h => by
    by_cases hc : u'.ownBlock = some b ∧ k < (n + m) * q
    · rw [hG1 b k hc.1 hc.2]
      rcases hg.heap with ⟨h1, _⟩ | ⟨h1, _⟩
      · have h3 := hold b k v (by rw [← h1]; exact hc.1) h
        rw [List.getElem?_append_left (List.getElem?_eq_some_iff.1 h3).1]
        exact h3
      · rw [h1] at hc
        obtain ⟨hc, _⟩ := hc
        injection hc with hc
        subst hc
        rw [R.noG _ (Nat.le_refl _) k] at h; cases h
    · rw [hG2 b k hc]; exact h
  let C' : Cx := { G := G', ρ := C.ρ, cur := fun j => if j = i then some (n + m, u') else C.cur j }
  have hCi : C'.cur i = some (n + m, u') := by simp [C']
  have hle' : C.le C' := by
    refine ⟨hle, fun _ _ h => h, Nat.le_refl _, fun c k v hc hk hne => ?_, fun _ h _ => h⟩
    by_cases e1 : c = i
    · subst e1
      rw [hCi] at hk
      simp only [Option.some.injEq, Prod.mk.injEq] at hk
      obtain ⟨rfl, rfl⟩ := hk
      refine ⟨n, u, hcur, ?_⟩
      by_cases h0 : m = 0
      · exact .inl ⟨by omega, (hg.same h0).symm⟩
      · exact .inr (by omega)
    · simp only [C', e1, if_false] at hk
      exact ⟨k, v, hk, .inl ⟨rfl, rfl⟩⟩
  have hcell : ∀ b k v, G' b k = some v → w'.cell? ⟨b, k, none⟩ = some v := fun b k v h => by
    by_cases hc : u'.ownBlock = some b ∧ k < (n + m) * q
    · rw [hG1 b k hc.1 hc.2] at h
      have := hg.row.cells hc.1 k v h
      rwa [add_at, Nat.zero_add] at this
    · rw [hG2 b k hc] at h
      have hb := World.block_lt_of_cell? w _ (R.ro b k v h)
      have h1 := R.ro b k v h
      rcases hg.heap with ⟨h2, h3⟩ | ⟨h2, h3⟩
      · by_cases hub : u.ownBlock = some b
        · exact absurd ⟨h2.trans hub, (by
            have h4 := (List.getElem?_eq_some_iff.1 (hold b k v hub h)).1
            rw [H.1] at h4
            rw [Nat.add_mul]; omega)⟩ hc
        · rw [World.cell?_of_block (h3 b hb hub)]; exact h1
      · rw [World.cell?_of_block (h3 b hb)]; exact h1
  refine ⟨C', R.step hi ⟨hle', rfl, fun _ _ => rfl, fun j hj => by simp [C', hj], fun b hb hne => ?_, hcell, fun b hb hne k => ?_, ?_, fun b hb => ?_, hg.size, hg.os, hg.tape, hg.output⟩, hle', ?_⟩
  · have hne' : u.ownBlock ≠ some b := fun e => hne (by simp [blockOf, hcur, e])
    rcases hg.heap with ⟨_, h3⟩ | ⟨_, h3⟩
    · exact h3 b hb hne'
    · exact h3 b hb
  · have hne' : u.ownBlock ≠ some b := fun e => hne (by simp [blockOf, hcur, e])
    refine hG2 b k (fun hc => ?_)
    rcases hg.heap with ⟨h2, _⟩ | ⟨h2, _⟩
    · exact hne' (h2 ▸ hc.1)
    · rw [h2] at hc
      obtain ⟨hc, _⟩ := hc
      injection hc with hc
      omega
  · exact ⟨hρ, u', cs0 ++ news, hCi, hg.row, fun b hb k hk => by
      show G' b k = none
      rw [hG2 b k (fun hc => by omega)]
      rcases hg.heap with ⟨h2, _⟩ | ⟨h2, _⟩
      · exact hgh b (h2 ▸ hb) k (by rw [Nat.add_mul] at hk; omega)
      · rw [h2] at hb
        injection hb with hb
        subst hb
        exact R.noG _ (Nat.le_refl _) k⟩
  · simp only [blockOf, hCi, Option.bind_some] at hb
    simp only [blockOf, hcur, Option.bind_some]
    rcases hg.heap with ⟨h2, _⟩ | ⟨h2, _⟩
    · exact .inl (h2 ▸ hb)
    · rw [h2] at hb
      injection hb with hb
      exact .inr (by omega)
  · unfold VR
    refine ⟨?_, hil, hρ, fun k v hk => ?_⟩
    · unfold DR
      have hlx : (xs ++ ys).length = n + m := by rw [List.length_append, hn, hm]
      rcases hg.row.2 with ⟨rfl, h0⟩ | ⟨g, cap, cur, rfl, _, hgb, hnc, hcm, _, _⟩
      · have : xs ++ ys = [] := List.eq_nil_of_length_eq_zero (by rw [hlx, h0])
        rw [this]
        exact ⟨none, 0, rfl, Nat.le_refl _, by simp [maxLen], hpos, fun h => absurd rfl h⟩
      · refine ⟨some ⟨g, 0, none⟩, cap, by rw [hlx], by rw [hlx]; exact hnc, hcm, hpos, fun _ => ⟨g, 0, rfl, DRow.of fun k y hk => ?_⟩⟩
        have hob : (Value.slice (some ⟨g, 0, none⟩) (n + m) cap).ownBlock = some g := rfl
        have hkl : k < n + m := by rw [← hlx]; exact (List.getElem?_eq_some_iff.1 hk).1
        have hbound : ∀ j, j < q → k * q + j < (n + m) * q := fun j hj => by
          have : (k + 1) * q ≤ (n + m) * q := Nat.mul_le_mul_right _ hkl
          rw [Nat.add_mul] at this; omega
        by_cases hkn : k < n
        · rw [List.getElem?_append_left (by omega)] at hk
          have hxne : xs ≠ [] := by intro e; subst e; simp at hn; omega
          obtain ⟨ad, c0, e1⟩ := dr_sl_ne hx hxne
          rcases H.2 with ⟨e2, _⟩ | ⟨g0, cap0, cur0, e2, _⟩
          · rw [e1] at e2; cases e2
          · subst e2
            unfold DR at hx
            obtain ⟨a2, c2, e3, _, _, _, h5⟩ := hx
            injection e3 with e3
            injection e3 with e3 _ _
            subst e3
            obtain ⟨b2, o2, e4, hrow⟩ := h5 hxne
            injection e4 with e4
            injection e4 with e4 e5
            subst e4; subst e5
            obtain ⟨ce, l1, l2, l3⟩ := hrow.get hk
            refine ⟨ce, l1, l2.mono hle, fun j v hj => ?_⟩
            have h6 := hold g0 _ v rfl (l3 j v hj)
            have hjl : j < q := by rw [← l1]; exact (List.getElem?_eq_some_iff.1 hj).1
            simp only [Nat.zero_add] at h6 ⊢
            show G' g (k * q + j) = some v
            rw [hG1 g _ hob (hbound j hjl), List.getElem?_append_left (List.getElem?_eq_some_iff.1 h6).1]
            exact h6
        · rw [List.getElem?_append_right (by omega), hn] at hk
          obtain ⟨ce, l1, l2, l3⟩ := hy _ y hk
          refine ⟨ce, l1, l2.mono hle, fun j v hj => ?_⟩
          have hjl : j < q := by rw [← l1]; exact (List.getElem?_eq_some_iff.1 hj).1
          have h6 := l3 j v hj
          simp only [Nat.zero_add]
          show G' g (k * q + j) = some v
          have h7 : n * q + ((k - n) * q + j) = k * q + j := by
            have : n * q + (k - n) * q = k * q := by rw [← Nat.add_mul]; congr 1; omega
            omega
          rw [hG1 g _ hob (hbound j hjl), List.getElem?_append_right (by rw [H.1]; omega), H.1, show k * q + j - n * q = (k - n) * q + j by omega]
          exact h6
    · rw [hCi] at hk
      simp only [Option.some.injEq, Prod.mk.injEq] at hk
      obtain ⟨rfl, rfl⟩ := hk
      exact ⟨by rw [List.length_append, hn, hm]; exact Nat.le_refl _, fun _ => rfl⟩
end
end Go.Proofs.Ytgebfcdcpmmgnaa.Vs
