/- Values seen from above: what data reads as, whatever memory it lies in; the relation to the model's values. -/
import Derived.Below
import Derived.Deep.Draws
import Derived.OwnWalk
import Derived.Laws.BytesArg
import Derived.Laws.MakeOwn
import Derived.Laws.OwnMore
import Derived.Laws.Slices
import Derived.WalkKit
import Derived.WalkSpells
import Derived.KernelRfl
import Derived.RowKit3
import Derived.WideLaws
import Derived.Laws.Rows
import Derived.Laws.BitsLemmas
import Derived.RowKit
set_option linter.unusedVariables false
set_option linter.unusedSimpArgs false
namespace Go.Proofs.Ytgebfcdcpmmgnaa.Vs
open Go.RowKit
/-- Data: without addresses. sl: a slice (nil or not), q cells an element. agg: a struct or an array, by its cells. -/
inductive D where
  | int (k : IntKind) (n : Int) | bool (b : Bool) | str (s : List UInt8) | sl (q : Nat) (xs : List D) | agg (xs : List D)
  | nilp | nilf | nilm | nili
  deriving Inhabited
/-- Values: with names of what the function owns. own: a slice that may be appended to (its row is named c). el: a pointer into data x of q cells. -/
inductive V where
  | any | d (x : D) | nil | own (q : Nat) (xs : List D) (c : Nat) | ptr (i off : Nat) | row (i off len cap : Nat) | map (i : Nat)
  | hd (i k n : Nat) | ep (i k off : Nat) | z0 | nn (b : Bool) (q : Nat) (xs : List D)
  | el (q : Nat) (x : D) (off : Nat) | fn (f : Fn) (fs caps : List V) | iface (t : TypeId) (v : V) | agg (vs : List V) | tup (vs : List V)
  deriving Inhabited
/-- What is named: a block of cells; a row that grows (n elements so far); nothing any more; not yet. mq: a map that is being made of these entries; tick m j: map m has its entry j. -/
inductive Ob where
  | dead | fresh | cells (t : TypeId) (vs : List V) | cap (t : TypeId) (q n : Nat) | grw (t : TypeId) (q k n : Nat) (vs : List V) | mp (es : List (D × V × Nat)) (clock : Nat)
  | mq (es : List (D × V)) | tick (m j : Nat)
  deriving Inhabited
/-- Cells that stay as they are. -/
abbrev GC := Nat → Nat → Option Value
def GC.le (G G' : GC) : Prop := ∀ b o v, G b o = some v → G' b o = some v
theorem GC.le_refl (G : GC) : G.le G := fun _ _ _ h => h
theorem GC.le_trans {A B C : GC} (h : A.le B) (k : B.le C) : A.le C := fun b o v x => k b o v (h b o v x)
mutual
/-- Data lies in cells (in one, but for structs and arrays). -/
def DR (G : GC) : D → List Value → Prop
  | .int k n, cs => cs = [.int k n]
  | .bool b, cs => cs = [.bool b]
  | .str s, cs => cs = [.string ⟨s.toArray⟩] ∧ s.length ≤ maxLen
  | .sl q xs, cs => ∃ a c, cs = [.slice a xs.length c] ∧ xs.length ≤ c ∧ c ≤ maxLen ∧ 0 < q ∧ (xs ≠ [] → ∃ b o, a = some ⟨b, o, none⟩ ∧ DRow G q xs b o)
  | .agg xs, cs => DAgg G xs cs
  | .nilp, cs => cs = [.pointer none]
  | .nilf, cs => cs = [.nilFunc]
  | .nilm, cs => cs = [.map none]
  | .nili, cs => cs = [.nilIface]
def DAgg (G : GC) : List D → List Value → Prop
  | [], cs => cs = []
  | x :: xs, cs => ∃ v r, cs = v :: r ∧ DR G x [v] ∧ DAgg G xs r
def DRow (G : GC) (q : Nat) : List D → Nat → Nat → Prop
  | [], _, _ => True
  | x :: xs, b, o => (∃ cs, cs.length = q ∧ DR G x cs ∧ ∀ j v, cs[j]? = some v → G b (o + j) = some v) ∧ DRow G q xs b (o + q)
end
theorem cons_one {α : Type} {x : α} {v : α} {P : α → Prop} (h : [v] = [x]) (hx : P x) : P v := by injection h with h; subst h; exact hx
mutual
theorem DR.mono {G G' : GC} (hG : G.le G') : ∀ {x : D} {cs : List Value}, DR G x cs → DR G' x cs
  | .int _ _, _, h => h
  | .bool _, _, h => h
  | .str _, _, h => h
  | .sl q xs, cs, h => by
    unfold DR at h ⊢
    obtain ⟨a, c, e, h1, h2, h3, h4⟩ := h
    exact ⟨a, c, e, h1, h2, h3, fun hn => let ⟨b, o, e2, hr⟩ := h4 hn; ⟨b, o, e2, DRow.mono hG hr⟩⟩
  | .agg xs, cs, h => by
    unfold DR at h ⊢
    exact DAgg.mono hG h
  | .nilp, _, h => h
  | .nilf, _, h => h
  | .nilm, _, h => h
  | .nili, _, h => h
theorem DAgg.mono {G G' : GC} (hG : G.le G') : ∀ {xs : List D} {cs : List Value}, DAgg G xs cs → DAgg G' xs cs
  | [], _, h => h
  | x :: xs, cs, h => by
    unfold DAgg at h ⊢
    obtain ⟨v, r, e, h1, h2⟩ := h
    exact ⟨v, r, e, DR.mono hG h1, DAgg.mono hG h2⟩
theorem DRow.mono {G G' : GC} (hG : G.le G') : ∀ {q : Nat} {xs : List D} {b o : Nat}, DRow G q xs b o → DRow G' q xs b o
  | _, [], _, _, _ => by unfold DRow; trivial
  | q, x :: xs, b, o, h => by
    unfold DRow at h ⊢
    obtain ⟨⟨cs, h1, h2, h3⟩, h4⟩ := h
    exact ⟨⟨cs, h1, DR.mono hG h2, fun j v hv => hG _ _ _ (h3 j v hv)⟩, DRow.mono hG h4⟩
end
mutual
/-- Each cell is one. -/
theorem DR.one {G : GC} : ∀ {x : D} {cs : List Value}, DR G x cs → ∀ v ∈ cs, v.oneCell' = true
  | .int _ _, _, h => by unfold DR at h; subst h; simp [Value.oneCell']
  | .bool _, _, h => by unfold DR at h; subst h; simp [Value.oneCell']
  | .str _, _, h => by unfold DR at h; obtain ⟨rfl, _⟩ := h; simp [Value.oneCell']
  | .sl q xs, cs, h => by unfold DR at h; obtain ⟨a, c, rfl, _⟩ := h; simp [Value.oneCell']
  | .agg xs, cs, h => by unfold DR at h; exact DAgg.one h
  | .nilp, _, h => by unfold DR at h; subst h; simp [Value.oneCell']
  | .nilf, _, h => by unfold DR at h; subst h; simp [Value.oneCell']
  | .nilm, _, h => by unfold DR at h; subst h; simp [Value.oneCell']
  | .nili, _, h => by unfold DR at h; subst h; simp [Value.oneCell']
theorem DAgg.one {G : GC} : ∀ {xs : List D} {cs : List Value}, DAgg G xs cs → ∀ v ∈ cs, v.oneCell' = true
  | [], _, h => by unfold DAgg at h; subst h; simp
  | x :: xs, cs, h => by
    unfold DAgg at h
    obtain ⟨v, r, rfl, h1, h2⟩ := h
    intro u hu
    rcases List.mem_cons.1 hu with rfl | hu
    · exact DR.one h1 _ (by simp)
    · exact DAgg.one h2 u hu
end
theorem DAgg.length {G : GC} : ∀ {xs : List D} {cs : List Value}, DAgg G xs cs → cs.length = xs.length
  | [], _, h => by unfold DAgg at h; subst h; rfl
  | x :: xs, cs, h => by
    unfold DAgg at h
    obtain ⟨v, r, rfl, _, h2⟩ := h
    simp [DAgg.length h2]
/-- How many cells. -/
def D.sz : D → Nat
  | .agg xs => xs.length
  | _ => 1
theorem DR.len {G : GC} {x : D} {cs : List Value} (h : DR G x cs) : cs.length = x.sz := by
  cases x <;> unfold DR at h
  case str => obtain ⟨rfl, _⟩ := h; rfl
  case sl => obtain ⟨a, c, rfl, _⟩ := h; rfl
  case agg => exact h.length
  all_goals (subst h; rfl)
/-- A cell of data. -/
def D.cell : D → Nat → D
  | .agg xs, i => xs.getD i .nilp
  | x, _ => x
theorem DAgg.get {G : GC} : ∀ {xs : List D} {cs : List Value} {i : Nat} {u : Value}, DAgg G xs cs → cs[i]? = some u → DR G (xs.getD i .nilp) [u]
  | [], _, _, _, h, hu => by unfold DAgg at h; subst h; simp at hu
  | x :: xs, cs, 0, u, h, hu => by unfold DAgg at h; obtain ⟨v, r, rfl, h1, _⟩ := h; simp at hu; subst hu; exact h1
  | x :: xs, cs, i + 1, u, h, hu => by unfold DAgg at h; obtain ⟨v, r, rfl, _, h2⟩ := h; simpa using DAgg.get h2 (by simpa using hu)
theorem DR.cell {G : GC} {x : D} {cs : List Value} {i : Nat} {u : Value} (h : DR G x cs) (hu : cs[i]? = some u) : DR G (x.cell i) [u] := by
  have hl := h.len
  cases x
  case agg xs => unfold DR at h; exact h.get hu
  all_goals
    have h1 : cs.length = 1 := hl
    obtain ⟨v, rfl⟩ := List.length_eq_one_iff.1 h1
    cases i with
    | zero => simp at hu; subst hu; exact h
    | succ i => simp at hu
/-- A row's elements. -/
theorem DRow.get {G : GC} {q : Nat} : ∀ {xs : List D} {b o i : Nat} {x : D}, DRow G q xs b o → xs[i]? = some x → ∃ cs, cs.length = q ∧ DR G x cs ∧ ∀ j v, cs[j]? = some v → G b (o + i * q + j) = some v
  | [], _, _, _, _, _, hx => by simp at hx
  | y :: ys, b, o, 0, x, h, hx => by
    unfold DRow at h
    simp at hx
    subst hx
    simpa using h.1
  | y :: ys, b, o, i + 1, x, h, hx => by
    unfold DRow at h
    have := DRow.get h.2 (by simpa using hx)
    rw [show o + (i + 1) * q = o + q + i * q by rw [Nat.add_mul]; omega]
    exact this
theorem DRow.of {G : GC} {q : Nat} : ∀ {xs : List D} {b o : Nat}, (∀ i x, xs[i]? = some x → ∃ cs, cs.length = q ∧ DR G x cs ∧ ∀ j v, cs[j]? = some v → G b (o + i * q + j) = some v) → DRow G q xs b o
  | [], _, _, _ => by unfold DRow; trivial
  | y :: ys, b, o, h => by
    unfold DRow
    refine ⟨by simpa using h 0 y rfl, DRow.of fun i x hx => ?_⟩
    have := h (i + 1) x (by simpa using hx)
    rw [show o + (i + 1) * q = o + q + i * q by rw [Nat.add_mul]; omega] at this
    exact this
theorem DRow.drop {G : GC} {q : Nat} {xs : List D} {b o : Nat} (h : DRow G q xs b o) (k : Nat) : DRow G q (xs.drop k) b (o + k * q) :=
  .of fun i x hx => by
    rw [List.getElem?_drop] at hx
    have := h.get hx
    rw [show o + (k + i) * q = o + k * q + i * q by rw [Nat.add_mul]; omega] at this
    exact this
theorem DRow.take {G : GC} {q : Nat} {xs : List D} {b o : Nat} (h : DRow G q xs b o) (k : Nat) : DRow G q (xs.take k) b o :=
  .of fun i x hx => by
    rw [List.getElem?_take] at hx
    split at hx
    · exact h.get hx
    · cases hx
/-- All cells of a row, one behind the other. -/
theorem DRow.cells {G : GC} {q : Nat} : ∀ {xs : List D} {b o : Nat}, DRow G q xs b o → ∃ cs : List Value, cs.length = xs.length * q ∧ (∀ v ∈ cs, v.oneCell' = true) ∧ ∀ j v, cs[j]? = some v → G b (o + j) = some v
  | [], _, _, _ => ⟨[], by simp, by simp, by simp⟩
  | x :: xs, b, o, h => by
    unfold DRow at h
    obtain ⟨⟨cs, h1, h2, h3⟩, h4⟩ := h
    obtain ⟨ds, k1, k2, k3⟩ := DRow.cells h4
    refine ⟨cs ++ ds, by simp [h1, k1, Nat.add_mul]; omega, fun v hv => ?_, fun j v hv => ?_⟩
    · rcases List.mem_append.1 hv with h | h
      · exact h2.one v h
      · exact k2 v h
    · by_cases hj : j < cs.length
      · rw [List.getElem?_append_left hj] at hv
        exact h3 j v hv
      · rw [List.getElem?_append_right (by omega)] at hv
        have := k3 _ _ hv
        rw [h1] at this
        rwa [show o + q + (j - q) = o + j by omega] at this
/-- Where a function's names are; which rows grow: how far, and the slice. -/
structure Cx where
  G : GC
  ρ : List (Option Nat)
  cur : Nat → Option (Nat × Value)
structure Cx.le (C C' : Cx) : Prop where
  G : C.G.le C'.G
  ρ : ∀ (i b : Nat), C.ρ[i]? = some (some b) → C'.ρ[i]? = some (some b)
  len : C.ρ.length ≤ C'.ρ.length
  cur : ∀ (c n : Nat) (u : Value), c < C.ρ.length → C'.cur c = some (n, u) → C.ρ[c]? ≠ some none → ∃ m v, C.cur c = some (m, v) ∧ ((m = n ∧ v = u) ∨ m < n)
  st : ∀ c : Nat, C'.ρ[c]? = some none → c < C.ρ.length → C.ρ[c]? = some none
mutual
def VR (C : Cx) : V → Value → Prop
  | .any, _ => True
  | .d x, v => DR C.G x [v]
  | .nil, v => v = .slice none 0 0
  | .own q xs c, v => DR C.G (.sl q xs) [v] ∧ c < C.ρ.length ∧ C.ρ[c]? ≠ some none ∧ ∀ n u, C.cur c = some (n, u) → xs.length ≤ n ∧ (n = xs.length → v = u)
  | .ptr i off, v => ∃ b, C.ρ[i]? = some (some b) ∧ v = .pointer (some ⟨b, off, none⟩)
  | .row i off len cap, v => ∃ b, C.ρ[i]? = some (some b) ∧ v = .slice (some ⟨b, off, none⟩) len cap
  | .map i, v => ∃ b, C.ρ[i]? = some (some b) ∧ v = .map (some b)
  | .hd i k n, v => i < C.ρ.length ∧ C.ρ[i]? ≠ some none ∧ (∃ a c, v = .slice a n c ∧ (n ≠ 0 → ∃ b, a = some ⟨b, 0, none⟩)) ∧ ∀ m u, C.cur i = some (m, u) → k ≤ m ∧ (m = k → v = u)
  | .ep i k off, v => i < C.ρ.length ∧ C.ρ[i]? ≠ some none ∧ (∃ b, v = .pointer (some ⟨b, off, none⟩)) ∧ ∀ m u, C.cur i = some (m, u) → k ≤ m ∧ (m = k → ∃ b n c, u = .slice (some ⟨b, 0, none⟩) n c ∧ v = .pointer (some ⟨b, off, none⟩))
  | .z0, v => ∃ a, v = .slice a 0 0
  | .nn b q xs, v => DR C.G (.sl q xs) [v] ∧ ∃ a n c, v = .slice a n c ∧ a.isNone = b
  | .el q x off, v => ∃ b o cs, v = .pointer (some ⟨b, o + off, none⟩) ∧ cs.length = q ∧ DR C.G x cs ∧ ∀ (j : Nat) (u : Value), cs[j]? = some u → C.G b (o + j) = some u
  | .fn f fs caps, v => ∃ us vs, v = .func f us.toArray vs.toArray ∧ VRs C fs us ∧ VRs C caps vs
  | .iface t x, v => ∃ u, v = .iface t u ∧ VR C x u
  | .agg xs, v => ∃ us, v = .agg us.toArray ∧ VRs C xs us
  | .tup xs, v => ∃ us, v = .tuple us.toArray ∧ VRs C xs us
def VRs (C : Cx) : List V → List Value → Prop
  | [], vs => vs = []
  | x :: xs, vs => ∃ v r, vs = v :: r ∧ VR C x v ∧ VRs C xs r
end
theorem Cx.le_refl (C : Cx) : C.le C := ⟨GC.le_refl _, fun _ _ h => h, Nat.le_refl _, fun c n u _ h _ => ⟨n, u, h, .inl ⟨rfl, rfl⟩⟩, fun _ h _ => h⟩
theorem Cx.le_trans {A B C : Cx} (h : A.le B) (k : B.le C) : A.le C := by
  refine ⟨GC.le_trans h.G k.G, fun i b x => k.ρ _ _ (h.ρ _ _ x), Nat.le_trans h.len k.len, fun c n u hc hn hne => ?_, fun c hc hl => h.st c (k.st c hc (Nat.lt_of_lt_of_le hl h.len)) hl⟩
  have hB : B.ρ[c]? ≠ some none := fun e => hne (h.st c e hc)
  obtain ⟨m, v, h1, h2⟩ := k.cur c n u (Nat.lt_of_lt_of_le hc h.len) hn hB
  obtain ⟨l, x, h3, h4⟩ := h.cur c m v hc h1 hne
  refine ⟨l, x, h3, ?_⟩
  rcases h2 with ⟨rfl, rfl⟩ | h2
  · exact h4
  · rcases h4 with ⟨rfl, rfl⟩ | h4
    · exact .inr h2
    · exact .inr (by omega)
mutual
theorem VR.mono {C C' : Cx} (h : C.le C') : ∀ {x : V} {v : Value}, VR C x v → VR C' x v
  | .any, _, _ => by unfold VR; trivial
  | .d x, v, k => by unfold VR at k ⊢; exact k.mono h.G
  | .nil, _, k => by unfold VR at k ⊢; exact k
  | .own q xs c, v, k => by
    unfold VR at k ⊢
    obtain ⟨k1, k2, k3, k4⟩ := k
    refine ⟨k1.mono h.G, Nat.lt_of_lt_of_le k2 h.len, fun e => k3 (h.st c e k2), fun n u hn => ?_⟩
    obtain ⟨m, y, h1, h2⟩ := h.cur c n u k2 hn k3
    obtain ⟨k5, k6⟩ := k4 m y h1
    rcases h2 with ⟨rfl, rfl⟩ | h2
    · exact ⟨k5, k6⟩
    · exact ⟨by omega, fun e => by omega⟩
  | .ptr i off, v, k => by unfold VR at k ⊢; obtain ⟨b, h1, h2⟩ := k; exact ⟨b, h.ρ _ _ h1, h2⟩
  | .row i off len cap, v, k => by unfold VR at k ⊢; obtain ⟨b, h1, h2⟩ := k; exact ⟨b, h.ρ _ _ h1, h2⟩
  | .map i, v, k => by unfold VR at k ⊢; obtain ⟨b, h1, h2⟩ := k; exact ⟨b, h.ρ _ _ h1, h2⟩
  | .hd i kk n, v, k => by
    unfold VR at k ⊢
    obtain ⟨k2, k3, k1, k4⟩ := k
    refine ⟨Nat.lt_of_lt_of_le k2 h.len, fun e => k3 (h.st i e k2), k1, fun n u hn => ?_⟩
    obtain ⟨m, y, h1, h2⟩ := h.cur i n u k2 hn k3
    obtain ⟨k5, k6⟩ := k4 m y h1
    rcases h2 with ⟨rfl, rfl⟩ | h2
    · exact ⟨k5, k6⟩
    · exact ⟨by omega, fun e => by omega⟩
  | .ep i kk off, v, k => by
    unfold VR at k ⊢
    obtain ⟨k2, k3, k1, k4⟩ := k
    refine ⟨Nat.lt_of_lt_of_le k2 h.len, fun e => k3 (h.st i e k2), k1, fun n u hn => ?_⟩
    obtain ⟨m, y, h1, h2⟩ := h.cur i n u k2 hn k3
    obtain ⟨k5, k6⟩ := k4 m y h1
    rcases h2 with ⟨rfl, rfl⟩ | h2
    · exact ⟨k5, k6⟩
    · exact ⟨by omega, fun e => by omega⟩
  | .z0, v, k => by unfold VR at k ⊢; exact k
  | .nn b q xs, v, k => by unfold VR at k ⊢; exact ⟨k.1.mono h.G, k.2⟩
  | .el q x off, v, k => by unfold VR at k ⊢; obtain ⟨b, o, cs, h1, h0, h2, h3⟩ := k; exact ⟨b, o, cs, h1, h0, h2.mono h.G, fun j u hu => h.G _ _ _ (h3 j u hu)⟩
  | .fn f fs caps, v, k => by unfold VR at k ⊢; obtain ⟨us, vs, h1, h0, h2⟩ := k; exact ⟨us, vs, h1, VRs.mono h h0, VRs.mono h h2⟩
  | .iface t x, v, k => by unfold VR at k ⊢; obtain ⟨u, h1, h2⟩ := k; exact ⟨u, h1, VR.mono h h2⟩
  | .agg xs, v, k => by unfold VR at k ⊢; obtain ⟨vs, h1, h2⟩ := k; exact ⟨vs, h1, VRs.mono h h2⟩
  | .tup xs, v, k => by unfold VR at k ⊢; obtain ⟨vs, h1, h2⟩ := k; exact ⟨vs, h1, VRs.mono h h2⟩
theorem VRs.mono {C C' : Cx} (h : C.le C') : ∀ {xs : List V} {vs : List Value}, VRs C xs vs → VRs C' xs vs
  | [], _, k => by unfold VRs at k ⊢; exact k
  | x :: xs, vs, k => by unfold VRs at k ⊢; obtain ⟨v, r, e, h1, h2⟩ := k; exact ⟨v, r, e, VR.mono h h1, VRs.mono h h2⟩
end
section
variable {C : Cx}
theorem VRs.length : ∀ {xs : List V} {vs : List Value}, VRs C xs vs → vs.length = xs.length
  | [], _, k => by unfold VRs at k; subst k; rfl
  | x :: xs, vs, k => by unfold VRs at k; obtain ⟨v, r, rfl, _, h2⟩ := k; simp [VRs.length h2]
theorem VRs.get : ∀ {xs : List V} {vs : List Value} {i : Nat} {x : V}, VRs C xs vs → xs[i]? = some x → ∃ v, vs[i]? = some v ∧ VR C x v
  | [], _, _, _, _, hx => by simp at hx
  | y :: ys, vs, 0, x, k, hx => by unfold VRs at k; obtain ⟨v, r, rfl, h1, _⟩ := k; simp at hx; subst hx; exact ⟨v, rfl, h1⟩
  | y :: ys, vs, i + 1, x, k, hx => by unfold VRs at k; obtain ⟨v, r, rfl, _, h2⟩ := k; simpa using VRs.get h2 (by simpa using hx)
theorem VRs.of : ∀ {xs : List V} {vs : List Value}, vs.length = xs.length → (∀ (i : Nat) (x : V) (v : Value), xs[i]? = some x → vs[i]? = some v → VR C x v) → VRs C xs vs
  | [], vs, h, _ => by unfold VRs; exact List.eq_nil_of_length_eq_zero h
  | x :: xs, [], h, _ => by simp at h
  | x :: xs, v :: vs, h, k => by
    unfold VRs
    exact ⟨v, vs, rfl, k 0 x v rfl rfl, VRs.of (by simpa using h) fun i y u hy hu => k (i + 1) y u (by simpa using hy) (by simpa using hu)⟩
theorem VRs.set {xs : List V} {vs : List Value} {i : Nat} {x : V} {v : Value} (h : VRs C xs vs) (hx : VR C x v) : VRs C (xs.set i x) (vs.set i v) :=
  .of (by simp [h.length]) fun j y u hy hu => by
    rw [List.getElem?_set] at hy hu
    split at hy
    · rename_i hij
      rw [if_pos hij] at hu
      split at hy
      · rw [if_pos (by rw [h.length]; assumption)] at hu
        injection hy with hy; injection hu with hu
        subst hy; subst hu; exact hx
      · cases hy
    · rename_i hij
      rw [if_neg hij] at hu
      obtain ⟨w, h1, h2⟩ := h.get hy
      rw [h1] at hu; injection hu with hu; subst hu; exact h2
theorem VRs.take {xs : List V} {vs : List Value} (h : VRs C xs vs) (n : Nat) : VRs C (xs.take n) (vs.take n) :=
  .of (by simp [h.length]) fun j y u hy hu => by
    rw [List.getElem?_take] at hy hu
    split at hy
    · rename_i hj
      rw [if_pos hj] at hu
      obtain ⟨w, h1, h2⟩ := h.get hy
      rw [h1] at hu; injection hu with hu; subst hu; exact h2
    · cases hy
theorem VRs.drop {xs : List V} {vs : List Value} (h : VRs C xs vs) (n : Nat) : VRs C (xs.drop n) (vs.drop n) :=
  .of (by simp [h.length]) fun j y u hy hu => by
    rw [List.getElem?_drop] at hy hu
    obtain ⟨w, h1, h2⟩ := h.get hy
    rw [h1] at hu; injection hu with hu; subst hu; exact h2
theorem VRs.append {xs ys : List V} {vs us : List Value} (h : VRs C xs vs) (k : VRs C ys us) : VRs C (xs ++ ys) (vs ++ us) :=
  .of (by simp [h.length, k.length]) fun j y u hy hu => by
    by_cases hj : j < xs.length
    · rw [List.getElem?_append_left hj] at hy
      rw [List.getElem?_append_left (by rw [h.length]; exact hj)] at hu
      obtain ⟨w, h1, h2⟩ := h.get hy
      rw [h1] at hu; injection hu with hu; subst hu; exact h2
    · rw [List.getElem?_append_right (by omega)] at hy
      rw [List.getElem?_append_right (by rw [h.length]; omega), h.length] at hu
      obtain ⟨w, h1, h2⟩ := k.get hy
      rw [h1] at hu; injection hu with hu; subst hu; exact h2
theorem VRs.nil : VRs C [] [] := by unfold VRs; rfl
theorem VRs.cons {x : V} {v : Value} {xs : List V} {vs : List Value} (h : VR C x v) (k : VRs C xs vs) : VRs C (x :: xs) (v :: vs) := by unfold VRs; exact ⟨v, vs, rfl, h, k⟩
theorem dagg_vrs : ∀ {xs : List D} {cs : List Value}, DAgg C.G xs cs → VRs C (xs.map .d) cs
  | [], _, h => by unfold DAgg at h; subst h; exact .nil
  | x :: xs, cs, h => by
    unfold DAgg at h
    obtain ⟨v, r, rfl, h1, h2⟩ := h
    exact .cons (by unfold VR; exact h1) (dagg_vrs h2)
end
end Go.Proofs.Ytgebfcdcpmmgnaa.Vs
