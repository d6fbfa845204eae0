/- A small separation logic over the model's worlds: what is owned is listed, what is only read lies in a ghost heap. -/
import Derived.Below
import Derived.Deep.Draws
import Derived.OwnWalk
import Derived.Laws.BytesArg
import Derived.Laws.MakeOwn
import Derived.Laws.OwnMore
import Derived.Tactics
import Derived.Lib.ConvBytes
import Derived.Laws.Slices
import Derived.WalkKit
import Derived.WalkSpells
import Derived.KernelRfl
import Derived.RowKit3
import Derived.WideLaws
import Derived.Laws.Rows
import Derived.Laws.BitsLemmas
import Derived.RowKit
set_option linter.unusedVariables false
set_option linter.unusedSimpArgs false
namespace Go.Proofs.Ytgebfcdcpmmgnaa.Sl
open Go.RowKit

/-- A fact that the walk does not look into. -/
structure Hd (p : Prop) : Prop where
  out : p
abbrev Hp := Nat → Option Obj
def hp (w : World) : Hp := fun b => w.heap[b]?

/-- What is only read, and the streams. -/
structure Gh where
  heap : Hp
  os : Os
  tape : Nat → Question → Nat
  output : Array (Nat × ByteArray)
def Gh.of (w : World) : Gh := ⟨hp w, w.os, w.tape, w.output⟩
def Gh.dom (G : Gh) : Nat → Prop := fun b => G.heap b ≠ none
def Gh.le (G G' : Gh) : Prop := ∀ b o, G.heap b = some o → G'.heap b = some o
theorem Gh.le_refl (G : Gh) : G.le G := fun _ _ h => h
theorem Gh.le_trans {A B C : Gh} (h : A.le B) (k : B.le C) : A.le C := fun b o x => k b o (h b o x)

/-- An assertion: on a heap, with a footprint; what the ghost heap holds may be read, too. -/
structure As where
  p : Gh → Hp → (Nat → Prop) → Prop
  loc : ∀ {G h h' F}, p G h F → (∀ b, F b ∨ G.dom b → h b ≠ none → h' b = h b) → p G h' F
  mono : ∀ {G G' h F}, p G h F → G.le G' → (∀ b, F b → ¬ G'.dom b) → p G' h F
  dom : ∀ {G h F}, p G h F → ∀ b, F b → h b ≠ none

def Sep (G : Gh) (h : Hp) : List As → (Nat → Prop) → Prop
  | [], _ => True
  | A :: l, D => ∃ F, A.p G h F ∧ (∀ b, F b → ¬ D b) ∧ Sep G h l (fun b => D b ∨ F b)

theorem Sep.loc {G : Gh} {h h' : Hp} : ∀ {l : List As} {D : Nat → Prop}, Sep G h l D → (∀ b, ¬ D b ∨ G.dom b → h b ≠ none → h' b = h b) → Sep G h' l D
  | [], _, _, _ => trivial
  | A :: l, D, ⟨F, hA, hd, hs⟩, k =>
    ⟨F, A.loc hA (fun b hb hn => k b (hb.imp (hd b) id) hn), hd, Sep.loc hs (fun b hb hn => k b (hb.imp (fun x y => x (.inl y)) id) hn)⟩
theorem Sep.dom_mono {G : Gh} {h : Hp} : ∀ {l : List As} {D D' : Nat → Prop}, Sep G h l D → (∀ b, D' b → D b ∨ h b = none) → Sep G h l D'
  | [], _, _, _, _ => trivial
  | A :: l, D, D', ⟨F, hA, hd, hs⟩, k =>
    ⟨F, hA, fun b hb hD' => (k b hD').elim (hd b hb) (A.dom hA b hb),
      Sep.dom_mono hs (fun b hb => hb.elim (fun x => (k b x).imp .inl id) (fun x => .inl (.inr x)))⟩
theorem Sep.mono {G G' : Gh} {h : Hp} : ∀ {l : List As} {D : Nat → Prop}, Sep G h l D → G.le G' → (∀ b, G'.dom b → D b) → Sep G' h l D
  | [], _, _, _, _ => trivial
  | A :: l, D, ⟨F, hA, hd, hs⟩, k, q => ⟨F, A.mono hA k (fun b hb hg => hd b hb (q b hg)), hd, Sep.mono hs k (fun b hb => .inl (q b hb))⟩
theorem Sep.swap {G : Gh} {h : Hp} {A B : As} {l : List As} {D : Nat → Prop} (s : Sep G h (A :: B :: l) D) : Sep G h (B :: A :: l) D := by
  obtain ⟨F, hA, hd, F', hB, hd', hs⟩ := s
  exact ⟨F', hB, fun b hb h => hd' b hb (.inl h), F, hA, fun b hb h => h.elim (hd b hb) (fun h' => hd' b h' (.inr hb)),
    Sep.dom_mono hs (fun b hb => .inl (by rcases hb with (x | x) | x; exact .inl (.inl x); exact .inr x; exact .inl (.inr x)))⟩
theorem Sep.cons {G : Gh} {h : Hp} {A : As} {l l' : List As} {D : Nat → Prop} (k : ∀ D, Sep G h l D → Sep G h l' D) (s : Sep G h (A :: l) D) : Sep G h (A :: l') D := by
  obtain ⟨F, hA, hd, hs⟩ := s
  exact ⟨F, hA, hd, k _ hs⟩
theorem Sep.tail {G : Gh} {h : Hp} {A : As} {l : List As} {D : Nat → Prop} (s : Sep G h (A :: l) D) : Sep G h l D := by
  obtain ⟨F, hA, hd, hs⟩ := s
  exact Sep.dom_mono hs (fun b hb => .inl (.inl hb))

/-- The world holds what the ghost heap tells, and, apart, what is listed. -/
structure St (w : World) (G : Gh) (l : List As) : Prop where
  ro : ∀ b o, G.heap b = some o → w.heap[b]? = some o
  os : w.os = G.os
  tape : w.tape = G.tape
  output : w.output = G.output
  sep : Sep G (hp w) l G.dom
theorem St.start (w : World) : St w (Gh.of w) [] := ⟨fun _ _ h => h, rfl, rfl, rfl, trivial⟩

/-- l' is l with A' in the place of A. -/
inductive Upd : List As → As → As → List As → Prop
  | here {l A A'} : Upd (A :: l) A A' (A' :: l)
  | there {l A A' l' B} (h : Upd l A A' l') : Upd (B :: l) A A' (B :: l')
/-- l is A and l', in some order. -/
inductive Pick : List As → As → List As → Prop
  | here {l A} : Pick (A :: l) A l
  | there {l A l' B} (h : Pick l A l') : Pick (B :: l) A (B :: l')
/-- l' is a part of l. -/
inductive Sub : List As → List As → Prop
  | refl {l} : Sub l l
  | keep {l l' A} (h : Sub l l') : Sub (A :: l) (A :: l')
  | skip {l l' A} (h : Sub l l') : Sub (A :: l) l'
  | trans {l l' l''} (h : Sub l l') (k : Sub l' l'') : Sub l l''
  | swap {l A B} : Sub (A :: B :: l) (B :: A :: l)
section
variable {w w' : World} {G : Gh} {l l' : List As} {A A' B : As}

theorem Sub.sep {G : Gh} {h : Hp} : ∀ {l l' : List As}, Sub l l' → ∀ {D}, Sep G h l D → Sep G h l' D := by
  intro l l' s
  induction s with
  | refl => exact fun h => h
  | keep _ ih => exact fun h => Sep.cons (fun _ => ih) h
  | skip _ ih => exact fun h => ih h.tail
  | trans _ _ i1 i2 => exact fun h => i2 (i1 h)
  | swap => exact fun h => h.swap
theorem Sub.nil : ∀ l : List As, Sub l []
  | [] => .refl
  | _ :: l => .skip (Sub.nil l)
theorem Pick.sub : ∀ {l : List As} {A : As} {l' : List As}, Pick l A l' → Sub l (A :: l')
  | _, _, _, .here => .refl
  | _, _, _, .there h => .trans (.keep h.sub) .swap
theorem Pick.sub' : ∀ {l : List As} {A : As} {l' : List As}, Pick l A l' → Sub (A :: l') l
  | _, _, _, .here => .refl
  | _, _, _, .there h => .trans .swap (.keep h.sub')
theorem Upd.pick : ∀ {l : List As} {A A' : As} {l' : List As}, Upd l A A' l' → ∃ r, Pick l A r ∧ Pick l' A' r
  | _, _, _, _, .here => ⟨_, .here, .here⟩
  | _, _, _, _, .there h => let ⟨r, a, b⟩ := h.pick; ⟨_, .there a, .there b⟩
theorem St.sub (S : St w G l) (h : Sub l l') : St w G l' := ⟨S.ro, S.os, S.tape, S.output, h.sep S.sep⟩
theorem St.pick (S : St w G l) (h : Pick l A l') : St w G (A :: l') := S.sub h.sub
theorem St.unpick (S : St w G (A :: l')) (h : Pick l A l') : St w G l := S.sub h.sub'
theorem St.drop (S : St w G (A :: l)) : St w G l := S.sub (.skip .refl)

/-- One step at the head: what is not of A's is as it was. -/
theorem St.step (S : St w G (A :: l)) (ho : w'.os = w.os) (ht : w'.tape = w.tape) (hu : w'.output = w.output)
    (h : ∀ F, A.p G (hp w) F → (∀ b, F b → ¬ G.dom b) → (∀ b, ¬ F b → hp w b ≠ none → hp w' b = hp w b) ∧ ∃ F', A'.p G (hp w') F' ∧ ∀ b, F' b → F b ∨ hp w b = none) : St w' G (A' :: l) := by
  obtain ⟨F, hA, hd, hs⟩ := S.sep
  obtain ⟨h1, F', hA', hF⟩ := h F hA hd
  have hro : ∀ b o, G.heap b = some o → w'.heap[b]? = some o := fun b o hb => by
    have h0 := S.ro b o hb
    have := h1 b (fun hf => hd b hf (by unfold Gh.dom; rw [hb]; simp)) (by unfold hp; rw [h0]; simp)
    unfold hp at this
    rw [this]; exact h0
  refine ⟨hro, ho.trans S.os, ht.trans S.tape, hu.trans S.output, F', hA', fun b hb hD => ?_, ?_⟩
  · rcases hF b hb with h2 | h2
    · exact hd b h2 hD
    · unfold Gh.dom at hD
      cases hg : G.heap b with
      | none => exact hD hg
      | some o => have := S.ro b o hg; unfold hp at h2; rw [this] at h2; cases h2
  · have h2 : Sep G (hp w) l (fun b => (G.dom b ∨ F b) ∨ F' b) := Sep.dom_mono hs (fun b hb => by
      rcases hb with x | x
      · exact .inl x
      · exact (hF b x).imp .inr id)
    have h3 : Sep G (hp w') l (fun b => (G.dom b ∨ F b) ∨ F' b) := Sep.loc h2 (fun b hb hn => h1 b (fun hf => hb.elim (fun x => x (.inl (.inr hf))) (hd b hf)) hn)
    exact Sep.dom_mono h3 (fun b hb => .inl (by rcases hb with x | x; exact .inl (.inl x); exact .inr x))
theorem St.stepU (S : St w G l) (u : Upd l A A' l') (ho : w'.os = w.os) (ht : w'.tape = w.tape) (hu : w'.output = w.output)
    (h : ∀ F, A.p G (hp w) F → (∀ b, F b → ¬ G.dom b) → (∀ b, ¬ F b → hp w b ≠ none → hp w' b = hp w b) ∧ ∃ F', A'.p G (hp w') F' ∧ ∀ b, F' b → F b ∨ hp w b = none) : St w' G l' := by
  obtain ⟨r, p1, p2⟩ := u.pick
  exact ((S.pick p1).step ho ht hu h).unpick p2
/-- What is listed holds. -/
theorem St.get (S : St w G l) (h : Pick l A l') : ∃ F, A.p G (hp w) F ∧ ∀ b, F b → ¬ G.dom b := by
  obtain ⟨F, hA, hd, _⟩ := (S.pick h).sep
  exact ⟨F, hA, hd⟩
/-- New memory. -/
theorem St.new (S : St w G l) (ho : w'.os = w.os) (ht : w'.tape = w.tape) (hu : w'.output = w.output) (h1 : ∀ b, hp w b ≠ none → hp w' b = hp w b)
    (h2 : ∃ F, A.p G (hp w') F ∧ ∀ b, F b → hp w b = none) : St w' G (A :: l) := by
  obtain ⟨F, hA, hF⟩ := h2
  have hro : ∀ b o, G.heap b = some o → hp w b = some o := fun b o hb => S.ro b o hb
  refine ⟨fun b o hb => ?_, ho.trans S.os, ht.trans S.tape, hu.trans S.output, F, hA, fun b hb hD => ?_, ?_⟩
  · have := h1 b (by rw [hro b o hb]; simp)
    unfold hp at this
    rw [this]; exact S.ro b o hb
  · unfold Gh.dom at hD
    cases hg : G.heap b with
    | none => exact hD hg
    | some o => have := hro b o hg; rw [hF b hb] at this; cases this
  · exact Sep.loc (Sep.dom_mono S.sep (fun b hb => hb.imp id (hF b))) (fun b _ hn => h1 b hn)
theorem St.same (S : St w G l) (ho : w'.os = w.os) (ht : w'.tape = w.tape) (hu : w'.output = w.output) (h1 : ∀ b, hp w b ≠ none → hp w' b = hp w b) : St w' G l :=
  ⟨fun b o hb => by
    have h0 := S.ro b o hb
    have := h1 b (by unfold hp; rw [h0]; simp)
    unfold hp at this
    rw [this]; exact h0, ho.trans S.os, ht.trans S.tape, hu.trans S.output, Sep.loc S.sep (fun b _ hn => h1 b hn)⟩
theorem St.drew (S : St w G l) : St w.drew G l := S.same rfl rfl rfl (fun _ _ => rfl)
theorem St.drewN (S : St w G l) (n : Nat) : St (w.drewN n) G l := by
  induction n with
  | zero => exact S
  | succ n ih => rw [← World.drew_drewN]; exact St.drew ih
end

/-! ### A block of its own -/
def Blk (g : Nat) (o : Obj) : As where
  p _ h F := h g = some o ∧ ∀ b, F b ↔ b = g
  loc := fun ⟨a, f⟩ k => ⟨by rw [k _ (.inl ((f _).2 rfl)) (by rw [a]; simp)]; exact a, f⟩
  mono := fun h _ _ => h
  dom := fun ⟨a, f⟩ b hb => by rw [(f b).1 hb, a]; simp
abbrev Cs (g : Nat) (cs : List Value) (t : TypeId) : As := Blk g (.cells cs.toArray t (0, 0))

section
variable {w w' : World} {G : Gh} {l l' : List As} {A A' B : As} {g : Nat} {o o' : Obj}
theorem St.blk (S : St w G l) (h : Pick l (Blk g o) l') : w.heap[g]? = some o := by
  obtain ⟨F, ⟨a, _⟩, _⟩ := S.get h
  exact a
theorem St.cell {cs : List Value} {t : TypeId} {v : Value} (S : St w G l) (j : Nat) (h : Pick l (Cs g cs t) l') (hv : cs[j]? = some v) : w.cell? ⟨g, j, none⟩ = some v := by
  simp [World.cell?, S.blk h, hv]
theorem St.frozen {cs : List Value} {t : TypeId} (S : St w G l) (j : Nat) (h : Pick l (Cs g cs t) l') : w.frozen? ⟨g, j, none⟩ = false := by
  simp [World.frozen?, S.blk h]
theorem St.lt (S : St w G l) (h : Pick l (Blk g o) l') : g < w.heap.size := (Array.getElem?_eq_some_iff.1 (S.blk h)).1
theorem hp_none {b : Nat} (h : hp w b = none) : w.heap.size ≤ b := by simpa [hp] using h
theorem hp_some {b : Nat} (h : hp w b ≠ none) : b < w.heap.size := by
  rcases Nat.lt_or_ge b w.heap.size with h' | h'
  · exact h'
  · exact absurd (by unfold hp; exact Array.getElem?_eq_none h') h
theorem St.alloc (S : St w G l) (o : Obj) : St (w.alloc o) G (Blk w.heap.size o :: l) :=
  S.new rfl rfl rfl (fun b hb => Below.heap_alloc w o b (hp_some hb)) ⟨fun b => b = w.heap.size, ⟨heap_alloc_new w o, fun _ => Iff.rfl⟩, fun b hb => by subst hb; unfold hp; simp⟩
/-- A store into a block of its own. -/
theorem St.put {cs : List Value} {t : TypeId} {v : Value} (S : St w G l) (j : Nat) (u : Upd l (Cs g cs t) (Cs g (cs.set j v) t) l') : St (w.setCell ⟨g, j, none⟩ v) G l' := by
  refine S.stepU u rfl rfl rfl (fun F hA _ => ?_)
  obtain ⟨a, f⟩ := hA
  refine ⟨fun b hb _ => ?_, F, ⟨?_, f⟩, fun b hb => .inl hb⟩
  · exact Below.heap_setCell _ _ _ _ (fun e => hb ((f b).2 e))
  · have := heap_setCell_same w g j cs.toArray t v a
    unfold hp
    rw [this]
    simp
/-- Another object in a block of its own. -/
theorem St.setObj (S : St w G l) (u : Upd l (Blk g o) (Blk g o') l') : St { w with heap := w.heap.setIfInBounds g o' } G l' := by
  refine S.stepU u rfl rfl rfl (fun F hA _ => ?_)
  obtain ⟨a, f⟩ := hA
  have hlt : g < w.heap.size := (Array.getElem?_eq_some_iff.1 a).1
  refine ⟨fun b hb _ => ?_, F, ⟨?_, f⟩, fun b hb => .inl hb⟩
  · unfold hp
    simp only
    rw [Array.getElem?_setIfInBounds]
    rw [if_neg (fun e => hb ((f b).2 e.symm))]
  · unfold hp
    simp [hlt]
end
end Go.Proofs.Ytgebfcdcpmmgnaa.Sl
