/- Calls: what a callee made joins what the caller has; what is only read from now on is laid into the ghost heap. -/
import Derived.Test.YtgebfcdcpmmgnaaOp
set_option linter.unusedVariables false
set_option linter.unusedSimpArgs false
namespace Go.Proofs.Ytgebfcdcpmmgnaa.Sl
open Go.RowKit
/-- What doesn't hang on the ghost heap. -/
def Indep (A : As) : Prop := ∀ G G' h F, A.p G h F → A.p G' h F
inductive IndepL : List As → Prop
  | nil : IndepL []
  | cons {A l} (h : Indep A) (t : IndepL l) : IndepL (A :: l)
theorem indep_blk (g : Nat) (o : Obj) : Indep (Blk g o) := fun _ _ _ _ h => h
theorem rdom_false {G G' : Gh} {F : Nat → Prop} {b : Nat} (h : rdom false G F b) : rdom false G' F b := h.imp id (fun x => by cases x.1)
section
variable {α : Type} {A : Rep α} {e : TypeId} {v : Value} {xs : List α} {x : α} {cs : List Value} {w w' : World} {G G' : Gh} {l l' : List As} {r : Bool}
theorem indep_own : Indep (Own false A e v xs) := by
  rintro G G' h F ⟨css, Fe, h1, h2, h3, h4, h5⟩
  exact ⟨css, Fe, h1, h2.imp (fun _ _ q => A.up q (fun b hb _ => rdom_false hb)), h3, fun b hb hr => h4 b hb (rdom_false hr), h5⟩
theorem indep_val : Indep (Val false A cs x) := by
  rintro G G' h F ⟨h1, h2⟩
  exact ⟨A.up h1 (fun b hb _ => rdom_false hb), h2⟩
theorem Sep.indep {h : Hp} : ∀ {l : List As} {D D' : Nat → Prop}, IndepL l → Sep G h l D → (∀ b, D' b → D b ∨ h b = none) → Sep G' h l D'
  | [], _, _, _, _, _ => trivial
  | A :: l, D, D', .cons hi ht, ⟨F, hA, hd, hs⟩, k =>
    ⟨F, hi _ _ _ _ hA, fun b hb hD' => (k b hD').elim (hd b hb) (A.dom hA b hb),
      Sep.indep ht hs (fun b hb => hb.elim (fun x => (k b x).imp .inl id) (fun x => .inl (.inr x)))⟩
/-- The footprints of a list of assertions all lie outside D, and beside them another list lies. -/
theorem Sep.beside {h : Hp} : ∀ {l2 l : List As} {D E : Nat → Prop}, Sep G h l2 D → (∀ b, E b → D b) → Sep G h l E → (∀ b, ¬ D b → h b ≠ none → ¬ E b) →
    (∀ F : Nat → Prop, (∀ b, F b → ¬ D b) → Sep G h l (fun b => E b ∨ F b)) → Sep G h (l2 ++ l) E
  | [], l, D, E, _, _, s, _, _ => s
  | A :: l2, l, D, E, ⟨F, hA, hd, hs⟩, k, s, q, z => by
    refine ⟨F, hA, fun b hb he => hd b hb (k b he), ?_⟩
    refine Sep.beside (D := fun b => D b ∨ F b) hs (fun b hb => hb.imp (k b) id) (z F hd) (fun b hb hn he => he.elim (fun x => hb (.inl (k b x))) (fun x => hb (.inr x))) (fun F2 hF2 => ?_)
    refine Sep.dom_mono (z (fun b => F b ∨ F2 b) (fun b hb => hb.elim (hd b) (fun x y => hF2 b x (.inl y)))) (fun b hb => .inl ?_)
    rcases hb with (x | x) | x
    · exact .inl x
    · exact .inr (.inl x)
    · exact .inr (.inr x)
/-- Behind a call that only made memory: what it made joins the list. -/
theorem St.callSt {l2 : List As} (S : St w G l) (S2 : St w' (Gh.of w) l2) (hi : IndepL l2) : St w' G (l2 ++ l) := by
  have hb := S2.below
  have hk : ∀ b, hp w b ≠ none → hp w' b = hp w b := fun b hn => hb.block b (hp_some hn)
  have S' := S.kept hb
  refine ⟨S'.ro, S'.os, S'.tape, S'.output, ?_⟩
  have h2 : Sep G (hp w') l2 (Gh.of w).dom := Sep.indep hi S2.sep (fun b hb => .inl hb)
  refine Sep.beside h2 (fun b hb => S.gdom b hb) S'.sep (fun b hb _ hg => hb (S.gdom b hg)) (fun F hF => ?_)
  have h3 : Sep G (hp w) l (fun b => G.dom b ∨ F b) := Sep.dom_mono S.sep (fun b hb => hb.imp id (fun x => by
    have := hF b x
    unfold Gh.dom Gh.of at this
    simpa using this))
  exact Sep.loc h3 (fun b _ hn => hk b hn)
/-- A greater ghost heap is forgotten. -/
theorem St.ofLe (S : St w G' l) (h : G.le G') (ho : G'.os = G.os) (ht : G'.tape = G.tape) (hu : G'.output = G.output) (hi : IndepL l) : St w G l :=
  ⟨fun b o hb => S.ro b o (h b o hb), S.os.trans ho, S.tape.trans ht, S.output.trans hu, Sep.indep hi S.sep (fun b hb => .inl (Gh.dom_le h hb))⟩
/-- What is at the head is only read from now on. -/
theorem St.freeze {A : As} (S : St w G (A :: l)) : ∃ F G', A.p G (hp w) F ∧ G.le G' ∧ (∀ b, F b → G'.dom b ∧ G'.heap b = hp w b) ∧ St w G' l ∧ G'.os = G.os ∧ G'.tape = G.tape ∧ G'.output = G.output := by
  obtain ⟨F, hA, hd, hs⟩ := S.sep
  classical
  let H : Hp := fun b => if F b then hp w b else G.heap b
  have hH : ∀ b, F b → H b = hp w b := fun b hb => if_pos hb
  have hH2 : ∀ b, ¬ F b → H b = G.heap b := fun b hb => if_neg hb
  have hle : G.le ⟨H, G.os, G.tape, G.output⟩ := fun b o hb => by
    have hnf : ¬ F b := fun hf => hd b hf (by unfold Gh.dom; rw [hb]; simp)
    show H b = some o
    rw [hH2 b hnf]; exact hb
  refine ⟨F, ⟨H, G.os, G.tape, G.output⟩, hA, hle, fun b hb => ⟨?_, hH b hb⟩, ⟨fun b o hb => ?_, S.os, S.tape, S.output, ?_⟩, rfl, rfl, rfl⟩
  · unfold Gh.dom
    show H b ≠ none
    rw [hH b hb]; exact A.dom hA b hb
  · have hb : H b = some o := hb
    by_cases hf : F b
    · rw [hH b hf] at hb; exact hb
    · rw [hH2 b hf] at hb; exact S.ro b o hb
  · have hdom : ∀ b, Gh.dom ⟨H, G.os, G.tape, G.output⟩ b → G.dom b ∨ F b := fun b hb => by
      by_cases hf : F b
      · exact .inr hf
      · left
        unfold Gh.dom at hb ⊢
        have : H b ≠ none := hb
        rwa [hH2 b hf] at this
    refine Sep.mono (Sep.dom_mono hs (fun b hb => .inl (hdom b hb))) hle (fun b hb => hb)
theorem K_mono {F : Nat → Prop} {h : Hp} (hk : A.K h F x cs) (hF : ∀ b, F b → G.dom b ∧ G.heap b = h b) : A.K G.heap G.dom x cs :=
  A.up (A.loc hk (fun b hb _ => (hF b hb).2)) (fun b hb _ => (hF b hb).1)
theorem K_le (hk : A.K G.heap G.dom x cs) (h : G.le G') : A.K G'.heap G'.dom x cs :=
  A.up (A.loc hk (fun b hb hn => by
    cases hg : G.heap b with
    | none => exact absurd hg hn
    | some o => exact h b o hg)) (fun b hb _ => Gh.dom_le h hb)
/-- A value, or a row, is only read from now on. -/
theorem St.freezeVal (S : St w G (Val r A cs x :: l)) : ∃ G', G.le G' ∧ A.K G'.heap G'.dom x cs ∧ St w G' l ∧ G'.os = G.os ∧ G'.tape = G.tape ∧ G'.output = G.output := by
  have S0 := S.drop
  obtain ⟨F, G', ⟨hA, _⟩, hle, hF, S', h1, h2, h3⟩ := S.freeze
  refine ⟨G', hle, A.up (A.loc (h' := G'.heap) hA (fun b hb hn => ?_)) (fun b hb _ => ?_), S', h1, h2, h3⟩
  · rcases hb with hb | ⟨_, hb⟩
    · exact (hF b hb).2
    · unfold Gh.dom at hb
      cases hg : G.heap b with
      | none => exact absurd hg hb
      | some o => rw [hle b o hg]; unfold hp; exact (S0.ro b o hg).symm
  · rcases hb with hb | ⟨_, hb⟩
    · exact (hF b hb).1
    · exact Gh.dom_le hle hb
theorem St.freezeOwn (S : St w G (Own r A e v xs :: l)) : ∃ G', G.le G' ∧ A.slice.K G'.heap G'.dom xs [v] ∧ St w G' l ∧ G'.os = G.os ∧ G'.tape = G.tape ∧ G'.output = G.output :=
  S.asVal.freezeVal
/-- The end of a function that froze. -/
theorem St.belowLe {w0 : World} (S : St w G l) (h : (Gh.of w0).le G) (ho : G.os = w0.os) (ht : G.tape = w0.tape) (hu : G.output = w0.output) : Below w0.heap.size w0 w :=
  (St.ofLe (S.sub (l' := []) (Sub.nil l)) h ho ht hu .nil).below
end
end Go.Proofs.Ytgebfcdcpmmgnaa.Sl
