/- What is only read: facts out of the ghost heap; appends of elements that lie there. -/
import Derived.Test.YtpcapijakenjbaaReg
set_option linter.unusedVariables false
set_option linter.unusedSimpArgs false
namespace Go.Proofs.Ytpcapijakenjbaa.Sl
open Go.RowKit
/-- A string, as its bytes. -/
def strL : Rep (List UInt8) where
  sz := 1
  pos := by decide
  K _ _ x cs := cs = [.string ⟨x.toArray⟩] ∧ x.length ≤ maxLen
  loc := fun h _ => h
  up := fun h _ => h
  len := by rintro _ _ _ _ ⟨rfl, _⟩; rfl
  one := by rintro _ _ _ _ ⟨rfl, _⟩ v hv; simp at hv; subst hv; rfl
theorem strL_flat : strL.Flat := fun _ _ _ _ h _ _ => h
theorem strs_at {h : Hp} {F : Nat → Prop} {a : Option Addr} {xs : List (List UInt8)} (H : Rep.SlK strL h F a xs) {i : Nat} {x : List UInt8} (hx : xs[i]? = some x) : ∃ ad, a = some ad ∧ cellH h (ad.add i) = some (.string ⟨x.toArray⟩) ∧ x.length ≤ maxLen := by
  obtain ⟨ad, cs, e, hk, hc⟩ := H.at_ hx
  obtain ⟨rfl, hl⟩ := hk
  exact ⟨ad, e, by have := hc 0 _ rfl; simpa [strL] using this, hl⟩
/-- G' is G and more that is only read. -/
structure GhLe (G G' : Gh) : Prop where
  le : G.le G'
  os : G'.os = G.os
  tape : G'.tape = G.tape
  output : G'.output = G.output
section
variable {G G' G2 : Gh} {w w' w0 : World} {l l' : List As} {α : Type} {A : Rep α} {e : TypeId} {v : Value} {xs ys : List α} {r : Bool}
theorem GhLe.refl (G : Gh) : GhLe G G := ⟨Gh.le_refl _, rfl, rfl, rfl⟩
theorem GhLe.trans (h : GhLe G G') (k : GhLe G' G2) : GhLe G G2 := ⟨Gh.le_trans h.le k.le, k.os.trans h.os, k.tape.trans h.tape, k.output.trans h.output⟩
theorem GhLe.below (h : GhLe (Gh.of w0) G) (S : St w G l) : Below w0.heap.size w0 w := S.belowLe h.le h.os h.tape h.output
theorem GhLe.K {x : α} {cs : List Value} (h : GhLe G G') (hk : A.K G.heap G.dom x cs) : A.K G'.heap G'.dom x cs := K_le hk h.le
theorem cell_le {ad : Addr} {v : Value} (h : cellH G.heap ad = some v) (hl : G.le G') : cellH G'.heap ad = some v := by
  have hn := cellH_ne h
  cases hb : G.heap ad.block with
  | none => exact absurd hb hn
  | some o => rw [cellH_loc (h := G.heap) (by rw [hb]; exact hl _ _ hb)]; exact h
theorem St.frz (S : St w G (Own r A e v xs :: l)) : ∃ G', GhLe G G' ∧ A.slice.K G'.heap G'.dom xs [v] ∧ St w G' l := by
  obtain ⟨G', h1, h2, h3, h4, h5, h6⟩ := S.freezeOwn
  exact ⟨G', ⟨h1, h4, h5, h6⟩, h2, h3⟩
theorem St.frzVal {x : α} {cs : List Value} (S : St w G (Val r A cs x :: l)) : ∃ G', GhLe G G' ∧ A.K G'.heap G'.dom x cs ∧ St w G' l := by
  obtain ⟨G', h1, h2, h3, h4, h5, h6⟩ := S.freezeVal
  exact ⟨G', ⟨h1, h4, h5, h6⟩, h2, h3⟩
/-- A block of one's own is only read from now on. -/
theorem St.frzCs {g : Nat} {cs : List Value} {t : TypeId} (S : St w G (Cs g cs t :: l)) : ∃ G', GhLe G G' ∧ (∀ j v, cs[j]? = some v → cellH G'.heap ⟨g, j, none⟩ = some v) ∧ G'.dom g ∧ St w G' l := by
  obtain ⟨F, G', hA, h1, hF, h3, h4, h5, h6⟩ := S.freeze
  obtain ⟨hg, hF2⟩ : hp w g = some (.cells cs.toArray t (0, 0)) ∧ ∀ b, F b ↔ b = g := hA
  have hGg := hF g ((hF2 g).2 rfl)
  refine ⟨G', ⟨h1, h4, h5, h6⟩, fun j v hv => ?_, hGg.1, h3⟩
  unfold cellH
  simp only [hGg.2, hg]
  simpa using hv
theorem St.kOf {x : α} {cs : List Value} (S : St w G l) (hk : A.K G.heap G.dom x cs) (r : Bool) (hr : r = true) : A.K (hp w) (rdom r G (fun _ => False)) x cs :=
  A.up (S.rdK hk) (fun b hb _ => .inr ⟨hr, hb⟩)
theorem St.aggRo {ad : Addr} {vs : List Value} (S : St w G l) (h : ∀ k v, vs[k]? = some v → cellH G.heap (ad.add k) = some v) : AggAt w ad vs := fun k v hk => S.roCell (h k v hk)
/-- Element j of a row that is only read: its cells, from its first one's address on. -/
theorem row_at {h : Hp} {F : Nat → Prop} {a : Option Addr} (H : Rep.SlK A h F a xs) {j : Nat} {x : α} (hx : xs[j]? = some x) (n : Nat) (hn : A.sz = n) :
    ∃ ad cs, a = some ad ∧ A.K h F x cs ∧ ∀ k v, cs[k]? = some v → cellH h ((ad.add (j * n)).add k) = some v := by
  subst hn
  obtain ⟨ad, cs, e, hk, hc⟩ := H.at_ hx
  exact ⟨ad, cs, e, hk, fun k v hv => by rw [Rep.add_add']; exact hc k v hv⟩
theorem slices_at {h : Hp} {F : Nat → Prop} {a : Option Addr} {xs : List (List α)} (H : Rep.SlK A.slice h F a xs) {i : Nat} {x : List α} (hx : xs[i]? = some x) :
    ∃ ad a1 c1, a = some ad ∧ A.slice.K h F x [.slice a1 x.length c1] ∧ cellH h (ad.add i) = some (.slice a1 x.length c1) := by
  obtain ⟨ad, cs, e, hk, hc⟩ := H.at_ hx
  obtain ⟨a1, c1, rfl, h1, h2, h3⟩ := hk
  exact ⟨ad, a1, c1, e, ⟨a1, c1, rfl, h1, h2, h3⟩, by have := hc 0 _ rfl; simpa [Rep.slice] using this⟩
theorem All2.mk1 {β : Type} {R : α → β → Prop} {x : α} {y : β} (h : R x y) : All2 R [x] [y] := .cons h .nil
end
section
variable {P : Program} {ops : Array Oper} {K : Act → World → Prop} {o : Oper} {a : Act} {Q : Exit → Act → World → Prop} {w : World} {G : Gh} {l l' l2 : List As} {α : Type} {A : Rep α} {e : TypeId} {xs ys : List α}
/-- append(v, ys...), where what the elements hold is only read. -/
theorem sq_append_ro (T : Tabs P) {s x : Operand} {t sz by_ : Nat} {av : Option Addr} {nv cv : Nat} (S : St w G l) (ho : o.op = .call { callee := .builtin .append, args := #[s, x], argTypes := #[t, t] }) (hgd : Region.wanted o (yielded ops a.tmps) = true)
    (hs : a.eval s = .slice av nv cv) (hp : Pick l (Own true A e (.slice av nv cv) xs) l') (hT : T.sls.lookup t = some (e, sz, by_)) (hsz : A.sz = sz) {ay : Option Addr} {ny cy : Nat} (hx : a.eval x = .slice ay ny cy) {css : List (List Value)} (hy : All2 (A.K G.heap G.dom) ys css) (hny : ny = ys.length)
    (hc : ∀ j u, css.flatten[j]? = some u → ∃ x, ay = some x ∧ w.cell? (x.add j) = some u) (hm : (xs.length + ys.length) * by_ ≤ 140737488355328) (h63 : xs.length + ys.length ≤ maxLen)
    (h : ∀ a1 c1 w1, St w1 G (Own true A e (.slice a1 (xs.length + ys.length) c1) (xs ++ ys) :: l') → K (a.put o.dst (.slice a1 (xs.length + ys.length) c1)) w1) : Seq P ops Q o a w K := by
  have hsb := List.all_eq_true.1 T.s1 _ (lookup_mem hT)
  have S1 := S.pick hp
  obtain ⟨F, H, hd⟩ := S.get hp
  subst hny
  have hq1 : All2 (A.K (Sl.hp w) (rdom true G (fun _ => False))) ys css := hy.imp (fun _ _ q => S.kOf q true rfl)
  obtain ⟨v1, w1, hr, k1, k2, k3, k4, F', k5, k6⟩ := own_append (ty := o.type) (c := cy) hsb hsz H hd hq1 (fun b hb => hb.elim) (fun b _ hb => hb) S.gdom hc hm h63
  obtain ⟨a1, c1, rfl, _⟩ : ∃ a1 c1, v1 = .slice a1 (xs ++ ys).length c1 ∧ True := by
    obtain ⟨a1, c1, h1, _⟩ := Rep.slice_len (own_val_p k5).1
    exact ⟨a1, c1, h1, trivial⟩
  rw [List.length_append] at *
  refine sq_event hgd (append_exec ho hs hx hr) (h a1 c1 w1 ?_)
  refine S1.step k1 k2 k3 (fun F1 H1 hd1 => ?_)
  obtain ⟨v2, w2, hr2, j1, j2, j3, j4, F2, j5, j6⟩ := own_append (ty := o.type) (c := cy) hsb hsz H1 hd1 hq1 (fun b hb => hb.elim) (fun b _ hb => hb) S.gdom hc hm h63
  rw [hr] at hr2
  injection hr2 with q1 q2
  subst q1; subst q2
  refine ⟨fun b hb hn => j4 b (fun hv => ?_) hn, F2, j5, fun b hb => (j6 b hb).imp id (fun x => x.elim (fun y => y.elim) id)⟩
  obtain ⟨_, _, _, _, _, _, k⟩ := H1
  exact hb ((k b).2 (.inl hv))
/-- append(v, y), y lying in a block of one's own. -/
theorem sq_append_one (T : Tabs P) {s x : Operand} {t sz by_ : Nat} {av : Option Addr} {nv cv : Nat} (S : St w G l) (ho : o.op = .call { callee := .builtin .append, args := #[s, x], argTypes := #[t, t] }) (hgd : Region.wanted o (yielded ops a.tmps) = true)
    (hs : a.eval s = .slice av nv cv) (hp : Pick l (Own true A e (.slice av nv cv) xs) l') (hT : T.sls.lookup t = some (e, sz, by_)) (hsz : A.sz = sz) {g cy : Nat} (hx : a.eval x = .slice (some ⟨g, 0, none⟩) 1 cy) {cs : List Value} {e2 : TypeId} (hg : Pick l (Cs g cs e2) l2) {y : α} (hy : A.K G.heap G.dom y cs)
    (hm : (xs.length + 1) * by_ ≤ 140737488355328) (h63 : xs.length + 1 ≤ maxLen)
    (h : ∀ a1 c1 w1, St w1 G (Own true A e (.slice a1 (xs.length + 1) c1) (xs ++ [y]) :: l') → K (a.put o.dst (.slice a1 (xs.length + 1) c1)) w1) : Seq P ops Q o a w K :=
  sq_append_ro T S ho hgd hs hp hT hsz hx (All2.mk1 hy) rfl (fun j u hj => ⟨_, rfl, by
    have ha : (⟨g, 0, none⟩ : Addr).add j = ⟨g, j, none⟩ := by unfold Addr.add; split <;> simp_all
    rw [ha]
    exact S.cell j hg (by simpa using hj)⟩) hm h63 h
end
section
variable {w : World} {G : Gh} {l : List As} {α : Type} {A : Rep α} {e : TypeId} {r : Bool}
/-- The literal of no elements. -/
theorem St.own0 {g : Nat} (S : St w G (Cs g [] e :: l)) : St w G (Own r A e (.slice (some ⟨g, 0, none⟩) 0 0) [] :: l) :=
  St.asOwn (n := 0) (c := 0) (css := []) S (fun _ => .nil) (by simp) rfl (Nat.le_refl _) (by simp) (by decide)
end
end Go.Proofs.Ytpcapijakenjbaa.Sl
