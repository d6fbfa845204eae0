/- A region that draws its order: loads whose facts are laid where they are met. -/
import Derived.Test.YtpcapijakenjbaaRo
set_option linter.unusedVariables false
set_option linter.unusedSimpArgs false
namespace Go.Proofs.Ytpcapijakenjbaa.Sl
open Go.RowKit
section
variable {P : Program} {ops : Array Oper} {Q : Exit → Act → World → Prop} {md : Region.Mode} {n i : Nat} {L : Array Bool} {E : List Nat} {T : List Ent} {a : Act} {w : World} {oi : Oper} {v : Value}
/-- The same where the fact is laid now. -/
theorem vr_loadn (Tb : Tabs P) {kills : List Nat} {t : TypeId} {x : Operand} {ad : Addr} (hi : opAt ops.toList i = some oi) (hs : Region.noSelect ops = true) (hf : Region.free md ops L i = true) (hr : (Region.ready md ops L).contains i = true) (hk : (kills.all fun k => ancB md ops i ops.size k) = true) (hQ : ∀ c a w, Q (.panic c) (a.put oi.dst v) w → Q (.panic c) a w) (hw : Region.wanted oi (yielded ops a.tmps) = true) (ho : oi.op = .load t x) (hT : Tb.cells.contains t = true) (hx : a.eval x = .pointer (some ad))
    (hF : w.cell? ad = some v) (h : Vr P md ops Q n (L.setIfInBounds i true) E (⟨kills, fun w => w.cell? ad = some v⟩ :: T) (a.put oi.dst v) w) : Vr P md ops Q (n + 1) L E T a w :=
  vr_ent (Or.inr hF) (vr_load Tb (m := 0) hi hs hf hr rfl hk hQ hw ho hT hx h)
theorem vr_aggn (Tb : Tabs P) {kills : List Nat} {t : TypeId} {x : Operand} {ad : Addr} {vs : List Value} (hi : opAt ops.toList i = some oi) (hs : Region.noSelect ops = true) (hf : Region.free md ops L i = true) (hr : (Region.ready md ops L).contains i = true) (hk : (kills.all fun k => ancB md ops i ops.size k) = true) (hQ : ∀ c a w, Q (.panic c) (a.put oi.dst (.agg vs.toArray)) w → Q (.panic c) a w) (hw : Region.wanted oi (yielded ops a.tmps) = true) (ho : oi.op = .load t x) {c : Nat} (hT : Tb.aggs.lookup t = some c) (hx : a.eval x = .pointer (some ad))
    (hF : AggAt w ad vs) (hn : vs.length = c) (h : Vr P md ops Q n (L.setIfInBounds i true) E (⟨kills, fun w => AggAt w ad vs⟩ :: T) (a.put oi.dst (.agg vs.toArray)) w) : Vr P md ops Q (n + 1) L E T a w :=
  vr_ent (Or.inr hF) (vr_agg Tb (m := 0) hi hs hf hr rfl hk hQ hw ho hT hx hn h)
theorem vr_strn (Tb : Tabs P) {kills : List Nat} {t u : TypeId} {x : Operand} {xs : List UInt8} (hi : opAt ops.toList i = some oi) (hs : Region.noSelect ops = true) (hf : Region.free md ops L i = true) (hr : (Region.ready md ops L).contains i = true) (hk : (kills.all fun k => ancB md ops i ops.size k) = true) (hQ : ∀ c a w, Q (.panic c) (a.put oi.dst (.string ⟨xs.toArray⟩)) w → Q (.panic c) a w) (hw : Region.wanted oi (yielded ops a.tmps) = true) (ho : oi.op = .convert t u x) (hT : Tb.bytes.contains t = true) (hU : Tb.strs.contains u = true) (hx : a.eval x = v)
    (hF : Rd Rep.byte.slice w xs [v]) (h : Vr P md ops Q n (L.setIfInBounds i true) E (⟨kills, fun w => Rd Rep.byte.slice w xs [v]⟩ :: T) (a.put oi.dst (.string ⟨xs.toArray⟩)) w) : Vr P md ops Q (n + 1) L E T a w :=
  vr_ent (Or.inr hF) (vr_str Tb (m := 0) hi hs hf hr rfl hk hQ hw ho hT hU hx h)
theorem agg_at_n {w : World} {G : Gh} {l l' : List As} {g j : Nat} {cs : List Value} {e : TypeId} (S : St w G l) (hp : Pick l (Cs g cs e) l') {vs : List Value} (n : Nat) (hv : (cs.drop j).take n = vs) (hn : vs.length = n) : AggAt w ⟨g, j, none⟩ vs :=
  S.aggAt hp (by rw [hn]; exact hv)
theorem barr_cat (xs ys : List UInt8) : ((⟨xs.toArray⟩ : ByteArray) ++ ⟨ys.toArray⟩) = ⟨(xs ++ ys).toArray⟩ := by
  apply ByteArray.ext
  simp [ByteArray.data_append]
theorem run_cat {t u : TypeId} {x y : Operand} {xs ys : List UInt8} (ho : oi.op = .binOp .add t x y u) (hx : a.eval x = .string ⟨xs.toArray⟩) (hy : a.eval y = .string ⟨ys.toArray⟩) (hl : xs.length + ys.length ≤ 9223372036854775807) :
    (execOp a.eval oi).run P w = .ok (.value (.string ⟨(xs ++ ys).toArray⟩)) w := by
  have h0 : ¬ 9223372036854775807 < xs.length + ys.length := by omega
  have h1 := barr_cat xs ys
  obtain ⟨dst, op, ty, pos, aft, gd⟩ := oi
  simp only at ho
  subst ho
  generalize a.eval = ev at *
  go_simp
theorem vr_cat {t u : TypeId} {x y : Operand} {xs ys : List UInt8} (hi : opAt ops.toList i = some oi) (hs : Region.noSelect ops = true) (hf : Region.free md ops L i = true) (hr : (Region.ready md ops L).contains i = true) (hQ : ∀ c a w, Q (.panic c) (a.put oi.dst (.string ⟨(xs ++ ys).toArray⟩)) w → Q (.panic c) a w) (hw : Region.wanted oi (yielded ops a.tmps) = true) (ho : oi.op = .binOp .add t x y u)
    (hx : a.eval x = .string ⟨xs.toArray⟩) (hy : a.eval y = .string ⟨ys.toArray⟩) (hl : xs.length + ys.length ≤ 9223372036854775807)
    (h : Vr P md ops Q n (L.setIfInBounds i true) E T (a.put oi.dst (.string ⟨(xs ++ ys).toArray⟩)) w) : Vr P md ops Q (n + 1) L E T a w :=
  vr_pure hi hs hf hr hQ (.inl ⟨hw, fun w => run_cat ho hx hy hl⟩) h
theorem sq_cat {K : Act → World → Prop} {t u : TypeId} {x y : Operand} {xs ys : List UInt8} (ho : oi.op = .binOp .add t x y u) (hgd : Region.wanted oi (yielded ops a.tmps) = true) (hx : a.eval x = .string ⟨xs.toArray⟩) (hy : a.eval y = .string ⟨ys.toArray⟩) (hl : xs.length + ys.length ≤ 9223372036854775807)
    (h1 : K (a.put oi.dst (.string ⟨(xs ++ ys).toArray⟩)) w) : Seq P ops Q oi a w K := sq_event hgd (run_cat ho hx hy hl) h1
end
section
variable {α : Type} {w w' : World} {G : Gh} {l l' : List As} {r : Bool} {A : Rep α} {e : TypeId} {xs : List α} {cs : List Value}
/-- A block that was just made is a row of one's own; what its elements hold is only read. -/
theorem St.asOwnRo {g n c : Nat} (S : St w G (Cs g cs e :: l)) {css : List (List Value)} (hA : All2 (A.K G.heap G.dom) xs css) (hcs : css.flatten = cs.take (n * A.sz)) (hn : n = xs.length) (hnc : n ≤ c) (hl : cs.length = c * A.sz) (hc : c ≤ maxLen) :
    St w G (Own true A e (.slice (some ⟨g, 0, none⟩) n c) xs :: l) := by
  subst hn
  have hA' : All2 (A.K (hp w) (rdom true G (fun _ => False))) xs css := hA.imp (fun x y h => A.up (S.rdK h) (fun b hb _ => .inr ⟨rfl, hb⟩))
  have hl1 : ∀ q ∈ css, q.length = A.sz := fun q hq => by
    obtain ⟨x, _, hx⟩ := hA'.mem hq
    exact A.len hx
  refine S.step rfl rfl rfl (fun F hF hd => ⟨fun _ _ _ => rfl, F, ?_, fun b hb => .inl hb⟩)
  obtain ⟨a, f⟩ := hF
  refine ⟨css, fun _ => False, ⟨by rw [flat_len hl1, hA'.length], .inr ⟨g, c, cs.toArray, rfl, a, hnc, hc, by simpa using hl, by rw [hcs]⟩⟩, hA', fun b hb => hb.elim, fun b hb hr => ?_, fun b => ?_⟩
  · simp [Value.ownBlock] at hb
    subst hb
    rcases hr with hr | hr
    · exact hr
    · exact hd _ ((f _).2 rfl) hr.2
  · rw [f b]
    simp [Value.ownBlock]
    exact ⟨fun h => h.symm, fun h => h.symm⟩
end
end Go.Proofs.Ytpcapijakenjbaa.Sl
