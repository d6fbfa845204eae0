/- words: the law of a token alone. -/
import Derived.Test.YtgebfcdcpmmgnaaVlE
set_option linter.unusedVariables false
set_option linter.unusedSimpArgs false
namespace Go.Proofs.Ytgebfcdcpmmgnaa.Vs
open Go.RowKit
set_option maxRecDepth 100000
/-- A literal of bytes. -/
def numbered (k : Nat) : List UInt8 → List (Nat × V)
  | [] => []
  | b :: l => (k, .d (u8 b)) :: numbered (k + 1) l
theorem fillV_lit : ∀ (l : List UInt8) (done : List V), fillV (fun i => some (i * 1, 1)) (done ++ List.replicate l.length .any) (numbered done.length l) = some (done ++ l.map fun b => .d (u8 b))
  | [], done => by simp [numbered, fillV]
  | b :: l, done => by
    have h := fillV_lit l (done ++ [.d (u8 b)])
    rw [List.length_append, List.length_singleton] at h
    rw [numbered, fillV]
    have hp : V.part (.d (u8 b)) = some [.d (u8 b)] := rfl
    simp only [hp, List.length_cons, List.length_nil, List.length_append, List.length_replicate, Nat.mul_one]
    rw [if_pos ⟨trivial, by omega⟩]
    have : spl (done ++ List.replicate (l.length + 1) V.any) done.length [.d (u8 b)] = done ++ [.d (u8 b)] ++ List.replicate l.length .any := by
      unfold spl
      rw [List.take_left' rfl, List.replicate_succ]
      have : (done ++ V.any :: List.replicate l.length V.any).drop (done.length + 1) = List.replicate l.length .any := by
        rw [← List.drop_drop, List.drop_left' rfl]; rfl
      rw [List.length_singleton, this]
    rw [this]
    have e1 : (fun i => some (i * 1, 1)) = (fun i : Nat => some (i, 1)) := by funext i; rw [Nat.mul_one]
    rw [e1] at h
    rw [h, List.map_cons, List.append_assoc]
    rfl
theorem elemsD_lit : ∀ l : List UInt8, elemsD false [.int .u8 0] l.length (l.map fun b => .d (u8 b)) = some (l.map u8)
  | [] => rfl
  | b :: l => by
    rw [List.length_cons, elemsD, List.map_cons]
    have h := elemsD_lit l
    have e1 : elemD false [.int .u8 0] ((V.d (u8 b) :: l.map fun b => V.d (u8 b)).take [D.int .u8 0].length) = some (u8 b) := rfl
    have e2 : (V.d (u8 b) :: l.map fun b => V.d (u8 b)).drop [D.int .u8 0].length = l.map fun b => V.d (u8 b) := rfl
    rw [e1, e2, h]
    rfl
theorem opV_lit {t e b len nw : Nat} {σ : List Ob} {fr : List V} {parts : Array (Nat × Operand)} {K : KK} (l : List UInt8) (ht : tabs.ty t = ⟨.sl e 1 b, 1, [.sl 1 []]⟩) (he : tabs.ty e = ⟨.int .u8, 1, [.int .u8 0]⟩) (hp : partsV (evF fr) parts = numbered 0 l) (hn : len = l.length) (hl : l.length ≤ 1000) :
    opV tabs (.buildSlice t len parts) (evF fr) σ nw false K = (σ[nw]? = some .fresh ∧ K (.own 1 (l.map u8) nw) [(nw, .fresh)] [(nw, .cap e 1 len)]) := by
  have hf := fillV_lit l []
  rw [List.nil_append, List.nil_append, List.length_nil] at hf
  show (σ[nw]? = some .fresh ∧ buildSliceV tabs t len (partsV (evF fr) parts) false nw K) = _
  unfold buildSliceV
  rw [hp, ht]
  simp only
  rw [hn, Nat.mul_one, hf]
  simp only [he, Inf.agg, elemsD_lit, Bool.false_eq_true, if_false, List.length_cons, List.length_nil]
  refine propext ⟨fun h => ⟨h.1, h.2.2.2.2⟩, fun h => ⟨h.1, by omega, by omega, trivial, h.2⟩⟩
theorem oqB {fr : List V} {σ : List Ob} {all r : List Oper} {nms : List Nat} {o : Oper} {nw : Nat} {tr : List (List Nat × List Nat)} {K : List V → List Ob → List (List Nat × List Nat) → Prop} {X : Prop} {t b len : Nat} {parts : Array (Nat × Operand)} (l : List UInt8) (h : X) (ho : o.op = .buildSlice t len parts := by rfl) (hm : nmOf nms o.dst = false := by rfl) (ht : tabs.ty t = ⟨.sl 5 1 b, 1, [.sl 1 []]⟩ := by rfl) (hp : partsV (evF fr) parts = numbered 0 l := by rfl) (hn : len = l.length := by rfl) (hl : l.length ≤ 1000 := by decide) (hg : wantedV all fr o = some true := by rfl) (hs : (σ[nw]? = some .fresh ∧ RR Try.prog tabs all nms r (nw + 1) (setD fr o.dst (.own 1 (l.map u8) nw)) (upd σ [(nw, .cap 5 1 len)]) (tr ++ [([nw], [nw])]) K) = X := by (simp (disch := omega) only [go_sem, wI_id, wU_id, w32_id, w16_id, w8_id, nf_add, nf_addl, nf_addr, nf_sub, nf_subr, nf_subl, nf_modr, nf_divr, nf_mul, nf_mulr, nf_mull, nf_lit, beq_self_eq_true, bne_self_eq_false, Int.reduceBEq, Int.reduceBNe, Int.reduceLT, Int.reduceLE, Int.reduceGT, Int.reduceGE, Int.reduceAdd, Int.reduceSub, Int.reduceMul, Int.reduceNeg, decide_true, decide_false, Int.toNat_natCast, Int.reduceToNat, Nat.add_sub_cancel_left, Nat.add_sub_cancel, Nat.reduceMul, Nat.reduceAdd, Nat.reduceSub, Nat.reduceLeDiff, Nat.reduceLT, Nat.reduceEqDiff, List.reduceReplicate, Nat.reduceBEq]; rfl)) : RR Try.prog tabs all nms (o :: r) nw fr σ tr K := by
  refine RR.op hg ?_
  rw [ho, hm]
  rw [opV_lit l ht rfl hp hn hl]
  exact hs ▸ h
abbrev kn1 : List TokS := [⟨1, 0, 0, [115, 116, 101, 112]⟩, ⟨1, 5, 0, [97, 49]⟩, ⟨3, 8, 0, [120, 34, 121]⟩, ⟨2, 15, 20, []⟩]
theorem lk_1 : cutS [115, 116, 101, 112, 32, 97, 49, 32, 34, 120, 92, 34, 121, 34, 32, 50, 48] = (kn1, 0, 0) := by decide +kernel
theorem lk_2 : cutS [97, 32, 63] = ([], 2, 2) := by decide +kernel
theorem Cuts.len {p : Nat} {r : List UInt8} {l : List TokS} (h : Cuts p r l) : l.length ≤ r.length := by
  induction h with
  | done => simp
  | tok h ht _ ih =>
    have hb := (tok_take ht).1
    rw [List.length_drop] at ih hb
    rw [List.length_cons]
    omega
theorem cut_bad (s : List UInt8) (h : (cutS s).2.2 ≠ 0) : (cutS s).1 = [] := by
  unfold cutS at h ⊢
  split
  · rfl
  rename_i h1
  rw [if_neg h1] at h
  split
  · rfl
  · rename_i h2
    rw [if_neg h2] at h
    exact absurd rfl h
set_option maxHeartbeats 4000000 in
theorem lknows_fn : Fn Try.prog 22 [] [] (bool true) [] := by
  have c1 := cut_fn [115, 116, 101, 112, 32, 97, 49, 32, 34, 120, 92, 34, 121, 34, 32, 50, 48]
  rw [lk_1] at c1
  have c2 := cut_fn [97, 32, 63]
  rw [lk_2] at c2
  refine en Try.func22 (hfr := by (simp only [Try.ntmps22, go_sem, Nat.reduceSub, Nat.reduceAdd]; rfl)) ?_
  repeat' (first | exact absurd hb Bool.false_ne_true | exact absurd hb.symm Bool.false_ne_true | refine W.seq ?_ | refine W.block ?_ | (refine rg [] ?_; intro K hK) | (refine dr [] ?_; intro K hK) | refine cl (c1) ?_ | refine cl (c2) ?_ | (refine oqB [115, 116, 101, 112, 32, 97, 49, 32, 34, 120, 92, 34, 121, 34, 32, 50, 48] ?_) | (with_reducible refine Exists.intro [120, 34, 121] (And.intro rfl ?_)) | refine oq ?_ | refine sk ?_ | (refine nk hK ?_; clear hK K) | (refine nd hK ?_; clear hK K) | refine sp ?_ | refine ex ?_ | (refine gs (fun hb => ?_) (fun hb => ?_) <;> replace hb := nb hb <;> try exact noB hb) | (refine cd (fun hb => ?_) (fun hb => ?_) <;> replace hb := nb hb <;> try exact noB hb) | (with_reducible refine Exists.intro _ (And.intro rfl ?_)) | ((with_reducible refine And.intro ?_ ?_); (focus exact sdA)) | fail)
  all_goals (refine rt ?_; refine fin ?_; exact wqA)
set_option maxHeartbeats 8000000 in
theorem lexAlone_fn (s ahead : List UInt8) : Fn Try.prog 5 [bytes s, bytes ahead] [] (bool true) [] := by
  have ck := lknows_fn
  have c1 := cut_fn s
  have c2 := cut_fn ahead
  by_cases hl : 500 < s.length ∨ 500 < ahead.length
  · skip
    refine en Try.func5 (hfr := by (simp only [Try.ntmps5, go_sem, Nat.reduceSub, Nat.reduceAdd]; rfl)) ?_
    refine W.le (s := 0) rfl fun hm => ?_
    refine W.le (s := 1) rfl fun hm2 => ?_
    rw [List.length_map] at hm hm2
    repeat' (first | exact absurd hb Bool.false_ne_true | exact absurd hb.symm Bool.false_ne_true | refine W.seq ?_ | refine W.block ?_ | (refine rg [] ?_; intro K hK) | (refine dr [] ?_; intro K hK) | refine cl (ck) ?_ | refine oq ?_ | refine sk ?_ | (refine nk hK ?_; clear hK K) | (refine nd hK ?_; clear hK K) | refine sp ?_ | refine ex ?_ | (refine gs (fun hb => ?_) (fun hb => ?_) <;> replace hb := nb hb <;> try exact noB hb) | (refine cd (fun hb => ?_) (fun hb => ?_) <;> replace hb := nb hb <;> try exact noB hb) | (with_reducible refine Exists.intro _ (And.intro rfl ?_)) | ((with_reducible refine And.intro ?_ ?_); (focus exact sdA)) | fail)
    all_goals (refine rt ?_; refine fin ?_; exact wqA)
  by_cases he : (cutS s).2.2 = 0
  case neg =>
    rw [cut_bad s he] at c1
    refine en Try.func5 (hfr := by (simp only [Try.ntmps5, go_sem, Nat.reduceSub, Nat.reduceAdd]; rfl)) ?_
    repeat' (first | exact absurd hb Bool.false_ne_true | exact absurd hb.symm Bool.false_ne_true | refine W.seq ?_ | refine W.block ?_ | (refine rg [] ?_; intro K hK) | (refine dr [] ?_; intro K hK) | refine cl (ck) ?_ | refine cl (c1) ?_ | refine oq ?_ | refine sk ?_ | (refine nk hK ?_; clear hK K) | (refine nd hK ?_; clear hK K) | refine sp ?_ | refine ex ?_ | (refine gs (fun hb => ?_) (fun hb => ?_) <;> replace hb := nb hb <;> try exact noB hb) | (refine cd (fun hb => ?_) (fun hb => ?_) <;> replace hb := nb hb <;> try exact noB hb) | (with_reducible refine Exists.intro _ (And.intro rfl ?_)) | ((with_reducible refine And.intro ?_ ?_); (focus exact sdA)) | fail)
    all_goals (refine rt ?_; refine fin ?_; exact wqA)
  · obtain ⟨hs, hc⟩ := cuts_cut s he
    generalize hL : (cutS s).1 = l at *
    have hll := hc.len
    rw [he] at c1
    refine en Try.func5 (hfr := by (simp only [Try.ntmps5, go_sem, Nat.reduceSub, Nat.reduceAdd]; rfl)) ?_
    repeat' (first | exact absurd hb Bool.false_ne_true | exact absurd hb.symm Bool.false_ne_true | refine W.seq ?_ | refine W.block ?_ | (refine rgx [20] [] ?_; intro K hK) | (refine drx [20] [] ?_; intro K hK) | refine cl (c1) ?_ | refine oq ?_ | refine sk ?_ | (refine nk hK ?_; clear hK K) | (refine nd hK ?_; clear hK K) | refine sp ?_ | refine ex ?_ | (refine gs (fun hb => ?_) (fun hb => ?_) <;> replace hb := nb hb <;> try exact noB hb) | (refine cd (fun hb => ?_) (fun hb => ?_) <;> replace hb := nb hb <;> try exact noB hb) | (with_reducible refine Exists.intro _ (And.intro rfl ?_)) | ((with_reducible refine And.intro ?_ ?_); (focus exact sdA)) | fail)
    refine W.lp (ι := Nat) (fun i => (bytes s :: bytes ahead :: ay 3 (.d (toksD l) :: ay 2 (i64 i :: ay 202 [])))) (fun _ => []) (fun i => i ≤ l.length) (fun i => l.length - i) 0 (Nat.zero_le _) (Ent.to ?_ rfl) ?_
    · skip
      exact wkA
    intro i hi
    have hsl : s.length ≤ 500 := by omega
    by_cases hlt : i < l.length
    · obtain ⟨a1, a2, a3, a4⟩ := hc.alone i hlt
      by_cases hx : i + 1 < l.length
      · unfold nextOf at a2 a3 a4
        rw [if_pos hx] at a2 a3 a4
        rw [Nat.zero_add] at a3
        rw [Nat.sub_zero, Nat.sub_zero, List.drop_take] at a4
        have c3 := cut_fn ((s.drop (l.getD i TokS.zero).pos).take ((l.getD (i + 1) TokS.zero).pos - (l.getD i TokS.zero).pos))
        rw [cut_cuts _ _ (by rw [List.length_take, List.length_drop]; omega) a4] at c3
        repeat' (first | exact absurd hb Bool.false_ne_true | exact absurd hb.symm Bool.false_ne_true | refine W.seq ?_ | refine W.block ?_ | (refine rg [] ?_; intro K hK) | (refine dr [] ?_; intro K hK) | refine cl (c3) ?_ | ((with_reducible refine Function.const (decide _ = false) ?_)) | refine oq ?_ | refine sk ?_ | (refine nk hK ?_; clear hK K) | (refine nd hK ?_; clear hK K) | refine sp ?_ | refine ex ?_ | (refine gs (fun hb => ?_) (fun hb => ?_) <;> replace hb := nb hb <;> try exact noB hb) | (refine cd (fun hb => ?_) (fun hb => ?_) <;> replace hb := nb hb <;> try exact noB hb) | (with_reducible refine Exists.intro _ (And.intro rfl ?_)) | ((with_reducible refine And.intro ?_ ?_); (focus exact sdA)) | fail)
        refine nx (i + 1) (by omega) (by omega) (sb [] _ _ (hf := ?_))
        exact wkA
      · unfold nextOf at a2 a3 a4
        rw [if_neg hx] at a2 a3 a4
        rw [Nat.zero_add] at a2 a3 a4
        rw [Nat.sub_zero, Nat.sub_zero, List.take_length] at a4
        have c3 := cut_fn (s.drop (l.getD i TokS.zero).pos)
        rw [cut_cuts _ _ (by rw [List.length_drop]; omega) a4] at c3
        repeat' (first | exact absurd hb Bool.false_ne_true | exact absurd hb.symm Bool.false_ne_true | refine W.seq ?_ | refine W.block ?_ | (refine rg [] ?_; intro K hK) | (refine dr [] ?_; intro K hK) | refine cl (c3) ?_ | ((with_reducible refine Function.const (decide _ = false) ?_)) | refine oq ?_ | refine sk ?_ | (refine nk hK ?_; clear hK K) | (refine nd hK ?_; clear hK K) | refine sp ?_ | refine ex ?_ | (refine gs (fun hb => ?_) (fun hb => ?_) <;> replace hb := nb hb <;> try exact noB hb) | (refine cd (fun hb => ?_) (fun hb => ?_) <;> replace hb := nb hb <;> try exact noB hb) | (with_reducible refine Exists.intro _ (And.intro rfl ?_)) | ((with_reducible refine And.intro ?_ ?_); (focus exact sdA)) | fail)
        refine nx (i + 1) (by omega) (by omega) (sb [] _ _ (hf := ?_))
        exact wkA
    by_cases hea : (cutS ahead).2.2 = 0
    case neg =>
      repeat' (first | exact absurd hb Bool.false_ne_true | exact absurd hb.symm Bool.false_ne_true | refine W.seq ?_ | refine W.block ?_ | (refine rg [] ?_; intro K hK) | (refine dr [] ?_; intro K hK) | refine cl (c2) ?_ | refine cl (ck) ?_ | refine oq ?_ | refine sk ?_ | (refine nk hK ?_; clear hK K) | (refine nd hK ?_; clear hK K) | refine sp ?_ | refine ex ?_ | (refine gs (fun hb => ?_) (fun hb => ?_) <;> replace hb := nb hb <;> try exact noB hb) | (refine cd (fun hb => ?_) (fun hb => ?_) <;> replace hb := nb hb <;> try exact noB hb) | (with_reducible refine Exists.intro _ (And.intro rfl ?_)) | ((with_reducible refine And.intro ?_ ?_); (focus exact sdA)) | fail)
      all_goals (refine rt ?_; refine fin ?_; exact wqA)
    obtain ⟨hla, hca⟩ := cuts_cut ahead hea
    generalize hLa : (cutS ahead).1 = la at *
    rw [hea] at c2
    have hal := hca.len
    have hup := hc.up (ahead.length + 1)
    rw [show 0 + (ahead.length + 1) = 0 + ahead.length + 1 by omega] at hup
    have hb4 := hca.behind s _ hup
    have c4 := cut_fn (ahead ++ 10 :: s)
    rw [cut_cuts _ _ (by rw [List.length_append, List.length_cons]; omega) hb4, show bytes (ahead ++ 10 :: s) = .d (.sl 1 (ahead.map u8 ++ [.int .u8 10] ++ s.map u8)) by simp] at c4
    have hnl : (la ++ l.map (TokS.up (ahead.length + 1))).length = la.length + l.length := by rw [List.length_append, List.length_map]
    have hni : ∀ i, i < l.length → (la ++ l.map (TokS.up (ahead.length + 1))).getD (la.length + i) TokS.zero = (l.getD i TokS.zero).up (ahead.length + 1) := fun i hi => by
      rw [List.getD_eq_getElem?_getD, List.getElem?_append_right (by omega), Nat.add_sub_cancel_left, List.getElem?_map, List.getD_eq_getElem?_getD, List.getElem?_eq_getElem hi]
      rfl
    generalize la ++ l.map (TokS.up (ahead.length + 1)) = nn at *
    repeat' (first | exact absurd hb Bool.false_ne_true | exact absurd hb.symm Bool.false_ne_true | refine W.seq ?_ | refine W.block ?_ | (refine rgx [27] [] ?_; intro K hK) | (refine drx [27] [] ?_; intro K hK) | refine cl (c2) ?_ | refine cl (c4) ?_ | refine oq ?_ | refine sk ?_ | (refine nk hK ?_; clear hK K) | (refine nd hK ?_; clear hK K) | refine sp ?_ | refine ex ?_ | (refine gs (fun hb => ?_) (fun hb => ?_) <;> replace hb := nb hb <;> try exact noB hb) | (refine cd (fun hb => ?_) (fun hb => ?_) <;> replace hb := nb hb <;> try exact noB hb) | (with_reducible refine Exists.intro _ (And.intro rfl ?_)) | ((with_reducible refine And.intro ?_ ?_); (focus exact sdA)) | fail)
    have hk := fun i h => congrArg TokS.kind (hni i h)
    have hp := fun i h => congrArg TokS.pos (hni i h)
    refine W.lp (ι := Nat) (fun j => (ay 1 (bytes ahead :: ay 3 (.d (toksD l) :: ay 7 (.d (toksD la) :: ay 3 (.d (toksD nn) :: ay 2 (i64 j :: ay 190 []))))))) (fun _ => []) (fun j => j ≤ l.length) (fun j => l.length - j) 0 (Nat.zero_le _) (sb [] _ _ (hf := ?_)) ?_
    · skip
      exact wkA
    intro j hj
    by_cases hjt : j < l.length
    · replace hk := hk j hjt
      replace hp := hp j hjt
      have hp2 : ((nn.getD (la.length + j) TokS.zero).pos : Int) = ((l.getD j TokS.zero).pos : Int) + (ahead.length : Int) + 1 := by rw [hp]; show (((l.getD j TokS.zero).pos + (ahead.length + 1) : Nat) : Int) = _; omega
      have hk2 : (nn.getD (la.length + j) TokS.zero).kind = (l.getD j TokS.zero).kind := hk
      have hq := hc.alone j hjt
      have hq2 : (l.getD j TokS.zero).pos < 501 := by omega
      repeat' (first | exact absurd hb Bool.false_ne_true | exact absurd hb.symm Bool.false_ne_true | refine W.seq ?_ | refine W.block ?_ | (refine rg [] ?_; intro K hK) | (refine dr [] ?_; intro K hK) | refine oq ?_ | refine sk ?_ | (refine nk hK ?_; clear hK K) | (refine nd hK ?_; clear hK K) | refine sp ?_ | refine ex ?_ | (refine gs (fun hb => ?_) (fun hb => ?_) <;> replace hb := nb hb <;> try exact noB hb) | (refine cd (fun hb => ?_) (fun hb => ?_) <;> replace hb := nb hb <;> try exact noB hb) | (with_reducible refine Exists.intro _ (And.intro rfl ?_)) | ((with_reducible refine And.intro ?_ ?_); (focus exact sdA)) | fail)
      refine nx (j + 1) (by omega) (by omega) (sb [] _ _ (hf := ?_))
      exact wkA
    · skip
      repeat' (first | exact absurd hb Bool.false_ne_true | exact absurd hb.symm Bool.false_ne_true | refine W.seq ?_ | refine W.block ?_ | (refine rg [] ?_; intro K hK) | (refine dr [] ?_; intro K hK) | refine cl (ck) ?_ | refine oq ?_ | refine sk ?_ | (refine nk hK ?_; clear hK K) | (refine nd hK ?_; clear hK K) | refine sp ?_ | refine ex ?_ | (refine gs (fun hb => ?_) (fun hb => ?_) <;> replace hb := nb hb <;> try exact noB hb) | (refine cd (fun hb => ?_) (fun hb => ?_) <;> replace hb := nb hb <;> try exact noB hb) | (with_reducible refine Exists.intro _ (And.intro rfl ?_)) | ((with_reducible refine And.intro ?_ ?_); (focus exact sdA)) | fail)
      all_goals (refine rt ?_; refine fin ?_; exact wqA)
theorem lexAlone_vs (s ahead : List UInt8) : Fn Try.prog 5 [bytes s, bytes ahead] [] (bool true) [] := lexAlone_fn s ahead
end Go.Proofs.Ytgebfcdcpmmgnaa.Vs
