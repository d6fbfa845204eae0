/- The walk's laws at this seat's program: side conditions are carried as default tactics. -/
import Derived.Test.YtgebfcdcpmmgnaaVsT
import Derived.Test.YtgebfcdcpmmgnaaVsS
set_option linter.unusedVariables false
set_option linter.unusedSimpArgs false
namespace Go.Proofs.Ytgebfcdcpmmgnaa.Vs
open Go.RowKit
theorem ltL_dmap {n : Nat} (xs : List D) : V.ltL n (xs.map V.d) = true := ltL_d xs
theorem renL_dmap {π : List Nat} : ∀ xs : List D, V.renL π (xs.map V.d) = xs.map V.d
  | [] => by simp only [List.map_nil]; unfold V.renL; rfl
  | x :: xs => by simp only [List.map_cons]; unfold V.renL; rw [renL_dmap xs]; unfold V.ren; rfl
attribute [go_sem ↓] renL_dmap ltL_dmap
attribute [go_sem ↓] opV
attribute [go_sem] isQ makeMqV insertV lookupQV mqIx mq0_nil mq0_cons tickIx ticks pureK pickV extractV unV binV intV strV eqNil nilV convV convSlV isHd isMap isEp isHdr isZ isSl slice0V sliceHdV loadEpV storeEpV makeMapV lookupV updateV deleteV lenMapV entsV zV appendHV newsV dcells dkey isKey mget mhas mput mdel List.flatten_cons List.flatten_nil List.any_cons List.any_nil fieldAddrV nilCheckV indexAddrV zd loadElV bnds sliceV slice3V indexV lenV minV ifaceV V.part V.one spl fillV zeroV zeroN zN buildV partsV fieldV allocV boxV loadV storeV toD1 toDs elemD elemsD rowOf appendV needNew appendZV zElem makeSliceV arrayAtV eqArr bytesOf eqArrI intsOf buildSliceV callB evF litV litV1 setD upd resv resvs D.cell Inf.agg slotOf nmOf wantedV trimN trimF resV resVs oneRes thenV blockV V.lt V.ltL Ob.lt V.ren V.renL Ob.ren List.zip_cons_cons List.zip_nil_left List.zip_nil_right
attribute [go_sem] List.nil_append List.cons_append List.append_nil List.length_nil List.length_cons List.replicate_succ List.replicate_zero List.set_cons_zero List.set_cons_succ List.getElem?_cons_zero List.getElem?_cons_succ List.getElem?_nil List.getD_cons_zero List.getD_cons_succ List.map_cons List.map_nil List.take_succ_cons List.take_zero List.drop_succ_cons List.drop_zero List.drop_nil List.take_nil List.all_cons List.all_nil Nat.sub_zero Nat.zero_add Nat.add_zero Nat.mul_one List.contains_nil List.contains_cons if_true if_false Option.map_some Option.map_none Bool.and_true Bool.true_and Bool.and_self Bool.and_false Bool.false_and Bool.not_true Bool.not_false Bool.or_true Bool.true_or Bool.or_false Bool.false_or ne_eq not_false_eq_true true_and forall_const true_implies false_implies implies_true Bool.true_eq_false Bool.false_eq_true and_true reduceCtorEq List.length_map List.length_append List.length_replicate
@[congr] theorem RR.congr {P : Program} {T : Tb P} {all : List Oper} {nms : List Nat} {r : List Oper} {nw nw' : Nat} {fr fr' : List V} {σ σ' : List Ob} {tr tr' : List (List Nat × List Nat)} {K : List V → List Ob → List (List Nat × List Nat) → Prop} (h0 : nw = nw') (h1 : fr = fr') (h2 : σ = σ') (h3 : tr = tr') : RR P T all nms r nw fr σ tr K = RR P T all nms r nw' fr' σ' tr' K := by subst h0; subst h1; subst h2; subst h3; rfl
@[congr] theorem W.congr {P : Program} {k : Nat} {c : Code} {fr fr' : List V} {σ σ' : List Ob} {Q : Post} (h1 : fr = fr') (h2 : σ = σ') : W P k c fr σ Q = W P k c fr' σ' Q := by subst h1; subst h2; rfl
@[congr] theorem RetQ.congr {P : Program} {T : Tb P} {rs : List ResultVar} {rv : V} {σ' : List Ob} {ex : Exit} {fr1 fr2 : List V} {σ1 σ2 : List Ob} (h1 : fr1 = fr2) (h2 : σ1 = σ2) : RetQ T rs rv σ' ex fr1 σ1 = RetQ T rs rv σ' ex fr2 σ2 := by subst h1; subst h2; rfl
@[congr] theorem Nxt.congr {ι : Type} {k : Nat} {F : ι → List V} {S : ι → List Ob} {p : ι → Prop} {μ : ι → Nat} {x : ι} {fr fr' : List V} {σ σ' : List Ob} (h1 : fr = fr') (h2 : σ = σ') : Nxt k F S p μ x fr σ = Nxt k F S p μ x fr' σ' := by subst h1; subst h2; rfl
section
variable {k : Nat} {fr fr2 : List V} {σ σ2 : List Ob} {all r : List Oper} {nms : List Nat} {o : Oper} {nw : Nat} {tr : List (List Nat × List Nat)} {K : List V → List Ob → List (List Nat × List Nat) → Prop} {X : Prop} {Q : Post} {c x y : Code}
def noCall : Op → Bool
  | .call c => (match c.callee with | .builtin _ => true | _ => false)
  | _ => true
theorem op (h : X) (hn : noCall o.op = true := by rfl) (hg : wantedV all fr o = some true := by rfl) (hs : opV tabs o.op (evF fr) σ nw (nmOf nms o.dst) (fun v rd wr => RR Try.prog tabs all nms r (nw + resv o.op) (setD fr o.dst v) (upd σ wr) (tr ++ [(rd.map (·.1), wr.map (·.1))]) K) = X := by (simp only [go_sem, Nat.reduceMul, Nat.reduceAdd, Nat.reduceSub, Nat.reduceLeDiff, Nat.reduceLT, Nat.reduceEqDiff, List.reduceReplicate, Nat.reduceBEq]; rfl)) : RR Try.prog tabs all nms (o :: r) nw fr σ tr K := RR.op hg (hs ▸ h)
theorem sk (h : RR Try.prog tabs all nms r (nw + resv o.op) fr2 σ (tr ++ [([], [])]) K) (hg : wantedV all fr o = some false := by rfl) (hf : setD fr o.dst (.tup []) = fr2 := by (simp only [go_sem, Nat.reduceMul, Nat.reduceAdd, Nat.reduceSub, Nat.reduceLeDiff, Nat.reduceLT, Nat.reduceEqDiff, List.reduceReplicate, Nat.reduceBEq]; try rfl)) : RR Try.prog tabs all nms (o :: r) nw fr σ tr K := by subst hf; exact RR.skip hg h
theorem gs {j s : Nat} {want b : Bool} {fr1 : List V} (h1 : b = want → RR Try.prog tabs all nms (o :: r) nw fr1 σ tr K) (h2 : b = !want → RR Try.prog tabs all nms (o :: r) nw fr2 σ tr K) (hgd : o.guard = some (j, want) := by rfl) (hsl : slotOf all j = some s := by rfl) (hs : fr[s]? = some (.d (.bool b)) := by rfl) (hf1 : fr.set s (.d (.bool want)) = fr1 := by (simp only [go_sem]; rfl)) (hf2 : fr.set s (.d (.bool (!want))) = fr2 := by (simp only [go_sem]; rfl)) : RR Try.prog tabs all nms (o :: r) nw fr σ tr K := by
  subst hf1; subst hf2
  cases want with
  | true => exact RR.split hs h1 h2
  | false => exact RR.split hs h2 h1
theorem nl (h : X) (hs : K fr σ tr = X := by ((try simp only [go_sem, Nat.reduceMul, Nat.reduceAdd, Nat.reduceSub, Nat.reduceLeDiff, Nat.reduceLT, Nat.reduceEqDiff, List.reduceReplicate, Nat.reduceBEq]); try rfl)) : RR Try.prog tabs all nms [] nw fr σ tr K := RR.nil (hs ▸ h)
theorem rg {id : Nat} {ops : Array Oper} {l : List Oper} (nms : List Nat) {n : Nat} (h : ∀ K : List V → List Ob → Prop, (∀ fr' σ', Q .normal fr' (trimN n σ') → K fr' σ') → RR Try.prog tabs l nms l n fr σ2 [] fun fr' σ' _ => K fr' σ') (hl : ops.toList = l := by rfl) (hn : σ.length = n := by rfl) (hσ : σ ++ List.replicate (resvs l) .fresh = σ2 := by ((try simp only [go_sem, Nat.reduceMul, Nat.reduceAdd, Nat.reduceSub, Nat.reduceLeDiff, Nat.reduceLT, Nat.reduceEqDiff, List.reduceReplicate, Nat.reduceBEq]); try rfl)) : W Try.prog k (.region id ops false) fr σ Q := by
  subst hσ; subst hn
  exact W.reg hl (h _ fun _ _ h => h)
theorem nk {K : List V → List Ob → Prop} {n : Nat} (hK : ∀ fr' σ', Q .normal fr' (trimN n σ') → K fr' σ') (h : X) (hs : Q .normal fr (trimN n σ) = X := by ((try simp only [go_sem, Nat.reduceMul, Nat.reduceAdd, Nat.reduceSub, Nat.reduceLeDiff, Nat.reduceLT, Nat.reduceEqDiff, List.reduceReplicate, Nat.reduceBEq]); try rfl)) : RR Try.prog tabs all nms [] nw fr σ tr (fun fr' σ' _ => K fr' σ') := RR.nil (hK _ _ (hs ▸ h))
theorem mixed : Try.prog.follows .mixedOrders = true := by kernel_rfl
theorem dr {id : Nat} {ops : Array Oper} {l : List Oper} (nms : List Nat) {n : Nat} (h : ∀ K : List V → List Ob → List (List Nat × List Nat) → Prop, (∀ fr' σ' tr', indepB ops tr' = true → Q .normal fr' (trimN n σ') → K fr' σ' tr') → RR Try.prog tabs l nms l n fr σ2 [] K) (hl : ops.toList = l := by rfl) (hn : σ.length = n := by rfl) (hσ : σ ++ List.replicate (resvs l) .fresh = σ2 := by ((try simp only [go_sem, Nat.reduceAdd]); try rfl)) : W Try.prog k (.region id ops true) fr σ Q := by
  subst hσ; subst hn
  exact W.draw mixed hl (h _ fun _ _ _ h1 h2 => ⟨h1, h2⟩)
theorem nd {K : List V → List Ob → List (List Nat × List Nat) → Prop} {n : Nat} {ops : Array Oper} (hK : ∀ fr' σ' tr', indepB ops tr' = true → Q .normal fr' (trimN n σ') → K fr' σ' tr') (h : X) (hi : indepB ops tr = true := by decide +kernel) (hs : Q .normal fr (trimN n σ) = X := by ((try simp only [go_sem, Nat.reduceAdd]); try rfl)) : RR Try.prog tabs all nms [] nw fr σ tr K := RR.nil (hK _ _ _ hi (hs ▸ h))
theorem cd {o : Operand} {b : Bool} (h1 : b = true → W Try.prog k x fr σ Q) (h2 : b = false → W Try.prog k y fr σ Q) (hb : evF fr o = .d (.bool b) := by rfl) : W Try.prog k (.cond o x y) fr σ Q := W.cond hb h1 h2
theorem rt (h : X) (hs : Q .ret fr σ = X := by ((try simp only [go_sem, Nat.reduceMul, Nat.reduceAdd, Nat.reduceSub, Nat.reduceLeDiff, Nat.reduceLT, Nat.reduceEqDiff, List.reduceReplicate, Nat.reduceBEq]); try rfl)) : W Try.prog k .ret fr σ Q := W.ret (hs ▸ h)
theorem sp (h : X) (hs : Q .normal fr σ = X := by ((try simp only [go_sem, Nat.reduceMul, Nat.reduceAdd, Nat.reduceSub, Nat.reduceLeDiff, Nat.reduceLT, Nat.reduceEqDiff, List.reduceReplicate, Nat.reduceBEq]); try rfl)) : W Try.prog k .skip fr σ Q := W.skip (hs ▸ h)
theorem ex {id : Nat} (h : X) (hs : Q (.exit id) fr σ = X := by ((try simp only [go_sem, Nat.reduceMul, Nat.reduceAdd, Nat.reduceSub, Nat.reduceLeDiff, Nat.reduceLT, Nat.reduceEqDiff, List.reduceReplicate, Nat.reduceBEq]); try rfl)) : W Try.prog k (.exit id) fr σ Q := W.exit (hs ▸ h)
theorem cl {cc : Call} {g : FuncId} {vs args : List V} {v : V} (hF : Fn Try.prog g args [] v []) (h : RR Try.prog tabs all nms r (nw + resv o.op) fr2 σ (tr ++ [([], [])]) K) (hg : wantedV all fr o = some true := by rfl) (ho : o.op = .call cc := by rfl) (hc : calleeV (evF fr) cc = some (g, vs) := by rfl) (hw : WkL vs args := by (repeat' (first | exact .nil | refine .cons ?_ ?_ | exact .rfl | exact .own rfl rfl | exact .nil (by decide) rfl | exact .z (by decide) rfl | exact .int (by first | omega | ((try simp only [wrap8, wrap16, wrap32, wrapI, wrapU]); omega)) | refine .d ?_ | refine .agg ?_)); first | done | fail) (ha : V.ltL 0 args = true := by rfl) (hv : v.lt 0 = true := by rfl)
    (hf : setD fr o.dst v = fr2 := by ((try simp only [go_sem, Nat.reduceMul, Nat.reduceAdd, Nat.reduceSub, Nat.reduceLeDiff, Nat.reduceLT, Nat.reduceEqDiff, List.reduceReplicate, Nat.reduceBEq]); try rfl)) : RR Try.prog tabs all nms (o :: r) nw fr σ tr K := by
  subst hf
  exact RR.call hg ho hc (CStep.pure hF hw ha hv) (by simp) (by simp) h
theorem rd_of : ∀ {ϖ : List Nat} {os : List Ob} {σ : List Ob}, ϖ.map (fun i => σ[i]?) = os.map some → ∀ p ∈ ϖ.zip os, σ[p.1]? = some p.2
  | [], _, _, _, p, hp => by simp at hp
  | i :: ϖ, [], _, _, p, hp => by simp at hp
  | i :: ϖ, o :: os, σ, h, p, hp => by
    simp only [List.map_cons, List.cons.injEq] at h
    simp only [List.zip_cons_cons, List.mem_cons] at hp
    rcases hp with rfl | hp
    · exact h.1
    · exact rd_of h.2 p hp
theorem cle {cc : Call} {g : FuncId} {vs args args' : List V} {σg σg' os : List Ob} {v v' : V} (ϖ : List Nat) (e : Nat) (hF : Fn Try.prog g args σg v σg') (h : RR Try.prog tabs all nms r (nw + resv o.op) fr2 σ2 (tr ++ [(ϖ, ϖ)]) K) (hg : wantedV all fr o = some true := by rfl) (ho : o.op = .call cc := by rfl) (hc : calleeV (evF fr) cc = some (g, vs) := by rfl) (hra : V.renL ϖ args = args' := by ((try simp only [go_sem, Nat.reduceMul, Nat.reduceAdd, Nat.reduceSub, Nat.reduceLeDiff, Nat.reduceLT, Nat.reduceEqDiff, List.reduceReplicate, Nat.reduceBEq]); try rfl)) (hw : WkL vs args' := by (repeat' (first | exact .nil | refine .cons ?_ ?_ | exact .rfl | exact .own rfl rfl | exact .nil (by decide) rfl | exact .z (by decide) rfl | exact .int (by first | omega | ((try simp only [wrap8, wrap16, wrap32, wrapI, wrapU]); omega)) | refine .d ?_ | refine .agg ?_)); first | done | fail)
    (hos : (σg ++ List.replicate e Ob.fresh).map (Ob.ren ϖ) = os := by ((try simp only [go_sem, Nat.reduceMul, Nat.reduceAdd, Nat.reduceSub, Nat.reduceLeDiff, Nat.reduceLT, Nat.reduceEqDiff, List.reduceReplicate, Nat.reduceBEq]); try rfl)) (hσ : ϖ.map (fun i => σ[i]?) = os.map some := by rfl) (hv : v.ren ϖ = v' := by ((try simp only [go_sem, Nat.reduceMul, Nat.reduceAdd, Nat.reduceSub, Nat.reduceLeDiff, Nat.reduceLT, Nat.reduceEqDiff, List.reduceReplicate, Nat.reduceBEq]); try rfl)) (hf : setD fr o.dst v' = fr2 := by ((try simp only [go_sem, Nat.reduceMul, Nat.reduceAdd, Nat.reduceSub, Nat.reduceLeDiff, Nat.reduceLT, Nat.reduceEqDiff, List.reduceReplicate, Nat.reduceBEq]); try rfl)) (hu : upd σ (ϖ.zip (σg'.map (Ob.ren ϖ))) = σ2 := by ((try simp only [go_sem, Nat.reduceMul, Nat.reduceAdd, Nat.reduceSub, Nat.reduceLeDiff, Nat.reduceLT, Nat.reduceEqDiff, List.reduceReplicate, Nat.reduceBEq]); try rfl))
    (he : ϖ.length = σg.length + e := by rfl) (hl' : σg'.length = ϖ.length := by rfl) (hn : ϖ.Nodup := by decide) (ha : V.ltL σg.length args = true := by first | rfl | (simp only [Ob.lt, V.ltL, V.lt, ltL_dmap, List.all_cons, List.all_nil, List.length_cons, List.length_nil, Nat.reduceAdd, Nat.reduceLT, decide_true, Bool.and_self, Bool.and_true])) (hog : σg.all (Ob.lt σg.length) = true := by first | rfl | (simp only [Ob.lt, V.ltL, V.lt, ltL_dmap, List.all_cons, List.all_nil, List.length_cons, List.length_nil, Nat.reduceAdd, Nat.reduceLT, decide_true, Bool.and_self, Bool.and_true])) (hr : v.lt ϖ.length = true := by first | rfl | (simp only [Ob.lt, V.ltL, V.lt, ltL_dmap, List.all_cons, List.all_nil, List.length_cons, List.length_nil, Nat.reduceAdd, Nat.reduceLT, decide_true, Bool.and_self, Bool.and_true])) (ho' : σg'.all (Ob.lt ϖ.length) = true := by first | rfl | (simp only [Ob.lt, V.ltL, V.lt, ltL_dmap, List.all_cons, List.all_nil, List.length_cons, List.length_nil, Nat.reduceAdd, Nat.reduceLT, decide_true, Bool.and_self, Bool.and_true])) : RR Try.prog tabs all nms (o :: r) nw fr σ tr K := by
  subst hf; subst hu; subst hv; subst hra
  have hlo : os.length = ϖ.length := by rw [← hos]; simp [he]
  have h1 : (ϖ.zip os).map (·.1) = ϖ := by rw [List.map_fst_zip]; omega
  have h2 : (ϖ.zip (σg'.map (Ob.ren ϖ))).map (·.1) = ϖ := by rw [List.map_fst_zip]; simp [hl']
  have hrd := rd_of hσ
  rw [← hos] at h1 hrd
  refine RR.call hg ho hc (CStep.lend hF hw he hl' hn ha hog hr ho') (fun p hp => ?_) hrd (by rw [h1, h2]; exact h)
  have h3 : p.1 ∈ (ϖ.zip (σg'.map (Ob.ren ϖ))).map (·.1) := List.mem_map_of_mem hp
  rw [h2, ← h1] at h3
  obtain ⟨q, hq, e⟩ := List.mem_map.1 h3
  exact ⟨q, hq, e⟩
theorem ew (h : WkL fr fr2 := by repeat' (first | exact .nil | refine .cons ?_ ?_ | exact .any | exact .rfl | exact .own rfl rfl | exact .nil (by decide) rfl | exact .z (by decide) rfl | exact .int (by first | omega | ((try simp only [wrap8, wrap16, wrap32, wrapI, wrapU]); omega)) | refine .d ?_ | refine .agg ?_)) : Ent k fr σ fr2 σ := Ent.wk h
/-- The end of a function. -/
theorem fin {rs : List ResultVar} {rv : V} {σ' : List Ob} {exx : Exit} {vs : List V} (hw : Wk (oneRes vs) rv) (he : exx = .ret ∨ exx = .normal := by first | exact .inl rfl | exact .inr rfl) (hr : resVs tabs fr σ rs = some vs := by ((try simp only [go_sem, Nat.reduceMul, Nat.reduceAdd, Nat.reduceSub, Nat.reduceLeDiff, Nat.reduceLT, Nat.reduceEqDiff, List.reduceReplicate, Nat.reduceBEq]); try rfl)) (hl : rv.lt σ'.length = true := by rfl) (hle : σ'.length ≤ σ.length := by simp) (ht : σ.take σ'.length = σ' := by rfl) (ha : σ'.all (Ob.lt σ'.length) = true := by first | rfl | (simp only [Ob.lt, V.ltL, V.lt, ltL_dmap, List.all_cons, List.all_nil, List.length_cons, List.length_nil, Nat.reduceAdd, Nat.reduceLT, decide_true, Bool.and_self, Bool.and_true])) : RetQ tabs rs rv σ' exx fr σ := ⟨he, vs, hr, hw, hl, hle, ht, ha⟩
theorem en {f : FuncId} {fn : Func} {args : List V} {rv : V} {σ' : List Ob} (hf : Try.prog.funcs[f]? = some fn) (h : W Try.prog k c fr σ (RetQ tabs fn.results.toList rv σ')) (hb : fn.body = some c := by rfl) (hk : σ.length = k := by rfl) (hfr : args ++ List.replicate (fn.ntmps - args.length) .any = fr := by rfl) (hn : (fn.name != "runtime.NumGoroutine") = true := by rfl) (hl : σ.length ≤ σ'.length := by simp) : Fn Try.prog f args σ rv σ' := by
  subst hk; subst hfr
  exact Fn.enter tabs hf hb hn hl h
end
end Go.Proofs.Ytgebfcdcpmmgnaa.Vs
