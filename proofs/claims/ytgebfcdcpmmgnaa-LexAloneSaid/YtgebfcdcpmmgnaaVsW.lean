/- The walk's law for one operation, with numbers brought into plain form. -/
import Derived.Test.YtgebfcdcpmmgnaaVsV
set_option linter.unusedVariables false
set_option linter.unusedSimpArgs false
namespace Go.Proofs.Ytgebfcdcpmmgnaa.Vs
open Go.RowKit
@[go_sem ↓ high] theorem litS (xs : List UInt8) : litV1 (.string ⟨xs.toArray⟩) = if xs.length ≤ 9223372036854775807 then .d (.str xs) else .any := by
  have h : (ByteArray.mk xs.toArray).size = xs.length := by simp [ByteArray.size]
  show (if (ByteArray.mk xs.toArray).size ≤ maxLen then V.d (.str xs) else V.any) = _
  rw [h]
  rfl
@[go_sem ↓ high] theorem litS' (xs : List UInt8) : litV (.string ⟨xs.toArray⟩) = if xs.length ≤ 9223372036854775807 then .d (.str xs) else .any := litS xs
theorem wI_id (n : Int) (h : -9223372036854775808 ≤ n ∧ n < 9223372036854775808) : IntKind.i64.wrap n = n := by rw [wrapI]; omega
theorem wU_id (n : Int) (h : 0 ≤ n ∧ n < 18446744073709551616) : IntKind.u64.wrap n = n := by rw [wrapU]; omega
theorem w32_id (n : Int) (h : 0 ≤ n ∧ n < 4294967296) : IntKind.u32.wrap n = n := by rw [wrap32]; omega
theorem w16_id (n : Int) (h : 0 ≤ n ∧ n < 65536) : IntKind.u16.wrap n = n := by rw [wrap16]; omega
theorem w8_id (n : Int) (h : 0 ≤ n ∧ n < 256) : IntKind.u8.wrap n = n := by rw [wrap8]; omega
theorem nf_add (a b : Nat) : (a : Int) + (b : Int) = ((a + b : Nat) : Int) := by omega
theorem nf_addl (a b : Nat) : (no_index (OfNat.ofNat a : Int)) + (b : Int) = ((OfNat.ofNat a + b : Nat) : Int) := rfl
theorem nf_addr (a b : Nat) : (a : Int) + (no_index (OfNat.ofNat b : Int)) = ((a + OfNat.ofNat b : Nat) : Int) := rfl
theorem nf_sub (a b : Nat) (h : b ≤ a) : (a : Int) - (b : Int) = ((a - b : Nat) : Int) := by omega
theorem nf_subr (a b : Nat) (h : b ≤ a) : (a : Int) - (no_index (OfNat.ofNat b : Int)) = ((a - OfNat.ofNat b : Nat) : Int) := nf_sub a b h
theorem nf_subl (a b : Nat) (h : b ≤ a) : (no_index (OfNat.ofNat a : Int)) - (b : Int) = ((OfNat.ofNat a - b : Nat) : Int) := nf_sub a b h
theorem nf_modr (a b : Nat) : (a : Int) % (no_index (OfNat.ofNat b : Int)) = ((a % OfNat.ofNat b : Nat) : Int) := (Int.natCast_emod a b).symm
theorem nf_divr (a b : Nat) : (a : Int) / (no_index (OfNat.ofNat b : Int)) = ((a / OfNat.ofNat b : Nat) : Int) := (Int.natCast_ediv a b).symm
theorem nf_mul (a b : Nat) : (a : Int) * (b : Int) = ((a * b : Nat) : Int) := (Int.natCast_mul a b).symm
theorem nf_mulr (a b : Nat) : (a : Int) * (no_index (OfNat.ofNat b : Int)) = ((a * OfNat.ofNat b : Nat) : Int) := (Int.natCast_mul a b).symm
theorem nf_mull (a b : Nat) : (no_index (OfNat.ofNat a : Int)) * (b : Int) = ((OfNat.ofNat a * b : Nat) : Int) := (Int.natCast_mul a b).symm
theorem nf_lit (n : Nat) : ((no_index (OfNat.ofNat n) : Nat) : Int) = (OfNat.ofNat n : Int) := rfl
/-- So many slots of which nothing is told. -/
def ay : Nat → List V → List V
  | 0, l => l
  | n + 1, l => .any :: ay n l
attribute [go_sem] ay
/-- The walk's side conditions, by one name each. -/
theorem sdA {a : Prop} (k : a := by first | omega | with_reducible assumption | (simp only [Bool.not_eq_false', Bool.not_eq_true', beq_iff_eq, beq_eq_false_iff_ne, bne_iff_ne, bne_eq_false_iff_eq, ne_eq, Bool.not_false, Bool.not_true, Bool.false_eq_true, Bool.true_eq_false, wrap8, wrap16, wrap32, wrapI, wrapU, fdiv8, fdiv32, List.length_drop, List.length_take, Int.toNat_natCast, decide_eq_true_eq, decide_eq_false_iff_not, List.length_map, List.length_append, List.length_cons, List.length_nil, List.length_replicate]; omega) | (simp; done) | (simp; omega) | (simp at *; omega) | decide | rfl) : a := k
theorem nb {p q : Prop} (hb : p) (e : p = q := by (try simp only [Bool.not_eq_false', Bool.not_eq_true', beq_iff_eq, beq_eq_false_iff_ne, bne_iff_ne, bne_eq_false_iff_eq, ne_eq, Bool.not_false, Bool.not_true, Bool.false_eq_true, Bool.true_eq_false, wrap8, wrap16, wrap32, wrapI, wrapU, fdiv8, fdiv32, List.length_drop, List.length_take, Int.toNat_natCast, decide_eq_true_eq, decide_eq_false_iff_not]); rfl) : q := e.mp hb
theorem noB {p X : Prop} (hb : p) (k : ¬ p := by first | with_reducible assumption | (intro _; omega)) : X := absurd hb k
theorem wkA {vs us : List V} (h : WkL vs us := by repeat' (first | exact WkL.nil | refine WkL.cons ?_ ?_ | exact Wk.any | exact Wk.rfl | exact Wk.own rfl rfl | exact Wk.nil (by decide) rfl | refine Wk.int ?_ | refine Wk.bool ?_ | refine Wk.row ?_ ?_ ?_ ?_ | refine Wk.owns ?_ ?_ ?_ | refine Wk.sl ?_ | refine Wk.ownE ?_ ?_ | refine Wk.str ?_ | refine Wk.d ?_ | refine Wk.agg ?_ | refine Wk.tup ?_ | exact Wk.nil (by decide) rfl | rfl | omega | (simp only [Bool.not_eq_false', Bool.not_eq_true', beq_iff_eq, beq_eq_false_iff_ne, bne_iff_ne, bne_eq_false_iff_eq, ne_eq, Bool.not_false, Bool.not_true, Bool.false_eq_true, Bool.true_eq_false, wrap8, wrap16, wrap32, wrapI, wrapU, fdiv8, fdiv32, List.length_drop, List.length_take, Int.toNat_natCast, decide_eq_true_eq, decide_eq_false_iff_not] at *; omega))) : WkL vs us := h
theorem wqA {v u : V} (h : Wk v u := by repeat' (first | exact WkL.nil | refine WkL.cons ?_ ?_ | exact Wk.any | exact Wk.rfl | exact Wk.own rfl rfl | exact Wk.nil (by decide) rfl | refine Wk.int ?_ | refine Wk.bool ?_ | refine Wk.row ?_ ?_ ?_ ?_ | refine Wk.owns ?_ ?_ ?_ | refine Wk.sl ?_ | refine Wk.ownE ?_ ?_ | refine Wk.str ?_ | refine Wk.d ?_ | refine Wk.agg ?_ | refine Wk.tup ?_ | exact Wk.nil (by decide) rfl | rfl | omega | (simp only [Bool.not_eq_false', Bool.not_eq_true', beq_iff_eq, beq_eq_false_iff_ne, bne_iff_ne, bne_eq_false_iff_eq, ne_eq, Bool.not_false, Bool.not_true, Bool.false_eq_true, Bool.true_eq_false, wrap8, wrap16, wrap32, wrapI, wrapU, fdiv8, fdiv32, List.length_drop, List.length_take, Int.toNat_natCast, decide_eq_true_eq, decide_eq_false_iff_not] at *; omega))) : Wk v u := h
section
variable {k : Nat} {fr fr2 : List V} {σ σ2 : List Ob} {all r : List Oper} {nms : List Nat} {o : Oper} {nw : Nat} {tr : List (List Nat × List Nat)} {K : List V → List Ob → List (List Nat × List Nat) → Prop} {X : Prop}
theorem oq (h : X) (hn : noCall o.op = true := by rfl) (hg : wantedV all fr o = some true := by rfl) (hs : opV tabs o.op (evF fr) σ nw (nmOf nms o.dst) (fun v rd wr => RR Try.prog tabs all nms r (nw + resv o.op) (setD fr o.dst v) (upd σ wr) (tr ++ [(rd.map (·.1), wr.map (·.1))]) K) = X := by (simp (disch := omega) only [go_sem, wI_id, wU_id, w32_id, w16_id, w8_id, nf_add, nf_addl, nf_addr, nf_sub, nf_subr, nf_subl, nf_modr, nf_divr, nf_mul, nf_mulr, nf_mull, nf_lit, beq_self_eq_true, bne_self_eq_false, Int.reduceBEq, Int.reduceBNe, Int.reduceLT, Int.reduceLE, Int.reduceGT, Int.reduceGE, Int.reduceAdd, Int.reduceSub, Int.reduceMul, Int.reduceNeg, decide_true, decide_false, Int.toNat_natCast, Int.reduceToNat, Nat.add_sub_cancel_left, Nat.add_sub_cancel, Nat.reduceMul, Nat.reduceAdd, Nat.reduceSub, Nat.reduceLeDiff, Nat.reduceLT, Nat.reduceEqDiff, List.reduceReplicate, Nat.reduceBEq]; rfl)) : RR Try.prog tabs all nms (o :: r) nw fr σ tr K := RR.op hg (hs ▸ h)
theorem Fn.wk {P : Program} {f : FuncId} {args : List V} {σ σ' : List Ob} {v u : V} (h : Fn P f args σ v σ') (hw : Wk v u) : Fn P f args σ u σ' :=
  ⟨h.ok, h.len, fun C w vals R hv => (h.run C w vals R hv).mono fun _ _ ⟨C', x, he, R', hle, hx⟩ => ⟨C', x, he, R', hle, hw.ok hx⟩⟩
/-- A region, but for some. -/
theorem rgx (no : List Nat) {id : Nat} {ops : Array Oper} {l : List Oper} {Q : Post} (nms : List Nat) {n : Nat} (h : ∀ K : List V → List Ob → Prop, (∀ fr' σ', Q .normal fr' (trimN n σ') → K fr' σ') → RR Try.prog tabs l nms l n fr σ2 [] fun fr' σ' _ => K fr' σ') (hno : no.contains id = false := by rfl) (hl : ops.toList = l := by rfl) (hn : σ.length = n := by rfl) (hσ : σ ++ List.replicate (resvs l) .fresh = σ2 := by ((try simp only [go_sem, Nat.reduceMul, Nat.reduceAdd, Nat.reduceSub, Nat.reduceLeDiff, Nat.reduceLT, Nat.reduceEqDiff, List.reduceReplicate, Nat.reduceBEq]); try rfl)) : W Try.prog k (.region id ops false) fr σ Q := rg nms h hl hn hσ
theorem drx (no : List Nat) {id : Nat} {ops : Array Oper} {l : List Oper} {Q : Post} (nms : List Nat) {n : Nat} (h : ∀ K : List V → List Ob → List (List Nat × List Nat) → Prop, (∀ fr' σ' tr', indepB ops tr' = true → Q .normal fr' (trimN n σ') → K fr' σ' tr') → RR Try.prog tabs l nms l n fr σ2 [] K) (hno : no.contains id = false := by rfl) (hl : ops.toList = l := by rfl) (hn : σ.length = n := by rfl) (hσ : σ ++ List.replicate (resvs l) .fresh = σ2 := by ((try simp only [go_sem, Nat.reduceAdd]); try rfl)) : W Try.prog k (.region id ops true) fr σ Q := dr nms h hl hn hσ
/-- For the eye alone. -/
def See (fr : List V) (σ : List Ob) (p : Prop) : Prop := p
theorem seeR (h : See fr σ (RR Try.prog tabs all nms r nw fr σ tr K)) : RR Try.prog tabs all nms r nw fr σ tr K := h
theorem seeW {c : Code} {Q : Post} (h : See fr σ (W Try.prog k c fr σ Q)) : W Try.prog k c fr σ Q := h
end
end Go.Proofs.Ytgebfcdcpmmgnaa.Vs
