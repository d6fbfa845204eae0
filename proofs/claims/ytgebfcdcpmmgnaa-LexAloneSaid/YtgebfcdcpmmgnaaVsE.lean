/- Operations that leave what is named. -/
import Derived.Test.YtgebfcdcpmmgnaaVsD
set_option linter.unusedVariables false
set_option linter.unusedSimpArgs false
namespace Go.Proofs.Ytgebfcdcpmmgnaa.Vs
open Go.RowKit
/-- Whatever memory: it yields v. -/
def YL (P : Program) (o : Oper) (ev : Operand → V) (v : V) : Prop :=
  ∀ (C : Cx) (w : World) (a : Act), (∀ b o v, C.G b o = some v → w.cell? ⟨b, o, none⟩ = some v) → (∀ x ∈ o.op.operands.toList, VR C (ev x) (a.eval x)) → ∃ u, (execOp a.eval o).run P w = .ok (.value u) w ∧ VR C v u
theorem YL.step {P : Program} {o : Oper} {ev : Operand → V} {v : V} (h : YL P o ev v) : LStep P o ev [] v [] :=
  LStep.value fun _ _ C _ w a R hx => h C w a R.ro hx
section
variable {P : Program} {o : Oper} {ev : Operand → V} {K : V → Prop}
theorem vr_int {C : Cx} {k : IntKind} {n : Int} {u : Value} (h : VR C (.d (.int k n)) u) : u = .int k n := by unfold VR DR at h; simpa using h
theorem vr_bool {C : Cx} {b : Bool} {u : Value} (h : VR C (.d (.bool b)) u) : u = .bool b := by unfold VR DR at h; simpa using h
theorem vr_str {C : Cx} {s : List UInt8} {u : Value} (h : VR C (.d (.str s)) u) : u = .string ⟨s.toArray⟩ ∧ s.length ≤ maxLen := by unfold VR DR at h; simpa using h
theorem yl_move {x : Operand} (ho : o.op = .move x ∨ o.op = .assign x) : YL P o ev (ev x) := by
  intro C w a _ hx
  refine ⟨a.eval x, ?_, hx x ?_⟩
  · rcases ho with ho | ho <;> simp [execOp, ho]
  · rcases ho with ho | ho <;> simp [ho, Op.operands]
def pickV (c x y : V) (K : V → Prop) : Prop :=
  match c with
  | .d (.bool t) => (t = true → K x) ∧ (t = false → K y)
  | _ => False
theorem pick_ok {c x y : Operand} (ho : o.op = .pick c x y) (h : pickV (ev c) (ev x) (ev y) K) : ∃ v, K v ∧ YL P o ev v := by
  unfold pickV at h
  split at h
  · rename_i t hc
    have hb : ∀ (C : Cx) (w : World) (a : Act), (∀ x ∈ o.op.operands.toList, VR C (ev x) (a.eval x)) → a.eval c = .bool t ∧ VR C (ev x) (a.eval x) ∧ VR C (ev y) (a.eval y) := fun C w a hx => by
      simp only [ho, Op.operands] at hx
      have h1 := hx c (by simp)
      rw [hc] at h1
      exact ⟨vr_bool h1, hx x (by simp), hx y (by simp)⟩
    cases t with
    | true => exact ⟨ev x, h.1 rfl, fun C w a _ hx => let ⟨h1, h2, h3⟩ := hb C w a hx; ⟨a.eval x, by simp [execOp, ho, h1, asBool], h2⟩⟩
    | false => exact ⟨ev y, h.2 rfl, fun C w a _ hx => let ⟨h1, h2, h3⟩ := hb C w a hx; ⟨a.eval y, by simp [execOp, ho, h1, asBool], h3⟩⟩
  · exact h.elim
def extractV (x : V) (i : Nat) (K : V → Prop) : Prop :=
  match x with
  | .tup vs => i < vs.length ∧ K (vs.getD i .any)
  | _ => False
theorem extract_ok {x : Operand} {i : Nat} (ho : o.op = .extract x i) (h : extractV (ev x) i K) : ∃ v, K v ∧ YL P o ev v := by
  unfold extractV at h
  split at h
  · rename_i vs hv
    refine ⟨_, h.2, fun C w a _ hx => ?_⟩
    simp only [ho, Op.operands] at hx
    have h1 := hx x (by simp)
    rw [hv] at h1
    unfold VR at h1
    obtain ⟨us, h1, h2⟩ := h1
    obtain ⟨u, h3, h4⟩ := h2.get (i := i) (x := vs[i]'h.1) (List.getElem?_eq_getElem h.1)
    refine ⟨u, ?_, ?_⟩
    · simp [execOp, ho, h1, Instr.extract, h3]
    · simpa [List.getD, h.1] using h4
  · exact h.elim
def unV (op : UnOp) (x : V) (K : V → Prop) : Prop :=
  match op, x with
  | .neg, .d (.int k n) => K (.d (.int k (k.wrap (0 - n))))
  | .xor, .d (.int k n) => K (.d (.int k (iNot k n)))
  | .not, .d (.bool b) => K (.d (.bool (!b)))
  | _, _ => False
theorem un_ok {op : UnOp} {t : TypeId} {x : Operand} (ho : o.op = .unOp op t x) (h : unV op (ev x) K) : ∃ v, K v ∧ YL P o ev v := by
  unfold unV at h
  have h0 : ∀ (C : Cx) (a : Act), (∀ x ∈ o.op.operands.toList, VR C (ev x) (a.eval x)) → VR C (ev x) (a.eval x) := fun C a hx => hx x (by simp [ho, Op.operands])
  split at h
  · rename_i k n hv
    refine ⟨_, h, fun C w a _ hx => ⟨_, ?_, (by unfold VR DR; rfl)⟩⟩
    have h1 := h0 C a hx; rw [hv] at h1; have h2 := vr_int h1
    simp [execOp, ho, h2, Op.unary, Op.intArith]
  · rename_i k n hv
    refine ⟨_, h, fun C w a _ hx => ⟨_, ?_, (by unfold VR DR; rfl)⟩⟩
    have h1 := h0 C a hx; rw [hv] at h1; have h2 := vr_int h1
    simp [execOp, ho, h2, Op.unary, Op.intBits, iNot]
  · rename_i b hv
    refine ⟨_, h, fun C w a _ hx => ⟨_, ?_, (by unfold VR DR; rfl)⟩⟩
    have h1 := h0 C a hx; rw [hv] at h1; have h2 := vr_bool h1
    simp [execOp, ho, h2, Op.unary]
  · exact h.elim
/-- Is it nil? -/
def nilV (x : V) (K : Bool → Prop) : Prop :=
  match x with
  | .nil | .d .nilp | .d .nilf | .d .nilm | .d .nili => K true
  | .ptr .. | .el .. | .fn .. | .iface .. | .row .. | .map .. | .ep .. => K false
  | .nn b _ _ => K b
  | .hd _ _ n => n ≠ 0 ∧ K false
  | .d (.sl _ xs) | .own _ xs _ => xs ≠ [] ∧ K false
  | _ => False
def eqNil (T : Tb P) (t : Nat) (x y : V) (K : Bool → Prop) : Prop :=
  match y, (T.ty t).inf with
  | .nil, .sl .. => (match x with | .nil | .d (.sl ..) | .own .. | .row .. | .nn .. | .hd .. => nilV x K | _ => False)
  | .d .nilp, .ptr => (match x with | .d .nilp | .ptr .. | .el .. | .ep .. => nilV x K | _ => False)
  | .d .nilf, .fn => (match x with | .d .nilf | .fn .. => nilV x K | _ => False)
  | .d .nilm, .map .. => (match x with | .d .nilm | .map .. => nilV x K | _ => False)
  | _, _ => False
theorem inf_of (T : Tb P) {t : Nat} {i : Inf} (h : (T.ty t).inf = i) (hi : i ≠ .un) : ∃ d, P.underlying t = some d ∧ infOK P d i = true := by
  have := (T.spec (t := t) rfl (by rw [h]; exact hi)).inf
  rwa [h] at this
/-- Two values compare so. -/
structure EqAt (P : Program) (t : TypeId) (vx vy : Value) (b : Bool) (w : World) : Prop where
  eql : (binOp .eql t vx vy).run P w = .ok (.bool b) w
  neq : (binOp .neq t vx vy).run P w = .ok (.bool (!b)) w
  grd : ∀ (op : BinOp) (ox oy : Operand), (eqGuard op t ox oy vx vy).run P w = .ok () w
theorem eqAt_sl {t e : TypeId} (hd : P.underlying t = some (.slice e)) (w : World) (a : Option Addr) (n c : Nat) : EqAt P t (.slice a n c) (.slice none 0 0) a.isNone w :=
  ⟨Lib.run_eql_slice_nil w t e a n c 0 0 hd, run_neq_slice_nil_any w t e a n c 0 0 hd, fun op _ _ => by cases op <;> simp [eqGuard]⟩
theorem eqAt_map {t k e : TypeId} (hd : P.underlying t = some (.map k e)) (w : World) (r : Option Nat) : EqAt P t (.map r) (.map none) r.isNone w :=
  ⟨run_eql_map_nil w t k e r hd, run_neq_map_nil w t k e r hd, fun op _ _ => by cases op <;> simp [eqGuard]⟩
theorem eqIn_ptr {t e : TypeId} (d : Nat) (hd : P.underlying t = some (.pointer e)) (w : World) (a : Option Addr) : (Op.equalIn (d + 1) t (.pointer a) (.pointer none)).run P w = .ok a.isNone w := by
  cases a <;> simp [Op.equalIn, run_underlying hd]
theorem eqAt_ptr {t e : TypeId} (hd : P.underlying t = some (.pointer e)) (w : World) (a : Option Addr) : EqAt P t (.pointer a) (.pointer none) a.isNone w := by
  have h := eqIn_ptr 9999 hd w a
  exact ⟨by simp only [binOp]; simp [Op.equal, Op.maxDepth, h], by simp only [binOp]; simp [Op.equal, Op.maxDepth, h], fun op _ _ => by cases op <;> simp [eqGuard]⟩
theorem eqIn_fn {t : TypeId} {ps rs : Array TypeId} {b : Bool} (d : Nat) (hd : P.underlying t = some (.func ps rs b)) (w : World) (f : Fn) (x y : Array Value) : (Op.equalIn (d + 1) t (.func f x y) .nilFunc).run P w = .ok false w := by
  simp [Op.equalIn, run_underlying hd]
theorem eqIn_fn0 {t : TypeId} {ps rs : Array TypeId} {b : Bool} (d : Nat) (hd : P.underlying t = some (.func ps rs b)) (w : World) : (Op.equalIn (d + 1) t .nilFunc .nilFunc).run P w = .ok true w := by
  simp [Op.equalIn, run_underlying hd]
theorem eqAt_fn {t : TypeId} {ps rs : Array TypeId} {b : Bool} (hd : P.underlying t = some (.func ps rs b)) (w : World) (f : Fn) (x y : Array Value) : EqAt P t (.func f x y) .nilFunc false w := by
  have h := eqIn_fn 9999 hd w f x y
  exact ⟨by simp only [binOp]; simp [Op.equal, Op.maxDepth, h], by simp only [binOp]; simp [Op.equal, Op.maxDepth, h], fun op _ _ => by cases op <;> simp [eqGuard]⟩
theorem eqAt_fn0 {t : TypeId} {ps rs : Array TypeId} {b : Bool} (hd : P.underlying t = some (.func ps rs b)) (w : World) : EqAt P t .nilFunc .nilFunc true w := by
  have h := eqIn_fn0 9999 hd w
  exact ⟨by simp only [binOp]; simp [Op.equal, Op.maxDepth, h], by simp only [binOp]; simp [Op.equal, Op.maxDepth, h], fun op _ _ => by cases op <;> simp [eqGuard]⟩
theorem dr_sl_ne {G : GC} {q : Nat} {xs : List D} {v : Value} (h : DR G (.sl q xs) [v]) (hn : xs ≠ []) : ∃ ad c, v = .slice (some ad) xs.length c := by
  unfold DR at h
  obtain ⟨a, c, e1, _, _, _, h4⟩ := h
  injection e1 with e1
  obtain ⟨b, o, rfl, _⟩ := h4 hn
  exact ⟨_, _, e1⟩
theorem eqNil_ok {T : Tb P} {t : Nat} {x y : V} {K : Bool → Prop} (h : eqNil T t x y K) : ∃ b, K b ∧ ∀ (C : Cx) (w : World) (vx vy : Value), VR C x vx → VR C y vy → EqAt P t vx vy b w := by
  unfold eqNil at h
  split at h
  · rename_i e q b hi
    obtain ⟨d, hd, hk⟩ := inf_of T hi (by simp)
    cases d <;> simp only [infOK, Bool.false_eq_true] at hk
    split at h
    · refine ⟨true, h, fun C w vx vy hx hy => ?_⟩
      unfold VR at hx hy; subst hx; subst hy
      exact eqAt_sl hd w none 0 0
    · refine ⟨false, h.2, fun C w vx vy hx hy => ?_⟩
      unfold VR at hx hy; subst hy
      obtain ⟨ad, c, rfl⟩ := dr_sl_ne hx h.1
      exact eqAt_sl hd w (some ad) _ _
    · refine ⟨false, h.2, fun C w vx vy hx hy => ?_⟩
      unfold VR at hx hy; subst hy
      obtain ⟨ad, c, rfl⟩ := dr_sl_ne hx.1 h.1
      exact eqAt_sl hd w (some ad) _ _
    · refine ⟨false, h, fun C w vx vy hx hy => ?_⟩
      unfold VR at hx hy; subst hy
      obtain ⟨b, _, rfl⟩ := hx
      exact eqAt_sl hd w (some _) _ _
    · refine ⟨_, h, fun C w vx vy hx hy => ?_⟩
      unfold VR at hx hy; subst hy
      obtain ⟨_, a, n, c, rfl, hn⟩ := hx
      rw [← hn]
      exact eqAt_sl hd w a _ _
    · refine ⟨false, h.2, fun C w vx vy hx hy => ?_⟩
      unfold VR at hx hy; subst hy
      obtain ⟨_, _, ⟨a, c, rfl, h7⟩, _⟩ := hx
      obtain ⟨b, rfl⟩ := h7 h.1
      exact eqAt_sl hd w (some _) _ _
    · exact h.elim
  · rename_i hi
    obtain ⟨d, hd, hk⟩ := inf_of T hi (by simp)
    cases d <;> simp only [infOK, Bool.false_eq_true] at hk
    split at h
    · refine ⟨true, h, fun C w vx vy hx hy => ?_⟩
      unfold VR DR at hx hy; simp only [List.cons.injEq, and_true] at hx hy; subst hx; subst hy
      exact eqAt_ptr hd w none
    · refine ⟨false, h, fun C w vx vy hx hy => ?_⟩
      unfold VR at hx hy; unfold DR at hy; simp only [List.cons.injEq, and_true] at hy; subst hy
      obtain ⟨b, _, rfl⟩ := hx
      exact eqAt_ptr hd w (some _)
    · refine ⟨false, h, fun C w vx vy hx hy => ?_⟩
      unfold VR at hx hy; unfold DR at hy; simp only [List.cons.injEq, and_true] at hy; subst hy
      obtain ⟨b, o, cs, rfl, _⟩ := hx
      exact eqAt_ptr hd w (some _)
    · refine ⟨false, h, fun C w vx vy hx hy => ?_⟩
      unfold VR at hx hy; unfold DR at hy; simp only [List.cons.injEq, and_true] at hy; subst hy
      obtain ⟨_, _, ⟨b, rfl⟩, _⟩ := hx
      exact eqAt_ptr hd w (some _)
    · exact h.elim
  · rename_i hi
    obtain ⟨d, hd, hk⟩ := inf_of T hi (by simp)
    cases d <;> simp only [infOK, Bool.false_eq_true] at hk
    split at h
    · refine ⟨true, h, fun C w vx vy hx hy => ?_⟩
      unfold VR DR at hx hy; simp only [List.cons.injEq, and_true] at hx hy; subst hx; subst hy
      exact eqAt_fn0 hd w
    · refine ⟨false, h, fun C w vx vy hx hy => ?_⟩
      unfold VR at hx hy; unfold DR at hy; simp only [List.cons.injEq, and_true] at hy; subst hy
      obtain ⟨us, vs, rfl, _⟩ := hx
      exact eqAt_fn hd w _ _ _
    · exact h.elim
  · rename_i k' v' hi
    obtain ⟨d, hd, hk⟩ := inf_of T hi (by simp)
    cases d <;> simp only [infOK, Bool.false_eq_true] at hk
    split at h
    · refine ⟨true, h, fun C w vx vy hx hy => ?_⟩
      unfold VR DR at hx hy; simp only [List.cons.injEq, and_true] at hx hy; subst hx; subst hy
      exact eqAt_map hd w none
    · refine ⟨false, h, fun C w vx vy hx hy => ?_⟩
      unfold VR at hx hy; unfold DR at hy; simp only [List.cons.injEq, and_true] at hy; subst hy
      obtain ⟨b, _, rfl⟩ := hx
      exact eqAt_map hd w (some _)
    · exact h.elim
  · exact h.elim
/-- Arrays and structs of numbers, texts, bools: cell by cell. -/
def binV (T : Tb P) (op : BinOp) (t : Nat) (x y : V) (K : V → Prop) : Prop :=
  match x, y with
  | .d (.int k a), .d (.int k' b) => intV op k a k' b K
  | .d (.str a), .d (.str b) => strV op a b K
  | .d (.bool a), .d (.bool b) => (T.ty t).inf = .bool ∧ (match op with
    | .eql => K (.d (.bool (a == b)))
    | .neq => K (.d (.bool (!(a == b))))
    | _ => False)
  | x, y => match op with
    | .eql => eqNil T t x y fun b => K (.d (.bool b))
    | .neq => eqNil T t x y fun b => K (.d (.bool (!b)))
    | _ => False
theorem bin_ok {T : Tb P} {op : BinOp} {t u : TypeId} {x y : Operand} (ho : o.op = .binOp op t x y u) (h : binV T op t (ev x) (ev y) K) : ∃ v, K v ∧ YL P o ev v := by
  have h0 : ∀ (C : Cx) (a : Act), (∀ x ∈ o.op.operands.toList, VR C (ev x) (a.eval x)) → VR C (ev x) (a.eval x) ∧ VR C (ev y) (a.eval y) := fun C a hx => ⟨hx x (by simp [ho, Op.operands]), hx y (by simp [ho, Op.operands])⟩
  unfold binV at h
  split at h
  · rename_i k a' k' b' hx' hy'
    obtain ⟨v, u', h3, h4, h5⟩ := intV_ok (P := P) h (t := t)
    refine ⟨v, h4, fun C w a _ hx => ?_⟩
    obtain ⟨h6, h7⟩ := h0 C a hx
    rw [hx'] at h6; rw [hy'] at h7
    have hg : (eqGuard op t x y (.int k a') (.int k' b')).run P w = .ok () w := by cases op <;> simp [eqGuard]
    exact ⟨u', by simp [execOp, ho, vr_int h6, vr_int h7, hg, h3], h5 C⟩
  · rename_i a' b' hx' hy'
    obtain ⟨v, u', h3, h4, h5⟩ := strV_ok (P := P) h (t := t)
    refine ⟨v, h4, fun C w a _ hx => ?_⟩
    obtain ⟨h6, h7⟩ := h0 C a hx
    rw [hx'] at h6; rw [hy'] at h7
    have hg : (eqGuard op t x y (.string ⟨a'.toArray⟩) (.string ⟨b'.toArray⟩)).run P w = .ok () w := by cases op <;> simp [eqGuard]
    exact ⟨u', by simp [execOp, ho, (vr_str h6).1, (vr_str h7).1, hg, h3], h5 C⟩
  · rename_i a' b' hx' hy'
    obtain ⟨hi, h⟩ := h
    obtain ⟨d, hd, hk⟩ := inf_of T hi (by simp)
    cases d <;> simp only [infOK, Bool.false_eq_true] at hk
    have hq : ∀ w, (Op.equalIn 10000 t (.bool a') (.bool b')).run P w = .ok (a' == b') w := fun w => run_equalIn_bool w 9999 t a' b' hd
    have hg : ∀ w, (eqGuard op t x y (.bool a') (.bool b')).run P w = .ok () w := fun w => by cases op <;> simp [eqGuard]
    cases op <;> simp only at h <;> first | exact h.elim | skip
    all_goals
      refine ⟨_, h, fun C w a _ hx => ?_⟩
      obtain ⟨h6, h7⟩ := h0 C a hx
      rw [hx'] at h6; rw [hy'] at h7
      first | exact ⟨.bool (a' == b'), by simp [execOp, ho, vr_bool h6, vr_bool h7, hg, binOp, Op.equal, Op.maxDepth, hq], by unfold VR DR; rfl⟩ | exact ⟨.bool (!(a' == b')), by simp [execOp, ho, vr_bool h6, vr_bool h7, hg, binOp, Op.equal, Op.maxDepth, hq], by unfold VR DR; rfl⟩
  · cases op <;> simp only at h <;> first | exact h.elim | skip
    all_goals
      obtain ⟨b, hb, hall⟩ := eqNil_ok h
      refine ⟨_, hb, fun C w a _ hx => ?_⟩
      obtain ⟨h6, h7⟩ := h0 C a hx
      have he := hall C w _ _ h6 h7
      first | exact ⟨.bool b, by simp [execOp, ho, he.grd, he.eql], by unfold VR DR; rfl⟩ | exact ⟨.bool (!b), by simp [execOp, ho, he.grd, he.neq], by unfold VR DR; rfl⟩
/-! ### Conversions -/
def convV (T : Tb P) (s d : Nat) (x : V) (K : V → Prop) : Prop :=
  match (T.ty d).inf, x with
  | .int k, .d (.int _ n) => (T.ty s).inf ≠ .un ∧ K (.d (.int k (k.wrap n)))
  | .str, .d (.str b) => (T.ty s).inf ≠ .un ∧ K (.d (.str b))
  | .str, .nil => (match (T.ty s).inf with | .sl e _ _ => (T.ty e).inf = .int .u8 ∧ K (.d (.str [])) | _ => False)
  | .str, .d (.sl q xs) => (match (T.ty s).inf with | .sl e _ _ => (T.ty e).inf = .int .u8 ∧ ∃ bs : List UInt8, xs = bs.map (fun b => .int .u8 b.toNat) ∧ K (.d (.str bs)) | _ => False)
  | .str, .own q xs _ => (match (T.ty s).inf with | .sl e _ _ => (T.ty e).inf = .int .u8 ∧ ∃ bs : List UInt8, xs = bs.map (fun b => .int .u8 b.toNat) ∧ K (.d (.str bs)) | _ => False)
  | _, _ => False
theorem inf_int (T : Tb P) {t : Nat} {k : IntKind} (h : (T.ty t).inf = .int k) : P.underlying t = some (.int k) := by
  obtain ⟨d, hd, hk⟩ := inf_of T h (by simp)
  cases d <;> simp only [infOK, Bool.false_eq_true, beq_iff_eq] at hk
  subst hk; exact hd
theorem inf_str (T : Tb P) {t : Nat} (h : (T.ty t).inf = .str) : P.underlying t = some .string := by
  obtain ⟨d, hd, hk⟩ := inf_of T h (by simp)
  cases d <;> simp only [infOK, Bool.false_eq_true] at hk
  exact hd
theorem inf_sl (T : Tb P) {t e q b : Nat} (h : (T.ty t).inf = .sl e q b) : P.underlying t = some (.slice e) ∧ 0 < q ∧ ∃ i z, P.info? e = some i ∧ i.zero = some z ∧ i.size = q ∧ i.bytes = b ∧ z.cells.size = q := by
  obtain ⟨d, hd, hk⟩ := inf_of T h (by simp)
  cases d <;> simp only [infOK, Bool.false_eq_true] at hk
  simp only [Bool.and_eq_true, beq_iff_eq, decide_eq_true_eq] at hk
  obtain ⟨⟨rfl, h1⟩, h2⟩ := hk
  refine ⟨hd, h1, ?_⟩
  split at h2
  · rename_i j hj
    simp only [Bool.and_eq_true, beq_iff_eq] at h2
    obtain ⟨⟨h3, h4⟩, h5⟩ := h2
    split at h5
    · rename_i z hz; exact ⟨j, z, hj, hz, h3, h4, by simpa using h5⟩
    · cases h5
  · cases h2
theorem inf_arr (T : Tb P) {t e q n : Nat} (h : (T.ty t).inf = .arr e q n) : P.underlying t = some (.array n e) ∧ 0 < q ∧ (P.info? e).map (·.size) = some q := by
  obtain ⟨d, hd, hk⟩ := inf_of T h (by simp)
  cases d <;> simp only [infOK, Bool.false_eq_true] at hk
  simp only [Bool.and_eq_true, beq_iff_eq, decide_eq_true_eq] at hk
  obtain ⟨⟨⟨rfl, rfl⟩, h1⟩, h2⟩ := hk
  exact ⟨hd, h1, h2⟩
theorem bytes_run {t u e : TypeId} (h1 : P.underlying t = some (.slice e)) (h2 : P.underlying e = some (.int .u8)) (h3 : P.underlying u = some .string) {G : GC} {w : World} (hG : ∀ b o v, G b o = some v → w.cell? ⟨b, o, none⟩ = some v) {q : Nat} {bs : List UInt8} {v : Value} (h : DR G (.sl q (bs.map fun b => .int .u8 b.toNat)) [v]) :
    (convert t u v).run P w = .ok (.string ⟨bs.toArray⟩) w ∧ bs.length ≤ maxLen := by
  unfold DR at h
  obtain ⟨a, c, e1, k1, k2, k3, k4⟩ := h
  injection e1 with e1
  simp only [List.length_map] at e1 k1
  refine ⟨?_, by omega⟩
  by_cases hn : bs = []
  · subst hn
    subst e1
    cases a with
    | none => exact run_convert_bytes_nil w t e h1 h2 _ _ u h3
    | some x => exact run_convert_bytes_back w t u e x c [] h1 h2 h3 (fun j hj => by simp at hj)
  · obtain ⟨b, o, rfl, hr⟩ := k4 (by simpa using hn)
    subst e1
    refine run_convert_bytes_back w t u e ⟨b, o, none⟩ c bs h1 h2 h3 (fun j hj => ?_)
    obtain ⟨cs, l1, l2, l3⟩ := hr.get (i := j) (x := .int .u8 bs[j].toNat) (by simp [hj])
    unfold DR at l2
    subst l2
    simp only [List.length_cons, List.length_nil] at l1
    have := l3 0 _ rfl
    rw [← l1] at this
    have h5 := hG _ _ _ this
    have h6 : (⟨b, o, none⟩ : Addr).add j = ⟨b, o + j, none⟩ := by unfold Addr.add; split <;> simp_all
    rw [h6]
    simpa using h5
theorem conv_ok {T : Tb P} {s d : TypeId} {x : Operand} (ho : o.op = .convert s d x) (h : convV T s d (ev x) K) : ∃ v, K v ∧ YL P o ev v := by
  have h0 : ∀ (C : Cx) (a : Act), (∀ x ∈ o.op.operands.toList, VR C (ev x) (a.eval x)) → VR C (ev x) (a.eval x) := fun C a hx => hx x (by simp [ho, Op.operands])
  unfold convV at h
  split at h
  · rename_i k k' n hd hx'
    obtain ⟨ds, hs, _⟩ := inf_of T rfl h.1
    refine ⟨_, h.2, fun C w a _ hx => ⟨.int k (k.wrap n), ?_, by unfold VR DR; rfl⟩⟩
    have h1 := h0 C a hx; rw [hx'] at h1
    have h2 := inf_int T hd
    simp [execOp, ho, vr_int h1, convert, run_underlying hs, run_underlying h2, Conv.intToInt]
  · rename_i b hd hx'
    obtain ⟨ds, hs, _⟩ := inf_of T rfl h.1
    refine ⟨_, h.2, fun C w a _ hx => ⟨.string ⟨b.toArray⟩, ?_, ?_⟩⟩
    · have h1 := h0 C a hx; rw [hx'] at h1
      have h2 := inf_str T hd
      simp [execOp, ho, (vr_str h1).1, convert, run_underlying hs, run_underlying h2]
    · have h1 := h0 C a hx; rw [hx'] at h1
      unfold VR DR; exact ⟨rfl, (vr_str h1).2⟩
  · rename_i hd hx'
    split at h
    · rename_i e q b hs
      obtain ⟨he, h⟩ := h
      refine ⟨_, h, fun C w a _ hx => ⟨.string ⟨#[]⟩, ?_, by unfold VR DR; exact ⟨rfl, by simp⟩⟩⟩
      have h1 := h0 C a hx; rw [hx'] at h1
      unfold VR at h1
      have h2 := run_convert_bytes_nil (P := P) w s e (inf_sl T hs).1 (inf_int T he) 0 0 d (inf_str T hd)
      simp [execOp, ho, h1, h2]; rfl
    · exact h.elim
  · rename_i q' xs hd hx'
    split at h
    · rename_i e q b hs
      obtain ⟨he, bs, rfl, h⟩ := h
      refine ⟨_, h, fun C w a hG hx => ?_⟩
      have h1 := h0 C a hx; rw [hx'] at h1
      unfold VR at h1
      obtain ⟨h2, h3⟩ := bytes_run (inf_sl T hs).1 (inf_int T he) (inf_str T hd) hG h1
      exact ⟨_, by simp [execOp, ho, h2]; rfl, by unfold VR DR; exact ⟨rfl, h3⟩⟩
    · exact h.elim
  · rename_i q' xs c' hd hx'
    split at h
    · rename_i e q b hs
      obtain ⟨he, bs, rfl, h⟩ := h
      refine ⟨_, h, fun C w a hG hx => ?_⟩
      have h1 := h0 C a hx; rw [hx'] at h1
      unfold VR at h1
      obtain ⟨h2, h3⟩ := bytes_run (inf_sl T hs).1 (inf_int T he) (inf_str T hd) hG h1.1
      exact ⟨_, by simp [execOp, ho, h2]; rfl, by unfold VR DR; exact ⟨rfl, h3⟩⟩
    · exact h.elim
  · exact h.elim
end
end Go.Proofs.Ytgebfcdcpmmgnaa.Vs
