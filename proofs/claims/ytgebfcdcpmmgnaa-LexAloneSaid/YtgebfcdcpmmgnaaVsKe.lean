/- Rows that grow and are written: read, written, cut; maps. -/
import Derived.Test.YtgebfcdcpmmgnaaVsKd
import Derived.MapKept
set_option linter.unusedVariables false
set_option linter.unusedSimpArgs false
namespace Go.Proofs.Ytgebfcdcpmmgnaa.Vs
open Go.RowKit
section
variable {P : Program} {o : Oper} {ev : Operand → V} {w0 : Bs} {w w' : World} {lent : Nat → Prop} {C : Cx} {σ : List Ob}
theorem Rel.grwAt (R : Rel w0 lent C σ w) {i e q k n off : Nat} {vs : List V} {v : Value} (hi : σ[i]? = some (.grw e q k n vs)) (hv : VR C (.ep i k off) v) (hne : vs ≠ []) : ∃ b cap cur, v = .pointer (some ⟨b, off, none⟩) ∧ C.cur i = some (k, .slice (some ⟨b, 0, none⟩) n cap) ∧ 0 < cap ∧ w.heap[b]? = some (.cells cur e (0, 0)) ∧ n ≤ cap ∧ cap ≤ maxLen ∧ cur.size = cap * q ∧ VRs C vs (cur.toList.take (n * q)) ∧ (∀ v ∈ cur.toList.take (n * q), v.oneCell' = true) ∧ vs.length = n * q ∧ ∀ o, C.G b o = none := by
  obtain ⟨hρ, u, xs, hc, hr, hvs, hG⟩ := R.obs i _ hi
  unfold VR at hv
  obtain ⟨_, _, _, h4⟩ := hv
  obtain ⟨b, n', c, e1, e2⟩ := (h4 _ _ hc).2 rfl
  have hl := hvs.length
  rcases hr.2 with ⟨rfl, a, e3⟩ | ⟨g, cap, cur, e3, h0, h1, h2, h3, h5, h6, h7⟩
  · have : xs = [] := List.eq_nil_of_length_eq_zero (by rw [hr.1, Nat.zero_mul])
    subst this
    exact absurd (List.eq_nil_of_length_eq_zero hl.symm) hne
  · rw [e1] at e3
    injection e3 with e3 e4 e5
    injection e3 with e3
    injection e3 with e3
    subst e3; subst e4; subst e5
    refine ⟨b, c, cur, e2, by rw [hc, e1], h0, h1, h2, h3, h5, by rw [h6]; exact hvs, by rw [h6]; exact h7, by rw [← hl, hr.1], fun o => hG b (by rw [e1]; simp only [hdBlock]; rw [if_neg (by omega)]) o⟩
def loadEpV (T : Tb P) (t : Nat) (x : V) (σ : List Ob) (K : KK) : Prop :=
  match x with
  | .ep i k off => (match σ[i]? with
    | some (.grw e q k' n vs) => k' = k ∧ (match (T.ty t).inf.agg with
      | some true => off + (T.ty t).n ≤ vs.length ∧ 0 < (T.ty t).n ∧ K (.agg ((vs.drop off).take (T.ty t).n)) [(i, .grw e q k' n vs)] []
      | some false => off < vs.length ∧ K (vs.getD off (.d ((T.ty t).z.getD 0 .nilp))) [(i, .grw e q k' n vs)] []
      | none => False)
    | _ => False)
  | _ => False
theorem loadEp_ok {T : Tb P} {t : Nat} {x : Operand} {K : KK} (ho : o.op = .load t x) (h : loadEpV T t (ev x) σ K) : ∃ v rd wr, K v rd wr ∧ LStep P o ev rd v wr ∧ (∀ p ∈ wr, ∃ q ∈ rd, q.1 = p.1) ∧ ∀ p ∈ rd, σ[p.1]? = some p.2 := by
  unfold loadEpV at h
  split at h
  · rename_i i k off hx'
    split at h
    · rename_i e q k' n vs hσ
      obtain ⟨rfl, h⟩ := h
      split at h
      · rename_i hag
        obtain ⟨hb, h0, h⟩ := h
        refine ⟨_, _, _, h, fun w0 lent C σ w a R hx hrd K Q hK => ?_, by simp, by simpa using hσ⟩
        have h5 := hx x (by simp [ho, Op.operands]); rw [hx'] at h5
        obtain ⟨b, cap, cur, e1, _, _, h1, _, _, _, h2, _, _, _⟩ := R.grwAt (hrd (i, .grw e q k' n vs) (by simp)) h5 (by intro e; subst e; simp at hb; omega)
        have S := T.spec (t := t) rfl (by intro e; rw [e] at hag; cases hag)
        have hl : (((cur.toList.take (n * q)).drop off).take (T.ty t).n).length = (T.ty t).n := by have := h2.length; simp only [List.length_take, List.length_drop] at *; omega
        have hrun := Sl.run_load_agg (P := P) (w := w) (vs := ((cur.toList.take (n * q)).drop off).take (T.ty t).n) ho e1 (S.isAgg hag w) (by rw [hl]; exact S.size) (fun j v hv => by
          rw [add_at]
          rw [List.getElem?_take] at hv
          split at hv
          · rw [List.getElem?_drop, List.getElem?_take] at hv
            split at hv
            · simp [World.cell?, h1]; simpa using hv
            · cases hv
          · cases hv)
        unfold Oper.wp
        rw [hrun]
        exact hK C w _ R (Cx.le_refl C) (by unfold VR; exact ⟨_, rfl, (h2.drop _).take _⟩)
      · rename_i hag
        obtain ⟨hb, h⟩ := h
        refine ⟨_, _, _, h, fun w0 lent C σ w a R hx hrd K Q hK => ?_, by simp, by simpa using hσ⟩
        have h5 := hx x (by simp [ho, Op.operands]); rw [hx'] at h5
        obtain ⟨b, cap, cur, e1, _, _, h1, _, _, _, h2, _, _, _⟩ := R.grwAt (hrd (i, .grw e q k' n vs) (by simp)) h5 (by intro e; subst e; simp at hb)
        have S := T.spec (t := t) rfl (by intro e; rw [e] at hag; cases hag)
        obtain ⟨u, h7, h8⟩ := h2.get (List.getElem?_eq_getElem hb)
        have h9 : w.cell? ⟨b, off, none⟩ = some u := by
          rw [List.getElem?_take] at h7
          split at h7
          · simp [World.cell?, h1]; simpa using h7
          · cases h7
        have hrun := Sl.run_load_at (P := P) (w := w) ho e1 (S.isAgg hag w) h9
        unfold Oper.wp
        rw [hrun]
        exact hK C w _ R (Cx.le_refl C) (by simpa [List.getD, hb] using h8)
      · exact h.elim
    · exact h.elim
  · exact h.elim
theorem spl_take {α : Type} {xs ys : List α} {off m : Nat} (h : off + ys.length ≤ m) (hm : m ≤ xs.length) : (spl xs off ys).take m = spl (xs.take m) off ys := by
  unfold spl
  rw [List.take_append, List.take_of_length_le (by simp; omega), List.take_take, List.drop_take]
  congr 1
  · rw [Nat.min_eq_left (by omega)]
  · congr 1
    simp only [List.length_append, List.length_take]
    omega
theorem set_take {α : Type} {xs : List α} {off m : Nat} {y : α} (h : off < m) : (xs.set off y).take m = (xs.take m).set off y := by rw [List.take_set]
theorem Rel.writeH (R : Rel w0 lent C σ w) {i e q k n b cap : Nat} {vs vs' : List V} {cur : Array Value} {cs' : List Value} (hi : σ[i]? = some (.grw e q k n vs)) (hcur : C.cur i = some (k, .slice (some ⟨b, 0, none⟩) n cap)) (h0 : 0 < cap) (hb : w.heap[b]? = some (.cells cur e (0, 0))) (hnc : n ≤ cap) (hcm : cap ≤ maxLen) (hsz : cs'.length = cap * q)
    (hv : VRs C vs' (cs'.take (n * q))) (h1 : ∀ v ∈ cs'.take (n * q), v.oneCell' = true) (hG : ∀ o, C.G b o = none) : Rel w0 lent C (σ.set i (.grw e q k n vs')) (w.setRow b cs'.toArray) := by
  obtain ⟨hρ, _⟩ := R.obs i _ hi
  have hblk : blockOf C i (.grw e q k n vs) = some b := by simp only [blockOf, hcur, Option.bind_some, hdBlock]; rw [if_neg (by omega)]
  have hoth : ∀ k, k ≠ b → (w.setRow b cs'.toArray).heap[k]? = w.heap[k]? := fun k hk => setRow_other w b k _ hk
  have hln : n * q ≤ cap * q := Nat.mul_le_mul_right _ hnc
  refine R.step hi ⟨Cx.le_refl C, rfl, fun _ _ => rfl, fun _ _ => rfl, fun k' hk hne => hoth k' (fun e => hne (by rw [hblk, e])), fun k' q' v h => ?_, fun _ _ _ _ => rfl, ?_, fun k' hk => .inl (by simpa [blockOf] using hk), by simp [World.setRow], rfl, rfl, rfl⟩
  · have hk : k' ≠ b := fun e => by subst e; rw [hG] at h; cases h
    rw [World.cell?_of_block (hoth k' hk)]
    exact R.ro k' q' v h
  · refine ⟨hρ, _, cs'.take (n * q), hcur, ⟨by rw [List.length_take]; omega, .inr ⟨b, cap, cs'.toArray, rfl, h0, setRow_heap w b cur _ e _ hb, hnc, hcm, by simpa using hsz, rfl, h1⟩⟩, hv, fun b' hb' o => ?_⟩
    simp only [hdBlock] at hb'
    rw [if_neg (by omega)] at hb'
    injection hb' with hb'
    subst hb'
    exact hG o
def storeEpV (T : Tb P) (t : Nat) (p x : V) (σ : List Ob) (K : KK) : Prop :=
  match p with
  | .ep i k off => (match σ[i]? with
    | some (.grw e q k' n vs) => k' = k ∧ (match (T.ty t).inf.agg, x with
      | some true, .agg us => us.length = (T.ty t).n ∧ 0 < us.length ∧ us.all V.one = true ∧ off + us.length ≤ vs.length ∧ K .any [(i, .grw e q k' n vs)] [(i, .grw e q k' n (spl vs off us))]
      | some false, x => (T.ty t).n = 1 ∧ x.one = true ∧ off < vs.length ∧ K .any [(i, .grw e q k' n vs)] [(i, .grw e q k' n (vs.set off x))]
      | _, _ => False)
    | _ => False)
  | _ => False
theorem storeEp_ok {T : Tb P} {t : Nat} {p x : Operand} {K : KK} (ho : o.op = .store t p x) (h : storeEpV T t (ev p) (ev x) σ K) : ∃ v rd wr, K v rd wr ∧ LStep P o ev rd v wr ∧ (∀ p ∈ wr, ∃ q ∈ rd, q.1 = p.1) ∧ ∀ p ∈ rd, σ[p.1]? = some p.2 := by
  unfold storeEpV at h
  split at h
  · rename_i i k off hp'
    split at h
    · rename_i e q k' n vs hσ
      obtain ⟨rfl, h⟩ := h
      split at h
      · rename_i us hag hx'
        obtain ⟨hn, hpos, hone, hb, h⟩ := h
        refine ⟨_, _, _, h, fun w0 lent C σ w a R hx hrd K Q hK => ?_, by simp, by simpa using hσ⟩
        have hi := hrd (i, .grw e q k' n vs) (by simp)
        have h5 := hx p (by simp [ho, Op.operands]); rw [hp'] at h5
        obtain ⟨b, cap, cur, e1, hcur, h0, h1, hnc, hcm, hsz, h2, h3, hvl, hG⟩ := R.grwAt hi h5 (by intro e; rw [e] at hb; simp only [List.length_nil] at hb; omega)
        have h7 := hx x (by simp [ho, Op.operands]); rw [hx'] at h7; unfold VR at h7
        obtain ⟨ws, e2, h8⟩ := h7
        have hwone := all_one hone h8
        have S := T.spec (t := t) rfl (by intro e; rw [e] at hag; cases hag)
        have hln : n * q ≤ cap * q := Nat.mul_le_mul_right _ hnc
        have hcl : cur.toList.length = cap * q := by simpa using hsz
        have hwl := h8.length
        have hr := run_storeCells_at (P := P) b off e ws 0 cur w h1 (by simp only [Nat.add_zero]; omega) (fun v hv => hwone v hv)
        simp only [Nat.add_zero] at hr
        have hsl : (spl cur.toList off ws).length = cap * q := by unfold spl; simp only [List.length_append, List.length_take, List.length_drop]; omega
        have R' := R.writeH hi hcur h0 h1 hnc hcm hsl (by rw [spl_take (by omega) (by omega)]; exact spl_ok h2 h8 off) (fun v hv => by
          rw [spl_take (by omega) (by omega)] at hv
          unfold spl at hv
          simp only [List.mem_append] at hv
          rcases hv with (hv | hv) | hv
          · exact h3 v (List.mem_of_mem_take hv)
          · exact hwone v hv
          · exact h3 v (List.mem_of_mem_drop hv)) hG
        have hrun : (execOp a.eval o).run P w = .ok .skip (w.setRow b (spl cur.toList off ws).toArray) := by
          simp [execOp, ho, e1, e2, Instr.storeAt, Instr.sureAddr, storeVar, Value.cells, sizeOf_run S.size, ← hn, h8.length, hr, spl]
        unfold Oper.wp
        rw [hrun]
        exact hK C _ _ R' (Cx.le_refl C) (VR.any' _ _)
      · rename_i hag
        obtain ⟨hn, hone, hb, h⟩ := h
        refine ⟨_, _, _, h, fun w0 lent C σ w a R hx hrd K Q hK => ?_, by simp, by simpa using hσ⟩
        have hi := hrd (i, .grw e q k' n vs) (by simp)
        have h5 := hx p (by simp [ho, Op.operands]); rw [hp'] at h5
        obtain ⟨b, cap, cur, e1, hcur, h0, h1, hnc, hcm, hsz, h2, h3, hvl, hG⟩ := R.grwAt hi h5 (by intro e; subst e; simp at hb)
        have h7 := hx x (by simp [ho, Op.operands])
        obtain ⟨hu1, _⟩ := one_ok hone h7
        have S := T.spec (t := t) rfl (by intro e; rw [e] at hag; cases hag)
        have hln : n * q ≤ cap * q := Nat.mul_le_mul_right _ hnc
        have hcl : cur.toList.length = cap * q := by simpa using hsz
        have hrun : (execOp a.eval o).run P w = .ok .skip (w.setCell ⟨b, off, none⟩ (a.eval x)) :=
          Sl.run_store_at (P := P) ho e1 rfl hu1 (by rw [S.size, hn]) (by
            have : w.cell? ⟨b, off, none⟩ = some (cur.toList[off]'(by omega)) := by
              simp only [World.cell?, h1]
              simp
            exact this) (by simp [World.frozen?, h1])
        have h1' : w.heap[b]? = some (.cells cur.toList.toArray e (0, 0)) := by simpa using h1
        rw [setCell_row h1'] at hrun
        have R' := R.writeH hi hcur h0 h1 hnc hcm (cs' := cur.toList.set off (a.eval x)) (by simpa using hsz) (by rw [List.take_set]; exact h2.set (i := off) h7) (fun v hv => by
          rw [List.take_set] at hv
          rcases List.mem_or_eq_of_mem_set hv with hv | hv
          · exact h3 v hv
          · rw [hv]; exact hu1) hG
        unfold Oper.wp
        rw [hrun]
        exact hK C _ _ R' (Cx.le_refl C) (VR.any' _ _)
      · exact h.elim
    · exact h.elim
  · exact h.elim
/-- x[:m], and x is that from now on. -/
def sliceHdV (T : Tb P) (t : Nat) (x : V) (lo hi : Option V) (σ : List Ob) (K : KK) : Prop :=
  match (T.ty t).inf, x, lo with
  | .sl _ q _, .hd i k n, none => (match σ[i]? with
    | some (.grw e q' k' n' vs) => k' = k ∧ q' = q ∧ n' = n ∧ bnds none hi n fun _ u => K (.hd i (k + 1) u) [(i, .grw e q k n vs)] [(i, .grw e q (k + 1) u (vs.take (u * q)))]
    | _ => False)
  | _, _, _ => False
theorem sliceHd_ok {T : Tb P} {t : Nat} {x : Operand} {lo hi : Option Operand} {K : KK} (ho : o.op = .slice t x lo hi none) (h : sliceHdV T t (ev x) (lo.map ev) (hi.map ev) σ K) : ∃ v rd wr, K v rd wr ∧ LStep P o ev rd v wr ∧ (∀ p ∈ wr, ∃ q ∈ rd, q.1 = p.1) ∧ ∀ p ∈ rd, σ[p.1]? = some p.2 := by
  unfold sliceHdV at h
  split at h
  · rename_i e0 q b0 i k n hs hx' hlo
    obtain rfl : lo = none := by simpa using hlo
    split at h
    · rename_i e q' k' n' vs hσ
      obtain ⟨rfl, rfl, rfl, h⟩ := h
      obtain ⟨u, hu, hK0, hrunb⟩ : ∃ u, u ≤ n' ∧ K (.hd i (k' + 1) u) [(i, .grw e q' k' n' vs)] [(i, .grw e q' (k' + 1) u (vs.take (u * q')))] ∧ ∀ (C : Cx) (a : Act), (∀ y ∈ hi.toList, VR C (ev y) (a.eval y)) → ∀ (cap : Nat), n' ≤ cap → ∀ w, (Instr.sliceBounds true n' cap none (hi.map a.eval) none).run P w = .ok (0, u, cap) w := by
        unfold bnds at h
        split at h
        · rename_i h2
          obtain rfl : hi = none := by simpa using h2
          refine ⟨n', Nat.le_refl _, h, fun C a _ cap hc w => ?_⟩
          simp [Instr.sliceBounds]
        · rename_i h1 h2; cases h1
        · rename_i kk hh h1 h2
          obtain ⟨y, rfl, hy⟩ := Option.map_eq_some_iff.1 h2
          obtain ⟨h3, h4, h⟩ := h
          refine ⟨hh.toNat, by omega, h, fun C a hx cap hc w => ?_⟩
          have h5 := hx y (by simp); rw [hy] at h5
          have h6 : 0 ≤ hh ∧ hh ≤ (cap : Int) := by omega
          simp [Instr.sliceBounds, vr_int h5, bound_run (P := P) h6 w]
        · rename_i h1 h2; cases h1
        · exact h.elim
      refine ⟨_, _, _, hK0, fun w0 lent C σ w a R hx hrd K Q hK => ?_, by simp, by simpa using hσ⟩
      have hv := hx x (by simp [ho, Op.operands]); rw [hx'] at hv
      have hy : ∀ y ∈ hi.toList, VR C (ev y) (a.eval y) := fun y hy => hx y (by
        simp only [ho, Op.operands]
        cases hi with
        | none => simp at hy
        | some zz => simp at hy; subst hy; simp)
      have hi' := hrd (i, .grw e q' k' n' vs) (by simp)
      unfold VR at hv
      obtain ⟨_, _, _, h4⟩ := hv
      obtain ⟨_, u0, xs, hcur, hr, hvs, _⟩ := R.obs i _ hi'
      have hvu := (h4 _ _ hcur).2 rfl
      rcases hr.2 with ⟨rfl, ad, e1⟩ | ⟨g, cap, cur, e1, h0, h1, h2, h3, h5, h6, h7⟩
      · obtain rfl : u = 0 := by omega
        have hxs : xs = [] := List.eq_nil_of_length_eq_zero (by rw [hr.1, Nat.zero_mul])
        subst hxs
        have hrs := slice_run hs (a := ad) (hrunb C a hy 0 (Nat.le_refl _) w)
        obtain ⟨C2, R2, hle2, hv2⟩ := R.turn (w' := w) (u' := .slice ad 0 0) (n' := 0) (vs' := vs.take (0 * q')) (cs' := []) hi' hcur ⟨by simp, .inl ⟨rfl, ad, rfl⟩⟩ (by rw [Nat.zero_mul, List.take_zero]; exact .nil) rfl rfl rfl (Nat.le_refl _) (.inr (.inr ⟨by cases ad <;> simp [hdBlock], fun _ _ => rfl⟩))
        have hrun : (execOp a.eval o).run P w = .ok (.value (.slice ad 0 0)) w := by
          simp only [execOp, ho, hvu, e1, Sem.run_bind, Option.map_none, hrs, Result.andThen_ok, Sem.run_pure]
          simp
        unfold Oper.wp
        rw [hrun]
        exact hK C2 w _ (by simpa [upd] using R2) hle2 hv2
      · have hrs := slice_run hs (a := some ⟨g, 0, none⟩) (hrunb C a hy cap h2 w)
        have hub : u * q' ≤ n' * q' := Nat.mul_le_mul_right _ hu
        have hrow : rowH w e q' (.slice (some ⟨g, 0, none⟩) u cap) u (xs.take (u * q')) := ⟨by rw [List.length_take, hr.1]; omega, .inr ⟨g, cap, cur, rfl, h0, h1, by omega, h3, h5, by rw [← h6, List.take_take, Nat.min_eq_left hub], fun v hv => h7 v (List.mem_of_mem_take hv)⟩⟩
        obtain ⟨C2, R2, hle2, hv2⟩ := R.turn (w' := w) (u' := .slice (some ⟨g, 0, none⟩) u cap) (n' := u) (vs' := vs.take (u * q')) hi' hcur hrow (hvs.take _) rfl rfl rfl (Nat.le_refl _) (.inl ⟨by rw [e1]; simp [hdBlock], fun _ _ _ => rfl⟩)
        have hrun : (execOp a.eval o).run P w = .ok (.value (.slice (some ⟨g, 0, none⟩) u cap)) w := by
          simp only [execOp, ho, hvu, e1, Sem.run_bind, Option.map_none, hrs, Result.andThen_ok, Sem.run_pure]
          rw [if_neg (by omega)]
          simp [Addr.add]
        unfold Oper.wp
        rw [hrun]
        exact hK C2 w _ (by simpa [upd] using R2) hle2 hv2
    · exact h.elim
  · exact h.elim
/-! ### Maps -/
def dkey : D → D → Bool
  | .int _ a, .int _ b => a == b
  | .str a, .str b => a == b
  | _, _ => false
def isKey : Inf → D → Bool
  | .int k, .int k' _ => k == k'
  | .str, .str _ => true
  | _, _ => false
def mfind (key : D) : List (D × V × Nat) → Option (Nat × V)
  | [] => none
  | e :: es => if dkey key e.1 then some (0, e.2.1) else (mfind key es).map fun p => (p.1 + 1, p.2)
def mput (key : D) (v : V) (c : Nat) : List (D × V × Nat) → List (D × V × Nat)
  | [] => [(key, v, c)]
  | e :: es => if dkey key e.1 then (e.1, v, e.2.2) :: es else e :: mput key v c es
def mdel (key : D) : List (D × V × Nat) → List (D × V × Nat)
  | [] => []
  | e :: es => if dkey key e.1 then es else e :: mdel key es
def mhas (key : D) (es : List (D × V × Nat)) : Bool := es.any fun e => dkey key e.1
def mget (zv : V) (key : D) : List (D × V × Nat) → V
  | [] => zv
  | e :: es => if dkey key e.1 then e.2.1 else mget zv key es
def kdOf : Inf → TypeDesc
  | .int k => .int k
  | _ => .string
theorem isKey_eq {kd : Inf} {a b : D} (ha : isKey kd a = true) (hb : isKey kd b = true) (h : dkey a b = true) : a = b := by
  cases kd <;> simp only [isKey, Bool.false_eq_true] at ha hb
  · split at ha <;> simp_all [dkey]
    rename_i k n
    cases b <;> simp_all [isKey, dkey]
  · split at ha <;> simp_all [dkey]
    cases b <;> simp_all [isKey, dkey]
theorem same_now {kd : Inf} {G : GC} {a b : D} {u v : Value} (ha : isKey kd a = true) (hb : isKey kd b = true) (hu : DR G a [u]) (hv : DR G b [v]) : Instr.sameNow (kdOf kd) u v = some (dkey a b) := by
  cases kd <;> simp only [isKey, Bool.false_eq_true] at ha hb
  · cases a <;> simp only [Bool.false_eq_true] at ha
    cases b <;> simp only [Bool.false_eq_true] at hb
    unfold DR at hu hv
    simp only [List.cons.injEq, and_true] at hu hv
    subst hu; subst hv
    simp only [beq_iff_eq] at ha hb
    subst ha; subst hb
    simp [Instr.sameNow, kdOf, dkey]
  · cases a <;> simp only [Bool.false_eq_true] at ha
    cases b <;> simp only [Bool.false_eq_true] at hb
    unfold DR at hu hv
    obtain ⟨hu, _⟩ := hu
    obtain ⟨hv, _⟩ := hv
    simp only [List.cons.injEq, and_true] at hu hv
    subst hu; subst hv
    rename_i s t hs ht
    simp only [Instr.sameNow, kdOf, dkey]
    congr 1
    rw [show (({ data := s.toArray } : ByteArray) == { data := t.toArray }) = (s.toArray == t.toArray) from rfl, Bool.eq_iff_iff, beq_iff_eq, beq_iff_eq]
    exact ⟨fun h => by simpa using congrArg Array.toList h, fun h => by rw [h]⟩
theorem find_now {kd : Inf} {G : GC} {key : D} {u : Value} (hk : isKey kd key = true) (hu : DR G key [u]) : ∀ {es : List (D × V × Nat)} {l : List MapEntry} (i : Nat), es.all (fun e => isKey kd e.1) = true → (es.map (fun e => e.1)).length = l.length → (∀ (j : Nat) (e : D × V × Nat) (m : MapEntry), es[j]? = some e → l[j]? = some m → DR G e.1 [m.key]) →
    Instr.findNow (kdOf kd) u l i = some ((mfind key es).bind fun p => (l[p.1]?).map fun m => (i + p.1, m.val))
  | [], [], i, _, _, _ => rfl
  | [], _ :: _, _, _, h, _ => by simp at h
  | _ :: _, [], _, _, h, _ => by simp at h
  | e :: es, m :: l, i, ha, hl, h => by
    simp only [List.all_cons, Bool.and_eq_true] at ha
    have h1 := same_now hk ha.1 hu (h 0 e m rfl rfl)
    unfold Instr.findNow mfind
    rw [h1]
    cases hd : dkey key e.1 with
    | true => simp
    | false =>
      have ih := find_now hk hu (es := es) (l := l) (i + 1) ha.2 (by simpa using hl) (fun j e' m' h2 h3 => h (j + 1) e' m' (by simpa using h2) (by simpa using h3))
      simp only [ih]
      cases hm : mfind key es with
      | none => simp
      | some p =>
        simp only [Option.bind_some, Option.map_some, Bool.false_eq_true, if_false, List.getElem?_cons_succ]
        cases l[p.1]? <;> simp
        omega
theorem mfind_get {key : D} {zv : V} : ∀ {es : List (D × V × Nat)}, mget zv key es = (match mfind key es with | some p => p.2 | none => zv) ∧ mhas key es = (mfind key es).isSome
  | [] => ⟨rfl, rfl⟩
  | e :: es => by
    obtain ⟨h1, h2⟩ := mfind_get (key := key) (zv := zv) (es := es)
    unfold mget mfind mhas
    simp only [List.any_cons]
    cases hd : dkey key e.1 with
    | true => simp
    | false =>
      unfold mhas at h2
      simp only [Bool.false_eq_true, if_false, h1, Bool.false_or, h2]
      cases mfind key es <;> simp
theorem mfind_lt {key : D} : ∀ {es : List (D × V × Nat)} {p : Nat × V}, mfind key es = some p → ∃ e, es[p.1]? = some e ∧ e.2.1 = p.2 ∧ dkey key e.1 = true
  | [], p, h => by simp [mfind] at h
  | e :: es, p, h => by
    unfold mfind at h
    split at h
    · rename_i hd
      injection h with h
      subst h
      exact ⟨e, rfl, rfl, hd⟩
    · obtain ⟨p', h1, rfl⟩ := Option.map_eq_some_iff.1 h
      obtain ⟨e', h2, h3, h4⟩ := mfind_lt h1
      exact ⟨e', by simpa using h2, h3, h4⟩
theorem mput_eq {key : D} {v : V} {c : Nat} : ∀ {es : List (D × V × Nat)}, mput key v c es = (match mfind key es with | some p => es.modify p.1 (fun e => (e.1, v, e.2.2)) | none => es ++ [(key, v, c)])
  | [] => rfl
  | e :: es => by
    have ih := mput_eq (key := key) (v := v) (c := c) (es := es)
    unfold mput mfind
    cases hd : dkey key e.1 with
    | true => simp
    | false =>
      simp only [Bool.false_eq_true, if_false, ih]
      cases mfind key es <;> simp
theorem mdel_eq {key : D} : ∀ {es : List (D × V × Nat)}, mdel key es = (match mfind key es with | some p => es.eraseIdx p.1 | none => es)
  | [] => rfl
  | e :: es => by
    have ih := mdel_eq (key := key) (es := es)
    unfold mdel mfind
    cases hd : dkey key e.1 with
    | true => simp
    | false =>
      simp only [Bool.false_eq_true, if_false, ih]
      cases mfind key es <;> simp
theorem inf_map (T : Tb P) {t kt et : Nat} (h : (T.ty t).inf = .map kt et) : P.underlying t = some (.map kt et) := by
  obtain ⟨d, hd, hk⟩ := inf_of T h (by simp)
  cases d <;> simp only [infOK, Bool.false_eq_true] at hk
  simp only [Bool.and_eq_true, beq_iff_eq] at hk
  obtain ⟨rfl, rfl⟩ := hk
  exact hd
theorem kd_under (T : Tb P) {kt : Nat} {key : D} (h : isKey (T.ty kt).inf key = true) : P.underlying kt = some (kdOf (T.ty kt).inf) := by
  cases hi : (T.ty kt).inf <;> rw [hi] at h <;> simp only [isKey, Bool.false_eq_true] at h
  · exact inf_int T hi
  · exact inf_str T hi
theorem EsR.len {C : Cx} {es : List (D × V × Nat)} {l : List MapEntry} (h : EsR C es l) : l.length = es.length := by have := h.1.length; simpa using this
theorem EsR.at {C : Cx} {es : List (D × V × Nat)} {l : List MapEntry} (h : EsR C es l) {j : Nat} {e : D × V × Nat} {m : MapEntry} (h1 : es[j]? = some e) (h2 : l[j]? = some m) : DR C.G e.1 [m.key] ∧ VR C e.2.1 m.val ∧ m.born = e.2.2 := by
  obtain ⟨k1, k2, k3⟩ := h
  obtain ⟨a, a1, a2⟩ := k1.get (i := j) (x := .d e.1) (by rw [List.getElem?_map, h1]; rfl)
  obtain ⟨b, b1, b2⟩ := k2.get (i := j) (x := e.2.1) (by rw [List.getElem?_map, h1]; rfl)
  rw [List.getElem?_map, h2] at a1 b1
  injection a1 with a1; injection b1 with b1
  subst a1; subst b1
  refine ⟨by unfold VR at a2; exact a2, b2, ?_⟩
  have := congrArg (fun l => l[j]?) k3
  simp only [List.getElem?_map, h1, h2, Option.map_some, Option.some.injEq] at this
  exact this
theorem EsR.of {C : Cx} : ∀ {es : List (D × V × Nat)} {l : List MapEntry}, l.length = es.length → (∀ (j : Nat) (e : D × V × Nat) (m : MapEntry), es[j]? = some e → l[j]? = some m → DR C.G e.1 [m.key] ∧ VR C e.2.1 m.val ∧ m.born = e.2.2) → EsR C es l := fun {es l} hl h => by
  refine ⟨VRs.of (by simp [hl]) fun i x v h1 h2 => ?_, VRs.of (by simp [hl]) fun i x v h1 h2 => ?_, List.ext_getElem? fun j => ?_⟩
  · rw [List.getElem?_map] at h1 h2
    cases he : es[i]? with
    | none => rw [he] at h1; cases h1
    | some e =>
      cases hm : l[i]? with
      | none => rw [hm] at h2; cases h2
      | some m =>
        rw [he] at h1; rw [hm] at h2
        injection h1 with h1; injection h2 with h2
        subst h1; subst h2
        unfold VR
        exact (h i e m he hm).1
  · rw [List.getElem?_map] at h1 h2
    cases he : es[i]? with
    | none => rw [he] at h1; cases h1
    | some e =>
      cases hm : l[i]? with
      | none => rw [hm] at h2; cases h2
      | some m =>
        rw [he] at h1; rw [hm] at h2
        injection h1 with h1; injection h2 with h2
        subst h1; subst h2
        exact (h i e m he hm).2.1
  · rw [List.getElem?_map, List.getElem?_map]
    cases he : es[j]? with
    | none =>
      have : l[j]? = none := by rw [List.getElem?_eq_none_iff] at he ⊢; omega
      rw [this]; rfl
    | some e =>
      have hj := (List.getElem?_eq_some_iff.1 he).1
      have hm : l[j]? = some (l[j]'(by omega)) := List.getElem?_eq_getElem _
      rw [hm]
      simp only [Option.map_some, Option.some.injEq]
      exact (h j e _ he hm).2.2
/-- What a map holds; nil is one, too. -/
def entsV (x : V) (σ : List Ob) (K : List (D × V × Nat) → List (Nat × Ob) → Prop) : Prop :=
  match x with
  | .map j => (match σ[j]? with
    | some (.mp es c) => K es [(j, .mp es c)]
    | _ => False)
  | .d .nilm => K [] []
  | _ => False
theorem ents_ok {x : V} {K : List (D × V × Nat) → List (Nat × Ob) → Prop} (h : entsV x σ K) : ∃ es rd, K es rd ∧ (∀ p ∈ rd, σ[p.1]? = some p.2) ∧ ∀ (w0 : Bs) (lent : Nat → Prop) (C : Cx) (σ1 : List Ob) (w : World) (v : Value), Rel w0 lent C σ1 w → (∀ p ∈ rd, σ1[p.1]? = some p.2) → VR C x v →
    ∃ l : List MapEntry, EsR C es l ∧ (v = .map none ∧ l = [] ∨ ∃ b c, v = .map (some b) ∧ w.heap[b]? = some (.map l.toArray c)) := by
  unfold entsV at h
  split at h
  · rename_i j
    split at h
    · rename_i es c hσ
      refine ⟨_, _, h, by simpa using hσ, fun w0 lent C σ1 w v R hrd hv => ?_⟩
      obtain ⟨_, b, l, h1, h2, h3, _⟩ := R.obs j _ (hrd (j, .mp es c) (by simp))
      unfold VR at hv
      obtain ⟨b', h4, rfl⟩ := hv
      rw [h1] at h4; injection h4 with h4; injection h4 with h4; subst h4
      exact ⟨l.toList, h3, .inr ⟨_, c, rfl, by simpa using h2⟩⟩
    · exact h.elim
  · refine ⟨_, _, h, by simp, fun w0 lent C σ1 w v R hrd hv => ⟨[], ⟨.nil, .nil, rfl⟩, .inl ⟨?_, rfl⟩⟩⟩
    unfold VR DR at hv
    simpa using hv
  · exact h.elim
/-- The zero of a map's elements. -/
def zV (T : Tb P) (t : Nat) : Option V := match (T.ty t).inf with
  | .un => none
  | i => (match i.agg, (T.ty t).z with
    | some false, [z] => some (.d z)
    | some true, z1 :: z2 :: zs => some (.agg ((z1 :: z2 :: zs).map .d))
    | _, _ => none)
theorem zV_ok {T : Tb P} {t : Nat} {v : V} (h : zV T t = some v) (C : Cx) : ∃ z, (∀ w, (zeroValue t).run P w = .ok z w) ∧ VR C v z := by
  have hun : (T.ty t).inf ≠ .un := by intro e; unfold zV at h; rw [e] at h; cases h
  have S := T.spec (t := t) rfl hun
  have key : (T.ty t).z ≠ [] → ∃ z, (∀ w, (zeroValue t).run P w = .ok z w) ∧ VRs C (zeroV T t) z.cells.toList ∧ isAggV z = ((T.ty t).inf.agg == some true) := fun hz => by
    obtain ⟨i, z, hi, hzz, he⟩ := S.zero hz
    exact ⟨z, fun w => by simp [zeroValue, typeInfo, hi, hzz], dagg_vrs (eqDs_ok (G := C.G) he), S.zagg i z hz hi hzz⟩
  unfold zV at h
  split at h
  · cases h
  · split at h
    · rename_i z1 hag hz
      injection h with h; subst h
      obtain ⟨z, h1, h2, h3⟩ := key (by rw [hz]; simp)
      unfold zeroV at h2
      rw [hz] at h2
      rw [hag] at h3
      refine ⟨z, h1, ?_⟩
      simp only [List.map_cons, List.map_nil] at h2
      have hzc : z.cells = #[z] := by cases z <;> first | rfl | (simp [isAggV] at h3)
      rw [hzc] at h2
      unfold VRs at h2
      obtain ⟨v', r', e1, h6, _⟩ := h2
      injection e1 with e1 _
      subst e1
      exact h6
    · rename_i z1 z2 zs hag hz
      injection h with h; subst h
      obtain ⟨z, h1, h2, h3⟩ := key (by rw [hz]; simp)
      unfold zeroV at h2
      rw [hz] at h2
      rw [hag] at h3
      refine ⟨z, h1, ?_⟩
      unfold VR
      cases z with
      | agg cs => exact ⟨cs.toList, by simp, by simpa [Value.cells] using h2⟩
      | _ => simp [isAggV] at h3
    · cases h
end
end Go.Proofs.Ytgebfcdcpmmgnaa.Vs
