/- Parts of slices and texts, lengths, literals. -/
import Derived.Test.YtgebfcdcpmmgnaaVsF
set_option linter.unusedVariables false
set_option linter.unusedSimpArgs false
namespace Go.Proofs.Ytgebfcdcpmmgnaa.Vs
open Go.RowKit
section
variable {P : Program} {o : Oper} {ev : Operand → V} {K : V → Prop}
def bnds (lo hi : Option V) (len : Nat) (K : Nat → Nat → Prop) : Prop :=
  match lo, hi with
  | none, none => K 0 len
  | some (.d (.int _ l)), none => 0 ≤ l ∧ l ≤ len ∧ K l.toNat len
  | none, some (.d (.int _ h)) => 0 ≤ h ∧ h ≤ len ∧ K 0 h.toNat
  | some (.d (.int _ l)), some (.d (.int _ h)) => 0 ≤ l ∧ l ≤ h ∧ h ≤ len ∧ K l.toNat h.toNat
  | _, _ => False
theorem bound_run {k : IntKind} {n : Int} {y : Nat} {c : BoundsCode} (h : 0 ≤ n ∧ n ≤ (y : Int)) (w : World) : (Instr.sliceBound (.int k n) y c).run P w = .ok n.toNat w := by
  simp [Instr.sliceBound, asIntOf, h]
/-- lim: how far one may go (the length of a text or an array, a slice's capacity). -/
theorem bnds_ok {lo hi : Option Operand} {len : Nat} {K : Nat → Nat → Prop} (h : bnds (lo.map ev) (hi.map ev) len K) : ∃ l u, K l u ∧ l ≤ u ∧ u ≤ len ∧ ∀ (C : Cx) (a : Act), (∀ x ∈ lo.toList ++ hi.toList, VR C (ev x) (a.eval x)) → ∀ (b : Bool) (lim : Nat), len ≤ lim → ∀ w, (Instr.sliceBounds b len lim (lo.map a.eval) (hi.map a.eval) none).run P w = .ok (l, u, lim) w := by
  unfold bnds at h
  split at h
  · rename_i h1 h2
    obtain rfl : lo = none := by simpa using h1
    obtain rfl : hi = none := by simpa using h2
    exact ⟨0, len, h, Nat.zero_le _, Nat.le_refl _, fun C a _ b lim _ w => by simp [Instr.sliceBounds]⟩
  · rename_i k l h1 h2
    obtain rfl : hi = none := by simpa using h2
    obtain ⟨x, rfl, hx'⟩ := Option.map_eq_some_iff.1 h1
    obtain ⟨h3, h4, h⟩ := h
    refine ⟨l.toNat, len, h, by omega, Nat.le_refl _, fun C a hx b lim hl w => ?_⟩
    have h5 := hx x (by simp); rw [hx'] at h5
    simp [Instr.sliceBounds, vr_int h5, bound_run (P := P) ⟨h3, h4⟩ w]
  · rename_i k u h1 h2
    obtain rfl : lo = none := by simpa using h1
    obtain ⟨x, rfl, hx'⟩ := Option.map_eq_some_iff.1 h2
    obtain ⟨h3, h4, h⟩ := h
    refine ⟨0, u.toNat, h, by omega, by omega, fun C a hx b lim hl w => ?_⟩
    have h5 := hx x (by simp); rw [hx'] at h5
    have h6 : 0 ≤ u ∧ u ≤ (lim : Int) := by omega
    simp [Instr.sliceBounds, vr_int h5, bound_run (P := P) h6 w]
  · rename_i k l k' u h1 h2
    obtain ⟨x, rfl, hx'⟩ := Option.map_eq_some_iff.1 h1
    obtain ⟨y, rfl, hy'⟩ := Option.map_eq_some_iff.1 h2
    obtain ⟨h3, h4, h5, h⟩ := h
    refine ⟨l.toNat, u.toNat, h, by omega, by omega, fun C a hx b lim hl w => ?_⟩
    have h6 := hx x (by simp); rw [hx'] at h6
    have h7 := hx y (by simp); rw [hy'] at h7
    have h8 : 0 ≤ u ∧ u ≤ (lim : Int) := by omega
    have h9 : 0 ≤ l ∧ l ≤ ((u.toNat : Nat) : Int) := by omega
    simp [Instr.sliceBounds, vr_int h6, vr_int h7, bound_run (P := P) h8 w, bound_run (P := P) h9 w]
  · exact h.elim
theorem dr_part {G : GC} {q : Nat} {xs : List D} {a : Option Addr} {c : Nat} (h : DR G (.sl q xs) [.slice a xs.length c]) {l u : Nat} (hl : l ≤ u) (hu : u ≤ xs.length) :
    DR G (.sl q ((xs.drop l).take (u - l))) [.slice (if c = l then a else a.map (·.add (l * q))) (u - l) (c - l)] := by
  unfold DR at h ⊢
  obtain ⟨a', c', e1, h1, h2, h3, h4⟩ := h
  injection e1 with e1
  injection e1 with e1 e2 e3
  subst e1; subst e3
  have hlen : ((xs.drop l).take (u - l)).length = u - l := by simp; omega
  refine ⟨_, _, by rw [hlen], by rw [hlen]; omega, by omega, h3, fun hn => ?_⟩
  have hlt : l < u := by
    rcases Nat.lt_or_ge l u with h | h
    · exact h
    · exact absurd (List.eq_nil_of_length_eq_zero (by rw [hlen]; omega)) hn
  obtain ⟨b, o, rfl, hr⟩ := h4 (by intro e; subst e; simp at hu; omega)
  rw [if_neg (by omega)]
  exact ⟨b, o + l * q, by simp [add_at], (hr.drop l).take _⟩
def sliceV (T : Tb P) (t : Nat) (x : V) (lo hi : Option V) (K : V → Prop) : Prop :=
  match (T.ty t).inf, x with
  | .sl _ q _, .d (.sl q' xs) => q = q' ∧ bnds lo hi xs.length fun l u => K (.d (.sl q ((xs.drop l).take (u - l))))
  | .sl _ q _, .own q' xs c => (match lo, hi with
    | none, none => K (.own q' xs c)
    | _, _ => q = q' ∧ bnds lo hi xs.length fun l u => K (.d (.sl q ((xs.drop l).take (u - l)))))
  | .sl _ _ _, .nil => bnds lo hi 0 fun l u => K .nil
  | .str, .d (.str s) => bnds lo hi s.length fun l u => K (.d (.str ((s.drop l).take (u - l))))
  | .arr _ q n, .ptr i off => bnds lo hi n fun l u => (l = 0 ∨ l < n) ∧ K (.row i (off + l * q) (u - l) (n - l))
  | .sl _ q _, .row i off len cap => bnds lo hi len fun l u => len ≤ cap ∧ (l = 0 ∨ l < cap) ∧ K (.row i (off + l * q) (u - l) (cap - l))
  | _, _ => False
theorem slice_run {T : Tb P} {t e q b : Nat} (hs : (T.ty t).inf = .sl e q b) {a : Option Addr} {n c l u : Nat} {lo hi : Option Value} {w : World} (hb : (Instr.sliceBounds true n c lo hi none).run P w = .ok (l, u, c) w) :
    (Instr.sliceAt t (.slice a n c) lo hi none).run P w = .ok (.slice (if c = l then a else a.map (·.add (l * q))) (u - l) (c - l)) w := by
  obtain ⟨hu, _, inf, z, hi', _, hq, _⟩ := inf_sl T hs
  simp [Instr.sliceAt, Instr.slice, run_underlying hu, hb, sizeOf_run (n := q) (t := e) (by rw [hi']; simp [hq])]
theorem dr_sl_form {G : GC} {q : Nat} {xs : List D} {v : Value} (h : DR G (.sl q xs) [v]) : ∃ a c, v = .slice a xs.length c ∧ xs.length ≤ c := by
  unfold DR at h
  obtain ⟨a, c, e1, h1, _⟩ := h
  injection e1 with e1
  exact ⟨a, c, e1, h1⟩
theorem slice_ok {T : Tb P} {t : Nat} {x : Operand} {lo hi : Option Operand} (ho : o.op = .slice t x lo hi none) (h : sliceV T t (ev x) (lo.map ev) (hi.map ev) K) : ∃ v, K v ∧ YL P o ev v := by
  have h0 : ∀ (C : Cx) (a : Act), (∀ x ∈ o.op.operands.toList, VR C (ev x) (a.eval x)) → VR C (ev x) (a.eval x) ∧ (∀ y ∈ lo.toList ++ hi.toList, VR C (ev y) (a.eval y)) := fun C a hx => ⟨hx x (by simp [ho, Op.operands]), fun y hy => hx y (by
    simp only [ho, Op.operands]
    rcases List.mem_append.1 hy with h | h <;> simp_all)⟩
  have hex : ∀ (a : Act) (w : World) (u : Value), (Instr.sliceAt t (a.eval x) (lo.map a.eval) (hi.map a.eval) none).run P w = .ok u w → (execOp a.eval o).run P w = .ok (.value u) w := fun a w u hr => by
    simp [execOp, ho, hr]
  have hdata : ∀ {e q b : Nat} {xs : List D} {K : V → Prop}, (T.ty t).inf = .sl e q b → (∀ C v, VR C (ev x) v → DR C.G (.sl q xs) [v]) → (bnds (lo.map ev) (hi.map ev) xs.length fun l u => K (.d (.sl q ((xs.drop l).take (u - l))))) → ∃ v, K v ∧ YL P o ev v := fun {e q b xs K} hs hv h => by
    obtain ⟨l, u, hK, h1, h2, hr⟩ := bnds_ok (P := P) h
    refine ⟨_, hK, fun C w a _ hx => ?_⟩
    obtain ⟨h3, h4⟩ := h0 C a hx
    have h5 := hv C _ h3
    obtain ⟨ad, c, e1, hc⟩ := dr_sl_form h5
    rw [e1] at h5
    exact ⟨_, hex a w _ (by rw [e1]; exact slice_run hs (hr C a h4 true c hc w)), by unfold VR; exact dr_part h5 h1 h2⟩
  unfold sliceV at h
  split at h
  · rename_i e q b q' xs hs hx'
    obtain ⟨rfl, h⟩ := h
    exact hdata hs (fun C v hv => by rw [hx'] at hv; unfold VR at hv; exact hv) h
  · rename_i e q b q' xs c hs hx'
    split at h
    · rename_i h1 h2
      obtain rfl : lo = none := by simpa using h1
      obtain rfl : hi = none := by simpa using h2
      refine ⟨_, h, fun C w a _ hx => ?_⟩
      obtain ⟨h3, h4⟩ := h0 C a hx
      refine ⟨a.eval x, hex a w _ ?_, by rw [hx'] at h3; exact h3⟩
      rw [hx'] at h3
      unfold VR at h3
      obtain ⟨ad, c', e1, hc⟩ := dr_sl_form h3.1
      rw [e1, slice_run hs (l := 0) (u := xs.length) (by simp [Instr.sliceBounds])]
      cases ad <;> simp [Addr.add]
    · obtain ⟨rfl, h⟩ := h
      exact hdata hs (fun C v hv => by rw [hx'] at hv; unfold VR at hv; exact hv.1) h
  · rename_i e q b hs hx'
    obtain ⟨l, u, hK, h1, h2, hr⟩ := bnds_ok (P := P) h
    refine ⟨_, hK, fun C w a _ hx => ?_⟩
    obtain ⟨h3, h4⟩ := h0 C a hx
    rw [hx'] at h3; unfold VR at h3
    obtain rfl : l = 0 := by omega
    obtain rfl : u = 0 := by omega
    exact ⟨.slice none 0 0, hex a w _ (by rw [h3, slice_run hs (hr C a h4 true 0 (Nat.le_refl _) w)]; simp), by unfold VR; rfl⟩
  · rename_i s hs hx'
    obtain ⟨l, u, hK, h1, h2, hr⟩ := bnds_ok (P := P) h
    refine ⟨_, hK, fun C w a _ hx => ?_⟩
    obtain ⟨h3, h4⟩ := h0 C a hx
    rw [hx'] at h3
    obtain ⟨h5, h6⟩ := vr_str h3
    have h7 := hr C a h4 false s.length (Nat.le_refl _) w
    have h8 : (ByteArray.mk s.toArray).extract l u = ⟨((s.drop l).take (u - l)).toArray⟩ := by
      apply ByteArray.ext
      simp [ByteArray.data_extract]
    refine ⟨.string ⟨((s.drop l).take (u - l)).toArray⟩, hex a w _ ?_, by unfold VR DR; exact ⟨rfl, by simp; omega⟩⟩
    rw [h5]
    have hsz : (ByteArray.mk s.toArray).size = s.length := by simp [ByteArray.size]
    simp [Instr.sliceAt, Instr.slice, run_underlying (inf_str T hs), hsz, h7, h8]
  · rename_i e q n i off hs hx'
    obtain ⟨l, u, ⟨hl, hK⟩, h1, h2, hr⟩ := bnds_ok (P := P) h
    refine ⟨_, hK, fun C w a _ hx => ?_⟩
    obtain ⟨h3, h4⟩ := h0 C a hx
    rw [hx'] at h3; unfold VR at h3
    obtain ⟨b, h5, e1⟩ := h3
    obtain ⟨hu, _, hq⟩ := inf_arr T hs
    refine ⟨.slice (some ⟨b, off + l * q, none⟩) (u - l) (n - l), hex a w _ ?_, by unfold VR; exact ⟨b, h5, rfl⟩⟩
    rw [e1]
    have h6 := hr C a h4 false n (Nat.le_refl _) w
    have h7 : (if n = l then (⟨b, off, none⟩ : Addr) else (⟨b, off, none⟩ : Addr).add (l * q)) = ⟨b, off + l * q, none⟩ := by
      split
      · obtain rfl : l = 0 := by omega
        simp
      · exact add_at _ _ _
    simp [Instr.sliceAt, Instr.sureAddr, run_underlying hu, h6, sizeOf_run hq, h7]
  · rename_i e q b' i off len cap hs hx'
    obtain ⟨l, u, ⟨hc, hl, hK⟩, h1, h2, hr⟩ := bnds_ok (P := P) h
    refine ⟨_, hK, fun C w a _ hx => ?_⟩
    obtain ⟨h3, h4⟩ := h0 C a hx
    rw [hx'] at h3; unfold VR at h3
    obtain ⟨b, h5, e1⟩ := h3
    refine ⟨.slice (some ⟨b, off + l * q, none⟩) (u - l) (cap - l), hex a w _ ?_, by unfold VR; exact ⟨b, h5, rfl⟩⟩
    rw [e1, slice_run hs (hr C a h4 true cap hc w)]
    split
    · obtain rfl : l = 0 := by omega
      simp
    · simp [add_at]
  · exact h.elim
/-- An element of a text or of an array that is a value. -/
def indexV (T : Tb P) (t : Nat) (x i : V) (K : V → Prop) : Prop :=
  match i with
  | .d (.int _ n) => (match (T.ty t).inf, x with
    | .str, .d (.str s) => 0 ≤ n ∧ n.toNat < s.length ∧ K (.d (.int .u8 (s.getD n.toNat 0).toNat))
    | .arr e q m, .agg vs => (T.ty e).inf.agg = some false ∧ q = 1 ∧ 0 ≤ n ∧ n.toNat < m ∧ m ≤ vs.length ∧ K (vs.getD n.toNat .any)
    | _, _ => False)
  | _ => False
theorem index_ok {T : Tb P} {t : Nat} {x i : Operand} (ho : o.op = .index t x i) (h : indexV T t (ev x) (ev i) K) : ∃ v, K v ∧ YL P o ev v := by
  have h0 : ∀ (C : Cx) (a : Act), (∀ x ∈ o.op.operands.toList, VR C (ev x) (a.eval x)) → VR C (ev x) (a.eval x) ∧ VR C (ev i) (a.eval i) := fun C a hx => ⟨hx x (by simp [ho, Op.operands]), hx i (by simp [ho, Op.operands])⟩
  unfold indexV at h
  split at h
  · rename_i k n hi
    split at h
    · rename_i s hs hx'
      obtain ⟨h1, h2, h⟩ := h
      refine ⟨_, h, fun C w a _ hx => ?_⟩
      obtain ⟨h3, h4⟩ := h0 C a hx
      rw [hx'] at h3; rw [hi] at h4
      refine ⟨.int .u8 (s.getD n.toNat 0).toNat, ?_, by unfold VR DR; rfl⟩
      have h5 : (ByteArray.mk s.toArray)[n.toNat]? = some (s.getD n.toNat 0) := by
        have h6 : n.toNat < (ByteArray.mk s.toArray).size := by simpa [ByteArray.size] using h2
        rw [getElem?_pos (ByteArray.mk s.toArray) n.toNat h6]
        simp [ByteArray.getElem_eq_getElem_data, List.getD, h2]
      simp [execOp, ho, (vr_str h3).1, vr_int h4, Instr.index, asIntOf, run_underlying (inf_str T hs), h1, h5]
    · rename_i e q m vs hs hx'
      obtain ⟨hag, rfl, h1, h2, h3, h⟩ := h
      refine ⟨_, h, fun C w a _ hx => ?_⟩
      obtain ⟨h4, h5⟩ := h0 C a hx
      rw [hx'] at h4; rw [hi] at h5; unfold VR at h4
      obtain ⟨us, e1, hvs⟩ := h4
      obtain ⟨u, h6, h7⟩ := hvs.get (List.getElem?_eq_getElem (show n.toNat < vs.length by omega))
      refine ⟨u, ?_, by simpa [List.getD, show n.toNat < vs.length by omega] using h7⟩
      obtain ⟨hu, _, hq⟩ := inf_arr T hs
      have S := T.spec (t := e) rfl (by intro e; rw [e] at hag; cases hag)
      have h8 : 0 ≤ n ∧ n < (m : Int) := by omega
      simp [execOp, ho, e1, vr_int h5, Instr.index, asIntOf, run_underlying hu, h8, sizeOf_run hq, part, S.isAgg hag, h6]
    · exact h.elim
  · exact h.elim
/-- len. -/
def lenV (T : Tb P) (t : Nat) (x : V) (K : V → Prop) : Prop :=
  match (T.ty t).inf, x with
  | .sl .., .d (.sl _ xs) => K (.d (.int .i64 xs.length))
  | .sl .., .own _ xs _ => K (.d (.int .i64 xs.length))
  | .sl .., .nil => K (.d (.int .i64 0))
  | .sl .., .hd _ _ n => K (.d (.int .i64 n))
  | .sl .., .z0 => K (.d (.int .i64 0))
  | .sl .., .nn _ _ xs => K (.d (.int .i64 xs.length))
  | .sl .., .row _ _ len _ => K (.d (.int .i64 len))
  | .str, .d (.str s) => K (.d (.int .i64 s.length))
  | .arr _ _ n, _ => K (.d (.int .i64 n))
  | .map .., .d .nilm => K (.d (.int .i64 0))
  | _, _ => False
theorem len_ok {T : Tb P} {t : Nat} {x : Operand} (ho : o.op = .call { callee := .builtin .len, args := #[x], argTypes := #[t] }) (h : lenV T t (ev x) K) : ∃ v, K v ∧ YL P o ev v := by
  have h0 : ∀ (C : Cx) (a : Act), (∀ x ∈ o.op.operands.toList, VR C (ev x) (a.eval x)) → VR C (ev x) (a.eval x) := fun C a hx => hx x (by simp [ho, Op.operands, Call.operands])
  have hex : ∀ (a : Act) (w : World) (u : Value), (Builtin.len_ #[t] o.type #[a.eval x]).run P w = .ok u w → (execOp a.eval o).run P w = .ok (.value u) w := fun a w u hr => by
    simp [execOp, ho, resolve, invoke, builtin, hr]
  unfold lenV at h
  split at h
  · rename_i e q b q' xs hs hx'
    refine ⟨_, h, fun C w a _ hx => ⟨.int .i64 xs.length, hex a w _ ?_, by unfold VR DR; rfl⟩⟩
    have h1 := h0 C a hx; rw [hx'] at h1; unfold VR at h1
    obtain ⟨ad, c, e1, _⟩ := dr_sl_form h1
    rw [e1]; simp [Builtin.len_, run_underlying (inf_sl T hs).1, goInt]
  · rename_i e q b q' xs c' hs hx'
    refine ⟨_, h, fun C w a _ hx => ⟨.int .i64 xs.length, hex a w _ ?_, by unfold VR DR; rfl⟩⟩
    have h1 := h0 C a hx; rw [hx'] at h1; unfold VR at h1
    obtain ⟨ad, c, e1, _⟩ := dr_sl_form h1.1
    rw [e1]; simp [Builtin.len_, run_underlying (inf_sl T hs).1, goInt]
  · rename_i e q b hs hx'
    refine ⟨_, h, fun C w a _ hx => ⟨.int .i64 0, hex a w _ ?_, by unfold VR DR; rfl⟩⟩
    have h1 := h0 C a hx; rw [hx'] at h1; unfold VR at h1
    rw [h1]; simp [Builtin.len_, run_underlying (inf_sl T hs).1, goInt]
  · rename_i e q b i k n hs hx'
    refine ⟨_, h, fun C w a _ hx => ⟨.int .i64 n, hex a w _ ?_, by unfold VR DR; rfl⟩⟩
    have h1 := h0 C a hx; rw [hx'] at h1; unfold VR at h1
    obtain ⟨_, _, ⟨ad, c, e1, _⟩, _⟩ := h1
    rw [e1]; simp [Builtin.len_, run_underlying (inf_sl T hs).1, goInt]
  · rename_i e q b hs hx'
    refine ⟨_, h, fun C w a _ hx => ⟨.int .i64 0, hex a w _ ?_, by unfold VR DR; rfl⟩⟩
    have h1 := h0 C a hx; rw [hx'] at h1; unfold VR at h1
    obtain ⟨ad, e1⟩ := h1
    rw [e1]; simp [Builtin.len_, run_underlying (inf_sl T hs).1, goInt]
  · rename_i e q b nb q' xs hs hx'
    refine ⟨_, h, fun C w a _ hx => ⟨.int .i64 xs.length, hex a w _ ?_, by unfold VR DR; rfl⟩⟩
    have h1 := h0 C a hx; rw [hx'] at h1; unfold VR at h1
    obtain ⟨ad, c, e1, _⟩ := dr_sl_form h1.1
    rw [e1]; simp [Builtin.len_, run_underlying (inf_sl T hs).1, goInt]
  · rename_i e q b i off len cap hs hx'
    refine ⟨_, h, fun C w a _ hx => ⟨.int .i64 len, hex a w _ ?_, by unfold VR DR; rfl⟩⟩
    have h1 := h0 C a hx; rw [hx'] at h1; unfold VR at h1
    obtain ⟨b, _, e1⟩ := h1
    rw [e1]; simp [Builtin.len_, run_underlying (inf_sl T hs).1, goInt]
  · rename_i s hs hx'
    refine ⟨_, h, fun C w a _ hx => ⟨.int .i64 s.length, hex a w _ ?_, by unfold VR DR; rfl⟩⟩
    have h1 := h0 C a hx; rw [hx'] at h1
    rw [(vr_str h1).1]
    have h2 : (ByteArray.mk s.toArray).size = s.length := by simp [ByteArray.size]
    simp [Builtin.len_, run_underlying (inf_str T hs), goInt, h2]
  · rename_i e q n hs
    refine ⟨_, h, fun C w a _ hx => ⟨.int .i64 n, hex a w _ ?_, by unfold VR DR; rfl⟩⟩
    simp [Builtin.len_, run_underlying (inf_arr T hs).1, goInt]
  · rename_i k v hs hx'
    obtain ⟨d, hd, hk⟩ := inf_of T hs (by simp)
    cases d <;> simp only [infOK, Bool.false_eq_true] at hk
    refine ⟨_, h, fun C w a _ hx => ⟨.int .i64 0, hex a w _ ?_, by unfold VR DR; rfl⟩⟩
    have h1 := h0 C a hx; rw [hx'] at h1; unfold VR DR at h1
    simp only [List.cons.injEq, and_true] at h1
    rw [h1]; simp [Builtin.len_, run_underlying hd, goInt]
  · exact h.elim
/-- min and max of two whole numbers. -/
def minV (x y : V) (K : V → Prop) : Prop :=
  match x, y with
  | .d (.int k a), .d (.int _ b) => K (.d (.int k (if b < a then b else a)))
  | _, _ => False
theorem min_ok {x y : Operand} {ts : Array TypeId} (ho : o.op = .call { callee := .builtin .min, args := #[x, y], argTypes := ts }) (h : minV (ev x) (ev y) K) : ∃ v, K v ∧ YL P o ev v := by
  unfold minV at h
  split at h
  · rename_i k a' k' b' hx' hy'
    refine ⟨_, h, fun C w a _ hx => ⟨.int k (if b' < a' then b' else a'), ?_, by unfold VR DR; rfl⟩⟩
    have h1 := hx x (by simp [ho, Op.operands, Call.operands]); rw [hx'] at h1
    have h2 := hx y (by simp [ho, Op.operands, Call.operands]); rw [hy'] at h2
    simp [execOp, ho, resolve, invoke, builtin, vr_int h1, vr_int h2, Builtin.min_, Builtin.min2]
  · exact h.elim
theorem dr_part3 {G : GC} {q : Nat} {xs : List D} {a : Option Addr} {c : Nat} (h : DR G (.sl q xs) [.slice a xs.length c]) {l u m : Nat} (hl : l ≤ u) (hu : u ≤ m) (hm : m ≤ xs.length) :
    DR G (.sl q ((xs.drop l).take (u - l))) [.slice (if m = l then a else a.map (·.add (l * q))) (u - l) (m - l)] := by
  unfold DR at h ⊢
  obtain ⟨a', c', e1, h1, h2, h3, h4⟩ := h
  injection e1 with e1
  injection e1 with e1 e2 e3
  subst e1; subst e3
  have hlen : ((xs.drop l).take (u - l)).length = u - l := by simp; omega
  refine ⟨_, _, by rw [hlen], by rw [hlen]; omega, by omega, h3, fun hn => ?_⟩
  have hlt : l < u := by
    rcases Nat.lt_or_ge l u with h | h
    · exact h
    · exact absurd (List.eq_nil_of_length_eq_zero (by rw [hlen]; omega)) hn
  obtain ⟨b, o, rfl, hr⟩ := h4 (by intro e; subst e; simp at hm; omega)
  rw [if_neg (by omega)]
  exact ⟨b, o + l * q, by simp [add_at], (hr.drop l).take _⟩
/-- With a bound on the room, too. -/
def slice3V (T : Tb P) (t : Nat) (x : V) (lo : Option V) (hi mx : V) (K : V → Prop) : Prop :=
  match (T.ty t).inf, x, mx with
  | .sl _ q _, .d (.sl q' xs), .d (.int _ m) => q = q' ∧ 0 ≤ m ∧ m ≤ xs.length ∧ bnds lo (some hi) m.toNat fun l u => K (.d (.sl q ((xs.drop l).take (u - l))))
  | .sl _ q _, .own q' xs _, .d (.int _ m) => q = q' ∧ 0 ≤ m ∧ m ≤ xs.length ∧ bnds lo (some hi) m.toNat fun l u => K (.d (.sl q ((xs.drop l).take (u - l))))
  | .sl _ q _, .row i off len cap, .d (.int _ m) => 0 ≤ m ∧ m ≤ cap ∧ bnds lo (some hi) m.toNat fun l u => (l = 0 ∨ l < m.toNat) ∧ K (.row i (off + l * q) (u - l) (m.toNat - l))
  | _, _, _ => False
theorem bnds3_ok {lo : Option Operand} {hi mx : Operand} {m : Int} {k : IntKind} {K : Nat → Nat → Prop} (hmx : ev mx = .d (.int k m)) (h0 : 0 ≤ m) (h : bnds (lo.map ev) (some (ev hi)) m.toNat K) : ∃ l u, K l u ∧ l ≤ u ∧ u ≤ m.toNat ∧ ∀ (C : Cx) (a : Act), (∀ x ∈ mx :: hi :: lo.toList, VR C (ev x) (a.eval x)) → ∀ (lim len : Nat), m ≤ lim → ∀ w, (Instr.sliceBounds true len lim (lo.map a.eval) (some (a.eval hi)) (some (a.eval mx))).run P w = .ok (l, u, m.toNat) w := by
  unfold bnds at h
  split at h
  · rename_i h1 h2; cases h2
  · rename_i k l h1 h2; cases h2
  · rename_i k u h1 h2
    obtain rfl : lo = none := by simpa using h1
    injection h2 with h2
    obtain ⟨h3, h4, h⟩ := h
    refine ⟨0, u.toNat, h, by omega, by omega, fun C a hx lim len hl w => ?_⟩
    have h5 := hx hi (by simp); rw [h2] at h5
    have h7 := hx mx (by simp); rw [hmx] at h7
    have h6 : 0 ≤ u ∧ u ≤ ((m.toNat : Nat) : Int) := by omega
    simp [Instr.sliceBounds, vr_int h5, vr_int h7, bound_run (P := P) h6 w, bound_run (P := P) (n := m) ⟨h0, hl⟩ w]
  · rename_i k l k' u h1 h2
    obtain ⟨x, rfl, hx'⟩ := Option.map_eq_some_iff.1 h1
    injection h2 with h2
    obtain ⟨h3, h4, h5, h⟩ := h
    refine ⟨l.toNat, u.toNat, h, by omega, by omega, fun C a hx lim len hl w => ?_⟩
    have h6 := hx x (by simp); rw [hx'] at h6
    have h7 := hx hi (by simp); rw [h2] at h7
    have h10 := hx mx (by simp); rw [hmx] at h10
    have h8 : 0 ≤ u ∧ u ≤ ((m.toNat : Nat) : Int) := by omega
    have h9 : 0 ≤ l ∧ l ≤ ((u.toNat : Nat) : Int) := by omega
    simp [Instr.sliceBounds, vr_int h6, vr_int h7, vr_int h10, bound_run (P := P) h8 w, bound_run (P := P) h9 w, bound_run (P := P) (n := m) ⟨h0, hl⟩ w]
  · exact h.elim
theorem slice3_run {T : Tb P} {t e q b : Nat} (hs : (T.ty t).inf = .sl e q b) {a : Option Addr} {n c l u m : Nat} {lo hi mx : Option Value} {w : World} (hb : (Instr.sliceBounds true n c lo hi mx).run P w = .ok (l, u, m) w) :
    (Instr.sliceAt t (.slice a n c) lo hi mx).run P w = .ok (.slice (if m = l then a else a.map (·.add (l * q))) (u - l) (m - l)) w := by
  obtain ⟨hu, _, inf, z, hi', _, hq, _⟩ := inf_sl T hs
  simp [Instr.sliceAt, Instr.slice, run_underlying hu, hb, sizeOf_run (n := q) (t := e) (by rw [hi']; simp [hq])]
theorem slice3_ok {T : Tb P} {t : Nat} {x hi mx : Operand} {lo : Option Operand} (ho : o.op = .slice t x lo (some hi) (some mx)) (h : slice3V T t (ev x) (lo.map ev) (ev hi) (ev mx) K) : ∃ v, K v ∧ YL P o ev v := by
  have h0 : ∀ (C : Cx) (a : Act), (∀ x ∈ o.op.operands.toList, VR C (ev x) (a.eval x)) → VR C (ev x) (a.eval x) ∧ (∀ y ∈ mx :: hi :: lo.toList, VR C (ev y) (a.eval y)) := fun C a hx => ⟨hx x (by simp [ho, Op.operands]), fun y hy => hx y (by
    simp only [ho, Op.operands]
    rcases List.mem_cons.1 hy with rfl | hy
    · simp
    rcases List.mem_cons.1 hy with rfl | hy
    · simp
    · simp_all)⟩
  have hex : ∀ (a : Act) (w : World) (u : Value), (Instr.sliceAt t (a.eval x) (lo.map a.eval) (some (a.eval hi)) (some (a.eval mx))).run P w = .ok u w → (execOp a.eval o).run P w = .ok (.value u) w := fun a w u hr => by
    simp [execOp, ho, hr]
  have hdata : ∀ {e q b : Nat} {xs : List D} {m : Int} {k : IntKind} {K : V → Prop}, (T.ty t).inf = .sl e q b → (∀ C v, VR C (ev x) v → DR C.G (.sl q xs) [v]) → ev mx = .d (.int k m) → 0 ≤ m → m ≤ xs.length → (bnds (lo.map ev) (some (ev hi)) m.toNat fun l u => K (.d (.sl q ((xs.drop l).take (u - l))))) → ∃ v, K v ∧ YL P o ev v := fun {e q b xs m k K} hs hv hmx hm0 hm h => by
    obtain ⟨l, u, hK, h1, h2, hr⟩ := bnds3_ok (P := P) hmx hm0 h
    refine ⟨_, hK, fun C w a _ hx => ?_⟩
    obtain ⟨h3, h4⟩ := h0 C a hx
    have h5 := hv C _ h3
    obtain ⟨ad, c, e1, hc⟩ := dr_sl_form h5
    rw [e1] at h5
    exact ⟨_, hex a w _ (by rw [e1]; exact slice3_run hs (hr C a h4 c xs.length (by omega) w)), by unfold VR; exact dr_part3 h5 h1 h2 (by omega)⟩
  unfold slice3V at h
  split at h
  · rename_i e q b q' xs k m hs hx' hm'
    obtain ⟨rfl, hm0, hm, h⟩ := h
    exact hdata hs (fun C v hv => by rw [hx'] at hv; unfold VR at hv; exact hv) hm' hm0 hm h
  · rename_i e q b q' xs c k m hs hx' hm'
    obtain ⟨rfl, hm0, hm, h⟩ := h
    exact hdata hs (fun C v hv => by rw [hx'] at hv; unfold VR at hv; exact hv.1) hm' hm0 hm h
  · rename_i e q b i off len cap k m hs hx' hm'
    obtain ⟨hm0, hm, h⟩ := h
    obtain ⟨l, u, ⟨hl, hK⟩, h1, h2, hr⟩ := bnds3_ok (P := P) hm' hm0 h
    refine ⟨_, hK, fun C w a _ hx => ?_⟩
    obtain ⟨h3, h4⟩ := h0 C a hx
    rw [hx'] at h3; unfold VR at h3
    obtain ⟨b', hb, e1⟩ := h3
    refine ⟨_, hex a w _ (by rw [e1]; exact slice3_run hs (hr C a h4 cap len (by omega) w)), ?_⟩
    unfold VR
    refine ⟨b', hb, ?_⟩
    rcases hl with rfl | hl
    · simp [Addr.add]
    · rw [if_neg (by omega)]; simp [add_at]
  · exact h.elim
/-- x[:0:0]: room for nothing. -/
def isZ : Operand → Bool
  | .const (.int _ n) => n == 0
  | _ => false
def isSl : V → Bool
  | .d (.sl ..) | .own .. | .row .. | .hd .. | .nil | .z0 => true
  | _ => false
theorem isSl_ok {C : Cx} {x : V} {v : Value} (h : isSl x = true) (hv : VR C x v) : ∃ a n c, v = .slice a n c := by
  cases x <;> simp only [isSl, Bool.false_eq_true] at h
  case d y => cases y <;> simp only [isSl, Bool.false_eq_true] at h; unfold VR at hv; obtain ⟨a, c, e, _⟩ := dr_sl_form hv; exact ⟨_, _, _, e⟩
  case own => unfold VR at hv; obtain ⟨a, c, e, _⟩ := dr_sl_form hv.1; exact ⟨_, _, _, e⟩
  case nil => unfold VR at hv; exact ⟨_, _, _, hv⟩
  case row => unfold VR at hv; obtain ⟨b, _, e⟩ := hv; exact ⟨_, _, _, e⟩
  case hd => unfold VR at hv; obtain ⟨_, _, ⟨a, c, e, _⟩, _⟩ := hv; exact ⟨_, _, _, e⟩
  case z0 => unfold VR at hv; obtain ⟨a, e⟩ := hv; exact ⟨_, _, _, e⟩
def slice0V (T : Tb P) (t : Nat) (x : V) (K : V → Prop) : Prop :=
  match (T.ty t).inf with
  | .sl .. => isSl x = true ∧ K .z0
  | _ => False
theorem slice0_ok {T : Tb P} {t : Nat} {x hi mx : Operand} (ho : o.op = .slice t x none (some hi) (some mx)) (h1 : isZ hi = true) (h2 : isZ mx = true) (h : slice0V T t (ev x) K) : ∃ v, K v ∧ YL P o ev v := by
  have hz : ∀ {y : Operand}, isZ y = true → ∃ k, ∀ a : Act, a.eval y = .int k 0 := fun {y} hy => by
    unfold isZ at hy
    split at hy
    · rename_i k n
      simp only [beq_iff_eq] at hy
      subst hy
      exact ⟨k, fun a => rfl⟩
    · cases hy
  obtain ⟨k1, e1⟩ := hz h1
  obtain ⟨k2, e2⟩ := hz h2
  unfold slice0V at h
  split at h
  · rename_i e q b hs
    obtain ⟨h3, h4⟩ := h
    refine ⟨_, h4, fun C w a _ hx => ?_⟩
    obtain ⟨ad, n, c, e3⟩ := isSl_ok h3 (hx x (by simp [ho, Op.operands]))
    have hb : (Instr.sliceBounds true n c none (some (.int k1 0)) (some (.int k2 0))).run P w = .ok (0, 0, 0) w := by
      have h6 : (0 : Int) ≤ 0 ∧ (0 : Int) ≤ ((0 : Nat) : Int) := by omega
      have h7 : (0 : Int) ≤ 0 ∧ (0 : Int) ≤ (c : Int) := by omega
      simp [Instr.sliceBounds, bound_run (P := P) (n := 0) h6 w, bound_run (P := P) (n := 0) h7 w]
    have hr := slice3_run hs (a := ad) hb
    refine ⟨_, by simp only [execOp, ho, e1, e2, e3, Option.map_none, Option.map_some, Sem.run_bind, hr, Result.andThen_ok, Sem.run_pure]; rfl, ?_⟩
    unfold VR
    exact ⟨_, rfl⟩
  · exact h.elim
theorem makeFunc_ok {f : Fn} {fs caps : Array Operand} (ho : o.op = .makeFunc f fs caps) (h : K (.fn f (fs.toList.map ev) (caps.toList.map ev))) : ∃ v, K v ∧ YL P o ev v := by
  refine ⟨_, h, fun C w a _ hx => ⟨.func f (fs.map a.eval) (caps.map a.eval), by simp [execOp, ho, Instr.makeFunc], ?_⟩⟩
  unfold VR
  have key : ∀ (l : Array Operand), (∀ c ∈ l, c ∈ o.op.operands) → VRs C (l.toList.map ev) (l.toList.map a.eval) := fun l hl => VRs.of (by simp) fun i x v h1 h2 => by
    rw [List.getElem?_map] at h1 h2
    cases hc : l.toList[i]? with
    | none => rw [hc] at h1; cases h1
    | some c =>
      rw [hc] at h1 h2
      injection h1 with h1; injection h2 with h2
      subst h1; subst h2
      refine hx c (by simpa using hl c (Array.mem_of_getElem? (by simpa using hc)))
  refine ⟨fs.toList.map a.eval, caps.toList.map a.eval, by rw [← Array.toList_map, ← Array.toList_map], key fs fun c hc => ?_, key caps fun c hc => ?_⟩
  · simp [ho, Op.operands, hc]
  · simp [ho, Op.operands, hc]
def ifaceV (T : Tb P) (t : Nat) (x : V) (K : V → Prop) : Prop :=
  match (T.ty t).inf with
  | .un | .ifc => False
  | _ => K (.iface t x)
theorem makeInterface_ok {T : Tb P} {t : Nat} {x : Operand} (ho : o.op = .makeInterface t x) (h : ifaceV T t (ev x) K) : ∃ v, K v ∧ YL P o ev v := by
  have hd : ∃ d, P.underlying t = some d ∧ (∀ ms, d ≠ .interface ms) ∧ K (.iface t (ev x)) := by
    unfold ifaceV at h
    split at h
    · exact h.elim
    · exact h.elim
    · rename_i h1 h2
      obtain ⟨d, hd, hk⟩ := inf_of T rfl h1
      refine ⟨d, hd, fun ms e => ?_, h⟩
      subst e
      cases hi : (T.ty t).inf <;> rw [hi] at hk h1 h2 <;> simp [infOK] at hk h1 h2
  obtain ⟨d, hd, hn, h⟩ := hd
  refine ⟨_, h, fun C w a _ hx => ⟨.iface t (a.eval x), ?_, ?_⟩⟩
  · simp only [execOp, ho, Instr.makeInterface, Sem.run_bind, run_underlying hd, Result.andThen_ok]
    cases d <;> first | rfl | exact absurd rfl (hn _)
  · unfold VR
    exact ⟨_, rfl, hx x (by simp [ho, Op.operands])⟩
end
end Go.Proofs.Ytgebfcdcpmmgnaa.Vs
