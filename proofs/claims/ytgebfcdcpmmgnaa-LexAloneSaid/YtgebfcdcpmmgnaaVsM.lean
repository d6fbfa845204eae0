/- Code: one after the other, branches, loops, calls. -/
import Derived.Test.YtgebfcdcpmmgnaaVsL
import Derived.Calls
set_option linter.unusedVariables false
set_option linter.unusedSimpArgs false
namespace Go.Proofs.Ytgebfcdcpmmgnaa.Vs
open Go.RowKit
/-- What the first k names keep. -/
structure LeK (k : Nat) (C C' : Cx) : Prop where
  G : C.G.le C'.G
  ρ : ∀ (i b : Nat), i < k → C.ρ[i]? = some (some b) → C'.ρ[i]? = some (some b)
  cur : ∀ (c n : Nat) (u : Value), c < k → C'.cur c = some (n, u) → C.ρ[c]? ≠ some none → ∃ m v, C.cur c = some (m, v) ∧ ((m = n ∧ v = u) ∨ m < n)
  st : ∀ c : Nat, c < k → C'.ρ[c]? = some none → C.ρ[c]? = some none
theorem LeK.refl (k : Nat) (C : Cx) : LeK k C C := ⟨GC.le_refl _, fun _ _ _ h => h, fun c n u _ h _ => ⟨n, u, h, .inl ⟨rfl, rfl⟩⟩, fun _ _ h => h⟩
theorem LeK.trans {k : Nat} {A B C : Cx} (h : LeK k A B) (j : LeK k B C) : LeK k A C := by
  refine ⟨GC.le_trans h.G j.G, fun i b hi x => j.ρ _ _ hi (h.ρ _ _ hi x), fun c n u hc hn hne => ?_, fun c hc x => h.st c hc (j.st c hc x)⟩
  obtain ⟨m, v, h1, h2⟩ := j.cur c n u hc hn (fun e => hne (h.st c hc e))
  obtain ⟨l, x, h3, h4⟩ := h.cur c m v hc h1 hne
  refine ⟨l, x, h3, ?_⟩
  rcases h2 with ⟨rfl, rfl⟩ | h2
  · exact h4
  · rcases h4 with ⟨rfl, rfl⟩ | h4
    · exact .inr h2
    · exact .inr (by omega)
theorem Cx.le.k {k : Nat} {C C' : Cx} (h : C.le C') (hk : k ≤ C.ρ.length) : LeK k C C' :=
  ⟨h.G, fun i b _ x => h.ρ i b x, fun c n u hc hn hne => h.cur c n u (by omega) hn hne, fun c hc x => h.st c x (by omega)⟩
section
variable {P : Program} {k : Nat} {c x y : Code} {fr : List V} {σ : List Ob}
abbrev Post := Exit → List V → List Ob → Prop
def W (P : Program) (k : Nat) (c : Code) (fr : List V) (σ : List Ob) (Q : Post) : Prop :=
  ∀ (w0 : Bs) (lent : Nat → Prop) (C : Cx) (w : World) (a : Act), Rel w0 lent C σ w → FrR C fr a.tmps → a.defers = [] → k ≤ σ.length →
    c.wp P (fun ex a' w' => ∃ C' fr' σ', Q ex fr' σ' ∧ Rel w0 lent C' σ' w' ∧ FrR C' fr' a'.tmps ∧ a'.defers = [] ∧ k ≤ σ'.length ∧ LeK k C C') a w
def thenV (N : List V → List Ob → Prop) (Q : Post) : Post
  | .normal, fr, σ => N fr σ
  | e, fr, σ => Q e fr σ
def blockV (id : Nat) (Q : Post) : Post
  | .exit id', fr, σ => if id' = id then Q .normal fr σ else Q (.exit id') fr σ
  | e, fr, σ => Q e fr σ
theorem W.mono {Q Q' : Post} (h : W P k c fr σ Q) (hq : ∀ e fr σ, Q e fr σ → Q' e fr σ) : W P k c fr σ Q' :=
  fun w0 lent C w a R hf hd hk => wp_mono (h w0 lent C w a R hf hd hk) fun e a' w' ⟨C', fr', σ', h1, h2⟩ => ⟨C', fr', σ', hq _ _ _ h1, h2⟩
theorem W.skip {Q : Post} (h : Q .normal fr σ) : W P k .skip fr σ Q := fun w0 lent C w a R hf hd hk => wp_skip ⟨C, fr, σ, h, R, hf, hd, hk, .refl _ _⟩
theorem W.ret {Q : Post} (h : Q .ret fr σ) : W P k .ret fr σ Q := fun w0 lent C w a R hf hd hk => wp_ret ⟨C, fr, σ, h, R, hf, hd, hk, .refl _ _⟩
theorem W.exit {Q : Post} {id : Nat} (h : Q (.exit id) fr σ) : W P k (.exit id) fr σ Q := fun w0 lent C w a R hf hd hk => wp_exit ⟨C, fr, σ, h, R, hf, hd, hk, .refl _ _⟩
theorem W.seq {Q : Post} (h : W P k x fr σ (thenV (fun fr' σ' => W P k y fr' σ' Q) Q)) : W P k (.seq x y) fr σ Q := fun w0 lent C w a R hf hd hk => by
  refine wp_seq (wp_mono (h w0 lent C w a R hf hd hk) fun e a' w' ⟨C', fr', σ', h1, h2, h3, h4, h5, h6⟩ => ?_)
  cases e with
  | normal =>
    refine wp_mono (h1 w0 lent C' w' a' h2 h3 h4 h5) fun e a'' w'' ⟨C'', fr'', σ'', k1, k2, k3, k4, k5, k6⟩ => ⟨C'', fr'', σ'', k1, k2, k3, k4, k5, h6.trans k6⟩
  | _ => exact ⟨C', fr', σ', h1, h2, h3, h4, h5, h6⟩
theorem W.cond {Q : Post} {o : Operand} {b : Bool} (hb : evF fr o = .d (.bool b)) (h1 : b = true → W P k x fr σ Q) (h2 : b = false → W P k y fr σ Q) : W P k (.cond o x y) fr σ Q := fun w0 lent C w a R hf hd hk => by
  have hv := evF_ok hf o
  rw [hb] at hv
  refine wp_cond (t := b) (vr_bool hv) ?_
  cases b with
  | true => exact h1 rfl w0 lent C w a R hf hd hk
  | false => exact h2 rfl w0 lent C w a R hf hd hk
theorem W.block {Q : Post} {id : Nat} (h : W P k c fr σ (blockV id Q)) : W P k (.block id c) fr σ Q := fun w0 lent C w a R hf hd hk => by
  refine wp_block (wp_mono (h w0 lent C w a R hf hd hk) fun e a' w' ⟨C', fr', σ', h1, h2⟩ => ?_)
  cases e with
  | exit id' =>
    simp only [blockV] at h1
    simp only [Exit.inBlock]
    split at h1
    · rename_i e; rw [if_pos e]; exact ⟨C', fr', σ', h1, h2⟩
    · rename_i e; rw [if_neg e]; exact ⟨C', fr', σ', h1, h2⟩
  | _ => exact ⟨C', fr', σ', h1, h2⟩
/-- What is told of a state may be told of one that tells less. -/
def Ent (k : Nat) (fr' : List V) (σ' : List Ob) (fr : List V) (σ : List Ob) : Prop :=
  ∀ (w0 : Bs) (lent : Nat → Prop) (C : Cx) (w : World) (a : Act), Rel w0 lent C σ' w → FrR C fr' a.tmps → k ≤ σ'.length → ∃ C', Rel w0 lent C' σ w ∧ FrR C' fr a.tmps ∧ k ≤ σ.length ∧ LeK k C C'
theorem W.ent {Q : Post} {fr' : List V} {σ' : List Ob} (h : Ent k fr σ fr' σ') (hw : W P k c fr' σ' Q) : W P k c fr σ Q := fun w0 lent C w a R hf hd hk => by
  obtain ⟨C', R', hf', hk', hle⟩ := h w0 lent C w a R hf hk
  exact wp_mono (hw w0 lent C' w a R' hf' hd hk') fun e a'' w'' ⟨C'', fr'', σ'', k1, k2, k3, k4, k5, k6⟩ => ⟨C'', fr'', σ'', k1, k2, k3, k4, k5, hle.trans k6⟩
/-- A loop: its states are F x, S x. -/
theorem W.loop {Q : Post} {ι : Type} (F : ι → List V) (S : ι → List Ob) (p : ι → Prop) (μ : ι → Nat) (x0 : ι) (h0 : p x0)
    (hb : ∀ x, p x → W P k c (F x) (S x) (thenV (fun fr' σ' => ∃ y, p y ∧ μ y < μ x ∧ Ent k fr' σ' (F y) (S y)) Q)) : W P k (.loop c) (F x0) (S x0) Q := by
  intro w0 lent C0 w a R hf hd hk
  have key : ∀ (n : Nat) (x : ι) (C : Cx) (w : World) (a : Act), μ x < n → p x → Rel w0 lent C (S x) w → FrR C (F x) a.tmps → a.defers = [] → k ≤ (S x).length → LeK k C0 C →
      Code.rounds P c (fun ex a' w' => ∃ C' fr' σ', Q ex fr' σ' ∧ Rel w0 lent C' σ' w' ∧ FrR C' fr' a'.tmps ∧ a'.defers = [] ∧ k ≤ σ'.length ∧ LeK k C0 C') n a w := by
    intro n
    induction n with
    | zero => intro x C w a h; omega
    | succ n ih =>
      intro x C w a hn hp R hf hd hk hle
      rw [rounds_succ]
      refine wp_mono (hb x hp w0 lent C w a R hf hd hk) fun e a' w' ⟨C', fr', σ', h1, h2, h3, h4, h5, h6⟩ => ?_
      cases e with
      | normal =>
        obtain ⟨y, hy, hlt, hent⟩ := h1
        obtain ⟨C2, R2, hf2, hk2, hle2⟩ := hent w0 lent C' w' a' h2 h3 h5
        exact ih y C2 w' a' (by omega) hy R2 hf2 h4 hk2 ((hle.trans h6).trans hle2)
      | _ => exact ⟨C', fr', σ', h1, h2, h3, h4, h5, hle.trans h6⟩
  exact wp_loop_rounds _ (key (μ x0 + 1) x0 C0 w a (by omega) h0 R hf hd hk (.refl _ _))
/-! ### Regions -/
def trimF : List Ob → List Ob
  | [] => []
  | o :: l => match o, trimF l with
    | .fresh, [] => []
    | o, l' => o :: l'
def trimN : Nat → List Ob → List Ob
  | 0, l => trimF l
  | _ + 1, [] => []
  | n + 1, o :: l => o :: trimN n l
theorem trimF_eq : ∀ l : List Ob, ∃ m, l = trimF l ++ List.replicate m .fresh
  | [] => ⟨0, rfl⟩
  | o :: l => by
    obtain ⟨m, hm⟩ := trimF_eq l
    unfold trimF
    split
    · rename_i h
      rw [h] at hm
      exact ⟨m + 1, by rw [hm]; rfl⟩
    · exact ⟨m, by rw [List.cons_append, ← hm]⟩
theorem trimN_eq : ∀ (n : Nat) (l : List Ob), ∃ m, l = trimN n l ++ List.replicate m .fresh
  | 0, l => by unfold trimN; exact trimF_eq l
  | n + 1, [] => ⟨0, rfl⟩
  | n + 1, o :: l => by
    obtain ⟨m, hm⟩ := trimN_eq n l
    exact ⟨m, by unfold trimN; rw [List.cons_append, ← hm]⟩
theorem trimN_len : ∀ (n : Nat) (l : List Ob), n ≤ l.length → n ≤ (trimN n l).length
  | 0, _, _ => Nat.zero_le _
  | n + 1, [], h => by simp at h
  | n + 1, o :: l, h => by
    unfold trimN
    have := trimN_len n l (by simpa using h)
    simp; omega
theorem Rel.reserve {w0 : Bs} {w : World} {lent : Nat → Prop} {C : Cx} (R : Rel w0 lent C σ w) (n : Nat) : ∃ C', Rel w0 lent C' (σ ++ List.replicate n .fresh) w ∧ C.le C' := by
  let C' : Cx := { G := C.G, ρ := C.ρ ++ List.replicate n none, cur := fun j => if j < C.ρ.length then C.cur j else none }
  have hρ : ∀ i, i < C.ρ.length → C'.ρ[i]? = C.ρ[i]? := fun i hi => List.getElem?_append_left hi
  have hc : ∀ i, i < C.ρ.length → C'.cur i = C.cur i := fun i hi => if_pos hi
  have hle : C.le C' := by
    refine ⟨GC.le_refl _, fun i b h => ?_, by simp [C'], fun c n u hc' hn _ => ⟨n, u, by rw [← hc c hc']; exact hn, .inl ⟨rfl, rfl⟩⟩, fun c h hl => by rw [← hρ c hl]; exact h⟩
    rw [hρ i (List.getElem?_eq_some_iff.1 h).1]; exact h
  have hcase : ∀ (i : Nat) (o : Ob), (σ ++ List.replicate n Ob.fresh)[i]? = some o → (i < σ.length ∧ σ[i]? = some o) ∨ (σ.length ≤ i ∧ o = .fresh) := fun i o h => by
    by_cases hi : i < σ.length
    · rw [List.getElem?_append_left hi] at h; exact .inl ⟨hi, h⟩
    · rw [List.getElem?_append_right (by omega), List.getElem?_replicate] at h
      split at h
      · injection h with h; exact .inr ⟨by omega, h.symm⟩
      · cases h
  have hblk : ∀ (i : Nat) (o : Ob), i < C.ρ.length → blockOf C' i o = blockOf C i o := fun i o hi => by
    cases o <;> simp [blockOf, hρ i hi, hc i hi]
  refine ⟨C', ⟨by simp [C', R.len], R.ro, fun i o h => ?_, fun i j oi oj b hi hj hb hb' => ?_, fun i o b h hb => ?_, R.keep, R.size, R.os, R.tape, R.output, R.gh⟩, hle⟩
  · rcases hcase i o h with ⟨hi, h⟩ | ⟨hi, rfl⟩
    · have hi' : i < C.ρ.length := by rw [R.len]; exact hi
      have h1 := R.obs i o h
      cases o with
      | dead => exact (hc i hi').trans h1
      | fresh => exact ⟨(hρ i hi').trans h1.1, (hc i hi').trans h1.2⟩
      | cells t vs =>
        obtain ⟨h0, b, cs, k1, k2, k3, k4, k5⟩ := h1
        exact ⟨(hc i hi').trans h0, b, cs, (hρ i hi').trans k1, k2, k3.mono hle, k4, k5⟩
      | cap t q m =>
        obtain ⟨h0, u, cs, k1, k2, k3⟩ := h1
        exact ⟨by rw [hρ i hi']; exact h0, u, cs, (hc i hi').trans k1, k2, k3⟩
      | grw t q m n vs =>
        obtain ⟨h0, u, xs, k1, k2, k3, k4⟩ := h1
        exact ⟨by rw [hρ i hi']; exact h0, u, xs, (hc i hi').trans k1, k2, k3.mono hle, k4⟩
      | mp es clock =>
        obtain ⟨h0, b, l, k1, k2, k3, k5⟩ := h1
        exact ⟨(hc i hi').trans h0, b, l, (hρ i hi').trans k1, k2, k3.mono hle, k5⟩
      | mq es =>
        obtain ⟨b, l, c, n, k1, h0, k2, k3, k5⟩ := h1
        exact ⟨b, l, c, n, (hρ i hi').trans k1, (hc i hi').trans h0, k2, k3.mono hle, k5⟩
      | tick m q =>
        obtain ⟨h0, ⟨b, hb0⟩, n, k1, k2⟩ := h1
        have hm := (List.getElem?_eq_some_iff.1 hb0).1
        exact ⟨(hc i hi').trans h0, ⟨b, (hρ m hm).trans hb0⟩, n, (hc m hm).trans k1, k2⟩
    · refine ⟨?_, if_neg (by rw [R.len]; omega)⟩
      have hl : i < (σ ++ List.replicate n Ob.fresh).length := (List.getElem?_eq_some_iff.1 h).1
      simp only [C']
      rw [List.getElem?_append_right (by rw [R.len]; omega), List.getElem?_replicate, if_pos (by rw [R.len]; simp at hl; omega)]
  · rcases hcase i oi hi with ⟨hi1, hi2⟩ | ⟨_, rfl⟩
    · rcases hcase j oj hj with ⟨hj1, hj2⟩ | ⟨_, rfl⟩
      · rw [hblk i oi (by rw [R.len]; exact hi1)] at hb
        rw [hblk j oj (by rw [R.len]; exact hj1)] at hb'
        exact R.sep i j oi oj b hi2 hj2 hb hb'
      · simp [blockOf] at hb'
    · simp [blockOf] at hb
  · rcases hcase i o h with ⟨hi1, hi2⟩ | ⟨_, rfl⟩
    · rw [hblk i o (by rw [R.len]; exact hi1)] at hb
      exact R.new i o b hi2 hb
    · simp [blockOf] at hb
/-- Names that were never used are forgotten. -/
def Cx.cut (C : Cx) (n : Nat) : Cx := { C with ρ := C.ρ.take n }
mutual
theorem VR.cut {C : Cx} {n : Nat} (h : ∀ i, n ≤ i → i < C.ρ.length → C.ρ[i]? = some none) : ∀ {x : V} {v : Value}, VR C x v → VR (C.cut n) x v
  | .any, _, _ => VR.any' _ _
  | .d x, v, k => by unfold VR at k ⊢; exact k
  | .nil, _, k => by unfold VR at k ⊢; exact k
  | .own q xs c, v, k => by
    unfold VR at k ⊢
    obtain ⟨k1, k2, k3, k4⟩ := k
    have hc : c < n := by
      rcases Nat.lt_or_ge c n with h' | h'
      · exact h'
      · exact absurd (h c h' k2) k3
    refine ⟨k1, by simp [Cx.cut]; omega, ?_, k4⟩
    simp only [Cx.cut]
    rw [List.getElem?_take, if_pos hc]; exact k3
  | .ptr i off, v, k => by unfold VR at k ⊢; obtain ⟨b, h1, h2⟩ := k; exact ⟨b, VR.cut_at h h1, h2⟩
  | .row i off len cap, v, k => by unfold VR at k ⊢; obtain ⟨b, h1, h2⟩ := k; exact ⟨b, VR.cut_at h h1, h2⟩
  | .map i, v, k => by unfold VR at k ⊢; obtain ⟨b, h1, h2⟩ := k; exact ⟨b, VR.cut_at h h1, h2⟩
  | .hd i kk m, v, k => by
    unfold VR at k ⊢
    obtain ⟨k2, k3, k1, k4⟩ := k
    have hc : i < n := by
      rcases Nat.lt_or_ge i n with h' | h'
      · exact h'
      · exact absurd (h i h' k2) k3
    refine ⟨by simp [Cx.cut]; omega, ?_, k1, k4⟩
    simp only [Cx.cut]
    rw [List.getElem?_take, if_pos hc]; exact k3
  | .ep i kk off, v, k => by
    unfold VR at k ⊢
    obtain ⟨k2, k3, k1, k4⟩ := k
    have hc : i < n := by
      rcases Nat.lt_or_ge i n with h' | h'
      · exact h'
      · exact absurd (h i h' k2) k3
    refine ⟨by simp [Cx.cut]; omega, ?_, k1, k4⟩
    simp only [Cx.cut]
    rw [List.getElem?_take, if_pos hc]; exact k3
  | .z0, v, k => by unfold VR at k ⊢; exact k
  | .nn b q xs, v, k => by unfold VR at k ⊢; exact k
  | .el q x off, v, k => by unfold VR at k ⊢; exact k
  | .fn f fs caps, v, k => by unfold VR at k ⊢; obtain ⟨us, vs, h1, h0, h2⟩ := k; exact ⟨us, vs, h1, VRs.cut h h0, VRs.cut h h2⟩
  | .iface t x, v, k => by unfold VR at k ⊢; obtain ⟨u, h1, h2⟩ := k; exact ⟨u, h1, VR.cut h h2⟩
  | .agg xs, v, k => by unfold VR at k ⊢; obtain ⟨vs, h1, h2⟩ := k; exact ⟨vs, h1, VRs.cut h h2⟩
  | .tup xs, v, k => by unfold VR at k ⊢; obtain ⟨vs, h1, h2⟩ := k; exact ⟨vs, h1, VRs.cut h h2⟩
theorem VRs.cut {C : Cx} {n : Nat} (h : ∀ i, n ≤ i → i < C.ρ.length → C.ρ[i]? = some none) : ∀ {xs : List V} {vs : List Value}, VRs C xs vs → VRs (C.cut n) xs vs
  | [], _, k => by unfold VRs at k ⊢; exact k
  | x :: xs, vs, k => by unfold VRs at k ⊢; obtain ⟨v, r, e, h1, h2⟩ := k; exact ⟨v, r, e, VR.cut h h1, VRs.cut h h2⟩
theorem VR.cut_at {C : Cx} {n : Nat} (h : ∀ i, n ≤ i → i < C.ρ.length → C.ρ[i]? = some none) {i b : Nat} (hb : C.ρ[i]? = some (some b)) : (C.cut n).ρ[i]? = some (some b) := by
  have hl := (List.getElem?_eq_some_iff.1 hb).1
  have hc : i < n := by
    rcases Nat.lt_or_ge i n with h' | h'
    · exact h'
    · rw [h i h' hl] at hb; cases hb
  simp only [Cx.cut]
  rw [List.getElem?_take, if_pos hc]; exact hb
end
theorem Rel.cut {w0 : Bs} {w : World} {lent : Nat → Prop} {C : Cx} {m : Nat} (R : Rel w0 lent C (σ ++ List.replicate m .fresh) w) : Rel w0 lent (C.cut σ.length) σ w ∧ ∀ i, σ.length ≤ i → i < C.ρ.length → C.ρ[i]? = some none := by
  have hf : ∀ i, σ.length ≤ i → i < C.ρ.length → C.ρ[i]? = some none := fun i hi hl => by
    rw [R.len] at hl
    simp at hl
    exact (R.obs i .fresh (by rw [List.getElem?_append_right hi, List.getElem?_replicate, if_pos (by omega)])).1
  have hlen : σ.length ≤ C.ρ.length := by rw [R.len]; simp
  have hget : ∀ (i : Nat) (o : Ob), σ[i]? = some o → (σ ++ List.replicate m Ob.fresh)[i]? = some o := fun i o h => by
    rw [List.getElem?_append_left (List.getElem?_eq_some_iff.1 h).1]; exact h
  have hρ : ∀ i, i < σ.length → (C.cut σ.length).ρ[i]? = C.ρ[i]? := fun i hi => by
    simp only [Cx.cut]; rw [List.getElem?_take, if_pos hi]
  have hblk : ∀ (i : Nat) (o : Ob), i < σ.length → blockOf (C.cut σ.length) i o = blockOf C i o := fun i o hi => by
    cases o <;> first | (simp only [blockOf, hρ i hi]; done) | simp [blockOf, Cx.cut]
  refine ⟨⟨by simp [Cx.cut]; omega, R.ro, fun i o h => ?_, fun i j oi oj b hi hj hb hb' => ?_, fun i o b h hb => ?_, R.keep, R.size, R.os, R.tape, R.output, R.gh⟩, hf⟩
  · have hi := (List.getElem?_eq_some_iff.1 h).1
    have h1 := R.obs i o (hget i o h)
    cases o with
    | dead => exact h1
    | fresh => exact ⟨(hρ i hi).trans h1.1, h1.2⟩
    | cells t vs =>
      obtain ⟨h0, b, cs, k1, k2, k3, k4, k5⟩ := h1
      exact ⟨h0, b, cs, (hρ i hi).trans k1, k2, k3.cut hf, k4, k5⟩
    | cap t q n =>
      obtain ⟨h0, u, cs, k1, k2, k3⟩ := h1
      exact ⟨by rw [hρ i hi]; exact h0, u, cs, k1, k2, k3⟩
    | grw t q k n vs =>
      obtain ⟨h0, u, xs, k1, k2, k3, k4⟩ := h1
      exact ⟨by rw [hρ i hi]; exact h0, u, xs, k1, k2, k3.cut hf, k4⟩
    | mp es clock =>
      obtain ⟨h0, b, l, k1, k2, k3, k5⟩ := h1
      exact ⟨h0, b, l, (hρ i hi).trans k1, k2, ⟨k3.1.cut hf, k3.2.1.cut hf, k3.2.2⟩, k5⟩
    | mq es =>
      obtain ⟨b, l, c, n, k1, h0, k2, ⟨is, m1, m2, m3, m4⟩, k5⟩ := h1
      exact ⟨b, l, c, n, (hρ i hi).trans k1, h0, k2, ⟨is, m1, m2, m3.cut hf, m4.cut hf⟩, k5⟩
    | tick m q =>
      obtain ⟨h0, ⟨b, hb0⟩, h2⟩ := h1
      exact ⟨h0, ⟨b, VR.cut_at hf hb0⟩, h2⟩
  · rw [hblk i oi (List.getElem?_eq_some_iff.1 hi).1] at hb
    rw [hblk j oj (List.getElem?_eq_some_iff.1 hj).1] at hb'
    exact R.sep i j oi oj b (hget i oi hi) (hget j oj hj) hb hb'
  · rw [hblk i o (List.getElem?_eq_some_iff.1 h).1] at hb
    exact R.new i o b (hget i o h) hb
def resvs : List Oper → Nat
  | [] => 0
  | o :: l => resv o.op + resvs l
theorem upd_length : ∀ (wr : List (Nat × Ob)) (σ : List Ob), (upd σ wr).length = σ.length
  | [], _ => rfl
  | p :: l, σ => by unfold upd; rw [upd_length]; simp
theorem Run.length {all r : List Oper} {fr fr' : List V} {σ σ' : List Ob} {trs : List Tr} (h : Run P all r fr σ trs fr' σ') : σ'.length = σ.length := by
  induction h with
  | nil => rfl
  | skip _ _ ih => exact ih
  | step _ _ _ _ _ ih => rw [ih, upd_length]
/-- A region that keeps the order of the text. -/
theorem W.reg {T : Tb P} {Q : Post} {id : Nat} {ops : Array Oper} {l : List Oper} {nms : List Nat} (hl : ops.toList = l)
    (h : RR P T l nms l σ.length fr (σ ++ List.replicate (resvs l) .fresh) [] fun fr' σ' _ => Q .normal fr' (trimN σ.length σ')) : W P k (.region id ops false) fr σ Q := fun w0 lent C w a R hf hd hk => by
  obtain ⟨trs, fr', σ', hrun, hq⟩ := h
  obtain ⟨C1, R1, hle1⟩ := R.reserve (resvs l)
  subst hl
  refine wp_region ?_
  have hr : List.range ops.size = List.range' 0 ops.toList.length := by rw [List.range_eq_range']; simp
  rw [hr]
  refine run_wpOps (by simp) hrun R1 (VRs.mono hle1 hf) fun C2 w2 a2 R2 hle2 hf2 hd2 => ?_
  obtain ⟨m, hm⟩ := trimN_eq σ.length σ'
  have hlen := hrun.length
  rw [hm] at R2
  obtain ⟨R3, hfr⟩ := R2.cut
  have hkl : σ.length ≤ (trimN σ.length σ').length := trimN_len _ _ (by rw [hlen]; simp)
  refine ⟨_, fr', _, hq, R3, VRs.cut hfr hf2, by rw [hd2, hd], by omega, (hle1.k (by rw [R.len]; exact hk)).trans ((hle2.k (by rw [R1.len]; simp; omega)).trans ?_)⟩
  refine ⟨GC.le_refl _, fun i b hi hb => VR.cut_at hfr hb, fun c n u _ h _ => ⟨n, u, h, .inl ⟨rfl, rfl⟩⟩, fun c hc h => ?_⟩
  simp only [Cx.cut] at h
  rw [List.getElem?_take, if_pos (by omega)] at h
  exact h
end
end Go.Proofs.Ytgebfcdcpmmgnaa.Vs
