/- The ends of rounds: frames told alike. -/
import Derived.Test.YtgebfcdcpmmgnaaVsU
set_option linter.unusedVariables false
set_option linter.unusedSimpArgs false
namespace Go.Proofs.Ytgebfcdcpmmgnaa.Vs
open Go.RowKit
theorem WkL.refl : ∀ {vs : List V}, WkL vs vs
  | [] => .nil
  | _ :: _ => .cons .rfl WkL.refl
section
variable {k : Nat} {fr fr' : List V} {σ σ' : List Ob}
theorem Ent.to (h : WkL fr fr') (hs : σ = σ') : Ent k fr σ fr' σ' := by subst hs; exact .wk h
theorem nx {ι : Type} {F : ι → List V} {S : ι → List Ob} {p : ι → Prop} {μ : ι → Nat} {x : ι} (y : ι) (hp : p y) (hm : μ y < μ x) (he : Ent k fr σ (F y) (S y)) : Nxt k F S p μ x fr σ := ⟨y, hp, hm, he⟩
theorem sb (ϖ : List Nat) (fr' : List V) (σ' : List Ob) {fr2 : List V} {os : List Ob} (hr : V.renL ϖ fr' = fr2 := by ((try simp only [go_sem]); try rfl)) (hos : σ'.map (Ob.ren ϖ) = os := by ((try simp only [go_sem]); try rfl)) (hσ : Owl σ ϖ os := by repeat' (first | exact Owl.nil | refine Owl.cons rfl ?_ ?_ | exact ObWk.rfl | refine ObWk.cells ?_ | exact WkL.nil | refine WkL.cons ?_ ?_ | exact Wk.any | exact Wk.rfl | exact Wk.own rfl rfl | exact Wk.nil (by decide) rfl)) (hf : WkL fr fr2 := by repeat' (first | exact WkL.nil | refine WkL.cons ?_ ?_ | exact Wk.any | exact Wk.rfl | exact Wk.own rfl rfl | exact Wk.nil (by decide) rfl))
    (hl : σ'.length = ϖ.length := by rfl) (hk : ϖ.take k = List.range k := by rfl) (hn : ϖ.Nodup := by decide) (ha : V.ltL ϖ.length fr' = true := by first | rfl | (simp only [Ob.lt, V.ltL, V.lt, ltL_dmap, List.all_cons, List.all_nil, List.length_cons, List.length_nil, Nat.reduceAdd, Nat.reduceLT, decide_true, Bool.and_self, Bool.and_true])) (ho : σ'.all (Ob.lt ϖ.length) = true := by first | rfl | (simp only [Ob.lt, V.ltL, V.lt, ltL_dmap, List.all_cons, List.all_nil, List.length_cons, List.length_nil, Nat.reduceAdd, Nat.reduceLT, decide_true, Bool.and_self, Bool.and_true])) : Ent k fr σ fr' σ' := by
  subst hr; subst hos
  exact Ent.sub hl hk hn hσ hf ha ho
end
theorem Fz.rowE {i q n cap : Nat} {xs ys : List D} (hy : ys = xs) (hn : n = xs.length) (hc : n ≤ cap) (hm : cap ≤ 9223372036854775807) : Fz i q xs (.row i 0 n cap) (.d (.sl q ys)) := by subst hy; exact .row hn hc hm
theorem fdiv8 (n : Int) : iShr .u64 n 8 = n / 256 := by
  unfold iShr; rw [Int.fdiv_eq_ediv_of_nonneg _ (by decide)]; rfl
theorem fdiv32 (n : Int) : iShr .u64 n 32 = n / 4294967296 := by
  unfold iShr; rw [Int.fdiv_eq_ediv_of_nonneg _ (by decide)]; rfl
theorem fdiv32_8 (n : Int) : iShr .u32 n 8 = n / 256 := by
  unfold iShr; rw [Int.fdiv_eq_ediv_of_nonneg _ (by decide)]; rfl
theorem flat_rep {α : Type} (n : Nat) (x : α) : (List.replicate n [x]).flatten = List.replicate n x := by
  induction n with
  | zero => rfl
  | succ n ih => simp [List.replicate_succ, ih]
section
variable {P : Program} {k : Nat} {c : Code} {fr : List V} {σ : List Ob} {Q : Post}
theorem dr_sl_le {G : GC} {q : Nat} {xs : List D} {v : Value} (h : DR G (.sl q xs) [v]) : xs.length ≤ 9223372036854775807 := by
  unfold DR at h
  obtain ⟨a, c, _, h1, h2, _⟩ := h
  simp only [maxLen] at h2
  omega
/-- What is known of lengths. -/
theorem W.le {s q : Nat} {xs : List D} (hs : fr[s]? = some (.d (.sl q xs))) (h : xs.length ≤ 9223372036854775807 → W P k c fr σ Q) : W P k c fr σ Q := fun w0 lent C w a R hf hd hk => by
  obtain ⟨v, _, hv⟩ := VRs.get hf hs
  unfold VR at hv
  exact h (dr_sl_le hv) w0 lent C w a R hf hd hk
theorem W.leS {s : Nat} {xs : List UInt8} (hs : fr[s]? = some (.d (.str xs))) (h : xs.length ≤ 9223372036854775807 → W P k c fr σ Q) : W P k c fr σ Q := fun w0 lent C w a R hf hd hk => by
  obtain ⟨v, _, hv⟩ := VRs.get hf hs
  unfold VR DR at hv
  have := hv.2
  simp only [maxLen] at this
  exact h this w0 lent C w a R hf hd hk
theorem W.leC {i j q : Nat} {t : TypeId} {vs : List V} {xs : List D} (hi : σ[i]? = some (.cells t vs)) (hj : vs[j]? = some (.d (.sl q xs))) (h : xs.length ≤ 9223372036854775807 → W P k c fr σ Q) : W P k c fr σ Q := fun w0 lent C w a R hf hd hk => by
  obtain ⟨_, b, cs, _, _, h3, _, _⟩ := R.obs i _ hi
  obtain ⟨v, _, hv⟩ := VRs.get h3 hj
  unfold VR at hv
  exact h (dr_sl_le hv) w0 lent C w a R hf hd hk
end
/-- nil is a row that may grow, too. -/
inductive NoL (q i : Nat) : List V → List V → Prop
  | nil : NoL q i [] []
  | own {vs us} (t : NoL q i vs us) : NoL q i (.nil :: vs) (.own q [] i :: us)
  | cons {v u vs us} (h : Wk v u) (t : NoL q i vs us) : NoL q i (v :: vs) (u :: us)
theorem Ent.nilOwn {k q i : Nat} {fr fr' : List V} {σ : List Ob} (e : TypeId) (hi : σ[i]? = some .fresh) (hq : 0 < q) (h : NoL q i fr fr') : Ent k fr σ fr' (σ.set i (.cap e q 0)) := fun w0 lent C w a R hf hk => by
  obtain ⟨C', R', hle, hcur, hG⟩ := R.ownNil hi e (q := q)
  have hil : i < C'.ρ.length := by rw [R'.len]; simp; exact (List.getElem?_eq_some_iff.1 hi).1
  have hρ : C'.ρ[i]? ≠ some none := by
    have h1 := R'.obs i (.cap e q 0) (List.getElem?_set_self (List.getElem?_eq_some_iff.1 hi).1)
    exact h1.1
  refine ⟨C', R', ?_, by simpa using hk, hle.k (by rw [R.len]; exact hk)⟩
  have key : ∀ {fr fr' : List V} {us : List Value}, NoL q i fr fr' → VRs C fr us → VRs C' fr' us := by
    intro fr
    induction fr with
    | nil => intro fr' us h hv; cases h; unfold VRs at hv ⊢; exact hv
    | cons v fr ih =>
      intro fr' us h hv
      cases h with
      | own t =>
        unfold VRs at hv ⊢
        obtain ⟨u, r, e, h1, h2⟩ := hv
        refine ⟨u, r, e, ?_, ih t h2⟩
        unfold VR at h1 ⊢
        subst h1
        refine ⟨by unfold DR; exact ⟨none, 0, rfl, Nat.le_refl _, by simp [maxLen], hq, fun h => absurd rfl h⟩, hil, hρ, fun n u hn => ?_⟩
        rw [hcur] at hn
        injection hn with hn; injection hn with h1 h2
        exact ⟨Nat.zero_le _, fun _ => h2⟩
      | cons h t =>
        unfold VRs at hv ⊢
        obtain ⟨u, r, e, h1, h2⟩ := hv
        exact ⟨u, r, e, (h.ok h1).mono hle, ih t h2⟩
  exact key h hf
abbrev u8 (b : UInt8) : D := .int .u8 (b.toNat : Int)
abbrev i64 (n : Int) : V := .d (.int .i64 n)
abbrev u64 (n : Int) : V := .d (.int .u64 n)
abbrev u32 (n : Int) : V := .d (.int .u32 n)
abbrev bool (b : Bool) : V := .d (.bool b)
abbrev bytes (b : List UInt8) : V := .d (.sl 1 (b.map u8))
abbrev str (b : List UInt8) : V := .d (.str b)
theorem gd_map {α β : Type} (f : α → β) (l : List α) (n : Nat) (d : α) : (l.map f).getD n (f d) = f (l.getD n d) := by
  rw [List.getD_eq_getElem?_getD, List.getD_eq_getElem?_getD, List.getElem?_map]
  cases l[n]? <;> rfl
@[go_sem] theorem gd_u8 (l : List UInt8) (n : Nat) : (l.map u8).getD n (.int .u8 0) = u8 (l.getD n 0) := gd_map u8 l n 0
@[go_sem] theorem gd_cells (l : List D) (n : Nat) (x : D) : (l.map V.d).getD n (.d x) = .d (l.getD n x) := gd_map V.d l n x
theorem or8 (n x : Nat) (hn : n < 72057594037927936) (hx : x < 256) : iOr .u64 (iShl .u64 (n : Int) 8) (IntKind.u64.wrap (x : Int)) = ((256 * n + x : Nat) : Int) := by
  unfold iOr iShl
  have h1 : IntKind.u64.wrap ((n : Int) * 2 ^ min (Int.toNat 8) IntKind.u64.bits) = ((n * 256 : Nat) : Int) := by
    rw [wrapU, show (2 : Int) ^ min (Int.toNat 8) IntKind.u64.bits = 256 from rfl]; omega
  have h2 : IntKind.u64.wrap (x : Int) = (x : Int) := by rw [wrapU]; omega
  rw [h1, h2, wrapU, BitVec.ofInt_natCast, BitVec.ofInt_natCast, BitVec.toNat_or, BitVec.toNat_ofNat, BitVec.toNat_ofNat]
  rw [show IntKind.u64.bits = 64 from rfl, Nat.mod_eq_of_lt (by omega), Nat.mod_eq_of_lt (by omega)]
  have h3 := Nat.shiftLeft_add_eq_or_of_lt (b := x) (i := 8) hx n
  rw [Nat.shiftLeft_eq] at h3
  rw [show n * 256 = n * 2 ^ 8 from rfl, ← h3]
  omega
theorem u8_of (n : Nat) : (((UInt8.ofNat n).toNat : Nat) : Int) = IntKind.u8.wrap (n : Int) := by rw [wrap8]; simp [UInt8.toNat_ofNat']
theorem set_rep {α : Type} (m : Nat) (x y : α) (tl : List α) : (List.replicate (m + 1) x ++ tl).set m y = List.replicate m x ++ y :: tl := by
  induction m with
  | zero => rfl
  | succ m ih => rw [List.replicate_succ, List.cons_append, List.set_cons_succ, ih]; rfl
theorem map_set {α β : Type} (f : α → β) (l : List α) (i : Nat) (x : α) : (l.map f).set i (f x) = (l.set i x).map f := by rw [List.map_set]
end Go.Proofs.Ytgebfcdcpmmgnaa.Vs
