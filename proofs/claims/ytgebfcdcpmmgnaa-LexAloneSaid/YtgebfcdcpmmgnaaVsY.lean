/- What a row's reading of an argument gives: data. -/
import Derived.Test.YtgebfcdcpmmgnaaVsW
import Derived.Test.YtgebfcdcpmmgnaaArgs
set_option linter.unusedVariables false
set_option linter.unusedSimpArgs false
namespace Go.Proofs.Ytgebfcdcpmmgnaa.Vs
open Go.RowKit
abbrev gw (w : World) : GC := fun b o => w.cell? ⟨b, o, none⟩
abbrev cw (w : World) : Cx := { G := gw w, ρ := [], cur := fun _ => none }
/-- Whatever is read as data of this type lies so. -/
def FD (P : Program) (t : TypeId) (q : Nat) {α : Type} (f : α → List D) : Prop :=
  P.cellsOf t = q ∧ 0 < q ∧ ∀ (H : Type) (enc : TypeId × Value → H) (w : World) (base : Nat) (spare : Nat → Bool) (held : Bool) (fuel : Nat) (cs : List Value) (d : DataW H) (ps : List MemPlace),
    DataW.trod enc P w base spare held fuel t cs = some (d, ps) → ∃ x, DAgg (gw w) (f x) cs ∧ cs.length = q
section
variable {P : Program} {t : TypeId}
theorem dagg1 {G : GC} {x : D} {v : Value} (h : DR G x [v]) : DAgg G [x] [v] := by unfold DAgg; exact ⟨v, [], rfl, h, by unfold DAgg; rfl⟩
theorem dagg1' {G : GC} {x : D} {v : Value} (h : DAgg G [x] [v]) : DR G x [v] := by
  unfold DAgg at h
  obtain ⟨u, r, e, h1, h2⟩ := h
  injection e with e1 e2
  subst e1
  exact h1
theorem fd_int {k : IntKind} (hu : P.underlying t = some (.int k)) (hc : P.cellsOf t = 1) : FD P t 1 (fun n : { n : Int // (Lit.int k n).wf = true } => [.int k n.1]) := by
  refine ⟨hc, by decide, fun H enc w base spare held fuel cs d ps h => ?_⟩
  cases fuel with
  | zero => simp [DataW.trod] at h
  | succ fuel =>
    unfold DataW.trod at h
    rw [hu] at h
    split at h <;> simp_all
    obtain ⟨⟨rfl, hw⟩, _⟩ := h
    exact ⟨_, hw, dagg1 (by unfold DR; rfl)⟩
theorem fd_byte (hu : P.underlying t = some (.int .u8)) (hc : P.cellsOf t = 1) : FD P t 1 (fun b : UInt8 => [u8 b]) := by
  refine ⟨hc, by decide, fun H enc w base spare held fuel cs d ps h => ?_⟩
  obtain ⟨⟨x, hr⟩, h1, h2⟩ := (fd_int hu hc).2.2 H enc w base spare held fuel cs d ps h
  have h3 : 0 ≤ x ∧ x ≤ 255 := Sl.wf_inR hr
  refine ⟨UInt8.ofNat x.toNat, ?_, h2⟩
  have : u8 (UInt8.ofNat x.toNat) = .int .u8 x := by
    show D.int .u8 _ = _
    congr 1
    simp [UInt8.toNat_ofNat']; omega
  show DAgg (gw w) [u8 (UInt8.ofNat x.toNat)] cs
  rw [this]; exact h1
theorem fd_bool (hu : P.underlying t = some .bool) (hc : P.cellsOf t = 1) : FD P t 1 (fun b : Bool => [.bool b]) := by
  refine ⟨hc, by decide, fun H enc w base spare held fuel cs d ps h => ?_⟩
  cases fuel with
  | zero => simp [DataW.trod] at h
  | succ fuel =>
    unfold DataW.trod at h
    rw [hu] at h
    split at h <;> simp_all
    rename_i b
    cases b
    · exact .inl (dagg1 (by unfold DR; rfl))
    · exact .inr (dagg1 (by unfold DR; rfl))
theorem fd_str (hu : P.underlying t = some .string) (hc : P.cellsOf t = 1) : FD P t 1 (fun s : List UInt8 => [.str s]) := by
  refine ⟨hc, by decide, fun H enc w base spare held fuel cs d ps h => ?_⟩
  cases fuel with
  | zero => simp [DataW.trod] at h
  | succ fuel =>
    unfold DataW.trod at h
    rw [hu] at h
    split at h <;> simp_all
    rename_i s
    refine ⟨s.data.toList, dagg1 ?_⟩
    unfold DR
    refine ⟨rfl, ?_⟩
    have : s.data.toList.length = s.size := rfl
    rw [this]; exact h.1
theorem fd_slice {e : TypeId} {q : Nat} {α : Type} {f : α → List D} {g : α → D} (hu : P.underlying t = some (.slice e)) (hc : P.cellsOf t = 1) (hA : FD P e q f) (hg : ∀ (G : GC) (x : α) (cs : List Value), DAgg G (f x) cs → DR G (g x) cs) : FD P t 1 (fun l : List α => [.sl q (l.map g)]) := by
  refine ⟨hc, by decide, fun H enc w base spare held fuel cs d ps h => ?_⟩
  cases fuel with
  | zero => simp [DataW.trod] at h
  | succ fuel =>
    unfold DataW.trod at h
    rw [hu] at h
    split at h <;> try (simp_all; done)
    · refine ⟨[], dagg1 ?_, rfl⟩
      unfold DR
      exact ⟨none, 0, rfl, Nat.le_refl _, by simp [maxLen], hA.2.1, fun h => absurd rfl h⟩
    · rename_i e' a len cap he
      injection he with he
      injection he with he
      subst he
      simp only at h
      split at h
      · rename_i hb
        cases hm : (List.range len).mapM (fun i => (w.cells? base (a.add (i * P.cellsOf e)) (P.cellsOf e)).bind (DataW.trod enc P w base spare held fuel e)) with
        | none => simp [hm] at h
        | some elems =>
          have h2 := Sl.mapM_all hm
          have h3 : ∀ i, i < len → ∃ cs x, w.cells? base (a.add (i * P.cellsOf e)) (P.cellsOf e) = some cs ∧ DAgg (gw w) (f x) cs ∧ cs.length = q := fun i hi => by
            obtain ⟨y, hy, hr⟩ := h2.get (i := i) (x := i) (by simp [hi])
            cases hq : w.cells? base (a.add (i * P.cellsOf e)) (P.cellsOf e) with
            | none => simp [hq] at hr
            | some cs =>
              simp only [hq, Option.bind_some] at hr
              obtain ⟨x, hx⟩ := hA.2.2 H enc w base spare held fuel cs y.1 y.2 hr
              exact ⟨cs, x, rfl, hx⟩
          have h4 : ∀ n, n ≤ len → ∃ xs : List α, xs.length = n ∧ ∀ i x, xs[i]? = some x → ∃ cs, w.cells? base (a.add (i * P.cellsOf e)) (P.cellsOf e) = some cs ∧ DAgg (gw w) (f x) cs ∧ cs.length = q := by
            intro n
            induction n with
            | zero => exact fun _ => ⟨[], rfl, fun i x hx => by simp at hx⟩
            | succ n ih =>
              intro hn
              obtain ⟨xs, h6, h7⟩ := ih (by omega)
              obtain ⟨cs, x, h8, h9⟩ := h3 n (by omega)
              refine ⟨xs ++ [x], by simp [h6], fun i y hy => ?_⟩
              by_cases hin : i < n
              · rw [List.getElem?_append_left (by omega)] at hy
                exact h7 i y hy
              · rw [List.getElem?_append_right (by omega)] at hy
                have hi : i = n := by
                  have := (List.getElem?_eq_some_iff.1 hy).1
                  simp at this; omega
                subst hi
                rw [show i - xs.length = 0 by omega] at hy
                simp at hy
                subst hy
                exact ⟨cs, h8, h9⟩
          obtain ⟨xs, h6, h7⟩ := h4 len (Nat.le_refl _)
          subst h6
          refine ⟨xs, dagg1 ?_, rfl⟩
          unfold DR
          refine ⟨some a, cap, by rw [List.length_map], by rw [List.length_map]; exact hb.2.1, hb.2.2, hA.2.1, fun hne => ?_⟩
          have hsp : a.spot = none := by
            cases xs with
            | nil => simp at hne
            | cons x xs =>
              obtain ⟨cs, k1, k2, k3⟩ := h7 0 x rfl
              obtain ⟨_, k4⟩ := Sl.cells_get k1
              cases cs with
              | nil => simp at k3; have := hA.2.1; omega
              | cons v cs =>
                have k5 := k4 0 v rfl
                cases hs : a.spot with
                | none => rfl
                | some s =>
                  rw [Nat.zero_mul] at k5
                  have k6 : (a.add 0).add 0 = a := rfl
                  rw [k6] at k5
                  unfold World.cell? at k5
                  rw [hs] at k5
                  split at k5 <;> simp at k5
          obtain ⟨b, o, s⟩ := a
          simp only at hsp
          subst hsp
          refine ⟨b, o, rfl, DRow.of fun i y hy => ?_⟩
          rw [List.getElem?_map] at hy
          cases hxi : xs[i]? with
          | none => rw [hxi] at hy; cases hy
          | some x =>
            rw [hxi] at hy
            injection hy with hy
            subst hy
            obtain ⟨cs, k1, k2, k3⟩ := h7 i x hxi
            obtain ⟨_, k4⟩ := Sl.cells_get k1
            refine ⟨cs, k3, hg _ _ _ k2, fun j v hv => ?_⟩
            have k5 := k4 j v hv
            have k6 : ((⟨b, o, none⟩ : Addr).add (i * P.cellsOf e)).add j = ⟨b, o + i * q + j, none⟩ := by
              rw [hA.1]
              unfold Addr.add
              by_cases e1 : i * q = 0 <;> by_cases e2 : j = 0 <;> simp [e1, e2]
            rw [k6] at k5
            exact k5
      · cases h
theorem fd_sl1 {e : TypeId} {α : Type} {g : α → D} (hu : P.underlying t = some (.slice e)) (hc : P.cellsOf t = 1) (hA : FD P e 1 (fun a => [g a])) : FD P t 1 (fun l : List α => [.sl 1 (l.map g)]) :=
  fd_slice hu hc hA fun G x cs h => by
    unfold DAgg at h
    obtain ⟨v, r, rfl, h1, h2⟩ := h
    unfold DAgg at h2
    subst h2
    exact h1
theorem fd_slA {e : TypeId} {q : Nat} {α : Type} {f : α → List D} (hu : P.underlying t = some (.slice e)) (hc : P.cellsOf t = 1) (hA : FD P e q f) : FD P t 1 (fun l : List α => [.sl q (l.map fun a => .agg (f a))]) :=
  fd_slice hu hc hA fun G x cs h => by unfold DR; exact h
inductive FDF (P : Program) : List Field → Nat → Nat → {α : Type} → (α → List D) → Prop
  | one {fl : Field} {o q : Nat} {α : Type} {f : α → List D} (ho : fl.offset = o) (hA : FD P fl.type q f) : FDF P [fl] o q f
  | cons {fl : Field} {fs : List Field} {o p q : Nat} {α β : Type} {f : α → List D} {g : β → List D} (ho : fl.offset = o) (hA : FD P fl.type p f) (hB : FDF P fs (o + p) q g) : FDF P (fl :: fs) o (p + q) (fun x : α × β => f x.1 ++ g x.2)
theorem dagg_app {G : GC} : ∀ {xs ys : List D} {cs ds : List Value}, DAgg G xs cs → DAgg G ys ds → DAgg G (xs ++ ys) (cs ++ ds)
  | [], ys, cs, ds, h, k => by unfold DAgg at h; subst h; exact k
  | x :: xs, ys, cs, ds, h, k => by
    unfold DAgg at h
    obtain ⟨v, r, rfl, h1, h2⟩ := h
    rw [List.cons_append, List.cons_append]
    unfold DAgg
    exact ⟨v, r ++ ds, rfl, h1, dagg_app h2 k⟩
theorem fdf_get {H : Type} {enc : TypeId × Value → H} {w : World} {base : Nat} {spare : Nat → Bool} {held : Bool} {fuel : Nat} {cs : List Value} : ∀ {fs : List Field} {o q : Nat} {α : Type} {f : α → List D}, FDF P fs o q f →
    ∀ {xs}, fs.mapM (fun f => DataW.trod enc P w base spare held fuel f.type ((cs.drop f.offset).take (P.cellsOf f.type))) = some xs → ∃ x, DAgg (gw w) (f x) ((cs.drop o).take q) ∧ ((cs.drop o).take q).length = q
  | _, _, _, _, _, .one (fl := fl) ho hA, xs, h => by
    subst ho
    have h2 := Sl.mapM_all h
    cases h2 with
    | cons h3 _ =>
      obtain ⟨x, hx⟩ := hA.2.2 H enc w base spare held fuel _ _ _ h3
      rw [hA.1] at hx
      exact ⟨x, hx⟩
  | _, _, _, _, _, .cons (fl := fl) (fs := fs) (p := p) (q := q) ho hA hB, xs, h => by
    subst ho
    rw [List.mapM_cons] at h
    cases h1 : DataW.trod enc P w base spare held fuel fl.type ((cs.drop fl.offset).take (P.cellsOf fl.type)) with
    | none => simp [h1] at h
    | some y =>
      cases h2 : fs.mapM (fun f => DataW.trod enc P w base spare held fuel f.type ((cs.drop f.offset).take (P.cellsOf f.type))) with
      | none => simp [h1, h2] at h
      | some ys =>
        obtain ⟨x, hx, hxl⟩ := hA.2.2 H enc w base spare held fuel _ _ _ h1
        obtain ⟨z, hz, hzl⟩ := fdf_get hB h2
        rw [hA.1] at hx hxl
        refine ⟨(x, z), ?_, ?_⟩
        · rw [List.take_add, List.drop_drop]
          exact dagg_app hx hz
        · rw [List.take_add, List.drop_drop, List.length_append, hxl, hzl]
theorem fd_struct {fs : Array Field} {q : Nat} {α : Type} {f : α → List D} (hu : P.underlying t = some (.struct fs)) (hc : P.cellsOf t = q) (h0 : 0 < q) (hF : FDF P fs.toList 0 q f) : FD P t q f := by
  refine ⟨hc, h0, fun H enc w base spare held fuel cs d ps h => ?_⟩
  cases fuel with
  | zero => simp [DataW.trod] at h
  | succ fuel =>
    unfold DataW.trod at h
    rw [hu] at h
    split at h <;> try (simp_all; done)
    rename_i cs _ _ fs' he
    injection he with he
    injection he with he
    subst he
    split at h
    · rename_i hl
      cases hm : fs.toList.mapM (fun f => DataW.trod enc P w base spare held fuel f.type ((cs.drop f.offset).take (P.cellsOf f.type))) with
      | none => simp [hm] at h
      | some xs =>
        obtain ⟨x, hx⟩ := fdf_get hF hm
        rw [List.drop_zero, List.take_of_length_le (by omega)] at hx
        exact ⟨x, hx⟩
    · cases h
/-- Told in another form. -/
theorem FD.to {q : Nat} {α β : Type} {f : α → List D} {g : β → List D} (h : FD P t q f) (k : ∀ x, ∃ y, f x = g y) : FD P t q g := by
  refine ⟨h.1, h.2.1, fun H enc w base spare held fuel cs d ps hd => ?_⟩
  obtain ⟨x, hx, hl⟩ := h.2.2 H enc w base spare held fuel cs d ps hd
  obtain ⟨y, hy⟩ := k x
  exact ⟨y, by rw [← hy]; exact hx, hl⟩
theorem FD.rd {q : Nat} {α : Type} {f : α → List D} (F : FD P t q f) {H : Type} {enc : TypeId × Value → H} {w : World} {base : Nat} {spare : Nat → Bool} {held : Bool} {v : Value} {d : DataW H} {ps : List MemPlace}
    (h : DataW.Trod enc P w base spare held t v d ps) : ∃ x, DAgg (gw w) (f x) v.cells.toList := by
  obtain ⟨fuel, hf⟩ := h
  obtain ⟨x, hx, _⟩ := F.2.2 H enc w base spare held fuel _ d ps hf
  exact ⟨x, hx⟩
theorem arg_sl {w : World} {q : Nat} {xs : List D} {a : Option Addr} {n c : Nat} (h : DAgg (gw w) [.sl q xs] (Value.slice a n c).cells.toList) : VR (cw w) (.d (.sl q xs)) (.slice a n c) := by
  unfold VR
  exact dagg1' h
theorem arg_agg {w : World} {xs : List D} {cs : Array Value} (h : DAgg (gw w) xs (Value.agg cs).cells.toList) : VR (cw w) (.agg (xs.map .d)) (.agg cs) := by
  unfold VR
  exact ⟨cs.toList, by simp, dagg_vrs (C := cw w) (by simpa [Value.cells] using h)⟩
theorem arg_int {w : World} {k : IntKind} {n : Int} : VR (cw w) (.d (.int k n)) (.int k n) := by unfold VR DR; rfl
theorem arg_bool {w : World} {b : Bool} : VR (cw w) (.d (.bool b)) (.bool b) := by unfold VR DR; rfl
theorem arg_str {w : World} {s : ByteArray} (h : s.size ≤ maxLen) : VR (cw w) (.d (.str s.data.toList)) (.string s) := by
  unfold VR DR; exact ⟨rfl, by exact h⟩
end
end Go.Proofs.Ytgebfcdcpmmgnaa.Vs
