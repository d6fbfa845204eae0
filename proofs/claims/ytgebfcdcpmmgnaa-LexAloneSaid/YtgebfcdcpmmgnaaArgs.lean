/- What a row's reading of an argument gives: a representation. -/
import Derived.Test.YtgebfcdcpmmgnaaRep
import Derived.ProofKit
set_option linter.unusedVariables false
set_option linter.unusedSimpArgs false
namespace Go.Proofs.Ytgebfcdcpmmgnaa.Sl
open Go.RowKit
/-- Whatever is read as data of this type lies so. -/
def Fits (P : Program) (t : TypeId) {α : Type} (A : Rep α) : Prop :=
  P.cellsOf t = A.sz ∧ ∀ (H : Type) (enc : TypeId × Value → H) (w : World) (base : Nat) (spare : Nat → Bool) (held : Bool) (fuel : Nat) (cs : List Value) (d : DataW H) (ps : List MemPlace),
    DataW.trod enc P w base spare held fuel t cs = some (d, ps) → ∃ x, A.K (hp w) (fun _ => True) x cs
section
variable {P : Program} {t : TypeId}
theorem wf_inR {k : IntKind} {n : Int} (h : (Lit.int k n).wf = true) : IntKind.inR k n := by
  simpa [Lit.wf, IntKind.inR] using h
theorem fits_int {k : IntKind} (hu : P.underlying t = some (.int k)) (hc : P.cellsOf t = 1) : Fits P t (Rep.int k) := by
  refine ⟨hc, fun H enc w base spare held fuel cs d ps h => ?_⟩
  cases fuel with
  | zero => simp [DataW.trod] at h
  | succ fuel =>
    unfold DataW.trod at h
    rw [hu] at h
    split at h <;> simp_all
    obtain ⟨⟨rfl, hw⟩, _⟩ := h
    exact ⟨_, rfl, wf_inR hw⟩
theorem fits_byte (hu : P.underlying t = some (.int .u8)) (hc : P.cellsOf t = 1) : Fits P t Rep.byte := by
  refine ⟨hc, fun H enc w base spare held fuel cs d ps h => ?_⟩
  obtain ⟨x, rfl, hr⟩ := (fits_int hu hc).2 H enc w base spare held fuel cs d ps h
  have h1 : 0 ≤ x ∧ x ≤ 255 := hr
  refine ⟨UInt8.ofNat x.toNat, ?_⟩
  show _ = _
  congr 2
  have h2 : (UInt8.ofNat x.toNat).toNat = x.toNat % 256 := by simp
  rw [h2]
  omega
theorem fits_bool (hu : P.underlying t = some .bool) (hc : P.cellsOf t = 1) : Fits P t Rep.bool := by
  refine ⟨hc, fun H enc w base spare held fuel cs d ps h => ?_⟩
  cases fuel with
  | zero => simp [DataW.trod] at h
  | succ fuel =>
    unfold DataW.trod at h
    rw [hu] at h
    split at h <;> simp_all
    rename_i b
    cases b
    · exact .inl rfl
    · exact .inr rfl
theorem fits_str (hu : P.underlying t = some .string) (hc : P.cellsOf t = 1) : Fits P t Rep.str := by
  refine ⟨hc, fun H enc w base spare held fuel cs d ps h => ?_⟩
  cases fuel with
  | zero => simp [DataW.trod] at h
  | succ fuel =>
    unfold DataW.trod at h
    rw [hu] at h
    split at h <;> simp_all
    exact ⟨_, rfl, h.1⟩
theorem mapM_all {α β : Type} {f : α → Option β} : ∀ {l : List α} {r : List β}, l.mapM f = some r → All2 (fun a b => f a = some b) l r
  | [], r, h => by simp at h; subst h; exact .nil
  | a :: l, r, h => by
    rw [List.mapM_cons] at h
    cases ha : f a with
    | none => simp [ha] at h
    | some b =>
      cases hl : l.mapM f with
      | none => simp [ha, hl] at h
      | some bs =>
        simp [ha, hl] at h
        subst h
        exact .cons ha (mapM_all hl)
theorem cells_get {w : World} {base n : Nat} {a : Addr} {cs : List Value} (h : w.cells? base a n = some cs) : cs.length = n ∧ ∀ j v, cs[j]? = some v → w.cell? (a.add j) = some v := by
  unfold World.cells? at h
  split at h
  · have h2 := mapM_all h
    refine ⟨by rw [← h2.length, List.length_range], fun j v hv => ?_⟩
    have hj : j < n := by
      have := (List.getElem?_eq_some_iff.1 hv).1
      rw [← h2.length, List.length_range] at this
      exact this
    obtain ⟨y, hy, hr⟩ := h2.get (i := j) (x := j) (by simp [hj])
    rw [hv] at hy
    injection hy with hy
    subst hy
    exact hr
  · cases h
theorem all2_choose {α β γ : Type} {R : α → β → Prop} {S : γ → β → Prop} (hR : ∀ a b, R a b → ∃ c, S c b) : ∀ {l : List α} {r : List β}, All2 R l r → ∃ cs, All2 S cs r
  | _, _, .nil => ⟨[], .nil⟩
  | _, _, .cons h t => by
    obtain ⟨c, hc⟩ := hR _ _ h
    obtain ⟨cs, hcs⟩ := all2_choose hR t
    exact ⟨c :: cs, .cons hc hcs⟩
theorem fits_slice {e : TypeId} {α : Type} {A : Rep α} (hu : P.underlying t = some (.slice e)) (hc : P.cellsOf t = 1) (hA : Fits P e A) : Fits P t A.slice := by
  refine ⟨hc, fun H enc w base spare held fuel cs d ps h => ?_⟩
  cases fuel with
  | zero => simp [DataW.trod] at h
  | succ fuel =>
    unfold DataW.trod at h
    rw [hu] at h
    split at h <;> try (simp_all; done)
    · exact ⟨[], Rep.slice_nil _ _ _⟩
    · rename_i e' a len cap he
      injection he with he
      injection he with he
      subst he
      simp only at h
      split at h
      · rename_i hb
        cases hm : (List.range len).mapM (fun i => (w.cells? base (a.add (i * P.cellsOf e)) (P.cellsOf e)).bind (DataW.trod enc P w base spare held fuel e)) with
        | none => simp [hm] at h
        | some elems =>
          have h2 := mapM_all hm
          -- cells of each element, and what they are
          have h3 : ∀ i, i < len → ∃ cs x, w.cells? base (a.add (i * P.cellsOf e)) (P.cellsOf e) = some cs ∧ A.K (hp w) (fun _ => True) x cs := fun i hi => by
            obtain ⟨y, hy, hr⟩ := h2.get (i := i) (x := i) (by simp [hi])
            cases hq : w.cells? base (a.add (i * P.cellsOf e)) (P.cellsOf e) with
            | none => simp [hq] at hr
            | some cs =>
              simp only [hq, Option.bind_some] at hr
              obtain ⟨x, hx⟩ := hA.2 H enc w base spare held fuel cs y.1 y.2 hr
              exact ⟨cs, x, rfl, hx⟩
          have h4 : ∀ n, n ≤ len → ∃ xs css, All2 (A.K (hp w) (fun _ => True)) xs css ∧ xs.length = n ∧ ∀ i, i < n → w.cells? base (a.add (i * P.cellsOf e)) (P.cellsOf e) = css[i]? := by
            intro n
            induction n with
            | zero => exact fun _ => ⟨[], [], .nil, rfl, fun i hi => by omega⟩
            | succ n ih =>
              intro hn
              obtain ⟨xs, css, h5, h6, h7⟩ := ih (by omega)
              obtain ⟨cs, x, h8, h9⟩ := h3 n (by omega)
              have hl := h5.length
              refine ⟨xs ++ [x], css ++ [cs], h5.append (.cons h9 .nil), by simp [h6], fun i hi => ?_⟩
              by_cases hin : i < n
              · rw [List.getElem?_append_left (by omega)]
                exact h7 i hin
              · obtain rfl : i = n := by omega
                rw [List.getElem?_append_right (by omega), show i - css.length = 0 by omega]
                exact h8
          obtain ⟨xs, css, h5, h6, h7⟩ := h4 len (Nat.le_refl _)
          subst h6
          have hl : ∀ c ∈ css, c.length = A.sz := fun c hc => by
            obtain ⟨x, _, hx⟩ := h5.mem hc
            exact A.len hx
          refine ⟨xs, some a, cap, rfl, hb.2.1, Nat.le_trans hb.2.1 hb.2.2, fun _ => ⟨a, css, rfl, trivial, h5, fun j v hv => ?_⟩⟩
          have hpos := A.pos
          have hjl : j < css.length * A.sz := by
            have := (List.getElem?_eq_some_iff.1 hv).1
            rwa [flat_len hl] at this
          have hi : j / A.sz < css.length := by rw [Nat.div_lt_iff_lt_mul hpos]; exact hjl
          have hci : css[j / A.sz]? = some css[j / A.sz] := List.getElem?_eq_getElem hi
          have h8 := h7 (j / A.sz) (by rw [h5.length]; exact hi)
          rw [hci, hA.1] at h8
          obtain ⟨_, h9⟩ := cells_get h8
          have h10 := flat_at hl hci (j := j % A.sz) (Nat.mod_lt _ hpos)
          have hjj : j / A.sz * A.sz + j % A.sz = j := by rw [Nat.mul_comm]; exact Nat.div_add_mod j A.sz
          rw [hjj, hv] at h10
          have h11 := h9 (j % A.sz) v h10.symm
          rw [Rep.add_add', hjj] at h11
          exact h11
      · cases h
/-- A struct's fields from a cell on. -/
inductive FitsF (P : Program) : List Field → Nat → {α : Type} → Rep α → Prop
  | one {f : Field} {o : Nat} {α : Type} {A : Rep α} (ho : f.offset = o) (hA : Fits P f.type A) : FitsF P [f] o A
  | cons {f : Field} {fs : List Field} {o : Nat} {α β : Type} {A : Rep α} {B : Rep β} (ho : f.offset = o) (hA : Fits P f.type A) (hB : FitsF P fs (o + A.sz) B) : FitsF P (f :: fs) o (Rep.pair A B)
theorem fitsF_get {H : Type} {enc : TypeId × Value → H} {w : World} {base : Nat} {spare : Nat → Bool} {held : Bool} {fuel : Nat} {cs : List Value} : ∀ {fs : List Field} {o : Nat} {α : Type} {A : Rep α}, FitsF P fs o A →
    ∀ {xs}, fs.mapM (fun f => DataW.trod enc P w base spare held fuel f.type ((cs.drop f.offset).take (P.cellsOf f.type))) = some xs → ∃ x, A.K (hp w) (fun _ => True) x ((cs.drop o).take A.sz)
  | _, _, _, A, .one (f := f) ho hA, xs, h => by
    subst ho
    have h2 := mapM_all h
    cases h2 with
    | cons h3 _ =>
      obtain ⟨x, hx⟩ := hA.2 H enc w base spare held fuel _ _ _ h3
      rw [hA.1] at hx
      exact ⟨x, hx⟩
  | _, _, _, _, .cons (f := f) (fs := fs) (A := A) (B := B) ho hA hB, xs, h => by
    subst ho
    rw [List.mapM_cons] at h
    cases h1 : DataW.trod enc P w base spare held fuel f.type ((cs.drop f.offset).take (P.cellsOf f.type)) with
    | none => simp [h1] at h
    | some y =>
      cases h2 : fs.mapM (fun f => DataW.trod enc P w base spare held fuel f.type ((cs.drop f.offset).take (P.cellsOf f.type))) with
      | none => simp [h1, h2] at h
      | some ys =>
        obtain ⟨x, hx⟩ := hA.2 H enc w base spare held fuel _ _ _ h1
        obtain ⟨z, hz⟩ := fitsF_get hB h2
        rw [hA.1] at hx
        refine ⟨(x, z), _, _, ?_, hx, hz⟩
        show (cs.drop f.offset).take (A.sz + B.sz) = _
        rw [List.take_add, List.drop_drop]
theorem fits_struct {fs : Array Field} {α β : Type} {A : Rep α} (f : β → α) (g : α → β) (hfg : ∀ a, f (g a) = a) (hu : P.underlying t = some (.struct fs)) (hc : P.cellsOf t = A.sz) (hF : FitsF P fs.toList 0 A) : Fits P t (A.iso f) := by
  refine ⟨hc, fun H enc w base spare held fuel cs d ps h => ?_⟩
  cases fuel with
  | zero => simp [DataW.trod] at h
  | succ fuel =>
    unfold DataW.trod at h
    rw [hu] at h
    split at h <;> try (simp_all; done)
    rename_i cs _ _ fs' he
    injection he with he
    injection he with he
    subst he
    split at h
    · rename_i hl
      cases hm : fs.toList.mapM (fun f => DataW.trod enc P w base spare held fuel f.type ((cs.drop f.offset).take (P.cellsOf f.type))) with
      | none => simp [hm] at h
      | some xs =>
        obtain ⟨x, hx⟩ := fitsF_get hF hm
        rw [List.drop_zero, List.take_of_length_le (by omega)] at hx
        exact ⟨g x, by show A.K _ _ (f (g x)) cs; rw [hfg]; exact hx⟩
    · cases h
/-- What the reading of an argument gives. -/
theorem Fits.rd {α : Type} {A : Rep α} (F : Fits P t A) {H : Type} {enc : TypeId × Value → H} {w : World} {base : Nat} {spare : Nat → Bool} {held : Bool} {v : Value} {d : DataW H} {ps : List MemPlace}
    (h : DataW.Trod enc P w base spare held t v d ps) : ∃ x, Rd A w x v.cells.toList := by
  obtain ⟨fuel, hf⟩ := h
  obtain ⟨x, hx⟩ := F.2 H enc w base spare held fuel _ d ps hf
  exact ⟨x, _, hx⟩
end
end Go.Proofs.Ytgebfcdcpmmgnaa.Sl
