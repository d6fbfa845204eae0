/- Between the print's kinds (Kd) and this session's representations (Rep). -/
import Derived.Test.YtpcapijakenjbaaRun
import Derived.Test.YtpcapijakenjbaaWMore
set_option linter.unusedVariables false
set_option linter.unusedSimpArgs false
namespace Go.Proofs.Ytpcapijakenjbaa.Sl
open Go.RowKit Go.Proofs.YtpcapijakenjbaaW.PrintWords
/-- Bytes as numbers, and back. -/
def nb (b : List UInt8) : List Int := b.map fun x => (x.toNat : Int)
def toB (l : List Int) : List UInt8 := l.map fun x => UInt8.ofNat x.toNat
def okB (l : List Int) : Bool := l.all fun x => decide (0 ≤ x) && decide (x < 256)
theorem okB_iff {l : List Int} : okB l = true ↔ ∀ x ∈ l, 0 ≤ x ∧ x < 256 := by simp [okB, List.all_eq_true]
@[simp] theorem nb_length (b : List UInt8) : (nb b).length = b.length := by simp [nb]
@[simp] theorem toB_length (l : List Int) : (toB l).length = l.length := by simp [toB]
@[simp] theorem toB_nb (b : List UInt8) : toB (nb b) = b := by
  induction b with
  | nil => rfl
  | cons x b ih =>
    have h : toB (nb (x :: b)) = UInt8.ofNat (x.toNat : Int).toNat :: toB (nb b) := rfl
    rw [h, ih]
    simp
theorem nb_toB {l : List Int} (h : okB l = true) : nb (toB l) = l := by
  induction l with
  | nil => rfl
  | cons x l ih =>
    rw [okB_iff] at h
    have h1 := h x (by simp)
    have h2 : nb (toB (x :: l)) = ((UInt8.ofNat x.toNat).toNat : Int) :: nb (toB l) := rfl
    rw [h2, ih (okB_iff.2 fun y hy => h y (by simp [hy]))]
    congr 1
    have : (UInt8.ofNat x.toNat).toNat = x.toNat % 256 := by simp
    rw [this]
    omega
@[simp] theorem okB_nb (b : List UInt8) : okB (nb b) = true := by
  rw [okB_iff]
  intro x hx
  simp only [nb, List.mem_map] at hx
  obtain ⟨y, _, rfl⟩ := hx
  have := y.toNat_lt
  omega
@[simp] theorem nb_append (a b : List UInt8) : nb (a ++ b) = nb a ++ nb b := by simp [nb]
@[simp] theorem nb_nil : nb [] = [] := rfl
theorem nb_inj {a b : List UInt8} (h : nb a = nb b) : a = b := by rw [← toB_nb a, h, toB_nb]
/-- A representation's elements, in a row. -/
theorem SlK.of {α : Type} {A : Rep α} {h : Hp} {F : Nat → Prop} {ad : Addr} {xs : List α} (hF : F ad.block) (H : ∀ j x, xs[j]? = some x → ∃ cs, A.K h F x cs ∧ ∀ i v, cs[i]? = some v → cellH h (ad.add (j * A.sz + i)) = some v) : Rep.SlK A h F (some ad) xs := fun _ => by
  have h4 : ∀ n, n ≤ xs.length → ∃ css, All2 (A.K h F) (xs.take n) css ∧ ∀ i cs, css[i]? = some cs → ∀ k v, cs[k]? = some v → cellH h (ad.add (i * A.sz + k)) = some v := by
    intro n
    induction n with
    | zero => exact fun _ => ⟨[], by simpa using All2.nil, fun i cs hi => by simp at hi⟩
    | succ n ih =>
      intro hn
      obtain ⟨css, h5, h6⟩ := ih (by omega)
      have hx : xs[n]? = some xs[n] := List.getElem?_eq_getElem (by omega)
      obtain ⟨cs, h8, h9⟩ := H n _ hx
      have hl : css.length = n := by rw [← h5.length]; simp; omega
      refine ⟨css ++ [cs], ?_, fun i q hi k v hk => ?_⟩
      · rw [List.take_add_one, hx]
        exact h5.append (.cons h8 .nil)
      · by_cases hin : i < css.length
        · rw [List.getElem?_append_left hin] at hi
          exact h6 i q hi k v hk
        · rw [List.getElem?_append_right (by omega)] at hi
          obtain ⟨hi1, hi2⟩ : i = n ∧ q = cs := by
            cases hq : i - css.length with
            | zero => rw [hq] at hi; simp at hi; exact ⟨by omega, hi.symm⟩
            | succ m => rw [hq] at hi; simp at hi
          subst hi1; subst hi2
          exact h9 k v hk
  obtain ⟨css, h5, h6⟩ := h4 xs.length (Nat.le_refl _)
  rw [List.take_length] at h5
  refine ⟨ad, css, rfl, hF, h5, fun j v hv => ?_⟩
  have hl : ∀ c ∈ css, c.length = A.sz := fun c hc => by
    obtain ⟨x, _, hx⟩ := h5.mem hc
    exact A.len hx
  have hpos := A.pos
  have hjl : j < css.length * A.sz := by
    have := (List.getElem?_eq_some_iff.1 hv).1
    rwa [flat_len hl] at this
  have hi : j / A.sz < css.length := by rw [Nat.div_lt_iff_lt_mul hpos]; exact hjl
  have hci : css[j / A.sz]? = some css[j / A.sz] := List.getElem?_eq_getElem hi
  have h10 := flat_at hl hci (j := j % A.sz) (Nat.mod_lt _ hpos)
  have hjj : j / A.sz * A.sz + j % A.sz = j := by rw [Nat.mul_comm]; exact Nat.div_add_mod j A.sz
  rw [hjj, hv] at h10
  have := h6 _ _ hci _ _ h10.symm
  rwa [hjj] at this
/-- What is so represented is of that kind, under f. -/
structure Br {α β : Type} (A : Rep α) (d : Kd β) (f : α → β) : Prop where
  sz : A.sz = d.sz
  on : ∀ {w : World} {F : Nat → Prop} {x : α} {cs : List Value}, A.K (hp w) F x cs → d.K w (f x) cs
section
variable {α β γ δ : Type} {A : Rep α} {B : Rep γ} {d : Kd β} {d' : Kd δ} {f : α → β} {g : γ → δ}
theorem br_int (k : IntKind) : Br (Rep.int k) (Kd.int k) (fun x => x) := ⟨rfl, fun h => h.1⟩
theorem br_byte : Br Rep.byte (Kd.int .u8) (fun x => (x.toNat : Int)) := ⟨rfl, fun h => h⟩
theorem br_bool : Br Rep.bool Kd.bool (fun x => x) := ⟨rfl, fun h => h⟩
theorem br_str : Br Rep.str Kd.string (fun x => x) := ⟨rfl, fun h => h.1⟩
theorem br_strL : Br strL Kd.string (fun x => ⟨x.toArray⟩) := ⟨rfl, fun h => h.1⟩
theorem Br.C (h : Br A d f) {w : World} {F : Nat → Prop} {a : Option Addr} {n c : Nat} {xs : List α} (H : A.slice.K (hp w) F xs [.slice a n c]) : d.C w a (xs.map f).length (xs.map f) := by
  obtain ⟨a', c', e, h1, h2, h3⟩ := H
  injection e with e _
  injection e with e1 e2 e3
  subst e1
  have hm : (maxLen : Nat) = 9223372036854775807 := rfl
  refine ⟨rfl, by simp; omega, fun hn => ?_⟩
  obtain ⟨ad, css, rfl, _, _⟩ := id (h3 (by intro h0; subst h0; simp at hn))
  refine ⟨ad, rfl, fun j p hp => ?_⟩
  rw [List.getElem?_map] at hp
  cases hx : xs[j]? with
  | none => rw [hx] at hp; cases hp
  | some x =>
    rw [hx] at hp
    injection hp with hp
    subst hp
    obtain ⟨ad2, cs, e, hk, hc⟩ := h3.at_ hx
    injection e with e
    subst e
    refine ⟨cs, by rw [A.len hk, h.sz], h.on hk, fun i u hu => ?_⟩
    rw [← h.sz]
    exact hc i u hu
theorem br_slice (e : Nat) (h : Br A d f) : Br A.slice (Kd.slice e d) (List.map f) := ⟨rfl, fun {w F x cs} H => by
  obtain ⟨a, c, rfl, h1, h2, h3⟩ := H
  refine ⟨a, c, by simp, by simpa using h1, h.C ⟨a, c, rfl, h1, h2, h3⟩⟩⟩
theorem br_pair (h : Br A d f) (h' : Br B d' g) : Br (Rep.pair A B) (Kd.pair d d') (fun x => (f x.1, g x.2)) := ⟨by show A.sz + B.sz = d.sz + d'.sz; rw [h.sz, h'.sz], fun H => by
  obtain ⟨c, q, rfl, h1, h2⟩ := H
  exact ⟨c, q, rfl, h.on h1, h'.on h2⟩⟩
theorem br_iso {ε ζ : Type} {p : ε → α} {q : ζ → β} {t : ε → ζ} (h : Br A d f) (hc : ∀ x, q (t x) = f (p x)) : Br (A.iso p) (d.iso q) t := ⟨h.sz, fun {w F x cs} H => by
  show d.K w (q (t x)) cs
  rw [hc]
  exact h.on H⟩
/-- The way back: what is of the kind, and in bounds (P), is represented. -/
structure Rb (d : Kd β) (A : Rep α) (g : β → α) (P : β → Prop) : Prop where
  sz : A.sz = d.sz
  on : ∀ {w : World} {x : β} {cs : List Value}, P x → d.K w x cs → A.K (hp w) (fun _ => True) (g x) cs
theorem rb_int (k : IntKind) : Rb (Kd.int k) (Rep.int k) (fun x => x) (IntKind.inR k) := ⟨rfl, fun h e => ⟨e, h⟩⟩
theorem rb_byte : Rb (Kd.int .u8) Rep.byte (fun x => UInt8.ofNat x.toNat) (fun x => 0 ≤ x ∧ x < 256) := ⟨rfl, fun {w x cs} h e => by
  have e' : cs = [.int .u8 x] := e
  subst e'
  show [_] = [_]
  have h2 : (UInt8.ofNat x.toNat).toNat = x.toNat % 256 := by simp
  rw [h2]
  congr 2
  omega⟩
theorem rb_bool : Rb Kd.bool Rep.bool (fun x => x) (fun _ => True) := ⟨rfl, fun _ e => e⟩
theorem rb_str : Rb Kd.string Rep.str (fun x => x) (fun x => x.size ≤ maxLen) := ⟨rfl, fun h e => ⟨e, h⟩⟩
theorem rb_strL : Rb Kd.string strL (fun x => x.data.toList) (fun x => x.size ≤ maxLen) := ⟨rfl, fun {w x cs} h e => by
  have e' : cs = [.string x] := e
  subst e'
  exact ⟨by simp, by simpa using h⟩⟩
theorem Rb.rd {g : β → α} {P : β → Prop} (h : Rb d A g P) {w : World} {a : Option Addr} {c : Nat} {l : List β} (H : d.C w a l.length l) (hc : l.length ≤ c) (hP : ∀ x ∈ l, P x) : A.slice.K (hp w) (fun _ => True) (l.map g) [.slice a (l.map g).length c] := by
  obtain ⟨_, h2, h3⟩ := H
  refine ⟨a, c, rfl, by simpa using hc, by rw [maxLen_eq]; simpa using h2, fun hn => ?_⟩
  obtain ⟨ad, rfl, h4⟩ := h3 (by cases l <;> simp_all)
  refine SlK.of (F := fun _ => True) (ad := ad) trivial (fun j x hx => ?_) hn
  rw [List.getElem?_map] at hx
  cases hy : l[j]? with
  | none => rw [hy] at hx; cases hx
  | some y =>
    rw [hy] at hx
    injection hx with hx
    subst hx
    obtain ⟨cs, _, h6, h7⟩ := h4 j y hy
    refine ⟨cs, h.on (hP y (List.mem_of_getElem? hy)) h6, fun i v hv => ?_⟩
    rw [h.sz]
    exact h7 i v hv
theorem rb_slice (e : Nat) {g : β → α} {P : β → Prop} (h : Rb d A g P) : Rb (Kd.slice e d) A.slice (List.map g) (fun l => ∀ x ∈ l, P x) := ⟨rfl, fun {w l cs} hP H => by
  obtain ⟨a, c, rfl, hc, hr⟩ := H
  have := h.rd hr hc hP
  simpa using this⟩
theorem rb_pair {g : β → α} {P : β → Prop} {g' : δ → γ} {P' : δ → Prop} (h : Rb d A g P) (h' : Rb d' B g' P') : Rb (Kd.pair d d') (Rep.pair A B) (fun x => (g x.1, g' x.2)) (fun x => P x.1 ∧ P' x.2) := ⟨by show A.sz + B.sz = d.sz + d'.sz; rw [h.sz, h'.sz], fun hP H => by
  obtain ⟨c, q, rfl, h1, h2⟩ := H
  exact ⟨c, q, rfl, h.on hP.1 h1, h'.on hP.2 h2⟩⟩
theorem rb_iso {ε ζ : Type} {g : β → α} {P : β → Prop} {p : ε → α} {q : ζ → β} {t : ζ → ε} (h : Rb d A g P) (hc : ∀ x, p (t x) = g (q x)) : Rb (d.iso q) (A.iso p) t (fun x => P (q x)) := ⟨h.sz, fun {w x cs} hP H => by
  show A.K _ _ (p (t x)) cs
  rw [hc]
  exact h.on hP H⟩
end
theorem rd_bytes {w : World} {a : Option Addr} {c : Nat} {l : List Int} (H : (Kd.int .u8).C w a l.length l) (hc : l.length ≤ c) (hb : okB l = true) : Rd Rep.byte.slice w (toB l) [.slice a (toB l).length c] :=
  ⟨_, rb_byte.rd H hc (okB_iff.1 hb)⟩
/-- What lies in blocks of a part alone. -/
def Rep.within {α : Type} (P : Nat → Prop) (A : Rep α) : Rep α where
  sz := A.sz
  pos := A.pos
  K h F x cs := A.K h (fun b => F b ∧ P b) x cs
  loc := fun h k => A.loc h (fun b hb => k b hb.1)
  up := fun h k => A.up h (fun b hb hn => ⟨k b hb.1 hn, hb.2⟩)
  len := A.len
  one := A.one
section
variable {α β : Type} {A : Rep α} {d : Kd β} {f : α → β} {w w0 w' : World} {G G' : Gh} {l l' : List As} {r : Bool} {e : TypeId} {v : Value} {xs : List α} {P : Nat → Prop}
theorem Rep.within_out {h : Hp} {F : Nat → Prop} {x : α} {cs : List Value} (H : (A.within P).K h F x cs) : A.K h F x cs := A.up H (fun _ hb _ => hb.1)
theorem Rep.within_flat (hA : A.Flat) {h : Hp} {F : Nat → Prop} {x : α} {cs : List Value} (H : A.K h F x cs) : (A.within P).K h F x cs := hA _ _ _ _ H _ _
theorem gh_new {b : Nat} (hG : GhLe (Gh.of w0) G) (hb : ¬ G.dom b) : w0.heap.size ≤ b := by
  rcases Nat.lt_or_ge b w0.heap.size with h | h
  · refine absurd (Gh.dom_le hG.le (b := b) ?_) hb
    unfold Gh.dom Gh.of hp
    simp [h]
  · exact h
/-- A row whose elements lie in a part that has what is new is laid down: so does it. -/
theorem St.frzA (S : St w G (Own true (A.within P) e v xs :: l)) (hG : GhLe (Gh.of w0) G) (hP : ∀ b, w0.heap.size ≤ b → P b) : ∃ G', GhLe G G' ∧ (A.slice.within P).K G'.heap G'.dom xs [v] ∧ St w G' l := by
  have S0 := S
  obtain ⟨F, G', hA, h1, hF, h3, h4, h5, h6⟩ := S.freeze
  obtain ⟨F0, H0, hd0⟩ := S0.get Pick.here
  have S1 := S0.drop
  obtain ⟨css, Fe, k1, k2, k3, k4, k5⟩ := hA
  have hGG : ∀ b, G.dom b → G'.heap b = hp w b := fun b hb => by
    unfold Gh.dom at hb
    cases hg : G.heap b with
    | none => exact absurd hg hb
    | some o => rw [h1 b o hg]; unfold hp; exact (S1.ro b o hg).symm
  refine ⟨G', ⟨h1, h4, h5, h6⟩, ?_, h3⟩
  have hloc : ∀ x cs, (A.within P).K (hp w) (rdom true G Fe) x cs → A.K G'.heap (fun b => G'.dom b ∧ P b) x cs := fun x cs hk => by
    refine A.up (A.loc (h' := G'.heap) hk (fun b hb _ => ?_)) (fun b hb _ => ⟨?_, hb.2⟩)
    · rcases hb.1 with hq | hq
      · exact (hF b ((k5 b).2 (.inr hq))).2
      · exact hGG b hq.2
    · rcases hb.1 with hq | hq
      · exact (hF b ((k5 b).2 (.inr hq))).1
      · exact Gh.dom_le h1 hq.2
  show A.slice.K G'.heap (fun b => G'.dom b ∧ P b) xs [v]
  rcases k1.2 with ⟨rfl, hn⟩ | ⟨g, cap, cur, rfl, hg, hnc, hcm, hcs, ht⟩
  · obtain rfl : xs = [] := List.eq_nil_of_length_eq_zero hn
    exact Rep.slice_nil _ _ _
  · have hFg : F g := (k5 g).2 (.inl rfl)
    have hgn : ¬ G.dom g := fun hb => k4 g rfl (.inr ⟨rfl, hb⟩)
    refine ⟨_, cap, rfl, hnc, Nat.le_trans hnc hcm, fun _ => ⟨⟨g, 0, none⟩, css, rfl, ⟨(hF g hFg).1, hP g (gh_new hG hgn)⟩, k2.imp hloc, fun j u hu => ?_⟩⟩
    have ha : (⟨g, 0, none⟩ : Addr).add j = ⟨g, j, none⟩ := by unfold Addr.add; split <;> simp_all
    rw [ha]
    unfold cellH
    simp only [(hF g hFg).2, hg]
    rw [← ht, List.getElem?_take] at hu
    split at hu
    · simpa using hu
    · cases hu
/-- The same for a row of bytes (or numbers), made since. -/
theorem St.frzF (S : St w G (Own r A e v xs :: l)) (hA : A.Flat) (hG : GhLe (Gh.of w0) G) (hP : ∀ b, w0.heap.size ≤ b → P b) : ∃ G', GhLe G G' ∧ (A.slice.within P).K G'.heap G'.dom xs [v] ∧ St w G' l := by
  have S2 : St w G (Own true (A.within P) e v xs :: l) := by
    refine S.step rfl rfl rfl (fun F hF hd => ⟨fun _ _ _ => rfl, (fun b => v.ownBlock = some b), ?_, fun b hb => .inl ?_⟩)
    · obtain ⟨css, Fe, h1, h2, h3, h4, h5⟩ := hF
      refine ⟨css, fun _ => False, h1, h2.imp (fun _ _ q => hA _ _ _ _ q _ _), fun b hb => hb.elim, fun b hb hr => ?_, fun b => by simp⟩
      rcases hr with hr | hr
      · exact hr
      · exact hd b ((h5 b).2 (.inl hb)) hr.2
    · obtain ⟨css, Fe, h1, h2, h3, h4, h5⟩ := hF
      exact (h5 b).2 (.inl hb)
  exact S2.frzA hG hP
theorem Rep.within_mono {Q : Nat → Prop} {h : Hp} {F : Nat → Prop} {x : α} {cs : List Value} (H : (A.within P).K h F x cs) (hq : ∀ b, P b → Q b) : (A.within Q).K h F x cs := A.up H (fun _ hb _ => ⟨hb.1, hq _ hb.2⟩)
/-- What is laid in a part is told in the print's form. -/
theorem St.kdV (S : St w G l) (hB : Br A d f) (hk : (A.slice.within P).K G.heap G.dom xs [v]) (base : Nat) : Kd.V d e w base P v (xs.map f) := by
  have hk0 : A.slice.K G.heap (fun b => G.dom b ∧ P b) xs [v] := hk
  have hk' : A.slice.K (hp w) (fun b => G.dom b ∧ P b) xs [v] := A.slice.loc hk0 (fun b hb hn => by
    cases hg : G.heap b with
    | none => exact absurd hg hn
    | some o => exact S.ro b o hg)
  obtain ⟨a, c, rfl, h1, h2⟩ := Rep.slice_len hk'
  refine ⟨a, c, by simp, by simpa using h1, fun W' hW => ?_⟩
  refine hB.C (F := fun b => G.dom b ∧ P b) (n := xs.length) (c := c) (A.slice.loc hk' (fun b hb hn => ?_))
  exact hW b hb.2 (hp_some hn)
theorem kdV_nil (d : Kd β) (w : World) (base : Nat) (ok : Nat → Prop) : Kd.V d e w base ok (.slice none 0 0) [] :=
  ⟨none, 0, rfl, Nat.le_refl _, fun W' _ => Kd.C_nil d W'⟩
/-- An argument in the print's shared form, laid in a part. -/
theorem kdV_rd {g : β → α} {Q : β → Prop} (h : Rb d A g Q) {l : List β} {base : Nat} (H : Kd.V d e w base P v l) (hQ : ∀ x ∈ l, Q x) (hsz : 0 < d.sz) : (A.slice.within (fun _ => True)).K (Gh.of w).heap (Gh.of w).dom (l.map g) [v] := by
  obtain ⟨a, c, rfl, hc, hf⟩ := H
  have := h.rd (Kd.F_now hf) hc hQ
  rw [List.length_map] at this
  exact A.slice.up this (fun b _ hn => ⟨hn, trivial⟩)
/-- A row of one's own at the end, in the print's form. -/
theorem St.kdR (S : St w' G l) (hG : GhLe (Gh.of w0) G) (hp' : Pick l (Own r A e v xs) l') (hA : A.Flat) (hB : Br A d f) (hM : ∀ {w base ok x cs}, d.K w x cs → d.M w base ok x cs) : d.R e w' w0.heap.size (fun _ => True) v (xs.map f) := by
  obtain ⟨F, ⟨css, Fe, h1, h2, h3, h4, h5⟩, hd⟩ := S.get hp'
  have hbase : ∀ k, v.ownBlock = some k → w0.heap.size ≤ k := fun k hk => gh_new hG (hd k ((h5 k).2 (.inl hk)))
  refine ⟨fun _ _ => trivial, css.flatten, ?_, ?_⟩
  · have h6 := rowP_iff.1 h1
    rw [hB.sz] at h6
    refine ⟨by simpa using h6.1, ?_⟩
    rcases h6.2 with ⟨q1, q2⟩ | ⟨g, cap, cur, q1, q2, q3⟩
    · exact .inl ⟨q1, by simpa using q2⟩
    · refine .inr ⟨g, cap, cur, by simpa using q1, hbase g (by rw [q1]; rfl), by simpa using q3⟩
  · have hl : ∀ c ∈ css, c.length = A.sz := fun c hc => by
      obtain ⟨x, _, hx⟩ := h2.mem hc
      exact A.len hx
    refine ⟨by rw [flat_len hl, List.length_map, h2.length, hB.sz], fun j p hp => ?_⟩
    rw [List.getElem?_map] at hp
    cases hx : xs[j]? with
    | none => rw [hx] at hp; cases hp
    | some x =>
      rw [hx] at hp
      injection hp with hp
      subst hp
      obtain ⟨cs, hc, hk⟩ := h2.get hx
      have hcs : (css.flatten.drop (j * d.sz)).take d.sz = cs := by
        apply List.ext_getElem?
        intro i
        rw [List.getElem?_take, List.getElem?_drop, ← hB.sz]
        have hcl := A.len hk
        split
        · rename_i hi
          exact flat_at hl hc hi
        · rename_i hi
          rw [List.getElem?_eq_none (by omega)]
      rw [hcs]
      exact hM (hB.on (hA _ _ _ _ hk (Sl.hp w') (fun _ => True)))
end
end Go.Proofs.Ytpcapijakenjbaa.Sl
