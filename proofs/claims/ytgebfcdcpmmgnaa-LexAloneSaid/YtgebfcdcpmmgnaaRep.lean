/- How values lie in memory: representations, rows of a function's own, values that are handed on. -/
import Derived.Test.YtgebfcdcpmmgnaaSl
import Derived.Maps.AppendAt
set_option linter.unusedVariables false
set_option linter.unusedSimpArgs false
namespace Go.Proofs.Ytgebfcdcpmmgnaa.Sl
open Go.RowKit

theorem maxLen_eq : maxLen = 9223372036854775807 := rfl
def cellH (h : Hp) (a : Addr) : Option Value := match h a.block with | some (.cells c _ _) => if a.spot.isSome then none else c[a.off]? | _ => none
theorem cellH_hp (w : World) (a : Addr) : cellH (hp w) a = w.cell? a := rfl
theorem cellH_ne {h : Hp} {a : Addr} {v : Value} (e : cellH h a = some v) : h a.block ≠ none := by
  intro hn
  simp [cellH, hn] at e
theorem cellH_loc {h h' : Hp} {a : Addr} (k : h' a.block = h a.block) : cellH h' a = cellH h a := by unfold cellH; rw [k]

inductive All2 {α β : Type} (R : α → β → Prop) : List α → List β → Prop
  | nil : All2 R [] []
  | cons {x y xs ys} (h : R x y) (t : All2 R xs ys) : All2 R (x :: xs) (y :: ys)
section
variable {α β : Type} {R R' : α → β → Prop}
theorem All2.imp {xs : List α} {ys : List β} (h : All2 R xs ys) (k : ∀ x y, R x y → R' x y) : All2 R' xs ys := by
  induction h with
  | nil => exact .nil
  | cons h _ ih => exact .cons (k _ _ h) ih
theorem All2.length {xs : List α} {ys : List β} (h : All2 R xs ys) : xs.length = ys.length := by
  induction h with
  | nil => rfl
  | cons _ _ ih => simp [ih]
theorem All2.append {xs xs' : List α} {ys ys' : List β} (h : All2 R xs ys) (h' : All2 R xs' ys') : All2 R (xs ++ xs') (ys ++ ys') := by
  induction h with
  | nil => exact h'
  | cons h _ ih => exact .cons h ih
theorem All2.get {xs : List α} {ys : List β} (h : All2 R xs ys) {i : Nat} {x : α} (hx : xs[i]? = some x) : ∃ y, ys[i]? = some y ∧ R x y := by
  induction h generalizing i with
  | nil => simp at hx
  | cons h _ ih =>
    cases i with
    | zero => simp at hx; subst hx; exact ⟨_, rfl, h⟩
    | succ i => exact ih (by simpa using hx)
theorem All2.drop {xs : List α} {ys : List β} (h : All2 R xs ys) (k : Nat) : All2 R (xs.drop k) (ys.drop k) := by
  induction h generalizing k with
  | nil => simp; exact .nil
  | cons h t ih =>
    cases k with
    | zero => exact .cons h t
    | succ k => simpa using ih k
theorem All2.take {xs : List α} {ys : List β} (h : All2 R xs ys) (k : Nat) : All2 R (xs.take k) (ys.take k) := by
  induction h generalizing k with
  | nil => simp; exact .nil
  | cons h t ih =>
    cases k with
    | zero => simp; exact .nil
    | succ k => simpa using .cons h (ih k)
theorem All2.set {xs : List α} {ys : List β} (h : All2 R xs ys) (k : Nat) {x : α} {y : β} (hr : R x y) : All2 R (xs.set k x) (ys.set k y) := by
  induction h generalizing k with
  | nil => simp; exact .nil
  | cons h t ih =>
    cases k with
    | zero => exact .cons hr t
    | succ k => simpa using .cons h (ih k)
theorem All2.mem {xs : List α} {ys : List β} (h : All2 R xs ys) {y : β} (hy : y ∈ ys) : ∃ x, x ∈ xs ∧ R x y := by
  induction h with
  | nil => simp at hy
  | cons h t ih =>
    rcases List.mem_cons.1 hy with rfl | hy
    · exact ⟨_, List.mem_cons_self, h⟩
    · obtain ⟨x, h1, h2⟩ := ih hy
      exact ⟨x, List.mem_cons_of_mem _ h1, h2⟩
end

theorem flat_len {css : List (List Value)} {n : Nat} (h : ∀ c ∈ css, c.length = n) : css.flatten.length = css.length * n := by
  induction css with
  | nil => simp
  | cons c cs ih =>
    rw [List.flatten_cons, List.length_append, ih (fun x hx => h x (List.mem_cons_of_mem _ hx)), h c List.mem_cons_self, List.length_cons, Nat.add_mul]
    omega
theorem flat_at {css : List (List Value)} {n : Nat} (h : ∀ c ∈ css, c.length = n) {i : Nat} {c : List Value} (hc : css[i]? = some c) {j : Nat} (hj : j < n) : css.flatten[i * n + j]? = c[j]? := by
  induction css generalizing i with
  | nil => simp at hc
  | cons d cs ih =>
    have hd := h d List.mem_cons_self
    cases i with
    | zero =>
      simp at hc; subst hc
      rw [List.flatten_cons, Nat.zero_mul, Nat.zero_add, List.getElem?_append_left (by omega)]
    | succ i =>
      rw [List.flatten_cons, List.getElem?_append_right (by rw [hd, Nat.succ_mul]; omega)]
      rw [show (i + 1) * n + j - d.length = i * n + j by rw [hd, Nat.succ_mul]; omega]
      exact ih (fun x hx => h x (List.mem_cons_of_mem _ hx)) (by simpa using hc)

/-- How a value lies in cells; F: the blocks that may be read. -/
structure Rep (α : Type) where
  sz : Nat
  pos : 0 < sz
  K : Hp → (Nat → Prop) → α → List Value → Prop
  loc : ∀ {h h' F x cs}, K h F x cs → (∀ b, F b → h b ≠ none → h' b = h b) → K h' F x cs
  up : ∀ {h F F' x cs}, K h F x cs → (∀ b, F b → h b ≠ none → F' b) → K h F' x cs
  len : ∀ {h F x cs}, K h F x cs → cs.length = sz
  one : ∀ {h F x cs}, K h F x cs → ∀ v ∈ cs, v.oneCell' = true
/-- It reads no memory beyond its own cells. -/
def Rep.Flat {α : Type} (A : Rep α) : Prop := ∀ h F x cs, A.K h F x cs → ∀ h' F', A.K h' F' x cs
/-- It can be read now. -/
def Rd {α : Type} (A : Rep α) (w : World) (x : α) (cs : List Value) : Prop := ∃ F, A.K (hp w) F x cs

def IntKind.inR (k : IntKind) (n : Int) : Prop := k.min ≤ n ∧ n ≤ k.max
namespace Rep
def int (k : IntKind) : Rep Int where
  sz := 1
  pos := by decide
  K _ _ x cs := cs = [.int k x] ∧ IntKind.inR k x
  loc := fun h _ => h
  up := fun h _ => h
  len := by rintro _ _ _ _ ⟨rfl, _⟩; rfl
  one := by rintro _ _ _ _ ⟨rfl, _⟩ v hv; simp at hv; subst hv; rfl
def byte : Rep UInt8 where
  sz := 1
  pos := by decide
  K _ _ x cs := cs = [.int .u8 (x.toNat : Int)]
  loc := fun h _ => h
  up := fun h _ => h
  len := by rintro _ _ _ _ rfl; rfl
  one := by rintro _ _ _ _ rfl v hv; simp at hv; subst hv; rfl
def bool : Rep Bool where
  sz := 1
  pos := by decide
  K _ _ x cs := cs = [.bool x]
  loc := fun h _ => h
  up := fun h _ => h
  len := by rintro _ _ _ _ rfl; rfl
  one := by rintro _ _ _ _ rfl v hv; simp at hv; subst hv; rfl
def str : Rep ByteArray where
  sz := 1
  pos := by decide
  K _ _ x cs := cs = [.string x] ∧ x.size ≤ maxLen
  loc := fun h _ => h
  up := fun h _ => h
  len := by rintro _ _ _ _ ⟨rfl, _⟩; rfl
  one := by rintro _ _ _ _ ⟨rfl, _⟩ v hv; simp at hv; subst hv; rfl
theorem int_flat (k : IntKind) : (int k).Flat := fun _ _ _ _ h _ _ => h
theorem byte_flat : byte.Flat := fun _ _ _ _ h _ _ => h
theorem bool_flat : bool.Flat := fun _ _ _ _ h _ _ => h
theorem str_flat : str.Flat := fun _ _ _ _ h _ _ => h
variable {α β : Type}
def pair (A : Rep α) (B : Rep β) : Rep (α × β) where
  sz := A.sz + B.sz
  pos := by have := A.pos; omega
  K h F x cs := ∃ c d, cs = c ++ d ∧ A.K h F x.1 c ∧ B.K h F x.2 d
  loc := fun ⟨c, d, e, ha, hb⟩ k => ⟨c, d, e, A.loc ha k, B.loc hb k⟩
  up := fun ⟨c, d, e, ha, hb⟩ k => ⟨c, d, e, A.up ha k, B.up hb k⟩
  len := by rintro _ _ _ _ ⟨c, d, rfl, ha, hb⟩; rw [List.length_append, A.len ha, B.len hb]
  one := by
    rintro _ _ _ _ ⟨c, d, rfl, ha, hb⟩ v hv
    rcases List.mem_append.1 hv with h | h
    · exact A.one ha v h
    · exact B.one hb v h
theorem pair_flat {A : Rep α} {B : Rep β} (ha : A.Flat) (hb : B.Flat) : (pair A B).Flat := fun _ _ _ _ ⟨c, d, e, h1, h2⟩ _ _ => ⟨c, d, e, ha _ _ _ _ h1 _ _, hb _ _ _ _ h2 _ _⟩
def iso (A : Rep α) (f : β → α) : Rep β where
  sz := A.sz
  pos := A.pos
  K h F x cs := A.K h F (f x) cs
  loc := A.loc
  up := A.up
  len := A.len
  one := A.one
theorem iso_flat {A : Rep α} {f : β → α} (ha : A.Flat) : (iso A f).Flat := fun _ _ _ _ h _ _ => ha _ _ _ _ h _ _
/-- The elements that lie from a place on. -/
def SlK (A : Rep α) (h : Hp) (F : Nat → Prop) (a : Option Addr) (xs : List α) : Prop :=
  xs ≠ [] → ∃ ad css, a = some ad ∧ F ad.block ∧ All2 (A.K h F) xs css ∧ ∀ j v, css.flatten[j]? = some v → cellH h (ad.add j) = some v
theorem SlK.loc {A : Rep α} {h h' : Hp} {F : Nat → Prop} {a : Option Addr} {xs : List α} (H : SlK A h F a xs) (k : ∀ b, F b → h b ≠ none → h' b = h b) : SlK A h' F a xs := fun hn => by
  obtain ⟨ad, css, e, hF, h2, h3⟩ := H hn
  refine ⟨ad, css, e, hF, h2.imp (fun _ _ q => A.loc q k), fun j v hv => ?_⟩
  have h4 := h3 j v hv
  have hbk : (ad.add j).block = ad.block := by unfold Addr.add; split <;> rfl
  have h5 := cellH_ne h4
  rw [hbk] at h5
  rw [cellH_loc (h := h) (by rw [hbk]; exact k _ hF h5)]
  exact h4
theorem add_block (ad : Addr) (j : Nat) : (ad.add j).block = ad.block := by unfold Addr.add; split <;> rfl
theorem SlK.up {A : Rep α} {h : Hp} {F F' : Nat → Prop} {a : Option Addr} {xs : List α} (H : SlK A h F a xs) (k : ∀ b, F b → h b ≠ none → F' b) : SlK A h F' a xs := fun hn => by
  obtain ⟨ad, css, e, hF, h2, h3⟩ := H hn
  refine ⟨ad, css, e, k _ hF ?_, h2.imp (fun _ _ q => A.up q k), h3⟩
  cases h2 with
  | nil => exact absurd rfl hn
  | @cons _ y _ ys hx _ =>
    have hl := A.len hx
    have hp := A.pos
    have h0 : (List.flatten (y :: ys))[0]? = some (y[0]'(by omega)) := by
      rw [List.flatten_cons, List.getElem?_append_left (by omega), List.getElem?_eq_getElem (by omega)]
    have h4 := cellH_ne (h3 0 _ h0)
    rwa [add_block] at h4
def slice (A : Rep α) : Rep (List α) where
  sz := 1
  pos := by decide
  K h F xs cs := ∃ a c, cs = [.slice a xs.length c] ∧ xs.length ≤ c ∧ xs.length ≤ maxLen ∧ SlK A h F a xs
  loc := fun ⟨a, c, e, h1, h2, h3⟩ k => ⟨a, c, e, h1, h2, h3.loc k⟩
  up := fun ⟨a, c, e, h1, h2, h3⟩ k => ⟨a, c, e, h1, h2, h3.up k⟩
  len := by rintro _ _ _ _ ⟨a, c, rfl, _⟩; rfl
  one := by rintro _ _ _ _ ⟨a, c, rfl, _⟩ v hv; simp at hv; subst hv; rfl
theorem slice_nil (A : Rep α) (h : Hp) (F : Nat → Prop) : (slice A).K h F [] [.slice none 0 0] := ⟨none, 0, rfl, Nat.le_refl _, Nat.zero_le _, fun h => absurd rfl h⟩
theorem add_add' (ad : Addr) (m j : Nat) : (ad.add m).add j = ad.add (m + j) := by
  unfold Addr.add
  by_cases hm : m = 0
  · subst hm; simp
  · by_cases hj : j = 0
    · subst hj; simp
    · simp [hm, hj, Nat.add_assoc]
/-- Element i. -/
theorem SlK.at_ {A : Rep α} {h : Hp} {F : Nat → Prop} {a : Option Addr} {xs : List α} (H : SlK A h F a xs) {i : Nat} {x : α} (hx : xs[i]? = some x) :
    ∃ ad cs, a = some ad ∧ A.K h F x cs ∧ ∀ j v, cs[j]? = some v → cellH h (ad.add (i * A.sz + j)) = some v := by
  obtain ⟨ad, css, e, hF, h2, h3⟩ := H (by intro hn; subst hn; simp at hx)
  obtain ⟨cs, hc, hk⟩ := h2.get hx
  have hl : ∀ c ∈ css, c.length = A.sz := fun c hc => by
    obtain ⟨x, _, hx⟩ := h2.mem hc
    exact A.len hx
  refine ⟨ad, cs, e, hk, fun j v hv => h3 _ _ ?_⟩
  rw [flat_at hl hc (by have := (List.getElem?_eq_some_iff.1 hv).1; rw [A.len hk] at this; exact this)]
  exact hv
theorem bytes_at {h : Hp} {F : Nat → Prop} {a : Option Addr} {xs : List UInt8} (H : SlK byte h F a xs) {i : Nat} {x : UInt8} (hx : xs[i]? = some x) : ∃ ad, a = some ad ∧ cellH h (ad.add i) = some (.int .u8 (x.toNat : Int)) := by
  obtain ⟨ad, cs, e, hk, hc⟩ := H.at_ hx
  have hk' : cs = [.int .u8 (x.toNat : Int)] := hk
  subst hk'
  exact ⟨ad, e, by have := hc 0 _ rfl; simpa [byte] using this⟩
theorem SlK.drop {A : Rep α} {h : Hp} {F : Nat → Prop} {a : Option Addr} {xs : List α} (H : SlK A h F a xs) (k : Nat) : SlK A h F (a.map (·.add (k * A.sz))) (xs.drop k) := fun hn => by
  obtain ⟨ad, css, rfl, hF, h2, h3⟩ := H (by intro h0; subst h0; simp at hn)
  have hl : ∀ c ∈ css, c.length = A.sz := fun c hc => by
    obtain ⟨x, _, hx⟩ := h2.mem hc
    exact A.len hx
  refine ⟨_, css.drop k, rfl, by rw [add_block]; exact hF, h2.drop k, fun j v hv => ?_⟩
  rw [add_add']
  apply h3
  have hfl : (css.drop k).flatten = css.flatten.drop (k * A.sz) := by
    have : css.flatten = (css.take k).flatten ++ (css.drop k).flatten := by rw [← List.flatten_append, List.take_append_drop]
    have hk : k ≤ css.length := by
      rcases Nat.lt_or_ge css.length k with h' | h'
      · rw [List.drop_eq_nil_of_le (by rw [h2.length]; omega)] at hn; exact absurd rfl hn
      · exact h'
    rw [this, List.drop_left' (by rw [flat_len (n := A.sz) (fun c hc => hl c (List.mem_of_mem_take hc)), List.length_take, Nat.min_eq_left hk])]
  rw [hfl, List.getElem?_drop] at hv
  exact hv
theorem SlK.take {A : Rep α} {h : Hp} {F : Nat → Prop} {a : Option Addr} {xs : List α} (H : SlK A h F a xs) (k : Nat) : SlK A h F a (xs.take k) := fun hn => by
  obtain ⟨ad, css, rfl, hF, h2, h3⟩ := H (by intro h0; subst h0; simp at hn)
  refine ⟨_, css.take k, rfl, hF, h2.take k, fun j v hv => h3 j v ?_⟩
  have : css.flatten = (css.take k).flatten ++ (css.drop k).flatten := by rw [← List.flatten_append, List.take_append_drop]
  rw [this, List.getElem?_append_left (List.getElem?_eq_some_iff.1 hv).1]
  exact hv
/-- A slice expression's value. -/
theorem slice_sub {A : Rep α} {h : Hp} {F : Nat → Prop} {a : Option Addr} {n c : Nat} {xs : List α} (H : (slice A).K h F xs [.slice a n c]) (l m : Nat) (mx : Nat) (h1 : l ≤ m) (h2 : m ≤ xs.length) (h3 : m ≤ mx) (h4 : mx ≤ c) :
    (slice A).K h F ((xs.take m).drop l) [sliced a l m mx A.sz] := by
  obtain ⟨a', c', e, h5, h6, h7⟩ := H
  injection e with e _
  injection e with e1 e2 e3
  subst e1; subst e3
  have hl : ((xs.take m).drop l).length = m - l := by simp [List.length_drop, List.length_take]; omega
  refine ⟨_, _, by unfold sliced; rw [hl], by rw [hl]; omega, by omega, ?_⟩
  split
  · intro hn
    exact absurd (List.eq_nil_of_length_eq_zero (by rw [hl]; omega)) hn
  · exact (h7.take m).drop l
theorem add_zero' (ad : Addr) : ad.add 0 = ad := by simp [Addr.add]
theorem bytes_drop {h : Hp} {F : Nat → Prop} {a : Option Addr} {n c : Nat} {xs : List UInt8} (H : byte.slice.K h F xs [.slice a xs.length c]) (hn : n ≤ xs.length) (hc : xs.length ≤ c) :
    byte.slice.K h F (xs.drop n) [.slice (if c = n then a else a.map (·.add n)) (xs.length - n) (c - n)] := by
  have := slice_sub H n xs.length c hn (Nat.le_refl _) hc (Nat.le_refl _)
  rw [List.take_length] at this
  simpa [sliced, byte] using this
theorem bytes_take {h : Hp} {F : Nat → Prop} {a : Option Addr} {n c : Nat} {xs : List UInt8} (H : byte.slice.K h F xs [.slice a xs.length c]) (hn : n ≤ xs.length) (hc : xs.length ≤ c) :
    byte.slice.K h F (xs.take n) [.slice a n n] := by
  have := slice_sub H 0 n n (Nat.zero_le _) hn (Nat.le_refl _) (by omega)
  rw [List.drop_zero] at this
  cases a with
  | none => simpa [sliced] using this
  | some ad => simpa [sliced, add_zero'] using this
theorem slice_len {A : Rep α} {h : Hp} {F : Nat → Prop} {v : Value} {xs : List α} (H : (slice A).K h F xs [v]) : ∃ a c, v = .slice a xs.length c ∧ xs.length ≤ c ∧ xs.length ≤ maxLen := by
  obtain ⟨a, c, e, h1, h2, _⟩ := H
  injection e with e _
  exact ⟨a, c, e, h1, h2⟩
theorem slice_pre {A : Rep α} {h : Hp} {F : Nat → Prop} {a : Option Addr} {n c : Nat} {xs : List α} (H : (slice A).K h F xs [.slice a n c]) (m : Nat) (hm : m ≤ xs.length) : (slice A).K h F (xs.take m) [.slice a m c] := by
  obtain ⟨a', c', e, h5, h6, h7⟩ := H
  injection e with e _
  injection e with e1 e2 e3
  subst e1; subst e3
  have hl : (xs.take m).length = m := by simp; omega
  exact ⟨_, _, by rw [hl], by omega, by omega, h7.take m⟩
theorem slice_sl {A : Rep α} {h : Hp} {F : Nat → Prop} {a : Option Addr} {n c : Nat} {xs : List α} (H : (slice A).K h F xs [.slice a n c]) : SlK A h F a xs := by
  obtain ⟨a', c', e, h5, h6, h7⟩ := H
  injection e with e _
  injection e with e1 e2 e3
  subst e1
  exact h7
end Rep

/-! ### A row of a function's own; a value that it owns (r: what the ghost heap holds may be read, too) -/
def RowP (h : Hp) (e : TypeId) (sz : Nat) (v : Value) (n : Nat) (xs : List Value) : Prop :=
  xs.length = n * sz ∧ ((v = .slice none 0 0 ∧ n = 0) ∨
   ∃ g cap cur, v = .slice (some ⟨g, 0, none⟩) n cap ∧ h g = some (.cells cur e (0, 0)) ∧ n ≤ cap ∧ cap ≤ maxLen ∧ cur.size = cap * sz ∧ cur.toList.take (n * sz) = xs)
theorem rowP_iff {w : World} {e : TypeId} {sz : Nat} {v : Value} {n : Nat} {xs : List Value} : RowP (hp w) e sz v n xs ↔ w.ownsRow 0 e sz v n xs := by
  unfold RowP World.ownsRow hp
  simp only [Nat.zero_le, true_and]
theorem RowP.block {h : Hp} {e : TypeId} {sz : Nat} {v : Value} {n : Nat} {xs : List Value} (H : RowP h e sz v n xs) {b : Nat} (hb : v.ownBlock = some b) : h b ≠ none := by
  rcases H.2 with ⟨rfl, _⟩ | ⟨g, cap, cur, rfl, hg, _⟩
  · simp [Value.ownBlock] at hb
  · simp [Value.ownBlock] at hb
    subst hb
    rw [hg]; simp
theorem RowP.loc {h h' : Hp} {e : TypeId} {sz : Nat} {v : Value} {n : Nat} {xs : List Value} (H : RowP h e sz v n xs) (k : ∀ b, v.ownBlock = some b → h' b = h b) : RowP h' e sz v n xs := by
  refine ⟨H.1, ?_⟩
  rcases H.2 with h | ⟨g, cap, cur, rfl, hg, r⟩
  · exact .inl h
  · exact .inr ⟨g, cap, cur, rfl, by rw [k g (by simp [Value.ownBlock])]; exact hg, r⟩
def rdom (r : Bool) (G : Gh) (F : Nat → Prop) : Nat → Prop := fun b => F b ∨ (r = true ∧ G.dom b)
theorem Gh.dom_le {G G' : Gh} (h : G.le G') {b : Nat} (hb : G.dom b) : G'.dom b := by
  unfold Gh.dom at *
  cases hg : G.heap b with
  | none => exact absurd hg hb
  | some o => rw [h b o hg]; simp
section
variable {α : Type}
def Own (r : Bool) (A : Rep α) (e : TypeId) (v : Value) (xs : List α) : As where
  p G h F := ∃ css Fe, RowP h e A.sz v xs.length css.flatten ∧ All2 (A.K h (rdom r G Fe)) xs css ∧ (∀ b, Fe b → h b ≠ none) ∧ (∀ b, v.ownBlock = some b → ¬ rdom r G Fe b) ∧ ∀ b, F b ↔ (v.ownBlock = some b ∨ Fe b)
  loc := by
    rintro G h h' F ⟨css, Fe, h1, h2, h3, h4, h5⟩ k
    refine ⟨css, Fe, h1.loc (fun b hb => k b (.inl ((h5 b).2 (.inl hb))) (h1.block hb)), ?_, ?_, h4, h5⟩
    · exact h2.imp (fun _ _ q => A.loc q (fun b hb hn => k b (hb.imp (fun x => (h5 b).2 (.inr x)) (fun x => x.2)) hn))
    · intro b hb
      rw [k b (.inl ((h5 b).2 (.inr hb))) (h3 b hb)]
      exact h3 b hb
  mono := by
    rintro G G' h F ⟨css, Fe, h1, h2, h3, h4, h5⟩ k q
    refine ⟨css, Fe, h1, h2.imp (fun _ _ q => A.up q (fun b hb _ => hb.imp id (fun x => ⟨x.1, Gh.dom_le k x.2⟩))), h3, fun b hb hr => ?_, h5⟩
    rcases hr with hr | hr
    · exact h4 b hb (.inl hr)
    · exact q b ((h5 b).2 (.inl hb)) hr.2
  dom := fun ⟨css, Fe, h1, h2, h3, h4, h5⟩ b hb => ((h5 b).1 hb).elim (fun x => h1.block x) (h3 b)
def Val (r : Bool) (A : Rep α) (cs : List Value) (x : α) : As where
  p G h F := A.K h (rdom r G F) x cs ∧ ∀ b, F b → h b ≠ none
  loc := fun ⟨h1, h2⟩ k => ⟨A.loc h1 (fun b hb hn => k b (hb.imp id (fun x => x.2)) hn), fun b hb => by rw [k b (.inl hb) (h2 b hb)]; exact h2 b hb⟩
  mono := fun ⟨h1, h2⟩ k _ => ⟨A.up h1 (fun b hb _ => hb.imp id (fun x => ⟨x.1, Gh.dom_le k x.2⟩)), h2⟩
  dom := fun h => h.2
variable {w w' : World} {G : Gh} {l l' : List As} {r : Bool} {A : Rep α} {e : TypeId} {v : Value} {xs : List α} {x : α} {cs : List Value}
theorem own_val_p {F : Nat → Prop} {h : Hp} (H : (Own r A e v xs).p G h F) : (Val r A.slice [v] xs).p G h F := by
  obtain ⟨css, Fe, h1, h2, h3, h4, h5⟩ := H
  refine ⟨?_, fun b hb => ((h5 b).1 hb).elim (fun x => h1.block x) (h3 b)⟩
  rcases h1.2 with ⟨rfl, hn⟩ | ⟨g, cap, cur, rfl, hg, hnc, hcm, hcs, ht⟩
  · obtain rfl : xs = [] := List.eq_nil_of_length_eq_zero hn
    exact Rep.slice_nil _ _ _
  · refine ⟨_, cap, rfl, hnc, Nat.le_trans hnc hcm, fun _ => ⟨⟨g, 0, none⟩, css, rfl, .inl ((h5 g).2 (.inl rfl)), h2.imp (fun _ _ q => A.up q (fun b hb _ => hb.imp (fun x => (h5 b).2 (.inr x)) id)), fun j u hu => ?_⟩⟩
    have ha : (⟨g, 0, none⟩ : Addr).add j = ⟨g, j, none⟩ := by unfold Addr.add; split <;> simp_all
    rw [ha]
    unfold cellH
    rw [hg]
    simp only
    rw [← ht, List.getElem?_take] at hu
    split at hu
    · simpa using hu
    · cases hu
theorem St.asVal (S : St w G (Own r A e v xs :: l)) : St w G (Val r A.slice [v] xs :: l) := by
  refine S.step rfl rfl rfl (fun F hF _ => ⟨fun _ _ _ => rfl, F, own_val_p hF, fun b hb => .inl hb⟩)
/-- The nil row. -/
theorem St.ownNil (S : St w G l) : St w G (Own r A e (.slice none 0 0) [] :: l) := by
  refine S.new rfl rfl rfl (fun _ _ => rfl) ⟨fun _ => False, ⟨[], fun _ => False, ⟨by simp, .inl ⟨rfl, rfl⟩⟩, .nil, fun b hb => hb.elim, fun b hb => by simp [Value.ownBlock] at hb, fun b => by simp [Value.ownBlock]⟩, fun b hb => hb.elim⟩
theorem St.rdVal (S : St w G l) (h : Pick l (Val r A cs x) l') : Rd A w x cs := by
  obtain ⟨F, hF, _⟩ := S.get h
  exact ⟨_, hF.1⟩
theorem St.rdOwn (S : St w G l) (h : Pick l (Own r A e v xs) l') : Rd A.slice w xs [v] := by
  obtain ⟨F, hF, _⟩ := S.get h
  exact ⟨_, (own_val_p hF).1⟩
theorem St.lenOwn (S : St w G l) (h : Pick l (Own r A e v xs) l') : ∃ a c, v = .slice a xs.length c ∧ xs.length ≤ c ∧ xs.length ≤ maxLen := by
  obtain ⟨F, hF⟩ := S.rdOwn h
  exact Rep.slice_len hF
/-- What the ghost heap lets read can be read now. -/
theorem St.rd (S : St w G l) (h : A.K G.heap G.dom x cs) : Rd A w x cs := by
  refine ⟨G.dom, A.loc h (fun b hb hn => ?_)⟩
  unfold Gh.dom at hb
  cases hg : G.heap b with
  | none => exact absurd hg hb
  | some o => exact S.ro b o hg
theorem St.rdK (S : St w G l) (h : A.K G.heap G.dom x cs) : A.K (hp w) G.dom x cs := by
  refine A.loc h (fun b hb hn => ?_)
  unfold Gh.dom at hb
  cases hg : G.heap b with
  | none => exact absurd hg hb
  | some o => exact S.ro b o hg
theorem St.roCell {ad : Addr} {v : Value} (S : St w G l) (h : cellH G.heap ad = some v) : w.cell? ad = some v := by
  rw [← cellH_hp]
  have hn := cellH_ne h
  cases hg : G.heap ad.block with
  | none => exact absurd hg hn
  | some o =>
    rw [cellH_loc (h := G.heap) (by rw [hg]; exact S.ro _ o hg)]
    exact h
theorem Rd.start (h : Rd A w x cs) : A.K (Gh.of w).heap (Gh.of w).dom x cs := by
  obtain ⟨F, h⟩ := h
  exact A.up h (fun b _ hn => hn)
/-- All that was there is as it was. -/
theorem St.below {w0 : World} (S : St w (Gh.of w0) l) : Below w0.heap.size w0 w := by
  have hro : ∀ k, k < w0.heap.size → w.heap[k]? = w0.heap[k]? := fun k hk => by
    have h1 : w0.heap[k]? = some w0.heap[k] := Array.getElem?_eq_getElem hk
    rw [h1]
    exact S.ro k _ h1
  refine ⟨S.os, S.tape, S.output, ?_, hro⟩
  rcases Nat.lt_or_ge w.heap.size w0.heap.size with h | h
  · have h1 := hro _ h
    have h2 : w.heap[w.heap.size]? = none := Array.getElem?_eq_none (Nat.le_refl _)
    rw [h2] at h1
    have : w0.heap[w.heap.size]? = some (w0.heap[w.heap.size]) := Array.getElem?_eq_getElem h
    rw [this] at h1
    cases h1
  · exact h
/-- Behind a call that only made memory. -/
theorem St.kept (S : St w G l) (hb : Below w.heap.size w w') : St w' G l :=
  S.same hb.os hb.tape hb.output (fun b hn => hb.block b (hp_some hn))
def newer (w : World) : Nat → Prop := fun b => w.heap.size ≤ b
theorem St.called (S : St w G l) (hb : Below w.heap.size w w') (hk : A.K (hp w') (newer w) x cs) : St w' G (Val false A cs x :: l) := by
  refine S.new hb.os hb.tape hb.output (fun b hn => hb.block b (hp_some hn)) ⟨fun b => newer w b ∧ hp w' b ≠ none, ⟨A.up hk (fun b h1 h2 => .inl ⟨h1, h2⟩), fun b h => h.2⟩, fun b hb => ?_⟩
  unfold hp
  exact Array.getElem?_eq_none hb.1
/-- The same where what comes back may share what the ghost heap lets read. -/
theorem St.calledR (S : St w G l) (hb : Below w.heap.size w w') (hk : A.K (hp w') (fun b => newer w b ∨ G.dom b) x cs) : St w' G (Val true A cs x :: l) := by
  refine S.new hb.os hb.tape hb.output (fun b hn => hb.block b (hp_some hn)) ⟨fun b => newer w b ∧ hp w' b ≠ none, ⟨A.up hk (fun b h1 h2 => h1.elim (fun x => .inl ⟨x, h2⟩) (fun x => .inr ⟨rfl, x⟩)), fun b h => h.2⟩, fun b hb => ?_⟩
  unfold hp
  exact Array.getElem?_eq_none hb.1
/-- What a function hands back that made it anew. -/
theorem St.news {w0 : World} (S : St w (Gh.of w0) l) (h : Pick l (Val false A cs x) l') : A.K (hp w) (newer w0) x cs := by
  obtain ⟨F, ⟨hF, _⟩, hd⟩ := S.get h
  refine A.up hF (fun b hb hn => ?_)
  rcases hb with hb | hb
  · have h0 := hd b hb
    unfold newer
    rcases Nat.lt_or_ge b w0.heap.size with h | h
    · exact absurd (by unfold Gh.dom Gh.of hp; simp [h]) h0
    · exact h
  · cases hb.1
end
/-! ### Bytes -/
def bv (x : UInt8) : Value := .int .u8 (x.toNat : Int)
theorem flatten_singles (xs : List Value) : (xs.map fun x => [x]).flatten = xs := by induction xs <;> simp_all
theorem bytes_all2 (h : Hp) (F : Nat → Prop) (xs : List UInt8) : All2 (Rep.byte.K h F) xs ((xs.map bv).map fun x => [x]) := by
  induction xs with
  | nil => exact .nil
  | cons x xs ih => exact .cons rfl ih
section
variable {α : Type} {w w' : World} {G : Gh} {l l' : List As} {r : Bool} {A : Rep α} {e : TypeId} {xs : List α} {cs : List Value}
/-- A block that was just made is a row of one's own. -/
theorem St.asOwn {g n c : Nat} (S : St w G (Cs g cs e :: l)) {css : List (List Value)} (hA : ∀ F, All2 (A.K (hp w) F) xs css) (hcs : css.flatten = cs.take (n * A.sz)) (hn : n = xs.length) (hnc : n ≤ c) (hl : cs.length = c * A.sz) (hc : c ≤ maxLen) :
    St w G (Own r A e (.slice (some ⟨g, 0, none⟩) n c) xs :: l) := by
  subst hn
  have hl1 : ∀ q ∈ css, q.length = A.sz := fun q hq => by
    obtain ⟨x, _, hx⟩ := (hA (fun _ => False)).mem hq
    exact A.len hx
  refine S.step rfl rfl rfl (fun F hF hd => ⟨fun _ _ _ => rfl, F, ?_, fun b hb => .inl hb⟩)
  obtain ⟨a, f⟩ := hF
  refine ⟨css, fun _ => False, ⟨by rw [flat_len hl1, (hA (fun _ => False)).length], .inr ⟨g, c, cs.toArray, rfl, a, hnc, hc, by simpa using hl, by rw [hcs]⟩⟩, hA _, fun b hb => hb.elim, fun b hb hr => ?_, fun b => ?_⟩
  · simp [Value.ownBlock] at hb
    subst hb
    rcases hr with hr | hr
    · exact hr
    · exact hd _ ((f _).2 rfl) hr.2
  · rw [f b]
    simp [Value.ownBlock]
    exact ⟨fun h => h.symm, fun h => h.symm⟩
theorem St.asBytes {g : Nat} {xs : List UInt8} (S : St w G (Cs g (xs.map bv) e :: l)) (hc : xs.length ≤ maxLen) : St w G (Own r Rep.byte e (.slice (some ⟨g, 0, none⟩) xs.length xs.length) xs :: l) :=
  S.asOwn (css := (xs.map bv).map fun x => [x]) (fun F => bytes_all2 _ _ _) (by rw [flatten_singles, List.take_of_length_le (by simp [Rep.byte])]) rfl (Nat.le_refl _) (by simp [Rep.byte]) hc
/-- A literal of bytes is read. -/
theorem St.rdLit {g : Nat} {xs : List UInt8} (S : St w G l) (h : Pick l (Cs g cs e) l') (hc : cs = xs.map bv) {n : Nat} (hn : n = xs.length) (hm : n ≤ maxLen) : Rd Rep.byte.slice w xs [.slice (some ⟨g, 0, none⟩) n n] := by
  subst hc; subst hn
  refine ⟨fun _ => True, _, _, rfl, Nat.le_refl _, hm, fun _ => ⟨⟨g, 0, none⟩, (xs.map bv).map fun x => [x], rfl, trivial, bytes_all2 _ _ _, fun j v hv => ?_⟩⟩
  rw [flatten_singles] at hv
  have ha : (⟨g, 0, none⟩ : Addr).add j = ⟨g, j, none⟩ := by unfold Addr.add; split <;> simp_all
  rw [ha]
  exact S.cell j h hv
/-- A row of bytes, its block laid open; and shut again. -/
theorem all2_bytes {h : Hp} {F : Nat → Prop} : ∀ {xs : List UInt8} {css : List (List Value)}, All2 (Rep.byte.K h F) xs css → css.flatten = xs.map bv
  | _, _, .nil => rfl
  | _, _, .cons hx t => by
    have hx' : _ = [_] := hx
    rw [List.flatten_cons, hx', all2_bytes t]
    rfl
theorem St.openBytes {xs : List UInt8} {a : Option Addr} {n c : Nat} (S : St w G (Own r Rep.byte e (.slice a n c) xs :: l)) (hne : xs ≠ []) :
    ∃ g rest, a = some ⟨g, 0, none⟩ ∧ c = xs.length + rest.length ∧ c ≤ maxLen ∧ St w G (Cs g (xs.map bv ++ rest) e :: l) := by
  obtain ⟨F, H, hd⟩ := S.get Pick.here
  obtain ⟨css, Fe, h1, h2, h3, h4, h5⟩ := H
  have hf := all2_bytes h2
  rcases h1.2 with ⟨_, hn⟩ | ⟨g, cap, cur, hv, hg, hnc, hcm, hcs, ht⟩
  · exact absurd (List.eq_nil_of_length_eq_zero hn) hne
  injection hv with ha _ hc
  subst ha; subst hc
  rw [hf] at ht
  have hsz : Rep.byte.sz = 1 := rfl
  rw [hsz, Nat.mul_one] at ht hcs
  have hcur : cur.toList = xs.map bv ++ cur.toList.drop xs.length := by
    conv => lhs; rw [← List.take_append_drop xs.length cur.toList]
    rw [ht]
  have hcl : cur.toList.length = c := by simpa using hcs
  refine ⟨g, cur.toList.drop xs.length, rfl, by rw [List.length_drop, hcl]; omega, hcm, ?_⟩
  refine S.step rfl rfl rfl (fun F1 H1 hd1 => ⟨fun _ _ _ => rfl, fun b => b = g, ⟨?_, fun _ => Iff.rfl⟩, fun b hb => ?_⟩)
  · rw [← hcur, Array.toArray_toList]; exact hg
  · obtain ⟨_, _, _, _, _, _, k⟩ := H1
    left
    subst hb
    exact (k _).2 (.inl rfl)
theorem St.closeBytes {xs : List UInt8} {g c : Nat} {rest : List Value} (S : St w G (Cs g (xs.map bv ++ rest) e :: l)) (hc : c = xs.length + rest.length) (hm : c ≤ maxLen) :
    St w G (Own r Rep.byte e (.slice (some ⟨g, 0, none⟩) xs.length c) xs :: l) :=
  S.asOwn (css := (xs.map bv).map fun x => [x]) (fun F => bytes_all2 _ _ _) (by rw [flatten_singles, show Rep.byte.sz = 1 from rfl, Nat.mul_one, List.take_left' (by simp)]) rfl (by omega) (by simp [Rep.byte]; omega) hm
end
end Go.Proofs.Ytgebfcdcpmmgnaa.Sl
