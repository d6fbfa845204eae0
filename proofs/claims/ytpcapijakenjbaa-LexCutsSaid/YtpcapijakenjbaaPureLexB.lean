/- lex: the reference's tokens, one by one; its cut. -/
import Derived.Test.YtpcapijakenjbaaPureLexA
set_option linter.unusedVariables false
set_option linter.unusedSimpArgs false
namespace Go.Proofs.Ytpcapijakenjbaa.Pure
open Go.RowKit Go.Proofs.Ytpcapijakenjbaa.GLex Go.Proofs.YtpcapijakenjbaaW.PrintWords Go.Proofs.YtpcapijakenjbaaW.PrintLast Go.Proofs.Ytpcapijakenjbaa.Sl Go.Proofs.Ytpcapijakenjbaa.Lex
abbrev R6 := Int × Int × Int × List Int × Int × Int
def wfin (s : List UInt8) (p E : Nat) : R6 := if 20 < E - p then (0, 0, 0, [], (E : Int), (p : Int)) else (1, (p : Int), 0, nb ((s.take E).drop p), (E : Int), -1)
theorem word_ev (s : List UInt8) (hs : s.length ≤ 1000000) (p : Nat) : ∀ (d q : Nat), s.length - q = d → p ≤ q → q ≤ s.length → Ev (fun k => davitref11_One.l0 k (nb s) (p : Int) (q : Int)) (wfin s p (q + spanV wordB s q)) := by
  intro d
  have hfin : ∀ q : Nat, p ≤ q → q ≤ s.length → (if (wrap64 ((q : Int) - (p : Int))) > 20 then (some ((0, 0, 0, ([] : List Int), (q : Int), (p : Int)) : R6)) else (if 0 ≤ (p : Int) then (if (p : Int) ≤ (q : Int) then (if (q : Int) ≤ ((nb s).length : Int) then (some ((1, (p : Int), 0, (((nb s).take ((q : Int) : Int).toNat).drop ((p : Int) : Int).toNat), (q : Int), (-1)) : R6)) else none) else none) else none)) = some (wfin s p q) := fun q h1 h2 => by
    unfold wfin
    rw [wrap_in (by omega) (by omega)]
    by_cases h : 20 < q - p
    · rw [if_pos (by omega), if_pos h]
    · rw [if_neg (by omega), if_neg h, if_pos (by omega), if_pos (by omega), if_pos (by simp; omega)]
      simp only [Int.toNat_natCast, nb_take, nb_drop]
  induction d with
  | zero =>
    intro q hd hpq hq
    obtain rfl : q = s.length := by omega
    have hm : moreV wordB s s.length = false := by unfold moreV; rw [List.getElem?_eq_none (Nat.le_refl _)]
    rw [spanV_stop _ _ _ hm, Nat.add_zero]
    refine Ev.step (f := fun _ => some (wfin s p s.length)) (fun k => by simp only [davitref11_One.l0]; rw [if_neg (by simp)]; exact hfin _ hpq hq) (Ev.now _)
  | succ d ih =>
    intro q hd hpq hq
    obtain ⟨c, hc⟩ := at_get (s := s) (i := q) (by omega)
    cases hw : wordB c with
    | true =>
      rw [spanV_step _ _ _ (by unfold moreV; rw [hc]; exact hw), show q + (spanV wordB s (q + 1) + 1) = (q + 1) + spanV wordB s (q + 1) by omega]
      refine Ev.step (f := fun k => davitref11_One.l0 k (nb s) (p : Int) ((q + 1 : Nat) : Int)) (fun k => by
        simp only [davitref11_One.l0]
        rw [if_pos (by simp; omega), if_pos (by omega), rd_nb hc, within_eq, hw, show wrap64 ((q : Int) + 1) = ((q + 1 : Nat) : Int) by rw [wrap_in (by omega) (by omega)]; omega]
        rfl) (ih (q + 1) (by omega) (by omega) (by omega))
    | false =>
      rw [spanV_stop _ _ _ (by unfold moreV; rw [hc]; exact hw), Nat.add_zero]
      refine Ev.step (f := fun _ => some (wfin s p q)) (fun k => by
        simp only [davitref11_One.l0]
        rw [if_pos (by simp; omega), if_pos (by omega), rd_nb hc, within_eq, hw]
        exact hfin _ hpq hq) (Ev.now _)
theorem dstep (n x : Nat) (hn : n < 100000) (h1 : 48 ≤ x) (h2 : x ≤ 57) : wrap64 (wrap64 (wrap64 (10 * (n : Int)) + wrap64 (x : Int)) - 48) = ((10 * n + (x - 48) : Nat) : Int) := by
  rw [wrap_in (x := 10 * (n : Int)) (by omega) (by omega), wrap_in (x := (x : Int)) (by omega) (by omega), wrap_in (x := 10 * (n : Int) + (x : Int)) (by omega) (by omega), wrap_in (by omega) (by omega)]
  omega
def numA (n : Nat) (d : List UInt8) : Nat := d.foldl (fun n c => if n < 100000 then 10 * n + (c.toNat - 48) else n) n
def nfin (p E : Nat) (c : UInt8) (n : Nat) : R6 := if E = p ∨ 4 < E - p ∨ (1 < E - p ∧ c.toNat = 48) then (0, 0, 0, [], (E : Int), (p : Int)) else (2, (p : Int), (n : Int), [], (E : Int), -1)
theorem num_ev (s : List UInt8) (hs : s.length ≤ 1000000) (p : Nat) (c0 : UInt8) : ∀ (d q n : Nat), s.length - q = d → p ≤ q → q ≤ s.length → n ≤ 1000009 → Ev (fun k => davitref11_One.l1 k (nb s) (p : Int) (c0.toNat : Int) (q : Int) (n : Int)) (nfin p (q + spanV digitB s q) c0 (numA n ((s.drop q).take (spanV digitB s q)))) := by
  intro d
  have hfin : ∀ (k q n : Nat), p ≤ q → q ≤ s.length → davitref11_One.j3 (k + 1) (nb s) (p : Int) (c0.toNat : Int) (q : Int) (n : Int) false = some (nfin p q c0 n) := fun k q n h1 h2 => by
    simp only [davitref11_One.j3]
    rw [if_neg (by simp)]
    unfold nfin
    rw [wrap_in (by omega) (by omega)]
    by_cases h : q = p
    · rw [if_pos (by omega), if_pos (.inl h)]
    rw [if_neg (by omega)]
    by_cases h4 : 4 < q - p
    · rw [if_pos (by omega), if_pos (.inr (.inl h4))]
    rw [if_neg (by omega)]
    by_cases h1' : 1 < q - p
    · rw [if_pos (by omega)]
      by_cases h48 : c0.toNat = 48
      · rw [if_pos (by omega), if_pos (.inr (.inr ⟨h1', h48⟩))]
      · rw [if_neg (by omega), if_neg (by rintro (x | x | x); exact h x; exact h4 x; exact h48 x.2)]
    · rw [if_neg (by omega), if_neg (by rintro (x | x | x); exact h x; exact h4 x; exact h1' x.1)]
  have hstop : ∀ (q n : Nat), p ≤ q → q ≤ s.length → (∀ k, davitref11_One.l1 (k + 1) (nb s) (p : Int) (c0.toNat : Int) (q : Int) (n : Int) = davitref11_One.j3 k (nb s) (p : Int) (c0.toNat : Int) (q : Int) (n : Int) false) → Ev (fun k => davitref11_One.l1 k (nb s) (p : Int) (c0.toNat : Int) (q : Int) (n : Int)) (nfin p q c0 n) := fun q n h1 h2 h3 =>
    Ev.step h3 (Ev.step (f := fun _ => some (nfin p q c0 n)) (fun k => hfin k q n h1 h2) (Ev.now _))
  induction d with
  | zero =>
    intro q n hd hpq hq hn
    obtain rfl : q = s.length := by omega
    have hm : moreV digitB s s.length = false := by unfold moreV; rw [List.getElem?_eq_none (Nat.le_refl _)]
    rw [spanV_stop _ _ _ hm, Nat.add_zero]
    exact hstop _ n hpq hq (fun k => by simp only [davitref11_One.l1]; rw [if_neg (by simp)])
  | succ d ih =>
    intro q n hd hpq hq hn
    obtain ⟨c, hc⟩ := at_get (s := s) (i := q) (by omega)
    cases hw : digitB c with
    | true =>
      have hcd : 48 ≤ c.toNat ∧ c.toNat ≤ 57 := by unfold digitB at hw; simpa using hw
      rw [spanV_step _ _ _ (by unfold moreV; rw [hc]; exact hw), drop_at hc, List.take_succ_cons, show q + (spanV digitB s (q + 1) + 1) = (q + 1) + spanV digitB s (q + 1) by omega]
      have hw1 : wrap64 ((q : Int) + 1) = ((q + 1 : Nat) : Int) := by rw [wrap_in (by omega) (by omega)]; omega
      have h0 : ∀ k, davitref11_One.l1 (k + 1) (nb s) (p : Int) (c0.toNat : Int) (q : Int) (n : Int) = davitref11_One.j3 k (nb s) (p : Int) (c0.toNat : Int) (q : Int) (n : Int) true := fun k => by
        simp only [davitref11_One.l1]
        rw [if_pos (by simp; omega), if_pos (by omega), rd_nb hc, if_pos (by omega)]
        congr 1
        simp
        omega
      by_cases hn1 : n < 100000
      · refine Ev.step h0 (Ev.step (f := fun k => davitref11_One.l1 k (nb s) (p : Int) (c0.toNat : Int) ((q + 1 : Nat) : Int) ((10 * n + (c.toNat - 48) : Nat) : Int)) (fun k => by
          simp only [davitref11_One.j3]
          rw [if_pos trivial, if_pos (by omega), if_pos (by omega), if_pos (by simp; omega), rd_nb hc, hw1]
          rw [dstep n c.toNat hn1 hcd.1 hcd.2]) ?_)
        have := ih (q + 1) (10 * n + (c.toNat - 48)) (by omega) (by omega) (by omega) (by omega)
        have e : numA n (c :: (s.drop (q + 1)).take (spanV digitB s (q + 1))) = numA (10 * n + (c.toNat - 48)) ((s.drop (q + 1)).take (spanV digitB s (q + 1))) := by
          unfold numA
          rw [List.foldl_cons, if_pos hn1]
        rw [e]
        exact this
      · refine Ev.step h0 (Ev.step (f := fun k => davitref11_One.l1 k (nb s) (p : Int) (c0.toNat : Int) ((q + 1 : Nat) : Int) (n : Int)) (fun k => by
          simp only [davitref11_One.j3]
          rw [if_pos trivial, if_neg (by omega), hw1]) ?_)
        have := ih (q + 1) n (by omega) (by omega) (by omega) hn
        have e : numA n (c :: (s.drop (q + 1)).take (spanV digitB s (q + 1))) = numA n ((s.drop (q + 1)).take (spanV digitB s (q + 1))) := by
          unfold numA
          rw [List.foldl_cons, if_neg hn1]
        rw [e]
        exact this
    | false =>
      rw [spanV_stop _ _ _ (by unfold moreV; rw [hc]; exact hw), Nat.add_zero]
      refine hstop _ n hpq hq (fun k => ?_)
      have hcd : ¬ (48 ≤ c.toNat ∧ c.toNat ≤ 57) := by unfold digitB at hw; simpa using hw
      simp only [davitref11_One.l1]
      rw [if_pos (by simp; omega), if_pos (by omega), rd_nb hc]
      by_cases h48 : 48 ≤ c.toNat
      · rw [if_pos (by omega)]
        congr 1
        simp
        omega
      · rw [if_neg (by omega)]
theorem numA_dec : ∀ (d : List UInt8) (n k : Nat), (∀ x ∈ d, digitB x = true) → n < 10 ^ k → k + d.length ≤ 5 → numA n d = d.foldl (fun n b => 10 * n + (b.toNat - 48)) n
  | [], n, k, _, _, _ => rfl
  | c :: d, n, k, h, hn, hk => by
    have h2 := h c (by simp)
    unfold digitB at h2
    simp at h2
    simp only [List.length_cons] at hk
    have h5 : 10 ^ k ≤ 10 ^ 4 := Nat.pow_le_pow_right (by omega) (by omega)
    have := numA_dec d (10 * n + (c.toNat - 48)) (k + 1) (fun x hx => h x (by simp [hx])) (by rw [Nat.pow_succ]; omega) (by omega)
    unfold numA at this ⊢
    rw [List.foldl_cons, List.foldl_cons, if_pos (by omega)]
    exact this
/-- What One tells. -/
def OneTells (s : List UInt8) (p : Nat) (r : R6) : Prop := match oneR s p with
  | (some x, q) => r = (x.kind, x.at_, x.n, nb x.text, (q : Int), -1)
  | (none, q) => r.2.2.2.2.2 = (q : Int)
theorem one_ev (s : List UInt8) (hs : s.length ≤ 1000000) (p : Nat) (hp : p < s.length) : ∃ r, Ev (fun k => davitref11_One.f k (nb s) (p : Int)) r ∧ OneTells s p r := by
  obtain ⟨c, hc⟩ := at_get (s := s) (i := p) hp
  by_cases h34 : c.toNat = 34
  · have h1 := text_ev s hs (s.length - (p + 1)) (p + 1) [] (by omega) (by omega) (by simp)
    refine ⟨_, Ev.congr (f := fun k => (davitref11_Text.l0 k (nb s) ((p + 1 : Nat) : Int) (nb [])).bind fun bt => some ((3, (p : Int), 0, bt.1, bt.2.1, bt.2.2) : R6)) (fun k => ?_) (Ev.bind h1 (Ev.now _)), ?_⟩
    · unfold davitref11_One.f davitref11_Text.f
      rw [if_pos (by omega), if_pos (by simp; omega), rd_nb hc, if_pos (by omega), show wrap64 ((p : Int) + 1) = ((p + 1 : Nat) : Int) by rw [wrap_in (by omega) (by omega)]; omega]
      rfl
    · unfold OneTells oneR
      rw [hc]
      simp only
      rw [if_pos h34]
      rcases textR (s.drop (p + 1)) (p + 1) [] with ⟨_ | b, q⟩ <;> rfl
  have hL : ∀ (b : Bool), b = letterB c → Ev (fun k => davitref11_One.j0 k (nb s) (p : Int) (c.toNat : Int) (p : Int) b) (if letterB c = true then wfin s p (p + spanV wordB s p) else nfin p (p + spanV digitB s p) c (numA 0 ((s.drop p).take (spanV digitB s p)))) := by
    rintro b rfl
    cases hl : letterB c with
    | true =>
      rw [if_pos rfl]
      refine Ev.step (f := fun k => davitref11_One.l0 k (nb s) (p : Int) (p : Int)) (fun k => by simp only [davitref11_One.j0]; rw [if_pos trivial]) (word_ev s hs p _ p rfl (Nat.le_refl _) (by omega))
    | false =>
      rw [if_neg (by simp)]
      refine Ev.step (f := fun k => davitref11_One.l1 k (nb s) (p : Int) (c.toNat : Int) (p : Int) ((0 : Nat) : Int)) (fun k => by simp only [davitref11_One.j0]; rw [if_neg (by simp)]; rfl) (num_ev s hs p c _ p 0 rfl (Nat.le_refl _) (by omega) (by omega))
  refine ⟨_, Ev.congr (f := fun k => davitref11_One.j0 k (nb s) (p : Int) (c.toNat : Int) (p : Int) (letterB c)) (fun k => ?_) (hL _ rfl), ?_⟩
  · unfold davitref11_One.f
    rw [if_pos (by omega), if_pos (by simp; omega), rd_nb hc, if_neg (by omega)]
    unfold letterB
    by_cases h97 : 97 ≤ c.toNat
    · rw [if_pos (by omega)]
      congr 1
      rw [Bool.eq_iff_iff]
      simp
      omega
    · rw [if_neg (by omega)]
      congr 1
      simp [h97]
  · unfold OneTells oneR
    rw [hc]
    simp only
    rw [if_neg h34]
    by_cases hl : letterB c = true
    · rw [if_pos hl, if_pos hl]
      unfold wfin
      rw [show p + spanV wordB s p - p = spanV wordB s p by omega]
      by_cases h20 : 20 < spanV wordB s p
      · rw [if_pos h20, if_pos h20]
      · rw [if_neg h20, if_neg h20]
        simp only [List.drop_take, show p + spanV wordB s p - p = spanV wordB s p by omega]
    · rw [if_neg hl, if_neg hl]
      unfold nfin
      rw [show p + spanV digitB s p - p = spanV digitB s p by omega]
      by_cases hb : spanV digitB s p = 0 ∨ 4 < spanV digitB s p ∨ (1 < spanV digitB s p ∧ c.toNat = 48)
      · rw [if_pos hb, if_pos (by rcases hb with h | h; exact .inl (by omega); exact .inr h)]
      · rw [if_neg hb, if_neg (by rintro (h | h); exact hb (.inl (by omega)); exact hb (.inr h))]
        have hlen : ((s.drop p).take (spanV digitB s p)).length = spanV digitB s p := by have := spanV_le digitB s p (by omega); simp; omega
        rw [numA_dec _ 0 1 (fun x hx => span_mem hx) (by decide) (by omega)]
        rfl
end Go.Proofs.Ytpcapijakenjbaa.Pure
