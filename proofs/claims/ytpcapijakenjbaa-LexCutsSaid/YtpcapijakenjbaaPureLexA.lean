/- lex: the reference cuts as the plain cut does. -/
import Derived.Test.YtpcapijakenjbaaGLexx3
import Derived.Test.YtpcapijakenjbaaPu
set_option linter.unusedVariables false
set_option linter.unusedSimpArgs false
namespace Go.Proofs.Ytpcapijakenjbaa.Pure
open Go.RowKit Go.Proofs.Ytpcapijakenjbaa.GLex Go.Proofs.YtpcapijakenjbaaW.PrintWords Go.Proofs.YtpcapijakenjbaaW.PrintLast Go.Proofs.Ytpcapijakenjbaa.Sl Go.Proofs.Ytpcapijakenjbaa.Lex
theorem between_eq (c : UInt8) : davitref11_between.f (c.toNat : Int) = some (blankB c) := by
  unfold davitref11_between.f blankB
  have h : ∀ n : Nat, ((c.toNat : Int) = (n : Int)) ↔ c.toNat = n := fun n => by omega
  by_cases h9 : c.toNat = 9
  · rw [if_pos (by omega)]; simp [h9]
  rw [if_neg (by omega)]
  by_cases h10 : c.toNat = 10
  · rw [if_pos (by omega)]; simp [h10]
  rw [if_neg (by omega)]
  by_cases h13 : c.toNat = 13
  · rw [if_pos (by omega)]; simp [h13]
  rw [if_neg (by omega)]
  simp only [h9, h10, h13, decide_false, Bool.or_false]
  congr 1
  rw [Bool.eq_iff_iff]
  simp
  omega
theorem within_eq (c : UInt8) : davitref11_within.f (c.toNat : Int) = some (wordB c) := by
  unfold davitref11_within.f wordB letterB digitB
  repeat' split
  all_goals (congr 1; rw [Bool.eq_iff_iff]; simp; omega)
theorem at_get {s : List UInt8} {i : Nat} (h : i < s.length) : ∃ c, s[i]? = some c := ⟨_, List.getElem?_eq_getElem h⟩
theorem skip_ev (s : List UInt8) (hs : s.length ≤ 1000000) : ∀ (d p : Nat) (rem : Bool), s.length - p = d → p ≤ s.length → Ev (fun k => davitref11_Skip.l0 k (nb s) (p : Int) rem) ((skipR (s.drop p) rem p : Nat) : Int) := by
  intro d
  induction d with
  | zero =>
    intro p rem hd hp
    obtain rfl : p = s.length := by omega
    refine Ev.step (f := fun _ => some (s.length : Int)) (fun k => by simp only [davitref11_Skip.l0]; rw [if_neg (by simp)]) ?_
    rw [List.drop_length]
    exact Ev.now _
  | succ d ih =>
    intro p rem hd hp
    obtain ⟨c, hc⟩ := at_get (s := s) (i := p) (by omega)
    have hnext : ∀ r2, skipR (s.drop (p + 1)) r2 (p + 1) = skipR (s.drop (p + 1)) r2 (p + 1) := fun _ => rfl
    have hw : wrap64 ((p : Int) + 1) = ((p + 1 : Nat) : Int) := by rw [wrap_in (by omega) (by omega)]; omega
    have hj : ∀ b : Bool, Ev (fun k => davitref11_Skip.j1 k (nb s) (p : Int) b (c.toNat : Int)) ((if (if c.toNat = 10 then false else b) = false ∧ blankB c = false then p else skipR (s.drop (p + 1)) (if c.toNat = 10 then false else b) (p + 1) : Nat) : Int) := by
      intro b
      by_cases h10 : c.toNat = 10
      · have hb : blankB c = true := by simp [blankB, h10]
        refine Ev.step (f := fun k => davitref11_Skip.l0 k (nb s) ((p + 1 : Nat) : Int) false) (fun k => by
          simp only [davitref11_Skip.j1]
          rw [if_pos (by omega), between_eq, hb, hw]
          rfl) ?_
        rw [if_pos h10, if_neg (by rw [hb]; simp)]
        exact ih (p + 1) false (by omega) (by omega)
      · rw [if_neg h10]
        cases b with
        | true =>
          refine Ev.step (f := fun k => davitref11_Skip.l0 k (nb s) ((p + 1 : Nat) : Int) true) (fun k => by
            simp only [davitref11_Skip.j1]
            rw [if_neg (by omega), if_pos trivial, hw]) ?_
          rw [if_neg (by simp)]
          exact ih (p + 1) true (by omega) (by omega)
        | false =>
          cases hb : blankB c with
          | true =>
            refine Ev.step (f := fun k => davitref11_Skip.l0 k (nb s) ((p + 1 : Nat) : Int) false) (fun k => by
              simp only [davitref11_Skip.j1]
              rw [if_neg (by omega), if_neg (by simp), between_eq, hb, hw]
              rfl) ?_
            rw [if_neg (by simp)]
            exact ih (p + 1) false (by omega) (by omega)
          | false =>
            refine Ev.step (f := fun k => some (p : Int)) (fun k => by
              simp only [davitref11_Skip.j1]
              rw [if_neg (by omega), if_neg (by simp), between_eq, hb]
              rfl) ?_
            rw [if_pos ⟨rfl, rfl⟩]
            exact Ev.now _
    rw [drop_at hc, skipR]
    by_cases h35 : c.toNat = 35
    · refine Ev.step (f := fun k => davitref11_Skip.j1 k (nb s) (p : Int) true (c.toNat : Int)) (fun k => by
        simp only [davitref11_Skip.l0]
        rw [if_pos (by simp; omega), if_pos (by omega), rd_nb hc, if_pos (by omega)]) ?_
      have := hj true
      simp only [h35, decide_true, Bool.or_true]
      simpa [h35] using this
    · refine Ev.step (f := fun k => davitref11_Skip.j1 k (nb s) (p : Int) rem (c.toNat : Int)) (fun k => by
        simp only [davitref11_Skip.l0]
        rw [if_pos (by simp; omega), if_pos (by omega), rd_nb hc, if_neg (by omega)]) ?_
      have := hj rem
      simp only [h35, decide_false, Bool.or_false]
      exact this
def tres : Option (List UInt8) × Nat → List Int × Int × Int
  | (some b, q) => (nb b, (q : Int), -1)
  | (none, q) => ([], (q : Int), (q : Int))
theorem text_ev (s : List UInt8) (hs : s.length ≤ 1000000) : ∀ (d p : Nat) (acc : List UInt8), s.length - p ≤ d → p ≤ s.length → acc.length ≤ p → Ev (fun k => davitref11_Text.l0 k (nb s) (p : Int) (nb acc)) (tres (textR (s.drop p) p acc)) := by
  intro d
  induction d with
  | zero =>
    intro p acc hd hp ha
    obtain rfl : p = s.length := by omega
    refine Ev.step (f := fun _ => some (([] : List Int), (s.length : Int), (s.length : Int))) (fun k => by simp only [davitref11_Text.l0]; rw [if_neg (by simp)]) ?_
    rw [List.drop_length]
    exact Ev.now _
  | succ d ih =>
    intro p acc hd hp ha
    by_cases hlt : p < s.length
    rotate_left
    · obtain rfl : p = s.length := by omega
      refine Ev.step (f := fun _ => some (([] : List Int), (s.length : Int), (s.length : Int))) (fun k => by simp only [davitref11_Text.l0]; rw [if_neg (by simp)]) ?_
      rw [List.drop_length]
      exact Ev.now _
    obtain ⟨c, hc⟩ := at_get (s := s) (i := p) hlt
    have hw : wrap64 ((p : Int) + 1) = ((p + 1 : Nat) : Int) := by rw [wrap_in (by omega) (by omega)]; omega
    have hw2 : wrap64 (((p + 1 : Nat) : Int) + 1) = ((p + 2 : Nat) : Int) := by rw [wrap_in (by omega) (by omega)]; omega
    have hal : (nb acc).length < 140737488355328 := by simp; omega
    by_cases h34 : c.toNat = 34
    · refine Ev.step (f := fun _ => some (nb acc, ((p + 1 : Nat) : Int), (-1 : Int))) (fun k => by
        simp only [davitref11_Text.l0]
        rw [if_pos (by simp; omega), if_pos (by omega), rd_nb hc, if_pos (by omega), hw]) ?_
      rw [drop_at hc, textR.eq_def]
      dsimp only
      rw [if_pos h34]
      exact Ev.now _
    by_cases h32 : c.toNat < 32
    · refine Ev.step (f := fun _ => some (([] : List Int), (p : Int), (p : Int))) (fun k => by
        simp only [davitref11_Text.l0]
        rw [if_pos (by simp; omega), if_pos (by omega), rd_nb hc, if_neg (by omega), if_pos (by omega)]) ?_
      rw [drop_at hc, textR.eq_def]
      dsimp only
      rw [if_neg h34, if_pos h32]
      exact Ev.now _
    by_cases h92 : c.toNat = 92
    rotate_left
    · refine Ev.step (f := fun k => davitref11_Text.l0 k (nb s) ((p + 1 : Nat) : Int) (nb (acc ++ [c]))) (fun k => by
        simp only [davitref11_Text.l0]
        rw [if_pos (by simp; omega), if_pos (by omega), rd_nb hc, if_neg (by omega), if_neg (by omega), if_neg (by omega), if_pos hal, hw, nb_snoc]) ?_
      have := ih (p + 1) (acc ++ [c]) (by omega) (by omega) (by simp; omega)
      rw [drop_at hc]
      have h2 : textR (c :: s.drop (p + 1)) p acc = textR (s.drop (p + 1)) (p + 1) (acc ++ [c]) := by
        conv => lhs; rw [textR.eq_def]
        dsimp only
        rw [if_neg h34, if_neg h32, if_neg h92]
      rw [h2]
      exact this
    by_cases hend : p + 1 = s.length
    · refine Ev.step (f := fun _ => some (([] : List Int), ((p + 1 : Nat) : Int), ((p + 1 : Nat) : Int))) (fun k => by
        simp only [davitref11_Text.l0]
        rw [if_pos (by simp; omega), if_pos (by omega), rd_nb hc, if_neg (by omega), if_neg (by omega), if_pos (by omega), hw, if_pos (by simp; omega)]) ?_
      rw [drop_at hc, textR.eq_def]
      dsimp only
      rw [if_neg h34, if_neg h32, if_pos h92, hend, List.drop_length]
      exact Ev.now _
    obtain ⟨e, he⟩ := at_get (s := s) (i := p + 1) (by omega)
    by_cases he32 : e.toNat < 32
    · refine Ev.step (f := fun _ => some (([] : List Int), ((p + 1 : Nat) : Int), ((p + 1 : Nat) : Int))) (fun k => by
        simp only [davitref11_Text.l0]
        rw [if_pos (by simp; omega), if_pos (by omega), rd_nb hc, if_neg (by omega), if_neg (by omega), if_pos (by omega), hw, if_neg (by simp; omega), if_pos (by omega), if_pos (by simp; omega), rd_nb he, if_pos (by omega)]) ?_
      rw [drop_at hc, textR.eq_def]
      dsimp only
      rw [if_neg h34, if_neg h32, if_pos h92, drop_at he]
      dsimp only
      rw [if_pos he32]
      exact Ev.now _
    have hesc := textR_esc (acc := acc) hc h92 he (by omega)
    rw [hesc]
    by_cases he34 : e.toNat = 34
    · rw [if_pos he34, List.append_nil]
      refine Ev.step (f := fun k => davitref11_Text.l0 k (nb s) ((p + 2 : Nat) : Int) (nb (acc ++ [e]))) (fun k => by
        simp only [davitref11_Text.l0]
        rw [if_pos (by simp; omega), if_pos (by omega), rd_nb hc, if_neg (by omega), if_neg (by omega), if_pos (by omega), hw, if_neg (by simp; omega), if_pos (by omega), if_pos (by simp; omega), rd_nb he, if_neg (by omega), if_pos (by omega), if_pos hal, hw2, nb_snoc]) ?_
      exact ih (p + 2) (acc ++ [e]) (by omega) (by omega) (by simp; omega)
    · rw [if_neg he34]
      refine Ev.step (f := fun k => davitref11_Text.l0 k (nb s) ((p + 2 : Nat) : Int) (nb (acc ++ [92] ++ [e]))) (fun k => by
        simp only [davitref11_Text.l0]
        rw [if_pos (by simp; omega), if_pos (by omega), rd_nb hc, if_neg (by omega), if_neg (by omega), if_pos (by omega), hw, if_neg (by simp; omega), if_pos (by omega), if_pos (by simp; omega), rd_nb he, if_neg (by omega), if_neg (by omega), if_pos hal, hw2]
        simp only [Option.bind_some]
        rw [if_pos (by simp; omega)]
        have : nb acc ++ [92] ++ [(e.toNat : Int)] = nb (acc ++ [92] ++ [e]) := by simp [nb]
        rw [this]) ?_
      exact ih (p + 2) (acc ++ [92] ++ [e]) (by omega) (by omega) (by simp; omega)
end Go.Proofs.Ytpcapijakenjbaa.Pure
