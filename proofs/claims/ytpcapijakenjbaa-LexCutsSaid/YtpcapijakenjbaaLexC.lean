/- lex: the states: word, number, between. -/
import Derived.Test.YtpcapijakenjbaaLexP
set_option linter.unusedVariables false
set_option linter.unusedSimpArgs false
namespace Go.Proofs.Ytpcapijakenjbaa.Lex
open Go.RowKit Go.Proofs.Ytpcapijakenjbaa.Sl
structure CutV where
  at_ : Nat
  frm : Nat
  out : List TokV
  bad : Bool
inductive Nx | stop | between | word | number | text
def fval : Nx → Value
  | .stop => .nilFunc
  | .between => .func (.func 54) #[] #[]
  | .word => .func (.func 88) #[] #[]
  | .number => .func (.func 90) #[] #[]
  | .text => .func (.func 91) #[] #[]
def CutSt (wS w : World) (G : Gh) (g : Nat) (l : List As) (s : List UInt8) (a : Option Addr) (c : Nat) (st : CutV) : Prop :=
  ∃ ao co, St w G (Cs g [.slice a s.length c, .int .i64 (st.at_ : Int), .slice ao st.out.length co, .bool st.bad, .int .i64 (st.frm : Int)] 115 :: Own true (tokR.within (fun b => wS.heap.size ≤ b)) 52 (.slice ao st.out.length co) st.out :: l)
def InvV (s : List UInt8) (res : Nat ⊕ List TokV) : Nx → CutV → Prop
  | .stop, st => (if st.bad = true then .inl st.at_ else .inr st.out) = res ∧ st.at_ ≤ s.length
  | .between, st => st.bad = false ∧ st.at_ ≤ s.length ∧ st.out.length ≤ st.at_ ∧ st.frm ≤ s.length ∧ cutR s (skipAt s st.at_) st.out = res
  | .word, st => st.bad = false ∧ st.frm = st.at_ ∧ st.out.length ≤ st.at_ ∧ (∃ c, s[st.at_]? = some c ∧ letterB c = true) ∧ cutR s st.at_ st.out = res
  | .number, st => st.bad = false ∧ st.frm = st.at_ ∧ st.out.length ≤ st.at_ ∧ (∃ c, s[st.at_]? = some c ∧ digitB c = true) ∧ cutR s st.at_ st.out = res
  | .text, st => st.bad = false ∧ st.frm = st.at_ ∧ st.out.length ≤ st.at_ ∧ (∃ c, s[st.at_]? = some c ∧ c.toNat = 34) ∧ cutR s st.at_ st.out = res
def meas (s : List UInt8) : Nx → CutV → Nat
  | .stop, _ => 0
  | .between, st => 4 * (s.length - st.at_) + 3
  | _, st => 4 * (s.length - st.at_) + 2
def StepOK (k : Nat) (cur : Nx) : Prop := ∀ (wS w0 : World) (G : Gh) (g : Nat) (l : List As) (s : List UInt8) (a : Option Addr) (c : Nat) (st : CutV) (res : Nat ⊕ List TokV), GhLe (Gh.of wS) G → Rep.byte.slice.K G.heap G.dom s [.slice a s.length c] → s.length ≤ 2000 → InvV s res cur st → CutSt wS w0 G g l s a c st →
  Calls Try.prog k #[.pointer (some ⟨g, 0, none⟩)] w0 fun e w' => ∃ nx st' G2, e = .returned (fval nx) ∧ GhLe G G2 ∧ CutSt wS w' G2 g l s a c st' ∧ InvV s res nx st' ∧ meas s nx st' < meas s cur st
theorem inR_small {x : Int} (h0 : -1000000 ≤ x) (h : x ≤ 1000000) : IntKind.inR .i64 x := by
  have h1 : IntKind.min .i64 = -9223372036854775808 := rfl
  have h2 : IntKind.max .i64 = 9223372036854775807 := rfl
  unfold IntKind.inR
  omega
theorem letter_not34 {c : UInt8} (h : letterB c = true) : ¬ c.toNat = 34 := by
  unfold letterB at h
  simp at h
  omega
theorem digit_not {c : UInt8} (h : digitB c = true) : ¬ c.toNat = 34 ∧ ¬ letterB c = true := by
  unfold digitB at h
  unfold letterB
  simp at h ⊢
  omega
set_option maxHeartbeats 2000000 in
set_option maxRecDepth 100000 in
theorem word_step : StepOK 88 .word := by
  intro wS w0 G g l s a c st res hG hs hlen hI H
  obtain ⟨pos, frm, out, bad⟩ := st
  obtain ⟨hb, hf, ho, ⟨ch, hch, hl⟩, hres⟩ := hI
  obtain ⟨ao, co, S⟩ := H
  dsimp only at hb hf ho hch hres S
  subst hb; subst hf
  have hpos := (List.getElem?_eq_some_iff.1 hch).1
  have hn1 := spanV_pos (p := wordB) hch (by unfold wordB; rw [hl]; rfl)
  have hn2 := spanV_le wordB s frm (by omega)
  have hp := Hd.mk (pass_any wordB _ word_ok g G _ a c s frm _ _ _ _ S hs (by omega))
  have hone : Hd (oneR s frm = if 20 < spanV wordB s frm then (none, frm) else (some ⟨1, frm, 0, (s.drop frm).take (spanV wordB s frm)⟩, frm + spanV wordB s frm)) := ⟨by
    unfold oneR
    rw [hch]
    simp only
    rw [if_neg (letter_not34 hl), if_pos hl]⟩
  rw [cutR_eq s frm out (by omega), if_neg (by omega), hone.out] at hres
  replace hres := Hd.mk hres
  generalize spanV wordB s frm = n at *
  have htl : ((s.drop frm).take n).length = n := by simp; omega
  by_cases h20 : 20 < n
  · go_enter Try.func88, Try.ntmps88
    have tk0 : True := trivial
    have tk1 : True := trivial
    go_wp2_with (first | (have _t := tk0; clear _t tk0; go_at_call 84; refine hp.out.mono ?_; rintro e w ⟨a2, c2, rfl, hk2, S1⟩; clear S; replace S := S1; clear S1) | (have _t := tk1; clear _t tk1; go_at_call 92; refine (fail_any _ _ _ _ _ _ _ _ _ _ S).mono ?_; rintro e w ⟨rfl, S1⟩; clear S; replace S := S1; clear S1) | (apply q1; first | refine ld S ?_ | (refine st S ?_; clear S; intro w S) | refine lda S ?_ | (refine sta S ?_; clear S; intro w S) | refine ldr S ?_ | refine ldw ?_ | refine lar S ?_ | refine law ?_ | refine so S ?_ | refine sv S ?_ | refine sk S ?_ | refine sr ?_ | refine ct ?_ | (refine sl ?_; (try simp only [Int.toNat_natCast, Int.toNat_zero, Nat.mul_one])) | (refine slf ?_; (try simp only [Int.toNat_natCast, Int.toNat_zero, Nat.mul_one])) | (refine slt ?_; (try simp only [Int.toNat_natCast, Int.toNat_zero, Nat.mul_one])) | refine ix ?_))
    ((first | apply fin0 rfl | apply fin0n rfl | apply fin1n rfl | apply fin1 rfl | apply fin2 rfl | apply fin3 rfl); (focus (repeat (first | exact ResV.nil | refine ResV.tmp (by rfl) ?_ | refine ResV.cell (by rfl) (load_agg_run tabs S (by rfl) (by (with_reducible repeat' (first | exact Pick.here | apply Pick.there))) (by first | (simp only [List.drop_succ_cons, List.drop_zero, List.take_succ_cons, List.take_zero, List.drop_nil, List.take_nil]; rfl) | rfl) (by first | rfl | (simp; done))) ?_ | refine ResV.cell (by rfl) (load_cell_run tabs S (by rfl) (by (with_reducible repeat' (first | exact Pick.here | apply Pick.there))) (by rfl)) ?_))); (focus rfl))
    refine ⟨.stop, ⟨frm, frm, out, true⟩, G, rfl, GhLe.refl _, ⟨ao, co, S⟩, ⟨?_, by dsimp only; omega⟩, by simp [meas]⟩
    rw [← hres.out, if_pos h20]
    rfl
  · go_enter Try.func88, Try.ntmps88
    have tk0 : True := trivial
    have tk1 : True := trivial
    go_wp2_with (first | (have _t := tk0; clear _t tk0; go_at_call 84; refine hp.out.mono ?_; rintro e w ⟨a2, c2, rfl, hk2, S1⟩; clear S; replace S := S1; clear S1) | (have _t := tk1; clear _t tk1; go_at_call 115; refine (add_any wS g G l _ _ ao co out _ _ 1 0 _ _ _ hG S hk2 (inR_small (by omega) (by omega)) (inR_small (by omega) (by omega)) (inR_small (by omega) (by omega)) (by omega) (by rw [htl]; omega)).mono ?_; rintro e w ⟨rfl, G2, hG2, a3, c3, S1⟩; clear S; replace S := S1; clear S1) | (apply q1; first | refine ld S ?_ | (refine st S ?_; clear S; intro w S) | refine lda S ?_ | (refine sta S ?_; clear S; intro w S) | refine ldr S ?_ | refine ldw ?_ | refine lar S ?_ | refine law ?_ | refine so S ?_ | refine sv S ?_ | refine sk S ?_ | refine sr ?_ | refine ct ?_ | (refine sl ?_; (try simp only [Int.toNat_natCast, Int.toNat_zero, Nat.mul_one])) | (refine slf ?_; (try simp only [Int.toNat_natCast, Int.toNat_zero, Nat.mul_one])) | (refine slt ?_; (try simp only [Int.toNat_natCast, Int.toNat_zero, Nat.mul_one])) | refine ix ?_))
    ((first | apply fin0 rfl | apply fin0n rfl | apply fin1n rfl | apply fin1 rfl | apply fin2 rfl | apply fin3 rfl); (focus (repeat (first | exact ResV.nil | refine ResV.tmp (by rfl) ?_ | refine ResV.cell (by rfl) (load_agg_run tabs S (by rfl) (by (with_reducible repeat' (first | exact Pick.here | apply Pick.there))) (by first | (simp only [List.drop_succ_cons, List.drop_zero, List.take_succ_cons, List.take_zero, List.drop_nil, List.take_nil]; rfl) | rfl) (by first | rfl | (simp; done))) ?_ | refine ResV.cell (by rfl) (load_cell_run tabs S (by rfl) (by (with_reducible repeat' (first | exact Pick.here | apply Pick.there))) (by rfl)) ?_))); (focus rfl))
    have hol : (out ++ [(⟨1, (frm : Int), 0, (s.drop frm).take n⟩ : TokV)]).length = out.length + 1 := by simp
    refine ⟨.between, ⟨frm + n, frm, out ++ [⟨1, frm, 0, (s.drop frm).take n⟩], false⟩, G2, rfl, hG2, ⟨a3, c3, ?_⟩, ⟨rfl, hn2, ?_, by dsimp only; omega, ?_⟩, by simp only [meas]; omega⟩
    · simp only [hol]
      exact S
    · simp; omega
    · rw [← hres.out, if_neg h20]
theorem decOf_snoc (d : List UInt8) (c : UInt8) : decOf (d ++ [c]) = 10 * decOf d + (c.toNat - 48) := by simp [decOf]
theorem takeWhile_mem {α : Type} (p : α → Bool) : ∀ (l : List α) (x : α), x ∈ l.takeWhile p → p x = true
  | [], x, h => by simp at h
  | y :: l, x, h => by
    rw [List.takeWhile_cons] at h
    split at h
    · rcases List.mem_cons.1 h with h | h
      · subst h; assumption
      · exact takeWhile_mem p l x h
    · simp at h
theorem span_take (p : UInt8 → Bool) (s : List UInt8) (i : Nat) : (s.drop i).take (spanV p s i) = (s.drop i).takeWhile p := by
  unfold spanV
  obtain ⟨t, ht⟩ := List.takeWhile_prefix (l := s.drop i) p
  conv => lhs; rw [← ht]
  rw [List.take_left' (by rw [ht])]
theorem span_mem {p : UInt8 → Bool} {s : List UInt8} {i : Nat} {x : UInt8} (h : x ∈ (s.drop i).take (spanV p s i)) : p x = true := by
  rw [span_take] at h
  exact takeWhile_mem p _ x h
theorem dec_lt : ∀ (d : List UInt8) (a : Nat), (∀ x ∈ d, digitB x = true) → d.foldl (fun n b => 10 * n + (b.toNat - 48)) a + 1 ≤ (a + 1) * 10 ^ d.length
  | [], a, _ => by simp
  | c :: d, a, h => by
    have h1 := dec_lt d (10 * a + (c.toNat - 48)) (fun x hx => h x (by simp [hx]))
    have h2 := h c (by simp)
    unfold digitB at h2
    simp at h2
    rw [List.foldl_cons, List.length_cons, Nat.pow_succ]
    refine Nat.le_trans h1 ?_
    rw [Nat.mul_comm (10 ^ d.length) 10, ← Nat.mul_assoc]
    exact Nat.mul_le_mul_right _ (by omega)
theorem decOf_lt (d : List UInt8) (h : ∀ x ∈ d, digitB x = true) (k : Nat) (hk : d.length ≤ k) : decOf d < 10 ^ k := by
  have h1 := dec_lt d 0 h
  have h2 : 10 ^ d.length ≤ 10 ^ k := Nat.pow_le_pow_right (by omega) hk
  unfold decOf
  omega
set_option maxHeartbeats 2000000 in
set_option maxRecDepth 100000 in
theorem number_step : StepOK 90 .number := by
  intro wS w0 G g l s a c st res hG hs hlen hI H
  obtain ⟨pos, frm, out, bad⟩ := st
  obtain ⟨hb, hf, ho, ⟨ch, hch, hl⟩, hres⟩ := hI
  obtain ⟨ao, co, S⟩ := H
  dsimp only at hb hf ho hch hres S
  subst hb; subst hf
  have hpos := (List.getElem?_eq_some_iff.1 hch).1
  have hn1 := spanV_pos (p := digitB) hch hl
  have hn2 := spanV_le digitB s frm (by omega)
  have hp := Hd.mk (pass_any digitB _ digit_ok g G _ a c s frm _ _ _ _ S hs (by omega))
  have hone : Hd (oneR s frm = if spanV digitB s frm = 0 ∨ 4 < spanV digitB s frm ∨ (1 < spanV digitB s frm ∧ ch.toNat = 48) then (none, frm) else (some ⟨2, frm, decOf ((s.drop frm).take (spanV digitB s frm)), []⟩, frm + spanV digitB s frm)) := ⟨by
    unfold oneR
    rw [hch]
    simp only
    rw [if_neg (digit_not hl).1, if_neg (digit_not hl).2]⟩
  have hmem := Hd.mk (fun x => span_mem (p := digitB) (s := s) (i := frm) (x := x))
  rw [cutR_eq s frm out (by omega), if_neg (by omega), hone.out] at hres
  replace hres := Hd.mk hres
  generalize spanV digitB s frm = n at *
  have htl : ((s.drop frm).take n).length = n := by simp; omega
  have hd0 : Hd (((s.drop frm).take n)[0]? = some ch) := ⟨by rw [List.getElem?_take, if_pos (by omega), List.getElem?_drop]; simpa using hch⟩
  generalize hD : (s.drop frm).take n = D at *
  clear hD
  subst htl
  have htl := Hd.mk (rfl : D.length = D.length)
  by_cases h4 : 4 < D.length
  · go_enter Try.func90, Try.ntmps90
    have tk0 : True := trivial
    have tk1 : True := trivial
    go_wp2_with (first | (have _t := tk0; clear _t tk0; go_at_call 84; refine hp.out.mono ?_; rintro e w ⟨a2, c2, rfl, hk2, S1⟩; clear S; replace S := S1; clear S1) | (have _t := tk1; clear _t tk1; go_at_call 92; refine (fail_any _ _ _ _ _ _ _ _ _ _ S).mono ?_; rintro e w ⟨rfl, S1⟩; clear S; replace S := S1; clear S1) | (apply q1; first | refine ld S ?_ | (refine st S ?_; clear S; intro w S) | refine lda S ?_ | (refine sta S ?_; clear S; intro w S) | refine ldr S ?_ | refine ldw ?_ | refine lar S ?_ | refine law ?_ | refine so S ?_ | refine sv S ?_ | refine sk S ?_ | refine sr ?_ | refine ct ?_ | (refine sl ?_; (try simp only [Int.toNat_natCast, Int.toNat_zero, Nat.mul_one])) | (refine slf ?_; (try simp only [Int.toNat_natCast, Int.toNat_zero, Nat.mul_one])) | (refine slt ?_; (try simp only [Int.toNat_natCast, Int.toNat_zero, Nat.mul_one])) | refine ix ?_))
    ((first | apply fin0 rfl | apply fin0n rfl | apply fin1n rfl | apply fin1 rfl | apply fin2 rfl | apply fin3 rfl); (focus (repeat (first | exact ResV.nil | refine ResV.tmp (by rfl) ?_ | refine ResV.cell (by rfl) (load_agg_run tabs S (by rfl) (by (with_reducible repeat' (first | exact Pick.here | apply Pick.there))) (by first | (simp only [List.drop_succ_cons, List.drop_zero, List.take_succ_cons, List.take_zero, List.drop_nil, List.take_nil]; rfl) | rfl) (by first | rfl | (simp; done))) ?_ | refine ResV.cell (by rfl) (load_cell_run tabs S (by rfl) (by (with_reducible repeat' (first | exact Pick.here | apply Pick.there))) (by rfl)) ?_))); (focus rfl))
    refine ⟨.stop, ⟨frm, frm, out, true⟩, G, rfl, GhLe.refl _, ⟨ao, co, S⟩, ⟨?_, by dsimp only; omega⟩, by simp [meas]⟩
    show Sum.inl frm = res
    rw [← hres.out, if_pos (Or.inr (Or.inl h4))]
  by_cases h48 : 1 < D.length ∧ ch.toNat = 48
  · obtain ⟨h1, h48⟩ := h48
    have h48i : (ch.toNat : Int) = 48 := by omega
    go_enter Try.func90, Try.ntmps90
    have tk0 : True := trivial
    have tk1 : True := trivial
    go_wp2_with (first | (have _t := tk0; clear _t tk0; go_at_call 84; refine hp.out.mono ?_; rintro e w ⟨a2, c2, rfl, hk2, S1⟩; clear S; replace S := S1; clear S1; obtain ⟨ad, rfl, hc0⟩ := Rep.bytes_at (Rep.slice_sl hk2) hd0.out; rw [h48i, Addr.add_zero'] at hc0) | (have _t := tk1; clear _t tk1; go_at_call 92; refine (fail_any _ _ _ _ _ _ _ _ _ _ S).mono ?_; rintro e w ⟨rfl, S1⟩; clear S; replace S := S1; clear S1) | (apply q1; first | refine ld S ?_ | (refine st S ?_; clear S; intro w S) | refine lda S ?_ | (refine sta S ?_; clear S; intro w S) | refine ldr S ?_ | refine ldw ?_ | refine lar S ?_ | refine law ?_ | refine so S ?_ | refine sv S ?_ | refine sk S ?_ | refine sr ?_ | refine ct ?_ | (refine sl ?_; (try simp only [Int.toNat_natCast, Int.toNat_zero, Nat.mul_one])) | (refine slf ?_; (try simp only [Int.toNat_natCast, Int.toNat_zero, Nat.mul_one])) | (refine slt ?_; (try simp only [Int.toNat_natCast, Int.toNat_zero, Nat.mul_one])) | refine ix ?_))
    ((first | apply fin0 rfl | apply fin0n rfl | apply fin1n rfl | apply fin1 rfl | apply fin2 rfl | apply fin3 rfl); (focus (repeat (first | exact ResV.nil | refine ResV.tmp (by rfl) ?_ | refine ResV.cell (by rfl) (load_agg_run tabs S (by rfl) (by (with_reducible repeat' (first | exact Pick.here | apply Pick.there))) (by first | (simp only [List.drop_succ_cons, List.drop_zero, List.take_succ_cons, List.take_zero, List.drop_nil, List.take_nil]; rfl) | rfl) (by first | rfl | (simp; done))) ?_ | refine ResV.cell (by rfl) (load_cell_run tabs S (by rfl) (by (with_reducible repeat' (first | exact Pick.here | apply Pick.there))) (by rfl)) ?_))); (focus rfl))
    refine ⟨.stop, ⟨frm, frm, out, true⟩, G, rfl, GhLe.refl _, ⟨ao, co, S⟩, ⟨?_, by dsimp only; omega⟩, by simp [meas]⟩
    show Sum.inl frm = res
    rw [← hres.out, if_pos (Or.inr (Or.inr ⟨h1, h48⟩))]
  replace hres := Hd.mk (show _ = res by rw [← hres.out, if_neg (by rintro (h | h | h); omega; exact h4 h; exact h48 h)])
  clear hone
  have hq4 : ((4 : Int) < (D.length : Int)) = False := by simp; omega
  have main : ∀ h0 : (D.length = 1 ∨ (1 < D.length ∧ ((ch.toNat : Int) == 48) = false)), Calls Try.prog 90 #[.pointer (some ⟨g, 0, none⟩)] w0 fun e w' => ∃ nx st' G2, e = .returned (fval nx) ∧ GhLe G G2 ∧ CutSt wS w' G2 g l s a c st' ∧ InvV s res nx st' ∧ meas s nx st' < meas s .number ⟨frm, frm, out, false⟩ := by
    intro h0
    clear h48
    have hloop : True := trivial
    rcases h0 with h1 | ⟨h1, h48⟩
    all_goals
      go_enter Try.func90, Try.ntmps90
    · have hq1 : ((1 : Int) < (D.length : Int)) = False := by simp; omega
      have tk0 : True := trivial
      go_wp2_with (first | (have _t := tk0; clear _t tk0; go_at_call 84; refine hp.out.mono ?_; rintro e w ⟨a2, c2, rfl, hk2, S1⟩; clear S; replace S := S1; clear S1) | (apply q1; first | refine ld S ?_ | (refine st S ?_; clear S; intro w S) | refine lda S ?_ | (refine sta S ?_; clear S; intro w S) | refine ldr S ?_ | refine ldw ?_ | refine lar S ?_ | refine law ?_ | refine so S ?_ | refine sv S ?_ | refine sk S ?_ | refine sr ?_ | refine ct ?_ | (refine sl ?_; (try simp only [Int.toNat_natCast, Int.toNat_zero, Nat.mul_one])) | (refine slf ?_; (try simp only [Int.toNat_natCast, Int.toNat_zero, Nat.mul_one])) | (refine slt ?_; (try simp only [Int.toNat_natCast, Int.toNat_zero, Nat.mul_one])) | refine ix ?_))
      clear hp
      have hsl := Hd.mk (Rep.slice_sl hk2)
      go_loopw [4, 31] (fun n i wr => ∃ j : Nat, j ≤ D.length ∧ i = .int .i64 j ∧ n = .int .i64 (decOf (D.take j) : Int) ∧ St wr G (Cs g [.slice a s.length c, .int .i64 ((frm + D.length : Nat) : Int), .slice ao out.length co, .bool false, .int .i64 (frm : Int)] 115 :: Own true (tokR.within (fun b => wS.heap.size ≤ b)) 52 (.slice ao out.length co) out :: l)) (fun _ i _ => D.length - (intOf i).toNat)
      case atStart => exact ⟨0, by omega, rfl, rfl, S⟩
      case round =>
        clear S
        obtain ⟨j, hj, rfl, rfl, S⟩ := hrel
        by_cases hlt : j < D.length
        · have hlj := Hd.mk (List.getElem?_eq_getElem hlt)
          obtain ⟨ad2, hae, hc⟩ := Rep.bytes_at hsl.out hlj.out
          cases hae
          have hdg := hmem.out _ (List.getElem_mem hlt)
          have hst : Hd (D.take (j + 1) = D.take j ++ [D[j]]) := ⟨by rw [List.take_add_one, hlj.out]; rfl⟩
          have hbd := decOf_lt (D.take j) (fun x hx => hmem.out x (List.mem_of_mem_take hx)) 4 (by simp; omega)
          generalize D[j] = x at *
          have hx1 : 48 ≤ x.toNat ∧ x.toNat ≤ 57 := by unfold digitB at hdg; simpa using hdg
          have hd1 := Hd.mk (decOf_snoc (D.take j) x)
          clear hdg
          generalize decOf (D.take j) = m at *
          have hcell := S.roCell hc
          go_wp2_with (first | (apply q1; first | refine ld S ?_ | (refine st S ?_; clear S; intro w S) | refine lda S ?_ | (refine sta S ?_; clear S; intro w S) | refine ldr S ?_ | refine ldw ?_ | refine lar S ?_ | refine law ?_ | refine so S ?_ | refine sv S ?_ | refine sk S ?_ | refine sr ?_ | refine ct ?_ | (refine sl ?_; (try simp only [Int.toNat_natCast, Int.toNat_zero, Nat.mul_one])) | (refine slf ?_; (try simp only [Int.toNat_natCast, Int.toNat_zero, Nat.mul_one])) | (refine slt ?_; (try simp only [Int.toNat_natCast, Int.toNat_zero, Nat.mul_one])) | refine ix ?_))
          go_roundw
          case rel =>
            refine ⟨j + 1, by omega, by go_num, ?_, S⟩
            rw [hst.out, hd1.out]
            go_num
          case measure => simp [intOf]; omega
        · obtain rfl : j = D.length := by omega
          rw [List.take_length] at *
          have hbd := decOf_lt D (fun x hx => hmem.out x hx) 4 (by omega)
          have tk0 : True := trivial
          go_wp2_with (first | (have _t := tk0; clear _t tk0; go_at_call 115; refine (add_any wS g G l _ _ ao co out _ _ 2 (decOf D) _ [] _ hG S (Rep.slice_nil _ _ _) (inR_small (by omega) (by omega)) (inR_small (by omega) (by omega)) (inR_small (by omega) (by omega)) (by omega) (by simp)).mono ?_; rintro e w ⟨rfl, G2, hG2, a3, c3, S1⟩; clear S; replace S := S1; clear S1) | (apply q1; first | refine ld S ?_ | (refine st S ?_; clear S; intro w S) | refine lda S ?_ | (refine sta S ?_; clear S; intro w S) | refine ldr S ?_ | refine ldw ?_ | refine lar S ?_ | refine law ?_ | refine so S ?_ | refine sv S ?_ | refine sk S ?_ | refine sr ?_ | refine ct ?_ | (refine sl ?_; (try simp only [Int.toNat_natCast, Int.toNat_zero, Nat.mul_one])) | (refine slf ?_; (try simp only [Int.toNat_natCast, Int.toNat_zero, Nat.mul_one])) | (refine slt ?_; (try simp only [Int.toNat_natCast, Int.toNat_zero, Nat.mul_one])) | refine ix ?_))
          ((first | apply fin0 rfl | apply fin0n rfl | apply fin1n rfl | apply fin1 rfl | apply fin2 rfl | apply fin3 rfl); (focus (repeat (first | exact ResV.nil | refine ResV.tmp (by rfl) ?_ | refine ResV.cell (by rfl) (load_agg_run tabs S (by rfl) (by (with_reducible repeat' (first | exact Pick.here | apply Pick.there))) (by first | (simp only [List.drop_succ_cons, List.drop_zero, List.take_succ_cons, List.take_zero, List.drop_nil, List.take_nil]; rfl) | rfl) (by first | rfl | (simp; done))) ?_ | refine ResV.cell (by rfl) (load_cell_run tabs S (by rfl) (by (with_reducible repeat' (first | exact Pick.here | apply Pick.there))) (by rfl)) ?_))); (focus rfl))
          have hol : (out ++ [(⟨2, (frm : Int), decOf D, []⟩ : TokV)]).length = out.length + 1 := by simp
          refine ⟨.between, ⟨frm + D.length, frm, out ++ [⟨2, frm, decOf D, []⟩], false⟩, G2, rfl, hG2, ⟨a3, c3, ?_⟩, ⟨rfl, hn2, ?_, by dsimp only; omega, ?_⟩, by simp only [meas]; omega⟩
          · simp only [hol]
            exact S
          · simp; omega
          · exact hres.out
    · have hq1 : ((1 : Int) < (D.length : Int)) = True := by simp; omega
      have tk0 : True := trivial
      go_wp2_with (first | (have _t := tk0; clear _t tk0; go_at_call 84; refine hp.out.mono ?_; rintro e w ⟨a2, c2, rfl, hk2, S1⟩; clear S; replace S := S1; clear S1; obtain ⟨ad, rfl, hc0⟩ := Rep.bytes_at (Rep.slice_sl hk2) hd0.out; rw [Addr.add_zero'] at hc0) | (apply q1; first | refine ld S ?_ | (refine st S ?_; clear S; intro w S) | refine lda S ?_ | (refine sta S ?_; clear S; intro w S) | refine ldr S ?_ | refine ldw ?_ | refine lar S ?_ | refine law ?_ | refine so S ?_ | refine sv S ?_ | refine sk S ?_ | refine sr ?_ | refine ct ?_ | (refine sl ?_; (try simp only [Int.toNat_natCast, Int.toNat_zero, Nat.mul_one])) | (refine slf ?_; (try simp only [Int.toNat_natCast, Int.toNat_zero, Nat.mul_one])) | (refine slt ?_; (try simp only [Int.toNat_natCast, Int.toNat_zero, Nat.mul_one])) | refine ix ?_))
      clear hp
      have hsl := Hd.mk (Rep.slice_sl hk2)
      go_loopw [4, 31] (fun n i wr => ∃ j : Nat, j ≤ D.length ∧ i = .int .i64 j ∧ n = .int .i64 (decOf (D.take j) : Int) ∧ St wr G (Cs g [.slice a s.length c, .int .i64 ((frm + D.length : Nat) : Int), .slice ao out.length co, .bool false, .int .i64 (frm : Int)] 115 :: Own true (tokR.within (fun b => wS.heap.size ≤ b)) 52 (.slice ao out.length co) out :: l)) (fun _ i _ => D.length - (intOf i).toNat)
      case atStart => exact ⟨0, by omega, rfl, rfl, S⟩
      case round =>
        clear S
        obtain ⟨j, hj, rfl, rfl, S⟩ := hrel
        by_cases hlt : j < D.length
        · have hlj := Hd.mk (List.getElem?_eq_getElem hlt)
          obtain ⟨ad2, hae, hc⟩ := Rep.bytes_at hsl.out hlj.out
          cases hae
          have hdg := hmem.out _ (List.getElem_mem hlt)
          have hst : Hd (D.take (j + 1) = D.take j ++ [D[j]]) := ⟨by rw [List.take_add_one, hlj.out]; rfl⟩
          have hbd := decOf_lt (D.take j) (fun x hx => hmem.out x (List.mem_of_mem_take hx)) 4 (by simp; omega)
          generalize D[j] = x at *
          have hx1 : 48 ≤ x.toNat ∧ x.toNat ≤ 57 := by unfold digitB at hdg; simpa using hdg
          have hd1 := Hd.mk (decOf_snoc (D.take j) x)
          clear hdg
          generalize decOf (D.take j) = m at *
          have hcell := S.roCell hc
          go_wp2_with (first | (apply q1; first | refine ld S ?_ | (refine st S ?_; clear S; intro w S) | refine lda S ?_ | (refine sta S ?_; clear S; intro w S) | refine ldr S ?_ | refine ldw ?_ | refine lar S ?_ | refine law ?_ | refine so S ?_ | refine sv S ?_ | refine sk S ?_ | refine sr ?_ | refine ct ?_ | (refine sl ?_; (try simp only [Int.toNat_natCast, Int.toNat_zero, Nat.mul_one])) | (refine slf ?_; (try simp only [Int.toNat_natCast, Int.toNat_zero, Nat.mul_one])) | (refine slt ?_; (try simp only [Int.toNat_natCast, Int.toNat_zero, Nat.mul_one])) | refine ix ?_))
          go_roundw
          case rel =>
            refine ⟨j + 1, by omega, by go_num, ?_, S⟩
            rw [hst.out, hd1.out]
            go_num
          case measure => simp [intOf]; omega
        · obtain rfl : j = D.length := by omega
          rw [List.take_length] at *
          have hbd := decOf_lt D (fun x hx => hmem.out x hx) 4 (by omega)
          have tk0 : True := trivial
          go_wp2_with (first | (have _t := tk0; clear _t tk0; go_at_call 115; refine (add_any wS g G l _ _ ao co out _ _ 2 (decOf D) _ [] _ hG S (Rep.slice_nil _ _ _) (inR_small (by omega) (by omega)) (inR_small (by omega) (by omega)) (inR_small (by omega) (by omega)) (by omega) (by simp)).mono ?_; rintro e w ⟨rfl, G2, hG2, a3, c3, S1⟩; clear S; replace S := S1; clear S1) | (apply q1; first | refine ld S ?_ | (refine st S ?_; clear S; intro w S) | refine lda S ?_ | (refine sta S ?_; clear S; intro w S) | refine ldr S ?_ | refine ldw ?_ | refine lar S ?_ | refine law ?_ | refine so S ?_ | refine sv S ?_ | refine sk S ?_ | refine sr ?_ | refine ct ?_ | (refine sl ?_; (try simp only [Int.toNat_natCast, Int.toNat_zero, Nat.mul_one])) | (refine slf ?_; (try simp only [Int.toNat_natCast, Int.toNat_zero, Nat.mul_one])) | (refine slt ?_; (try simp only [Int.toNat_natCast, Int.toNat_zero, Nat.mul_one])) | refine ix ?_))
          ((first | apply fin0 rfl | apply fin0n rfl | apply fin1n rfl | apply fin1 rfl | apply fin2 rfl | apply fin3 rfl); (focus (repeat (first | exact ResV.nil | refine ResV.tmp (by rfl) ?_ | refine ResV.cell (by rfl) (load_agg_run tabs S (by rfl) (by (with_reducible repeat' (first | exact Pick.here | apply Pick.there))) (by first | (simp only [List.drop_succ_cons, List.drop_zero, List.take_succ_cons, List.take_zero, List.drop_nil, List.take_nil]; rfl) | rfl) (by first | rfl | (simp; done))) ?_ | refine ResV.cell (by rfl) (load_cell_run tabs S (by rfl) (by (with_reducible repeat' (first | exact Pick.here | apply Pick.there))) (by rfl)) ?_))); (focus rfl))
          have hol : (out ++ [(⟨2, (frm : Int), decOf D, []⟩ : TokV)]).length = out.length + 1 := by simp
          refine ⟨.between, ⟨frm + D.length, frm, out ++ [⟨2, frm, decOf D, []⟩], false⟩, G2, rfl, hG2, ⟨a3, c3, ?_⟩, ⟨rfl, hn2, ?_, by dsimp only; omega, ?_⟩, by simp only [meas]; omega⟩
          · simp only [hol]
            exact S
          · simp; omega
          · exact hres.out
  refine main ?_
  by_cases h1 : D.length = 1
  · exact .inl h1
  · refine .inr ⟨by omega, ?_⟩
    have : ¬ (ch.toNat : Int) = 48 := fun h => h48 ⟨by omega, by omega⟩
    simpa using this
end Go.Proofs.Ytpcapijakenjbaa.Lex
