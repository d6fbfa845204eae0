/- lex: Cut. -/
import Derived.Test.YtpcapijakenjbaaLexD
import Derived.Test.YtpcapijakenjbaaLexE
import Derived.Test.YtpcapijakenjbaaFn
set_option linter.unusedVariables false
set_option linter.unusedSimpArgs false
namespace Go.Proofs.Ytpcapijakenjbaa.Lex
open Go.RowKit Go.Proofs.Ytpcapijakenjbaa.Sl
def resOf : Nat ⊕ List TokV → List TokV × Nat × Nat
  | .inl q => ([], q, 2)
  | .inr l => (l, 0, 0)
def cutV (s : List UInt8) : List TokV × Nat × Nat :=
  if 2000 < s.length then ([], 0, 3) else resOf (cutR s (skipAt s 0) [])
def measW (g n : Nat) (f : Value) (w : World) : Nat := match f with
  | .func (.func k) _ _ => 4 * leftAt g n w + (if k = 54 then 3 else 2)
  | _ => 0
theorem measW_of {wS w : World} {G : Gh} {g : Nat} {l : List As} {s : List UInt8} {a : Option Addr} {c : Nat} {st : CutV} (nx : Nx) (H : CutSt wS w G g l s a c st) : measW g s.length (fval nx) w = meas s nx st := by
  obtain ⟨ao, co, S⟩ := H
  have h := leftAt_of S s.length
  cases nx <;> simp [measW, fval, meas, h]
set_option maxHeartbeats 4000000 in
set_option maxRecDepth 100000 in
theorem cut_any (s : List UInt8) (a : Option Addr) (c : Nat) (w0 : World) (hs : Rd Rep.byte.slice w0 s [.slice a s.length c]) :
    Calls Try.prog 23 #[.slice a s.length c] w0 fun e w' => ∃ v, e = .returned (.tuple #[v, .int .i64 ((cutV s).2.1 : Int), .int .i64 ((cutV s).2.2 : Int)]) ∧ ∃ G2, GhLe (Gh.of w0) G2 ∧ (tokR.slice.within (fun b => w0.heap.size ≤ b)).K G2.heap G2.dom (cutV s).1 [v] ∧ St w' G2 [] := by
  have S := St.start w0
  replace hs := hs.start
  obtain ⟨hle, hmx⟩ : s.length ≤ c ∧ s.length ≤ maxLen := by obtain ⟨_, _, e, h1, h2⟩ := Rep.slice_len hs; injection e with _ _ e; subst e; exact ⟨h1, h2⟩
  rw [maxLen_eq] at hmx
  by_cases hlen : 2000 < s.length
  · have hv : cutV s = ([], 0, 3) := by unfold cutV; rw [if_pos hlen]
    rw [hv]
    go_enter Try.func23, Try.ntmps23
    go_wp2_with (first | (apply q1; first | refine ld S ?_ | (refine st S ?_; clear S; intro w S) | refine lda S ?_ | (refine sta S ?_; clear S; intro w S) | refine ldr S ?_ | refine ldw ?_ | refine lar S ?_ | refine law ?_ | refine so S ?_ | refine sv S ?_ | refine sk S ?_ | refine sr ?_ | refine ct ?_ | (refine sl ?_; (try simp only [Int.toNat_natCast, Int.toNat_zero, Nat.mul_one])) | (refine slf ?_; (try simp only [Int.toNat_natCast, Int.toNat_zero, Nat.mul_one])) | (refine slt ?_; (try simp only [Int.toNat_natCast, Int.toNat_zero, Nat.mul_one])) | refine ix ?_))
    ((first | apply fin0 rfl | apply fin0n rfl | apply fin1n rfl | apply fin1 rfl | apply fin2 rfl | apply fin3 rfl); (focus (repeat (first | exact ResV.nil | refine ResV.tmp (by rfl) ?_ | refine ResV.cell (by rfl) (load_agg_run tabs S (by rfl) (by (with_reducible repeat' (first | exact Pick.here | apply Pick.there))) (by first | (simp only [List.drop_succ_cons, List.drop_zero, List.take_succ_cons, List.take_zero, List.drop_nil, List.take_nil]; rfl) | rfl) (by first | rfl | (simp; done))) ?_ | refine ResV.cell (by rfl) (load_cell_run tabs S (by rfl) (by (with_reducible repeat' (first | exact Pick.here | apply Pick.there))) (by rfl)) ?_))); (focus rfl))
    exact ⟨_, rfl, _, GhLe.refl _, Rep.slice_nil _ _ _, S⟩
  obtain ⟨res, hres⟩ : ∃ res, cutR s (skipAt s 0) [] = res := ⟨_, rfl⟩
  have hv : Hd (cutV s = resOf res) := ⟨by unfold cutV; rw [if_neg hlen, hres]⟩
  replace hres := Hd.mk hres
  have hlen2 : s.length ≤ 2000 := by omega
  generalize hGe : Gh.of w0 = G at *
  replace hGe : GhLe (Gh.of w0) G := hGe ▸ GhLe.refl _
  have hnn : ∀ w, (binOp .neq 117 .nilFunc .nilFunc).run Try.prog w = .ok (.bool false) w := fun w => neq_nil_nil w Try.underlying117
  have hnf : ∀ f a b w, (binOp .neq 117 (.func f a b) .nilFunc).run Try.prog w = .ok (.bool true) w := fun f a b w => neq_fn_nil w Try.underlying117 f a b
  have hsH := Hd.mk hs
  clear hs
  go_enter Try.func23, Try.ntmps23
  have tk0 : True := trivial
  go_wp2_with (first | (have _t := tk0; clear _t tk0; (apply wpl_of_seq); (apply sq_box S rfl rfl); (focus (go_simp; first | done | rfl | (repeat' (first | rfl | apply And.intro)))); clear S; intro g w S) | (apply q1; first | refine ld S ?_ | (refine st S ?_; clear S; intro w S) | refine lda S ?_ | (refine sta S ?_; clear S; intro w S) | refine ldr S ?_ | refine ldw ?_ | refine lar S ?_ | refine law ?_ | refine so S ?_ | refine sv S ?_ | refine sk S ?_ | refine sr ?_ | refine ct ?_ | (refine sl ?_; (try simp only [Int.toNat_natCast, Int.toNat_zero, Nat.mul_one])) | (refine slf ?_; (try simp only [Int.toNat_natCast, Int.toNat_zero, Nat.mul_one])) | (refine slt ?_; (try simp only [Int.toNat_natCast, Int.toNat_zero, Nat.mul_one])) | refine ix ?_))
  replace S := S.ownNil (r := true) (A := tokR.within (fun b => w0.heap.size ≤ b)) (e := 52)
  go_loopw [6] (fun f wr => ∃ nx st G2, f = fval nx ∧ GhLe G G2 ∧ CutSt w0 wr G2 g [] s a c st ∧ InvV s res nx st) (fun f wr => measW g s.length f wr)
  case atStart =>
    refine ⟨.between, ⟨0, 0, [], false⟩, G, rfl, GhLe.refl _, ⟨none, 0, S.pick (.there .here)⟩, rfl, ?_, ?_, ?_, hres.out⟩
    · exact Nat.zero_le _
    · exact Nat.zero_le _
    · exact Nat.zero_le _
  case round =>
    clear S
    obtain ⟨nx, st, G2, rfl, hG2, H, hI⟩ := hrel
    have hmeas := Hd.mk (measW_of nx H)
    have hstep := Hd.mk (fun k (hk : StepOK k nx) => hk w0 wr G2 g [] s a c st res (hGe.trans hG2) (hG2.K hsH.out) hlen2 hI H)
    cases nx with
    | stop =>
      simp only [fval]
      obtain ⟨ao, co, S⟩ := H
      obtain ⟨pos, frm, out, bad⟩ := st
      obtain ⟨hI1, hI2⟩ := hI
      dsimp only at hI1 S
      cases bad with
      | true =>
        replace hI1 := Hd.mk hI1
        go_wp2_with (first | (apply q1; first | refine ld S ?_ | (refine st S ?_; clear S; intro w S) | refine lda S ?_ | (refine sta S ?_; clear S; intro w S) | refine ldr S ?_ | refine ldw ?_ | refine lar S ?_ | refine law ?_ | refine so S ?_ | refine sv S ?_ | refine sk S ?_ | refine sr ?_ | refine ct ?_ | (refine sl ?_; (try simp only [Int.toNat_natCast, Int.toNat_zero, Nat.mul_one])) | (refine slf ?_; (try simp only [Int.toNat_natCast, Int.toNat_zero, Nat.mul_one])) | (refine slt ?_; (try simp only [Int.toNat_natCast, Int.toNat_zero, Nat.mul_one])) | refine ix ?_))
        all_goals (repeat' (first | ((replace S := S.drew; refine vr_start (id := 8) (by kernel_rfl) ?_; repeat' ((try refine vp 0 ?_); (try refine vp 1 ?_); (try refine vp 2 ?_); (try (first | refine vls 3 [] S ?_ | refine vlr 3 [] S ?_ | refine vlw 3 [] ?_ | refine vas 3 [] S ?_ | refine var 3 [] S ?_ | refine vaw 3 [] ?_)); (try refine vp 4 ?_); (try refine vp 5 ?_); (try refine vp 6 ?_); refine vd ?_)); (all_goals (try (go_wp2_with (first | (apply q1; first | refine ld S ?_ | (refine st S ?_; clear S; intro w S) | refine lda S ?_ | (refine sta S ?_; clear S; intro w S) | refine ldr S ?_ | refine ldw ?_ | refine lar S ?_ | refine law ?_ | refine so S ?_ | refine sv S ?_ | refine sk S ?_ | refine sr ?_ | refine ct ?_ | (refine sl ?_; (try simp only [Int.toNat_natCast, Int.toNat_zero, Nat.mul_one])) | (refine slf ?_; (try simp only [Int.toNat_natCast, Int.toNat_zero, Nat.mul_one])) | (refine slt ?_; (try simp only [Int.toNat_natCast, Int.toNat_zero, Nat.mul_one])) | refine ix ?_))))))))
        all_goals ((first | apply fin0 rfl | apply fin0n rfl | apply fin1n rfl | apply fin1 rfl | apply fin2 rfl | apply fin3 rfl); (focus (repeat (first | exact ResV.nil | refine ResV.tmp (by rfl) ?_ | refine ResV.cell (by rfl) (load_agg_run tabs S (by rfl) (by (with_reducible repeat' (first | exact Pick.here | apply Pick.there))) (by first | (simp only [List.drop_succ_cons, List.drop_zero, List.take_succ_cons, List.take_zero, List.drop_nil, List.take_nil]; rfl) | rfl) (by first | rfl | (simp; done))) ?_ | refine ResV.cell (by rfl) (load_cell_run tabs S (by rfl) (by (with_reducible repeat' (first | exact Pick.here | apply Pick.there))) (by rfl)) ?_))); (focus rfl))
        all_goals
          rw [hv.out, ← hI1.out]
          exact ⟨_, rfl, G2, hG2, Rep.slice_nil _ _ _, S.sub (Sub.nil _)⟩
      | false =>
        replace hI1 := Hd.mk hI1
        go_wp2_with (first | (apply q1; first | refine ld S ?_ | (refine st S ?_; clear S; intro w S) | refine lda S ?_ | (refine sta S ?_; clear S; intro w S) | refine ldr S ?_ | refine ldw ?_ | refine lar S ?_ | refine law ?_ | refine so S ?_ | refine sv S ?_ | refine sk S ?_ | refine sr ?_ | refine ct ?_ | (refine sl ?_; (try simp only [Int.toNat_natCast, Int.toNat_zero, Nat.mul_one])) | (refine slf ?_; (try simp only [Int.toNat_natCast, Int.toNat_zero, Nat.mul_one])) | (refine slt ?_; (try simp only [Int.toNat_natCast, Int.toNat_zero, Nat.mul_one])) | refine ix ?_))
        all_goals (repeat' (first | ((replace S := S.drew; refine vr_start (id := 8) (by kernel_rfl) ?_; repeat' ((try refine vp 0 ?_); (try refine vp 1 ?_); (try refine vp 2 ?_); (try (first | refine vls 3 [] S ?_ | refine vlr 3 [] S ?_ | refine vlw 3 [] ?_ | refine vas 3 [] S ?_ | refine var 3 [] S ?_ | refine vaw 3 [] ?_)); (try refine vp 4 ?_); (try refine vp 5 ?_); (try refine vp 6 ?_); refine vd ?_)); (all_goals (try (go_wp2_with (first | (apply q1; first | refine ld S ?_ | (refine st S ?_; clear S; intro w S) | refine lda S ?_ | (refine sta S ?_; clear S; intro w S) | refine ldr S ?_ | refine ldw ?_ | refine lar S ?_ | refine law ?_ | refine so S ?_ | refine sv S ?_ | refine sk S ?_ | refine sr ?_ | refine ct ?_ | (refine sl ?_; (try simp only [Int.toNat_natCast, Int.toNat_zero, Nat.mul_one])) | (refine slf ?_; (try simp only [Int.toNat_natCast, Int.toNat_zero, Nat.mul_one])) | (refine slt ?_; (try simp only [Int.toNat_natCast, Int.toNat_zero, Nat.mul_one])) | refine ix ?_))))))))
        all_goals ((first | apply fin0 rfl | apply fin0n rfl | apply fin1n rfl | apply fin1 rfl | apply fin2 rfl | apply fin3 rfl); (focus (repeat (first | exact ResV.nil | refine ResV.tmp (by rfl) ?_ | refine ResV.cell (by rfl) (load_agg_run tabs S (by rfl) (by (with_reducible repeat' (first | exact Pick.here | apply Pick.there))) (by first | (simp only [List.drop_succ_cons, List.drop_zero, List.take_succ_cons, List.take_zero, List.drop_nil, List.take_nil]; rfl) | rfl) (by first | rfl | (simp; done))) ?_ | refine ResV.cell (by rfl) (load_cell_run tabs S (by rfl) (by (with_reducible repeat' (first | exact Pick.here | apply Pick.there))) (by rfl)) ?_))); (focus rfl))
        all_goals
          rw [hv.out, ← hI1.out]
          obtain ⟨G3, hG3, k3, S⟩ := (S.pick (.there .here)).frzA (hGe.trans hG2) (fun _ h => h)
          exact ⟨_, rfl, G3, hG2.trans hG3, k3, S.sub (Sub.nil _)⟩
    | between =>
      replace hstep := Hd.mk (hstep.out _ between_step)
      clear H hI
      simp only [fval]
      have tk0 : True := trivial
      go_wp2_with (first | (have _t := tk0; clear _t tk0; go_at_call 54; refine hstep.out.mono ?_; rintro e w ⟨nx, st', G3, rfl, hG3, H, hI, hm⟩) | (apply q1; first | refine ld S ?_ | (refine st S ?_; clear S; intro w S) | refine lda S ?_ | (refine sta S ?_; clear S; intro w S) | refine ldr S ?_ | refine ldw ?_ | refine lar S ?_ | refine law ?_ | refine so S ?_ | refine sv S ?_ | refine sk S ?_ | refine sr ?_ | refine ct ?_ | (refine sl ?_; (try simp only [Int.toNat_natCast, Int.toNat_zero, Nat.mul_one])) | (refine slf ?_; (try simp only [Int.toNat_natCast, Int.toNat_zero, Nat.mul_one])) | (refine slt ?_; (try simp only [Int.toNat_natCast, Int.toNat_zero, Nat.mul_one])) | refine ix ?_))
      go_roundw
      case rel => exact ⟨nx, st', G3, rfl, hG2.trans hG3, H, hI⟩
      case measure =>
        have h1 := hmeas.out
        simp only [fval] at h1
        rw [h1, measW_of nx H]
        exact hm
    | word =>
      replace hstep := Hd.mk (hstep.out _ word_step)
      clear H hI
      simp only [fval]
      have tk0 : True := trivial
      go_wp2_with (first | (have _t := tk0; clear _t tk0; go_at_call 88; refine hstep.out.mono ?_; rintro e w ⟨nx, st', G3, rfl, hG3, H, hI, hm⟩) | (apply q1; first | refine ld S ?_ | (refine st S ?_; clear S; intro w S) | refine lda S ?_ | (refine sta S ?_; clear S; intro w S) | refine ldr S ?_ | refine ldw ?_ | refine lar S ?_ | refine law ?_ | refine so S ?_ | refine sv S ?_ | refine sk S ?_ | refine sr ?_ | refine ct ?_ | (refine sl ?_; (try simp only [Int.toNat_natCast, Int.toNat_zero, Nat.mul_one])) | (refine slf ?_; (try simp only [Int.toNat_natCast, Int.toNat_zero, Nat.mul_one])) | (refine slt ?_; (try simp only [Int.toNat_natCast, Int.toNat_zero, Nat.mul_one])) | refine ix ?_))
      go_roundw
      case rel => exact ⟨nx, st', G3, rfl, hG2.trans hG3, H, hI⟩
      case measure =>
        have h1 := hmeas.out
        simp only [fval] at h1
        rw [h1, measW_of nx H]
        exact hm
    | number =>
      replace hstep := Hd.mk (hstep.out _ number_step)
      clear H hI
      simp only [fval]
      have tk0 : True := trivial
      go_wp2_with (first | (have _t := tk0; clear _t tk0; go_at_call 90; refine hstep.out.mono ?_; rintro e w ⟨nx, st', G3, rfl, hG3, H, hI, hm⟩) | (apply q1; first | refine ld S ?_ | (refine st S ?_; clear S; intro w S) | refine lda S ?_ | (refine sta S ?_; clear S; intro w S) | refine ldr S ?_ | refine ldw ?_ | refine lar S ?_ | refine law ?_ | refine so S ?_ | refine sv S ?_ | refine sk S ?_ | refine sr ?_ | refine ct ?_ | (refine sl ?_; (try simp only [Int.toNat_natCast, Int.toNat_zero, Nat.mul_one])) | (refine slf ?_; (try simp only [Int.toNat_natCast, Int.toNat_zero, Nat.mul_one])) | (refine slt ?_; (try simp only [Int.toNat_natCast, Int.toNat_zero, Nat.mul_one])) | refine ix ?_))
      go_roundw
      case rel => exact ⟨nx, st', G3, rfl, hG2.trans hG3, H, hI⟩
      case measure =>
        have h1 := hmeas.out
        simp only [fval] at h1
        rw [h1, measW_of nx H]
        exact hm
    | text =>
      replace hstep := Hd.mk (hstep.out _ text_step)
      clear H hI
      simp only [fval]
      have tk0 : True := trivial
      go_wp2_with (first | (have _t := tk0; clear _t tk0; go_at_call 91; refine hstep.out.mono ?_; rintro e w ⟨nx, st', G3, rfl, hG3, H, hI, hm⟩) | (apply q1; first | refine ld S ?_ | (refine st S ?_; clear S; intro w S) | refine lda S ?_ | (refine sta S ?_; clear S; intro w S) | refine ldr S ?_ | refine ldw ?_ | refine lar S ?_ | refine law ?_ | refine so S ?_ | refine sv S ?_ | refine sk S ?_ | refine sr ?_ | refine ct ?_ | (refine sl ?_; (try simp only [Int.toNat_natCast, Int.toNat_zero, Nat.mul_one])) | (refine slf ?_; (try simp only [Int.toNat_natCast, Int.toNat_zero, Nat.mul_one])) | (refine slt ?_; (try simp only [Int.toNat_natCast, Int.toNat_zero, Nat.mul_one])) | refine ix ?_))
      go_roundw
      case rel => exact ⟨nx, st', G3, rfl, hG2.trans hG3, H, hI⟩
      case measure =>
        have h1 := hmeas.out
        simp only [fval] at h1
        rw [h1, measW_of nx H]
        exact hm
end Go.Proofs.Ytpcapijakenjbaa.Lex
