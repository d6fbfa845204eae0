/- lex: the examples. -/
import Derived.Test.YtpcapijakenjbaaLexF
set_option linter.unusedVariables false
set_option linter.unusedSimpArgs false
namespace Go.Proofs.Ytpcapijakenjbaa.Lex
open Go.RowKit Go.Proofs.Ytpcapijakenjbaa.Sl
/-- All that lies now may be a ghost heap. -/
theorem St.toOf {w : World} {G : Gh} {l : List As} (S : St w G l) : GhLe G (Gh.of w) := ⟨fun b o h => S.ro b o h, S.os, S.tape, S.output⟩
theorem knows1 : cutV [115, 116, 101, 112, 32, 97, 49, 32, 34, 120, 92, 34, 121, 34, 32, 50, 48] = ([⟨1, 0, 0, [115, 116, 101, 112]⟩, ⟨1, 5, 0, [97, 49]⟩, ⟨3, 8, 0, [120, 34, 121]⟩, ⟨2, 15, 20, []⟩], 0, 0) := by rfl
theorem knows2 : cutV [97, 32, 63] = ([], 2, 2) := by rfl
set_option maxHeartbeats 2000000 in
set_option maxRecDepth 100000 in
theorem knows_any (w0 : World) : Calls Try.prog 22 #[] w0 fun e w' => e = .returned (.bool true) ∧ Below w0.heap.size w0 w' := by
  have S := St.start w0
  generalize hGe : Gh.of w0 = G at *
  replace hGe : GhLe (Gh.of w0) G := hGe ▸ GhLe.refl _
  go_enter Try.func22, Try.ntmps22
  have tk0 : True := trivial
  have tk1 : True := trivial
  have tk2 : True := trivial
  have tk3 : True := trivial
  have tk4 : True := trivial
  have tk5 : True := trivial
  go_wp2_with (first | (have _t := tk0; clear _t tk0; (apply wpl_of_seq); (apply sq_lit S rfl rfl); (focus (go_simp; first | done | rfl | (repeat' (first | rfl | apply And.intro)))); clear S; intro g w S) | (have _t := tk1; clear _t tk1; (apply wpl_of_seq); (refine sq_text tabs (xs := [115, 116, 101, 112, 32, 97, 49, 32, 34, 120, 92, 34, 121, 34, 32, 50, 48]) S rfl rfl (by rfl) (by rfl) (by rfl) (by simp) (by simp [maxLen]) ?_); clear S; intro w S) | (have _t := tk2; clear _t tk2; go_at_call 23; have hu := St.toOf S; refine (cut_any [115, 116, 101, 112, 32, 97, 49, 32, 34, 120, 92, 34, 121, 34, 32, 50, 48] _ _ _ (S.rdVal Pick.here)).mono ?_; rw [knows1]; rintro e w ⟨v, rfl, G2, hG2, hk2, S1⟩; clear S; replace S := S1; clear S1; replace hG2 := (hGe.trans hu).trans hG2; clear hu; obtain ⟨xt, ct, rfl, _, _⟩ := Rep.slice_len hk2) | (have _t := tk3; clear _t tk3; (apply wpl_of_seq); (apply sq_lit S rfl rfl); (focus (go_simp; first | done | rfl | (repeat' (first | rfl | apply And.intro)))); clear S; intro g2 w S) | (have _t := tk4; clear _t tk4; (apply wpl_of_seq); (refine sq_text tabs (xs := [97, 32, 63]) S rfl rfl (by rfl) (by rfl) (by rfl) (by simp) (by simp [maxLen]) ?_); clear S; intro w S) | (have _t := tk5; clear _t tk5; go_at_call 23; have hu := St.toOf S; refine (cut_any [97, 32, 63] _ _ _ (S.rdVal Pick.here)).mono ?_; rw [knows2]; rintro e w ⟨v, rfl, G3, hG3, hk3, S1⟩; clear S; replace S := S1; clear S1; replace hG3 := hu.trans hG3; clear hu) | (apply q1; first | refine ld S ?_ | (refine st S ?_; clear S; intro w S) | refine lda S ?_ | (refine sta S ?_; clear S; intro w S) | refine ldr S ?_ | refine ldw ?_ | refine lar S ?_ | refine law ?_ | refine so S ?_ | refine sv S ?_ | refine sk S ?_ | refine sr ?_ | refine ct ?_ | (refine sl ?_; (try simp only [Int.toNat_natCast, Int.toNat_zero, Nat.mul_one])) | (refine slf ?_; (try simp only [Int.toNat_natCast, Int.toNat_zero, Nat.mul_one])) | (refine slt ?_; (try simp only [Int.toNat_natCast, Int.toNat_zero, Nat.mul_one])) | refine ix ?_))
  have hK := hG3.K (Rep.within_out hk2)
  have hsl := Rep.slice_sl hK
  obtain ⟨ad, cs1, rfl, k1, c1⟩ := row_at hsl (j := 1) rfl 4 rfl
  obtain ⟨_, cs2, e2, k2, c2⟩ := row_at hsl (j := 2) rfl 4 rfl
  cases e2
  obtain ⟨_, cs3, e3, k3, c3⟩ := row_at hsl (j := 3) rfl 4 rfl
  cases e3
  obtain ⟨a1, d1, rfl, _, _, _, _⟩ := tok_out k1
  obtain ⟨a2, d2, rfl, _, _, _, kt⟩ := tok_out k2
  obtain ⟨a3, d3, rfl, _, _, _, _⟩ := tok_out k3
  have f1 := S.roCell (c1 0 _ rfl)
  have f2 : w.cell? ⟨(ad.add (2 * 4)).block, (ad.add (2 * 4)).off + 3, none⟩ = _ := S.roCell (c2 3 _ rfl)
  have f3 : w.cell? ⟨(ad.add (3 * 4)).block, (ad.add (3 * 4)).off + 2, none⟩ = _ := S.roCell (c3 2 _ rfl)
  clear c1 c2 c3 hk2 hK hsl k1 k2 k3
  rw [Rep.add_zero'] at f1
  simp only [Nat.one_mul, Nat.reduceMul, List.length_cons, List.length_nil, Nat.reduceAdd, Nat.zero_add] at f1 f2 f3 kt
  go_wp2_with (first | (apply q1; first | refine ld S ?_ | (refine st S ?_; clear S; intro w S) | refine lda S ?_ | (refine sta S ?_; clear S; intro w S) | refine ldr S ?_ | refine ldw ?_ | refine lar S ?_ | refine law ?_ | refine so S ?_ | refine sv S ?_ | refine sk S ?_ | refine sr ?_ | refine ct ?_ | (refine sl ?_; (try simp only [Int.toNat_natCast, Int.toNat_zero, Nat.mul_one])) | (refine slf ?_; (try simp only [Int.toNat_natCast, Int.toNat_zero, Nat.mul_one])) | (refine slt ?_; (try simp only [Int.toNat_natCast, Int.toNat_zero, Nat.mul_one])) | refine ix ?_))
  all_goals ((first | apply fin0 rfl | apply fin0n rfl | apply fin1n rfl | apply fin1 rfl | apply fin2 rfl | apply fin3 rfl); (focus (repeat (first | exact ResV.nil | refine ResV.tmp (by rfl) ?_ | refine ResV.cell (by rfl) (load_agg_run tabs S (by rfl) (by (with_reducible repeat' (first | exact Pick.here | apply Pick.there))) (by first | (simp only [List.drop_succ_cons, List.drop_zero, List.take_succ_cons, List.take_zero, List.drop_nil, List.take_nil]; rfl) | rfl) (by first | rfl | (simp; done))) ?_ | refine ResV.cell (by rfl) (load_cell_run tabs S (by rfl) (by (with_reducible repeat' (first | exact Pick.here | apply Pick.there))) (by rfl)) ?_))); (focus rfl))
  all_goals exact ⟨rfl, (hG2.trans hG3).below S⟩
end Go.Proofs.Ytpcapijakenjbaa.Lex
