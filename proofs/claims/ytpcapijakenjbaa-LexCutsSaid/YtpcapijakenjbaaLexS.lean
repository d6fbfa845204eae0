/- lex: equal tokens are the same to the reference. -/
import Derived.Test.YtpcapijakenjbaaLex
set_option linter.unusedVariables false
set_option linter.unusedSimpArgs false
namespace Go.Proofs.Ytpcapijakenjbaa.Lex
open Go.RowKit Go.Proofs.Ytpcapijakenjbaa.Sl
set_option maxHeartbeats 4000000 in
set_option maxRecDepth 100000 in
theorem same_any (l1 : List TokV) (a b : Option Addr) (c d : Nat) (w0 : World) (h1 : Rd tokR.slice w0 l1 [.slice a l1.length c]) (h2 : Rd tokR.slice w0 l1 [.slice b l1.length d]) :
    Calls Try.prog 25 #[.slice a l1.length c, .slice b l1.length d] w0 fun e w' => e = .returned (.bool true) ∧ Below w0.heap.size w0 w' := by
  have S := St.start w0
  replace h1 := h1.start
  replace h2 := h2.start
  obtain ⟨_, _, _, _, hmx⟩ := Rep.slice_len h1
  rw [maxLen_eq] at hmx
  have hsl := Hd.mk (Rep.slice_sl h1)
  have hsl2 := Hd.mk (Rep.slice_sl h2)
  have hle : l1.length ≤ c := by obtain ⟨_, _, e, h1, h2⟩ := Rep.slice_len h1; injection e with _ _ e; subst e; exact h1
  have hle2 : l1.length ≤ d := by obtain ⟨_, _, e, h1, h2⟩ := Rep.slice_len h2; injection e with _ _ e; subst e; exact h1
  clear h1 h2
  generalize hGe : Gh.of w0 = G at *
  replace hGe : GhLe (Gh.of w0) G := hGe ▸ GhLe.refl _
  go_enter Try.func25, Try.ntmps25
  go_wp2_with (first | (apply q1; first | refine ld S ?_ | (refine st S ?_; clear S; intro w S) | refine lda S ?_ | (refine sta S ?_; clear S; intro w S) | refine ldr S ?_ | refine ldw ?_ | refine lar S ?_ | refine law ?_ | refine so S ?_ | refine sv S ?_ | refine sk S ?_ | refine sr ?_ | refine ct ?_ | (refine sl ?_; (try simp only [Int.toNat_natCast, Int.toNat_zero, Nat.mul_one])) | (refine slf ?_; (try simp only [Int.toNat_natCast, Int.toNat_zero, Nat.mul_one])) | (refine slt ?_; (try simp only [Int.toNat_natCast, Int.toNat_zero, Nat.mul_one])) | refine ix ?_))
  go_loopw [5] (fun i wr => ∃ j : Nat, j ≤ l1.length ∧ i = .int .i64 j ∧ St wr G []) (fun i _ => l1.length - (intOf i).toNat)
  case atStart => exact ⟨0, by omega, rfl, S⟩
  case round =>
    clear S
    obtain ⟨j, hj, rfl, S⟩ := hrel
    by_cases hlt : j < l1.length
    · have hlj := Hd.mk (List.getElem?_eq_getElem hlt)
      obtain ⟨ad, cs1, rfl, k1, c1⟩ := row_at hsl.out hlj.out 4 rfl
      obtain ⟨ad2, cs2, rfl, k2, c2⟩ := row_at hsl2.out hlj.out 4 rfl
      generalize l1[j] = t at *
      obtain ⟨a1, d1, rfl, _, _, _, kt1⟩ := tok_out k1
      obtain ⟨a2, d2, rfl, _, _, _, kt2⟩ := tok_out k2
      have f0 := c1 0 _ rfl
      have f1 : cellH G.heap ⟨(ad.add (j * 4)).block, (ad.add (j * 4)).off + 1, none⟩ = _ := c1 1 _ rfl
      have f2 : cellH G.heap ⟨(ad.add (j * 4)).block, (ad.add (j * 4)).off + 2, none⟩ = _ := c1 2 _ rfl
      have f3 : cellH G.heap ⟨(ad.add (j * 4)).block, (ad.add (j * 4)).off + 3, none⟩ = _ := c1 3 _ rfl
      have g0 := c2 0 _ rfl
      have g1 : cellH G.heap ⟨(ad2.add (j * 4)).block, (ad2.add (j * 4)).off + 1, none⟩ = _ := c2 1 _ rfl
      have g2 : cellH G.heap ⟨(ad2.add (j * 4)).block, (ad2.add (j * 4)).off + 2, none⟩ = _ := c2 2 _ rfl
      have g3 : cellH G.heap ⟨(ad2.add (j * 4)).block, (ad2.add (j * 4)).off + 3, none⟩ = _ := c2 3 _ rfl
      rw [Rep.add_zero'] at f0 g0
      clear c1 c2 k1 k2
      go_wp2_with (first | (apply q1; first | refine ld S ?_ | (refine st S ?_; clear S; intro w S) | refine lda S ?_ | (refine sta S ?_; clear S; intro w S) | refine ldr S ?_ | refine ldw ?_ | refine lar S ?_ | refine law ?_ | refine so S ?_ | refine sv S ?_ | refine sk S ?_ | refine sr ?_ | refine ct ?_ | (refine sl ?_; (try simp only [Int.toNat_natCast, Int.toNat_zero, Nat.mul_one])) | (refine slf ?_; (try simp only [Int.toNat_natCast, Int.toNat_zero, Nat.mul_one])) | (refine slt ?_; (try simp only [Int.toNat_natCast, Int.toNat_zero, Nat.mul_one])) | refine ix ?_))
      all_goals (repeat' (first | ((replace S := S.drew; refine vr_start (id := 6) (by kernel_rfl) ?_; repeat' ((try refine vp 0 ?_); (try refine vp 1 ?_); (try refine vp 2 ?_); (try refine vp 3 ?_); (try (first | refine vls 4 [] S ?_ | refine vlr 4 [] S ?_ | refine vlw 4 [] ?_ | refine vas 4 [] S ?_ | refine var 4 [] S ?_ | refine vaw 4 [] ?_)); (try refine vp 5 ?_); (try refine vp 6 ?_); (try refine vp 7 ?_); (try refine vp 8 ?_); (try (first | refine vls 9 [] S ?_ | refine vlr 9 [] S ?_ | refine vlw 9 [] ?_ | refine vas 9 [] S ?_ | refine var 9 [] S ?_ | refine vaw 9 [] ?_)); (try refine vp 10 ?_); (try refine vp 11 ?_); (try (first | refine vp 12 ?_ | refine vg 12 ?_)); (try (first | refine vp 13 ?_ | refine vg 13 ?_)); (try (first | refine vp 14 ?_ | refine vg 14 ?_)); (try (first | refine vp 15 ?_ | refine vg 15 ?_)); (try (first | refine vls 16 [] S ?_ | refine vlr 16 [] S ?_ | refine vlw 16 [] ?_ | refine vas 16 [] S ?_ | refine var 16 [] S ?_ | refine vaw 16 [] ?_ | refine vg 16 ?_)); (try (first | refine vp 17 ?_ | refine vg 17 ?_)); (try (first | refine vp 18 ?_ | refine vg 18 ?_)); (try (first | refine vp 19 ?_ | refine vg 19 ?_)); (try (first | refine vp 20 ?_ | refine vg 20 ?_)); (try (first | refine vls 21 [] S ?_ | refine vlr 21 [] S ?_ | refine vlw 21 [] ?_ | refine vas 21 [] S ?_ | refine var 21 [] S ?_ | refine vaw 21 [] ?_ | refine vg 21 ?_)); (try (first | refine vp 22 ?_ | refine vg 22 ?_)); (try refine vp 23 ?_); (try refine vp 24 ?_); (try (first | refine vp 25 ?_ | refine vg 25 ?_)); (try (first | refine vp 26 ?_ | refine vg 26 ?_)); (try (first | refine vp 27 ?_ | refine vg 27 ?_)); (try (first | refine vp 28 ?_ | refine vg 28 ?_)); (try (first | refine vls 29 [] S ?_ | refine vlr 29 [] S ?_ | refine vlw 29 [] ?_ | refine vas 29 [] S ?_ | refine var 29 [] S ?_ | refine vaw 29 [] ?_ | refine vg 29 ?_)); (try (first | refine vp 30 ?_ | refine vg 30 ?_)); (try (first | refine vp 31 ?_ | refine vg 31 ?_)); (try (first | refine vp 32 ?_ | refine vg 32 ?_)); (try (first | refine vp 33 ?_ | refine vg 33 ?_)); (try (first | refine vls 34 [] S ?_ | refine vlr 34 [] S ?_ | refine vlw 34 [] ?_ | refine vas 34 [] S ?_ | refine var 34 [] S ?_ | refine vaw 34 [] ?_ | refine vg 34 ?_)); (try (first | refine vp 35 ?_ | refine vg 35 ?_)); (try refine vp 36 ?_); (try refine vp 37 ?_); (try (first | refine vp 38 ?_ | refine vg 38 ?_)); (try (first | refine vp 39 ?_ | refine vg 39 ?_)); (try (first | refine vp 40 ?_ | refine vg 40 ?_)); (try (first | refine vp 41 ?_ | refine vg 41 ?_)); (try (first | refine vls 42 [] S ?_ | refine vlr 42 [] S ?_ | refine vlw 42 [] ?_ | refine vas 42 [] S ?_ | refine var 42 [] S ?_ | refine vaw 42 [] ?_ | refine vg 42 ?_)); (try (first | refine vso 43 [] S ?_ | refine vsv 43 [] S ?_ | refine vsk 43 [] S ?_ | refine vsw 43 [] ?_ | refine vg 43 ?_)); (try (first | refine vp 44 ?_ | refine vg 44 ?_)); (try (first | refine vp 45 ?_ | refine vg 45 ?_)); (try (first | refine vp 46 ?_ | refine vg 46 ?_)); (try (first | refine vp 47 ?_ | refine vg 47 ?_)); (try (first | refine vls 48 [] S ?_ | refine vlr 48 [] S ?_ | refine vlw 48 [] ?_ | refine vas 48 [] S ?_ | refine var 48 [] S ?_ | refine vaw 48 [] ?_ | refine vg 48 ?_)); (try (first | refine vso 49 [] S ?_ | refine vsv 49 [] S ?_ | refine vsk 49 [] S ?_ | refine vsw 49 [] ?_ | refine vg 49 ?_)); (try (first | refine vp 50 ?_ | refine vg 50 ?_)); (try refine vp 51 ?_); refine vd ?_)); (all_goals (try (go_wp2_with (first | (apply q1; first | refine ld S ?_ | (refine st S ?_; clear S; intro w S) | refine lda S ?_ | (refine sta S ?_; clear S; intro w S) | refine ldr S ?_ | refine ldw ?_ | refine lar S ?_ | refine law ?_ | refine so S ?_ | refine sv S ?_ | refine sk S ?_ | refine sr ?_ | refine ct ?_ | (refine sl ?_; (try simp only [Int.toNat_natCast, Int.toNat_zero, Nat.mul_one])) | (refine slf ?_; (try simp only [Int.toNat_natCast, Int.toNat_zero, Nat.mul_one])) | (refine slt ?_; (try simp only [Int.toNat_natCast, Int.toNat_zero, Nat.mul_one])) | refine ix ?_))))))))
      go_roundw
      case rel => exact ⟨j + 1, by omega, by go_num, S⟩
      case measure => simp [intOf]; omega
    · obtain rfl : j = l1.length := by omega
      go_wp2_with (first | (apply q1; first | refine ld S ?_ | (refine st S ?_; clear S; intro w S) | refine lda S ?_ | (refine sta S ?_; clear S; intro w S) | refine ldr S ?_ | refine ldw ?_ | refine lar S ?_ | refine law ?_ | refine so S ?_ | refine sv S ?_ | refine sk S ?_ | refine sr ?_ | refine ct ?_ | (refine sl ?_; (try simp only [Int.toNat_natCast, Int.toNat_zero, Nat.mul_one])) | (refine slf ?_; (try simp only [Int.toNat_natCast, Int.toNat_zero, Nat.mul_one])) | (refine slt ?_; (try simp only [Int.toNat_natCast, Int.toNat_zero, Nat.mul_one])) | refine ix ?_))
      ((first | apply fin0 rfl | apply fin0n rfl | apply fin1n rfl | apply fin1 rfl | apply fin2 rfl | apply fin3 rfl); (focus (repeat (first | exact ResV.nil | refine ResV.tmp (by rfl) ?_ | refine ResV.cell (by rfl) (load_agg_run tabs S (by rfl) (by (with_reducible repeat' (first | exact Pick.here | apply Pick.there))) (by first | (simp only [List.drop_succ_cons, List.drop_zero, List.take_succ_cons, List.take_zero, List.drop_nil, List.take_nil]; rfl) | rfl) (by first | rfl | (simp; done))) ?_ | refine ResV.cell (by rfl) (load_cell_run tabs S (by rfl) (by (with_reducible repeat' (first | exact Pick.here | apply Pick.there))) (by rfl)) ?_))); (focus rfl))
      exact ⟨rfl, hGe.below S⟩
end Go.Proofs.Ytpcapijakenjbaa.Lex
