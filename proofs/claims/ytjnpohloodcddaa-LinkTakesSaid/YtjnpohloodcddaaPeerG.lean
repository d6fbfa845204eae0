/- peer: the reference feeds. -/
import Derived.Test.YtjnpohloodcddaaPeerL
set_option linter.unusedVariables false
set_option linter.unusedSimpArgs false
namespace Go.Proofs.Ytjnpohloodcddaa.Peer
open Go.RowKit Go.Proofs.Ytjnpohloodcddaa.Sl
/-- The reference's device in its variable. -/
def RfSt (w : World) (G : Gh) (b4 b6 : Nat) (l : List As) (p : PeerV) : Prop :=
  ∃ a3 c3, strL.slice.K G.heap G.dom p.lines [.slice a3 p.lines.length c3] ∧ IntKind.inR .i64 p.st ∧ St w G (Cs b6 [.int .i64 0, .string ⟨#[]⟩, .string ⟨#[]⟩, .slice none 0 0] 47 :: Cs b4 [.int .i64 p.st, .string ⟨p.part.toArray⟩, .string ⟨p.log.toArray⟩, .slice a3 p.lines.length c3] 47 :: l)
set_option maxHeartbeats 4000000 in
set_option maxRecDepth 100000 in
theorem fref_any (rv bv : Value) (rules : List RuleV) (p : PeerV) (cs : List Value) (b : List UInt8) (M : Nat) (G : Gh) (l : List As) (w0 : World) (S : St w0 G l) (hr : ruleR.slice.K G.heap G.dom rules [rv]) (hp : refR.K G.heap G.dom p cs) (hb : Rep.byte.slice.K G.heap G.dom b [bv])
    (h1 : p.part.length + b.length ≤ 1000000000) (h2 : p.log.length + b.length * M ≤ 1000000000) (h3 : p.lines.length + b.length ≤ 1000000000) (h4 : ∀ r ∈ rules, r.line.length ≤ M ∧ r.out.length ≤ M) (h5 : M ≤ 1000000000) :
    Calls Try.prog 32 #[rv, .agg cs.toArray, bv] w0 fun e w' => ∃ cs', e = .returned (.agg cs'.toArray) ∧ ∃ G', GhLe G G' ∧ refR.K G'.heap G'.dom (feedV rules p b) cs' ∧ St w' G' l := by
  obtain ⟨x3, d3, rfl, hin, hp1, hp2, k3⟩ := ref_out hp
  obtain ⟨xb, db, rfl, _, hmb⟩ := Rep.slice_len hb
  rw [maxLen_eq] at hmb
  obtain ⟨xr, dr, rfl, _, _⟩ := Rep.slice_len hr
  have hrH := Hd.mk hr
  have hslb := Hd.mk (Rep.slice_sl hb)
  go_enter Try.func32, Try.ntmps32
  have tk0 : True := trivial
  have tk1 : True := trivial
  go_wp2_with (first | (have _t := tk0; clear _t tk0; (apply wpl_of_seq); (apply sq_box S rfl rfl); (focus (go_simp; first | done | rfl | (repeat' (first | rfl | apply And.intro)))); clear S; intro b4 w S) | (have _t := tk1; clear _t tk1; (apply wpl_of_seq); (apply sq_alloc S rfl rfl); (focus (go_simp; first | done | rfl | (repeat' (first | rfl | apply And.intro)))); clear S; intro b6 w S) | ((apply wpl_of_seq); (refine sq_load tabs S rfl rfl (by rfl) (by rfl) (by (with_reducible repeat' (first | exact Pick.here | apply Pick.there))) (by rfl) ?_)) | ((apply wpl_of_seq); (apply sq_store tabs S); (focus (rfl)); (focus (rfl)); (focus (rfl)); (focus (rfl)); (focus (rfl)); (focus (first | (go_simp; rfl) | (go_simp; done) | rfl)); (focus (rfl)); (focus ((with_reducible repeat' (first | exact Upd.here | apply Upd.there)))); (focus (first | (simp; done) | (simp; omega) | omega)); clear S; intro w S; (try simp only [List.set_cons_zero, List.set_cons_succ] at S)) | ((apply wpl_of_seq); (refine sq_load_agg tabs S rfl rfl (by rfl) (by rfl) (by (with_reducible repeat' (first | exact Pick.here | apply Pick.there))) (by first | (simp only [List.drop_succ_cons, List.drop_zero, List.take_succ_cons, List.take_zero, List.drop_nil, List.take_nil]; rfl) | rfl) (by first | rfl | (simp; done)) ?_)) | ((apply wpl_of_seq); (apply sq_store_agg tabs S); (focus (rfl)); (focus (rfl)); (focus (rfl)); (focus (first | (go_simp; rfl) | (go_simp; done) | rfl)); (focus (first | rfl | (simp; done) | (simp; rfl))); (focus (rfl)); (focus (first | rfl | (simp; done))); (focus ((with_reducible repeat' (first | exact Upd.here | apply Upd.there)))); (focus (first | (simp; done) | (simp; omega) | omega)); clear S; intro w S; (try simp only [splice, List.take_succ_cons, List.take_zero, List.drop_succ_cons, List.drop_zero, List.drop_nil, List.nil_append, List.cons_append, List.append_nil, List.length_cons, List.length_nil, Nat.reduceAdd] at S)) | ((apply wpl_of_seq); (apply sq_load_ro tabs); (focus rfl); (focus rfl); (focus rfl); (focus rfl); (focus (first | assumption | exact S.roCell (by assumption)))) | ((apply wpl_of_seq); (apply sq_load_agg_ro tabs); (focus rfl); (focus rfl); (focus rfl); (focus rfl); (focus assumption); (focus rfl)))
  have H : RfSt w G b4 b6 l p := ⟨_, _, k3, hin, S⟩
  clear S hr k3 hb
  go_loopw [7] (fun i wr => ∃ G2, ∃ j : Nat, j ≤ b.length ∧ i = .int .i64 j ∧ GhLe G G2 ∧ RfSt wr G2 b4 b6 l (feedV rules p (b.take j))) (fun i _ => b.length - (intOf i).toNat)
  case atStart => exact ⟨G, 0, by omega, rfl, GhLe.refl G, H⟩
  case round =>
    clear H
    obtain ⟨G1, j, hj, rfl, hG1, H⟩ := hrel
    by_cases hlt : j < b.length
    · have hlj := Hd.mk (List.getElem?_eq_getElem hlt)
      obtain ⟨ad, rfl, hc⟩ := Rep.bytes_at hslb.out hlj.out
      have hbd := feedV_bound rules M (fun r hr => (h4 r hr).2) (b.take j) p
      have hstep := Hd.mk (feedV_take rules p b hlj.out)
      have hlen : (b.take j).length = j := by simp; omega
      rw [hlen] at hbd
      clear hlen
      have hjM : j * M ≤ b.length * M := Nat.mul_le_mul_right M hj
      generalize b[j] = c at *
      generalize feedV rules p (b.take j) = q at *
      have hq1 : q.part.length ≤ 1000000000 := by omega
      have hq2 : q.log.length ≤ 1000000000 := by omega
      have hq3 : q.lines.length ≤ 1000000000 := by omega
      clear hbd hjM
      obtain ⟨a3, c3, k3, hin3, S⟩ := H
      have hcell := S.roCell (cell_le hc hG1.le)
      by_cases hc10 : c = 10
      · subst hc10
        have hst : stepV rules q 10 = lineV rules q q.part := by simp [stepV]
        have tk0 : True := trivial
        go_wp2_with (first | (have _t := tk0; clear _t tk0; go_at_call 62; refine (line_any _ rules q _ q.part G1 _ _ S (hG1.K hrH.out) (ref_in hin3 (by rw [maxLen_eq]; omega) (by rw [maxLen_eq]; omega) k3) hq3 hq2 hq1 (fun r hr => ⟨Nat.le_trans (h4 r hr).1 h5, Nat.le_trans (h4 r hr).2 h5⟩)).mono ?_; rintro e w ⟨cs', rfl, G2, hG2, hk2, S1⟩; clear S; replace S := S1; clear S1; obtain ⟨x5, d5, rfl, hin5, hl1, hl2, k5⟩ := ref_out hk2) | ((apply wpl_of_seq); (refine sq_load tabs S rfl rfl (by rfl) (by rfl) (by (with_reducible repeat' (first | exact Pick.here | apply Pick.there))) (by rfl) ?_)) | ((apply wpl_of_seq); (apply sq_store tabs S); (focus (rfl)); (focus (rfl)); (focus (rfl)); (focus (rfl)); (focus (rfl)); (focus (first | (go_simp; rfl) | (go_simp; done) | rfl)); (focus (rfl)); (focus ((with_reducible repeat' (first | exact Upd.here | apply Upd.there)))); (focus (first | (simp; done) | (simp; omega) | omega)); clear S; intro w S; (try simp only [List.set_cons_zero, List.set_cons_succ] at S)) | ((apply wpl_of_seq); (refine sq_load_agg tabs S rfl rfl (by rfl) (by rfl) (by (with_reducible repeat' (first | exact Pick.here | apply Pick.there))) (by first | (simp only [List.drop_succ_cons, List.drop_zero, List.take_succ_cons, List.take_zero, List.drop_nil, List.take_nil]; rfl) | rfl) (by first | rfl | (simp; done)) ?_)) | ((apply wpl_of_seq); (apply sq_store_agg tabs S); (focus (rfl)); (focus (rfl)); (focus (rfl)); (focus (first | (go_simp; rfl) | (go_simp; done) | rfl)); (focus (first | rfl | (simp; done) | (simp; rfl))); (focus (rfl)); (focus (first | rfl | (simp; done))); (focus ((with_reducible repeat' (first | exact Upd.here | apply Upd.there)))); (focus (first | (simp; done) | (simp; omega) | omega)); clear S; intro w S; (try simp only [splice, List.take_succ_cons, List.take_zero, List.drop_succ_cons, List.drop_zero, List.drop_nil, List.nil_append, List.cons_append, List.append_nil, List.length_cons, List.length_nil, Nat.reduceAdd] at S)) | ((apply wpl_of_seq); (apply sq_load_ro tabs); (focus rfl); (focus rfl); (focus rfl); (focus rfl); (focus (first | assumption | exact S.roCell (by assumption)))) | ((apply wpl_of_seq); (apply sq_load_agg_ro tabs); (focus rfl); (focus rfl); (focus rfl); (focus rfl); (focus assumption); (focus rfl)))
        go_roundw
        case rel => exact ⟨G2, j + 1, by omega, by go_num, hG1.trans hG2, by rw [hstep.out, hst]; exact ⟨_, _, k5, hin5, S⟩⟩
        case measure => simp [intOf]; omega
      have hc10' : ((c.toNat : Int) == 10) = false := by
        have : c.toNat ≠ 10 := fun h => hc10 (UInt8.toNat_inj.1 (by simpa using h))
        simp; omega
      by_cases hc21 : c = 21
      · subst hc21
        have hst : stepV rules q 21 = { q with part := [] } := by simp [stepV]
        go_wp2_with (first | ((apply wpl_of_seq); (refine sq_load tabs S rfl rfl (by rfl) (by rfl) (by (with_reducible repeat' (first | exact Pick.here | apply Pick.there))) (by rfl) ?_)) | ((apply wpl_of_seq); (apply sq_store tabs S); (focus (rfl)); (focus (rfl)); (focus (rfl)); (focus (rfl)); (focus (rfl)); (focus (first | (go_simp; rfl) | (go_simp; done) | rfl)); (focus (rfl)); (focus ((with_reducible repeat' (first | exact Upd.here | apply Upd.there)))); (focus (first | (simp; done) | (simp; omega) | omega)); clear S; intro w S; (try simp only [List.set_cons_zero, List.set_cons_succ] at S)) | ((apply wpl_of_seq); (refine sq_load_agg tabs S rfl rfl (by rfl) (by rfl) (by (with_reducible repeat' (first | exact Pick.here | apply Pick.there))) (by first | (simp only [List.drop_succ_cons, List.drop_zero, List.take_succ_cons, List.take_zero, List.drop_nil, List.take_nil]; rfl) | rfl) (by first | rfl | (simp; done)) ?_)) | ((apply wpl_of_seq); (apply sq_store_agg tabs S); (focus (rfl)); (focus (rfl)); (focus (rfl)); (focus (first | (go_simp; rfl) | (go_simp; done) | rfl)); (focus (first | rfl | (simp; done) | (simp; rfl))); (focus (rfl)); (focus (first | rfl | (simp; done))); (focus ((with_reducible repeat' (first | exact Upd.here | apply Upd.there)))); (focus (first | (simp; done) | (simp; omega) | omega)); clear S; intro w S; (try simp only [splice, List.take_succ_cons, List.take_zero, List.drop_succ_cons, List.drop_zero, List.drop_nil, List.nil_append, List.cons_append, List.append_nil, List.length_cons, List.length_nil, Nat.reduceAdd] at S)) | ((apply wpl_of_seq); (apply sq_load_ro tabs); (focus rfl); (focus rfl); (focus rfl); (focus rfl); (focus (first | assumption | exact S.roCell (by assumption)))) | ((apply wpl_of_seq); (apply sq_load_agg_ro tabs); (focus rfl); (focus rfl); (focus rfl); (focus rfl); (focus assumption); (focus rfl)))
        go_roundw
        case rel => exact ⟨G1, j + 1, by omega, by go_num, hG1, by rw [hstep.out, hst]; exact ⟨_, _, k3, hin3, S⟩⟩
        case measure => simp [intOf]; omega
      have hc21' : ((c.toNat : Int) == 21) = false := by
        have : c.toNat ≠ 21 := fun h => hc21 (UInt8.toNat_inj.1 (by simpa using h))
        simp; omega
      by_cases hsh : q.part.length < 300
      · have hst : stepV rules q c = { q with part := q.part ++ [c] } := by simp [stepV, hc10, hc21, hsh]
        have tk0 : True := trivial
        have tk1 : True := trivial
        have tk2 : True := trivial
        go_wp2_with (first | (have _t := tk0; clear _t tk0; (apply wpl_of_seq); (apply sq_lit S rfl rfl); (focus (go_simp; first | done | rfl | (repeat' (first | rfl | apply And.intro)))); clear S; intro g w S) | (have _t := tk1; clear _t tk1; (apply wpl_of_seq); (apply sq_str tabs); (focus (rfl)); (focus (rfl)); (focus (rfl)); (focus (rfl)); (focus (rfl)); (focus (exact (S.rdLit (xs := [c]) Pick.here rfl rfl (by simp [maxLen]))))) | (have _t := tk2; clear _t tk2; apply wpl_of_seq; (refine sq_cat (xs := q.part) (ys := [c]) rfl rfl (by rfl) (by rfl) (by simp; omega) ?_)) | ((apply wpl_of_seq); (refine sq_load tabs S rfl rfl (by rfl) (by rfl) (by (with_reducible repeat' (first | exact Pick.here | apply Pick.there))) (by rfl) ?_)) | ((apply wpl_of_seq); (apply sq_store tabs S); (focus (rfl)); (focus (rfl)); (focus (rfl)); (focus (rfl)); (focus (rfl)); (focus (first | (go_simp; rfl) | (go_simp; done) | rfl)); (focus (rfl)); (focus ((with_reducible repeat' (first | exact Upd.here | apply Upd.there)))); (focus (first | (simp; done) | (simp; omega) | omega)); clear S; intro w S; (try simp only [List.set_cons_zero, List.set_cons_succ] at S)) | ((apply wpl_of_seq); (refine sq_load_agg tabs S rfl rfl (by rfl) (by rfl) (by (with_reducible repeat' (first | exact Pick.here | apply Pick.there))) (by first | (simp only [List.drop_succ_cons, List.drop_zero, List.take_succ_cons, List.take_zero, List.drop_nil, List.take_nil]; rfl) | rfl) (by first | rfl | (simp; done)) ?_)) | ((apply wpl_of_seq); (apply sq_store_agg tabs S); (focus (rfl)); (focus (rfl)); (focus (rfl)); (focus (first | (go_simp; rfl) | (go_simp; done) | rfl)); (focus (first | rfl | (simp; done) | (simp; rfl))); (focus (rfl)); (focus (first | rfl | (simp; done))); (focus ((with_reducible repeat' (first | exact Upd.here | apply Upd.there)))); (focus (first | (simp; done) | (simp; omega) | omega)); clear S; intro w S; (try simp only [splice, List.take_succ_cons, List.take_zero, List.drop_succ_cons, List.drop_zero, List.drop_nil, List.nil_append, List.cons_append, List.append_nil, List.length_cons, List.length_nil, Nat.reduceAdd] at S)) | ((apply wpl_of_seq); (apply sq_load_ro tabs); (focus rfl); (focus rfl); (focus rfl); (focus rfl); (focus (first | assumption | exact S.roCell (by assumption)))) | ((apply wpl_of_seq); (apply sq_load_agg_ro tabs); (focus rfl); (focus rfl); (focus rfl); (focus rfl); (focus assumption); (focus rfl)))
        go_roundw
        case rel =>
          refine ⟨G1, j + 1, by omega, by go_num, hG1, ?_⟩
          rw [hstep.out, hst]
          exact ⟨_, _, k3, hin3, S.drop⟩
        case measure => simp [intOf]; omega
      · have hst : stepV rules q c = q := by simp [stepV, hc10, hc21, hsh]
        go_wp2_with (first | ((apply wpl_of_seq); (refine sq_load tabs S rfl rfl (by rfl) (by rfl) (by (with_reducible repeat' (first | exact Pick.here | apply Pick.there))) (by rfl) ?_)) | ((apply wpl_of_seq); (apply sq_store tabs S); (focus (rfl)); (focus (rfl)); (focus (rfl)); (focus (rfl)); (focus (rfl)); (focus (first | (go_simp; rfl) | (go_simp; done) | rfl)); (focus (rfl)); (focus ((with_reducible repeat' (first | exact Upd.here | apply Upd.there)))); (focus (first | (simp; done) | (simp; omega) | omega)); clear S; intro w S; (try simp only [List.set_cons_zero, List.set_cons_succ] at S)) | ((apply wpl_of_seq); (refine sq_load_agg tabs S rfl rfl (by rfl) (by rfl) (by (with_reducible repeat' (first | exact Pick.here | apply Pick.there))) (by first | (simp only [List.drop_succ_cons, List.drop_zero, List.take_succ_cons, List.take_zero, List.drop_nil, List.take_nil]; rfl) | rfl) (by first | rfl | (simp; done)) ?_)) | ((apply wpl_of_seq); (apply sq_store_agg tabs S); (focus (rfl)); (focus (rfl)); (focus (rfl)); (focus (first | (go_simp; rfl) | (go_simp; done) | rfl)); (focus (first | rfl | (simp; done) | (simp; rfl))); (focus (rfl)); (focus (first | rfl | (simp; done))); (focus ((with_reducible repeat' (first | exact Upd.here | apply Upd.there)))); (focus (first | (simp; done) | (simp; omega) | omega)); clear S; intro w S; (try simp only [splice, List.take_succ_cons, List.take_zero, List.drop_succ_cons, List.drop_zero, List.drop_nil, List.nil_append, List.cons_append, List.append_nil, List.length_cons, List.length_nil, Nat.reduceAdd] at S)) | ((apply wpl_of_seq); (apply sq_load_ro tabs); (focus rfl); (focus rfl); (focus rfl); (focus rfl); (focus (first | assumption | exact S.roCell (by assumption)))) | ((apply wpl_of_seq); (apply sq_load_agg_ro tabs); (focus rfl); (focus rfl); (focus rfl); (focus rfl); (focus assumption); (focus rfl)))
        go_roundw
        case rel => exact ⟨G1, j + 1, by omega, by go_num, hG1, by rw [hstep.out, hst]; exact ⟨_, _, k3, hin3, S⟩⟩
        case measure => simp [intOf]; omega
    · obtain rfl : j = b.length := by omega
      rw [List.take_length] at H
      have hbd := feedV_bound rules M (fun r hr => (h4 r hr).2) b p
      obtain ⟨a3, c3, k3, hin3, S⟩ := H
      go_wp2_with (first | ((apply wpl_of_seq); (refine sq_load tabs S rfl rfl (by rfl) (by rfl) (by (with_reducible repeat' (first | exact Pick.here | apply Pick.there))) (by rfl) ?_)) | ((apply wpl_of_seq); (apply sq_store tabs S); (focus (rfl)); (focus (rfl)); (focus (rfl)); (focus (rfl)); (focus (rfl)); (focus (first | (go_simp; rfl) | (go_simp; done) | rfl)); (focus (rfl)); (focus ((with_reducible repeat' (first | exact Upd.here | apply Upd.there)))); (focus (first | (simp; done) | (simp; omega) | omega)); clear S; intro w S; (try simp only [List.set_cons_zero, List.set_cons_succ] at S)) | ((apply wpl_of_seq); (refine sq_load_agg tabs S rfl rfl (by rfl) (by rfl) (by (with_reducible repeat' (first | exact Pick.here | apply Pick.there))) (by first | (simp only [List.drop_succ_cons, List.drop_zero, List.take_succ_cons, List.take_zero, List.drop_nil, List.take_nil]; rfl) | rfl) (by first | rfl | (simp; done)) ?_)) | ((apply wpl_of_seq); (apply sq_store_agg tabs S); (focus (rfl)); (focus (rfl)); (focus (rfl)); (focus (first | (go_simp; rfl) | (go_simp; done) | rfl)); (focus (first | rfl | (simp; done) | (simp; rfl))); (focus (rfl)); (focus (first | rfl | (simp; done))); (focus ((with_reducible repeat' (first | exact Upd.here | apply Upd.there)))); (focus (first | (simp; done) | (simp; omega) | omega)); clear S; intro w S; (try simp only [splice, List.take_succ_cons, List.take_zero, List.drop_succ_cons, List.drop_zero, List.drop_nil, List.nil_append, List.cons_append, List.append_nil, List.length_cons, List.length_nil, Nat.reduceAdd] at S)) | ((apply wpl_of_seq); (apply sq_load_ro tabs); (focus rfl); (focus rfl); (focus rfl); (focus rfl); (focus (first | assumption | exact S.roCell (by assumption)))) | ((apply wpl_of_seq); (apply sq_load_agg_ro tabs); (focus rfl); (focus rfl); (focus rfl); (focus rfl); (focus assumption); (focus rfl)))
      ((first | apply fin0 rfl | apply fin0n rfl | apply fin1n rfl | apply fin1 rfl | apply fin2 rfl | apply fin3 rfl); (focus (repeat (first | exact ResV.nil | refine ResV.tmp (by rfl) ?_ | refine ResV.cell (by rfl) (load_agg_run tabs S (by rfl) (by (with_reducible repeat' (first | exact Pick.here | apply Pick.there))) (by first | (simp only [List.drop_succ_cons, List.drop_zero, List.take_succ_cons, List.take_zero, List.drop_nil, List.take_nil]; rfl) | rfl) (by first | rfl | (simp; done))) ?_ | refine ResV.cell (by rfl) (load_cell_run tabs S (by rfl) (by (with_reducible repeat' (first | exact Pick.here | apply Pick.there))) (by rfl)) ?_))); (focus rfl))
      exact ⟨_, rfl, G1, hG1, ref_in hin3 (by rw [maxLen_eq]; omega) (by rw [maxLen_eq]; omega) k3, S.drop.drop⟩
end Go.Proofs.Ytjnpohloodcddaa.Peer
