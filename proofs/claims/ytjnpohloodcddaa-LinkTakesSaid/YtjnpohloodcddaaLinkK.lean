/- link: the examples. -/
import Derived.Test.YtjnpohloodcddaaLinkC
set_option linter.unusedVariables false
set_option linter.unusedSimpArgs false
namespace Go.Proofs.Ytjnpohloodcddaa.Peer
open Go.RowKit Go.Proofs.Ytjnpohloodcddaa.Sl
theorem K_up {α : Type} {A : Rep α} {G G' : Gh} {x : α} {cs : List Value} (hk : A.K G.heap G.dom x cs) (h : GhLe G G') : A.K G'.heap G'.dom x cs := h.K hk
theorem Sm.mono {k m : Nat} {p : PeerV} (h : Sm k p) (hk : k ≤ m) : Sm m p := ⟨by have := h.1; omega, by have := h.2.1; omega, by have := h.2.2.1; omega, fun x hx => Nat.le_trans (h.2.2.2 x hx) (by omega)⟩
theorem sm0 (st : Int) : Sm 0 ⟨st, [], [], []⟩ := ⟨by simp, by simp, by simp, by simp⟩
theorem attach_lk_yes (rules : List RuleV) (p : PeerV) (off : Int) (at_ g : Nat) (G : Gh) (l : List As) (w0 : World) (H : LkSt w0 G g l rules p at_) (h : attOk off p.log.length = true) :
    Calls Try.prog 57 #[.pointer (some ⟨g, 0, none⟩), .int .i64 off] w0 fun e w' => e = .returned (.int .i64 0) ∧ LkSt w' G g l rules p off.toNat := by
  refine (attach_lk rules p off at_ g G l w0 H).mono ?_
  rintro e w (⟨_, h1, h2⟩ | ⟨h0, _, _⟩)
  · exact ⟨h1, h2⟩
  · rw [h] at h0; cases h0
theorem attach_lk_no (rules : List RuleV) (p : PeerV) (off : Int) (at_ g : Nat) (G : Gh) (l : List As) (w0 : World) (H : LkSt w0 G g l rules p at_) (h : attOk off p.log.length = false) :
    Calls Try.prog 57 #[.pointer (some ⟨g, 0, none⟩), .int .i64 off] w0 fun e w' => e = .returned (.int .i64 1) ∧ LkSt w' G g l rules p at_ := by
  refine (attach_lk rules p off at_ g G l w0 H).mono ?_
  rintro e w (⟨h0, _, _⟩ | ⟨_, h1, h2⟩)
  · rw [h] at h0; cases h0
  · exact ⟨h1, h2⟩
theorem attach_rk_yes (rules : List RuleV) (p : PeerV) (off : Int) (at_ g : Nat) (G : Gh) (l : List As) (w0 : World) (H : RkSt w0 G g l rules p at_) (hl : p.log.length ≤ 1000000000) (h : attOk off p.log.length = true) :
    Calls Try.prog 58 #[.pointer (some ⟨g, 0, none⟩), .int .i64 off] w0 fun e w' => e = .returned (.int .i64 0) ∧ RkSt w' G g l rules p off.toNat := by
  refine (attach_rk rules p off at_ g G l w0 H hl).mono ?_
  rintro e w (⟨_, h1, h2⟩ | ⟨h0, _, _⟩)
  · exact ⟨h1, h2⟩
  · rw [h] at h0; cases h0
theorem attach_rk_no (rules : List RuleV) (p : PeerV) (off : Int) (at_ g : Nat) (G : Gh) (l : List As) (w0 : World) (H : RkSt w0 G g l rules p at_) (hl : p.log.length ≤ 1000000000) (h : attOk off p.log.length = false) :
    Calls Try.prog 58 #[.pointer (some ⟨g, 0, none⟩), .int .i64 off] w0 fun e w' => e = .returned (.int .i64 1) ∧ RkSt w' G g l rules p at_ := by
  refine (attach_rk rules p off at_ g G l w0 H hl).mono ?_
  rintro e w (⟨h0, _, _⟩ | ⟨_, h1, h2⟩)
  · rw [h] at h0; cases h0
  · exact ⟨h1, h2⟩
theorem kn_feed : feedV [] ⟨0, [], [], []⟩ ((lineB [104, 105]).take (roomN 3 (([104, 105] : List UInt8).length + 2))) = ⟨0, [104, 105], [], []⟩ := by
  simp [feedV, lineB, roomN, stepV]
theorem kn_room : decide ((([104, 105] : List UInt8).length + 2 : Int) ≤ 3) = false := by decide
set_option maxHeartbeats 4000000 in
set_option maxRecDepth 100000 in
theorem knows_lk (G : Gh) (l : List As) (w0 : World) (S : St w0 G l) :
    Calls Try.prog 49 #[] w0 fun e w' => e = .returned (.bool true) ∧ ∃ G', GhLe G G' ∧ St w' G' l := by
  go_enter Try.func49, Try.ntmps49
  have tk0 : True := trivial
  have tk1 : True := trivial
  have tk2 : True := trivial
  have tk3 : True := trivial
  have tk4 : True := trivial
  have tk5 : True := trivial
  have tk6 : True := trivial
  have tk7 : True := trivial
  have tk8 : True := trivial
  go_wp2_with (first | (have _t := tk0; clear _t tk0; go_at_call 50; refine (new_lk _ [] G _ _ S (Rep.slice_nil _ _ _) (by simp) (by simp)).mono ?_; clear S; rintro e w ⟨g, rfl, G1, hG1, xr, dr, x1, d1, x2, d2, x3, d3, kr, kp, ha, S⟩) | (have _t := tk1; clear _t tk1; (apply wpl_of_seq); (apply sq_lit S rfl rfl); (focus (go_simp; first | done | rfl | (repeat' (first | rfl | apply And.intro)))); clear S; intro h1 w S) | ((have _t := tk2; clear _t tk2; (apply wpl_of_seq); (refine sq_text tabs (xs := [104, 105]) S rfl rfl (by rfl) (by rfl) (by rfl) (by simp) (by simp [maxLen]) ?_); clear S; intro w S); obtain ⟨Gt, hGt, kt, S1⟩ := S.frzVal; clear S; replace S := S1; clear S1) | (have _t := tk3; clear _t tk3; go_at_call 51; refine (send_lk _ [] ⟨0, [], [], []⟩ [104, 105] 3 0 g _ _ _ 0 ⟨xr, dr, x1, d1, x2, d2, x3, d3, GhLe.K (by first | exact GhLe.refl _ | (repeat' (first | assumption | (refine GhLe.trans (by assumption) ?_)))) kr, GhLe.K (by first | exact GhLe.refl _ | (repeat' (first | assumption | (refine GhLe.trans (by assumption) ?_)))) kp, ha, S⟩ kt (by omega) (sm0 0) (by simp) (by simp)).mono ?_; rw [kn_room, kn_feed]; clear S; rintro e w ⟨rfl, G2, hG2, H⟩) | (have _t := tk4; clear _t tk4; go_at_call 52; refine (peer_lk [] ⟨0, [104, 105], [], []⟩ 0 g _ _ _ 1 H (by omega) ⟨by simp, by simp, by simp, by simp⟩).mono ?_; clear H; rintro e w ⟨cs', rfl, G3, hG3, hq, xr', dr', u1, v1, u2, v2, u3, v3, kr', kp', ha', S⟩; obtain ⟨y1, z1, y2, z2, y3, z3, rfl, hin, e1, e2, e3⟩ := peer_out hq; simp only [List.length_cons, List.length_nil, Nat.zero_add] at e1 e2 e3) | (have _t := tk5; clear _t tk5; (apply wpl_of_seq); (apply sq_alloc S rfl rfl); (focus (go_simp; first | done | rfl | (repeat' (first | rfl | apply And.intro)))); clear S; intro b4 w S) | (have _t := tk6; clear _t tk6; go_at_call 51; refine (send_nil _ 9 _ _ _ S).mono ?_; clear S; rintro e w ⟨rfl, S⟩) | (have _t := tk7; clear _t tk7; go_at_call 57; refine (attach_nil 0 _ _ _ S).mono ?_; clear S; rintro e w ⟨rfl, S⟩) | (have _t := tk8; clear _t tk8; go_at_call 57; have S2 := S.pick (A := Cs g _ _) (by with_reducible repeat' (first | exact Pick.here | apply Pick.there)); have H2 : LkSt _ _ g _ [] ⟨0, [104, 105], [], []⟩ 0 := ⟨xr', dr', u1, v1, u2, v2, u3, v3, kr', kp', ha', S2⟩; refine (attach_lk_yes [] ⟨0, [104, 105], [], []⟩ 0 0 g _ _ _ H2 (by decide)).mono ?_; clear S2 H2; clear S; rintro e w ⟨rfl, H⟩) | ((apply wpl_of_seq); (refine sq_load tabs S rfl rfl (by rfl) (by rfl) (by (with_reducible repeat' (first | exact Pick.here | apply Pick.there))) (by rfl) ?_)) | ((apply wpl_of_seq); (apply sq_store tabs S); (focus (rfl)); (focus (rfl)); (focus (rfl)); (focus (rfl)); (focus (rfl)); (focus (first | (go_simp; rfl) | (go_simp; done) | rfl)); (focus (rfl)); (focus ((with_reducible repeat' (first | exact Upd.here | apply Upd.there)))); (focus (first | (simp; done) | (simp; omega) | omega)); clear S; intro w S; (try simp only [List.set_cons_zero, List.set_cons_succ] at S)) | ((apply wpl_of_seq); (refine sq_load_agg tabs S rfl rfl (by rfl) (by rfl) (by (with_reducible repeat' (first | exact Pick.here | apply Pick.there))) (by first | (simp only [List.drop_succ_cons, List.drop_zero, List.take_succ_cons, List.take_zero, List.drop_nil, List.take_nil]; rfl) | rfl) (by first | rfl | (simp; done)) ?_)) | ((apply wpl_of_seq); (apply sq_store_agg tabs S); (focus (rfl)); (focus (rfl)); (focus (rfl)); (focus (first | (go_simp; rfl) | (go_simp; done) | rfl)); (focus (first | rfl | (simp; done) | (simp; rfl))); (focus (rfl)); (focus (first | rfl | (simp; done))); (focus ((with_reducible repeat' (first | exact Upd.here | apply Upd.there)))); (focus (first | (simp; done) | (simp; omega) | omega)); clear S; intro w S; (try simp only [splice, List.take_succ_cons, List.take_zero, List.drop_succ_cons, List.drop_zero, List.drop_nil, List.nil_append, List.cons_append, List.append_nil, List.length_cons, List.length_nil, Nat.reduceAdd] at S)) | ((apply wpl_of_seq); (apply sq_load_ro tabs); (focus rfl); (focus rfl); (focus rfl); (focus rfl); (focus (first | assumption | exact S.roCell (by assumption)))) | ((apply wpl_of_seq); (apply sq_load_agg_ro tabs); (focus rfl); (focus rfl); (focus rfl); (focus rfl); (focus assumption); (focus rfl)) | ((apply wpl_of_seq); (apply sq_load_agg_ro tabs); (focus rfl); (focus rfl); (focus rfl); (focus rfl); (focus (exact S.aggRo (by assumption))); (focus rfl)) | ((apply wpl_of_seq); (apply sq_str tabs); (focus rfl); (focus rfl); (focus rfl); (focus rfl); (focus rfl); (focus (first | exact St.rdOwn S (by (with_reducible repeat' (first | exact Pick.here | apply Pick.there))) | exact St.rdVal S (by (with_reducible repeat' (first | exact Pick.here | apply Pick.there))) | exact S.rd (by assumption) | assumption))) | ((apply wpl_of_seq); (refine sq_cat rfl rfl (by rfl) (by rfl) (by (try simp only [Sl.maxLen_eq, List.length_append, List.length_cons, List.length_nil, List.length_take, List.length_drop, List.length_map, List.length_replicate, Nat.zero_add, Nat.mul_one]); (try omega)) ?_)) | ((apply wpl_of_seq); (refine sq_sl tabs rfl rfl (by rfl) (by rfl) (by rfl) (by rfl) (by omega) ?_); (try simp only [Int.toNat_natCast, Int.toNat_zero, Nat.mul_one])) | ((apply wpl_of_seq); (refine sq_slf tabs rfl rfl (by rfl) (by rfl) (by rfl) (by omega) ?_); (try simp only [Int.toNat_natCast, Int.toNat_zero, Nat.mul_one])) | ((apply wpl_of_seq); (refine sq_slt tabs rfl rfl (by rfl) (by rfl) (by rfl) (by omega) ?_); (try simp only [Int.toNat_natCast, Int.toNat_zero, Nat.mul_one])) | ((apply wpl_of_seq); (refine sq_idx tabs rfl rfl (by rfl) (by rfl) (by rfl) ?_ ?_); (focus (refine ⟨_, ?_, by assumption⟩; omega))))
  all_goals ((first | apply fin0 rfl | apply fin0n rfl | apply fin1n rfl | apply fin1 rfl | apply fin2 rfl | apply fin3 rfl); (focus (repeat (first | exact ResV.nil | refine ResV.tmp (by rfl) ?_ | refine ResV.cell (by rfl) (load_agg_run tabs S (by rfl) (by (with_reducible repeat' (first | exact Pick.here | apply Pick.there))) (by first | (simp only [List.drop_succ_cons, List.drop_zero, List.take_succ_cons, List.take_zero, List.drop_nil, List.take_nil]; rfl) | rfl) (by first | rfl | (simp; done))) ?_ | refine ResV.cell (by rfl) (load_cell_run tabs S (by rfl) (by (with_reducible repeat' (first | exact Pick.here | apply Pick.there))) (by rfl)) ?_))); (focus rfl))
  all_goals obtain ⟨_, _, _, _, _, _, _, _, _, _, _, S⟩ := H
  all_goals exact ⟨rfl, G3, (by first | exact GhLe.refl _ | (repeat' (first | assumption | (refine GhLe.trans (by assumption) ?_)))), S.drop.drop⟩
end Go.Proofs.Ytjnpohloodcddaa.Peer
