/- peer: what its values are; copying, comparing. -/
import Derived.Test.YtjnpohloodcddaaRo
import Derived.Test.YtjnpohloodcddaaInfo
import Derived.LoopTactic
import Derived.Outline
import Derived.BigRegion
import Derived.Lib.SliceRun
set_option linter.unusedVariables false
set_option linter.unusedSimpArgs false
namespace Go.Proofs.Ytjnpohloodcddaa.Peer
open Go.RowKit Go.Proofs.Ytjnpohloodcddaa.Sl
structure RuleV where
  st : Int
  line : List UInt8
  out : List UInt8
  next : Int
structure PeerV where
  st : Int
  part : List UInt8
  log : List UInt8
  lines : List (List UInt8)
def ruleR : Rep RuleV := Rep.iso (Rep.pair (Rep.int .i64) (Rep.pair Rep.byte.slice (Rep.pair Rep.byte.slice (Rep.int .i64)))) (fun r => (r.st, r.line, r.out, r.next))
def peerR : Rep PeerV := Rep.iso (Rep.pair (Rep.int .i64) (Rep.pair Rep.byte.slice (Rep.pair Rep.byte.slice Rep.byte.slice.slice))) (fun r => (r.st, r.part, r.log, r.lines))
section
variable {h : Hp} {F : Nat → Prop}
theorem rule_out {r : RuleV} {cs : List Value} (H : ruleR.K h F r cs) : ∃ a1 c1 a2 c2, cs = [.int .i64 r.st, .slice a1 r.line.length c1, .slice a2 r.out.length c2, .int .i64 r.next] ∧ IntKind.inR .i64 r.st ∧ IntKind.inR .i64 r.next ∧
    Rep.byte.slice.K h F r.line [.slice a1 r.line.length c1] ∧ Rep.byte.slice.K h F r.out [.slice a2 r.out.length c2] := by
  obtain ⟨c, d, rfl, ⟨rfl, h1⟩, c', d', rfl, h2, c'', d'', rfl, h3, rfl, h4⟩ := H
  obtain ⟨a1, c1, rfl, k1⟩ := h2
  obtain ⟨a2, c2, rfl, k2⟩ := h3
  exact ⟨a1, c1, a2, c2, rfl, h1, h4, ⟨a1, c1, rfl, k1⟩, ⟨a2, c2, rfl, k2⟩⟩
theorem rule_in {r : RuleV} {v1 v2 : Value} (h1 : IntKind.inR .i64 r.st) (h2 : IntKind.inR .i64 r.next) (k1 : Rep.byte.slice.K h F r.line [v1]) (k2 : Rep.byte.slice.K h F r.out [v2]) :
    ruleR.K h F r [.int .i64 r.st, v1, v2, .int .i64 r.next] :=
  ⟨[_], [v1, v2, _], rfl, ⟨rfl, h1⟩, [v1], [v2, _], rfl, k1, [v2], [_], rfl, k2, rfl, h2⟩
theorem peer_out {p : PeerV} {cs : List Value} (H : peerR.K h F p cs) : ∃ a1 c1 a2 c2 a3 c3, cs = [.int .i64 p.st, .slice a1 p.part.length c1, .slice a2 p.log.length c2, .slice a3 p.lines.length c3] ∧ IntKind.inR .i64 p.st ∧
    Rep.byte.slice.K h F p.part [.slice a1 p.part.length c1] ∧ Rep.byte.slice.K h F p.log [.slice a2 p.log.length c2] ∧ Rep.byte.slice.slice.K h F p.lines [.slice a3 p.lines.length c3] := by
  obtain ⟨c, d, rfl, ⟨rfl, h1⟩, c', d', rfl, h2, c'', d'', rfl, h3, h4⟩ := H
  obtain ⟨a1, c1, rfl, k1⟩ := h2
  obtain ⟨a2, c2, rfl, k2⟩ := h3
  obtain ⟨a3, c3, rfl, k3⟩ := h4
  exact ⟨a1, c1, a2, c2, a3, c3, rfl, h1, ⟨a1, c1, rfl, k1⟩, ⟨a2, c2, rfl, k2⟩, ⟨a3, c3, rfl, k3⟩⟩
theorem peer_in {p : PeerV} {v1 v2 v3 : Value} (h1 : IntKind.inR .i64 p.st) (k1 : Rep.byte.slice.K h F p.part [v1]) (k2 : Rep.byte.slice.K h F p.log [v2]) (k3 : Rep.byte.slice.slice.K h F p.lines [v3]) :
    peerR.K h F p [.int .i64 p.st, v1, v2, v3] :=
  ⟨[_], [v1, v2, v3], rfl, ⟨rfl, h1⟩, [v1], [v2, v3], rfl, k1, [v2], [v3], rfl, k2, k3⟩
end
theorem barr_eq (xs ys : List UInt8) : ((⟨xs.toArray⟩ : ByteArray) == ⟨ys.toArray⟩) = decide (xs = ys) := by
  show (xs.toArray == ys.toArray) = decide (xs = ys)
  by_cases h : xs = ys
  · subst h; simp
  · simp [h]
set_option maxHeartbeats 400000 in
set_option maxRecDepth 100000 in
theorem clone_any (v : Value) (xs : List UInt8) (hb : xs.length ≤ 140737488355328) (G : Gh) (l : List As) (w0 : World) (S : St w0 G l) (hk : Rep.byte.slice.K G.heap G.dom xs [v]) :
    Calls Try.prog 60 #[v] w0 fun e w' => ∃ a c, e = .returned (.slice a xs.length c) ∧ St w' G (Own true Rep.byte 5 (.slice a xs.length c) xs :: l) := by
  obtain ⟨ao, cp, e, _, _, h3⟩ := id hk
  obtain rfl : v = .slice ao xs.length cp := by injection e
  clear e
  have hnil : ∀ n w, (binOp .eql 22 (.slice ao n cp) (.slice none 0 0)).run Try.prog w = .ok (.bool ao.isNone) w := fun n w => Go.Lib.run_eql_slice_nil w _ _ ao n cp 0 0 Try.underlying22
  cases ao with
  | none =>
    obtain rfl : xs = [] := by
      by_cases hn : xs = []
      · exact hn
      · obtain ⟨ad, _, e, _⟩ := h3 hn
        cases e
    go_enter Try.func60, Try.ntmps60
    go_wp2_with (first | ((apply wpl_of_seq); (refine sq_load tabs S rfl rfl (by rfl) (by rfl) (by (with_reducible repeat' (first | exact Pick.here | apply Pick.there))) (by rfl) ?_)) | ((apply wpl_of_seq); (apply sq_store tabs S); (focus (rfl)); (focus (rfl)); (focus (rfl)); (focus (rfl)); (focus (rfl)); (focus (first | (go_simp; rfl) | (go_simp; done) | rfl)); (focus (rfl)); (focus ((with_reducible repeat' (first | exact Upd.here | apply Upd.there)))); (focus (first | (simp; done) | (simp; omega) | omega)); clear S; intro w S; (try simp only [List.set_cons_zero, List.set_cons_succ] at S)) | ((apply wpl_of_seq); (refine sq_load_agg tabs S rfl rfl (by rfl) (by rfl) (by (with_reducible repeat' (first | exact Pick.here | apply Pick.there))) (by first | (simp only [List.drop_succ_cons, List.drop_zero, List.take_succ_cons, List.take_zero, List.drop_nil, List.take_nil]; rfl) | rfl) (by first | rfl | (simp; done)) ?_)) | ((apply wpl_of_seq); (apply sq_store_agg tabs S); (focus (rfl)); (focus (rfl)); (focus (rfl)); (focus (first | (go_simp; rfl) | (go_simp; done) | rfl)); (focus (first | rfl | (simp; done) | (simp; rfl))); (focus (rfl)); (focus (first | rfl | (simp; done))); (focus ((with_reducible repeat' (first | exact Upd.here | apply Upd.there)))); (focus (first | (simp; done) | (simp; omega) | omega)); clear S; intro w S; (try simp only [splice, List.take_succ_cons, List.take_zero, List.drop_succ_cons, List.drop_zero, List.drop_nil, List.nil_append, List.cons_append, List.append_nil, List.length_cons, List.length_nil, Nat.reduceAdd] at S)) | ((apply wpl_of_seq); (apply sq_load_ro tabs); (focus rfl); (focus rfl); (focus rfl); (focus rfl); (focus (first | assumption | exact S.roCell (by assumption)))) | ((apply wpl_of_seq); (apply sq_load_agg_ro tabs); (focus rfl); (focus rfl); (focus rfl); (focus rfl); (focus assumption); (focus rfl)))
    ((first | apply fin0 rfl | apply fin0n rfl | apply fin1n rfl | apply fin1 rfl | apply fin2 rfl | apply fin3 rfl); (focus (repeat (first | exact ResV.nil | refine ResV.tmp (by rfl) ?_ | refine ResV.cell (by rfl) (load_agg_run tabs S (by rfl) (by (with_reducible repeat' (first | exact Pick.here | apply Pick.there))) (by first | (simp only [List.drop_succ_cons, List.drop_zero, List.take_succ_cons, List.take_zero, List.drop_nil, List.take_nil]; rfl) | rfl) (by first | rfl | (simp; done))) ?_ | refine ResV.cell (by rfl) (load_cell_run tabs S (by rfl) (by (with_reducible repeat' (first | exact Pick.here | apply Pick.there))) (by rfl)) ?_))); (focus rfl))
    exact ⟨_, _, rfl, S.ownNil⟩
  | some ad =>
    clear h3
    go_enter Try.func60, Try.ntmps60
    have tk0 : True := trivial
    have tk1 : True := trivial
    go_wp2_with (first | (have _t := tk0; clear _t tk0; apply wpl_of_seq; (apply sq_lit S rfl rfl); (focus (go_simp; first | done | rfl | (repeat' (first | rfl | apply And.intro)))); clear S; intro h w S; replace S := St.own0 (r := true) (A := Rep.byte) S) | (have _t := tk1; clear _t tk1; (apply wpl_of_seq); (apply sq_append_flat tabs S); (focus (rfl)); (focus (rfl)); (focus (rfl)); (focus ((with_reducible repeat' (first | exact Pick.here | apply Pick.there)))); (focus (rfl)); (focus (rfl)); (focus (exact (by first | exact Rep.byte_flat | exact Rep.int_flat _ | exact Rep.bool_flat | exact Rep.str_flat | assumption))); (focus (rfl)); (focus (exact (S.rd hk))); (focus (exact (by (try simp only [Sl.maxLen_eq, List.length_append, List.length_cons, List.length_nil, List.length_take, List.length_drop, List.length_map, List.length_replicate, Nat.zero_add, Nat.mul_one]); (try omega)))); (focus (exact (by (try simp only [Sl.maxLen_eq, List.length_append, List.length_cons, List.length_nil, List.length_take, List.length_drop, List.length_map, List.length_replicate, Nat.zero_add, Nat.mul_one]); (try omega)))); clear S; intro a1 c1 w S; (try simp only [List.nil_append, List.append_nil, List.length_nil, List.length_cons, List.length_append, Nat.zero_add, Nat.add_zero, Nat.reduceAdd] at S ⊢)) | ((apply wpl_of_seq); (refine sq_load tabs S rfl rfl (by rfl) (by rfl) (by (with_reducible repeat' (first | exact Pick.here | apply Pick.there))) (by rfl) ?_)) | ((apply wpl_of_seq); (apply sq_store tabs S); (focus (rfl)); (focus (rfl)); (focus (rfl)); (focus (rfl)); (focus (rfl)); (focus (first | (go_simp; rfl) | (go_simp; done) | rfl)); (focus (rfl)); (focus ((with_reducible repeat' (first | exact Upd.here | apply Upd.there)))); (focus (first | (simp; done) | (simp; omega) | omega)); clear S; intro w S; (try simp only [List.set_cons_zero, List.set_cons_succ] at S)) | ((apply wpl_of_seq); (refine sq_load_agg tabs S rfl rfl (by rfl) (by rfl) (by (with_reducible repeat' (first | exact Pick.here | apply Pick.there))) (by first | (simp only [List.drop_succ_cons, List.drop_zero, List.take_succ_cons, List.take_zero, List.drop_nil, List.take_nil]; rfl) | rfl) (by first | rfl | (simp; done)) ?_)) | ((apply wpl_of_seq); (apply sq_store_agg tabs S); (focus (rfl)); (focus (rfl)); (focus (rfl)); (focus (first | (go_simp; rfl) | (go_simp; done) | rfl)); (focus (first | rfl | (simp; done) | (simp; rfl))); (focus (rfl)); (focus (first | rfl | (simp; done))); (focus ((with_reducible repeat' (first | exact Upd.here | apply Upd.there)))); (focus (first | (simp; done) | (simp; omega) | omega)); clear S; intro w S; (try simp only [splice, List.take_succ_cons, List.take_zero, List.drop_succ_cons, List.drop_zero, List.drop_nil, List.nil_append, List.cons_append, List.append_nil, List.length_cons, List.length_nil, Nat.reduceAdd] at S)) | ((apply wpl_of_seq); (apply sq_load_ro tabs); (focus rfl); (focus rfl); (focus rfl); (focus rfl); (focus (first | assumption | exact S.roCell (by assumption)))) | ((apply wpl_of_seq); (apply sq_load_agg_ro tabs); (focus rfl); (focus rfl); (focus rfl); (focus rfl); (focus assumption); (focus rfl)))
    ((first | apply fin0 rfl | apply fin0n rfl | apply fin1n rfl | apply fin1 rfl | apply fin2 rfl | apply fin3 rfl); (focus (repeat (first | exact ResV.nil | refine ResV.tmp (by rfl) ?_ | refine ResV.cell (by rfl) (load_agg_run tabs S (by rfl) (by (with_reducible repeat' (first | exact Pick.here | apply Pick.there))) (by first | (simp only [List.drop_succ_cons, List.drop_zero, List.take_succ_cons, List.take_zero, List.drop_nil, List.take_nil]; rfl) | rfl) (by first | rfl | (simp; done))) ?_ | refine ResV.cell (by rfl) (load_cell_run tabs S (by rfl) (by (with_reducible repeat' (first | exact Pick.here | apply Pick.there))) (by rfl)) ?_))); (focus rfl))
    exact ⟨_, _, rfl, S⟩
set_option maxHeartbeats 400000 in
set_option maxRecDepth 100000 in
theorem equal_any (v u : Value) (xs ys : List UInt8) (w0 : World) (hx : Rd Rep.byte.slice w0 xs [v]) (hy : Rd Rep.byte.slice w0 ys [u]) :
    Calls Try.prog 71 #[v, u] w0 fun e w' => e = .returned (.bool (xs == ys)) ∧ w' = w0 := by
  have h1 := run_str tabs (t := 22) (u := 9) (by decide) (by decide) hx
  have h2 := run_str tabs (t := 22) (u := 9) (by decide) (by decide) hy
  go_enter Try.func71, Try.ntmps71
  go_wp2_with (first | ((apply wpl_of_seq); (refine sq_load tabs S rfl rfl (by rfl) (by rfl) (by (with_reducible repeat' (first | exact Pick.here | apply Pick.there))) (by rfl) ?_)) | ((apply wpl_of_seq); (apply sq_store tabs S); (focus (rfl)); (focus (rfl)); (focus (rfl)); (focus (rfl)); (focus (rfl)); (focus (first | (go_simp; rfl) | (go_simp; done) | rfl)); (focus (rfl)); (focus ((with_reducible repeat' (first | exact Upd.here | apply Upd.there)))); (focus (first | (simp; done) | (simp; omega) | omega)); clear S; intro w S; (try simp only [List.set_cons_zero, List.set_cons_succ] at S)) | ((apply wpl_of_seq); (refine sq_load_agg tabs S rfl rfl (by rfl) (by rfl) (by (with_reducible repeat' (first | exact Pick.here | apply Pick.there))) (by first | (simp only [List.drop_succ_cons, List.drop_zero, List.take_succ_cons, List.take_zero, List.drop_nil, List.take_nil]; rfl) | rfl) (by first | rfl | (simp; done)) ?_)) | ((apply wpl_of_seq); (apply sq_store_agg tabs S); (focus (rfl)); (focus (rfl)); (focus (rfl)); (focus (first | (go_simp; rfl) | (go_simp; done) | rfl)); (focus (first | rfl | (simp; done) | (simp; rfl))); (focus (rfl)); (focus (first | rfl | (simp; done))); (focus ((with_reducible repeat' (first | exact Upd.here | apply Upd.there)))); (focus (first | (simp; done) | (simp; omega) | omega)); clear S; intro w S; (try simp only [splice, List.take_succ_cons, List.take_zero, List.drop_succ_cons, List.drop_zero, List.drop_nil, List.nil_append, List.cons_append, List.append_nil, List.length_cons, List.length_nil, Nat.reduceAdd] at S)) | ((apply wpl_of_seq); (apply sq_load_ro tabs); (focus rfl); (focus rfl); (focus rfl); (focus rfl); (focus (first | assumption | exact S.roCell (by assumption)))) | ((apply wpl_of_seq); (apply sq_load_agg_ro tabs); (focus rfl); (focus rfl); (focus rfl); (focus rfl); (focus assumption); (focus rfl)))
  ((first | apply fin0 rfl | apply fin0n rfl | apply fin1n rfl | apply fin1 rfl | apply fin2 rfl | apply fin3 rfl); (focus (repeat (first | exact ResV.nil | refine ResV.tmp (by rfl) ?_ | refine ResV.cell (by rfl) (load_agg_run tabs S (by rfl) (by (with_reducible repeat' (first | exact Pick.here | apply Pick.there))) (by first | (simp only [List.drop_succ_cons, List.drop_zero, List.take_succ_cons, List.take_zero, List.drop_nil, List.take_nil]; rfl) | rfl) (by first | rfl | (simp; done))) ?_ | refine ResV.cell (by rfl) (load_cell_run tabs S (by rfl) (by (with_reducible repeat' (first | exact Pick.here | apply Pick.there))) (by rfl)) ?_))); (focus rfl))
  exact ⟨rfl, rfl⟩
end Go.Proofs.Ytjnpohloodcddaa.Peer
