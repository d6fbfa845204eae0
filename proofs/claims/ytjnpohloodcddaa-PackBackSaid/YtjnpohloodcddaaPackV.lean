/- pack: the law of reading. -/
import Derived.Test.YtjnpohloodcddaaPackT
import Derived.Deep.RegionWith
set_option linter.unusedVariables false
set_option linter.unusedSimpArgs false
namespace Go.Proofs.Ytjnpohloodcddaa.Pack
open Go.RowKit Go.Proofs.Ytjnpohloodcddaa.Sl
/-- G holds what the world w0 held, and more that is only read. -/
structure GhX (w0 : World) (G : Gh) : Prop where
  le : (Gh.of w0).le G
  os : G.os = w0.os
  tape : G.tape = w0.tape
  output : G.output = w0.output
theorem GhX.rfl' (w0 : World) : GhX w0 (Gh.of w0) := ⟨Gh.le_refl _, rfl, rfl, rfl⟩
theorem GhX.trans {w0 : World} {G G' : Gh} (h : GhX w0 G) (hl : G.le G') (h1 : G'.os = G.os) (h2 : G'.tape = G.tape) (h3 : G'.output = G.output) : GhX w0 G' :=
  ⟨Gh.le_trans h.le hl, h1.trans h.os, h2.trans h.tape, h3.trans h.output⟩
theorem GhX.below {w0 w : World} {G : Gh} {l : List As} (h : GhX w0 G) (S : St w G l) : Below w0.heap.size w0 w := S.belowLe h.le h.os h.tape h.output
theorem ints_at {h : Hp} {F : Nat → Prop} {a : Option Addr} {k : IntKind} {xs : List Int} (H : Rep.SlK (Rep.int k) h F a xs) {i : Nat} {x : Int} (hx : xs[i]? = some x) : ∃ ad, a = some ad ∧ cellH h (ad.add i) = some (.int k x) := by
  obtain ⟨ad, cs, e, hk, hc⟩ := H.at_ hx
  obtain ⟨rfl, _⟩ := (show cs = [.int k x] ∧ _ from hk)
  exact ⟨ad, e, by have := hc 0 _ rfl; simpa [Rep.int] using this⟩
theorem cell_le {G G' : Gh} {ad : Addr} {v : Value} (h : cellH G.heap ad = some v) (hl : G.le G') : cellH G'.heap ad = some v := by
  have hn := cellH_ne h
  cases hb : G.heap ad.block with
  | none => exact absurd hb hn
  | some o => rw [cellH_loc (h := G.heap) (by rw [hb]; exact hl _ _ hb)]; exact h
/-- The two readers, side by side. -/
def Two (w : World) (G : Gh) (g h : Nat) (s t : List UInt8 × Bool) : Prop :=
  ∃ a c a' c', Rep.byte.slice.K G.heap G.dom s.1 [.slice a s.1.length c] ∧ Rep.byte.slice.K G.heap G.dom t.1 [.slice a' t.1.length c'] ∧
    St w G [Cs g [.slice a s.1.length c, .bool s.2] 109, Cs h [.slice a' t.1.length c', .bool t.2] 61]
section
variable {w w' w0 : World} {G : Gh} {g h : Nat} {s t : List UInt8 × Bool}
theorem Two.left (H : Two w G g h s t) : ∃ l, RdrSt 109 w G g l s ∧ ∀ w' s', RdrSt 109 w' G g l s' → Two w' G g h s' t := by
  obtain ⟨a, c, a', c', h1, h2, S⟩ := H
  refine ⟨_, ⟨a, c, h1, S⟩, fun w' s' H' => ?_⟩
  obtain ⟨b, d, h3, S'⟩ := H'
  exact ⟨b, d, a', c', h3, h2, S'⟩
theorem Two.right (H : Two w G g h s t) : ∃ l, RdrSt 61 w G h l t ∧ ∀ w' G' t', G.le G' → RdrSt 61 w' G' h l t' → Two w' G' g h s t' := by
  obtain ⟨a, c, a', c', h1, h2, S⟩ := H
  refine ⟨_, ⟨a', c', h2, S.pick (.there .here)⟩, fun w' G' t' hl H' => ?_⟩
  obtain ⟨b, d, h3, S'⟩ := H'
  exact ⟨a, c, b, d, K_le h1 hl, h3, S'.pick (.there .here)⟩
theorem Two.st (H : Two w G g h s t) : ∃ l, St w G l := by
  obtain ⟨a, c, a', c', h1, h2, S⟩ := H
  exact ⟨_, S⟩
theorem Two.kept (H : Two w G g h s t) (hb : Below w.heap.size w w') : Two w' G g h s t := by
  obtain ⟨a, c, a', c', h1, h2, S⟩ := H
  exact ⟨a, c, a', c', h1, h2, S.kept hb⟩
theorem Two.drew (H : Two w G g h s t) : Two w.drew G g h s t := by
  obtain ⟨a, c, a', c', h1, h2, S⟩ := H
  exact ⟨a, c, a', c', h1, h2, S.drew⟩
theorem Two.str {v : Value} {xs : List UInt8} (H : Two w G g h s t) (hk : Rep.byte.slice.K G.heap G.dom xs [v]) : (convert 22 9 v).run Try.prog w = .ok (.string ⟨xs.toArray⟩) w := by
  obtain ⟨l, S⟩ := H.st
  exact run_str tabs (by decide) (by decide) (S.rd hk)
theorem Two.cell {ad : Addr} {v : Value} (H : Two w G g h s t) (hc : cellH G.heap ad = some v) : w.cell? ad = some v := by
  obtain ⟨l, S⟩ := H.st
  exact S.roCell hc
theorem two_ltext (H : Two w0 G g h s t) : Calls Try.prog 35 #[.pointer (some ⟨g, 0, none⟩)] w0 fun e w' => ∃ v, e = .returned v ∧ Rep.byte.slice.K G.heap G.dom (rTxt s).1 [v] ∧ Two w' G g h (rTxt s).2 t := by
  obtain ⟨l, h1, h2⟩ := H.left
  refine (rtext_any g G l s _ h1).mono ?_
  rintro e w ⟨v, rfl, hk, H'⟩
  exact ⟨v, rfl, hk, h2 _ _ H'⟩
theorem two_lnum (size : Int) (H : Two w0 G g h s t) : Calls Try.prog 37 #[.pointer (some ⟨g, 0, none⟩), .int .i64 size] w0 fun e w' => e = .returned (.int .u64 ((rNum s size).1 : Int)) ∧ Two w' G g h (rNum s size).2 t := by
  obtain ⟨l, h1, h2⟩ := H.left
  refine (rnumber_any g G l s size _ h1).mono ?_
  rintro e w ⟨rfl, H'⟩
  exact ⟨rfl, h2 _ _ H'⟩
theorem two_lend (H : Two w0 G g h s t) : Calls Try.prog 39 #[.pointer (some ⟨g, 0, none⟩)] w0 fun e w' => e = .returned (.bool (rEnd s)) ∧ Two w' G g h s t := by
  obtain ⟨l, h1, h2⟩ := H.left
  refine (rend_any g G l s _ h1).mono ?_
  rintro e w ⟨rfl, H'⟩
  exact ⟨rfl, h2 _ _ H'⟩
theorem two_rtext (H : Two w0 G g h s t) : Calls Try.prog 36 #[.pointer (some ⟨h, 0, none⟩)] w0 fun e w' => ∃ v, e = .returned v ∧ ∃ G', G.le G' ∧ G'.os = G.os ∧ G'.tape = G.tape ∧ G'.output = G.output ∧ Rep.byte.slice.K G'.heap G'.dom (rTxt t).1 [v] ∧ Two w' G' g h s (rTxt t).2 := by
  obtain ⟨l, h1, h2⟩ := H.right
  refine (ftext_any h G l t _ h1).mono ?_
  rintro e w ⟨v, rfl, G', hl, q1, q2, q3, hk, H'⟩
  exact ⟨v, rfl, G', hl, q1, q2, q3, hk, h2 _ _ _ hl H'⟩
theorem two_rnum (size : Int) (H : Two w0 G g h s t) : Calls Try.prog 38 #[.pointer (some ⟨h, 0, none⟩), .int .i64 size] w0 fun e w' => e = .returned (.int .u64 ((rNum t size).1 : Int)) ∧ Two w' G g h s (rNum t size).2 := by
  obtain ⟨l, h1, h2⟩ := H.right
  refine (fnumber_any h G l t size _ h1).mono ?_
  rintro e w ⟨rfl, H'⟩
  exact ⟨rfl, h2 _ _ _ (Gh.le_refl _) H'⟩
theorem two_rend (H : Two w0 G g h s t) : Calls Try.prog 40 #[.pointer (some ⟨h, 0, none⟩)] w0 fun e w' => e = .returned (.bool (rEnd t)) ∧ Two w' G g h s t := by
  obtain ⟨l, h1, h2⟩ := H.right
  refine (fend_any h G l t _ h1).mono ?_
  rintro e w ⟨rfl, H'⟩
  exact ⟨rfl, h2 _ _ _ (Gh.le_refl _) H'⟩
end
set_option maxHeartbeats 4000000 in
set_option maxRecDepth 100000 in
theorem packReads_any (v u : Value) (b : List UInt8) (asked : List Int) (w0 : World) (hx : Rd Rep.byte.slice w0 b [v]) (hy : Rd (Rep.int .i64).slice w0 asked [u]) :
    Calls Try.prog 9 #[v, u] w0 fun e w' => e = .returned (.bool true) ∧ Below w0.heap.size w0 w' := by
  have S := St.start w0
  have hg := hx.start
  have hh := hy.start
  obtain ⟨ao, cp, e, _, _, _⟩ := hx.start
  obtain rfl : v = .slice ao b.length cp := by injection e
  clear e
  obtain ⟨au, cu, e, _, _, hsl⟩ := hy.start
  obtain rfl : u = .slice au asked.length cu := by injection e
  clear e
  by_cases h1 : 2000 < b.length
  · go_enter Try.func9, Try.ntmps9
    go_wp2_with (first | (go_at_call 21; refine (knows_any _).mono ?_; rintro e w ⟨rfl, hb⟩; replace S := S.kept hb; clear hb) | ((refine wpl_load tabs S rfl rfl (by rfl) (by rfl) (by (with_reducible repeat' (first | exact Pick.here | apply Pick.there))) (by rfl) ?_)) | ((apply wpl_store tabs S); (focus (rfl)); (focus (rfl)); (focus (rfl)); (focus (rfl)); (focus (rfl)); (focus (first | (go_simp; rfl) | (go_simp; done) | rfl)); (focus (rfl)); (focus ((with_reducible repeat' (first | exact Upd.here | apply Upd.there)))); (focus (first | (simp; done) | (simp; omega) | omega)); clear S; intro w S; (try simp only [List.set_cons_zero, List.set_cons_succ] at S)) | ((refine wpl_load_agg tabs S rfl rfl (by rfl) (by rfl) (by (with_reducible repeat' (first | exact Pick.here | apply Pick.there))) (by first | (simp only [List.drop_succ_cons, List.drop_zero, List.take_succ_cons, List.take_zero, List.drop_nil, List.take_nil]; rfl) | rfl) (by first | rfl | (simp; done)) ?_)) | ((apply wpl_store_agg tabs S); (focus (rfl)); (focus (rfl)); (focus (rfl)); (focus (first | (go_simp; rfl) | (go_simp; done) | rfl)); (focus (first | rfl | (simp; done) | (simp; rfl))); (focus (rfl)); (focus (first | rfl | (simp; done))); (focus ((with_reducible repeat' (first | exact Upd.here | apply Upd.there)))); (focus (first | (simp; done) | (simp; omega) | omega)); clear S; intro w S; (try simp only [splice, List.take_succ_cons, List.take_zero, List.drop_succ_cons, List.drop_zero, List.drop_nil, List.nil_append, List.cons_append, List.append_nil, List.length_cons, List.length_nil, Nat.reduceAdd] at S)))
    ((first | apply fin1 rfl | apply fin2 rfl | apply fin3 rfl); (focus (repeat (first | exact ResV.nil | refine ResV.tmp (by rfl) ?_ | refine ResV.cell (by rfl) (load_agg_run tabs S (by rfl) (by (with_reducible repeat' (first | exact Pick.here | apply Pick.there))) (by first | (simp only [List.drop_succ_cons, List.drop_zero, List.take_succ_cons, List.take_zero, List.drop_nil, List.take_nil]; rfl) | rfl) (by first | rfl | (simp; done))) ?_ | refine ResV.cell (by rfl) (load_cell_run tabs S (by rfl) (by (with_reducible repeat' (first | exact Pick.here | apply Pick.there))) (by rfl)) ?_))); (focus rfl))
    exact ⟨rfl, S.below⟩
  by_cases h2 : 60 < asked.length
  · go_enter Try.func9, Try.ntmps9
    go_wp2_with (first | (go_at_call 21; refine (knows_any _).mono ?_; rintro e w ⟨rfl, hb⟩; replace S := S.kept hb; clear hb) | ((refine wpl_load tabs S rfl rfl (by rfl) (by rfl) (by (with_reducible repeat' (first | exact Pick.here | apply Pick.there))) (by rfl) ?_)) | ((apply wpl_store tabs S); (focus (rfl)); (focus (rfl)); (focus (rfl)); (focus (rfl)); (focus (rfl)); (focus (first | (go_simp; rfl) | (go_simp; done) | rfl)); (focus (rfl)); (focus ((with_reducible repeat' (first | exact Upd.here | apply Upd.there)))); (focus (first | (simp; done) | (simp; omega) | omega)); clear S; intro w S; (try simp only [List.set_cons_zero, List.set_cons_succ] at S)) | ((refine wpl_load_agg tabs S rfl rfl (by rfl) (by rfl) (by (with_reducible repeat' (first | exact Pick.here | apply Pick.there))) (by first | (simp only [List.drop_succ_cons, List.drop_zero, List.take_succ_cons, List.take_zero, List.drop_nil, List.take_nil]; rfl) | rfl) (by first | rfl | (simp; done)) ?_)) | ((apply wpl_store_agg tabs S); (focus (rfl)); (focus (rfl)); (focus (rfl)); (focus (first | (go_simp; rfl) | (go_simp; done) | rfl)); (focus (first | rfl | (simp; done) | (simp; rfl))); (focus (rfl)); (focus (first | rfl | (simp; done))); (focus ((with_reducible repeat' (first | exact Upd.here | apply Upd.there)))); (focus (first | (simp; done) | (simp; omega) | omega)); clear S; intro w S; (try simp only [splice, List.take_succ_cons, List.take_zero, List.drop_succ_cons, List.drop_zero, List.drop_nil, List.nil_append, List.cons_append, List.append_nil, List.length_cons, List.length_nil, Nat.reduceAdd] at S)))
    ((first | apply fin1 rfl | apply fin2 rfl | apply fin3 rfl); (focus (repeat (first | exact ResV.nil | refine ResV.tmp (by rfl) ?_ | refine ResV.cell (by rfl) (load_agg_run tabs S (by rfl) (by (with_reducible repeat' (first | exact Pick.here | apply Pick.there))) (by first | (simp only [List.drop_succ_cons, List.drop_zero, List.take_succ_cons, List.take_zero, List.drop_nil, List.take_nil]; rfl) | rfl) (by first | rfl | (simp; done))) ?_ | refine ResV.cell (by rfl) (load_cell_run tabs S (by rfl) (by (with_reducible repeat' (first | exact Pick.here | apply Pick.there))) (by rfl)) ?_))); (focus rfl))
    exact ⟨rfl, S.below⟩
  have hsl := Hd.mk hsl
  have hgh := Hd.mk hg
  go_enter Try.func9, Try.ntmps9
  have tk0 : True := trivial
  have tk1 : True := trivial
  go_wp2_with (first | (have _t := tk0; clear _t tk0; go_at_call 34; refine (read_any _ b (by omega) _ (S.rd hgh.out)).mono ?_; rintro e w ⟨g, a, c, rfl, S1⟩; (replace S := S.callSt S1 (by repeat' (first | exact IndepL.nil | refine IndepL.cons ?_ ?_ | exact indep_own | exact indep_val | exact indep_blk _ _))); (try simp only [List.cons_append, List.nil_append, List.append_nil] at S); clear S1) | (have _t := tk1; clear _t tk1; (apply wpl_box S rfl rfl); (focus (go_simp; first | done | rfl | (repeat' (first | rfl | apply And.intro)))); clear S; intro h w S) | ((refine wpl_load tabs S rfl rfl (by rfl) (by rfl) (by (with_reducible repeat' (first | exact Pick.here | apply Pick.there))) (by rfl) ?_)) | ((apply wpl_store tabs S); (focus (rfl)); (focus (rfl)); (focus (rfl)); (focus (rfl)); (focus (rfl)); (focus (first | (go_simp; rfl) | (go_simp; done) | rfl)); (focus (rfl)); (focus ((with_reducible repeat' (first | exact Upd.here | apply Upd.there)))); (focus (first | (simp; done) | (simp; omega) | omega)); clear S; intro w S; (try simp only [List.set_cons_zero, List.set_cons_succ] at S)) | ((refine wpl_load_agg tabs S rfl rfl (by rfl) (by rfl) (by (with_reducible repeat' (first | exact Pick.here | apply Pick.there))) (by first | (simp only [List.drop_succ_cons, List.drop_zero, List.take_succ_cons, List.take_zero, List.drop_nil, List.take_nil]; rfl) | rfl) (by first | rfl | (simp; done)) ?_)) | ((apply wpl_store_agg tabs S); (focus (rfl)); (focus (rfl)); (focus (rfl)); (focus (first | (go_simp; rfl) | (go_simp; done) | rfl)); (focus (first | rfl | (simp; done) | (simp; rfl))); (focus (rfl)); (focus (first | rfl | (simp; done))); (focus ((with_reducible repeat' (first | exact Upd.here | apply Upd.there)))); (focus (first | (simp; done) | (simp; omega) | omega)); clear S; intro w S; (try simp only [splice, List.take_succ_cons, List.take_zero, List.drop_succ_cons, List.drop_zero, List.drop_nil, List.nil_append, List.cons_append, List.append_nil, List.length_cons, List.length_nil, Nat.reduceAdd] at S)))
  replace S := S.pick (.there (.there .here))
  obtain ⟨G, hle, hk, S, q1, q2, q3⟩ := S.freezeOwn
  have hG := (GhX.rfl' w0).trans hle q1 q2 q3
  have H : Two w G g h (b, false) (b, false) := ⟨_, _, _, _, hk, K_le hgh.out hle, S.pick (.there .here)⟩
  clear S hle q1 q2 q3 hk
  go_loopw [7] (fun i wr => ∃ G s, ∃ j : Nat, j ≤ asked.length ∧ i = .int .i64 j ∧ GhX w0 G ∧ Two wr G g h s s) (fun i _ => asked.length - (intOf i).toNat)
  case atStart => exact ⟨G, _, 0, by omega, rfl, hG, H⟩
  case round =>
    clear H hG
    clear G
    obtain ⟨G, s, j, hj, rfl, hG, H⟩ := hrel
    by_cases hlt : j < asked.length
    · obtain ⟨ad, rfl, hc⟩ := ints_at hsl.out (List.getElem?_eq_getElem hlt)
      have hc := cell_le hc hG.le
      have hcell := H.cell hc
      generalize asked[j] = x at *
      by_cases hx0 : x = 0
      · subst hx0
        go_wp2_with (first | ((refine wpl_load tabs S rfl rfl (by rfl) (by rfl) (by (with_reducible repeat' (first | exact Pick.here | apply Pick.there))) (by rfl) ?_)) | ((apply wpl_store tabs S); (focus (rfl)); (focus (rfl)); (focus (rfl)); (focus (rfl)); (focus (rfl)); (focus (first | (go_simp; rfl) | (go_simp; done) | rfl)); (focus (rfl)); (focus ((with_reducible repeat' (first | exact Upd.here | apply Upd.there)))); (focus (first | (simp; done) | (simp; omega) | omega)); clear S; intro w S; (try simp only [List.set_cons_zero, List.set_cons_succ] at S)) | ((refine wpl_load_agg tabs S rfl rfl (by rfl) (by rfl) (by (with_reducible repeat' (first | exact Pick.here | apply Pick.there))) (by first | (simp only [List.drop_succ_cons, List.drop_zero, List.take_succ_cons, List.take_zero, List.drop_nil, List.take_nil]; rfl) | rfl) (by first | rfl | (simp; done)) ?_)) | ((apply wpl_store_agg tabs S); (focus (rfl)); (focus (rfl)); (focus (rfl)); (focus (first | (go_simp; rfl) | (go_simp; done) | rfl)); (focus (first | rfl | (simp; done) | (simp; rfl))); (focus (rfl)); (focus (first | rfl | (simp; done))); (focus ((with_reducible repeat' (first | exact Upd.here | apply Upd.there)))); (focus (first | (simp; done) | (simp; omega) | omega)); clear S; intro w S; (try simp only [splice, List.take_succ_cons, List.take_zero, List.drop_succ_cons, List.drop_zero, List.drop_nil, List.nil_append, List.cons_append, List.append_nil, List.length_cons, List.length_nil, Nat.reduceAdd] at S)))
        replace H := H.drew
        have tk0 : True := trivial
        have tk1 : True := trivial
        go_region_with (first | (have _t := tk0; clear _t tk0; go_at_call 35; refine (two_ltext H).mono ?_; rintro e w ⟨v1, rfl, hk1, H'⟩; replace H := H'; clear H'; have hr0 := H.str hk1) | (have _t := tk1; clear _t tk1; go_at_call 36; refine (two_rtext H).mono ?_; rintro e w ⟨v2, rfl, G2, hl, q1, q2, q3, hk2, H'⟩; replace H := H'; replace hk1 := K_le hk1 hl; have hr1 := H.str hk1; have hr2 := H.str hk2) | ((refine wpl_load tabs S rfl rfl (by rfl) (by rfl) (by (with_reducible repeat' (first | exact Pick.here | apply Pick.there))) (by rfl) ?_)) | ((apply wpl_store tabs S); (focus (rfl)); (focus (rfl)); (focus (rfl)); (focus (rfl)); (focus (rfl)); (focus (first | (go_simp; rfl) | (go_simp; done) | rfl)); (focus (rfl)); (focus ((with_reducible repeat' (first | exact Upd.here | apply Upd.there)))); (focus (first | (simp; done) | (simp; omega) | omega)); clear S; intro w S; (try simp only [List.set_cons_zero, List.set_cons_succ] at S)) | ((refine wpl_load_agg tabs S rfl rfl (by rfl) (by rfl) (by (with_reducible repeat' (first | exact Pick.here | apply Pick.there))) (by first | (simp only [List.drop_succ_cons, List.drop_zero, List.take_succ_cons, List.take_zero, List.drop_nil, List.take_nil]; rfl) | rfl) (by first | rfl | (simp; done)) ?_)) | ((apply wpl_store_agg tabs S); (focus (rfl)); (focus (rfl)); (focus (rfl)); (focus (first | (go_simp; rfl) | (go_simp; done) | rfl)); (focus (first | rfl | (simp; done) | (simp; rfl))); (focus (rfl)); (focus (first | rfl | (simp; done))); (focus ((with_reducible repeat' (first | exact Upd.here | apply Upd.there)))); (focus (first | (simp; done) | (simp; omega) | omega)); clear S; intro w S; (try simp only [splice, List.take_succ_cons, List.take_zero, List.drop_succ_cons, List.drop_zero, List.drop_nil, List.nil_append, List.cons_append, List.append_nil, List.length_cons, List.length_nil, Nat.reduceAdd] at S)))
        all_goals
          replace hG := hG.trans hl q1 q2 q3
          clear hr0 hr1 hr2 hl q1 q2 q3 hk1 hk2 hcell hc
          go_wp2_with (first | (go_at_call 39; refine (two_lend H).mono ?_; rintro e w ⟨rfl, H'⟩; replace H := H'; clear H') | (go_at_call 40; refine (two_rend H).mono ?_; rintro e w ⟨rfl, H'⟩; replace H := H'; clear H') | ((refine wpl_load tabs S rfl rfl (by rfl) (by rfl) (by (with_reducible repeat' (first | exact Pick.here | apply Pick.there))) (by rfl) ?_)) | ((apply wpl_store tabs S); (focus (rfl)); (focus (rfl)); (focus (rfl)); (focus (rfl)); (focus (rfl)); (focus (first | (go_simp; rfl) | (go_simp; done) | rfl)); (focus (rfl)); (focus ((with_reducible repeat' (first | exact Upd.here | apply Upd.there)))); (focus (first | (simp; done) | (simp; omega) | omega)); clear S; intro w S; (try simp only [List.set_cons_zero, List.set_cons_succ] at S)) | ((refine wpl_load_agg tabs S rfl rfl (by rfl) (by rfl) (by (with_reducible repeat' (first | exact Pick.here | apply Pick.there))) (by first | (simp only [List.drop_succ_cons, List.drop_zero, List.take_succ_cons, List.take_zero, List.drop_nil, List.take_nil]; rfl) | rfl) (by first | rfl | (simp; done)) ?_)) | ((apply wpl_store_agg tabs S); (focus (rfl)); (focus (rfl)); (focus (rfl)); (focus (first | (go_simp; rfl) | (go_simp; done) | rfl)); (focus (first | rfl | (simp; done) | (simp; rfl))); (focus (rfl)); (focus (first | rfl | (simp; done))); (focus ((with_reducible repeat' (first | exact Upd.here | apply Upd.there)))); (focus (first | (simp; done) | (simp; omega) | omega)); clear S; intro w S; (try simp only [splice, List.take_succ_cons, List.take_zero, List.drop_succ_cons, List.drop_zero, List.drop_nil, List.nil_append, List.cons_append, List.append_nil, List.length_cons, List.length_nil, Nat.reduceAdd] at S)))
          go_roundw
          case rel => exact ⟨_, _, j + 1, by omega, by go_num, hG, H⟩
          case measure => simp [intOf]; omega
      · go_wp2_with (first | ((refine wpl_load tabs S rfl rfl (by rfl) (by rfl) (by (with_reducible repeat' (first | exact Pick.here | apply Pick.there))) (by rfl) ?_)) | ((apply wpl_store tabs S); (focus (rfl)); (focus (rfl)); (focus (rfl)); (focus (rfl)); (focus (rfl)); (focus (first | (go_simp; rfl) | (go_simp; done) | rfl)); (focus (rfl)); (focus ((with_reducible repeat' (first | exact Upd.here | apply Upd.there)))); (focus (first | (simp; done) | (simp; omega) | omega)); clear S; intro w S; (try simp only [List.set_cons_zero, List.set_cons_succ] at S)) | ((refine wpl_load_agg tabs S rfl rfl (by rfl) (by rfl) (by (with_reducible repeat' (first | exact Pick.here | apply Pick.there))) (by first | (simp only [List.drop_succ_cons, List.drop_zero, List.take_succ_cons, List.take_zero, List.drop_nil, List.take_nil]; rfl) | rfl) (by first | rfl | (simp; done)) ?_)) | ((apply wpl_store_agg tabs S); (focus (rfl)); (focus (rfl)); (focus (rfl)); (focus (first | (go_simp; rfl) | (go_simp; done) | rfl)); (focus (first | rfl | (simp; done) | (simp; rfl))); (focus (rfl)); (focus (first | rfl | (simp; done))); (focus ((with_reducible repeat' (first | exact Upd.here | apply Upd.there)))); (focus (first | (simp; done) | (simp; omega) | omega)); clear S; intro w S; (try simp only [splice, List.take_succ_cons, List.take_zero, List.drop_succ_cons, List.drop_zero, List.drop_nil, List.nil_append, List.cons_append, List.append_nil, List.length_cons, List.length_nil, Nat.reduceAdd] at S)))
        replace H := H.drew
        have hcell1 := H.cell hc
        have tk0 : True := trivial
        have tk1 : True := trivial
        go_region_with (first | (have _t := tk0; clear _t tk0; go_at_call 37; refine (two_lnum x H).mono ?_; rintro e w ⟨rfl, H'⟩; replace H := H'; clear H'; have hcell2 := H.cell hc) | (have _t := tk1; clear _t tk1; go_at_call 38; refine (two_rnum x H).mono ?_; rintro e w ⟨rfl, H'⟩; replace H := H'; clear H') | ((refine wpl_load tabs S rfl rfl (by rfl) (by rfl) (by (with_reducible repeat' (first | exact Pick.here | apply Pick.there))) (by rfl) ?_)) | ((apply wpl_store tabs S); (focus (rfl)); (focus (rfl)); (focus (rfl)); (focus (rfl)); (focus (rfl)); (focus (first | (go_simp; rfl) | (go_simp; done) | rfl)); (focus (rfl)); (focus ((with_reducible repeat' (first | exact Upd.here | apply Upd.there)))); (focus (first | (simp; done) | (simp; omega) | omega)); clear S; intro w S; (try simp only [List.set_cons_zero, List.set_cons_succ] at S)) | ((refine wpl_load_agg tabs S rfl rfl (by rfl) (by rfl) (by (with_reducible repeat' (first | exact Pick.here | apply Pick.there))) (by first | (simp only [List.drop_succ_cons, List.drop_zero, List.take_succ_cons, List.take_zero, List.drop_nil, List.take_nil]; rfl) | rfl) (by first | rfl | (simp; done)) ?_)) | ((apply wpl_store_agg tabs S); (focus (rfl)); (focus (rfl)); (focus (rfl)); (focus (first | (go_simp; rfl) | (go_simp; done) | rfl)); (focus (first | rfl | (simp; done) | (simp; rfl))); (focus (rfl)); (focus (first | rfl | (simp; done))); (focus ((with_reducible repeat' (first | exact Upd.here | apply Upd.there)))); (focus (first | (simp; done) | (simp; omega) | omega)); clear S; intro w S; (try simp only [splice, List.take_succ_cons, List.take_zero, List.drop_succ_cons, List.drop_zero, List.drop_nil, List.nil_append, List.cons_append, List.append_nil, List.length_cons, List.length_nil, Nat.reduceAdd] at S)))
        all_goals
          clear hcell hcell1 hcell2 hc
          go_wp2_with (first | (go_at_call 39; refine (two_lend H).mono ?_; rintro e w ⟨rfl, H'⟩; replace H := H'; clear H') | (go_at_call 40; refine (two_rend H).mono ?_; rintro e w ⟨rfl, H'⟩; replace H := H'; clear H') | ((refine wpl_load tabs S rfl rfl (by rfl) (by rfl) (by (with_reducible repeat' (first | exact Pick.here | apply Pick.there))) (by rfl) ?_)) | ((apply wpl_store tabs S); (focus (rfl)); (focus (rfl)); (focus (rfl)); (focus (rfl)); (focus (rfl)); (focus (first | (go_simp; rfl) | (go_simp; done) | rfl)); (focus (rfl)); (focus ((with_reducible repeat' (first | exact Upd.here | apply Upd.there)))); (focus (first | (simp; done) | (simp; omega) | omega)); clear S; intro w S; (try simp only [List.set_cons_zero, List.set_cons_succ] at S)) | ((refine wpl_load_agg tabs S rfl rfl (by rfl) (by rfl) (by (with_reducible repeat' (first | exact Pick.here | apply Pick.there))) (by first | (simp only [List.drop_succ_cons, List.drop_zero, List.take_succ_cons, List.take_zero, List.drop_nil, List.take_nil]; rfl) | rfl) (by first | rfl | (simp; done)) ?_)) | ((apply wpl_store_agg tabs S); (focus (rfl)); (focus (rfl)); (focus (rfl)); (focus (first | (go_simp; rfl) | (go_simp; done) | rfl)); (focus (first | rfl | (simp; done) | (simp; rfl))); (focus (rfl)); (focus (first | rfl | (simp; done))); (focus ((with_reducible repeat' (first | exact Upd.here | apply Upd.there)))); (focus (first | (simp; done) | (simp; omega) | omega)); clear S; intro w S; (try simp only [splice, List.take_succ_cons, List.take_zero, List.drop_succ_cons, List.drop_zero, List.drop_nil, List.nil_append, List.cons_append, List.append_nil, List.length_cons, List.length_nil, Nat.reduceAdd] at S)))
          go_roundw
          case rel => exact ⟨_, _, j + 1, by omega, by go_num, hG, H⟩
          case measure => simp [intOf]; omega
    · obtain rfl : j = asked.length := by omega
      go_wp2_with (first | (go_at_call 39; refine (two_lend H).mono ?_; rintro e w ⟨rfl, H'⟩; replace H := H'; clear H') | (go_at_call 40; refine (two_rend H).mono ?_; rintro e w ⟨rfl, H'⟩; replace H := H'; clear H') | (go_at_call 21; refine (knows_any _).mono ?_; rintro e w ⟨rfl, hb⟩; replace H := H.kept hb; clear hb) | ((refine wpl_load tabs S rfl rfl (by rfl) (by rfl) (by (with_reducible repeat' (first | exact Pick.here | apply Pick.there))) (by rfl) ?_)) | ((apply wpl_store tabs S); (focus (rfl)); (focus (rfl)); (focus (rfl)); (focus (rfl)); (focus (rfl)); (focus (first | (go_simp; rfl) | (go_simp; done) | rfl)); (focus (rfl)); (focus ((with_reducible repeat' (first | exact Upd.here | apply Upd.there)))); (focus (first | (simp; done) | (simp; omega) | omega)); clear S; intro w S; (try simp only [List.set_cons_zero, List.set_cons_succ] at S)) | ((refine wpl_load_agg tabs S rfl rfl (by rfl) (by rfl) (by (with_reducible repeat' (first | exact Pick.here | apply Pick.there))) (by first | (simp only [List.drop_succ_cons, List.drop_zero, List.take_succ_cons, List.take_zero, List.drop_nil, List.take_nil]; rfl) | rfl) (by first | rfl | (simp; done)) ?_)) | ((apply wpl_store_agg tabs S); (focus (rfl)); (focus (rfl)); (focus (rfl)); (focus (first | (go_simp; rfl) | (go_simp; done) | rfl)); (focus (first | rfl | (simp; done) | (simp; rfl))); (focus (rfl)); (focus (first | rfl | (simp; done))); (focus ((with_reducible repeat' (first | exact Upd.here | apply Upd.there)))); (focus (first | (simp; done) | (simp; omega) | omega)); clear S; intro w S; (try simp only [splice, List.take_succ_cons, List.take_zero, List.drop_succ_cons, List.drop_zero, List.drop_nil, List.nil_append, List.cons_append, List.append_nil, List.length_cons, List.length_nil, Nat.reduceAdd] at S)))
      ((first | apply fin1 rfl | apply fin2 rfl | apply fin3 rfl); (focus (repeat (first | exact ResV.nil | refine ResV.tmp (by rfl) ?_ | refine ResV.cell (by rfl) (load_agg_run tabs S (by rfl) (by (with_reducible repeat' (first | exact Pick.here | apply Pick.there))) (by first | (simp only [List.drop_succ_cons, List.drop_zero, List.take_succ_cons, List.take_zero, List.drop_nil, List.take_nil]; rfl) | rfl) (by first | rfl | (simp; done))) ?_ | refine ResV.cell (by rfl) (load_cell_run tabs S (by rfl) (by (with_reducible repeat' (first | exact Pick.here | apply Pick.there))) (by rfl)) ?_))); (focus rfl))
      obtain ⟨l, S⟩ := H.st
      exact ⟨by simp, hG.below S⟩
end Go.Proofs.Ytjnpohloodcddaa.Pack
