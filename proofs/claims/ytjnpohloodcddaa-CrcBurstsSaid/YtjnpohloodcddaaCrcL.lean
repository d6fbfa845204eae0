/- crc: the laws' walks. -/
import Derived.Test.YtjnpohloodcddaaCrcR
set_option linter.unusedVariables false
set_option linter.unusedSimpArgs false
namespace Go.Proofs.Ytjnpohloodcddaa.Crc
open Go.RowKit Go.Proofs.Ytjnpohloodcddaa.Sl
set_option maxHeartbeats 400000 in
set_option maxRecDepth 100000 in
theorem knows_any (w0 : World) : Calls Try.prog 15 #[] w0 fun e w' => e = .returned (.bool true) ∧ Below w0.heap.size w0 w' := by
  have S := St.start w0
  go_enter Try.func15, Try.ntmps15
  have e1 : sumOf [49, 50, 51, 52, 53, 54, 55, 56, 57] = 3421780262 := by decide +kernel
  have e2 : sumOf [] = 0 := by decide +kernel
  have tk0 : True := trivial
  have tk1 : True := trivial
  have tk2 : True := trivial
  have tk3 : True := trivial
  go_wp2_with (first | (have _t := tk0; clear _t tk0; (apply wpl_lit S rfl rfl); (focus (go_simp; first | done | rfl | (repeat' (first | rfl | apply And.intro)))); clear S; intro g w S) | (have _t := tk1; clear _t tk1; (refine wpl_text tabs (xs := [49, 50, 51, 52, 53, 54, 55, 56, 57]) S rfl rfl (by rfl) (by rfl) (by rfl) (by simp) (by simp [maxLen]) ?_); clear S; intro w S) | (have _t := tk2; clear _t tk2; go_at_call 16; refine (sum_any _ _ _ (S.rdVal Pick.here)).mono ?_; rintro e w ⟨rfl, hb⟩; replace S := S.kept hb; clear hb) | (have _t := tk3; clear _t tk3; go_at_call 16; refine (sum_any _ [] _ ⟨fun _ => True, Rep.slice_nil _ _ _⟩).mono ?_; rintro e w ⟨rfl, hb⟩; replace S := S.kept hb; clear hb) | ((refine wpl_load tabs S rfl rfl (by rfl) (by rfl) (by (with_reducible repeat' (first | exact Pick.here | apply Pick.there))) (by rfl) ?_)) | ((refine wpl_store tabs S rfl rfl rfl (by rfl) (by rfl) (by rfl) (by rfl) (by (with_reducible repeat' (first | exact Upd.here | apply Upd.there))) (by first | (simp; done) | (simp; omega) | omega) ?_); clear S; intro w S; (try simp only [List.set_cons_zero, List.set_cons_succ] at S)) | ((refine wpl_load_agg tabs S rfl rfl (by rfl) (by rfl) (by (with_reducible repeat' (first | exact Pick.here | apply Pick.there))) (by first | (simp only [List.drop_succ_cons, List.drop_zero, List.take_succ_cons, List.take_zero, List.drop_nil, List.take_nil]; rfl) | rfl) (by first | rfl | (simp; done)) ?_)) | ((refine wpl_store_agg tabs S rfl rfl rfl (by rfl) (by first | rfl | (simp; done) | (simp; rfl)) (by rfl) (by first | rfl | (simp; done)) (by (with_reducible repeat' (first | exact Upd.here | apply Upd.there))) (by first | (simp; done) | (simp; omega) | omega) ?_); clear S; intro w S; (try simp only [splice, List.take_succ_cons, List.take_zero, List.drop_succ_cons, List.drop_zero, List.drop_nil, List.nil_append, List.cons_append, List.append_nil, List.length_cons, List.length_nil, Nat.reduceAdd] at S)))
  ((first | apply fin1 rfl | apply finN rfl); (focus (repeat (first | exact ResV.nil | refine ResV.tmp (by rfl) ?_ | refine ResV.cell (by rfl) (load_agg_run tabs S (by rfl) (by (with_reducible repeat' (first | exact Pick.here | apply Pick.there))) (by first | (simp only [List.drop_succ_cons, List.drop_zero, List.take_succ_cons, List.take_zero, List.drop_nil, List.take_nil]; rfl) | rfl) (by first | rfl | (simp; done))) ?_ | refine ResV.cell (by rfl) (load_cell_run tabs S (by rfl) (by (with_reducible repeat' (first | exact Pick.here | apply Pick.there))) (by rfl)) ?_))); (focus rfl))
  exact ⟨rfl, S.below⟩

set_option maxHeartbeats 400000 in
set_option maxRecDepth 100000 in
theorem crcSums_any (r : Nat) (hr : r < 4294967296) (x : UInt8) (v : Value) (xs : List UInt8) (w0 : World) (hx : Rd Rep.byte.slice w0 xs [v]) :
    Calls Try.prog 5 #[.int .u32 (r : Int), .int .u8 (x.toNat : Int), v] w0 fun e w' => e = .returned (.bool true) ∧ Below w0.heap.size w0 w' := by
  have S := St.start w0
  have hg := hx.start
  obtain ⟨ao, cp, e, hcp, hmx, hsl⟩ := hx.start
  obtain rfl : v = .slice ao xs.length cp := by injection e
  clear e hsl hx hmx
  by_cases h1 : xs.length > 1000
  · go_enter Try.func5, Try.ntmps5
    go_wp2_with (first | (go_at_call 15; refine (knows_any _).mono ?_; rintro e w ⟨rfl, hb⟩; replace S := S.kept hb; clear hb) | ((refine wpl_load tabs S rfl rfl (by rfl) (by rfl) (by (with_reducible repeat' (first | exact Pick.here | apply Pick.there))) (by rfl) ?_)) | ((refine wpl_store tabs S rfl rfl rfl (by rfl) (by rfl) (by rfl) (by rfl) (by (with_reducible repeat' (first | exact Upd.here | apply Upd.there))) (by first | (simp; done) | (simp; omega) | omega) ?_); clear S; intro w S; (try simp only [List.set_cons_zero, List.set_cons_succ] at S)) | ((refine wpl_load_agg tabs S rfl rfl (by rfl) (by rfl) (by (with_reducible repeat' (first | exact Pick.here | apply Pick.there))) (by first | (simp only [List.drop_succ_cons, List.drop_zero, List.take_succ_cons, List.take_zero, List.drop_nil, List.take_nil]; rfl) | rfl) (by first | rfl | (simp; done)) ?_)) | ((refine wpl_store_agg tabs S rfl rfl rfl (by rfl) (by first | rfl | (simp; done) | (simp; rfl)) (by rfl) (by first | rfl | (simp; done)) (by (with_reducible repeat' (first | exact Upd.here | apply Upd.there))) (by first | (simp; done) | (simp; omega) | omega) ?_); clear S; intro w S; (try simp only [splice, List.take_succ_cons, List.take_zero, List.drop_succ_cons, List.drop_zero, List.drop_nil, List.nil_append, List.cons_append, List.append_nil, List.length_cons, List.length_nil, Nat.reduceAdd] at S)))
    ((first | apply fin1 rfl | apply finN rfl); (focus (repeat (first | exact ResV.nil | refine ResV.tmp (by rfl) ?_ | refine ResV.cell (by rfl) (load_agg_run tabs S (by rfl) (by (with_reducible repeat' (first | exact Pick.here | apply Pick.there))) (by first | (simp only [List.drop_succ_cons, List.drop_zero, List.take_succ_cons, List.take_zero, List.drop_nil, List.take_nil]; rfl) | rfl) (by first | rfl | (simp; done))) ?_ | refine ResV.cell (by rfl) (load_cell_run tabs S (by rfl) (by (with_reducible repeat' (first | exact Pick.here | apply Pick.there))) (by rfl)) ?_))); (focus rfl))
    exact ⟨rfl, S.below⟩
  · go_enter Try.func5, Try.ntmps5
    have tk0 : True := trivial
    have tk1 : True := trivial
    have tk2 : True := trivial
    have tk3 : True := trivial
    have tk4 : True := trivial
    have tk5 : True := trivial
    have tk6 : True := trivial
    go_wp2_with (first | (have _t := tk0; clear _t tk0; (apply wpl_lit S rfl rfl); (focus (go_simp; first | done | rfl | (repeat' (first | rfl | apply And.intro)))); clear S; intro g w S) | (have _t := tk1; clear _t tk1; go_at_call 18; replace S := St.asBytes (r := false) (xs := [x]) S (by simp [maxLen]); refine (byte_any r hr x _).mono ?_; rintro e w ⟨rfl, hb⟩; replace S := S.kept hb; clear hb) | (have _t := tk2; clear _t tk2; go_at_call 19; refine (ref_extend r hr _ [x] _ (S.rdOwn Pick.here)).mono ?_; rintro e w ⟨rfl, hb⟩; replace S := S.kept hb; clear hb) | (have _t := tk3; clear _t tk3; go_at_call 17; refine (extend_any r hr _ xs _ (S.rd hg)).mono ?_; rintro e w ⟨rfl, hb⟩; replace S := S.kept hb; clear hb) | (have _t := tk4; clear _t tk4; go_at_call 19; refine (ref_extend r hr _ xs _ (S.rd hg)).mono ?_; rintro e w ⟨rfl, hb⟩; replace S := S.kept hb; clear hb) | (have _t := tk5; clear _t tk5; go_at_call 16; refine (sum_any _ xs _ (S.rd hg)).mono ?_; rintro e w ⟨rfl, hb⟩; replace S := S.kept hb; clear hb) | (have _t := tk6; clear _t tk6; go_at_call 20; refine (ref_sum _ xs _ (S.rd hg)).mono ?_; rintro e w ⟨rfl, hb⟩; replace S := S.kept hb; clear hb) | (go_at_call 15; refine (knows_any _).mono ?_; rintro e w ⟨rfl, hb⟩; replace S := S.kept hb; clear hb) | ((refine wpl_load tabs S rfl rfl (by rfl) (by rfl) (by (with_reducible repeat' (first | exact Pick.here | apply Pick.there))) (by rfl) ?_)) | ((refine wpl_store tabs S rfl rfl rfl (by rfl) (by rfl) (by rfl) (by rfl) (by (with_reducible repeat' (first | exact Upd.here | apply Upd.there))) (by first | (simp; done) | (simp; omega) | omega) ?_); clear S; intro w S; (try simp only [List.set_cons_zero, List.set_cons_succ] at S)) | ((refine wpl_load_agg tabs S rfl rfl (by rfl) (by rfl) (by (with_reducible repeat' (first | exact Pick.here | apply Pick.there))) (by first | (simp only [List.drop_succ_cons, List.drop_zero, List.take_succ_cons, List.take_zero, List.drop_nil, List.take_nil]; rfl) | rfl) (by first | rfl | (simp; done)) ?_)) | ((refine wpl_store_agg tabs S rfl rfl rfl (by rfl) (by first | rfl | (simp; done) | (simp; rfl)) (by rfl) (by first | rfl | (simp; done)) (by (with_reducible repeat' (first | exact Upd.here | apply Upd.there))) (by first | (simp; done) | (simp; omega) | omega) ?_); clear S; intro w S; (try simp only [splice, List.take_succ_cons, List.take_zero, List.drop_succ_cons, List.drop_zero, List.drop_nil, List.nil_append, List.cons_append, List.append_nil, List.length_cons, List.length_nil, Nat.reduceAdd] at S)))
    ((first | apply fin1 rfl | apply finN rfl); (focus (repeat (first | exact ResV.nil | refine ResV.tmp (by rfl) ?_ | refine ResV.cell (by rfl) (load_agg_run tabs S (by rfl) (by (with_reducible repeat' (first | exact Pick.here | apply Pick.there))) (by first | (simp only [List.drop_succ_cons, List.drop_zero, List.take_succ_cons, List.take_zero, List.drop_nil, List.take_nil]; rfl) | rfl) (by first | rfl | (simp; done))) ?_ | refine ResV.cell (by rfl) (load_cell_run tabs S (by rfl) (by (with_reducible repeat' (first | exact Pick.here | apply Pick.there))) (by rfl)) ?_))); (focus rfl))
    exact ⟨rfl, S.below⟩

theorem comes_append (r : Nat) (xs ys : List UInt8) : comes r (xs ++ ys) = comes (comes r xs) ys := by unfold comes; rw [List.foldl_append]
set_option maxHeartbeats 400000 in
set_option maxRecDepth 100000 in
theorem crcParts_any (r : Nat) (hr : r < 4294967296) (va vb : Value) (xs ys : List UInt8) (w0 : World) (hxa : Rd Rep.byte.slice w0 xs [va]) (hxb : Rd Rep.byte.slice w0 ys [vb]) :
    Calls Try.prog 4 #[.int .u32 (r : Int), va, vb] w0 fun e w' => e = .returned (.bool true) ∧ Below w0.heap.size w0 w' := by
  have S := St.start w0
  have ga := hxa.start
  have gb := hxb.start
  obtain ⟨aa, ca, e, _, _, _⟩ := hxa.start
  obtain rfl : va = .slice aa xs.length ca := by injection e
  clear e
  obtain ⟨ab, cb, e, _, _, _⟩ := hxb.start
  obtain rfl : vb = .slice ab ys.length cb := by injection e
  clear e
  have hl := comes_lt (xs := xs) hr
  have hap := comes_append r xs ys
  by_cases h1 : xs.length > 500
  · go_enter Try.func4, Try.ntmps4
    go_wp2_with (first | (go_at_call 15; refine (knows_any _).mono ?_; rintro e w ⟨rfl, hb⟩; replace S := S.kept hb; clear hb) | ((refine wpl_load tabs S rfl rfl (by rfl) (by rfl) (by (with_reducible repeat' (first | exact Pick.here | apply Pick.there))) (by rfl) ?_)) | ((refine wpl_store tabs S rfl rfl rfl (by rfl) (by rfl) (by rfl) (by rfl) (by (with_reducible repeat' (first | exact Upd.here | apply Upd.there))) (by first | (simp; done) | (simp; omega) | omega) ?_); clear S; intro w S; (try simp only [List.set_cons_zero, List.set_cons_succ] at S)) | ((refine wpl_load_agg tabs S rfl rfl (by rfl) (by rfl) (by (with_reducible repeat' (first | exact Pick.here | apply Pick.there))) (by first | (simp only [List.drop_succ_cons, List.drop_zero, List.take_succ_cons, List.take_zero, List.drop_nil, List.take_nil]; rfl) | rfl) (by first | rfl | (simp; done)) ?_)) | ((refine wpl_store_agg tabs S rfl rfl rfl (by rfl) (by first | rfl | (simp; done) | (simp; rfl)) (by rfl) (by first | rfl | (simp; done)) (by (with_reducible repeat' (first | exact Upd.here | apply Upd.there))) (by first | (simp; done) | (simp; omega) | omega) ?_); clear S; intro w S; (try simp only [splice, List.take_succ_cons, List.take_zero, List.drop_succ_cons, List.drop_zero, List.drop_nil, List.nil_append, List.cons_append, List.append_nil, List.length_cons, List.length_nil, Nat.reduceAdd] at S)))
    ((first | apply fin1 rfl | apply finN rfl); (focus (repeat (first | exact ResV.nil | refine ResV.tmp (by rfl) ?_ | refine ResV.cell (by rfl) (load_agg_run tabs S (by rfl) (by (with_reducible repeat' (first | exact Pick.here | apply Pick.there))) (by first | (simp only [List.drop_succ_cons, List.drop_zero, List.take_succ_cons, List.take_zero, List.drop_nil, List.take_nil]; rfl) | rfl) (by first | rfl | (simp; done))) ?_ | refine ResV.cell (by rfl) (load_cell_run tabs S (by rfl) (by (with_reducible repeat' (first | exact Pick.here | apply Pick.there))) (by rfl)) ?_))); (focus rfl))
    exact ⟨rfl, S.below⟩
  by_cases h2 : ys.length > 500
  · go_enter Try.func4, Try.ntmps4
    go_wp2_with (first | (go_at_call 15; refine (knows_any _).mono ?_; rintro e w ⟨rfl, hb⟩; replace S := S.kept hb; clear hb) | ((refine wpl_load tabs S rfl rfl (by rfl) (by rfl) (by (with_reducible repeat' (first | exact Pick.here | apply Pick.there))) (by rfl) ?_)) | ((refine wpl_store tabs S rfl rfl rfl (by rfl) (by rfl) (by rfl) (by rfl) (by (with_reducible repeat' (first | exact Upd.here | apply Upd.there))) (by first | (simp; done) | (simp; omega) | omega) ?_); clear S; intro w S; (try simp only [List.set_cons_zero, List.set_cons_succ] at S)) | ((refine wpl_load_agg tabs S rfl rfl (by rfl) (by rfl) (by (with_reducible repeat' (first | exact Pick.here | apply Pick.there))) (by first | (simp only [List.drop_succ_cons, List.drop_zero, List.take_succ_cons, List.take_zero, List.drop_nil, List.take_nil]; rfl) | rfl) (by first | rfl | (simp; done)) ?_)) | ((refine wpl_store_agg tabs S rfl rfl rfl (by rfl) (by first | rfl | (simp; done) | (simp; rfl)) (by rfl) (by first | rfl | (simp; done)) (by (with_reducible repeat' (first | exact Upd.here | apply Upd.there))) (by first | (simp; done) | (simp; omega) | omega) ?_); clear S; intro w S; (try simp only [splice, List.take_succ_cons, List.take_zero, List.drop_succ_cons, List.drop_zero, List.drop_nil, List.nil_append, List.cons_append, List.append_nil, List.length_cons, List.length_nil, Nat.reduceAdd] at S)))
    ((first | apply fin1 rfl | apply finN rfl); (focus (repeat (first | exact ResV.nil | refine ResV.tmp (by rfl) ?_ | refine ResV.cell (by rfl) (load_agg_run tabs S (by rfl) (by (with_reducible repeat' (first | exact Pick.here | apply Pick.there))) (by first | (simp only [List.drop_succ_cons, List.drop_zero, List.take_succ_cons, List.take_zero, List.drop_nil, List.take_nil]; rfl) | rfl) (by first | rfl | (simp; done))) ?_ | refine ResV.cell (by rfl) (load_cell_run tabs S (by rfl) (by (with_reducible repeat' (first | exact Pick.here | apply Pick.there))) (by rfl)) ?_))); (focus rfl))
    exact ⟨rfl, S.below⟩
  · go_enter Try.func4, Try.ntmps4
    have tk0 : True := trivial
    have tk1 : True := trivial
    have tk2 : True := trivial
    have tk3 : True := trivial
    have tk4 : True := trivial
    have tk5 : True := trivial
    go_wp2_with (first | (have _t := tk0; clear _t tk0; (apply wpl_lit S rfl rfl); (focus (go_simp; first | done | rfl | (repeat' (first | rfl | apply And.intro)))); clear S; intro g w S; replace S := St.asBytes (r := false) (xs := []) S (by simp [maxLen]); (try simp only [List.length_cons, List.length_nil, Nat.zero_add, Nat.reduceAdd] at S)) | (have _t := tk1; clear _t tk1; (apply wpl_append_flat tabs S); (focus (rfl)); (focus (rfl)); (focus (rfl)); (focus ((with_reducible repeat' (first | exact Pick.here | apply Pick.there)))); (focus (rfl)); (focus (rfl)); (focus (exact (by first | exact Rep.byte_flat | exact Rep.int_flat _ | exact Rep.bool_flat | exact Rep.str_flat | assumption))); (focus (rfl)); (focus (exact (S.rd ga))); (focus (exact (by (try simp only [Sl.maxLen_eq, List.length_append, List.length_cons, List.length_nil, List.length_take, List.length_drop, List.length_map, List.length_replicate, Nat.zero_add, Nat.mul_one]); (try omega)))); (focus (exact (by (try simp only [Sl.maxLen_eq, List.length_append, List.length_cons, List.length_nil, List.length_take, List.length_drop, List.length_map, List.length_replicate, Nat.zero_add, Nat.mul_one]); (try omega)))); clear S; intro a1 c1 w S; (try simp only [List.nil_append, List.append_nil, List.length_nil, List.length_cons, List.length_append, Nat.zero_add, Nat.add_zero, Nat.reduceAdd] at S ⊢)) | (have _t := tk2; clear _t tk2; (apply wpl_append_flat tabs S); (focus (rfl)); (focus (rfl)); (focus (rfl)); (focus ((with_reducible repeat' (first | exact Pick.here | apply Pick.there)))); (focus (rfl)); (focus (rfl)); (focus (exact (by first | exact Rep.byte_flat | exact Rep.int_flat _ | exact Rep.bool_flat | exact Rep.str_flat | assumption))); (focus (rfl)); (focus (exact (S.rd gb))); (focus (exact (by (try simp only [Sl.maxLen_eq, List.length_append, List.length_cons, List.length_nil, List.length_take, List.length_drop, List.length_map, List.length_replicate, Nat.zero_add, Nat.mul_one]); (try omega)))); (focus (exact (by (try simp only [Sl.maxLen_eq, List.length_append, List.length_cons, List.length_nil, List.length_take, List.length_drop, List.length_map, List.length_replicate, Nat.zero_add, Nat.mul_one]); (try omega)))); clear S; intro a2 c2 w S; (try simp only [List.nil_append, List.append_nil, List.length_nil, List.length_cons, List.length_append, Nat.zero_add, Nat.add_zero, Nat.reduceAdd] at S ⊢)) | (have _t := tk3; clear _t tk3; go_at_call 17; refine (extend_any r hr _ xs _ (S.rd ga)).mono ?_; rintro e w ⟨rfl, hb⟩; replace S := S.kept hb; clear hb) | (have _t := tk4; clear _t tk4; go_at_call 17; refine (extend_any _ hl _ ys _ (S.rd gb)).mono ?_; rintro e w ⟨rfl, hb⟩; replace S := S.kept hb; clear hb) | (have _t := tk5; clear _t tk5; go_at_call 17; refine (extend_any r hr _ (xs ++ ys) _ (S.rdOwn Pick.here)).mono ?_; rintro e w ⟨rfl, hb⟩; replace S := S.kept hb; clear hb) | (go_at_call 15; refine (knows_any _).mono ?_; rintro e w ⟨rfl, hb⟩; replace S := S.kept hb; clear hb) | ((refine wpl_load tabs S rfl rfl (by rfl) (by rfl) (by (with_reducible repeat' (first | exact Pick.here | apply Pick.there))) (by rfl) ?_)) | ((refine wpl_store tabs S rfl rfl rfl (by rfl) (by rfl) (by rfl) (by rfl) (by (with_reducible repeat' (first | exact Upd.here | apply Upd.there))) (by first | (simp; done) | (simp; omega) | omega) ?_); clear S; intro w S; (try simp only [List.set_cons_zero, List.set_cons_succ] at S)) | ((refine wpl_load_agg tabs S rfl rfl (by rfl) (by rfl) (by (with_reducible repeat' (first | exact Pick.here | apply Pick.there))) (by first | (simp only [List.drop_succ_cons, List.drop_zero, List.take_succ_cons, List.take_zero, List.drop_nil, List.take_nil]; rfl) | rfl) (by first | rfl | (simp; done)) ?_)) | ((refine wpl_store_agg tabs S rfl rfl rfl (by rfl) (by first | rfl | (simp; done) | (simp; rfl)) (by rfl) (by first | rfl | (simp; done)) (by (with_reducible repeat' (first | exact Upd.here | apply Upd.there))) (by first | (simp; done) | (simp; omega) | omega) ?_); clear S; intro w S; (try simp only [splice, List.take_succ_cons, List.take_zero, List.drop_succ_cons, List.drop_zero, List.drop_nil, List.nil_append, List.cons_append, List.append_nil, List.length_cons, List.length_nil, Nat.reduceAdd] at S)))
    ((first | apply fin1 rfl | apply finN rfl); (focus (repeat (first | exact ResV.nil | refine ResV.tmp (by rfl) ?_ | refine ResV.cell (by rfl) (load_agg_run tabs S (by rfl) (by (with_reducible repeat' (first | exact Pick.here | apply Pick.there))) (by first | (simp only [List.drop_succ_cons, List.drop_zero, List.take_succ_cons, List.take_zero, List.drop_nil, List.take_nil]; rfl) | rfl) (by first | rfl | (simp; done))) ?_ | refine ResV.cell (by rfl) (load_cell_run tabs S (by rfl) (by (with_reducible repeat' (first | exact Pick.here | apply Pick.there))) (by rfl)) ?_))); (focus rfl))
    exact ⟨rfl, S.below⟩

theorem u32_nat {a : Int} (h : (Lit.int .u32 a).wf = true) : ∃ r : Nat, a = (r : Int) ∧ r < 4294967296 := by
  have h1 : IntKind.u32.min ≤ a ∧ a ≤ IntKind.u32.max := by simpa [Lit.wf] using h
  have h2 : IntKind.u32.min = 0 := rfl
  have h3 : IntKind.u32.max = 4294967295 := rfl
  exact ⟨a.toNat, by omega, by omega⟩
theorem u8_byte {a : Int} (h : (Lit.int .u8 a).wf = true) : ∃ r : UInt8, a = (r.toNat : Int) := by
  have h1 : IntKind.u8.min ≤ a ∧ a ≤ IntKind.u8.max := by simpa [Lit.wf] using h
  have h2 : IntKind.u8.min = 0 := rfl
  have h3 : IntKind.u8.max = 255 := rfl
  refine ⟨UInt8.ofNat a.toNat, ?_⟩
  have h4 : (UInt8.ofNat a.toNat).toNat = a.toNat % 256 := by simp
  omega
end Go.Proofs.Ytjnpohloodcddaa.Crc
namespace Go.Proofs.Ytjnpohloodcddaa.Rw
open Go.RowKit Go.Proofs.Ytjnpohloodcddaa.Sl Go.Proofs.Ytjnpohloodcddaa.Crc
theorem crcSums_row (w0 : World) (a0 : Int) (h0 : (Lit.int .u32 a0).wf = true) (a1 : Int) (h1 : (Lit.int .u8 a1).wf = true) (v : Value) (xs : List UInt8) (hx : Rd Rep.byte.slice w0 xs [v]) :
    Calls Try.prog 5 #[.int .u32 a0, .int .u8 a1, v] w0 fun e w' => e = .returned (.bool true) ∧ Below w0.heap.size w0 w' := by
  obtain ⟨r, rfl, hr⟩ := u32_nat h0
  obtain ⟨x, rfl⟩ := u8_byte h1
  exact crcSums_any r hr x v xs w0 hx
theorem crcParts_row (w0 : World) (a0 : Int) (h0 : (Lit.int .u32 a0).wf = true) (va : Value) (xs : List UInt8) (hxa : Rd Rep.byte.slice w0 xs [va]) (vb : Value) (ys : List UInt8) (hxb : Rd Rep.byte.slice w0 ys [vb]) :
    Calls Try.prog 4 #[.int .u32 a0, va, vb] w0 fun e w' => e = .returned (.bool true) ∧ Below w0.heap.size w0 w' := by
  obtain ⟨r, rfl, hr⟩ := u32_nat h0
  exact crcParts_any r hr va vb xs ys w0 hxa hxb
end Go.Proofs.Ytjnpohloodcddaa.Rw
