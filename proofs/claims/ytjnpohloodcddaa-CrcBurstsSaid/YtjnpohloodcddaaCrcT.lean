/- crc: the walk of the law on bursts. -/
import Derived.Test.YtjnpohloodcddaaCrcL
import Derived.Test.YtjnpohloodcddaaCrcB
set_option linter.unusedVariables false
set_option linter.unusedSimpArgs false
namespace Go.Proofs.Ytjnpohloodcddaa.Crc
open Go.RowKit Go.Proofs.Ytjnpohloodcddaa.Sl
set_option maxHeartbeats 400000 in
set_option maxRecDepth 100000 in
theorem crcBursts_any (va : Value) (b : List UInt8) (at_ t : Nat) (hat : at_ < 65536) (ht : t < 4294967296) (w0 : World) (hxa : Rd Rep.byte.slice w0 b [va]) :
    Calls Try.prog 3 #[va, .int .u16 (at_ : Int), .int .u32 (t : Int)] w0 fun e w' => e = .returned (.bool true) ∧ Below w0.heap.size w0 w' := by
  have S := St.start w0
  have ga := hxa.start
  obtain ⟨aa, ca, e, _, _, _⟩ := hxa.start
  obtain rfl : va = .slice aa b.length ca := by injection e
  clear e
  by_cases h1 : b.length < 5
  · go_enter Try.func3, Try.ntmps3
    go_wp2_with (first | (go_at_call 15; refine (knows_any _).mono ?_; rintro e w ⟨rfl, hb⟩; replace S := S.kept hb; clear hb) | ((refine wpl_load tabs S rfl rfl (by rfl) (by rfl) (by (with_reducible repeat' (first | exact Pick.here | apply Pick.there))) (by rfl) ?_)) | ((refine wpl_store tabs S rfl rfl rfl (by rfl) (by rfl) (by rfl) (by rfl) (by (with_reducible repeat' (first | exact Upd.here | apply Upd.there))) (by first | (simp; done) | (simp; omega) | omega) ?_); clear S; intro w S; (try simp only [List.set_cons_zero, List.set_cons_succ] at S)) | ((refine wpl_load_agg tabs S rfl rfl (by rfl) (by rfl) (by (with_reducible repeat' (first | exact Pick.here | apply Pick.there))) (by first | (simp only [List.drop_succ_cons, List.drop_zero, List.take_succ_cons, List.take_zero, List.drop_nil, List.take_nil]; rfl) | rfl) (by first | rfl | (simp; done)) ?_)) | ((refine wpl_store_agg tabs S rfl rfl rfl (by rfl) (by first | rfl | (simp; done) | (simp; rfl)) (by rfl) (by first | rfl | (simp; done)) (by (with_reducible repeat' (first | exact Upd.here | apply Upd.there))) (by first | (simp; done) | (simp; omega) | omega) ?_); clear S; intro w S; (try simp only [splice, List.take_succ_cons, List.take_zero, List.drop_succ_cons, List.drop_zero, List.drop_nil, List.nil_append, List.cons_append, List.append_nil, List.length_cons, List.length_nil, Nat.reduceAdd] at S)))
    ((first | apply fin1 rfl | apply finN rfl); (focus (repeat (first | exact ResV.nil | refine ResV.tmp (by rfl) ?_ | refine ResV.cell (by rfl) (load_agg_run tabs S (by rfl) (by (with_reducible repeat' (first | exact Pick.here | apply Pick.there))) (by first | (simp only [List.drop_succ_cons, List.drop_zero, List.take_succ_cons, List.take_zero, List.drop_nil, List.take_nil]; rfl) | rfl) (by first | rfl | (simp; done))) ?_ | refine ResV.cell (by rfl) (load_cell_run tabs S (by rfl) (by (with_reducible repeat' (first | exact Pick.here | apply Pick.there))) (by rfl)) ?_))); (focus rfl))
    exact ⟨rfl, S.below⟩
  by_cases h2 : b.length > 600
  · go_enter Try.func3, Try.ntmps3
    go_wp2_with (first | (go_at_call 15; refine (knows_any _).mono ?_; rintro e w ⟨rfl, hb⟩; replace S := S.kept hb; clear hb) | ((refine wpl_load tabs S rfl rfl (by rfl) (by rfl) (by (with_reducible repeat' (first | exact Pick.here | apply Pick.there))) (by rfl) ?_)) | ((refine wpl_store tabs S rfl rfl rfl (by rfl) (by rfl) (by rfl) (by rfl) (by (with_reducible repeat' (first | exact Upd.here | apply Upd.there))) (by first | (simp; done) | (simp; omega) | omega) ?_); clear S; intro w S; (try simp only [List.set_cons_zero, List.set_cons_succ] at S)) | ((refine wpl_load_agg tabs S rfl rfl (by rfl) (by rfl) (by (with_reducible repeat' (first | exact Pick.here | apply Pick.there))) (by first | (simp only [List.drop_succ_cons, List.drop_zero, List.take_succ_cons, List.take_zero, List.drop_nil, List.take_nil]; rfl) | rfl) (by first | rfl | (simp; done)) ?_)) | ((refine wpl_store_agg tabs S rfl rfl rfl (by rfl) (by first | rfl | (simp; done) | (simp; rfl)) (by rfl) (by first | rfl | (simp; done)) (by (with_reducible repeat' (first | exact Upd.here | apply Upd.there))) (by first | (simp; done) | (simp; omega) | omega) ?_); clear S; intro w S; (try simp only [splice, List.take_succ_cons, List.take_zero, List.drop_succ_cons, List.drop_zero, List.drop_nil, List.nil_append, List.cons_append, List.append_nil, List.length_cons, List.length_nil, Nat.reduceAdd] at S)))
    ((first | apply fin1 rfl | apply finN rfl); (focus (repeat (first | exact ResV.nil | refine ResV.tmp (by rfl) ?_ | refine ResV.cell (by rfl) (load_agg_run tabs S (by rfl) (by (with_reducible repeat' (first | exact Pick.here | apply Pick.there))) (by first | (simp only [List.drop_succ_cons, List.drop_zero, List.take_succ_cons, List.take_zero, List.drop_nil, List.take_nil]; rfl) | rfl) (by first | rfl | (simp; done))) ?_ | refine ResV.cell (by rfl) (load_cell_run tabs S (by rfl) (by (with_reducible repeat' (first | exact Pick.here | apply Pick.there))) (by rfl)) ?_))); (focus rfl))
    exact ⟨rfl, S.below⟩
  by_cases h3 : t = 0
  · subst h3
    go_enter Try.func3, Try.ntmps3
    go_wp2_with (first | (go_at_call 15; refine (knows_any _).mono ?_; rintro e w ⟨rfl, hb⟩; replace S := S.kept hb; clear hb) | ((refine wpl_load tabs S rfl rfl (by rfl) (by rfl) (by (with_reducible repeat' (first | exact Pick.here | apply Pick.there))) (by rfl) ?_)) | ((refine wpl_store tabs S rfl rfl rfl (by rfl) (by rfl) (by rfl) (by rfl) (by (with_reducible repeat' (first | exact Upd.here | apply Upd.there))) (by first | (simp; done) | (simp; omega) | omega) ?_); clear S; intro w S; (try simp only [List.set_cons_zero, List.set_cons_succ] at S)) | ((refine wpl_load_agg tabs S rfl rfl (by rfl) (by rfl) (by (with_reducible repeat' (first | exact Pick.here | apply Pick.there))) (by first | (simp only [List.drop_succ_cons, List.drop_zero, List.take_succ_cons, List.take_zero, List.drop_nil, List.take_nil]; rfl) | rfl) (by first | rfl | (simp; done)) ?_)) | ((refine wpl_store_agg tabs S rfl rfl rfl (by rfl) (by first | rfl | (simp; done) | (simp; rfl)) (by rfl) (by first | rfl | (simp; done)) (by (with_reducible repeat' (first | exact Upd.here | apply Upd.there))) (by first | (simp; done) | (simp; omega) | omega) ?_); clear S; intro w S; (try simp only [splice, List.take_succ_cons, List.take_zero, List.drop_succ_cons, List.drop_zero, List.drop_nil, List.nil_append, List.cons_append, List.append_nil, List.length_cons, List.length_nil, Nat.reduceAdd] at S)))
    ((first | apply fin1 rfl | apply finN rfl); (focus (repeat (first | exact ResV.nil | refine ResV.tmp (by rfl) ?_ | refine ResV.cell (by rfl) (load_agg_run tabs S (by rfl) (by (with_reducible repeat' (first | exact Pick.here | apply Pick.there))) (by first | (simp only [List.drop_succ_cons, List.drop_zero, List.take_succ_cons, List.take_zero, List.drop_nil, List.take_nil]; rfl) | rfl) (by first | rfl | (simp; done))) ?_ | refine ResV.cell (by rfl) (load_cell_run tabs S (by rfl) (by (with_reducible repeat' (first | exact Pick.here | apply Pick.there))) (by rfl)) ?_))); (focus rfl))
    exact ⟨rfl, S.below⟩
  have h3b : ((t : Int) == 0) = false := by simp; omega
  have hfr0 : Hd (8 * (at_ % (8 * b.length - 31) / 8) + at_ % (8 * b.length - 31) % 8 + 32 ≤ 8 * b.length) := ⟨by have := Nat.mod_lt at_ (show 8 * b.length - 31 > 0 by omega); omega⟩
  have hfi : ((at_ : Int) % (8 * (b.length : Int) - 31)) = ((at_ % (8 * b.length - 31) : Nat) : Int) := by
    rw [Int.natCast_emod]; congr 1; omega
  have hml := Nat.mod_lt at_ (show 8 * b.length - 31 > 0 by omega)
  generalize at_ % (8 * b.length - 31) = fr at *
  have hs8 : fr % 8 < 8 := Nat.mod_lt _ (by omega)
  have hBl : t * 2 ^ (fr % 8) < 1099511627776 := by
    have h1 : t * 2 ^ (fr % 8) < 2 ^ 32 * 2 ^ (fr % 8) := Nat.mul_lt_mul_of_pos_right ht (Nat.two_pow_pos _)
    rw [← Nat.pow_add] at h1
    exact Nat.lt_of_lt_of_le h1 (Nat.pow_le_pow_right (n := 2) (j := 40) (by omega) (by omega))
  have hwr : IntKind.u64.wrap ((t : Int) * 2 ^ (fr % 8)) = ((t * 2 ^ (fr % 8) : Nat) : Int) := by
    rw [IntKind.wrap_u64, Int.natCast_mul, Int.natCast_pow, Int.emod_eq_of_lt]
    · rfl
    · exact Int.mul_nonneg (by omega) (Int.pow_nonneg (by omega))
    · have h5 : (((t * 2 ^ (fr % 8) : Nat)) : Int) < 1099511627776 := by omega
      rw [Int.natCast_mul, Int.natCast_pow] at h5
      exact Int.lt_trans h5 (by omega)
  have hbu := burst b (fr / 8) (fr % 8) t hs8 ht h3 hfr0.out
  have hdv : (fr : Int) / 8 = ((fr / 8 : Nat) : Int) := by omega
  have hmd : (fr : Int) % 8 = ((fr % 8 : Nat) : Int) := by omega
  have hne : Hd (b ≠ []) := ⟨fun h => by rw [h] at h1; simp at h1⟩
  generalize t * 2 ^ (fr % 8) = B at *
  have hp0 : fr / 8 ≤ 600 := by omega
  generalize fr / 8 = p at *
  generalize fr % 8 = s at *
  have hbn : (((sumOf (xors b (mask p 5 B b.length)) : Nat) : Int) != ((sumOf b : Nat) : Int)) = true := by simp; omega
  have hbe : (((sumOf (xors b (mask p 5 B b.length)) : Nat) : Int) == ((sumOf b : Nat) : Int)) = false := by simp; omega
  clear hbu
  go_enter Try.func3, Try.ntmps3
  have tk0 : True := trivial
  have tk1 : True := trivial
  go_wp2_with (first | (have _t := tk0; clear _t tk0; (apply wpl_lit S rfl rfl); (focus (go_simp; first | done | rfl | (repeat' (first | rfl | apply And.intro)))); clear S; intro g w S; replace S := St.asBytes (r := false) (xs := []) S (by simp [maxLen]); (try simp only [List.length_cons, List.length_nil, Nat.zero_add, Nat.reduceAdd] at S)) | (have _t := tk1; clear _t tk1; (apply wpl_append_flat tabs S); (focus (rfl)); (focus (rfl)); (focus (rfl)); (focus ((with_reducible repeat' (first | exact Pick.here | apply Pick.there)))); (focus (rfl)); (focus (rfl)); (focus (exact (by first | exact Rep.byte_flat | exact Rep.int_flat _ | exact Rep.bool_flat | exact Rep.str_flat | assumption))); (focus (rfl)); (focus (exact (S.rd ga))); (focus (exact (by (try simp only [Sl.maxLen_eq, List.length_append, List.length_cons, List.length_nil, List.length_take, List.length_drop, List.length_map, List.length_replicate, Nat.zero_add, Nat.mul_one]); (try omega)))); (focus (exact (by (try simp only [Sl.maxLen_eq, List.length_append, List.length_cons, List.length_nil, List.length_take, List.length_drop, List.length_map, List.length_replicate, Nat.zero_add, Nat.mul_one]); (try omega)))); clear S; intro a1 c1 w S; (try simp only [List.nil_append, List.append_nil, List.length_nil, List.length_cons, List.length_append, Nat.zero_add, Nat.add_zero, Nat.reduceAdd] at S ⊢)) | ((refine wpl_load tabs S rfl rfl (by rfl) (by rfl) (by (with_reducible repeat' (first | exact Pick.here | apply Pick.there))) (by rfl) ?_)) | ((refine wpl_store tabs S rfl rfl rfl (by rfl) (by rfl) (by rfl) (by rfl) (by (with_reducible repeat' (first | exact Upd.here | apply Upd.there))) (by first | (simp; done) | (simp; omega) | omega) ?_); clear S; intro w S; (try simp only [List.set_cons_zero, List.set_cons_succ] at S)) | ((refine wpl_load_agg tabs S rfl rfl (by rfl) (by rfl) (by (with_reducible repeat' (first | exact Pick.here | apply Pick.there))) (by first | (simp only [List.drop_succ_cons, List.drop_zero, List.take_succ_cons, List.take_zero, List.drop_nil, List.take_nil]; rfl) | rfl) (by first | rfl | (simp; done)) ?_)) | ((refine wpl_store_agg tabs S rfl rfl rfl (by rfl) (by first | rfl | (simp; done) | (simp; rfl)) (by rfl) (by first | rfl | (simp; done)) (by (with_reducible repeat' (first | exact Upd.here | apply Upd.there))) (by first | (simp; done) | (simp; omega) | omega) ?_); clear S; intro w S; (try simp only [splice, List.take_succ_cons, List.take_zero, List.drop_succ_cons, List.drop_zero, List.drop_nil, List.nil_append, List.cons_append, List.append_nil, List.length_cons, List.length_nil, Nat.reduceAdd] at S)))
  obtain ⟨g1, rest, rfl, hc1, hc2, S⟩ := S.openBytes hne.out
  have HC := Hd.mk (And.intro hc1 hc2)
  clear hc1 hc2 hmd hfi hwr
  go_loopw [10] (fun i wr => ∃ k : Nat, k ≤ 5 ∧ i = .int .i64 k ∧ St wr (Gh.of w0) [Cs g1 ((xors b (mask p k B b.length)).map bv ++ rest) 5]) (fun i _ => 5 - (intOf i).toNat)
  case atStart => exact ⟨0, by omega, rfl, by rw [xors_none]; exact S⟩
  case round =>
    clear S
    obtain ⟨k, hk, rfl, S⟩ := hrel
    by_cases hk5 : k < 5
    · by_cases hpk : p + k < b.length
      · obtain ⟨x, hx⟩ : ∃ x, (xors b (mask p k B b.length))[p + k]? = some x := ⟨_, List.getElem?_eq_getElem (by rw [xors_len _ _ (by simp)]; exact hpk)⟩
        have hcell : wr.cell? ⟨g1, p + k, none⟩ = some (.int .u8 (x.toNat : Int)) := S.cell _ Pick.here (by rw [List.getElem?_append_left (by rw [List.length_map, xors_len _ _ (by simp)]; exact hpk), List.getElem?_map, hx]; rfl)
        have hfro := S.frozen (p + k) Pick.here
        have hstep := Hd.mk (mask_step b p k B hpk x hx)
        have hlen : Hd ((xors b (mask p k B b.length)).length = b.length) := ⟨xors_len _ _ (by simp)⟩
        clear hx
        have HS := Hd.mk S
        clear S
        go_wp2_with (first | ((refine wpl_load tabs S rfl rfl (by rfl) (by rfl) (by (with_reducible repeat' (first | exact Pick.here | apply Pick.there))) (by rfl) ?_)) | ((refine wpl_store tabs S rfl rfl rfl (by rfl) (by rfl) (by rfl) (by rfl) (by (with_reducible repeat' (first | exact Upd.here | apply Upd.there))) (by first | (simp; done) | (simp; omega) | omega) ?_); clear S; intro w S; (try simp only [List.set_cons_zero, List.set_cons_succ] at S)) | ((refine wpl_load_agg tabs S rfl rfl (by rfl) (by rfl) (by (with_reducible repeat' (first | exact Pick.here | apply Pick.there))) (by first | (simp only [List.drop_succ_cons, List.drop_zero, List.take_succ_cons, List.take_zero, List.drop_nil, List.take_nil]; rfl) | rfl) (by first | rfl | (simp; done)) ?_)) | ((refine wpl_store_agg tabs S rfl rfl rfl (by rfl) (by first | rfl | (simp; done) | (simp; rfl)) (by rfl) (by first | rfl | (simp; done)) (by (with_reducible repeat' (first | exact Upd.here | apply Upd.there))) (by first | (simp; done) | (simp; omega) | omega) ?_); clear S; intro w S; (try simp only [splice, List.take_succ_cons, List.take_zero, List.drop_succ_cons, List.drop_zero, List.drop_nil, List.nil_append, List.cons_append, List.append_nil, List.length_cons, List.length_nil, Nat.reduceAdd] at S)))
        go_region
        go_wp2
        go_roundw
        case rel =>
          refine ⟨k + 1, by omega, by go_num, ?_⟩
          have hq : ((B : Int) / 2 ^ (8 * k) % 256) = ((B / 2 ^ (8 * k) % 256 : Nat) : Int) := by
            rw [Int.natCast_emod, Int.natCast_ediv, Int.natCast_pow]; rfl
          have hxr : bits .xor .u8 (x.toNat : Int) ((B : Int) / 2 ^ (8 * k) % 256) = (((x ^^^ UInt8.ofNat (B / 2 ^ (8 * k))).toNat : Nat) : Int) := by
            rw [hq, u8_xor_nat _ _ x.toNat_lt (Nat.mod_lt _ (by omega)), UInt8.toNat_xor]
            simp
          rw [hxr]
          have hset : (List.map bv (xors b (mask p k B b.length)) ++ rest).set (p + k) (.int .u8 ((x ^^^ UInt8.ofNat (B / 2 ^ (8 * k))).toNat : Int)) = List.map bv (xors b (mask p (k + 1) B b.length)) ++ rest := by
            rw [List.set_append_left _ _ (by rw [List.length_map, hlen.out]; exact hpk), ← hstep.out, List.map_set]
            rfl
          rw [← hset]
          exact (HS.out.put (p + k) Upd.here).drew
        case measure => simp [intOf]; omega
      · have hend := Hd.mk (mask_end p k B b.length hk (by omega))
        have tk0 : True := trivial
        have tk1 : True := trivial
        go_wp2_with (first | (have _t := tk0; clear _t tk0; go_at_call 16; replace S := S.closeBytes (r := false) (c := c1) (by rw [HC.out.1, xors_len _ _ (by simp)]) HC.out.2; rw [hend.out] at S; refine (sum_any _ (xors b (mask p 5 B b.length)) _ (by have h9 := S.rdOwn Pick.here; rw [xors_len _ _ (by simp)] at h9; exact h9)).mono ?_; rintro e w ⟨rfl, hb⟩; replace S := S.kept hb; clear hb) | (have _t := tk1; clear _t tk1; go_at_call 16; refine (sum_any _ b _ (S.rd ga)).mono ?_; rintro e w ⟨rfl, hb⟩; replace S := S.kept hb; clear hb) | (go_at_call 15; refine (knows_any _).mono ?_; rintro e w ⟨rfl, hb⟩; replace S := S.kept hb; clear hb) | ((refine wpl_load tabs S rfl rfl (by rfl) (by rfl) (by (with_reducible repeat' (first | exact Pick.here | apply Pick.there))) (by rfl) ?_)) | ((refine wpl_store tabs S rfl rfl rfl (by rfl) (by rfl) (by rfl) (by rfl) (by (with_reducible repeat' (first | exact Upd.here | apply Upd.there))) (by first | (simp; done) | (simp; omega) | omega) ?_); clear S; intro w S; (try simp only [List.set_cons_zero, List.set_cons_succ] at S)) | ((refine wpl_load_agg tabs S rfl rfl (by rfl) (by rfl) (by (with_reducible repeat' (first | exact Pick.here | apply Pick.there))) (by first | (simp only [List.drop_succ_cons, List.drop_zero, List.take_succ_cons, List.take_zero, List.drop_nil, List.take_nil]; rfl) | rfl) (by first | rfl | (simp; done)) ?_)) | ((refine wpl_store_agg tabs S rfl rfl rfl (by rfl) (by first | rfl | (simp; done) | (simp; rfl)) (by rfl) (by first | rfl | (simp; done)) (by (with_reducible repeat' (first | exact Upd.here | apply Upd.there))) (by first | (simp; done) | (simp; omega) | omega) ?_); clear S; intro w S; (try simp only [splice, List.take_succ_cons, List.take_zero, List.drop_succ_cons, List.drop_zero, List.drop_nil, List.nil_append, List.cons_append, List.append_nil, List.length_cons, List.length_nil, Nat.reduceAdd] at S)))
        ((first | apply fin1 rfl | apply finN rfl); (focus (repeat (first | exact ResV.nil | refine ResV.tmp (by rfl) ?_ | refine ResV.cell (by rfl) (load_agg_run tabs S (by rfl) (by (with_reducible repeat' (first | exact Pick.here | apply Pick.there))) (by first | (simp only [List.drop_succ_cons, List.drop_zero, List.take_succ_cons, List.take_zero, List.drop_nil, List.take_nil]; rfl) | rfl) (by first | rfl | (simp; done))) ?_ | refine ResV.cell (by rfl) (load_cell_run tabs S (by rfl) (by (with_reducible repeat' (first | exact Pick.here | apply Pick.there))) (by rfl)) ?_))); (focus rfl))
        exact ⟨rfl, S.below⟩
    · obtain rfl : k = 5 := by omega
      have tk0 : True := trivial
      have tk1 : True := trivial
      go_wp2_with (first | (have _t := tk0; clear _t tk0; go_at_call 16; replace S := S.closeBytes (r := false) (c := c1) (by rw [HC.out.1, xors_len _ _ (by simp)]) HC.out.2; refine (sum_any _ (xors b (mask p 5 B b.length)) _ (by have h9 := S.rdOwn Pick.here; rw [xors_len _ _ (by simp)] at h9; exact h9)).mono ?_; rintro e w ⟨rfl, hb⟩; replace S := S.kept hb; clear hb) | (have _t := tk1; clear _t tk1; go_at_call 16; refine (sum_any _ b _ (S.rd ga)).mono ?_; rintro e w ⟨rfl, hb⟩; replace S := S.kept hb; clear hb) | (go_at_call 15; refine (knows_any _).mono ?_; rintro e w ⟨rfl, hb⟩; replace S := S.kept hb; clear hb) | ((refine wpl_load tabs S rfl rfl (by rfl) (by rfl) (by (with_reducible repeat' (first | exact Pick.here | apply Pick.there))) (by rfl) ?_)) | ((refine wpl_store tabs S rfl rfl rfl (by rfl) (by rfl) (by rfl) (by rfl) (by (with_reducible repeat' (first | exact Upd.here | apply Upd.there))) (by first | (simp; done) | (simp; omega) | omega) ?_); clear S; intro w S; (try simp only [List.set_cons_zero, List.set_cons_succ] at S)) | ((refine wpl_load_agg tabs S rfl rfl (by rfl) (by rfl) (by (with_reducible repeat' (first | exact Pick.here | apply Pick.there))) (by first | (simp only [List.drop_succ_cons, List.drop_zero, List.take_succ_cons, List.take_zero, List.drop_nil, List.take_nil]; rfl) | rfl) (by first | rfl | (simp; done)) ?_)) | ((refine wpl_store_agg tabs S rfl rfl rfl (by rfl) (by first | rfl | (simp; done) | (simp; rfl)) (by rfl) (by first | rfl | (simp; done)) (by (with_reducible repeat' (first | exact Upd.here | apply Upd.there))) (by first | (simp; done) | (simp; omega) | omega) ?_); clear S; intro w S; (try simp only [splice, List.take_succ_cons, List.take_zero, List.drop_succ_cons, List.drop_zero, List.drop_nil, List.nil_append, List.cons_append, List.append_nil, List.length_cons, List.length_nil, Nat.reduceAdd] at S)))
      ((first | apply fin1 rfl | apply finN rfl); (focus (repeat (first | exact ResV.nil | refine ResV.tmp (by rfl) ?_ | refine ResV.cell (by rfl) (load_agg_run tabs S (by rfl) (by (with_reducible repeat' (first | exact Pick.here | apply Pick.there))) (by first | (simp only [List.drop_succ_cons, List.drop_zero, List.take_succ_cons, List.take_zero, List.drop_nil, List.take_nil]; rfl) | rfl) (by first | rfl | (simp; done))) ?_ | refine ResV.cell (by rfl) (load_cell_run tabs S (by rfl) (by (with_reducible repeat' (first | exact Pick.here | apply Pick.there))) (by rfl)) ?_))); (focus rfl))
      exact ⟨rfl, S.below⟩
end Go.Proofs.Ytjnpohloodcddaa.Crc
namespace Go.Proofs.Ytjnpohloodcddaa.Rw
open Go.RowKit Go.Proofs.Ytjnpohloodcddaa.Sl Go.Proofs.Ytjnpohloodcddaa.Crc
theorem crcBursts_row (w0 : World) (va : Value) (xs : List UInt8) (hxa : Rd Rep.byte.slice w0 xs [va]) (a1 : Int) (h1 : (Lit.int .u16 a1).wf = true) (a2 : Int) (h2 : (Lit.int .u32 a2).wf = true) :
    Calls Try.prog 3 #[va, .int .u16 a1, .int .u32 a2] w0 fun e w' => e = .returned (.bool true) ∧ Below w0.heap.size w0 w' := by
  obtain ⟨r, rfl, hr⟩ := u32_nat h2
  have h3 : IntKind.u16.min ≤ a1 ∧ a1 ≤ IntKind.u16.max := by simpa [Lit.wf] using h1
  have h4 : IntKind.u16.min = 0 := rfl
  have h5 : IntKind.u16.max = 65535 := rfl
  obtain ⟨q, rfl⟩ := Int.eq_ofNat_of_zero_le (show 0 ≤ a1 by omega)
  exact crcBursts_any va xs q r (by omega) hr w0 hxa
end Go.Proofs.Ytjnpohloodcddaa.Rw
