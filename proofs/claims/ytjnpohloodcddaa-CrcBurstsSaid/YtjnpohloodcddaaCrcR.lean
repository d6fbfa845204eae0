/- crc: the reference's walks. -/
import Derived.Test.YtjnpohloodcddaaCrcM
set_option linter.unusedVariables false
set_option linter.unusedSimpArgs false
namespace Go.Proofs.Ytjnpohloodcddaa.Crc
open Go.RowKit Go.Proofs.Ytjnpohloodcddaa.Sl

theorem xor2 {r x : Nat} (hr : r < 4294967296) (hx : x < 4294967296) : bits .xor .u32 (r : Int) (x : Int) = ((r ^^^ x : Nat) : Int) := u32_xor_nat r x hr hx
set_option maxHeartbeats 400000 in
set_option maxRecDepth 100000 in
theorem ref_extend (r : Nat) (hr : r < 4294967296) (v : Value) (xs : List UInt8) (w0 : World) (hx : Rd Rep.byte.slice w0 xs [v]) :
    Calls Try.prog 19 #[.int .u32 (r : Int), v] w0 fun e w' => e = .returned (.int .u32 (comes r xs : Int)) ∧ Below w0.heap.size w0 w' := by
  have S := St.start w0
  obtain ⟨ao, cp, e, hcp, hmx, hsl⟩ := hx.start
  obtain rfl : v = .slice ao xs.length cp := by injection e
  have hsl := Hd.mk hsl
  have hm : xs.length ≤ 9223372036854775807 := by unfold maxLen at hmx; omega
  clear hmx e hx
  go_enter Try.func19, Try.ntmps19
  go_wp2_with (first | ((refine wpl_load tabs S rfl rfl (by rfl) (by rfl) (by (with_reducible repeat' (first | exact Pick.here | apply Pick.there))) (by rfl) ?_)) | ((refine wpl_store tabs S rfl rfl rfl (by rfl) (by rfl) (by rfl) (by rfl) (by (with_reducible repeat' (first | exact Upd.here | apply Upd.there))) (by first | (simp; done) | (simp; omega) | omega) ?_); clear S; intro w S; (try simp only [List.set_cons_zero, List.set_cons_succ] at S)) | ((refine wpl_load_agg tabs S rfl rfl (by rfl) (by rfl) (by (with_reducible repeat' (first | exact Pick.here | apply Pick.there))) (by first | (simp only [List.drop_succ_cons, List.drop_zero, List.take_succ_cons, List.take_zero, List.drop_nil, List.take_nil]; rfl) | rfl) (by first | rfl | (simp; done)) ?_)) | ((refine wpl_store_agg tabs S rfl rfl rfl (by rfl) (by first | rfl | (simp; done) | (simp; rfl)) (by rfl) (by first | rfl | (simp; done)) (by (with_reducible repeat' (first | exact Upd.here | apply Upd.there))) (by first | (simp; done) | (simp; omega) | omega) ?_); clear S; intro w S; (try simp only [splice, List.take_succ_cons, List.take_zero, List.drop_succ_cons, List.drop_zero, List.drop_nil, List.nil_append, List.cons_append, List.append_nil, List.length_cons, List.length_nil, Nat.reduceAdd] at S)))
  go_loop [0, 5] (fun x i => ∃ k : Nat, k ≤ xs.length ∧ i = .int .i64 k ∧ x = .int .u32 (comes r (xs.take k) : Int)) (fun _ i => xs.length - (intOf i).toNat)
  case atStart => exact ⟨0, by omega, rfl, by simp [comes]⟩
  case round =>
    obtain ⟨k, hk, rfl, rfl⟩ := hrel
    have hq := comes_lt (xs := xs.take k) hr
    by_cases hlt : k < xs.length
    · obtain ⟨ad, rfl, hc⟩ := Rep.bytes_at hsl.out (List.getElem?_eq_getElem hlt)
      have hcell := S.roCell hc
      clear hc
      have hx := xs[k].toNat_lt
      have hcs := Hd.mk (comes_snoc r xs k xs[k] (List.getElem?_eq_getElem hlt))
      have hfe := Hd.mk (come1_feeds (comes r (xs.take k)) xs[k])
      generalize xs[k] = x at *
      generalize comes r (xs.take k) = q at *
      go_wp2_with (first | ((refine wpl_load tabs S rfl rfl (by rfl) (by rfl) (by (with_reducible repeat' (first | exact Pick.here | apply Pick.there))) (by rfl) ?_)) | ((refine wpl_store tabs S rfl rfl rfl (by rfl) (by rfl) (by rfl) (by rfl) (by (with_reducible repeat' (first | exact Upd.here | apply Upd.there))) (by first | (simp; done) | (simp; omega) | omega) ?_); clear S; intro w S; (try simp only [List.set_cons_zero, List.set_cons_succ] at S)) | ((refine wpl_load_agg tabs S rfl rfl (by rfl) (by rfl) (by (with_reducible repeat' (first | exact Pick.here | apply Pick.there))) (by first | (simp only [List.drop_succ_cons, List.drop_zero, List.take_succ_cons, List.take_zero, List.drop_nil, List.take_nil]; rfl) | rfl) (by first | rfl | (simp; done)) ?_)) | ((refine wpl_store_agg tabs S rfl rfl rfl (by rfl) (by first | rfl | (simp; done) | (simp; rfl)) (by rfl) (by first | rfl | (simp; done)) (by (with_reducible repeat' (first | exact Upd.here | apply Upd.there))) (by first | (simp; done) | (simp; omega) | omega) ?_); clear S; intro w S; (try simp only [splice, List.take_succ_cons, List.take_zero, List.drop_succ_cons, List.drop_zero, List.drop_nil, List.nil_append, List.cons_append, List.append_nil, List.length_cons, List.length_nil, Nat.reduceAdd] at S)))
      go_loop [0, 6, 7] (fun y b j => ∃ m : Nat, m ≤ 8 ∧ j = .int .i64 m ∧ y = .int .u32 (feeds m q x.toNat : Int) ∧ b = .int .u8 ((x.toNat / 2 ^ m : Nat) : Int)) (fun _ _ j => 8 - (intOf j).toNat)
      case atStart => exact ⟨0, by omega, rfl, rfl, by simp⟩
      case round =>
        obtain ⟨m, hm, rfl, rfl, rfl⟩ := hrel
        have hf := feeds_lt (x := x.toNat) hq m
        have hb : x.toNat / 2 ^ m < 256 := Nat.lt_of_le_of_lt (Nat.div_le_self _ _) hx
        by_cases hlt2 : m < 8
        · have hstep : Hd (feeds (m + 1) q x.toNat = feed (feeds m q x.toNat) (x.toNat / 2 ^ m)) := ⟨rfl⟩
          have hpow : Hd (x.toNat / 2 ^ (m + 1) = x.toNat / 2 ^ m / 2) := ⟨by rw [Nat.pow_succ, Nat.div_div_eq_div_mul]⟩
          generalize feeds m q x.toNat = f at *
          generalize x.toNat / 2 ^ m = b at *
          have e1 := xor2 hf (x := b) (by omega)
          have e2 : bits .xor .u32 ((f : Int) / 2) 3988292384 = ((f / 2 ^^^ 3988292384 : Nat) : Int) := xorp hf
          by_cases hp : (f ^^^ b) % 2 = 1
          · have e3 : (((f ^^^ b : Nat) : Int) % 2 == 1) = true := by simp; omega
            have hh := Hd.mk hp
            clear hp
            go_wp2_with (first | ((refine wpl_load tabs S rfl rfl (by rfl) (by rfl) (by (with_reducible repeat' (first | exact Pick.here | apply Pick.there))) (by rfl) ?_)) | ((refine wpl_store tabs S rfl rfl rfl (by rfl) (by rfl) (by rfl) (by rfl) (by (with_reducible repeat' (first | exact Upd.here | apply Upd.there))) (by first | (simp; done) | (simp; omega) | omega) ?_); clear S; intro w S; (try simp only [List.set_cons_zero, List.set_cons_succ] at S)) | ((refine wpl_load_agg tabs S rfl rfl (by rfl) (by rfl) (by (with_reducible repeat' (first | exact Pick.here | apply Pick.there))) (by first | (simp only [List.drop_succ_cons, List.drop_zero, List.take_succ_cons, List.take_zero, List.drop_nil, List.take_nil]; rfl) | rfl) (by first | rfl | (simp; done)) ?_)) | ((refine wpl_store_agg tabs S rfl rfl rfl (by rfl) (by first | rfl | (simp; done) | (simp; rfl)) (by rfl) (by first | rfl | (simp; done)) (by (with_reducible repeat' (first | exact Upd.here | apply Upd.there))) (by first | (simp; done) | (simp; omega) | omega) ?_); clear S; intro w S; (try simp only [splice, List.take_succ_cons, List.take_zero, List.drop_succ_cons, List.drop_zero, List.drop_nil, List.nil_append, List.cons_append, List.append_nil, List.length_cons, List.length_nil, Nat.reduceAdd] at S)))
            go_round
            case rel => exact ⟨m + 1, by omega, by go_num, by rw [hstep.out]; simp [feed, hh.out], by rw [hpow.out]; go_num⟩
            case measure => simp [intOf]; omega
          · have e3 : (((f ^^^ b : Nat) : Int) % 2 == 1) = false := by simp; omega
            have hh := Hd.mk hp
            clear hp
            go_wp2_with (first | ((refine wpl_load tabs S rfl rfl (by rfl) (by rfl) (by (with_reducible repeat' (first | exact Pick.here | apply Pick.there))) (by rfl) ?_)) | ((refine wpl_store tabs S rfl rfl rfl (by rfl) (by rfl) (by rfl) (by rfl) (by (with_reducible repeat' (first | exact Upd.here | apply Upd.there))) (by first | (simp; done) | (simp; omega) | omega) ?_); clear S; intro w S; (try simp only [List.set_cons_zero, List.set_cons_succ] at S)) | ((refine wpl_load_agg tabs S rfl rfl (by rfl) (by rfl) (by (with_reducible repeat' (first | exact Pick.here | apply Pick.there))) (by first | (simp only [List.drop_succ_cons, List.drop_zero, List.take_succ_cons, List.take_zero, List.drop_nil, List.take_nil]; rfl) | rfl) (by first | rfl | (simp; done)) ?_)) | ((refine wpl_store_agg tabs S rfl rfl rfl (by rfl) (by first | rfl | (simp; done) | (simp; rfl)) (by rfl) (by first | rfl | (simp; done)) (by (with_reducible repeat' (first | exact Upd.here | apply Upd.there))) (by first | (simp; done) | (simp; omega) | omega) ?_); clear S; intro w S; (try simp only [splice, List.take_succ_cons, List.take_zero, List.drop_succ_cons, List.drop_zero, List.drop_nil, List.nil_append, List.cons_append, List.append_nil, List.length_cons, List.length_nil, Nat.reduceAdd] at S)))
            go_round
            case rel => exact ⟨m + 1, by omega, by go_num, by rw [hstep.out]; simp [feed, hh.out], by rw [hpow.out]; go_num⟩
            case measure => simp [intOf]; omega
        · obtain rfl : m = 8 := by omega
          rw [← hfe.out, ← hcs.out] at *
          go_wp2_with (first | ((refine wpl_load tabs S rfl rfl (by rfl) (by rfl) (by (with_reducible repeat' (first | exact Pick.here | apply Pick.there))) (by rfl) ?_)) | ((refine wpl_store tabs S rfl rfl rfl (by rfl) (by rfl) (by rfl) (by rfl) (by (with_reducible repeat' (first | exact Upd.here | apply Upd.there))) (by first | (simp; done) | (simp; omega) | omega) ?_); clear S; intro w S; (try simp only [List.set_cons_zero, List.set_cons_succ] at S)) | ((refine wpl_load_agg tabs S rfl rfl (by rfl) (by rfl) (by (with_reducible repeat' (first | exact Pick.here | apply Pick.there))) (by first | (simp only [List.drop_succ_cons, List.drop_zero, List.take_succ_cons, List.take_zero, List.drop_nil, List.take_nil]; rfl) | rfl) (by first | rfl | (simp; done)) ?_)) | ((refine wpl_store_agg tabs S rfl rfl rfl (by rfl) (by first | rfl | (simp; done) | (simp; rfl)) (by rfl) (by first | rfl | (simp; done)) (by (with_reducible repeat' (first | exact Upd.here | apply Upd.there))) (by first | (simp; done) | (simp; omega) | omega) ?_); clear S; intro w S; (try simp only [splice, List.take_succ_cons, List.take_zero, List.drop_succ_cons, List.drop_zero, List.drop_nil, List.nil_append, List.cons_append, List.append_nil, List.length_cons, List.length_nil, Nat.reduceAdd] at S)))
          go_round
          case rel => exact ⟨k + 1, by omega, by go_num, rfl⟩
          case measure => simp [intOf]; omega
    · obtain rfl : k = xs.length := by omega
      rw [List.take_length] at *
      go_wp2_with (first | ((refine wpl_load tabs S rfl rfl (by rfl) (by rfl) (by (with_reducible repeat' (first | exact Pick.here | apply Pick.there))) (by rfl) ?_)) | ((refine wpl_store tabs S rfl rfl rfl (by rfl) (by rfl) (by rfl) (by rfl) (by (with_reducible repeat' (first | exact Upd.here | apply Upd.there))) (by first | (simp; done) | (simp; omega) | omega) ?_); clear S; intro w S; (try simp only [List.set_cons_zero, List.set_cons_succ] at S)) | ((refine wpl_load_agg tabs S rfl rfl (by rfl) (by rfl) (by (with_reducible repeat' (first | exact Pick.here | apply Pick.there))) (by first | (simp only [List.drop_succ_cons, List.drop_zero, List.take_succ_cons, List.take_zero, List.drop_nil, List.take_nil]; rfl) | rfl) (by first | rfl | (simp; done)) ?_)) | ((refine wpl_store_agg tabs S rfl rfl rfl (by rfl) (by first | rfl | (simp; done) | (simp; rfl)) (by rfl) (by first | rfl | (simp; done)) (by (with_reducible repeat' (first | exact Upd.here | apply Upd.there))) (by first | (simp; done) | (simp; omega) | omega) ?_); clear S; intro w S; (try simp only [splice, List.take_succ_cons, List.take_zero, List.drop_succ_cons, List.drop_zero, List.drop_nil, List.nil_append, List.cons_append, List.append_nil, List.length_cons, List.length_nil, Nat.reduceAdd] at S)))
      ((first | apply fin1 rfl | apply finN rfl); (focus (repeat (first | exact ResV.nil | refine ResV.tmp (by rfl) ?_ | refine ResV.cell (by rfl) (load_agg_run tabs S (by rfl) (by (with_reducible repeat' (first | exact Pick.here | apply Pick.there))) (by first | (simp only [List.drop_succ_cons, List.drop_zero, List.take_succ_cons, List.take_zero, List.drop_nil, List.take_nil]; rfl) | rfl) (by first | rfl | (simp; done))) ?_ | refine ResV.cell (by rfl) (load_cell_run tabs S (by rfl) (by (with_reducible repeat' (first | exact Pick.here | apply Pick.there))) (by rfl)) ?_))); (focus rfl))
      exact ⟨rfl, S.below⟩
set_option maxHeartbeats 400000 in
theorem ref_sum (v : Value) (xs : List UInt8) (w0 : World) (hx : Rd Rep.byte.slice w0 xs [v]) :
    Calls Try.prog 20 #[v] w0 fun e w' => e = .returned (.int .u32 (sumOf xs : Int)) ∧ Below w0.heap.size w0 w' := by
  have S := St.start w0
  have hl := comes_lt (xs := xs) (r := 4294967295) (by omega)
  go_enter Try.func20, Try.ntmps20
  go_wp2_with (first | (go_at_call 19; refine (ref_extend 4294967295 (by omega) v xs _ hx).mono ?_; rintro e w ⟨rfl, hb⟩; replace S := S.kept hb; clear hb) | ((refine wpl_load tabs S rfl rfl (by rfl) (by rfl) (by (with_reducible repeat' (first | exact Pick.here | apply Pick.there))) (by rfl) ?_)) | ((refine wpl_store tabs S rfl rfl rfl (by rfl) (by rfl) (by rfl) (by rfl) (by (with_reducible repeat' (first | exact Upd.here | apply Upd.there))) (by first | (simp; done) | (simp; omega) | omega) ?_); clear S; intro w S; (try simp only [List.set_cons_zero, List.set_cons_succ] at S)) | ((refine wpl_load_agg tabs S rfl rfl (by rfl) (by rfl) (by (with_reducible repeat' (first | exact Pick.here | apply Pick.there))) (by first | (simp only [List.drop_succ_cons, List.drop_zero, List.take_succ_cons, List.take_zero, List.drop_nil, List.take_nil]; rfl) | rfl) (by first | rfl | (simp; done)) ?_)) | ((refine wpl_store_agg tabs S rfl rfl rfl (by rfl) (by first | rfl | (simp; done) | (simp; rfl)) (by rfl) (by first | rfl | (simp; done)) (by (with_reducible repeat' (first | exact Upd.here | apply Upd.there))) (by first | (simp; done) | (simp; omega) | omega) ?_); clear S; intro w S; (try simp only [splice, List.take_succ_cons, List.take_zero, List.drop_succ_cons, List.drop_zero, List.drop_nil, List.nil_append, List.cons_append, List.append_nil, List.length_cons, List.length_nil, Nat.reduceAdd] at S)))
  ((first | apply fin1 rfl | apply finN rfl); (focus (repeat (first | exact ResV.nil | refine ResV.tmp (by rfl) ?_ | refine ResV.cell (by rfl) (load_agg_run tabs S (by rfl) (by (with_reducible repeat' (first | exact Pick.here | apply Pick.there))) (by first | (simp only [List.drop_succ_cons, List.drop_zero, List.take_succ_cons, List.take_zero, List.drop_nil, List.take_nil]; rfl) | rfl) (by first | rfl | (simp; done))) ?_ | refine ResV.cell (by rfl) (load_cell_run tabs S (by rfl) (by (with_reducible repeat' (first | exact Pick.here | apply Pick.there))) (by rfl)) ?_))); (focus rfl))
  exact ⟨by unfold sumOf; simp; omega, S.below⟩
end Go.Proofs.Ytjnpohloodcddaa.Crc
