/- pack: the law of there and back; the rows. -/
import Derived.Test.YtjnpohloodcddaaPackU
import Derived.Test.YtjnpohloodcddaaPackV
set_option linter.unusedVariables false
set_option linter.unusedSimpArgs false
namespace Go.Proofs.Ytjnpohloodcddaa.Pack
open Go.RowKit Go.Proofs.Ytjnpohloodcddaa.Sl
theorem numOf_fold (ys : List UInt8) : ∀ a : Nat, ys.foldl (fun n x => 256 * n + x.toNat) a = a * 256 ^ ys.length + numOf ys := by
  induction ys with
  | nil => intro a; simp [numOf]
  | cons y ys ih =>
    intro a
    unfold numOf
    simp only [List.foldl_cons]
    rw [ih, ih (256 * 0 + y.toNat)]
    simp only [List.length_cons, Nat.pow_succ, Nat.mul_zero, Nat.zero_add]
    rw [Nat.add_mul, ← Nat.add_assoc]
    congr 2
    rw [Nat.mul_comm 256, Nat.mul_assoc, Nat.mul_comm 256]
theorem numOf_app (xs ys : List UInt8) : numOf (xs ++ ys) = numOf xs * 256 ^ ys.length + numOf ys := by
  have h : numOf (xs ++ ys) = ys.foldl (fun n x => 256 * n + x.toNat) (numOf xs) := by simp [numOf]
  rw [h, numOf_fold]
theorem numOf_numB (n : Nat) : ∀ k, numOf (numB n k) = n % 256 ^ k
  | 0 => by simp [numB, numOf, Nat.mod_one]
  | k + 1 => by
    have h : numOf (UInt8.ofNat (n / 256 ^ k) :: numB n k) = numOf ([UInt8.ofNat (n / 256 ^ k)] ++ numB n k) := rfl
    rw [numB, h, numOf_app, numOf_numB n k, numB_len]
    have h1 : numOf [UInt8.ofNat (n / 256 ^ k)] = n / 256 ^ k % 256 := by simp [numOf]
    rw [h1, Nat.pow_succ, Nat.mod_mul, Nat.mul_comm, Nat.add_comm]
theorem rNum_app (n k : Nat) (ys : List UInt8) (h1 : 1 ≤ k) (h8 : k ≤ 8) : rNum (numB n k ++ ys, false) (k : Int) = (n % 256 ^ k, (ys, false)) := by
  unfold rNum
  rw [if_neg (by simp; omega)]
  have h1 : (numB n k ++ ys).take k = numB n k := by simp [List.take_append]
  have h2 : (numB n k ++ ys).drop k = ys := by simp [List.drop_append]
  simp only [Int.toNat_natCast, h1, h2, numOf_numB]
theorem rTxt_app (b ys : List UInt8) (h : b.length ≤ 65535) : rTxt (numB b.length 2 ++ b ++ ys, false) = (b, (ys, false)) := by
  unfold rTxt
  have h1 := rNum_app b.length 2 (b ++ ys) (by omega) (by omega)
  rw [← List.append_assoc] at h1
  have h3 : b.length % 256 ^ 2 = b.length := Nat.mod_eq_of_lt (by omega)
  rw [h3] at h1
  have h2 : ((2 : Nat) : Int) = 2 := rfl
  rw [h2] at h1
  rw [h1]
  simp only [rTake]
  rw [if_neg (by simp)]
  simp
set_option maxHeartbeats 4000000 in
set_option maxRecDepth 100000 in
theorem packBack_any (n m : Nat) (hn : n < 18446744073709551616) (hm : m < 4294967296) (v : Value) (b : List UInt8) (w0 : World) (hx : Rd Rep.byte.slice w0 b [v]) :
    Calls Try.prog 10 #[.int .u64 (n : Int), .int .u32 (m : Int), v] w0 fun e w' => e = .returned (.bool true) ∧ Below w0.heap.size w0 w' := by
  have S := St.start w0
  have hg := hx.start
  obtain ⟨ao, cp, e, _, _, _⟩ := hx.start
  obtain rfl : v = .slice ao b.length cp := by injection e
  clear e
  by_cases h1 : 500 < b.length
  · go_enter Try.func10, Try.ntmps10
    go_wp2_with (first | (go_at_call 21; refine (knows_any _).mono ?_; rintro e w ⟨rfl, hb⟩; replace S := S.kept hb; clear hb) | ((refine wpl_load tabs S rfl rfl (by rfl) (by rfl) (by (with_reducible repeat' (first | exact Pick.here | apply Pick.there))) (by rfl) ?_)) | ((apply wpl_store tabs S); (focus (rfl)); (focus (rfl)); (focus (rfl)); (focus (rfl)); (focus (rfl)); (focus (first | (go_simp; rfl) | (go_simp; done) | rfl)); (focus (rfl)); (focus ((with_reducible repeat' (first | exact Upd.here | apply Upd.there)))); (focus (first | (simp; done) | (simp; omega) | omega)); clear S; intro w S; (try simp only [List.set_cons_zero, List.set_cons_succ] at S)) | ((refine wpl_load_agg tabs S rfl rfl (by rfl) (by rfl) (by (with_reducible repeat' (first | exact Pick.here | apply Pick.there))) (by first | (simp only [List.drop_succ_cons, List.drop_zero, List.take_succ_cons, List.take_zero, List.drop_nil, List.take_nil]; rfl) | rfl) (by first | rfl | (simp; done)) ?_)) | ((apply wpl_store_agg tabs S); (focus (rfl)); (focus (rfl)); (focus (rfl)); (focus (first | (go_simp; rfl) | (go_simp; done) | rfl)); (focus (first | rfl | (simp; done) | (simp; rfl))); (focus (rfl)); (focus (first | rfl | (simp; done))); (focus ((with_reducible repeat' (first | exact Upd.here | apply Upd.there)))); (focus (first | (simp; done) | (simp; omega) | omega)); clear S; intro w S; (try simp only [splice, List.take_succ_cons, List.take_zero, List.drop_succ_cons, List.drop_zero, List.drop_nil, List.nil_append, List.cons_append, List.append_nil, List.length_cons, List.length_nil, Nat.reduceAdd] at S)))
    ((first | apply fin1 rfl | apply fin2 rfl | apply fin3 rfl); (focus (repeat (first | exact ResV.nil | refine ResV.tmp (by rfl) ?_ | refine ResV.cell (by rfl) (load_agg_run tabs S (by rfl) (by (with_reducible repeat' (first | exact Pick.here | apply Pick.there))) (by first | (simp only [List.drop_succ_cons, List.drop_zero, List.take_succ_cons, List.take_zero, List.drop_nil, List.take_nil]; rfl) | rfl) (by first | rfl | (simp; done))) ?_ | refine ResV.cell (by rfl) (load_cell_run tabs S (by rfl) (by (with_reducible repeat' (first | exact Pick.here | apply Pick.there))) (by rfl)) ?_))); (focus rfl))
    exact ⟨rfl, S.below⟩
  have e1 : Hd (rNum (numB n 8 ++ (numB b.length 2 ++ b) ++ numB m 4, false) 8 = (n, (numB b.length 2 ++ b ++ numB m 4, false))) := ⟨by
    have := rNum_app n 8 (numB b.length 2 ++ b ++ numB m 4) (by omega) (by omega)
    rw [← List.append_assoc, Nat.mod_eq_of_lt (by omega)] at this
    exact this⟩
  have e2 : Hd (rTxt (numB b.length 2 ++ b ++ numB m 4, false) = (b, (numB m 4, false))) := ⟨rTxt_app b _ (by omega)⟩
  have e3 : Hd (rNum (numB m 4, false) 4 = (m, ([], false))) := ⟨by
    have := rNum_app m 4 [] (by omega) (by omega)
    rw [List.append_nil, Nat.mod_eq_of_lt (by omega)] at this
    exact this⟩
  go_enter Try.func10, Try.ntmps10
  have tk0 : True := trivial
  have tk1 : True := trivial
  have tk2 : True := trivial
  have tk3 : True := trivial
  have tk4 : True := trivial
  have tk5 : True := trivial
  have tk6 : True := trivial
  have tk7 : True := trivial
  have tk8 : True := trivial
  have tk9 : True := trivial
  go_wp2_with (first | (have _t := tk0; clear _t tk0; go_at_call 23; refine (text_ok _ b (by omega) _ (S.rd hg)).mono ?_; rintro e w ⟨a1, c1, rfl, S1⟩; (replace S := S.callSt S1 (by repeat' (first | exact IndepL.nil | refine IndepL.cons ?_ ?_ | exact indep_own | exact indep_val | exact indep_blk _ _))); (try simp only [List.cons_append, List.nil_append, List.append_nil] at S); clear S1) | (have _t := tk1; clear _t tk1; go_at_call 22; refine (number_ok n 8 (by omega) (by omega) _).mono ?_; rintro e w ⟨a2, c2, rfl, S1⟩; (replace S := S.callSt S1 (by repeat' (first | exact IndepL.nil | refine IndepL.cons ?_ ?_ | exact indep_own | exact indep_val | exact indep_blk _ _))); (try simp only [List.cons_append, List.nil_append, List.append_nil] at S); clear S1) | (have _t := tk2; clear _t tk2; (apply wpl_append_flat tabs S); (focus (rfl)); (focus (rfl)); (focus (rfl)); (focus ((with_reducible repeat' (first | exact Pick.here | apply Pick.there)))); (focus (rfl)); (focus (rfl)); (focus (exact (by first | exact Rep.byte_flat | exact Rep.int_flat _ | exact Rep.bool_flat | exact Rep.str_flat | assumption))); (focus (rfl)); (focus (exact (S.rdOwn (Pick.there Pick.here)))); (focus (exact (by (try simp only [numB_len, Sl.maxLen_eq, List.length_append, List.length_cons, List.length_nil, List.length_take, List.length_drop, List.length_map, List.length_replicate, Nat.zero_add, Nat.mul_one]); (try omega)))); (focus (exact (by (try simp only [numB_len, Sl.maxLen_eq, List.length_append, List.length_cons, List.length_nil, List.length_take, List.length_drop, List.length_map, List.length_replicate, Nat.zero_add, Nat.mul_one]); (try omega)))); clear S; intro a3 c3 w S; (try simp only [numB_len, List.nil_append, List.append_nil, List.length_nil, List.length_cons, List.length_append, Nat.zero_add, Nat.add_zero, Nat.reduceAdd] at S ⊢)) | (have _t := tk3; clear _t tk3; go_at_call 22; refine (number_ok m 4 (by omega) (by omega) _).mono ?_; rintro e w ⟨a4, c4, rfl, S1⟩; (replace S := S.callSt S1 (by repeat' (first | exact IndepL.nil | refine IndepL.cons ?_ ?_ | exact indep_own | exact indep_val | exact indep_blk _ _))); (try simp only [List.cons_append, List.nil_append, List.append_nil] at S); clear S1) | (have _t := tk4; clear _t tk4; (apply wpl_append_flat tabs S); (focus (rfl)); (focus (rfl)); (focus (rfl)); (focus ((with_reducible repeat' (first | exact Pick.here | apply Pick.there)))); (focus (rfl)); (focus (rfl)); (focus (exact (by first | exact Rep.byte_flat | exact Rep.int_flat _ | exact Rep.bool_flat | exact Rep.str_flat | assumption))); (focus (rfl)); (focus (exact (S.rdOwn Pick.here))); (focus (exact (by (try simp only [numB_len, Sl.maxLen_eq, List.length_append, List.length_cons, List.length_nil, List.length_take, List.length_drop, List.length_map, List.length_replicate, Nat.zero_add, Nat.mul_one]); (try omega)))); (focus (exact (by (try simp only [numB_len, Sl.maxLen_eq, List.length_append, List.length_cons, List.length_nil, List.length_take, List.length_drop, List.length_map, List.length_replicate, Nat.zero_add, Nat.mul_one]); (try omega)))); clear S; intro a5 c5 w S; (try simp only [numB_len, List.nil_append, List.append_nil, List.length_nil, List.length_cons, List.length_append, Nat.zero_add, Nat.add_zero, Nat.reduceAdd] at S ⊢)) | (have _t := tk5; clear _t tk5; go_at_call 34; refine (read_any _ _ (by simp only [List.length_append, numB_len]; omega) _ (S.rdOwn Pick.here)).mono ?_; rintro e w ⟨g, a, c, rfl, S1⟩; (replace S := S.callSt S1 (by repeat' (first | exact IndepL.nil | refine IndepL.cons ?_ ?_ | exact indep_own | exact indep_val | exact indep_blk _ _))); (try simp only [List.cons_append, List.nil_append, List.append_nil] at S); clear S1; replace S := S.pick (.there .here); obtain ⟨G, hle, hk, S, q1, q2, q3⟩ := S.freezeOwn; have hG := (GhX.rfl' w0).trans hle q1 q2 q3; have H := RdrSt.mk' hk S; clear S hk q1 q2 q3) | (have _t := tk6; clear _t tk6; go_at_call 37; refine (rnumber_any g G _ _ 8 _ H).mono ?_; rw [e1.out]; rintro e w ⟨rfl, H'⟩; replace H := H'; clear H') | (have _t := tk7; clear _t tk7; go_at_call 35; refine (rtext_any g G _ _ _ H).mono ?_; rw [e2.out]; rintro e w ⟨v, rfl, hkb, H'⟩; replace H := H'; clear H') | (have _t := tk8; clear _t tk8; go_at_call 37; refine (rnumber_any g G _ _ 4 _ H).mono ?_; rw [e3.out]; rintro e w ⟨rfl, H'⟩; replace H := H'; clear H'; have H2 := H; obtain ⟨_, _, _, S⟩ := H2; have hr1 := run_str tabs (t := 22) (u := 9) (by decide) (by decide) (S.rd hkb); have hr2 := run_str tabs (t := 22) (u := 9) (by decide) (by decide) (S.rd (K_le hg hle))) | (have _t := tk9; clear _t tk9; go_at_call 39; refine (rend_any g G _ _ _ H).mono ?_; rw [show rEnd ([], false) = true from rfl]; rintro e w ⟨rfl, H'⟩; clear S; obtain ⟨_, _, _, S⟩ := H') | (go_at_call 21; refine (knows_any _).mono ?_; rintro e w ⟨rfl, hb⟩; replace S := S.kept hb; clear hb) | ((refine wpl_load tabs S rfl rfl (by rfl) (by rfl) (by (with_reducible repeat' (first | exact Pick.here | apply Pick.there))) (by rfl) ?_)) | ((apply wpl_store tabs S); (focus (rfl)); (focus (rfl)); (focus (rfl)); (focus (rfl)); (focus (rfl)); (focus (first | (go_simp; rfl) | (go_simp; done) | rfl)); (focus (rfl)); (focus ((with_reducible repeat' (first | exact Upd.here | apply Upd.there)))); (focus (first | (simp; done) | (simp; omega) | omega)); clear S; intro w S; (try simp only [List.set_cons_zero, List.set_cons_succ] at S)) | ((refine wpl_load_agg tabs S rfl rfl (by rfl) (by rfl) (by (with_reducible repeat' (first | exact Pick.here | apply Pick.there))) (by first | (simp only [List.drop_succ_cons, List.drop_zero, List.take_succ_cons, List.take_zero, List.drop_nil, List.take_nil]; rfl) | rfl) (by first | rfl | (simp; done)) ?_)) | ((apply wpl_store_agg tabs S); (focus (rfl)); (focus (rfl)); (focus (rfl)); (focus (first | (go_simp; rfl) | (go_simp; done) | rfl)); (focus (first | rfl | (simp; done) | (simp; rfl))); (focus (rfl)); (focus (first | rfl | (simp; done))); (focus ((with_reducible repeat' (first | exact Upd.here | apply Upd.there)))); (focus (first | (simp; done) | (simp; omega) | omega)); clear S; intro w S; (try simp only [splice, List.take_succ_cons, List.take_zero, List.drop_succ_cons, List.drop_zero, List.drop_nil, List.nil_append, List.cons_append, List.append_nil, List.length_cons, List.length_nil, Nat.reduceAdd] at S)))
  ((first | apply fin1 rfl | apply fin2 rfl | apply fin3 rfl); (focus (repeat (first | exact ResV.nil | refine ResV.tmp (by rfl) ?_ | refine ResV.cell (by rfl) (load_agg_run tabs S (by rfl) (by (with_reducible repeat' (first | exact Pick.here | apply Pick.there))) (by first | (simp only [List.drop_succ_cons, List.drop_zero, List.take_succ_cons, List.take_zero, List.drop_nil, List.take_nil]; rfl) | rfl) (by first | rfl | (simp; done))) ?_ | refine ResV.cell (by rfl) (load_cell_run tabs S (by rfl) (by (with_reducible repeat' (first | exact Pick.here | apply Pick.there))) (by rfl)) ?_))); (focus rfl))
  exact ⟨rfl, hG.below S⟩
end Go.Proofs.Ytjnpohloodcddaa.Pack
namespace Go.Proofs.Ytjnpohloodcddaa.Rw
open Go.RowKit Go.Proofs.Ytjnpohloodcddaa.Sl Go.Proofs.Ytjnpohloodcddaa.Pack
theorem u32_nat {a : Int} (h : (Lit.int .u32 a).wf = true) : ∃ r : Nat, a = (r : Int) ∧ r < 4294967296 := by
  have h1 : IntKind.u32.min ≤ a ∧ a ≤ IntKind.u32.max := by simpa [Lit.wf] using h
  have h2 : IntKind.u32.min = 0 := rfl
  have h3 : IntKind.u32.max = 4294967295 := rfl
  exact ⟨a.toNat, by omega, by omega⟩
theorem u64_nat {a : Int} (h : (Lit.int .u64 a).wf = true) : ∃ r : Nat, a = (r : Int) ∧ r < 18446744073709551616 := by
  have h1 : IntKind.u64.min ≤ a ∧ a ≤ IntKind.u64.max := by simpa [Lit.wf] using h
  have h2 : IntKind.u64.min = 0 := rfl
  have h3 : IntKind.u64.max = 18446744073709551615 := rfl
  exact ⟨a.toNat, by omega, by omega⟩
theorem packWrites_row (w0 : World) (a0 : Int) (h0 : (Lit.int .u64 a0).wf = true) (a1 : Int) (h1 : (Lit.int .i64 a1).wf = true) (v : Value) (b : List UInt8) (hx : Rd Rep.byte.slice w0 b [v]) :
    Calls Try.prog 6 #[.int .u64 a0, .int .i64 a1, v] w0 fun e w' => e = .returned (.bool true) ∧ Below w0.heap.size w0 w' := by
  obtain ⟨n, rfl, hn⟩ := u64_nat h0
  exact packWrites_any n hn a1 v b w0 hx
theorem packReads_row (w0 : World) (v : Value) (b : List UInt8) (hx : Rd Rep.byte.slice w0 b [v]) (u : Value) (asked : List Int) (hy : Rd (Rep.slice (Rep.int .i64)) w0 asked [u]) :
    Calls Try.prog 9 #[v, u] w0 fun e w' => e = .returned (.bool true) ∧ Below w0.heap.size w0 w' :=
  packReads_any v u b asked w0 hx hy
theorem packBack_row (w0 : World) (a0 : Int) (h0 : (Lit.int .u64 a0).wf = true) (a1 : Int) (h1 : (Lit.int .u32 a1).wf = true) (v : Value) (b : List UInt8) (hx : Rd Rep.byte.slice w0 b [v]) :
    Calls Try.prog 10 #[.int .u64 a0, .int .u32 a1, v] w0 fun e w' => e = .returned (.bool true) ∧ Below w0.heap.size w0 w' := by
  obtain ⟨n, rfl, hn⟩ := u64_nat h0
  obtain ⟨m, rfl, hm⟩ := u32_nat h1
  exact packBack_any n m hn hm v b w0 hx
end Go.Proofs.Ytjnpohloodcddaa.Rw
