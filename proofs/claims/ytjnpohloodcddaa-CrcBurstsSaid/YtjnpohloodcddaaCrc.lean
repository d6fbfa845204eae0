/- crc: the walks. -/
import Derived.Test.YtjnpohloodcddaaInfo
import Derived.LoopTactic
import Derived.Laws.BitsAllLaws
import Derived.Outline
import Derived.BigRegion
import Derived.BigQuiet
import Derived.Deep.RegionHeld3
set_option linter.unusedVariables false
set_option linter.unusedSimpArgs false
namespace Go.Proofs.Ytjnpohloodcddaa.Crc
open Go.RowKit Go.Proofs.Ytjnpohloodcddaa.Sl

def half (x : Nat) : Nat := if x % 2 = 1 then (x / 2) ^^^ 3988292384 else x / 2
def halves : Nat → Nat → Nat
  | 0, x => x
  | j + 1, x => half (halves j x)
def row (i : Nat) : Nat := halves 4 i
def rowsV (n : Nat) : List Value := (List.range 16).map fun i => if i < n then .int .u32 (row i : Int) else .int .u32 0
@[simp] theorem rowsV_len (n : Nat) : (rowsV n).length = 16 := by simp [rowsV]
@[simp] theorem rowsV_take (n : Nat) : List.take 16 (rowsV n) = rowsV n := List.take_of_length_le (by simp)
@[simp] theorem rowsV_one (n : Nat) : (rowsV n).all (·.oneCell') = true := by
  unfold rowsV
  rw [List.all_map, List.all_eq_true]
  intro i _
  simp only [Function.comp]
  split <;> rfl
theorem rowsV_set (k : Nat) : (rowsV k).set k (.int .u32 (row k : Int)) = rowsV (k + 1) := by
  apply List.ext_getElem?
  intro j
  by_cases hj : j < 16
  · rw [List.getElem?_set]
    simp only [rowsV, List.length_map, List.length_range, List.getElem?_map, List.getElem?_range hj, Option.map_some]
    by_cases h : k = j
    · subst h; simp [hj]
    · rw [if_neg h]
      by_cases h2 : j < k
      · rw [if_pos h2, if_pos (by omega)]
      · rw [if_neg h2, if_neg (by omega)]
  · rw [List.getElem?_eq_none (by simp; omega), List.getElem?_eq_none (by simp; omega)]
theorem half_lt {x : Nat} (h : x < 4294967296) : half x < 4294967296 := by
  unfold half
  split
  · exact Nat.xor_lt_two_pow (n := 32) (by omega) (by omega)
  · omega
theorem halves_lt {x : Nat} (h : x < 4294967296) : ∀ j, halves j x < 4294967296
  | 0 => h
  | j + 1 => half_lt (halves_lt h j)

theorem and1 {x : Nat} (h : x < 4294967296) : bits .and .u32 (x : Int) 1 = ((x % 2 : Nat) : Int) := by
  rw [show (1 : Int) = ((1 : Nat) : Int) from rfl, u32_and_nat x 1 h (by omega), Nat.and_one_is_mod]
theorem xorp {x : Nat} (h : x < 4294967296) : bits .xor .u32 ((x : Int) / 2) 3988292384 = ((x / 2 ^^^ 3988292384 : Nat) : Int) := by
  rw [show (3988292384 : Int) = ((3988292384 : Nat) : Int) from rfl, show (x : Int) / 2 = ((x / 2 : Nat) : Int) by omega, u32_xor_nat _ _ (by omega) (by omega)]
set_option maxHeartbeats 400000 in
set_option maxRecDepth 100000 in
theorem rows_any (w0 : World) : Calls Try.prog 67 #[] w0 fun e w' => e = .returned (.agg (rowsV 16).toArray) ∧ Below w0.heap.size w0 w' := by
  have S := St.start w0
  go_enter Try.func67, Try.ntmps67
  have tk0 : True := trivial
  have tk1 : True := trivial
  go_wp2_with (first | (have _t := tk0; clear _t tk0; (apply wpl_alloc S rfl rfl); (focus (go_simp; first | done | rfl | (repeat' (first | rfl | apply And.intro)))); clear S; intro g0 w S) | (have _t := tk1; clear _t tk1; (apply wpl_alloc S rfl rfl); (focus (go_simp; first | done | rfl | (repeat' (first | rfl | apply And.intro)))); clear S; intro g1 w S) | ((refine wpl_load tabs S rfl rfl (by rfl) (by rfl) (by (with_reducible repeat' (first | exact Pick.here | apply Pick.there))) (by rfl) ?_)) | ((refine wpl_store tabs S rfl rfl rfl (by rfl) (by rfl) (by rfl) (by rfl) (by (with_reducible repeat' (first | exact Upd.here | apply Upd.there))) (by first | (simp; done) | (simp; omega) | omega) ?_); clear S; intro w S; (try simp only [List.set_cons_zero, List.set_cons_succ] at S)) | ((refine wpl_load_agg tabs S rfl rfl (by rfl) (by rfl) (by (with_reducible repeat' (first | exact Pick.here | apply Pick.there))) (by first | (simp only [List.drop_succ_cons, List.drop_zero, List.take_succ_cons, List.take_zero, List.drop_nil, List.take_nil]; rfl) | rfl) (by first | rfl | (simp; done)) ?_)) | ((refine wpl_store_agg tabs S rfl rfl rfl (by rfl) (by first | rfl | (simp; done) | (simp; rfl)) (by rfl) (by first | rfl | (simp; done)) (by (with_reducible repeat' (first | exact Upd.here | apply Upd.there))) (by first | (simp; done) | (simp; omega) | omega) ?_); clear S; intro w S; (try simp only [splice, List.take_succ_cons, List.take_zero, List.drop_succ_cons, List.drop_zero, List.drop_nil, List.nil_append, List.cons_append, List.append_nil, List.length_cons, List.length_nil, Nat.reduceAdd] at S)))
  go_loopw [4] (fun i wr => ∃ k : Nat, k ≤ 16 ∧ i = .int .i64 k ∧ St wr (Gh.of w0) [Cs g1 (rowsV k) 118, Cs g0 (rowsV 0) 118]) (fun i _ => 16 - (intOf i).toNat)
  case atStart => exact ⟨0, by omega, rfl, S⟩
  case round =>
    clear S
    obtain ⟨k, hk, rfl, S⟩ := hrel
    by_cases hlt : k < 16
    · go_wp2_with (first | ((refine wpl_load tabs S rfl rfl (by rfl) (by rfl) (by (with_reducible repeat' (first | exact Pick.here | apply Pick.there))) (by rfl) ?_)) | ((refine wpl_store tabs S rfl rfl rfl (by rfl) (by rfl) (by rfl) (by rfl) (by (with_reducible repeat' (first | exact Upd.here | apply Upd.there))) (by first | (simp; done) | (simp; omega) | omega) ?_); clear S; intro w S; (try simp only [List.set_cons_zero, List.set_cons_succ] at S)) | ((refine wpl_load_agg tabs S rfl rfl (by rfl) (by rfl) (by (with_reducible repeat' (first | exact Pick.here | apply Pick.there))) (by first | (simp only [List.drop_succ_cons, List.drop_zero, List.take_succ_cons, List.take_zero, List.drop_nil, List.take_nil]; rfl) | rfl) (by first | rfl | (simp; done)) ?_)) | ((refine wpl_store_agg tabs S rfl rfl rfl (by rfl) (by first | rfl | (simp; done) | (simp; rfl)) (by rfl) (by first | rfl | (simp; done)) (by (with_reducible repeat' (first | exact Upd.here | apply Upd.there))) (by first | (simp; done) | (simp; omega) | omega) ?_); clear S; intro w S; (try simp only [splice, List.take_succ_cons, List.take_zero, List.drop_succ_cons, List.drop_zero, List.drop_nil, List.nil_append, List.cons_append, List.append_nil, List.length_cons, List.length_nil, Nat.reduceAdd] at S)))
      go_loop [3, 9] (fun x j => ∃ m : Nat, m ≤ 4 ∧ j = .int .i64 m ∧ x = .int .u32 (halves m k)) (fun _ j => 4 - (intOf j).toNat)
      case atStart => exact ⟨0, by omega, rfl, rfl⟩
      case round =>
        obtain ⟨m, hm, rfl, rfl⟩ := hrel
        have hx := halves_lt (x := k) (by omega) m
        have e1 := and1 hx
        have e2 := xorp hx
        by_cases hlt2 : m < 4
        · by_cases hp : halves m k % 2 = 1
          · have e3 : (((halves m k % 2 : Nat) : Int) == 1) = true := by rw [hp]; rfl
            have hh := Hd.mk hp
            clear hp
            go_wp2_with (first | ((refine wpl_load tabs S rfl rfl (by rfl) (by rfl) (by (with_reducible repeat' (first | exact Pick.here | apply Pick.there))) (by rfl) ?_)) | ((refine wpl_store tabs S rfl rfl rfl (by rfl) (by rfl) (by rfl) (by rfl) (by (with_reducible repeat' (first | exact Upd.here | apply Upd.there))) (by first | (simp; done) | (simp; omega) | omega) ?_); clear S; intro w S; (try simp only [List.set_cons_zero, List.set_cons_succ] at S)) | ((refine wpl_load_agg tabs S rfl rfl (by rfl) (by rfl) (by (with_reducible repeat' (first | exact Pick.here | apply Pick.there))) (by first | (simp only [List.drop_succ_cons, List.drop_zero, List.take_succ_cons, List.take_zero, List.drop_nil, List.take_nil]; rfl) | rfl) (by first | rfl | (simp; done)) ?_)) | ((refine wpl_store_agg tabs S rfl rfl rfl (by rfl) (by first | rfl | (simp; done) | (simp; rfl)) (by rfl) (by first | rfl | (simp; done)) (by (with_reducible repeat' (first | exact Upd.here | apply Upd.there))) (by first | (simp; done) | (simp; omega) | omega) ?_); clear S; intro w S; (try simp only [splice, List.take_succ_cons, List.take_zero, List.drop_succ_cons, List.drop_zero, List.drop_nil, List.nil_append, List.cons_append, List.append_nil, List.length_cons, List.length_nil, Nat.reduceAdd] at S)))
            go_round
            case rel => exact ⟨m + 1, by omega, by go_num, by simp [halves, half, hh.out]⟩
            case measure => simp [intOf]; omega
          · have e3 : (((halves m k % 2 : Nat) : Int) == 1) = false := by simp; omega
            have hh := Hd.mk hp
            clear hp
            go_wp2_with (first | ((refine wpl_load tabs S rfl rfl (by rfl) (by rfl) (by (with_reducible repeat' (first | exact Pick.here | apply Pick.there))) (by rfl) ?_)) | ((refine wpl_store tabs S rfl rfl rfl (by rfl) (by rfl) (by rfl) (by rfl) (by (with_reducible repeat' (first | exact Upd.here | apply Upd.there))) (by first | (simp; done) | (simp; omega) | omega) ?_); clear S; intro w S; (try simp only [List.set_cons_zero, List.set_cons_succ] at S)) | ((refine wpl_load_agg tabs S rfl rfl (by rfl) (by rfl) (by (with_reducible repeat' (first | exact Pick.here | apply Pick.there))) (by first | (simp only [List.drop_succ_cons, List.drop_zero, List.take_succ_cons, List.take_zero, List.drop_nil, List.take_nil]; rfl) | rfl) (by first | rfl | (simp; done)) ?_)) | ((refine wpl_store_agg tabs S rfl rfl rfl (by rfl) (by first | rfl | (simp; done) | (simp; rfl)) (by rfl) (by first | rfl | (simp; done)) (by (with_reducible repeat' (first | exact Upd.here | apply Upd.there))) (by first | (simp; done) | (simp; omega) | omega) ?_); clear S; intro w S; (try simp only [splice, List.take_succ_cons, List.take_zero, List.drop_succ_cons, List.drop_zero, List.drop_nil, List.nil_append, List.cons_append, List.append_nil, List.length_cons, List.length_nil, Nat.reduceAdd] at S)))
            go_round
            case rel => exact ⟨m + 1, by omega, by go_num, by simp [halves, half, hh.out]⟩
            case measure => simp [intOf]; omega
        · obtain rfl : m = 4 := by omega
          clear e1 e2
          go_wp2_with (first | ((refine wpl_load tabs S rfl rfl (by rfl) (by rfl) (by (with_reducible repeat' (first | exact Pick.here | apply Pick.there))) (by rfl) ?_)) | ((refine wpl_store tabs S rfl rfl rfl (by rfl) (by rfl) (by rfl) (by rfl) (by (with_reducible repeat' (first | exact Upd.here | apply Upd.there))) (by first | (simp; done) | (simp; omega) | omega) ?_); clear S; intro w S; (try simp only [List.set_cons_zero, List.set_cons_succ] at S)) | ((refine wpl_load_agg tabs S rfl rfl (by rfl) (by rfl) (by (with_reducible repeat' (first | exact Pick.here | apply Pick.there))) (by first | (simp only [List.drop_succ_cons, List.drop_zero, List.take_succ_cons, List.take_zero, List.drop_nil, List.take_nil]; rfl) | rfl) (by first | rfl | (simp; done)) ?_)) | ((refine wpl_store_agg tabs S rfl rfl rfl (by rfl) (by first | rfl | (simp; done) | (simp; rfl)) (by rfl) (by first | rfl | (simp; done)) (by (with_reducible repeat' (first | exact Upd.here | apply Upd.there))) (by first | (simp; done) | (simp; omega) | omega) ?_); clear S; intro w S; (try simp only [splice, List.take_succ_cons, List.take_zero, List.drop_succ_cons, List.drop_zero, List.drop_nil, List.nil_append, List.cons_append, List.append_nil, List.length_cons, List.length_nil, Nat.reduceAdd] at S)))
          go_roundw
          case rel => exact ⟨k + 1, by omega, by go_num, by rw [← rowsV_set k]; exact S⟩
          case measure => simp [intOf]; omega
    · obtain rfl : k = 16 := by omega
      go_wp2_with (first | ((refine wpl_load tabs S rfl rfl (by rfl) (by rfl) (by (with_reducible repeat' (first | exact Pick.here | apply Pick.there))) (by rfl) ?_)) | ((refine wpl_store tabs S rfl rfl rfl (by rfl) (by rfl) (by rfl) (by rfl) (by (with_reducible repeat' (first | exact Upd.here | apply Upd.there))) (by first | (simp; done) | (simp; omega) | omega) ?_); clear S; intro w S; (try simp only [List.set_cons_zero, List.set_cons_succ] at S)) | ((refine wpl_load_agg tabs S rfl rfl (by rfl) (by rfl) (by (with_reducible repeat' (first | exact Pick.here | apply Pick.there))) (by first | (simp only [List.drop_succ_cons, List.drop_zero, List.take_succ_cons, List.take_zero, List.drop_nil, List.take_nil]; rfl) | rfl) (by first | rfl | (simp; done)) ?_)) | ((refine wpl_store_agg tabs S rfl rfl rfl (by rfl) (by first | rfl | (simp; done) | (simp; rfl)) (by rfl) (by first | rfl | (simp; done)) (by (with_reducible repeat' (first | exact Upd.here | apply Upd.there))) (by first | (simp; done) | (simp; omega) | omega) ?_); clear S; intro w S; (try simp only [splice, List.take_succ_cons, List.take_zero, List.drop_succ_cons, List.drop_zero, List.drop_nil, List.nil_append, List.cons_append, List.append_nil, List.length_cons, List.length_nil, Nat.reduceAdd] at S)))
      ((first | apply fin1 rfl | apply finN rfl); (focus (repeat (first | exact ResV.nil | refine ResV.tmp (by rfl) ?_ | refine ResV.cell (by rfl) (load_agg_run tabs S (by rfl) (by (with_reducible repeat' (first | exact Pick.here | apply Pick.there))) (by first | (simp only [List.drop_succ_cons, List.drop_zero, List.take_succ_cons, List.take_zero, List.drop_nil, List.take_nil]; rfl) | rfl) (by first | rfl | (simp; done))) ?_ | refine ResV.cell (by rfl) (load_cell_run tabs S (by rfl) (by (with_reducible repeat' (first | exact Pick.here | apply Pick.there))) (by rfl)) ?_))); (focus rfl))
      exact ⟨by simp, S.below⟩

def nib (r x : Nat) : Nat := (r / 16) ^^^ row ((r ^^^ x) % 16)
theorem row_lt (i : Nat) (h : i < 16) : row i < 4294967296 := halves_lt (by omega) 4
theorem nib_lt {r x : Nat} (h : r < 4294967296) : nib r x < 4294967296 :=
  Nat.xor_lt_two_pow (n := 32) (by omega) (row_lt _ (by omega))
theorem rowsV_get (i : Nat) (h : i < 16) : (rowsV 16)[i]? = some (.int .u32 (row i : Int)) := by simp [rowsV, h]
set_option maxHeartbeats 400000 in
set_option maxRecDepth 100000 in
theorem half_any (G : Gh) (l l' l2 : List As) (gr gt : Nat) (r x : Nat) (xi : Int) (hxi : xi = (x : Int)) (hr : r < 4294967296) (hx : x < 256) (w : World) (S : St w G l)
    (u : Upd l (Cs gr [.int .u32 (r : Int)] 99) (Cs gr [.int .u32 (nib r x : Int)] 99) l') (p : Pick l (Cs gt (rowsV 16) 118) l2) :
    Calls Try.prog 68 #[.int .u8 xi, .pointer (some ⟨gr, 0, none⟩), .pointer (some ⟨gt, 0, none⟩)] w fun e w' => e = .returned (.tuple #[]) ∧ St w' G l' := by
  subst hxi
  obtain ⟨l3, p1, p2⟩ := u.pick
  have c1 := S.cell 0 p1 rfl
  have f1 := S.frozen 0 p1
  have hb : (r ^^^ x) < 4294967296 := Nat.xor_lt_two_pow (n := 32) hr (by omega)
  have c2 := S.cell ((r ^^^ x) % 16) p (rowsV_get _ (by omega))
  have e1 : bits .xor .u32 (r : Int) (x : Int) = ((r ^^^ x : Nat) : Int) := u32_xor_nat r x hr (by omega)
  have e2 : bits .and .u32 ((r ^^^ x : Nat) : Int) 15 = (((r ^^^ x) % 16 : Nat) : Int) := by
    rw [show (15 : Int) = ((15 : Nat) : Int) from rfl, u32_and_nat _ 15 hb (by omega)]
    rw [show (15 : Nat) = 2 ^ 4 - 1 from rfl, Nat.and_two_pow_sub_one_eq_mod]
  have e3 : bits .xor .u32 ((r : Int) / 16) ((row ((r ^^^ x) % 16) : Nat) : Int) = ((nib r x : Nat) : Int) := by
    rw [show (r : Int) / 16 = ((r / 16 : Nat) : Int) by omega, u32_xor_nat _ _ (by omega) (row_lt _ (by omega))]; rfl
  have hlt : (r ^^^ x) % 16 < 16 := by omega
  generalize (r ^^^ x) % 16 = i at *
  generalize r ^^^ x = z at *
  have HU := Hd.mk (And.intro S u)
  clear u p p1 p2 S
  go_enter Try.func68, Try.ntmps68
  go_wp2_with fail
  go_region
  go_wp2
  go_end0
  exact ⟨rfl, (HU.out.1.put 0 HU.out.2).drew⟩

def come1 (r : Nat) (x : UInt8) : Nat := nib (nib r (x.toNat % 16)) (x.toNat / 16)
def comes (r : Nat) (xs : List UInt8) : Nat := xs.foldl come1 r
theorem come1_lt {r : Nat} {x : UInt8} (h : r < 4294967296) : come1 r x < 4294967296 := nib_lt (nib_lt h)
theorem comes_lt {xs : List UInt8} : ∀ {r : Nat}, r < 4294967296 → comes r xs < 4294967296 := by
  induction xs with
  | nil => exact fun h => h
  | cons x xs ih => exact fun h => ih (come1_lt h)
theorem comes_snoc (r : Nat) (xs : List UInt8) (k : Nat) (x : UInt8) (h : xs[k]? = some x) : comes r (xs.take (k + 1)) = come1 (comes r (xs.take k)) x := by
  unfold comes
  rw [List.take_add_one, h]
  simp
set_option maxHeartbeats 400000 in
set_option maxRecDepth 100000 in
theorem come_any (r : Nat) (hr : r < 4294967296) (v : Value) (xs : List UInt8) (w0 : World) (hx : Rd Rep.byte.slice w0 xs [v]) :
    Calls Try.prog 59 #[.int .u32 (r : Int), v] w0 fun e w' => e = .returned (.int .u32 (comes r xs : Int)) ∧ Below w0.heap.size w0 w' := by
  have S := St.start w0
  obtain ⟨ao, cp, e, hcp, hmx, hsl⟩ := hx.start
  obtain rfl : v = .slice ao xs.length cp := by injection e
  clear e hx
  have hsl := Hd.mk hsl
  have hm : xs.length ≤ 9223372036854775807 := by unfold maxLen at hmx; omega
  clear hmx
  have hmf : ∀ (fn : Fn) (first cap : Array Value) (w : World), (Instr.makeFunc fn first cap).run Try.prog w = .ok (.func fn first cap) w := fun _ _ _ _ => rfl
  go_enter Try.func59, Try.ntmps59
  have tk0 : True := trivial
  have tk1 : True := trivial
  go_wp2_with (first | (have _t := tk0; clear _t tk0; (apply wpl_box S rfl rfl); (focus (go_simp; first | done | rfl | (repeat' (first | rfl | apply And.intro)))); clear S; intro gr w S) | (have _t := tk1; clear _t tk1; (apply wpl_alloc S rfl rfl); (focus (go_simp; first | done | rfl | (repeat' (first | rfl | apply And.intro)))); clear S; intro gt w S) | (go_at_call 67; refine (rows_any _).mono ?_; rintro e w ⟨rfl, hb⟩; replace S := S.kept hb; clear hb) | ((refine wpl_load tabs S rfl rfl (by rfl) (by rfl) (by (with_reducible repeat' (first | exact Pick.here | apply Pick.there))) (by rfl) ?_)) | ((refine wpl_store tabs S rfl rfl rfl (by rfl) (by rfl) (by rfl) (by rfl) (by (with_reducible repeat' (first | exact Upd.here | apply Upd.there))) (by first | (simp; done) | (simp; omega) | omega) ?_); clear S; intro w S; (try simp only [List.set_cons_zero, List.set_cons_succ] at S)) | ((refine wpl_load_agg tabs S rfl rfl (by rfl) (by rfl) (by (with_reducible repeat' (first | exact Pick.here | apply Pick.there))) (by first | (simp only [List.drop_succ_cons, List.drop_zero, List.take_succ_cons, List.take_zero, List.drop_nil, List.take_nil]; rfl) | rfl) (by first | rfl | (simp; done)) ?_)) | ((refine wpl_store_agg tabs S rfl rfl rfl (by rfl) (by first | rfl | (simp; done) | (simp; rfl)) (by rfl) (by first | rfl | (simp; done)) (by (with_reducible repeat' (first | exact Upd.here | apply Upd.there))) (by first | (simp; done) | (simp; omega) | omega) ?_); clear S; intro w S; (try simp only [splice, List.take_succ_cons, List.take_zero, List.drop_succ_cons, List.drop_zero, List.drop_nil, List.nil_append, List.cons_append, List.append_nil, List.length_cons, List.length_nil, Nat.reduceAdd] at S)))
  simp only [rowsV_len, Nat.zero_add, List.drop_succ_cons, List.drop_zero, List.append_nil] at S
  go_loopw [13] (fun i wr => ∃ k : Nat, k ≤ xs.length ∧ i = .int .i64 k ∧ St wr (Gh.of w0) [Cs gt (rowsV 16) 118, Cs gr [.int .u32 (comes r (xs.take k) : Int)] 99]) (fun i _ => xs.length - (intOf i).toNat)
  case atStart => exact ⟨0, by omega, rfl, S⟩
  case round =>
    clear S
    obtain ⟨k, hk, rfl, S⟩ := hrel
    have hq := comes_lt (xs := xs.take k) hr
    by_cases hlt : k < xs.length
    · obtain ⟨ad, rfl, hc⟩ := Rep.bytes_at hsl.out (List.getElem?_eq_getElem hlt)
      have hcell := S.roCell hc
      clear hc
      have hx := xs[k].toNat_lt
      have e1 : bits .and .u8 (xs[k].toNat : Int) 15 = ((xs[k].toNat : Int) % 16) := u8_and15 _ (by omega) (by omega)
      have hcs := Hd.mk (comes_snoc r xs k xs[k] (List.getElem?_eq_getElem hlt))
      generalize xs[k] = x at *
      have tk0 : True := trivial
      have tk1 : True := trivial
      go_wp2_with (first | (have _t := tk0; clear _t tk0; go_at_call 68; refine (half_any _ _ _ _ gr gt _ (x.toNat % 16) _ (by omega) hq (by omega) _ S (Upd.there Upd.here) Pick.here).mono ?_; rintro e w ⟨rfl, S⟩) | (have _t := tk1; clear _t tk1; go_at_call 68; refine (half_any _ _ _ _ gr gt _ (x.toNat / 16) _ (by omega) (nib_lt hq) (by omega) _ S (Upd.there Upd.here) Pick.here).mono ?_; rintro e w ⟨rfl, S⟩) | ((refine wpl_load tabs S rfl rfl (by rfl) (by rfl) (by (with_reducible repeat' (first | exact Pick.here | apply Pick.there))) (by rfl) ?_)) | ((refine wpl_store tabs S rfl rfl rfl (by rfl) (by rfl) (by rfl) (by rfl) (by (with_reducible repeat' (first | exact Upd.here | apply Upd.there))) (by first | (simp; done) | (simp; omega) | omega) ?_); clear S; intro w S; (try simp only [List.set_cons_zero, List.set_cons_succ] at S)) | ((refine wpl_load_agg tabs S rfl rfl (by rfl) (by rfl) (by (with_reducible repeat' (first | exact Pick.here | apply Pick.there))) (by first | (simp only [List.drop_succ_cons, List.drop_zero, List.take_succ_cons, List.take_zero, List.drop_nil, List.take_nil]; rfl) | rfl) (by first | rfl | (simp; done)) ?_)) | ((refine wpl_store_agg tabs S rfl rfl rfl (by rfl) (by first | rfl | (simp; done) | (simp; rfl)) (by rfl) (by first | rfl | (simp; done)) (by (with_reducible repeat' (first | exact Upd.here | apply Upd.there))) (by first | (simp; done) | (simp; omega) | omega) ?_); clear S; intro w S; (try simp only [splice, List.take_succ_cons, List.take_zero, List.drop_succ_cons, List.drop_zero, List.drop_nil, List.nil_append, List.cons_append, List.append_nil, List.length_cons, List.length_nil, Nat.reduceAdd] at S)))
      go_roundw
      case rel => exact ⟨k + 1, by omega, by go_num, by rw [hcs.out]; exact S⟩
      case measure => simp [intOf]; omega
    · obtain rfl : k = xs.length := by omega
      rw [List.take_length] at S
      go_wp2_with (first | ((refine wpl_load tabs S rfl rfl (by rfl) (by rfl) (by (with_reducible repeat' (first | exact Pick.here | apply Pick.there))) (by rfl) ?_)) | ((refine wpl_store tabs S rfl rfl rfl (by rfl) (by rfl) (by rfl) (by rfl) (by (with_reducible repeat' (first | exact Upd.here | apply Upd.there))) (by first | (simp; done) | (simp; omega) | omega) ?_); clear S; intro w S; (try simp only [List.set_cons_zero, List.set_cons_succ] at S)) | ((refine wpl_load_agg tabs S rfl rfl (by rfl) (by rfl) (by (with_reducible repeat' (first | exact Pick.here | apply Pick.there))) (by first | (simp only [List.drop_succ_cons, List.drop_zero, List.take_succ_cons, List.take_zero, List.drop_nil, List.take_nil]; rfl) | rfl) (by first | rfl | (simp; done)) ?_)) | ((refine wpl_store_agg tabs S rfl rfl rfl (by rfl) (by first | rfl | (simp; done) | (simp; rfl)) (by rfl) (by first | rfl | (simp; done)) (by (with_reducible repeat' (first | exact Upd.here | apply Upd.there))) (by first | (simp; done) | (simp; omega) | omega) ?_); clear S; intro w S; (try simp only [splice, List.take_succ_cons, List.take_zero, List.drop_succ_cons, List.drop_zero, List.drop_nil, List.nil_append, List.cons_append, List.append_nil, List.length_cons, List.length_nil, Nat.reduceAdd] at S)))
      ((first | apply fin1 rfl | apply finN rfl); (focus (repeat (first | exact ResV.nil | refine ResV.tmp (by rfl) ?_ | refine ResV.cell (by rfl) (load_agg_run tabs S (by rfl) (by (with_reducible repeat' (first | exact Pick.here | apply Pick.there))) (by first | (simp only [List.drop_succ_cons, List.drop_zero, List.take_succ_cons, List.take_zero, List.drop_nil, List.take_nil]; rfl) | rfl) (by first | rfl | (simp; done))) ?_ | refine ResV.cell (by rfl) (load_cell_run tabs S (by rfl) (by (with_reducible repeat' (first | exact Pick.here | apply Pick.there))) (by rfl)) ?_))); (focus rfl))
      exact ⟨rfl, S.below⟩

set_option maxHeartbeats 400000 in
theorem extend_any (r : Nat) (hr : r < 4294967296) (v : Value) (xs : List UInt8) (w0 : World) (hx : Rd Rep.byte.slice w0 xs [v]) :
    Calls Try.prog 17 #[.int .u32 (r : Int), v] w0 fun e w' => e = .returned (.int .u32 (comes r xs : Int)) ∧ Below w0.heap.size w0 w' := by
  have S := St.start w0
  have hmf : ∀ (fn : Fn) (first cap : Array Value) (w : World), (Instr.makeFunc fn first cap).run Try.prog w = .ok (.func fn first cap) w := fun _ _ _ _ => rfl
  go_enter Try.func17, Try.ntmps17
  go_wp2_with (first | (go_at_call 59; refine (come_any _ hr v xs _ hx).mono ?_; rintro e w ⟨rfl, hb⟩; replace S := S.kept hb; clear hb) | ((refine wpl_load tabs S rfl rfl (by rfl) (by rfl) (by (with_reducible repeat' (first | exact Pick.here | apply Pick.there))) (by rfl) ?_)) | ((refine wpl_store tabs S rfl rfl rfl (by rfl) (by rfl) (by rfl) (by rfl) (by (with_reducible repeat' (first | exact Upd.here | apply Upd.there))) (by first | (simp; done) | (simp; omega) | omega) ?_); clear S; intro w S; (try simp only [List.set_cons_zero, List.set_cons_succ] at S)) | ((refine wpl_load_agg tabs S rfl rfl (by rfl) (by rfl) (by (with_reducible repeat' (first | exact Pick.here | apply Pick.there))) (by first | (simp only [List.drop_succ_cons, List.drop_zero, List.take_succ_cons, List.take_zero, List.drop_nil, List.take_nil]; rfl) | rfl) (by first | rfl | (simp; done)) ?_)) | ((refine wpl_store_agg tabs S rfl rfl rfl (by rfl) (by first | rfl | (simp; done) | (simp; rfl)) (by rfl) (by first | rfl | (simp; done)) (by (with_reducible repeat' (first | exact Upd.here | apply Upd.there))) (by first | (simp; done) | (simp; omega) | omega) ?_); clear S; intro w S; (try simp only [splice, List.take_succ_cons, List.take_zero, List.drop_succ_cons, List.drop_zero, List.drop_nil, List.nil_append, List.cons_append, List.append_nil, List.length_cons, List.length_nil, Nat.reduceAdd] at S)))
  ((first | apply fin1 rfl | apply finN rfl); (focus (repeat (first | exact ResV.nil | refine ResV.tmp (by rfl) ?_ | refine ResV.cell (by rfl) (load_agg_run tabs S (by rfl) (by (with_reducible repeat' (first | exact Pick.here | apply Pick.there))) (by first | (simp only [List.drop_succ_cons, List.drop_zero, List.take_succ_cons, List.take_zero, List.drop_nil, List.take_nil]; rfl) | rfl) (by first | rfl | (simp; done))) ?_ | refine ResV.cell (by rfl) (load_cell_run tabs S (by rfl) (by (with_reducible repeat' (first | exact Pick.here | apply Pick.there))) (by rfl)) ?_))); (focus rfl))
  exact ⟨rfl, S.below⟩

set_option maxHeartbeats 400000 in
theorem byte_any (r : Nat) (hr : r < 4294967296) (x : UInt8) (w0 : World) :
    Calls Try.prog 18 #[.int .u32 (r : Int), .int .u8 (x.toNat : Int)] w0 fun e w' => e = .returned (.int .u32 (comes r [x] : Int)) ∧ Below w0.heap.size w0 w' := by
  have S := St.start w0
  go_enter Try.func18, Try.ntmps18
  have tk0 : True := trivial
  have tk1 : True := trivial
  go_wp2_with (first | (have _t := tk0; clear _t tk0; (apply wpl_lit S rfl rfl); (focus (go_simp; first | done | rfl | (repeat' (first | rfl | apply And.intro)))); clear S; intro g w S) | (have _t := tk1; clear _t tk1; go_at_call 17; replace S := St.asBytes (r := false) (xs := [x]) S (by simp [maxLen]); refine (extend_any r hr _ [x] _ (S.rdOwn Pick.here)).mono ?_; rintro e w ⟨rfl, hb⟩; replace S := S.kept hb; clear hb) | ((refine wpl_load tabs S rfl rfl (by rfl) (by rfl) (by (with_reducible repeat' (first | exact Pick.here | apply Pick.there))) (by rfl) ?_)) | ((refine wpl_store tabs S rfl rfl rfl (by rfl) (by rfl) (by rfl) (by rfl) (by (with_reducible repeat' (first | exact Upd.here | apply Upd.there))) (by first | (simp; done) | (simp; omega) | omega) ?_); clear S; intro w S; (try simp only [List.set_cons_zero, List.set_cons_succ] at S)) | ((refine wpl_load_agg tabs S rfl rfl (by rfl) (by rfl) (by (with_reducible repeat' (first | exact Pick.here | apply Pick.there))) (by first | (simp only [List.drop_succ_cons, List.drop_zero, List.take_succ_cons, List.take_zero, List.drop_nil, List.take_nil]; rfl) | rfl) (by first | rfl | (simp; done)) ?_)) | ((refine wpl_store_agg tabs S rfl rfl rfl (by rfl) (by first | rfl | (simp; done) | (simp; rfl)) (by rfl) (by first | rfl | (simp; done)) (by (with_reducible repeat' (first | exact Upd.here | apply Upd.there))) (by first | (simp; done) | (simp; omega) | omega) ?_); clear S; intro w S; (try simp only [splice, List.take_succ_cons, List.take_zero, List.drop_succ_cons, List.drop_zero, List.drop_nil, List.nil_append, List.cons_append, List.append_nil, List.length_cons, List.length_nil, Nat.reduceAdd] at S)))
  ((first | apply fin1 rfl | apply finN rfl); (focus (repeat (first | exact ResV.nil | refine ResV.tmp (by rfl) ?_ | refine ResV.cell (by rfl) (load_agg_run tabs S (by rfl) (by (with_reducible repeat' (first | exact Pick.here | apply Pick.there))) (by first | (simp only [List.drop_succ_cons, List.drop_zero, List.take_succ_cons, List.take_zero, List.drop_nil, List.take_nil]; rfl) | rfl) (by first | rfl | (simp; done))) ?_ | refine ResV.cell (by rfl) (load_cell_run tabs S (by rfl) (by (with_reducible repeat' (first | exact Pick.here | apply Pick.there))) (by rfl)) ?_))); (focus rfl))
  exact ⟨rfl, S.below⟩

theorem ones_xor {c : Nat} (h : c < 4294967296) : 4294967295 ^^^ c = 4294967295 - c := by
  have h1 : (BitVec.allOnes 32 ^^^ BitVec.ofNat 32 c).toNat = 4294967295 ^^^ c := by
    rw [BitVec.toNat_xor, BitVec.toNat_allOnes, BitVec.toNat_ofNat, Nat.mod_eq_of_lt h]
  have h2 : BitVec.allOnes 32 ^^^ BitVec.ofNat 32 c = ~~~ (BitVec.ofNat 32 c) := by rw [BitVec.allOnes_xor]
  rw [← h1, h2, BitVec.toNat_not, BitVec.toNat_ofNat, Nat.mod_eq_of_lt h]
theorem ones_bits {c : Nat} (h : c < 4294967296) : bits .xor .u32 IntKind.u32.max (c : Int) = ((4294967295 - c : Nat) : Int) := by
  rw [show IntKind.u32.max = ((4294967295 : Nat) : Int) from rfl, u32_xor_nat _ _ (by omega) h, ones_xor h]
def sumOf (xs : List UInt8) : Nat := 4294967295 - comes 4294967295 xs
set_option maxHeartbeats 400000 in
theorem sum_any (v : Value) (xs : List UInt8) (w0 : World) (hx : Rd Rep.byte.slice w0 xs [v]) :
    Calls Try.prog 16 #[v] w0 fun e w' => e = .returned (.int .u32 (sumOf xs : Int)) ∧ Below w0.heap.size w0 w' := by
  have S := St.start w0
  have e1 := ones_bits (comes_lt (xs := xs) (r := 4294967295) (by omega))
  have e2 : IntKind.u32.signed = false := rfl
  go_enter Try.func16, Try.ntmps16
  go_wp2_with (first | (go_at_call 17; refine (extend_any 4294967295 (by omega) v xs _ hx).mono ?_; rintro e w ⟨rfl, hb⟩; replace S := S.kept hb; clear hb) | ((refine wpl_load tabs S rfl rfl (by rfl) (by rfl) (by (with_reducible repeat' (first | exact Pick.here | apply Pick.there))) (by rfl) ?_)) | ((refine wpl_store tabs S rfl rfl rfl (by rfl) (by rfl) (by rfl) (by rfl) (by (with_reducible repeat' (first | exact Upd.here | apply Upd.there))) (by first | (simp; done) | (simp; omega) | omega) ?_); clear S; intro w S; (try simp only [List.set_cons_zero, List.set_cons_succ] at S)) | ((refine wpl_load_agg tabs S rfl rfl (by rfl) (by rfl) (by (with_reducible repeat' (first | exact Pick.here | apply Pick.there))) (by first | (simp only [List.drop_succ_cons, List.drop_zero, List.take_succ_cons, List.take_zero, List.drop_nil, List.take_nil]; rfl) | rfl) (by first | rfl | (simp; done)) ?_)) | ((refine wpl_store_agg tabs S rfl rfl rfl (by rfl) (by first | rfl | (simp; done) | (simp; rfl)) (by rfl) (by first | rfl | (simp; done)) (by (with_reducible repeat' (first | exact Upd.here | apply Upd.there))) (by first | (simp; done) | (simp; omega) | omega) ?_); clear S; intro w S; (try simp only [splice, List.take_succ_cons, List.take_zero, List.drop_succ_cons, List.drop_zero, List.drop_nil, List.nil_append, List.cons_append, List.append_nil, List.length_cons, List.length_nil, Nat.reduceAdd] at S)))
  ((first | apply fin1 rfl | apply finN rfl); (focus (repeat (first | exact ResV.nil | refine ResV.tmp (by rfl) ?_ | refine ResV.cell (by rfl) (load_agg_run tabs S (by rfl) (by (with_reducible repeat' (first | exact Pick.here | apply Pick.there))) (by first | (simp only [List.drop_succ_cons, List.drop_zero, List.take_succ_cons, List.take_zero, List.drop_nil, List.take_nil]; rfl) | rfl) (by first | rfl | (simp; done))) ?_ | refine ResV.cell (by rfl) (load_cell_run tabs S (by rfl) (by (with_reducible repeat' (first | exact Pick.here | apply Pick.there))) (by rfl)) ?_))); (focus rfl))
  exact ⟨rfl, S.below⟩
end Go.Proofs.Ytjnpohloodcddaa.Crc
