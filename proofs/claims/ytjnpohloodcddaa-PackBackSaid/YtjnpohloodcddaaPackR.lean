/- pack: the reader. -/
import Derived.Test.YtjnpohloodcddaaPack
import Derived.Laws.BitsAllLaws
import Derived.Laws.Bits64
set_option linter.unusedVariables false
set_option linter.unusedSimpArgs false
namespace Go.Proofs.Ytjnpohloodcddaa.Pack
open Go.RowKit Go.Proofs.Ytjnpohloodcddaa.Sl

/-- A reader: its block at the head; its bytes are only read. -/
def RdrSt (T : TypeId) (w : World) (G : Gh) (g : Nat) (l : List As) (s : List UInt8 × Bool) : Prop :=
  ∃ a c, Rep.byte.slice.K G.heap G.dom s.1 [.slice a s.1.length c] ∧ St w G (Cs g [.slice a s.1.length c, .bool s.2] T :: l)
theorem RdrSt.mk' {T : TypeId} {w : World} {G : Gh} {g : Nat} {l : List As} {xs : List UInt8} {b : Bool} {a : Option Addr} {n c : Nat} (hk : Rep.byte.slice.K G.heap G.dom xs [.slice a n c]) (S : St w G (Cs g [.slice a n c, .bool b] T :: l)) : RdrSt T w G g l (xs, b) := by
  obtain ⟨_, _, e, _, _⟩ := Rep.slice_len hk
  injection e with e1 e2 e3
  subst e2
  exact ⟨_, _, hk, S⟩
def rTake (s : List UInt8 × Bool) (n : Nat) : List UInt8 × Bool × (List UInt8 × Bool) :=
  if s.2 = true ∨ s.1.length < n then ([], false, (s.1, true)) else (s.1.take n, true, (s.1.drop n, false))

set_option maxHeartbeats 400000 in
set_option maxRecDepth 100000 in
theorem take_any (g : Nat) (G : Gh) (l : List As) (s : List UInt8 × Bool) (n : Nat) (ni : Int) (hni : ni = (n : Int)) (hn : n ≤ 1000000) (w0 : World) (H : RdrSt 109 w0 G g l s) :
    Calls Try.prog 63 #[.pointer (some ⟨g, 0, none⟩), .int .i64 ni] w0 fun e w' => ∃ v, e = .returned (.tuple #[v, .bool (rTake s n).2.1]) ∧ Rep.byte.slice.K G.heap G.dom (rTake s n).1 [v] ∧ RdrSt 109 w' G g l (rTake s n).2.2 := by
  subst hni
  obtain ⟨xs, bad⟩ := s
  obtain ⟨a, c, hk, S⟩ := H
  obtain ⟨hle, hmx⟩ : xs.length ≤ c ∧ c ≤ maxLen := by obtain ⟨_, _, e, h1, h2⟩ := Rep.slice_len hk; injection e with _ _ e; subst e; exact ⟨h1, h2⟩
  simp only at hk S
  cases bad with
  | true =>
    go_enter Try.func63, Try.ntmps63
    go_wp2_with (first | ((refine wpl_load tabs S rfl rfl (by rfl) (by rfl) (by (with_reducible repeat' (first | exact Pick.here | apply Pick.there))) (by rfl) ?_)) | ((apply wpl_store tabs S); (focus (rfl)); (focus (rfl)); (focus (rfl)); (focus (rfl)); (focus (rfl)); (focus (first | (go_simp; rfl) | (go_simp; done) | rfl)); (focus (rfl)); (focus ((with_reducible repeat' (first | exact Upd.here | apply Upd.there)))); (focus (first | (simp; done) | (simp; omega) | omega)); clear S; intro w S; (try simp only [List.set_cons_zero, List.set_cons_succ] at S)) | ((refine wpl_load_agg tabs S rfl rfl (by rfl) (by rfl) (by (with_reducible repeat' (first | exact Pick.here | apply Pick.there))) (by first | (simp only [List.drop_succ_cons, List.drop_zero, List.take_succ_cons, List.take_zero, List.drop_nil, List.take_nil]; rfl) | rfl) (by first | rfl | (simp; done)) ?_)) | ((apply wpl_store_agg tabs S); (focus (rfl)); (focus (rfl)); (focus (rfl)); (focus (first | (go_simp; rfl) | (go_simp; done) | rfl)); (focus (first | rfl | (simp; done) | (simp; rfl))); (focus (rfl)); (focus (first | rfl | (simp; done))); (focus ((with_reducible repeat' (first | exact Upd.here | apply Upd.there)))); (focus (first | (simp; done) | (simp; omega) | omega)); clear S; intro w S; (try simp only [splice, List.take_succ_cons, List.take_zero, List.drop_succ_cons, List.drop_zero, List.drop_nil, List.nil_append, List.cons_append, List.append_nil, List.length_cons, List.length_nil, Nat.reduceAdd] at S)))
    ((first | apply fin1 rfl | apply fin2 rfl | apply fin3 rfl); (focus (repeat (first | exact ResV.nil | refine ResV.tmp (by rfl) ?_ | refine ResV.cell (by rfl) (load_agg_run tabs S (by rfl) (by (with_reducible repeat' (first | exact Pick.here | apply Pick.there))) (by first | (simp only [List.drop_succ_cons, List.drop_zero, List.take_succ_cons, List.take_zero, List.drop_nil, List.take_nil]; rfl) | rfl) (by first | rfl | (simp; done))) ?_ | refine ResV.cell (by rfl) (load_cell_run tabs S (by rfl) (by (with_reducible repeat' (first | exact Pick.here | apply Pick.there))) (by rfl)) ?_))); (focus rfl))
    exact ⟨.slice none 0 0, by simp [rTake], by simpa [rTake] using Rep.slice_nil _ _ _, a, c, by simpa [rTake] using hk, by simpa [rTake] using S⟩
  | false =>
    by_cases hlt : xs.length < n
    · go_enter Try.func63, Try.ntmps63
      go_wp2_with (first | ((refine wpl_load tabs S rfl rfl (by rfl) (by rfl) (by (with_reducible repeat' (first | exact Pick.here | apply Pick.there))) (by rfl) ?_)) | ((apply wpl_store tabs S); (focus (rfl)); (focus (rfl)); (focus (rfl)); (focus (rfl)); (focus (rfl)); (focus (first | (go_simp; rfl) | (go_simp; done) | rfl)); (focus (rfl)); (focus ((with_reducible repeat' (first | exact Upd.here | apply Upd.there)))); (focus (first | (simp; done) | (simp; omega) | omega)); clear S; intro w S; (try simp only [List.set_cons_zero, List.set_cons_succ] at S)) | ((refine wpl_load_agg tabs S rfl rfl (by rfl) (by rfl) (by (with_reducible repeat' (first | exact Pick.here | apply Pick.there))) (by first | (simp only [List.drop_succ_cons, List.drop_zero, List.take_succ_cons, List.take_zero, List.drop_nil, List.take_nil]; rfl) | rfl) (by first | rfl | (simp; done)) ?_)) | ((apply wpl_store_agg tabs S); (focus (rfl)); (focus (rfl)); (focus (rfl)); (focus (first | (go_simp; rfl) | (go_simp; done) | rfl)); (focus (first | rfl | (simp; done) | (simp; rfl))); (focus (rfl)); (focus (first | rfl | (simp; done))); (focus ((with_reducible repeat' (first | exact Upd.here | apply Upd.there)))); (focus (first | (simp; done) | (simp; omega) | omega)); clear S; intro w S; (try simp only [splice, List.take_succ_cons, List.take_zero, List.drop_succ_cons, List.drop_zero, List.drop_nil, List.nil_append, List.cons_append, List.append_nil, List.length_cons, List.length_nil, Nat.reduceAdd] at S)))
      ((first | apply fin1 rfl | apply fin2 rfl | apply fin3 rfl); (focus (repeat (first | exact ResV.nil | refine ResV.tmp (by rfl) ?_ | refine ResV.cell (by rfl) (load_agg_run tabs S (by rfl) (by (with_reducible repeat' (first | exact Pick.here | apply Pick.there))) (by first | (simp only [List.drop_succ_cons, List.drop_zero, List.take_succ_cons, List.take_zero, List.drop_nil, List.take_nil]; rfl) | rfl) (by first | rfl | (simp; done))) ?_ | refine ResV.cell (by rfl) (load_cell_run tabs S (by rfl) (by (with_reducible repeat' (first | exact Pick.here | apply Pick.there))) (by rfl)) ?_))); (focus rfl))
      exact ⟨.slice none 0 0, by simp [rTake, hlt], by simpa [rTake, hlt] using Rep.slice_nil _ _ _, a, c, by simpa [rTake, hlt] using hk, by simpa [rTake, hlt] using S⟩
    · have hd := Rep.bytes_drop hk (n := n) (by omega) hle
      have ht := Hd.mk (Rep.bytes_take hk (n := n) (by omega) hle)
      by_cases hcn : c = n
      · rw [if_pos hcn, show c - n = 0 by omega] at hd
        have hd := Hd.mk hd
        go_enter Try.func63, Try.ntmps63
        go_wp2_with (first | ((refine wpl_load tabs S rfl rfl (by rfl) (by rfl) (by (with_reducible repeat' (first | exact Pick.here | apply Pick.there))) (by rfl) ?_)) | ((apply wpl_store tabs S); (focus (rfl)); (focus (rfl)); (focus (rfl)); (focus (rfl)); (focus (rfl)); (focus (first | (go_simp; rfl) | (go_simp; done) | rfl)); (focus (rfl)); (focus ((with_reducible repeat' (first | exact Upd.here | apply Upd.there)))); (focus (first | (simp; done) | (simp; omega) | omega)); clear S; intro w S; (try simp only [List.set_cons_zero, List.set_cons_succ] at S)) | ((refine wpl_load_agg tabs S rfl rfl (by rfl) (by rfl) (by (with_reducible repeat' (first | exact Pick.here | apply Pick.there))) (by first | (simp only [List.drop_succ_cons, List.drop_zero, List.take_succ_cons, List.take_zero, List.drop_nil, List.take_nil]; rfl) | rfl) (by first | rfl | (simp; done)) ?_)) | ((apply wpl_store_agg tabs S); (focus (rfl)); (focus (rfl)); (focus (rfl)); (focus (first | (go_simp; rfl) | (go_simp; done) | rfl)); (focus (first | rfl | (simp; done) | (simp; rfl))); (focus (rfl)); (focus (first | rfl | (simp; done))); (focus ((with_reducible repeat' (first | exact Upd.here | apply Upd.there)))); (focus (first | (simp; done) | (simp; omega) | omega)); clear S; intro w S; (try simp only [splice, List.take_succ_cons, List.take_zero, List.drop_succ_cons, List.drop_zero, List.drop_nil, List.nil_append, List.cons_append, List.append_nil, List.length_cons, List.length_nil, Nat.reduceAdd] at S)))
        ((first | apply fin1 rfl | apply fin2 rfl | apply fin3 rfl); (focus (repeat (first | exact ResV.nil | refine ResV.tmp (by rfl) ?_ | refine ResV.cell (by rfl) (load_agg_run tabs S (by rfl) (by (with_reducible repeat' (first | exact Pick.here | apply Pick.there))) (by first | (simp only [List.drop_succ_cons, List.drop_zero, List.take_succ_cons, List.take_zero, List.drop_nil, List.take_nil]; rfl) | rfl) (by first | rfl | (simp; done))) ?_ | refine ResV.cell (by rfl) (load_cell_run tabs S (by rfl) (by (with_reducible repeat' (first | exact Pick.here | apply Pick.there))) (by rfl)) ?_))); (focus rfl))
        refine ⟨.slice a n n, by simp [rTake, hlt], by simpa [rTake, hlt] using ht.out, ?_⟩
        simp [rTake, hlt, RdrSt]
        exact ⟨_, _, hd.out, S⟩
      · rw [if_neg hcn] at hd
        have hd := Hd.mk hd
        go_enter Try.func63, Try.ntmps63
        go_wp2_with (first | ((refine wpl_load tabs S rfl rfl (by rfl) (by rfl) (by (with_reducible repeat' (first | exact Pick.here | apply Pick.there))) (by rfl) ?_)) | ((apply wpl_store tabs S); (focus (rfl)); (focus (rfl)); (focus (rfl)); (focus (rfl)); (focus (rfl)); (focus (first | (go_simp; rfl) | (go_simp; done) | rfl)); (focus (rfl)); (focus ((with_reducible repeat' (first | exact Upd.here | apply Upd.there)))); (focus (first | (simp; done) | (simp; omega) | omega)); clear S; intro w S; (try simp only [List.set_cons_zero, List.set_cons_succ] at S)) | ((refine wpl_load_agg tabs S rfl rfl (by rfl) (by rfl) (by (with_reducible repeat' (first | exact Pick.here | apply Pick.there))) (by first | (simp only [List.drop_succ_cons, List.drop_zero, List.take_succ_cons, List.take_zero, List.drop_nil, List.take_nil]; rfl) | rfl) (by first | rfl | (simp; done)) ?_)) | ((apply wpl_store_agg tabs S); (focus (rfl)); (focus (rfl)); (focus (rfl)); (focus (first | (go_simp; rfl) | (go_simp; done) | rfl)); (focus (first | rfl | (simp; done) | (simp; rfl))); (focus (rfl)); (focus (first | rfl | (simp; done))); (focus ((with_reducible repeat' (first | exact Upd.here | apply Upd.there)))); (focus (first | (simp; done) | (simp; omega) | omega)); clear S; intro w S; (try simp only [splice, List.take_succ_cons, List.take_zero, List.drop_succ_cons, List.drop_zero, List.drop_nil, List.nil_append, List.cons_append, List.append_nil, List.length_cons, List.length_nil, Nat.reduceAdd] at S)))
        ((first | apply fin1 rfl | apply fin2 rfl | apply fin3 rfl); (focus (repeat (first | exact ResV.nil | refine ResV.tmp (by rfl) ?_ | refine ResV.cell (by rfl) (load_agg_run tabs S (by rfl) (by (with_reducible repeat' (first | exact Pick.here | apply Pick.there))) (by first | (simp only [List.drop_succ_cons, List.drop_zero, List.take_succ_cons, List.take_zero, List.drop_nil, List.take_nil]; rfl) | rfl) (by first | rfl | (simp; done))) ?_ | refine ResV.cell (by rfl) (load_cell_run tabs S (by rfl) (by (with_reducible repeat' (first | exact Pick.here | apply Pick.there))) (by rfl)) ?_))); (focus rfl))
        refine ⟨.slice a n n, by simp [rTake, hlt], by simpa [rTake, hlt] using ht.out, ?_⟩
        simp [rTake, hlt, RdrSt]
        exact ⟨_, _, hd.out, S⟩
/-- The number that bytes are. -/
def numOf (xs : List UInt8) : Nat := xs.foldl (fun n x => 256 * n + x.toNat) 0
theorem numOf_snoc (xs : List UInt8) (x : UInt8) : numOf (xs ++ [x]) = 256 * numOf xs + x.toNat := by simp [numOf]
theorem numOf_take (xs : List UInt8) (k : Nat) (x : UInt8) (h : xs[k]? = some x) : numOf (xs.take (k + 1)) = 256 * numOf (xs.take k) + x.toNat := by
  rw [List.take_add_one, h]
  exact numOf_snoc _ _
theorem numOf_lt (xs : List UInt8) : ∀ k, numOf (xs.take k) < 256 ^ k
  | 0 => by simp [numOf]
  | k + 1 => by
    have ih := numOf_lt xs k
    rw [Nat.pow_succ]
    cases h : xs[k]? with
    | none =>
      rw [List.take_add_one, h]
      simp
      omega
    | some x =>
      rw [numOf_take xs k x h]
      have := x.toNat_lt
      omega
def rNum (s : List UInt8 × Bool) (size : Int) : Nat × (List UInt8 × Bool) :=
  if s.2 = true ∨ size < 1 ∨ 8 < size ∨ (s.1.length : Int) < size then (0, (s.1, true)) else (numOf (s.1.take size.toNat), (s.1.drop size.toNat, false))
set_option maxHeartbeats 400000 in
set_option maxRecDepth 100000 in
theorem rnumber_any (g : Nat) (G : Gh) (l : List As) (s : List UInt8 × Bool) (size : Int) (w0 : World) (H : RdrSt 109 w0 G g l s) :
    Calls Try.prog 37 #[.pointer (some ⟨g, 0, none⟩), .int .i64 size] w0 fun e w' => e = .returned (.int .u64 ((rNum s size).1 : Int)) ∧ RdrSt 109 w' G g l (rNum s size).2 := by
  have hmf : ∀ (fn : Fn) (first cap : Array Value) (w : World), (Instr.makeFunc fn first cap).run Try.prog w = .ok (.func fn first cap) w := fun _ _ _ _ => rfl
  by_cases h1 : size < 1
  · obtain ⟨xs, bad⟩ := s
    obtain ⟨a, c, hk, S⟩ := H
    go_enter Try.func37, Try.ntmps37
    go_wp2_with (first | ((refine wpl_load tabs S rfl rfl (by rfl) (by rfl) (by (with_reducible repeat' (first | exact Pick.here | apply Pick.there))) (by rfl) ?_)) | ((apply wpl_store tabs S); (focus (rfl)); (focus (rfl)); (focus (rfl)); (focus (rfl)); (focus (rfl)); (focus (first | (go_simp; rfl) | (go_simp; done) | rfl)); (focus (rfl)); (focus ((with_reducible repeat' (first | exact Upd.here | apply Upd.there)))); (focus (first | (simp; done) | (simp; omega) | omega)); clear S; intro w S; (try simp only [List.set_cons_zero, List.set_cons_succ] at S)) | ((refine wpl_load_agg tabs S rfl rfl (by rfl) (by rfl) (by (with_reducible repeat' (first | exact Pick.here | apply Pick.there))) (by first | (simp only [List.drop_succ_cons, List.drop_zero, List.take_succ_cons, List.take_zero, List.drop_nil, List.take_nil]; rfl) | rfl) (by first | rfl | (simp; done)) ?_)) | ((apply wpl_store_agg tabs S); (focus (rfl)); (focus (rfl)); (focus (rfl)); (focus (first | (go_simp; rfl) | (go_simp; done) | rfl)); (focus (first | rfl | (simp; done) | (simp; rfl))); (focus (rfl)); (focus (first | rfl | (simp; done))); (focus ((with_reducible repeat' (first | exact Upd.here | apply Upd.there)))); (focus (first | (simp; done) | (simp; omega) | omega)); clear S; intro w S; (try simp only [splice, List.take_succ_cons, List.take_zero, List.drop_succ_cons, List.drop_zero, List.drop_nil, List.nil_append, List.cons_append, List.append_nil, List.length_cons, List.length_nil, Nat.reduceAdd] at S)))
    ((first | apply fin1 rfl | apply fin2 rfl | apply fin3 rfl); (focus (repeat (first | exact ResV.nil | refine ResV.tmp (by rfl) ?_ | refine ResV.cell (by rfl) (load_agg_run tabs S (by rfl) (by (with_reducible repeat' (first | exact Pick.here | apply Pick.there))) (by first | (simp only [List.drop_succ_cons, List.drop_zero, List.take_succ_cons, List.take_zero, List.drop_nil, List.take_nil]; rfl) | rfl) (by first | rfl | (simp; done))) ?_ | refine ResV.cell (by rfl) (load_cell_run tabs S (by rfl) (by (with_reducible repeat' (first | exact Pick.here | apply Pick.there))) (by rfl)) ?_))); (focus rfl))
    exact ⟨by simp [rNum, h1], a, c, by simpa [rNum, h1] using hk, by simpa [rNum, h1] using S⟩
  by_cases h2 : 8 < size
  · obtain ⟨xs, bad⟩ := s
    obtain ⟨a, c, hk, S⟩ := H
    go_enter Try.func37, Try.ntmps37
    go_wp2_with (first | ((refine wpl_load tabs S rfl rfl (by rfl) (by rfl) (by (with_reducible repeat' (first | exact Pick.here | apply Pick.there))) (by rfl) ?_)) | ((apply wpl_store tabs S); (focus (rfl)); (focus (rfl)); (focus (rfl)); (focus (rfl)); (focus (rfl)); (focus (first | (go_simp; rfl) | (go_simp; done) | rfl)); (focus (rfl)); (focus ((with_reducible repeat' (first | exact Upd.here | apply Upd.there)))); (focus (first | (simp; done) | (simp; omega) | omega)); clear S; intro w S; (try simp only [List.set_cons_zero, List.set_cons_succ] at S)) | ((refine wpl_load_agg tabs S rfl rfl (by rfl) (by rfl) (by (with_reducible repeat' (first | exact Pick.here | apply Pick.there))) (by first | (simp only [List.drop_succ_cons, List.drop_zero, List.take_succ_cons, List.take_zero, List.drop_nil, List.take_nil]; rfl) | rfl) (by first | rfl | (simp; done)) ?_)) | ((apply wpl_store_agg tabs S); (focus (rfl)); (focus (rfl)); (focus (rfl)); (focus (first | (go_simp; rfl) | (go_simp; done) | rfl)); (focus (first | rfl | (simp; done) | (simp; rfl))); (focus (rfl)); (focus (first | rfl | (simp; done))); (focus ((with_reducible repeat' (first | exact Upd.here | apply Upd.there)))); (focus (first | (simp; done) | (simp; omega) | omega)); clear S; intro w S; (try simp only [splice, List.take_succ_cons, List.take_zero, List.drop_succ_cons, List.drop_zero, List.drop_nil, List.nil_append, List.cons_append, List.append_nil, List.length_cons, List.length_nil, Nat.reduceAdd] at S)))
    ((first | apply fin1 rfl | apply fin2 rfl | apply fin3 rfl); (focus (repeat (first | exact ResV.nil | refine ResV.tmp (by rfl) ?_ | refine ResV.cell (by rfl) (load_agg_run tabs S (by rfl) (by (with_reducible repeat' (first | exact Pick.here | apply Pick.there))) (by first | (simp only [List.drop_succ_cons, List.drop_zero, List.take_succ_cons, List.take_zero, List.drop_nil, List.take_nil]; rfl) | rfl) (by first | rfl | (simp; done))) ?_ | refine ResV.cell (by rfl) (load_cell_run tabs S (by rfl) (by (with_reducible repeat' (first | exact Pick.here | apply Pick.there))) (by rfl)) ?_))); (focus rfl))
    exact ⟨by simp [rNum, h2], a, c, by simpa [rNum, h2] using hk, by simpa [rNum, h2] using S⟩
  obtain ⟨k, rfl⟩ := Int.eq_ofNat_of_zero_le (show 0 ≤ size by omega)
  have hs : Hd (((rTake s k).2.1 = true ∧ rNum s (k : Int) = (numOf (rTake s k).1, (rTake s k).2.2) ∧ (rTake s k).1.length = k) ∨ ((rTake s k).2.1 = false ∧ (rTake s k).1 = [] ∧ rNum s (k : Int) = (0, (rTake s k).2.2))) := ⟨by
    unfold rTake rNum
    by_cases h : s.2 = true ∨ s.1.length < k
    · right
      rw [if_pos h, if_pos (h.imp id (fun h => .inr (.inr (by omega))))]
      exact ⟨rfl, rfl, rfl⟩
    · left
      have h0 : ¬ s.2 = true := fun x => h (.inl x)
      have h3 : ¬ s.1.length < k := fun x => h (.inr x)
      rw [if_neg h, if_neg (by rintro (x | x | x | x); exact h0 x; all_goals omega)]
      refine ⟨rfl, by simp, ?_⟩
      simp; omega⟩
  have hbnd : ∀ j, j ≤ k → Hd (numOf ((rTake s k).1.take j) < 256 ^ 8) := fun j hj => ⟨Nat.lt_of_lt_of_le (numOf_lt _ j) (Nat.pow_le_pow_right (by omega) (by omega))⟩
  have hlen : Hd ((rTake s k).1.length ≤ k) := ⟨by rcases hs.out with h | h; omega; rw [h.2.1]; simp⟩
  have hfin : Hd (numOf (rTake s k).1 = (rNum s k).1 ∧ (rTake s k).2.2 = (rNum s k).2) := ⟨by rcases hs.out with h | h; rw [h.2.1]; exact ⟨rfl, rfl⟩; rw [h.2.2, h.2.1]; exact ⟨rfl, rfl⟩⟩
  have hbnd := Hd.mk hbnd
  go_enter Try.func37, Try.ntmps37
  have tk0 : True := trivial
  go_wp2_with (first | (have _t := tk0; clear _t tk0; go_at_call 63; refine (take_any g G l s k _ rfl (by omega) _ H).mono ?_; rintro e w ⟨v, rfl, hk, H⟩; obtain ⟨a1, c1, rfl, hc1⟩ := Rep.slice_len hk; replace hk := Hd.mk hk; clear hc1) | ((refine wpl_load tabs S rfl rfl (by rfl) (by rfl) (by (with_reducible repeat' (first | exact Pick.here | apply Pick.there))) (by rfl) ?_)) | ((apply wpl_store tabs S); (focus (rfl)); (focus (rfl)); (focus (rfl)); (focus (rfl)); (focus (rfl)); (focus (first | (go_simp; rfl) | (go_simp; done) | rfl)); (focus (rfl)); (focus ((with_reducible repeat' (first | exact Upd.here | apply Upd.there)))); (focus (first | (simp; done) | (simp; omega) | omega)); clear S; intro w S; (try simp only [List.set_cons_zero, List.set_cons_succ] at S)) | ((refine wpl_load_agg tabs S rfl rfl (by rfl) (by rfl) (by (with_reducible repeat' (first | exact Pick.here | apply Pick.there))) (by first | (simp only [List.drop_succ_cons, List.drop_zero, List.take_succ_cons, List.take_zero, List.drop_nil, List.take_nil]; rfl) | rfl) (by first | rfl | (simp; done)) ?_)) | ((apply wpl_store_agg tabs S); (focus (rfl)); (focus (rfl)); (focus (rfl)); (focus (first | (go_simp; rfl) | (go_simp; done) | rfl)); (focus (first | rfl | (simp; done) | (simp; rfl))); (focus (rfl)); (focus (first | rfl | (simp; done))); (focus ((with_reducible repeat' (first | exact Upd.here | apply Upd.there)))); (focus (first | (simp; done) | (simp; omega) | omega)); clear S; intro w S; (try simp only [splice, List.take_succ_cons, List.take_zero, List.drop_succ_cons, List.drop_zero, List.drop_nil, List.nil_append, List.cons_append, List.append_nil, List.length_cons, List.length_nil, Nat.reduceAdd] at S)))
  have hk8 : k ≤ 8 := by omega
  clear h1 h2
  generalize hys : (rTake s k).1 = ys at *
  clear hys
  obtain ⟨ao, co, hK, S⟩ := H
  have hsl : Hd (Rep.byte.SlK G.heap G.dom a1 ys) := ⟨by
    obtain ⟨_, _, e, _, _, h⟩ := hk.out
    injection e with e
    injection e with e
    subst e
    exact h⟩
  have hK := Hd.mk hK
  clear hk
  go_loop [8, 32] (fun x i => ∃ j : Nat, j ≤ ys.length ∧ i = .int .i64 j ∧ x = .int .u64 (numOf (ys.take j) : Int)) (fun _ i => ys.length - (intOf i).toNat)
  case atStart => exact ⟨0, by omega, rfl, rfl⟩
  case round =>
    obtain ⟨j, hj, rfl, rfl⟩ := hrel
    have hlen1 := hlen.out
    by_cases hlt : j < ys.length
    · obtain ⟨ad, rfl, hc⟩ := Rep.bytes_at hsl.out (List.getElem?_eq_getElem hlt)
      have hcell := S.roCell hc
      clear hc
      have hx := ys[j].toNat_lt
      have hst := Hd.mk (numOf_take ys j ys[j] (List.getElem?_eq_getElem hlt))
      have hm : numOf (ys.take j) < 72057594037927936 := Nat.lt_of_lt_of_le (numOf_lt ys j) (Nat.pow_le_pow_right (n := 256) (j := 7) (by omega) (by omega))
      generalize ys[j] = x at *
      generalize numOf (ys.take j) = m at *
      have e2 : bits .or .u64 ((m : Int) * 256) (x.toNat : Int) = ((256 * m + x.toNat : Nat) : Int) := by
        rw [show (m : Int) * 256 = ((m * 256 : Nat) : Int) by omega, u64_or_nat _ _ (by omega) (by omega)]
        congr 1
        have := Nat.two_pow_add_eq_or_of_lt (i := 8) (b := x.toNat) (by omega) m
        rw [show m * 256 = 2 ^ 8 * m by omega, ← this]
      go_wp2_with (first | ((refine wpl_load tabs S rfl rfl (by rfl) (by rfl) (by (with_reducible repeat' (first | exact Pick.here | apply Pick.there))) (by rfl) ?_)) | ((apply wpl_store tabs S); (focus (rfl)); (focus (rfl)); (focus (rfl)); (focus (rfl)); (focus (rfl)); (focus (first | (go_simp; rfl) | (go_simp; done) | rfl)); (focus (rfl)); (focus ((with_reducible repeat' (first | exact Upd.here | apply Upd.there)))); (focus (first | (simp; done) | (simp; omega) | omega)); clear S; intro w S; (try simp only [List.set_cons_zero, List.set_cons_succ] at S)) | ((refine wpl_load_agg tabs S rfl rfl (by rfl) (by rfl) (by (with_reducible repeat' (first | exact Pick.here | apply Pick.there))) (by first | (simp only [List.drop_succ_cons, List.drop_zero, List.take_succ_cons, List.take_zero, List.drop_nil, List.take_nil]; rfl) | rfl) (by first | rfl | (simp; done)) ?_)) | ((apply wpl_store_agg tabs S); (focus (rfl)); (focus (rfl)); (focus (rfl)); (focus (first | (go_simp; rfl) | (go_simp; done) | rfl)); (focus (first | rfl | (simp; done) | (simp; rfl))); (focus (rfl)); (focus (first | rfl | (simp; done))); (focus ((with_reducible repeat' (first | exact Upd.here | apply Upd.there)))); (focus (first | (simp; done) | (simp; omega) | omega)); clear S; intro w S; (try simp only [splice, List.take_succ_cons, List.take_zero, List.drop_succ_cons, List.drop_zero, List.drop_nil, List.nil_append, List.cons_append, List.append_nil, List.length_cons, List.length_nil, Nat.reduceAdd] at S)))
      go_round
      case rel => exact ⟨j + 1, by omega, by go_num, by rw [hst.out]; simp⟩
      case measure => simp [intOf]; omega
    · obtain rfl : j = ys.length := by omega
      rw [List.take_length] at *
      go_wp2_with (first | ((refine wpl_load tabs S rfl rfl (by rfl) (by rfl) (by (with_reducible repeat' (first | exact Pick.here | apply Pick.there))) (by rfl) ?_)) | ((apply wpl_store tabs S); (focus (rfl)); (focus (rfl)); (focus (rfl)); (focus (rfl)); (focus (rfl)); (focus (first | (go_simp; rfl) | (go_simp; done) | rfl)); (focus (rfl)); (focus ((with_reducible repeat' (first | exact Upd.here | apply Upd.there)))); (focus (first | (simp; done) | (simp; omega) | omega)); clear S; intro w S; (try simp only [List.set_cons_zero, List.set_cons_succ] at S)) | ((refine wpl_load_agg tabs S rfl rfl (by rfl) (by rfl) (by (with_reducible repeat' (first | exact Pick.here | apply Pick.there))) (by first | (simp only [List.drop_succ_cons, List.drop_zero, List.take_succ_cons, List.take_zero, List.drop_nil, List.take_nil]; rfl) | rfl) (by first | rfl | (simp; done)) ?_)) | ((apply wpl_store_agg tabs S); (focus (rfl)); (focus (rfl)); (focus (rfl)); (focus (first | (go_simp; rfl) | (go_simp; done) | rfl)); (focus (first | rfl | (simp; done) | (simp; rfl))); (focus (rfl)); (focus (first | rfl | (simp; done))); (focus ((with_reducible repeat' (first | exact Upd.here | apply Upd.there)))); (focus (first | (simp; done) | (simp; omega) | omega)); clear S; intro w S; (try simp only [splice, List.take_succ_cons, List.take_zero, List.drop_succ_cons, List.drop_zero, List.drop_nil, List.nil_append, List.cons_append, List.append_nil, List.length_cons, List.length_nil, Nat.reduceAdd] at S)))
      ((first | apply fin1 rfl | apply fin2 rfl | apply fin3 rfl); (focus (repeat (first | exact ResV.nil | refine ResV.tmp (by rfl) ?_ | refine ResV.cell (by rfl) (load_agg_run tabs S (by rfl) (by (with_reducible repeat' (first | exact Pick.here | apply Pick.there))) (by first | (simp only [List.drop_succ_cons, List.drop_zero, List.take_succ_cons, List.take_zero, List.drop_nil, List.take_nil]; rfl) | rfl) (by first | rfl | (simp; done))) ?_ | refine ResV.cell (by rfl) (load_cell_run tabs S (by rfl) (by (with_reducible repeat' (first | exact Pick.here | apply Pick.there))) (by rfl)) ?_))); (focus rfl))
      rw [← hfin.out.1, ← hfin.out.2]
      exact ⟨rfl, ao, co, hK.out, S⟩
end Go.Proofs.Ytjnpohloodcddaa.Pack
