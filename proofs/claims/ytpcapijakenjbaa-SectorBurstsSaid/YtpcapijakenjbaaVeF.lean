/- sectors: the plain laws, and the contracts as one. -/
import Derived.Test.YtpcapijakenjbaaVeE
set_option linter.unusedVariables false
set_option linter.unusedSimpArgs false
namespace Go.Proofs.Ytpcapijakenjbaa.Vs
open Go.RowKit
set_option maxRecDepth 100000
theorem numOf_cons (x : UInt8) (xs : List UInt8) : numOf (xs ++ [x]) = 256 * numOf xs + x.toNat := numOf_snoc xs x
theorem numOf_all (xs : List UInt8) : numOf xs < 256 ^ xs.length := by have := numOf_lt xs xs.length; rwa [List.take_length] at this
theorem numOf_numB : ∀ (k n : Nat), n < 256 ^ k → numOf (numB n k) = n
  | 0, n, h => by simp at h; subst h; rfl
  | k + 1, n, h => by
    rw [numB, numOf_snoc, numOf_numB k (n / 256) (by rw [Nat.pow_succ] at h; omega)]
    simp [UInt8.toNat_ofNat']; omega
theorem numB_numOf (xs : List UInt8) : ∀ k, k ≤ xs.length → numB (numOf (xs.take k)) k = xs.take k
  | 0, _ => by simp [numB]
  | k + 1, h => by
    have hx : xs[k]? = some (xs.getD k 0) := by rw [List.getD_eq_getElem?_getD, List.getElem?_eq_getElem (by omega)]; rfl
    have hlt := (xs.getD k 0).toNat_lt
    rw [numOf_take xs k _ hx, numB, show (256 * numOf (xs.take k) + (xs.getD k 0).toNat) / 256 = numOf (xs.take k) by omega, numB_numOf xs k (by omega), List.take_add_one, hx]
    congr 1
    simp only [Option.toList_some, List.cons.injEq, and_true]
    apply UInt8.toNat_inj.1
    rw [UInt8.toNat_ofNat']; omega
theorem numB_of (xs : List UInt8) (k : Nat) (h : xs.length = k) : numB (numOf xs) k = xs := by
  have := numB_numOf xs k (by omega)
  rwa [List.take_of_length_le (by omega)] at this
def okB (b : List UInt8) : Prop := b.length = 512 ∧ b.take 4 = [68, 86, 84, 49] ∧ fB b ≤ 3 ∧ nB b ≤ 493 ∧ putB (eB b) (sB b) (fB b) ((b.drop 15).take (nB b)) = b
instance (b : List UInt8) : Decidable (okB b) := by unfold okB; exact inferInstance
theorem get_fn (b : List UInt8) : Fn Try.prog 30 [bytes b] [] (if okB b then .tup [part (eB b) (sB b) (fB b) ((b.drop 15).take (nB b)), i64 0] else .tup [noPart, i64 2]) [] := by
  by_cases hl : b.length = 512
  · by_cases hm : b.take 4 = [68, 86, 84, 49]
    · by_cases h : fB b ≤ 3 ∧ nB b ≤ 493
      · have := get_ok b hl hm h.1 h.2
        by_cases hp : putB (eB b) (sB b) (fB b) ((b.drop 15).take (nB b)) = b
        · rw [if_pos hp] at this
          rwa [if_pos ⟨hl, hm, h.1, h.2, hp⟩]
        · rw [if_neg hp] at this
          rwa [if_neg (fun x => hp x.2.2.2.2)]
      · rw [if_neg (fun x => h ⟨x.2.2.1, x.2.2.2.1⟩)]
        exact get_bad b hl hm (by omega)
    · rw [if_neg (fun x => hm x.2.1)]
      exact get_mag b hl hm
  · rw [if_neg (fun x => hl x.1)]
    exact get_len b hl
theorem sec_len (e s f : Nat) (b : List UInt8) (h : b.length ≤ 493) : (secB e s f b).length = 508 := by simp [secB, secH]; omega
theorem put_len (e s f : Nat) (b : List UInt8) (h : b.length ≤ 493) : (putB e s f b).length = 512 := by simp [putB, sec_len e s f b h, le4]
theorem leOf_le4 (n : Nat) (h : n < 4294967296) : leOf (le4 n) = n := by simp [le4, leOf, UInt8.toNat_ofNat']; omega
theorem le4_leOf (xs : List UInt8) (h : xs.length = 4) : le4 (leOf xs) = xs := by
  match xs, h with
  | [a, b, c, d], _ =>
    have := a.toNat_lt; have := b.toNat_lt; have := c.toNat_lt; have := d.toNat_lt
    simp only [leOf, le4]
    congr 1
    · apply UInt8.toNat_inj.1; rw [UInt8.toNat_ofNat']; omega
    congr 1
    · apply UInt8.toNat_inj.1; rw [UInt8.toNat_ofNat']; omega
    congr 1
    · apply UInt8.toNat_inj.1; rw [UInt8.toNat_ofNat']; omega
    congr 1
    · apply UInt8.toNat_inj.1; rw [UInt8.toNat_ofNat']; omega
/-- What is read of a part's bytes. -/
theorem read_put (e s f : Nat) (b : List UInt8) (he : e < 4294967296) (hs : s < 4294967296) (hf : f ≤ 3) (hl : b.length ≤ 493) : eB (putB e s f b) = e ∧ sB (putB e s f b) = s ∧ fB (putB e s f b) = f ∧ nB (putB e s f b) = b.length ∧ ((putB e s f b).drop 15).take b.length = b ∧ (putB e s f b).take 4 = [68, 86, 84, 49] := by
  have hb : body (putB e s f b) = numB e 4 ++ (numB s 4 ++ ([UInt8.ofNat f] ++ numB b.length 2)) := by
    simp [body, putB, secB, secH, List.drop_append, List.take_append, numB_len]
    rw [List.take_of_length_le (by simp), List.take_of_length_le (by simp)]
  refine ⟨?_, ?_, ?_, ?_, ?_, ?_⟩
  · rw [eB, hb, List.take_left' (by simp), numOf_numB _ _ (by omega)]
  · rw [sB, hb, List.drop_left' (by simp), List.take_left' (by simp), numOf_numB _ _ (by omega)]
  · rw [fB, hb, List.drop_left' (by simp), List.drop_left' (by simp), List.take_left' (by simp)]
    simp [numOf, UInt8.toNat_ofNat']; omega
  · rw [nB, hb, List.drop_left' (by simp), List.drop_left' (by simp), List.drop_left' (by simp), List.take_of_length_le (by simp), numOf_numB _ _ (by omega)]
  · rw [putB, secB, List.append_assoc, List.append_assoc, List.drop_left' (by simp [secH]), List.take_left' rfl]
  · simp [putB, secB, secH]
theorem ok_put (e s f : Nat) (b : List UInt8) (he : e < 4294967296) (hs : s < 4294967296) (hf : f ≤ 3) (hl : b.length ≤ 493) : okB (putB e s f b) := by
  obtain ⟨h1, h2, h3, h4, h5, h6⟩ := read_put e s f b he hs hf hl
  exact ⟨put_len _ _ _ _ hl, h6, by omega, by omega, by rw [h1, h2, h3, h4, h5]⟩
theorem get_put (e s f : Nat) (b : List UInt8) (he : e < 4294967296) (hs : s < 4294967296) (hf : f ≤ 3) (hl : b.length ≤ 493) : Fn Try.prog 30 [bytes (putB e s f b)] [] (.tup [part e s f b, i64 0]) [] := by
  have := get_fn (putB e s f b)
  obtain ⟨h1, h2, h3, h4, h5, h6⟩ := read_put e s f b he hs hf hl
  rwa [if_pos (ok_put e s f b he hs hf hl), h1, h2, h3, h4, h5] at this
theorem xs_eq (b : List UInt8) (hl : b.length = 512) : xe (b.take 508) = eB b ∧ xs (b.take 508) = sB b ∧ xf (b.take 508) = fB b ∧ xn (b.take 508) = nB b ∧ xm (b.take 508) = numOf (b.take 4) := by
  simp only [xe, xs, xf, xn, xm, xh, eB, sB, fB, nB, body, List.drop_take, List.take_take, List.drop_drop]
  refine ⟨rfl, rfl, rfl, rfl, rfl⟩
theorem split508 (b : List UInt8) (hl : b.length = 512) (hn : nB b ≤ 493) : b.take 508 = b.take 4 ++ numB (eB b) 4 ++ numB (sB b) 4 ++ [UInt8.ofNat (fB b)] ++ numB (nB b) 2 ++ (b.drop 15).take (nB b) ++ xy (b.take 508) := by
  have hy : xy (b.take 508) = ((b.take 508).drop (15 + nB b)) := by
    rw [xy, (xs_eq b hl).2.2.2.1, xh]; simp only [List.drop_drop]
  have h1 : numB (eB b) 4 = (b.drop 4).take 4 := by rw [eB, numB_of _ 4 (by simp [body]; omega)]; simp [body, List.take_take]
  have h2 : numB (sB b) 4 = (b.drop 8).take 4 := by rw [sB, numB_of _ 4 (by simp [body]; omega)]; simp [body, List.drop_take, List.take_take, List.drop_drop]
  have h4 : numB (nB b) 2 = (b.drop 13).take 2 := by rw [nB, numB_of _ 2 (by simp [body]; omega)]; simp [body, List.drop_take, List.take_take, List.drop_drop]
  have h3 : [UInt8.ofNat (fB b)] = (b.drop 12).take 1 := by
    have : numB (fB b) 1 = (b.drop 12).take 1 := by rw [fB, numB_of _ 1 (by simp [body]; omega)]; simp [body, List.drop_take, List.take_take, List.drop_drop]
    rw [← this]; simp [numB]
  rw [hy, h1, h2, h3, h4]
  generalize nB b = n at *
  have t : ∀ (i k : Nat), b.take i ++ (b.drop i).take k = b.take (i + k) := fun i k => (List.take_add ..).symm
  rw [t 4 4, t 8 4, t 12 1, t 13 2, t 15 n]
  rw [show b.take (15 + n) = (b.take 508).take (15 + n) by rw [List.take_take, Nat.min_eq_left (by omega)], List.take_append_drop]
theorem ok_iff (b : List UInt8) (hl : b.length = 512) : okB b ↔ xm (b.take 508) = 1146508337 ∧ xf (b.take 508) ≤ 3 ∧ xn (b.take 508) ≤ 493 ∧ (xy (b.take 508)).all (· == 0) = true ∧ leOf (b.drop 508) = sumOf (b.take 508) := by
  obtain ⟨e1, e2, e3, e4, e5⟩ := xs_eq b hl
  rw [e3, e4, e5]
  have hm : b.take 4 = [68, 86, 84, 49] ↔ numOf (b.take 4) = 1146508337 := by
    constructor
    · intro h; rw [h]; decide
    · intro h
      have := numB_of (b.take 4) 4 (by simp; omega)
      rw [← this, h]; decide
  rw [← hm]
  constructor
  · rintro ⟨_, h2, h3, h4, h5⟩
    have hsp := split508 b hl h4
    have hd : ((b.drop 15).take (nB b)).length = nB b := by simp; omega
    have h6 : secB (eB b) (sB b) (fB b) ((b.drop 15).take (nB b)) = b.take 508 := by
      have := congrArg (List.take 508) h5
      rwa [putB, List.take_left' (sec_len _ _ _ _ (by omega))] at this
    have h7 : le4 (sumOf (b.take 508)) = b.drop 508 := by
      have := congrArg (List.drop 508) h5
      rwa [putB, List.drop_left' (sec_len _ _ _ _ (by omega)), h6] at this
    refine ⟨h2, h3, h4, ?_, ?_⟩
    · have h8 := h6.trans hsp
      rw [secB, secH, hd, h2] at h8
      have := List.append_cancel_left h8
      rw [← this]; simp
    · rw [← h7, leOf_le4 _ (by unfold sumOf; omega)]
  · rintro ⟨h2, h3, h4, h5, h6⟩
    have hsp := split508 b hl h4
    have hd : ((b.drop 15).take (nB b)).length = nB b := by simp; omega
    have hy : xy (b.take 508) = List.replicate (493 - nB b) 0 := by
      have hyl : (xy (b.take 508)).length = 493 - nB b := by
        have := congrArg List.length hsp
        simp at this; omega
      rw [← hyl, List.eq_replicate_iff]
      exact ⟨rfl, fun x hx => by simpa using List.all_eq_true.1 h5 x hx⟩
    have h7 : secB (eB b) (sB b) (fB b) ((b.drop 15).take (nB b)) = b.take 508 := by
      rw [hsp, hy, secB, secH, hd, h2]
    refine ⟨hl, h2, h3, h4, ?_⟩
    rw [putB, h7, ← h6, le4_leOf _ (by simp; omega), List.take_append_drop]
theorem xget_fn (b : List UInt8) (h : okB b) : Fn Try.prog 32 [bytes b] [] (.tup [part (eB b) (sB b) (fB b) ((b.drop 15).take (nB b)), bool true]) [] := by
  have hl := h.1
  have hk := (ok_iff b hl).1 h
  obtain ⟨e1, e2, e3, e4, e5⟩ := xs_eq b hl
  have := xget_ok b hl hk.2.2.1 hk.1 hk.2.1
  have hb : xbody (b.take 508) = (b.drop 15).take (nB b) := by
    rw [xbody, e4, xh]
    have := hk.2.2.1
    rw [e4] at this
    simp only [List.drop_drop, List.drop_take, List.take_take]
    rw [Nat.min_eq_left (by omega)]
  rw [hb, e1, e2, e3, if_pos hk.2.2.2.1, decide_eq_true hk.2.2.2.2] at this
  exact this
theorem xget_no (b : List UInt8) (h : ¬ okB b) : ∃ (e s f : Int) (d : List UInt8), Fn Try.prog 32 [bytes b] [] (.tup [part e s f d, bool false]) [] := by
  by_cases hl : b.length = 512
  · have hiff := ok_iff b hl
    by_cases h3 : xm (b.take 508) = 1146508337 ∧ xf (b.take 508) ≤ 3 ∧ xn (b.take 508) ≤ 493
    · have := xget_ok b hl h3.2.2 h3.1 h3.2.1
      by_cases h0 : (xy (b.take 508)).all (· == 0) = true
      · rw [if_pos h0, decide_eq_false (fun h1 => h (hiff.2 ⟨h3.1, h3.2.1, h3.2.2, h0, h1⟩))] at this
        exact ⟨_, _, _, _, this⟩
      · rw [if_neg h0] at this
        exact ⟨0, 0, 0, [], this⟩
    · exact ⟨0, 0, 0, [], xget_bad b hl (by omega)⟩
  · exact ⟨0, 0, 0, [], xget_len b hl⟩
end Go.Proofs.Ytpcapijakenjbaa.Vs
