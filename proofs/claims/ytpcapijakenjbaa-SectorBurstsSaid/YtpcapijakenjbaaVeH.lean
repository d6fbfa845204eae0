/- crc: bytes that differ in 32 bits that stand together; sectors. -/
import Derived.Test.YtpcapijakenjbaaVeG
set_option linter.unusedVariables false
set_option linter.unusedSimpArgs false
namespace Go.Proofs.Ytpcapijakenjbaa.Vs
open Go.RowKit
theorem half_xor (a b : Nat) : half (a ^^^ b) = half a ^^^ half b := by
  unfold half
  rw [xor_mod_two, Nat.xor_div_two]
  have ha : a % 2 = 0 ∨ a % 2 = 1 := by omega
  have hb : b % 2 = 0 ∨ b % 2 = 1 := by omega
  rcases ha with ha | ha <;> rcases hb with hb | hb <;> simp [ha, hb]
  · rw [Nat.xor_assoc]
  · rw [Nat.xor_assoc, Nat.xor_comm (b / 2), ← Nat.xor_assoc]
  · rw [Nat.xor_assoc (a / 2), ← Nat.xor_assoc 3988292384, Nat.xor_comm 3988292384 (b / 2), Nat.xor_assoc (b / 2), Nat.xor_self, Nat.xor_zero]
theorem halves_xor (j a b : Nat) : halves j (a ^^^ b) = halves j a ^^^ halves j b := by
  induction j with
  | zero => rfl
  | succ j ih => simp only [halves]; rw [ih, half_xor]
theorem xor_zero_eq {a b : Nat} (h : a ^^^ b = 0) : a = b := by
  have h1 : a ^^^ b ^^^ b = 0 ^^^ b := by rw [h]
  rwa [Nat.xor_assoc, Nat.xor_self, Nat.xor_zero, Nat.zero_xor] at h1
theorem half_ne {x : Nat} (h : x < 4294967296) (h0 : x ≠ 0) : half x ≠ 0 := by
  unfold half
  split
  · intro he
    have := xor_zero_eq he
    omega
  · omega
theorem halves_ne {x : Nat} (h : x < 4294967296) (h0 : x ≠ 0) : ∀ j, halves j x ≠ 0
  | 0 => h0
  | j + 1 => half_ne (halves_lt h j) (halves_ne h h0 j)
theorem halves_zero : ∀ j, halves j 0 = 0
  | 0 => rfl
  | j + 1 => by simp only [halves, halves_zero j]; rfl
theorem halves_add (i : Nat) : ∀ j x, halves (j + i) x = halves i (halves j x) := by
  induction i with
  | zero => intro j x; rfl
  | succ i ih => intro j x; rw [← Nat.add_assoc]; simp only [halves]; rw [ih]
theorem come1_halves (r : Nat) (x : UInt8) : come1 r x = halves 8 (r ^^^ x.toNat) := by
  rw [come1_feeds, feeds_halves]
  congr 2
  have := x.toNat_lt
  omega
def xors (xs ys : List UInt8) : List UInt8 := List.zipWith (· ^^^ ·) xs ys
theorem comes_xor : ∀ (xs ys : List UInt8) (r s : Nat), xs.length = ys.length → comes r xs ^^^ comes s ys = comes (r ^^^ s) (xors xs ys)
  | [], [], _, _, _ => rfl
  | x :: xs, y :: ys, r, s, h => by
    have ih := comes_xor xs ys (come1 r x) (come1 s y) (by simpa using h)
    show comes (come1 r x) xs ^^^ comes (come1 s y) ys = comes (come1 (r ^^^ s) (x ^^^ y)) (xors xs ys)
    rw [ih]
    congr 1
    rw [come1_halves, come1_halves, come1_halves, ← halves_xor, UInt8.toNat_xor]
    congr 1
    rw [Nat.xor_assoc, ← Nat.xor_assoc x.toNat, Nat.xor_comm x.toNat s, Nat.xor_assoc s, ← Nat.xor_assoc r]
  | [], _ :: _, _, _, h => by simp at h
  | _ :: _, [], _, _, h => by simp at h
theorem comes_zeros : ∀ (n : Nat) (d : Nat), d < 4294967296 → (d = 0 → comes d (List.replicate n 0) = 0) ∧ (d ≠ 0 → comes d (List.replicate n 0) ≠ 0)
  | 0, d, _ => ⟨fun h => h, fun h => h⟩
  | n + 1, d, hd => by
    have h1 : come1 d 0 = halves 8 d := by rw [come1_halves]; simp
    have ih := comes_zeros n (come1 d 0) (come1_lt hd)
    show (d = 0 → comes (come1 d 0) (List.replicate n 0) = 0) ∧ (d ≠ 0 → comes (come1 d 0) (List.replicate n 0) ≠ 0)
    rw [h1] at ih ⊢
    refine ⟨fun h => ih.1 (by rw [h, halves_zero]), fun h => ih.2 (halves_ne hd h 8)⟩
def mask (p k B n : Nat) : List UInt8 := (List.range n).map fun i => if p ≤ i ∧ i < p + k then UInt8.ofNat (B / 2 ^ (8 * (i - p))) else 0
@[simp] theorem mask_len (p k B n : Nat) : (mask p k B n).length = n := by simp [mask]
def bytesLE (m B : Nat) : List UInt8 := (List.range m).map fun j => UInt8.ofNat (B / 2 ^ (8 * j))
theorem comes_bytesLE (m B : Nat) : comes 0 (bytesLE m B) = feeds (8 * m) 0 B := by
  induction m with
  | zero => rfl
  | succ m ih =>
    unfold bytesLE at ih ⊢
    rw [List.range_succ, List.map_append]
    show comes 0 (_ ++ [_]) = _
    have : ∀ (xs : List UInt8) (x : UInt8), comes 0 (xs ++ [x]) = come1 (comes 0 xs) x := fun xs x => by simp [comes]
    rw [this, ih, come1_feeds]
    have h1 : (UInt8.ofNat (B / 2 ^ (8 * m))).toNat = B / 2 ^ (8 * m) % 2 ^ 8 := by simp
    rw [h1, feeds_mod, Nat.mul_succ, feeds_add]
theorem mask_split (p m q B k : Nat) (hk : m = k ∨ (m ≤ k ∧ q = 0)) : mask p k B (p + m + q) = List.replicate p 0 ++ bytesLE m B ++ List.replicate q 0 := by
  apply List.ext_getElem?
  intro i
  by_cases h1 : i < p
  · rw [List.append_assoc, List.getElem?_append_left (by simpa using h1)]
    simp [mask, h1, show i < p + m + q by omega, show ¬ p ≤ i by omega]
  · by_cases h2 : i < p + m
    · rw [List.append_assoc, List.getElem?_append_right (by simp; omega), List.getElem?_append_left (by simp [bytesLE]; omega)]
      simp [mask, bytesLE, show i < p + m + q by omega, show p ≤ i by omega, show i < p + k by omega, show i - p < m by omega]
    · rw [List.getElem?_append_right (by simp [bytesLE]; omega)]
      by_cases h3 : i < p + m + q
      · simp [mask, bytesLE, h3, show p ≤ i by omega, show ¬ i < p + k by omega, show i - (p + m) < q by omega]
      · rw [List.getElem?_eq_none (by simp; omega), List.getElem?_eq_none (by simp [bytesLE]; omega)]
theorem xors_len (xs ys : List UInt8) (h : xs.length = ys.length) : (xors xs ys).length = xs.length := by simp [xors, h]
theorem xors_self_xors (xs ys : List UInt8) (h : xs.length = ys.length) : xors xs (xors xs ys) = ys := by
  unfold xors
  induction xs generalizing ys with
  | nil => cases ys <;> simp_all
  | cons x xs ih =>
    cases ys with
    | nil => simp at h
    | cons y ys =>
      simp only [List.zipWith_cons_cons]
      rw [ih ys (by simpa using h), ← UInt8.xor_assoc, UInt8.xor_self, UInt8.zero_xor]
/-- What is turned within 32 bits comes to something. -/
theorem burst0 (n p s t : Nat) (hs : s < 8) (ht : t < 4294967296) (h0 : t ≠ 0) (hf : 8 * p + s + 32 ≤ 8 * n) : comes 0 (mask p 5 (t * 2 ^ s) n) ≠ 0 := by
  obtain ⟨m, q, hl, hm, hb⟩ : ∃ m q, n = p + m + q ∧ (m = 5 ∨ (m ≤ 5 ∧ q = 0)) ∧ (m = 5 ∨ (m = 4 ∧ s = 0)) := by
    by_cases h5 : p + 5 ≤ n
    · exact ⟨5, n - p - 5, by omega, .inl rfl, .inl rfl⟩
    · exact ⟨4, 0, by omega, .inr ⟨by omega, rfl⟩, .inr ⟨rfl, by omega⟩⟩
  rw [hl, mask_split p m q _ 5 hm]
  have e1 : ∀ (xs ys : List UInt8) (r : Nat), comes r (xs ++ ys) = comes (comes r xs) ys := fun xs ys r => by simp [comes]
  rw [e1, e1, (comes_zeros p 0 (by omega)).1 rfl, comes_bytesLE]
  have hlt : feeds (8 * m) 0 (t * 2 ^ s) < 4294967296 := feeds_lt (by omega) _
  refine (comes_zeros q _ hlt).2 ?_
  rw [feeds_halves, Nat.zero_xor]
  have hsm : s ≤ 8 * m := by omega
  have hB : t * 2 ^ s < 2 ^ (8 * m) := by
    have h1 : t * 2 ^ s < 2 ^ 32 * 2 ^ s := Nat.mul_lt_mul_of_pos_right ht (Nat.two_pow_pos s)
    rw [← Nat.pow_add] at h1
    exact Nat.lt_of_lt_of_le h1 (Nat.pow_le_pow_right (by omega) (by omega))
  rw [Nat.mod_eq_of_lt hB]
  have h2 : halves (8 * m) (t * 2 ^ s) = halves (8 * m - s) t := by
    rw [show 8 * m = s + (8 * m - s) by omega, halves_add]
    have h3 := halves_even s 0 t
    rw [Nat.zero_xor, halves_zero, Nat.zero_xor] at h3
    rw [Nat.mul_comm t, h3]
    congr 1
    omega
  rw [h2]
  exact halves_ne ht h0 _

/-- One more byte is turned. -/
theorem mask_step (b : List UInt8) (p k B : Nat) (h : p + k < b.length) (x : UInt8) (hx : (xors b (mask p k B b.length))[p + k]? = some x) :
    (xors b (mask p k B b.length)).set (p + k) (x ^^^ UInt8.ofNat (B / 2 ^ (8 * k))) = xors b (mask p (k + 1) B b.length) := by
  apply List.ext_getElem?
  intro i
  unfold xors at hx ⊢
  rw [List.getElem?_set]
  by_cases hi : p + k = i
  · subst hi
    rw [if_pos rfl, if_pos (by simp [h])]
    simp only [List.getElem?_zipWith, mask, List.getElem?_map, List.getElem?_range h, Option.map_some, List.getElem?_eq_getElem h] at hx ⊢
    simp at hx ⊢
    rw [← hx]
  · rw [if_neg hi]
    simp only [List.getElem?_zipWith, mask, List.getElem?_map]
    by_cases h2 : i < b.length
    · simp only [List.getElem?_range h2, Option.map_some, List.getElem?_eq_getElem h2]
      congr 2
      by_cases h3 : p ≤ i ∧ i < p + k
      · rw [if_pos h3, if_pos (by omega)]
      · rw [if_neg h3, if_neg (by omega)]
    · rw [List.getElem?_eq_none (by omega)]
theorem mask_none (p B n : Nat) : mask p 0 B n = List.replicate n 0 := by
  apply List.ext_getElem?
  intro i
  by_cases hi : i < n
  · simp [mask, hi]; omega
  · rw [List.getElem?_eq_none (by simp; omega), List.getElem?_eq_none (by simp; omega)]
theorem xors_none (b : List UInt8) (p B : Nat) : xors b (mask p 0 B b.length) = b := by
  rw [mask_none]
  unfold xors
  induction b with
  | nil => rfl
  | cons x b ih => simp [List.replicate_succ]; exact ih
/-- What lies beyond the bytes isn't turned. -/
theorem mask_end (p k B n : Nat) (hk : k ≤ 5) (h : n ≤ p + k) : mask p k B n = mask p 5 B n := by
  unfold mask
  apply List.map_congr_left
  intro i hi
  have hi := List.mem_range.1 hi
  by_cases h1 : p ≤ i ∧ i < p + k
  · rw [if_pos h1, if_pos (by omega)]
  · rw [if_neg h1]
    split
    · omega
    · rfl
theorem comes_LE (r m B : Nat) : comes r (bytesLE m B) = feeds (8 * m) r B := by
  induction m with
  | zero => rfl
  | succ m ih =>
    unfold bytesLE at ih ⊢
    rw [List.range_succ, List.map_append]
    show comes r (_ ++ [_]) = _
    have : ∀ (xs : List UInt8) (x : UInt8), comes r (xs ++ [x]) = come1 (comes r xs) x := fun xs x => by simp [comes]
    rw [this, ih, come1_feeds]
    have h1 : (UInt8.ofNat (B / 2 ^ (8 * m))).toNat = B / 2 ^ (8 * m) % 2 ^ 8 := by simp
    rw [h1, feeds_mod, Nat.mul_succ, feeds_add]
theorem comes_app (r : Nat) (xs ys : List UInt8) : comes r (xs ++ ys) = comes (comes r xs) ys := by simp [comes]
/-- Bytes with their sum behind come to one thing. -/
theorem comes_sum (xs : List UInt8) : comes 4294967295 (xs ++ le4 (sumOf xs)) = halves 32 4294967295 := by
  have hl := comes_lt (xs := xs) (r := 4294967295) (by decide)
  have h1 : le4 (sumOf xs) = bytesLE 4 (sumOf xs) := by
    simp [le4, bytesLE, List.range_succ]
  rw [comes_app, h1, comes_LE, feeds_halves]
  congr 1
  have h2 : sumOf xs = 4294967295 ^^^ comes 4294967295 xs := by rw [ones_xor hl]; rfl
  have h3 : sumOf xs < 4294967296 := by unfold sumOf; omega
  rw [show 8 * 4 = 32 from rfl, Nat.mod_eq_of_lt h3, h2, Nat.xor_comm 4294967295, ← Nat.xor_assoc, Nat.xor_self, Nat.zero_xor]
theorem not_ok_turned (P : List UInt8) (hP : okB P) (p s t : Nat) (hs : s < 8) (ht : t < 4294967296) (h0 : t ≠ 0) (hf : 8 * p + s + 32 ≤ 4096) : ¬ okB (xors P (mask p 5 (t * 2 ^ s) 512)) := by
  have hl := hP.1
  intro h
  have hc : ∀ b, okB b → comes 4294967295 b = halves 32 4294967295 := fun b hb => by
    have := hb.2.2.2.2
    rw [← this, putB]
    exact comes_sum _
  have h1 := hc _ hP
  have h2 := hc _ h
  have h3 := comes_xor P (xors P (mask p 5 (t * 2 ^ s) 512)) 4294967295 4294967295 (by rw [xors_len _ _ (by simp [hl])])
  rw [h1, h2, Nat.xor_self, Nat.xor_self, xors_self_xors _ _ (by simp [hl])] at h3
  exact burst0 512 p s t hs ht h0 (by omega) h3.symm
end Go.Proofs.Ytpcapijakenjbaa.Vs
