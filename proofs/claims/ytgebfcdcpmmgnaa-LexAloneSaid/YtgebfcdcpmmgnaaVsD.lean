/- Operations that only compute: on numbers, texts, bools; against nil. -/
import Derived.Test.YtgebfcdcpmmgnaaVsC
set_option linter.unusedVariables false
set_option linter.unusedSimpArgs false
namespace Go.Proofs.Ytgebfcdcpmmgnaa.Vs
open Go.RowKit
section
variable {P : Program}
/-- Bit by bit. -/
def iAnd (k : IntKind) (a b : Int) : Int := k.wrap (BitVec.ofInt k.bits a &&& BitVec.ofInt k.bits b).toNat
def iOr (k : IntKind) (a b : Int) : Int := k.wrap (BitVec.ofInt k.bits a ||| BitVec.ofInt k.bits b).toNat
def iXor (k : IntKind) (a b : Int) : Int := k.wrap (BitVec.ofInt k.bits a ^^^ BitVec.ofInt k.bits b).toNat
def iAndNot (k : IntKind) (a b : Int) : Int := k.wrap (BitVec.ofInt k.bits a &&& ~~~BitVec.ofInt k.bits b).toNat
def iShl (k : IntKind) (a b : Int) : Int := k.wrap (a * 2 ^ min b.toNat k.bits)
def iShr (k : IntKind) (a b : Int) : Int := a.fdiv (2 ^ min b.toNat k.bits)
def iNot (k : IntKind) (n : Int) : Int := k.wrap (BitVec.ofInt k.bits (if k.signed then -1 else k.max) ^^^ BitVec.ofInt k.bits n).toNat
/-- On whole numbers. -/
def intV (op : BinOp) (k : IntKind) (a : Int) (k' : IntKind) (b : Int) (K : V → Prop) : Prop :=
  match op with
  | .add => k = k' ∧ K (.d (.int k (k.wrap (a + b))))
  | .sub => k = k' ∧ K (.d (.int k (k.wrap (a - b))))
  | .mul => k = k' ∧ K (.d (.int k (k.wrap (a * b))))
  | .quo => k = k' ∧ b ≠ 0 ∧ K (.d (.int k (k.wrap (a.tdiv b))))
  | .rem => k = k' ∧ b ≠ 0 ∧ K (.d (.int k (a.tmod b)))
  | .and => k = k' ∧ K (.d (.int k (iAnd k a b)))
  | .or => k = k' ∧ K (.d (.int k (iOr k a b)))
  | .xor => k = k' ∧ K (.d (.int k (iXor k a b)))
  | .andNot => k = k' ∧ K (.d (.int k (iAndNot k a b)))
  | .shl => 0 ≤ b ∧ K (.d (.int k (iShl k a b)))
  | .shr => 0 ≤ b ∧ K (.d (.int k (iShr k a b)))
  | .eql => k = k' ∧ K (.d (.bool (a == b)))
  | .neq => k = k' ∧ K (.d (.bool (a != b)))
  | .lss => k = k' ∧ K (.d (.bool (decide (a < b))))
  | .leq => k = k' ∧ K (.d (.bool (decide (a ≤ b))))
  | .gtr => k = k' ∧ K (.d (.bool (decide (a > b))))
  | .geq => k = k' ∧ K (.d (.bool (decide (a ≥ b))))
theorem intV_ok {op : BinOp} {k k' : IntKind} {a b : Int} {K : V → Prop} (h : intV op k a k' b K) {t : TypeId} : ∃ v u, (∀ w, (binOp op t (.int k a) (.int k' b)).run P w = .ok u w) ∧ K v ∧ ∀ C, VR C v u := by
  have fin : ∀ {n : Int}, (∀ w, (binOp op t (.int k a) (.int k' b)).run P w = .ok (.int k n) w) → K (.d (.int k n)) → ∃ v u, (∀ w, (binOp op t (.int k a) (.int k' b)).run P w = .ok u w) ∧ K v ∧ ∀ C, VR C v u := fun {n} hr hk =>
    ⟨_, _, hr, hk, fun C => by unfold VR DR; rfl⟩
  have finB : ∀ {n : Bool}, (∀ w, (binOp op t (.int k a) (.int k' b)).run P w = .ok (.bool n) w) → K (.d (.bool n)) → ∃ v u, (∀ w, (binOp op t (.int k a) (.int k' b)).run P w = .ok u w) ∧ K v ∧ ∀ C, VR C v u := fun {n} hr hk =>
    ⟨_, _, hr, hk, fun C => by unfold VR DR; rfl⟩
  cases op <;> simp only [intV] at h
  case add => obtain ⟨rfl, h⟩ := h; exact fin (fun w => by simp [binOp, Op.intArith]) h
  case sub => obtain ⟨rfl, h⟩ := h; exact fin (fun w => by simp [binOp, Op.intArith]) h
  case mul => obtain ⟨rfl, h⟩ := h; exact fin (fun w => by simp [binOp, Op.intArith]) h
  case quo => obtain ⟨rfl, h0, h⟩ := h; exact fin (fun w => by simp [binOp, Op.intDiv, h0]) h
  case rem => obtain ⟨rfl, h0, h⟩ := h; exact fin (fun w => by simp [binOp, Op.intDiv, h0]) h
  case and => obtain ⟨rfl, h⟩ := h; exact fin (fun w => by simp [binOp, Op.intBits, iAnd]) h
  case or => obtain ⟨rfl, h⟩ := h; exact fin (fun w => by simp [binOp, Op.intBits, iOr]) h
  case xor => obtain ⟨rfl, h⟩ := h; exact fin (fun w => by simp [binOp, Op.intBits, iXor]) h
  case andNot => obtain ⟨rfl, h⟩ := h; exact fin (fun w => by simp [binOp, Op.intBits, iAndNot]) h
  case shl =>
    obtain ⟨h0, h⟩ := h
    have h1 : ¬ b < 0 := by omega
    exact fin (fun w => by simp [binOp, Op.shift, h1, iShl]) h
  case shr =>
    obtain ⟨h0, h⟩ := h
    have h1 : ¬ b < 0 := by omega
    exact fin (fun w => by simp [binOp, Op.shift, h1, iShr]) h
  all_goals (obtain ⟨rfl, h⟩ := h; exact finB (fun w => by simp [binOp, Op.intCmp]) h)
theorem ba_toList (s : List UInt8) : (ByteArray.mk s.toArray).toList = s := by
  first | exact ByteArray.toList_mk s | simp
/-- On texts. -/
def strV (op : BinOp) (a b : List UInt8) (K : V → Prop) : Prop :=
  match op with
  | .add => a.length + b.length ≤ 9223372036854775807 ∧ K (.d (.str (a ++ b)))
  | .eql => K (.d (.bool (a == b)))
  | .neq => K (.d (.bool (!(a == b))))
  | .lss => K (.d (.bool (Op.bytesLess a b)))
  | .leq => K (.d (.bool (Op.bytesLess a b || a == b)))
  | .gtr => K (.d (.bool (!(Op.bytesLess a b || a == b))))
  | .geq => K (.d (.bool (!(Op.bytesLess a b))))
  | _ => False
theorem strV_ok {op : BinOp} {a b : List UInt8} {K : V → Prop} (h : strV op a b K) {t : TypeId} : ∃ v u, (∀ w, (binOp op t (.string ⟨a.toArray⟩) (.string ⟨b.toArray⟩)).run P w = .ok u w) ∧ K v ∧ ∀ C, VR C v u := by
  have hl : ∀ s : List UInt8, (ByteArray.mk s.toArray).toList = s := ba_toList
  have fin : ∀ {d : D} {u : Value} (hx : ∀ G, DR G d [u]), (∀ w, (binOp op t (.string ⟨a.toArray⟩) (.string ⟨b.toArray⟩)).run P w = .ok u w) → K (.d d) → ∃ v u, (∀ w, (binOp op t (.string ⟨a.toArray⟩) (.string ⟨b.toArray⟩)).run P w = .ok u w) ∧ K v ∧ ∀ C, VR C v u := fun {d u} hx hr hk =>
    ⟨.d d, u, hr, hk, fun C => by unfold VR; exact hx _⟩
  cases op <;> simp only [strV] at h
  case add =>
    obtain ⟨h0, h⟩ := h
    have h1 : ¬ ((9223372036854775807 : Int) < ((a.length + b.length : Nat) : Int)) := by omega
    have h2 : (ByteArray.mk a.toArray ++ ByteArray.mk b.toArray) = ByteArray.mk (a ++ b).toArray := by
      apply ByteArray.ext
      simp [ByteArray.data_append]
    refine fin (u := .string ⟨(a ++ b).toArray⟩) (fun G => by unfold DR; exact ⟨rfl, by simp [maxLen]; omega⟩) ?_ h
    have h3 : (IntKind.max .i64) = 9223372036854775807 := rfl
    have h4 : (ByteArray.mk a.toArray).size = a.length := by simp [ByteArray.size]
    have h5 : (ByteArray.mk b.toArray).size = b.length := by simp [ByteArray.size]
    intro w
    unfold binOp Op.stringOp
    simp only [h4, h5, h3, gt_iff_lt, h1, if_false, h2]
    rfl
  all_goals first | exact h.elim | exact fin (fun G => by unfold DR; rfl) (fun w => by unfold binOp Op.stringOp; simp only [hl]; rfl) h
end
end Go.Proofs.Ytgebfcdcpmmgnaa.Vs
