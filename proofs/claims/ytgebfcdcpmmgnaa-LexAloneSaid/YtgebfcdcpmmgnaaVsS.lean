/- What tells less, and numbers that wrap. -/
import Derived.Test.YtgebfcdcpmmgnaaVsQ
import Derived.Test.YtgebfcdcpmmgnaaVsR
set_option linter.unusedVariables false
set_option linter.unusedSimpArgs false
namespace Go.Proofs.Ytgebfcdcpmmgnaa.Vs
open Go.RowKit
theorem Wk.int {k : IntKind} {a b : Int} (h : a = b) : Wk (.d (.int k a)) (.d (.int k b)) := by subst h; exact .rfl
theorem Wk.bool {a b : Bool} (h : a = b) : Wk (.d (.bool a)) (.d (.bool b)) := by subst h; exact .rfl
theorem Wk.str {a b : List UInt8} (h : a = b) : Wk (.d (.str a)) (.d (.str b)) := by subst h; exact .rfl
theorem Wk.sl {q : Nat} {a b : List D} (h : a = b) : Wk (.d (.sl q a)) (.d (.sl q b)) := by subst h; exact .rfl
theorem Wk.row {i j a b c a' b' c' : Nat} (hi : i = j) (ha : a = a') (hb : b = b') (hc : c = c') : Wk (.row i a b c) (.row j a' b' c') := by subst hi; subst ha; subst hb; subst hc; exact .rfl
theorem Wk.ownE {q q' c : Nat} {xs ys : List D} (h : xs = ys) (hq : q = q') : Wk (.own q xs c) (.d (.sl q' ys)) := .own hq h
theorem Wk.owns {q q' c c' : Nat} {xs ys : List D} (hq : q = q') (hc : c = c') (h : xs = ys) : Wk (.own q xs c) (.own q' ys c') := by subst h; subst hq; subst hc; exact .rfl
theorem wrap8 (n : Int) : IntKind.u8.wrap n = n % 256 := by simp [IntKind.wrap, IntKind.bits, IntKind.signed]
theorem wrap16 (n : Int) : IntKind.u16.wrap n = n % 65536 := by simp [IntKind.wrap, IntKind.bits, IntKind.signed]
theorem wrap32 (n : Int) : IntKind.u32.wrap n = n % 4294967296 := by simp [IntKind.wrap, IntKind.bits, IntKind.signed]
theorem wrapI (n : Int) : IntKind.i64.wrap n = (n + 9223372036854775808) % 18446744073709551616 - 9223372036854775808 := by simp [IntKind.wrap, IntKind.bits, IntKind.signed]; omega
theorem wrapU (n : Int) : IntKind.u64.wrap n = n % 18446744073709551616 := by simp [IntKind.wrap, IntKind.bits, IntKind.signed]
@[go_sem] theorem tdiv_cast (n : Nat) (b : Int) : (n : Int).tdiv b = (n : Int) / b := Int.tdiv_eq_ediv_of_nonneg (by omega)
@[go_sem] theorem tmod_cast (n : Nat) (b : Int) : (n : Int).tmod b = (n : Int) % b := Int.tmod_eq_emod_of_nonneg (by omega)
@[go_sem] theorem take_map {α β : Type} (f : α → β) (l : List α) (n : Nat) : (l.map f).take n = (l.take n).map f := List.map_take.symm
@[go_sem] theorem drop_map {α β : Type} (f : α → β) (l : List α) (n : Nat) : (l.map f).drop n = (l.drop n).map f := List.map_drop.symm
@[go_sem] theorem app_map {α β : Type} (f : α → β) (l m : List α) : l.map f ++ m.map f = (l ++ m).map f := List.map_append.symm
@[go_sem] theorem drop_all {α : Type} (l : List α) (n : Nat) : (l.drop n).take (l.length - n) = l.drop n := List.take_of_length_le (by simp)
end Go.Proofs.Ytgebfcdcpmmgnaa.Vs
