/- lex: tokens, the cutter, what passes. -/
import Derived.Test.YtpcapijakenjbaaInfo
import Derived.Test.YtpcapijakenjbaaCall
import Derived.Test.YtpcapijakenjbaaSli
import Derived.Test.YtpcapijakenjbaaJoin
import Derived.Test.YtpcapijakenjbaaKb
import Derived.Test.YtpcapijakenjbaaSh
set_option linter.unusedVariables false
set_option linter.unusedSimpArgs false
namespace Go.Proofs.Ytpcapijakenjbaa.Lex
open Go.RowKit Go.Proofs.Ytpcapijakenjbaa.Sl
structure TokV where
  kind : Int
  at_ : Int
  n : Int
  text : List UInt8
def tokR : Rep TokV := Rep.iso (Rep.pair (Rep.int .i64) (Rep.pair (Rep.int .i64) (Rep.pair (Rep.int .i64) Rep.byte.slice))) (fun r => (r.kind, r.at_, r.n, r.text))
theorem tok_in {h : Hp} {F : Nat → Prop} {r : TokV} {v : Value} (h1 : IntKind.inR .i64 r.kind) (h2 : IntKind.inR .i64 r.at_) (h3 : IntKind.inR .i64 r.n) (h4 : Rep.byte.slice.K h F r.text [v]) : tokR.K h F r [.int .i64 r.kind, .int .i64 r.at_, .int .i64 r.n, v] :=
  ⟨[_], [_, _, v], rfl, ⟨rfl, h1⟩, [_], [_, v], rfl, ⟨rfl, h2⟩, [_], [v], rfl, ⟨rfl, h3⟩, h4⟩
theorem tok_out {h : Hp} {F : Nat → Prop} {r : TokV} {cs : List Value} (H : tokR.K h F r cs) : ∃ a c, cs = [.int .i64 r.kind, .int .i64 r.at_, .int .i64 r.n, .slice a r.text.length c] ∧ IntKind.inR .i64 r.kind ∧ IntKind.inR .i64 r.at_ ∧ IntKind.inR .i64 r.n ∧ Rep.byte.slice.K h F r.text [.slice a r.text.length c] := by
  obtain ⟨_, _, rfl, ⟨rfl, h1⟩, _, _, rfl, ⟨rfl, h2⟩, _, _, rfl, ⟨rfl, h3⟩, h4⟩ := H
  obtain ⟨a, c, rfl, k⟩ := h4
  exact ⟨a, c, rfl, h1, h2, h3, ⟨a, c, rfl, k⟩⟩
/-- The cutter's cells. -/
def CutC (w : World) (G : Gh) (g : Nat) (l : List As) (a : Option Addr) (c : Nat) (s : List UInt8) (at_ : Nat) (vo : Value) (bad : Bool) (frm : Nat) : Prop :=
  St w G (Cs g [.slice a s.length c, .int .i64 (at_ : Int), vo, .bool bad, .int .i64 (frm : Int)] 115 :: l)
/-- A byte's test, as a function's value is called. -/
structure PredOK (k : Nat) (p : UInt8 → Bool) : Prop where
  enter : ∀ (args : Array Value) (w : World), (callFunc k args).run Try.prog w = .ok (.enter k args) w
  ok : ∀ (c : UInt8) (w : World), Calls Try.prog k #[.int .u8 (c.toNat : Int)] w fun e w' => e = .returned (.bool (p c)) ∧ Below w.heap.size w w'
theorem cmp_u8 (c : UInt8) (n : Nat) (hn : n < 256) : ((c.toNat : Int) = (n : Int)) ↔ c = UInt8.ofNat n := by
  constructor
  · intro h
    apply UInt8.toNat_inj.1
    have : (UInt8.ofNat n).toNat = n := by simp; omega
    omega
  · rintro rfl
    have : (UInt8.ofNat n).toNat = n := by simp; omega
    omega
theorem ret_bool {a b : Bool} (h : a = true ↔ b = true) : Ending.returned (.bool a) = .returned (.bool b) := by rw [Bool.eq_iff_iff.2 h]
def digitB (c : UInt8) : Bool := decide (48 ≤ c.toNat) && decide (c.toNat ≤ 57)
def letterB (c : UInt8) : Bool := decide (97 ≤ c.toNat) && decide (c.toNat ≤ 122)
def blankB (c : UInt8) : Bool := decide (c.toNat = 32) || decide (c.toNat = 9) || decide (c.toNat = 10) || decide (c.toNat = 13)
def wordB (c : UInt8) : Bool := letterB c || digitB c || decide (c.toNat = 95)
def plainB (c : UInt8) : Bool := decide (32 ≤ c.toNat) && decide (c.toNat ≠ 34) && decide (c.toNat ≠ 92)
section
set_option maxHeartbeats 1000000
set_option maxRecDepth 100000
theorem digit_ok : PredOK 89 digitB := by
  refine ⟨fun args w => by go_simp, ?_⟩
  intro c w0
  have S := St.start w0
  unfold digitB
  generalize c.toNat = n
  by_cases h0 : 48 ≤ n
  rotate_left
  · go_enter Try.func89, Try.ntmps89
    go_wp2_with (first | (apply q1; first | refine ld S ?_ | (refine st S ?_; clear S; intro w S) | refine lda S ?_ | (refine sta S ?_; clear S; intro w S) | refine ldr S ?_ | refine ldw ?_ | refine lar S ?_ | refine law ?_ | refine so S ?_ | refine sv S ?_ | refine sk S ?_ | refine sr ?_ | refine ct ?_ | (refine sl ?_; (try simp only [Int.toNat_natCast, Int.toNat_zero, Nat.mul_one])) | (refine slf ?_; (try simp only [Int.toNat_natCast, Int.toNat_zero, Nat.mul_one])) | (refine slt ?_; (try simp only [Int.toNat_natCast, Int.toNat_zero, Nat.mul_one])) | refine ix ?_))
    ((first | apply fin0 rfl | apply fin0n rfl | apply fin1n rfl | apply fin1 rfl | apply fin2 rfl | apply fin3 rfl); (focus (repeat (first | exact ResV.nil | refine ResV.tmp (by rfl) ?_ | refine ResV.cell (by rfl) (load_agg_run tabs S (by rfl) (by (with_reducible repeat' (first | exact Pick.here | apply Pick.there))) (by first | (simp only [List.drop_succ_cons, List.drop_zero, List.take_succ_cons, List.take_zero, List.drop_nil, List.take_nil]; rfl) | rfl) (by first | rfl | (simp; done))) ?_ | refine ResV.cell (by rfl) (load_cell_run tabs S (by rfl) (by (with_reducible repeat' (first | exact Pick.here | apply Pick.there))) (by rfl)) ?_))); (focus rfl))
    exact ⟨ret_bool (by simp [h0] <;> omega), S.below⟩
  go_enter Try.func89, Try.ntmps89
  go_wp2_with (first | (apply q1; first | refine ld S ?_ | (refine st S ?_; clear S; intro w S) | refine lda S ?_ | (refine sta S ?_; clear S; intro w S) | refine ldr S ?_ | refine ldw ?_ | refine lar S ?_ | refine law ?_ | refine so S ?_ | refine sv S ?_ | refine sk S ?_ | refine sr ?_ | refine ct ?_ | (refine sl ?_; (try simp only [Int.toNat_natCast, Int.toNat_zero, Nat.mul_one])) | (refine slf ?_; (try simp only [Int.toNat_natCast, Int.toNat_zero, Nat.mul_one])) | (refine slt ?_; (try simp only [Int.toNat_natCast, Int.toNat_zero, Nat.mul_one])) | refine ix ?_))
  ((first | apply fin0 rfl | apply fin0n rfl | apply fin1n rfl | apply fin1 rfl | apply fin2 rfl | apply fin3 rfl); (focus (repeat (first | exact ResV.nil | refine ResV.tmp (by rfl) ?_ | refine ResV.cell (by rfl) (load_agg_run tabs S (by rfl) (by (with_reducible repeat' (first | exact Pick.here | apply Pick.there))) (by first | (simp only [List.drop_succ_cons, List.drop_zero, List.take_succ_cons, List.take_zero, List.drop_nil, List.take_nil]; rfl) | rfl) (by first | rfl | (simp; done))) ?_ | refine ResV.cell (by rfl) (load_cell_run tabs S (by rfl) (by (with_reducible repeat' (first | exact Pick.here | apply Pick.there))) (by rfl)) ?_))); (focus rfl))
  exact ⟨ret_bool (by simp [h0] <;> omega), S.below⟩
theorem letter_ok : PredOK 87 letterB := by
  refine ⟨fun args w => by go_simp, ?_⟩
  intro c w0
  have S := St.start w0
  unfold letterB
  generalize c.toNat = n
  by_cases h0 : 97 ≤ n
  rotate_left
  · go_enter Try.func87, Try.ntmps87
    go_wp2_with (first | (apply q1; first | refine ld S ?_ | (refine st S ?_; clear S; intro w S) | refine lda S ?_ | (refine sta S ?_; clear S; intro w S) | refine ldr S ?_ | refine ldw ?_ | refine lar S ?_ | refine law ?_ | refine so S ?_ | refine sv S ?_ | refine sk S ?_ | refine sr ?_ | refine ct ?_ | (refine sl ?_; (try simp only [Int.toNat_natCast, Int.toNat_zero, Nat.mul_one])) | (refine slf ?_; (try simp only [Int.toNat_natCast, Int.toNat_zero, Nat.mul_one])) | (refine slt ?_; (try simp only [Int.toNat_natCast, Int.toNat_zero, Nat.mul_one])) | refine ix ?_))
    ((first | apply fin0 rfl | apply fin0n rfl | apply fin1n rfl | apply fin1 rfl | apply fin2 rfl | apply fin3 rfl); (focus (repeat (first | exact ResV.nil | refine ResV.tmp (by rfl) ?_ | refine ResV.cell (by rfl) (load_agg_run tabs S (by rfl) (by (with_reducible repeat' (first | exact Pick.here | apply Pick.there))) (by first | (simp only [List.drop_succ_cons, List.drop_zero, List.take_succ_cons, List.take_zero, List.drop_nil, List.take_nil]; rfl) | rfl) (by first | rfl | (simp; done))) ?_ | refine ResV.cell (by rfl) (load_cell_run tabs S (by rfl) (by (with_reducible repeat' (first | exact Pick.here | apply Pick.there))) (by rfl)) ?_))); (focus rfl))
    exact ⟨ret_bool (by simp [h0] <;> omega), S.below⟩
  go_enter Try.func87, Try.ntmps87
  go_wp2_with (first | (apply q1; first | refine ld S ?_ | (refine st S ?_; clear S; intro w S) | refine lda S ?_ | (refine sta S ?_; clear S; intro w S) | refine ldr S ?_ | refine ldw ?_ | refine lar S ?_ | refine law ?_ | refine so S ?_ | refine sv S ?_ | refine sk S ?_ | refine sr ?_ | refine ct ?_ | (refine sl ?_; (try simp only [Int.toNat_natCast, Int.toNat_zero, Nat.mul_one])) | (refine slf ?_; (try simp only [Int.toNat_natCast, Int.toNat_zero, Nat.mul_one])) | (refine slt ?_; (try simp only [Int.toNat_natCast, Int.toNat_zero, Nat.mul_one])) | refine ix ?_))
  ((first | apply fin0 rfl | apply fin0n rfl | apply fin1n rfl | apply fin1 rfl | apply fin2 rfl | apply fin3 rfl); (focus (repeat (first | exact ResV.nil | refine ResV.tmp (by rfl) ?_ | refine ResV.cell (by rfl) (load_agg_run tabs S (by rfl) (by (with_reducible repeat' (first | exact Pick.here | apply Pick.there))) (by first | (simp only [List.drop_succ_cons, List.drop_zero, List.take_succ_cons, List.take_zero, List.drop_nil, List.take_nil]; rfl) | rfl) (by first | rfl | (simp; done))) ?_ | refine ResV.cell (by rfl) (load_cell_run tabs S (by rfl) (by (with_reducible repeat' (first | exact Pick.here | apply Pick.there))) (by rfl)) ?_))); (focus rfl))
  exact ⟨ret_bool (by simp [h0] <;> omega), S.below⟩
theorem blank_ok : PredOK 85 blankB := by
  refine ⟨fun args w => by go_simp, ?_⟩
  intro c w0
  have S := St.start w0
  unfold blankB
  generalize c.toNat = n
  by_cases h0 : n = 32
  · go_enter Try.func85, Try.ntmps85
    go_wp2_with (first | (apply q1; first | refine ld S ?_ | (refine st S ?_; clear S; intro w S) | refine lda S ?_ | (refine sta S ?_; clear S; intro w S) | refine ldr S ?_ | refine ldw ?_ | refine lar S ?_ | refine law ?_ | refine so S ?_ | refine sv S ?_ | refine sk S ?_ | refine sr ?_ | refine ct ?_ | (refine sl ?_; (try simp only [Int.toNat_natCast, Int.toNat_zero, Nat.mul_one])) | (refine slf ?_; (try simp only [Int.toNat_natCast, Int.toNat_zero, Nat.mul_one])) | (refine slt ?_; (try simp only [Int.toNat_natCast, Int.toNat_zero, Nat.mul_one])) | refine ix ?_))
    ((first | apply fin0 rfl | apply fin0n rfl | apply fin1n rfl | apply fin1 rfl | apply fin2 rfl | apply fin3 rfl); (focus (repeat (first | exact ResV.nil | refine ResV.tmp (by rfl) ?_ | refine ResV.cell (by rfl) (load_agg_run tabs S (by rfl) (by (with_reducible repeat' (first | exact Pick.here | apply Pick.there))) (by first | (simp only [List.drop_succ_cons, List.drop_zero, List.take_succ_cons, List.take_zero, List.drop_nil, List.take_nil]; rfl) | rfl) (by first | rfl | (simp; done))) ?_ | refine ResV.cell (by rfl) (load_cell_run tabs S (by rfl) (by (with_reducible repeat' (first | exact Pick.here | apply Pick.there))) (by rfl)) ?_))); (focus rfl))
    exact ⟨ret_bool (by simp [h0] <;> omega), S.below⟩
  by_cases h1 : n = 9
  · go_enter Try.func85, Try.ntmps85
    go_wp2_with (first | (apply q1; first | refine ld S ?_ | (refine st S ?_; clear S; intro w S) | refine lda S ?_ | (refine sta S ?_; clear S; intro w S) | refine ldr S ?_ | refine ldw ?_ | refine lar S ?_ | refine law ?_ | refine so S ?_ | refine sv S ?_ | refine sk S ?_ | refine sr ?_ | refine ct ?_ | (refine sl ?_; (try simp only [Int.toNat_natCast, Int.toNat_zero, Nat.mul_one])) | (refine slf ?_; (try simp only [Int.toNat_natCast, Int.toNat_zero, Nat.mul_one])) | (refine slt ?_; (try simp only [Int.toNat_natCast, Int.toNat_zero, Nat.mul_one])) | refine ix ?_))
    ((first | apply fin0 rfl | apply fin0n rfl | apply fin1n rfl | apply fin1 rfl | apply fin2 rfl | apply fin3 rfl); (focus (repeat (first | exact ResV.nil | refine ResV.tmp (by rfl) ?_ | refine ResV.cell (by rfl) (load_agg_run tabs S (by rfl) (by (with_reducible repeat' (first | exact Pick.here | apply Pick.there))) (by first | (simp only [List.drop_succ_cons, List.drop_zero, List.take_succ_cons, List.take_zero, List.drop_nil, List.take_nil]; rfl) | rfl) (by first | rfl | (simp; done))) ?_ | refine ResV.cell (by rfl) (load_cell_run tabs S (by rfl) (by (with_reducible repeat' (first | exact Pick.here | apply Pick.there))) (by rfl)) ?_))); (focus rfl))
    exact ⟨ret_bool (by simp [h0, h1] <;> omega), S.below⟩
  by_cases h2 : n = 10
  · go_enter Try.func85, Try.ntmps85
    go_wp2_with (first | (apply q1; first | refine ld S ?_ | (refine st S ?_; clear S; intro w S) | refine lda S ?_ | (refine sta S ?_; clear S; intro w S) | refine ldr S ?_ | refine ldw ?_ | refine lar S ?_ | refine law ?_ | refine so S ?_ | refine sv S ?_ | refine sk S ?_ | refine sr ?_ | refine ct ?_ | (refine sl ?_; (try simp only [Int.toNat_natCast, Int.toNat_zero, Nat.mul_one])) | (refine slf ?_; (try simp only [Int.toNat_natCast, Int.toNat_zero, Nat.mul_one])) | (refine slt ?_; (try simp only [Int.toNat_natCast, Int.toNat_zero, Nat.mul_one])) | refine ix ?_))
    ((first | apply fin0 rfl | apply fin0n rfl | apply fin1n rfl | apply fin1 rfl | apply fin2 rfl | apply fin3 rfl); (focus (repeat (first | exact ResV.nil | refine ResV.tmp (by rfl) ?_ | refine ResV.cell (by rfl) (load_agg_run tabs S (by rfl) (by (with_reducible repeat' (first | exact Pick.here | apply Pick.there))) (by first | (simp only [List.drop_succ_cons, List.drop_zero, List.take_succ_cons, List.take_zero, List.drop_nil, List.take_nil]; rfl) | rfl) (by first | rfl | (simp; done))) ?_ | refine ResV.cell (by rfl) (load_cell_run tabs S (by rfl) (by (with_reducible repeat' (first | exact Pick.here | apply Pick.there))) (by rfl)) ?_))); (focus rfl))
    exact ⟨ret_bool (by simp [h0, h1, h2] <;> omega), S.below⟩
  go_enter Try.func85, Try.ntmps85
  go_wp2_with (first | (apply q1; first | refine ld S ?_ | (refine st S ?_; clear S; intro w S) | refine lda S ?_ | (refine sta S ?_; clear S; intro w S) | refine ldr S ?_ | refine ldw ?_ | refine lar S ?_ | refine law ?_ | refine so S ?_ | refine sv S ?_ | refine sk S ?_ | refine sr ?_ | refine ct ?_ | (refine sl ?_; (try simp only [Int.toNat_natCast, Int.toNat_zero, Nat.mul_one])) | (refine slf ?_; (try simp only [Int.toNat_natCast, Int.toNat_zero, Nat.mul_one])) | (refine slt ?_; (try simp only [Int.toNat_natCast, Int.toNat_zero, Nat.mul_one])) | refine ix ?_))
  ((first | apply fin0 rfl | apply fin0n rfl | apply fin1n rfl | apply fin1 rfl | apply fin2 rfl | apply fin3 rfl); (focus (repeat (first | exact ResV.nil | refine ResV.tmp (by rfl) ?_ | refine ResV.cell (by rfl) (load_agg_run tabs S (by rfl) (by (with_reducible repeat' (first | exact Pick.here | apply Pick.there))) (by first | (simp only [List.drop_succ_cons, List.drop_zero, List.take_succ_cons, List.take_zero, List.drop_nil, List.take_nil]; rfl) | rfl) (by first | rfl | (simp; done))) ?_ | refine ResV.cell (by rfl) (load_cell_run tabs S (by rfl) (by (with_reducible repeat' (first | exact Pick.here | apply Pick.there))) (by rfl)) ?_))); (focus rfl))
  exact ⟨ret_bool (by simp [h0, h1, h2] <;> omega), S.below⟩
theorem plain_ok : PredOK 116 plainB := by
  refine ⟨fun args w => by go_simp, ?_⟩
  intro c w0
  have S := St.start w0
  unfold plainB
  generalize c.toNat = n
  by_cases h0 : 32 ≤ n
  rotate_left
  · go_enter Try.func116, Try.ntmps116
    go_wp2_with (first | (apply q1; first | refine ld S ?_ | (refine st S ?_; clear S; intro w S) | refine lda S ?_ | (refine sta S ?_; clear S; intro w S) | refine ldr S ?_ | refine ldw ?_ | refine lar S ?_ | refine law ?_ | refine so S ?_ | refine sv S ?_ | refine sk S ?_ | refine sr ?_ | refine ct ?_ | (refine sl ?_; (try simp only [Int.toNat_natCast, Int.toNat_zero, Nat.mul_one])) | (refine slf ?_; (try simp only [Int.toNat_natCast, Int.toNat_zero, Nat.mul_one])) | (refine slt ?_; (try simp only [Int.toNat_natCast, Int.toNat_zero, Nat.mul_one])) | refine ix ?_))
    ((first | apply fin0 rfl | apply fin0n rfl | apply fin1n rfl | apply fin1 rfl | apply fin2 rfl | apply fin3 rfl); (focus (repeat (first | exact ResV.nil | refine ResV.tmp (by rfl) ?_ | refine ResV.cell (by rfl) (load_agg_run tabs S (by rfl) (by (with_reducible repeat' (first | exact Pick.here | apply Pick.there))) (by first | (simp only [List.drop_succ_cons, List.drop_zero, List.take_succ_cons, List.take_zero, List.drop_nil, List.take_nil]; rfl) | rfl) (by first | rfl | (simp; done))) ?_ | refine ResV.cell (by rfl) (load_cell_run tabs S (by rfl) (by (with_reducible repeat' (first | exact Pick.here | apply Pick.there))) (by rfl)) ?_))); (focus rfl))
    exact ⟨ret_bool (by simp [h0] <;> omega), S.below⟩
  by_cases h1 : n ≠ 34
  rotate_left
  · go_enter Try.func116, Try.ntmps116
    go_wp2_with (first | (apply q1; first | refine ld S ?_ | (refine st S ?_; clear S; intro w S) | refine lda S ?_ | (refine sta S ?_; clear S; intro w S) | refine ldr S ?_ | refine ldw ?_ | refine lar S ?_ | refine law ?_ | refine so S ?_ | refine sv S ?_ | refine sk S ?_ | refine sr ?_ | refine ct ?_ | (refine sl ?_; (try simp only [Int.toNat_natCast, Int.toNat_zero, Nat.mul_one])) | (refine slf ?_; (try simp only [Int.toNat_natCast, Int.toNat_zero, Nat.mul_one])) | (refine slt ?_; (try simp only [Int.toNat_natCast, Int.toNat_zero, Nat.mul_one])) | refine ix ?_))
    ((first | apply fin0 rfl | apply fin0n rfl | apply fin1n rfl | apply fin1 rfl | apply fin2 rfl | apply fin3 rfl); (focus (repeat (first | exact ResV.nil | refine ResV.tmp (by rfl) ?_ | refine ResV.cell (by rfl) (load_agg_run tabs S (by rfl) (by (with_reducible repeat' (first | exact Pick.here | apply Pick.there))) (by first | (simp only [List.drop_succ_cons, List.drop_zero, List.take_succ_cons, List.take_zero, List.drop_nil, List.take_nil]; rfl) | rfl) (by first | rfl | (simp; done))) ?_ | refine ResV.cell (by rfl) (load_cell_run tabs S (by rfl) (by (with_reducible repeat' (first | exact Pick.here | apply Pick.there))) (by rfl)) ?_))); (focus rfl))
    exact ⟨ret_bool (by simp [h0, h1] <;> omega), S.below⟩
  go_enter Try.func116, Try.ntmps116
  go_wp2_with (first | (apply q1; first | refine ld S ?_ | (refine st S ?_; clear S; intro w S) | refine lda S ?_ | (refine sta S ?_; clear S; intro w S) | refine ldr S ?_ | refine ldw ?_ | refine lar S ?_ | refine law ?_ | refine so S ?_ | refine sv S ?_ | refine sk S ?_ | refine sr ?_ | refine ct ?_ | (refine sl ?_; (try simp only [Int.toNat_natCast, Int.toNat_zero, Nat.mul_one])) | (refine slf ?_; (try simp only [Int.toNat_natCast, Int.toNat_zero, Nat.mul_one])) | (refine slt ?_; (try simp only [Int.toNat_natCast, Int.toNat_zero, Nat.mul_one])) | refine ix ?_))
  ((first | apply fin0 rfl | apply fin0n rfl | apply fin1n rfl | apply fin1 rfl | apply fin2 rfl | apply fin3 rfl); (focus (repeat (first | exact ResV.nil | refine ResV.tmp (by rfl) ?_ | refine ResV.cell (by rfl) (load_agg_run tabs S (by rfl) (by (with_reducible repeat' (first | exact Pick.here | apply Pick.there))) (by first | (simp only [List.drop_succ_cons, List.drop_zero, List.take_succ_cons, List.take_zero, List.drop_nil, List.take_nil]; rfl) | rfl) (by first | rfl | (simp; done))) ?_ | refine ResV.cell (by rfl) (load_cell_run tabs S (by rfl) (by (with_reducible repeat' (first | exact Pick.here | apply Pick.there))) (by rfl)) ?_))); (focus rfl))
  exact ⟨ret_bool (by simp [h0, h1] <;> omega), S.below⟩
theorem line_ok : PredOK 86 (fun c => decide (c.toNat ≠ 10)) := by
  refine ⟨fun args w => by go_simp, ?_⟩
  intro c w0
  have S := St.start w0
  try dsimp only
  generalize c.toNat = n
  go_enter Try.func86, Try.ntmps86
  go_wp2_with (first | (apply q1; first | refine ld S ?_ | (refine st S ?_; clear S; intro w S) | refine lda S ?_ | (refine sta S ?_; clear S; intro w S) | refine ldr S ?_ | refine ldw ?_ | refine lar S ?_ | refine law ?_ | refine so S ?_ | refine sv S ?_ | refine sk S ?_ | refine sr ?_ | refine ct ?_ | (refine sl ?_; (try simp only [Int.toNat_natCast, Int.toNat_zero, Nat.mul_one])) | (refine slf ?_; (try simp only [Int.toNat_natCast, Int.toNat_zero, Nat.mul_one])) | (refine slt ?_; (try simp only [Int.toNat_natCast, Int.toNat_zero, Nat.mul_one])) | refine ix ?_))
  ((first | apply fin0 rfl | apply fin0n rfl | apply fin1n rfl | apply fin1 rfl | apply fin2 rfl | apply fin3 rfl); (focus (repeat (first | exact ResV.nil | refine ResV.tmp (by rfl) ?_ | refine ResV.cell (by rfl) (load_agg_run tabs S (by rfl) (by (with_reducible repeat' (first | exact Pick.here | apply Pick.there))) (by first | (simp only [List.drop_succ_cons, List.drop_zero, List.take_succ_cons, List.take_zero, List.drop_nil, List.take_nil]; rfl) | rfl) (by first | rfl | (simp; done))) ?_ | refine ResV.cell (by rfl) (load_cell_run tabs S (by rfl) (by (with_reducible repeat' (first | exact Pick.here | apply Pick.there))) (by rfl)) ?_))); (focus rfl))
  exact ⟨ret_bool (by simp <;> omega), S.below⟩
theorem quote_ok : PredOK 117 (fun c => decide (c.toNat = 34)) := by
  refine ⟨fun args w => by go_simp, ?_⟩
  intro c w0
  have S := St.start w0
  try dsimp only
  generalize c.toNat = n
  go_enter Try.func117, Try.ntmps117
  go_wp2_with (first | (apply q1; first | refine ld S ?_ | (refine st S ?_; clear S; intro w S) | refine lda S ?_ | (refine sta S ?_; clear S; intro w S) | refine ldr S ?_ | refine ldw ?_ | refine lar S ?_ | refine law ?_ | refine so S ?_ | refine sv S ?_ | refine sk S ?_ | refine sr ?_ | refine ct ?_ | (refine sl ?_; (try simp only [Int.toNat_natCast, Int.toNat_zero, Nat.mul_one])) | (refine slf ?_; (try simp only [Int.toNat_natCast, Int.toNat_zero, Nat.mul_one])) | (refine slt ?_; (try simp only [Int.toNat_natCast, Int.toNat_zero, Nat.mul_one])) | refine ix ?_))
  ((first | apply fin0 rfl | apply fin0n rfl | apply fin1n rfl | apply fin1 rfl | apply fin2 rfl | apply fin3 rfl); (focus (repeat (first | exact ResV.nil | refine ResV.tmp (by rfl) ?_ | refine ResV.cell (by rfl) (load_agg_run tabs S (by rfl) (by (with_reducible repeat' (first | exact Pick.here | apply Pick.there))) (by first | (simp only [List.drop_succ_cons, List.drop_zero, List.take_succ_cons, List.take_zero, List.drop_nil, List.take_nil]; rfl) | rfl) (by first | rfl | (simp; done))) ?_ | refine ResV.cell (by rfl) (load_cell_run tabs S (by rfl) (by (with_reducible repeat' (first | exact Pick.here | apply Pick.there))) (by rfl)) ?_))); (focus rfl))
  exact ⟨ret_bool (by simp <;> omega), S.below⟩
theorem slash_ok : PredOK 118 (fun c => decide (c.toNat = 92)) := by
  refine ⟨fun args w => by go_simp, ?_⟩
  intro c w0
  have S := St.start w0
  try dsimp only
  generalize c.toNat = n
  go_enter Try.func118, Try.ntmps118
  go_wp2_with (first | (apply q1; first | refine ld S ?_ | (refine st S ?_; clear S; intro w S) | refine lda S ?_ | (refine sta S ?_; clear S; intro w S) | refine ldr S ?_ | refine ldw ?_ | refine lar S ?_ | refine law ?_ | refine so S ?_ | refine sv S ?_ | refine sk S ?_ | refine sr ?_ | refine ct ?_ | (refine sl ?_; (try simp only [Int.toNat_natCast, Int.toNat_zero, Nat.mul_one])) | (refine slf ?_; (try simp only [Int.toNat_natCast, Int.toNat_zero, Nat.mul_one])) | (refine slt ?_; (try simp only [Int.toNat_natCast, Int.toNat_zero, Nat.mul_one])) | refine ix ?_))
  ((first | apply fin0 rfl | apply fin0n rfl | apply fin1n rfl | apply fin1 rfl | apply fin2 rfl | apply fin3 rfl); (focus (repeat (first | exact ResV.nil | refine ResV.tmp (by rfl) ?_ | refine ResV.cell (by rfl) (load_agg_run tabs S (by rfl) (by (with_reducible repeat' (first | exact Pick.here | apply Pick.there))) (by first | (simp only [List.drop_succ_cons, List.drop_zero, List.take_succ_cons, List.take_zero, List.drop_nil, List.take_nil]; rfl) | rfl) (by first | rfl | (simp; done))) ?_ | refine ResV.cell (by rfl) (load_cell_run tabs S (by rfl) (by (with_reducible repeat' (first | exact Pick.here | apply Pick.there))) (by rfl)) ?_))); (focus rfl))
  exact ⟨ret_bool (by simp <;> omega), S.below⟩
theorem sign_ok : PredOK 119 (fun c => decide (32 ≤ c.toNat)) := by
  refine ⟨fun args w => by go_simp, ?_⟩
  intro c w0
  have S := St.start w0
  try dsimp only
  generalize c.toNat = n
  go_enter Try.func119, Try.ntmps119
  go_wp2_with (first | (apply q1; first | refine ld S ?_ | (refine st S ?_; clear S; intro w S) | refine lda S ?_ | (refine sta S ?_; clear S; intro w S) | refine ldr S ?_ | refine ldw ?_ | refine lar S ?_ | refine law ?_ | refine so S ?_ | refine sv S ?_ | refine sk S ?_ | refine sr ?_ | refine ct ?_ | (refine sl ?_; (try simp only [Int.toNat_natCast, Int.toNat_zero, Nat.mul_one])) | (refine slf ?_; (try simp only [Int.toNat_natCast, Int.toNat_zero, Nat.mul_one])) | (refine slt ?_; (try simp only [Int.toNat_natCast, Int.toNat_zero, Nat.mul_one])) | refine ix ?_))
  ((first | apply fin0 rfl | apply fin0n rfl | apply fin1n rfl | apply fin1 rfl | apply fin2 rfl | apply fin3 rfl); (focus (repeat (first | exact ResV.nil | refine ResV.tmp (by rfl) ?_ | refine ResV.cell (by rfl) (load_agg_run tabs S (by rfl) (by (with_reducible repeat' (first | exact Pick.here | apply Pick.there))) (by first | (simp only [List.drop_succ_cons, List.drop_zero, List.take_succ_cons, List.take_zero, List.drop_nil, List.take_nil]; rfl) | rfl) (by first | rfl | (simp; done))) ?_ | refine ResV.cell (by rfl) (load_cell_run tabs S (by rfl) (by (with_reducible repeat' (first | exact Pick.here | apply Pick.there))) (by rfl)) ?_))); (focus rfl))
  exact ⟨ret_bool (by simp <;> omega), S.below⟩
theorem word_ok : PredOK 114 wordB := by
  refine ⟨fun args w => by go_simp, ?_⟩
  intro c w0
  have S := St.start w0
  have hl := Hd.mk (letter_ok.ok c)
  have hd := Hd.mk (digit_ok.ok c)
  unfold wordB
  generalize letterB c = bl at *
  generalize digitB c = bd at *
  generalize c.toNat = n at *
  cases bl <;> cases bd
  all_goals
    go_enter Try.func114, Try.ntmps114
    have tk0 : True := trivial
    have tk1 : True := trivial
    go_wp2_with (first | (have _t := tk0; clear _t tk0; go_at_call 87; refine (hl.out _).mono ?_; rintro e w ⟨rfl, hb⟩; replace S := S.kept hb; clear hb) | (have _t := tk1; clear _t tk1; go_at_call 89; refine (hd.out _).mono ?_; rintro e w ⟨rfl, hb⟩; replace S := S.kept hb; clear hb) | (apply q1; first | refine ld S ?_ | (refine st S ?_; clear S; intro w S) | refine lda S ?_ | (refine sta S ?_; clear S; intro w S) | refine ldr S ?_ | refine ldw ?_ | refine lar S ?_ | refine law ?_ | refine so S ?_ | refine sv S ?_ | refine sk S ?_ | refine sr ?_ | refine ct ?_ | (refine sl ?_; (try simp only [Int.toNat_natCast, Int.toNat_zero, Nat.mul_one])) | (refine slf ?_; (try simp only [Int.toNat_natCast, Int.toNat_zero, Nat.mul_one])) | (refine slt ?_; (try simp only [Int.toNat_natCast, Int.toNat_zero, Nat.mul_one])) | refine ix ?_))
    ((first | apply fin0 rfl | apply fin0n rfl | apply fin1n rfl | apply fin1 rfl | apply fin2 rfl | apply fin3 rfl); (focus (repeat (first | exact ResV.nil | refine ResV.tmp (by rfl) ?_ | refine ResV.cell (by rfl) (load_agg_run tabs S (by rfl) (by (with_reducible repeat' (first | exact Pick.here | apply Pick.there))) (by first | (simp only [List.drop_succ_cons, List.drop_zero, List.take_succ_cons, List.take_zero, List.drop_nil, List.take_nil]; rfl) | rfl) (by first | rfl | (simp; done))) ?_ | refine ResV.cell (by rfl) (load_cell_run tabs S (by rfl) (by (with_reducible repeat' (first | exact Pick.here | apply Pick.there))) (by rfl)) ?_))); (focus rfl))
    exact ⟨ret_bool (by simp <;> omega), S.below⟩
end
end Go.Proofs.Ytpcapijakenjbaa.Lex
