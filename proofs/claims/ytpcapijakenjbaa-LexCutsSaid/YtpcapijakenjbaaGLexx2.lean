/- Go functions as Lean functions, and that the calls come to just these: written by gprint.py. -/
import Derived.Test.YtpcapijakenjbaaGLexx0
import Derived.Test.YtpcapijakenjbaaGLexx1
namespace Go.Proofs.Ytpcapijakenjbaa.GLex
open Go.RowKit Go.Proofs.YtpcapijakenjbaaW.PrintWords Go.Proofs.YtpcapijakenjbaaW.PrintLast Go.Proofs.YtpcapijakenjbaaW.PrintMore
attribute [local go_sem] max2_int min2_int max_two min_two max_three min_three max_four min_four   -- for this text's walks alone
set_option linter.unusedVariables false
set_option linter.unusedSimpArgs false

/-! ### davitref11_One: function 56 -/
mutual
def davitref11_One.j0 : Nat → List Int → Int → Int → Int → Bool → Option (Int × Int × Int × List Int × Int × Int)
  | 0, _, _, _, _, _ => none
  | k + 1, x0, x1, x7, x11, x38 => if x38 = true then (davitref11_One.l0 k x0 x1 x11) else (davitref11_One.l1 k x0 x1 x7 x11 0)
def davitref11_One.l0 : Nat → List Int → Int → Int → Option (Int × Int × Int × List Int × Int × Int)
  | 0, _, _, _ => none
  | k + 1, x0, x1, x11 => if x11 < (x0.length : Int) then (if 0 ≤ x11 then ((davitref11_within.f (rd x0 x11)).bind fun t130 => (if t130 = true then (davitref11_One.l0 k x0 x1 (wrap64 (x11 + 1))) else (if (wrap64 (x11 - x1)) > 20 then (some (0, 0, 0, ([] : List Int), x11, x1)) else (if 0 ≤ x1 then (if x1 ≤ x11 then (if x11 ≤ (x0.length : Int) then (some (1, x1, 0, ((x0.take (x11 : Int).toNat).drop (x1 : Int).toNat), x11, (-1))) else (none)) else (none)) else (none))))) else (none)) else (if (wrap64 (x11 - x1)) > 20 then (some (0, 0, 0, ([] : List Int), x11, x1)) else (if 0 ≤ x1 then (if x1 ≤ x11 then (if x11 ≤ (x0.length : Int) then (some (1, x1, 0, ((x0.take (x11 : Int).toNat).drop (x1 : Int).toNat), x11, (-1))) else (none)) else (none)) else (none)))
def davitref11_One.l1 : Nat → List Int → Int → Int → Int → Int → Option (Int × Int × Int × List Int × Int × Int)
  | 0, _, _, _, _, _ => none
  | k + 1, x0, x1, x7, x11, x12 => if x11 < (x0.length : Int) then (if 0 ≤ x11 then (if (rd x0 x11) ≥ 48 then (davitref11_One.j3 k x0 x1 x7 x11 x12 (decide ((rd x0 x11) ≤ 57))) else (davitref11_One.j3 k x0 x1 x7 x11 x12 false)) else (none)) else (davitref11_One.j3 k x0 x1 x7 x11 x12 false)
def davitref11_One.j3 : Nat → List Int → Int → Int → Int → Int → Bool → Option (Int × Int × Int × List Int × Int × Int)
  | 0, _, _, _, _, _, _ => none
  | k + 1, x0, x1, x7, x11, x12, x83 => if x83 = true then (if x12 < 100000 then (if 0 ≤ x11 then (if x11 < (x0.length : Int) then (davitref11_One.l1 k x0 x1 x7 (wrap64 (x11 + 1)) (wrap64 ((wrap64 ((wrap64 (10 * x12)) + (wrap64 (rd x0 x11)))) - 48))) else (none)) else (none)) else (davitref11_One.l1 k x0 x1 x7 (wrap64 (x11 + 1)) x12)) else (if x11 = x1 then (some (0, 0, 0, ([] : List Int), x11, x1)) else (if (wrap64 (x11 - x1)) > 4 then (some (0, 0, 0, ([] : List Int), x11, x1)) else (if (wrap64 (x11 - x1)) > 1 then (if x7 = 48 then (some (0, 0, 0, ([] : List Int), x11, x1)) else (some (2, x1, x12, ([] : List Int), x11, (-1)))) else (some (2, x1, x12, ([] : List Int), x11, (-1))))))
end
def davitref11_One.f (k : Nat) (l0 : List Int) (a1 : Int) : Option (Int × Int × Int × List Int × Int × Int) := if 0 ≤ a1 then (if a1 < (l0.length : Int) then (if (rd l0 a1) = 34 then ((davitref11_Text.f k l0 (wrap64 (a1 + 1))).bind fun bt124 => (some (3, a1, 0, bt124.1, bt124.2.1, bt124.2.2))) else (if (rd l0 a1) ≥ 97 then (davitref11_One.j0 k l0 a1 (rd l0 a1) a1 (decide ((rd l0 a1) ≤ 122))) else (davitref11_One.j0 k l0 a1 (rd l0 a1) a1 false))) else (none)) else (none)
theorem davitref11_One.mono_l : ∀ k, (∀ y0 y1 y2 y3 y4, LeO (davitref11_One.j0 k y0 y1 y2 y3 y4) (davitref11_One.j0 (k + 1) y0 y1 y2 y3 y4)) ∧ (∀ y0 y1 y2, LeO (davitref11_One.l0 k y0 y1 y2) (davitref11_One.l0 (k + 1) y0 y1 y2)) ∧ (∀ y0 y1 y2 y3 y4, LeO (davitref11_One.l1 k y0 y1 y2 y3 y4) (davitref11_One.l1 (k + 1) y0 y1 y2 y3 y4)) ∧ (∀ y0 y1 y2 y3 y4 y5, LeO (davitref11_One.j3 k y0 y1 y2 y3 y4 y5) (davitref11_One.j3 (k + 1) y0 y1 y2 y3 y4 y5))
  | 0 => ⟨fun _ _ _ _ _ r h => by simp [davitref11_One.j0] at h, fun _ _ _ r h => by simp [davitref11_One.l0] at h, fun _ _ _ _ _ r h => by simp [davitref11_One.l1] at h, fun _ _ _ _ _ _ r h => by simp [davitref11_One.j3] at h⟩
  | k + 1 => by
    obtain ⟨ih0, ih1, ih2, ih3⟩ := davitref11_One.mono_l k
    refine ⟨?_, ?_, ?_, ?_⟩
    · intro y0 y1 y2 y3 y4
      unfold davitref11_One.j0
      repeat' first
      | (with_reducible exact ih0 _ _ _ _ _)
      | (with_reducible exact ih1 _ _ _)
      | (with_reducible exact ih2 _ _ _ _ _)
      | (with_reducible exact ih3 _ _ _ _ _ _)
      | (with_reducible exact davitref11_Text.mono _ _ _)
      | (with_reducible exact LeO.refl _)
      | (with_reducible exact LeO.none _)
      | (with_reducible refine LeO.ite ?_ ?_)
      | (with_reducible refine LeO.bind ?_ (fun _ => ?_))
      | exact ih0 _ _ _ _ _
      | exact ih1 _ _ _
      | exact ih2 _ _ _ _ _
      | exact ih3 _ _ _ _ _ _
      | exact davitref11_Text.mono _ _ _
      | exact LeO.none _
      | refine LeO.ite ?_ ?_
      | refine LeO.bind ?_ (fun _ => ?_)
    · intro y0 y1 y2
      unfold davitref11_One.l0
      repeat' first
      | (with_reducible exact ih0 _ _ _ _ _)
      | (with_reducible exact ih1 _ _ _)
      | (with_reducible exact ih2 _ _ _ _ _)
      | (with_reducible exact ih3 _ _ _ _ _ _)
      | (with_reducible exact davitref11_Text.mono _ _ _)
      | (with_reducible exact LeO.refl _)
      | (with_reducible exact LeO.none _)
      | (with_reducible refine LeO.ite ?_ ?_)
      | (with_reducible refine LeO.bind ?_ (fun _ => ?_))
      | exact ih0 _ _ _ _ _
      | exact ih1 _ _ _
      | exact ih2 _ _ _ _ _
      | exact ih3 _ _ _ _ _ _
      | exact davitref11_Text.mono _ _ _
      | exact LeO.none _
      | refine LeO.ite ?_ ?_
      | refine LeO.bind ?_ (fun _ => ?_)
    · intro y0 y1 y2 y3 y4
      unfold davitref11_One.l1
      repeat' first
      | (with_reducible exact ih0 _ _ _ _ _)
      | (with_reducible exact ih1 _ _ _)
      | (with_reducible exact ih2 _ _ _ _ _)
      | (with_reducible exact ih3 _ _ _ _ _ _)
      | (with_reducible exact davitref11_Text.mono _ _ _)
      | (with_reducible exact LeO.refl _)
      | (with_reducible exact LeO.none _)
      | (with_reducible refine LeO.ite ?_ ?_)
      | (with_reducible refine LeO.bind ?_ (fun _ => ?_))
      | exact ih0 _ _ _ _ _
      | exact ih1 _ _ _
      | exact ih2 _ _ _ _ _
      | exact ih3 _ _ _ _ _ _
      | exact davitref11_Text.mono _ _ _
      | exact LeO.none _
      | refine LeO.ite ?_ ?_
      | refine LeO.bind ?_ (fun _ => ?_)
    · intro y0 y1 y2 y3 y4 y5
      unfold davitref11_One.j3
      repeat' first
      | (with_reducible exact ih0 _ _ _ _ _)
      | (with_reducible exact ih1 _ _ _)
      | (with_reducible exact ih2 _ _ _ _ _)
      | (with_reducible exact ih3 _ _ _ _ _ _)
      | (with_reducible exact davitref11_Text.mono _ _ _)
      | (with_reducible exact LeO.refl _)
      | (with_reducible exact LeO.none _)
      | (with_reducible refine LeO.ite ?_ ?_)
      | (with_reducible refine LeO.bind ?_ (fun _ => ?_))
      | exact ih0 _ _ _ _ _
      | exact ih1 _ _ _
      | exact ih2 _ _ _ _ _
      | exact ih3 _ _ _ _ _ _
      | exact davitref11_Text.mono _ _ _
      | exact LeO.none _
      | refine LeO.ite ?_ ?_
      | refine LeO.bind ?_ (fun _ => ?_)
theorem davitref11_One.mono : ∀ a0 a1 k, LeO (davitref11_One.f k a0 a1) (davitref11_One.f (k + 1) a0 a1) := by
  intro a0 a1 k
  obtain ⟨ih0, ih1, ih2, ih3⟩ := davitref11_One.mono_l k
  unfold davitref11_One.f
  repeat' first
      | (with_reducible exact ih0 _ _ _ _ _)
      | (with_reducible exact ih1 _ _ _)
      | (with_reducible exact ih2 _ _ _ _ _)
      | (with_reducible exact ih3 _ _ _ _ _ _)
      | (with_reducible exact davitref11_Text.mono _ _ _)
      | (with_reducible exact LeO.refl _)
      | (with_reducible exact LeO.none _)
      | (with_reducible refine LeO.ite ?_ ?_)
      | (with_reducible refine LeO.bind ?_ (fun _ => ?_))
      | exact ih0 _ _ _ _ _
      | exact ih1 _ _ _
      | exact ih2 _ _ _ _ _
      | exact ih3 _ _ _ _ _ _
      | exact davitref11_Text.mono _ _ _
      | exact LeO.none _
      | refine LeO.ite ?_ ?_
      | refine LeO.bind ?_ (fun _ => ?_)
set_option maxHeartbeats 8000000 in
set_option maxRecDepth 100000 in
theorem davitref11_One.calls (k : Nat) (P0_ : Nat → Prop) (A0 : Option Addr) (c0 : Nat) (l0 : List Int) (a1 : Int) (r1 : Int) (r2 : Int) (r3 : Int) (r4 : List Int) (r5 : Int) (r6 : Int) (w : World) (hs0 : Kd.V (Kd.int .u8) 5 w w.heap.size (fun k_ => P0_ k_) (.slice A0 l0.length c0) l0) (h : davitref11_One.f k l0 a1 = some (r1, r2, r3, r4, r5, r6)) :
    Calls Try.prog 56 #[.slice A0 l0.length c0, .int .i64 a1] w fun e w' => ∃ v3_ : Value, e = .returned (.tuple #[.agg #[.int .i64 r1, .int .i64 r2, .int .i64 r3, v3_], .int .i64 r5, .int .i64 r6]) ∧ Kd.V (Kd.int .u8) 5 w' w.heap.size (fun k_ => (P0_ k_ ∨ w.heap.size ≤ k_)) v3_ r4 ∧ Below w.heap.size w w' := by
  have hu119 := Try.underlying119
  have HO0 := Aside0.mk (show Kd.V (Kd.int .u8) 5 w w.heap.size (fun k_ => (P0_ k_ ∨ w.heap.size ≤ k_)) (.slice A0 l0.length c0) l0 from Kd.V_mono hs0 (fun k_ hk => .inl hk))
  have HB := Aside0.mk (Below.refl w.heap.size w)
  have H : (if 0 ≤ a1 then (if a1 < (l0.length : Int) then (if (rd l0 a1) = 34 then ((davitref11_Text.f k l0 (wrap64 (a1 + 1))).bind fun bt124 => (some (3, a1, 0, bt124.1, bt124.2.1, bt124.2.2))) else (if (rd l0 a1) ≥ 97 then (davitref11_One.j0 k l0 a1 (rd l0 a1) a1 (decide ((rd l0 a1) ≤ 122))) else (davitref11_One.j0 k l0 a1 (rd l0 a1) a1 false))) else (none)) else (none)) = some (r1, r2, r3, r4, r5, r6) := h
  clear h
  by_cases c3 : 0 ≤ a1
  · rw [if_pos c3] at H
    have c3b0 : decide (0 ≤ a1) = true := decide_eq_true c3
    clear c3
    by_cases c4 : a1 < (l0.length : Int)
    · rw [if_pos c4] at H
      have c4b0 : decide (a1 < (l0.length : Int)) = true := decide_eq_true c4
      clear c4
      by_cases c5 : (rd l0 a1) = 34
      · rw [if_pos c5] at H
        have c5b0 : ((rd l0 a1) == 34) = true := beq_iff_eq.mpr c5
        have c5b1 : ((rd l0 a1) != 34) = false := bne_eq_false_iff_eq.mpr c5
        clear c5
        replace H := Option.bind_eq_some_iff.mp H
        obtain ⟨⟨t124, t125, t126⟩, A60, H⟩ := H
        replace H : (some (3, a1, 0, t124, t125, t126)) = some (r1, r2, r3, r4, r5, r6) := H
        have A6 := Aside0.mk A60
        clear A60
        simp only [Option.some.injEq, Prod.mk.injEq] at H
        obtain ⟨rfl, rfl, rfl, rfl, rfl, rfl⟩ := H
        go_enter Try.func56, Try.ntmps56
        go_wp2_with (first | ((with_reducible refine gate_dst (N := 4) rfl ?_); refine box_event ?hg (N := 4) ?hd (cs := #[.int .i64 0, .int .i64 0, .int .i64 0, .slice none 0 0]) (t := 119) ?hr ?_; (case hd => rfl); (case hg => rfl); (case hr => first | (go_simp; done) | (go_simp; rfl)); intro gb122 hg w7 hbox hb; have n0_ := Aside0.mk (Kd.V_below (Kd.V_elderB (by (with_reducible repeat (first | apply Kd.V_alloc | apply Kd.V_drewN | apply Kd.V_drew)); exact HO0.out) gb122 (Nat.le_of_eq hg.symm)) hb); have n1_ := Aside0.mk (below_step (by repeat (first | (with_reducible first | exact HB.out | apply below_alloc | apply pw_below_drewN | apply below_drew1) | exact HB.out)) hb); have n2_ := Aside0.mk (hbox); have n3_ := Aside0.mk ((by rw [hg]; exact (below_size (by repeat (first | (with_reducible first | exact HB.out | apply below_alloc | apply pw_below_drewN | apply below_drew1) | exact HB.out))) : w.heap.size ≤ gb122)); have n4_ := Aside0.mk ((by rw [hg]; exact (below_size (by repeat (first | (with_reducible first | exact HB.out | apply below_alloc | apply pw_below_drewN | apply below_drew1) | exact HB.out))) : w.heap.size ≤ gb122)); clear HO0; clear HB; have HO0 := n0_; have HB := n1_; have BK122 := n2_; have GW122 := n3_; have GE122 := n4_; clear n0_ n1_ n2_ n3_ n4_; clear hb hbox hg; have p123 : 0 ≤ (a1 : Int) := of_decide_eq_true (by first | (with_reducible assumption) | assumption); have q123 : a1 < (l0.length : Int) := of_decide_eq_true (by first | (with_reducible assumption) | assumption); obtain ⟨ad123, e123, hx123_0⟩ := Kd.at_int (Kd.V_reads' HO0.out).2.2 a1 p123 q123; cases e123; replace p123 := eq_true p123; replace q123 := eq_true q123) | ((with_reducible refine gate_callee (f := 94) rfl ?_); refine goesL_ (some 23) rfl rfl Try.func94 (by kernel_rfl) rfl #[.slice (some ad123) l0.length c0, .int .i64 (wrap64 (a1 + 1))] rfl (by (try simp only [List.map_toArray, List.map_cons, List.map_nil]); first | done | rfl | (simp only [List.length_drop, List.length_take]; rfl)) ?_; (with_reducible refine (davitref11_Text.calls k _ _ l0 (wrap64 (a1 + 1)) t124 t125 t126 _ ?side1 ?side2 A6.out).mono ?_); (case side1 => repeat (first | exact (Kd.V_reads' HO0.out).2.2 | (with_reducible refine Kd.C_alloc ?_ _) | (with_reducible refine Kd.C_drewN ?_ _) | (with_reducible refine Kd.C_drew ?_))); (case side2 => exact (Kd.V_reads' HO0.out).2.1); rintro e w8 ⟨v127, rfl, ho0, hb⟩; refine ⟨_, rfl, ?_⟩; have n0_ := Aside0.mk (Kd.V_elder' (by (with_reducible repeat (first | apply Kd.V_alloc | apply Kd.V_drewN | apply Kd.V_drew)); exact HO0.out) (Kd.R_base ho0) hb); have n1_ := Aside0.mk (Kd.R_lower (Kd.R_newM (M := fun k_ => (w.heap.size ≤ k_)) ho0 (below_size (by repeat (first | (with_reducible first | exact HB.out | apply below_alloc | apply pw_below_drewN | apply below_drew1 | refine below_set ?_ GE122.out) | exact HB.out))) (fun k_ h_ => h_)) (below_size (by repeat (first | (with_reducible first | exact HB.out | apply below_alloc | apply pw_below_drewN | apply below_drew1 | refine below_set ?_ GE122.out) | exact HB.out)))); have n2_ := Aside0.mk (blk_below (g := gb122) (o := .cells #[.int .i64 0, .int .i64 0, .int .i64 0, .slice none 0 0] 119 (0, 0)) (by (with_reducible repeat (first | refine blk_drewN ?_ _ | refine blk_drew ?_ | refine blk_alloc ?_ _)); exact BK122.out) hb); have n3_ := Aside0.mk (below_step (by repeat (first | (with_reducible first | exact HB.out | apply below_alloc | apply pw_below_drewN | apply below_drew1 | refine below_set ?_ GE122.out) | exact HB.out)) hb); clear HO0; clear BK122; clear HB; have HO0 := n0_; have HO128 := n1_; have BK122 := n2_; have HB := n3_; clear n0_ n1_ n2_ n3_; (try clear hb); (try clear hb2); (try clear hk); (try clear hi); (try clear ho0); obtain ⟨Ao9, co9, eo9⟩ := Kd.R_slice HO128.out; subst eo9; have hcz10_0 : w8.cell? ⟨gb122, 0, none⟩ = some (.int .i64 0) := (blk_cell BK122.out 0).trans rfl; have hcz10_1 : w8.cell? ⟨gb122, 1, none⟩ = some (.int .i64 0) := (blk_cell BK122.out 1).trans rfl; have hcz10_2 : w8.cell? ⟨gb122, 2, none⟩ = some (.int .i64 0) := (blk_cell BK122.out 2).trans rfl; have hcz10_3 : w8.cell? ⟨gb122, 3, none⟩ = some (.slice none 0 0) := (blk_cell BK122.out 3).trans rfl; have hfz10_0 := blk_frozen BK122.out 0; have hfz10_1 := blk_frozen BK122.out 1; have hfz10_2 := blk_frozen BK122.out 2; have hfz10_3 := blk_frozen BK122.out 3))
        refine bodyPost_ret (results_ctt rfl _ _ gb122 119 #[.int .i64 3, .int .i64 a1, .int .i64 0, .slice Ao9 t124.length co9] (0, 0) _ rfl (by (with_reducible repeat (first | refine blk_drewN ?_ _ | refine blk_drew ?_ | refine blk_alloc ?_ _)); refine blk_put (cs := #[.int .i64 3, .int .i64 a1, .int .i64 0, .slice none 0 0]) ?_ 3 _ rfl; (with_reducible repeat (first | refine blk_drewN ?_ _ | refine blk_drew ?_ | refine blk_alloc ?_ _)); refine blk_put (cs := #[.int .i64 3, .int .i64 a1, .int .i64 0, .slice none 0 0]) ?_ 2 _ rfl; (with_reducible repeat (first | refine blk_drewN ?_ _ | refine blk_drew ?_ | refine blk_alloc ?_ _)); refine blk_put (cs := #[.int .i64 3, .int .i64 0, .int .i64 0, .slice none 0 0]) ?_ 1 _ rfl; (with_reducible repeat (first | refine blk_drewN ?_ _ | refine blk_drew ?_ | refine blk_alloc ?_ _)); refine blk_put (cs := #[.int .i64 0, .int .i64 0, .int .i64 0, .slice none 0 0]) ?_ 0 _ rfl; (with_reducible repeat (first | refine blk_drewN ?_ _ | refine blk_drew ?_ | refine blk_alloc ?_ _)); exact BK122.out) Try.underlying119 rfl (by kernel_rfl)) rfl ?_
        exact ⟨_, by first | rfl | (simp [errW_none, errW_some] <;> rfl) | (simp [*, errW_none, errW_some] <;> rfl), Kd.V_mono (Kd.R_V (by (with_reducible repeat (first | apply Kd.R_alloc | apply Kd.R_drewN | apply Kd.R_drew)); exact Kd.R_mono (Kd.R_far (p := ⟨gb122, 3, none⟩) (Kd.R_far (p := ⟨gb122, 2, none⟩) (Kd.R_far (p := ⟨gb122, 1, none⟩) (Kd.R_far (p := ⟨gb122, 0, none⟩) (Kd.R_types HO128.out BK122.out (by decide)) (fun _ hk => hk.2) (.int .i64 3)) (fun _ hk => hk.2) (.int .i64 a1)) (fun _ hk => hk.2) (.int .i64 0)) (fun _ hk => hk.2) (.slice Ao9 t124.length co9)) (fun _ hk => hk.1.1))) (fun k_ hk => by first | exact ⟨(.inr (hk.1)), hk.2⟩ | exact (.inr (hk))), by repeat (first | (with_reducible first | exact HB.out | apply below_alloc | apply pw_below_drewN | apply below_drew1 | refine below_set ?_ GE122.out) | exact HB.out)⟩
      · rw [if_neg c5] at H
        have c5b0 : ((rd l0 a1) == 34) = false := beq_eq_false_iff_ne.mpr c5
        have c5b1 : ((rd l0 a1) != 34) = true := bne_iff_ne.mpr c5
        have HC11 := Aside0.mk H
        clear H
        go_enter Try.func56, Try.ntmps56
        go_upto_region 6 with (first | ((with_reducible refine gate_dst (N := 4) rfl ?_); refine box_event ?hg (N := 4) ?hd (cs := #[.int .i64 0, .int .i64 0, .int .i64 0, .slice none 0 0]) (t := 119) ?hr ?_; (case hd => rfl); (case hg => rfl); (case hr => first | (go_simp; done) | (go_simp; rfl)); intro gb122 hg w12 hbox hb; have n0_ := Aside0.mk (Kd.V_below (Kd.V_elderB (by (with_reducible repeat (first | apply Kd.V_alloc | apply Kd.V_drewN | apply Kd.V_drew)); exact HO0.out) gb122 (Nat.le_of_eq hg.symm)) hb); have n1_ := Aside0.mk (below_step (by repeat (first | (with_reducible first | exact HB.out | apply below_alloc | apply pw_below_drewN | apply below_drew1) | exact HB.out)) hb); have n2_ := Aside0.mk (hbox); have n3_ := Aside0.mk ((by rw [hg]; exact (below_size (by repeat (first | (with_reducible first | exact HB.out | apply below_alloc | apply pw_below_drewN | apply below_drew1) | exact HB.out))) : w.heap.size ≤ gb122)); have n4_ := Aside0.mk ((by rw [hg]; exact (below_size (by repeat (first | (with_reducible first | exact HB.out | apply below_alloc | apply pw_below_drewN | apply below_drew1) | exact HB.out))) : w.heap.size ≤ gb122)); clear HO0; clear HB; have HO0 := n0_; have HB := n1_; have BK122 := n2_; have GW122 := n3_; have GE122 := n4_; clear n0_ n1_ n2_ n3_ n4_; clear hb hbox hg; have p123 : 0 ≤ (a1 : Int) := of_decide_eq_true (by first | (with_reducible assumption) | assumption); have q123 : a1 < (l0.length : Int) := of_decide_eq_true (by first | (with_reducible assumption) | assumption); obtain ⟨ad123, e123, hx123_0⟩ := Kd.at_int (Kd.V_reads' HO0.out).2.2 a1 p123 q123; cases e123; replace p123 := eq_true p123; replace q123 := eq_true q123))
        (try simp only [Act.put, List.setIfInBounds_toArray, List.set_cons_zero, List.set_cons_succ])
        go_cut [38] (fun v38 wc => ∃ (kq : Nat) (x38_10 : Bool), v38 = .bool x38_10 ∧ Aside0 (davitref11_One.j0 kq l0 a1 (rd l0 a1) a1 x38_10 = some (r1, r2, r3, r4, r5, r6)) ∧ Aside0 (kq ≤ k) ∧ Aside0 (Kd.V (Kd.int .u8) 5 wc w.heap.size (fun k_ => (P0_ k_ ∨ w.heap.size ≤ k_) ∧ k_ ≠ gb122) (.slice (some ad123) l0.length c0) l0) ∧ Aside0 (wc.heap[gb122]? = some (.cells #[.int .i64 0, .int .i64 0, .int .i64 0, (.slice none 0 0)] 119 (0, 0))) ∧ Aside0 (Below w.heap.size w wc))
        case first =>
          have H := HC11.out
          clear HC11
          by_cases c13 : (rd l0 a1) ≥ 97
          · rw [if_pos c13] at H
            have c13b0 : decide (97 ≤ (rd l0 a1)) = true := decide_eq_true c13
            clear c13
            (first | rw [c13b0] | (simp only [i64_w, i32_w]; rw [c13b0]) | skip)
            have H' := Aside0.mk H
            clear H
            go_wp2
            go_meet
            case rel => exact ⟨_, (decide ((rd l0 a1) ≤ 122)), (by first | rfl | (simp; done) | (simp [*]; done)), H', ⟨by first | omega | exact Nat.le_refl _⟩, ⟨by (with_reducible repeat (first | apply Kd.V_alloc | apply Kd.V_drewN | apply Kd.V_drew)); exact HO0.out⟩, ⟨by (with_reducible repeat (first | refine blk_drewN ?_ _ | refine blk_drew ?_ | refine blk_alloc ?_ _)); exact BK122.out⟩, ⟨by repeat (first | (with_reducible first | exact HB.out | apply below_alloc | apply pw_below_drewN | apply below_drew1 | refine below_set ?_ GE122.out) | exact HB.out)⟩⟩
          · rw [if_neg c13] at H
            have c13b0 : decide (97 ≤ (rd l0 a1)) = false := decide_eq_false c13
            clear c13
            (first | rw [c13b0] | (simp only [i64_w, i32_w]; rw [c13b0]) | skip)
            have H' := Aside0.mk H
            clear H
            go_wp2
            go_meet
            case rel => exact ⟨_, (false), (by first | rfl | (simp; done) | (simp [*]; done)), H', ⟨by first | omega | exact Nat.le_refl _⟩, ⟨by (with_reducible repeat (first | apply Kd.V_alloc | apply Kd.V_drewN | apply Kd.V_drew)); exact HO0.out⟩, ⟨by (with_reducible repeat (first | refine blk_drewN ?_ _ | refine blk_drew ?_ | refine blk_alloc ?_ _)); exact BK122.out⟩, ⟨by repeat (first | (with_reducible first | exact HB.out | apply below_alloc | apply pw_below_drewN | apply below_drew1 | refine below_set ?_ GE122.out) | exact HB.out)⟩⟩
        case rest =>
          clear HC11
          try clear c1
          try clear p1
          try clear q1
          try clear hx1
          try clear p2
          try clear c3
          try clear c3b0
          try clear c4
          try clear c4b0
          try clear c5
          try clear c5b0
          try clear c5b1
          try clear p6
          try clear c9
          try clear p12
          try clear q12
          try clear hx12
          try clear c13
          try clear c13b0
          try clear hcz10_0
          try clear hcz10_1
          try clear hcz10_2
          try clear hcz10_3
          try clear hfz10_0
          try clear hfz10_1
          try clear hfz10_2
          try clear hfz10_3
          try clear hx123_0
          try clear p123
          try clear q123
          obtain ⟨kq, x38_10, rfl, HA, HJ10, HO_0, BK122, HB⟩ := hcut
          cases kq with
          | zero => exact absurd HA.out (by simp [davitref11_One.j0])
          | succ kj10 =>
            have H := HA.out
            clear HA
            simp only [davitref11_One.j0] at H
            by_cases c14 : x38_10 = true
            · subst c14
              have H1 : (davitref11_One.l0 kj10 l0 a1 a1) = some (r1, r2, r3, r4, r5, r6) := by rw [if_pos rfl] at H; exact H
              clear H
              have H := H1
              clear H1
              have H' := Aside0.mk H
              clear H
              go_wp2
              go_loopg [11] kj10 (fun kq v11 w' => ∃ (x11_2 : Int), v11 = .int .i64 x11_2 ∧ Aside0 (davitref11_One.l0 kq l0 a1 x11_2 = some (r1, r2, r3, r4, r5, r6)) ∧ Aside0 (kq ≤ kj10) ∧ Aside0 (Kd.V (Kd.int .u8) 5 w' w.heap.size (fun k_ => (P0_ k_ ∨ w.heap.size ≤ k_) ∧ k_ ≠ gb122) (.slice (some ad123) l0.length c0) l0) ∧ Aside0 (w'.heap[gb122]? = some (.cells #[.int .i64 0, .int .i64 0, .int .i64 0, (.slice none 0 0)] 119 (0, 0))) ∧ Aside0 (Below w.heap.size w w'))
              case atStart => exact ⟨(a1), (by first | rfl | (simp; done) | (simp [*]; done)), H', ⟨Nat.le_refl _⟩, ⟨by (with_reducible repeat (first | apply Kd.V_alloc | apply Kd.V_drewN | apply Kd.V_drew)); exact HO_0.out⟩, ⟨by (with_reducible repeat (first | refine blk_drewN ?_ _ | refine blk_drew ?_ | refine blk_alloc ?_ _)); exact BK122.out⟩, ⟨by repeat (first | (with_reducible first | exact HB.out | apply below_alloc | apply pw_below_drewN | apply below_drew1 | refine below_set ?_ GE122.out) | exact HB.out)⟩⟩
              case round =>
                clear H'
                try clear c1
                try clear p1
                try clear q1
                try clear hx1
                try clear p2
                try clear c3
                try clear c3b0
                try clear c4
                try clear c4b0
                try clear c5
                try clear c5b0
                try clear c5b1
                try clear p6
                try clear c9
                try clear p12
                try clear q12
                try clear hx12
                try clear c13
                try clear c13b0
                try clear c14
                try clear hcz10_0
                try clear hcz10_1
                try clear hcz10_2
                try clear hcz10_3
                try clear hfz10_0
                try clear hfz10_1
                try clear hfz10_2
                try clear hfz10_3
                try clear hx123_0
                try clear p1
                try clear p12
                try clear p123
                try clear p2
                try clear p6
                try clear q1
                try clear q12
                try clear q123
                obtain ⟨x11_2, rfl, HA, HK2, HO_0, BK122, HB⟩ := hrel
                cases gk with
                | zero => exact absurd HA.out (by simp [davitref11_One.l0])
                | succ k2 =>
                  have H := HA.out
                  clear HA
                  simp only [davitref11_One.l0] at H
                  by_cases c15 : x11_2 < (l0.length : Int)
                  · rw [if_pos c15] at H
                    have c15b0 : decide (x11_2 < (l0.length : Int)) = true := decide_eq_true c15
                    clear c15
                    by_cases c16 : 0 ≤ x11_2
                    · rw [if_pos c16] at H
                      have c16b0 : decide (0 ≤ x11_2) = true := decide_eq_true c16
                      clear c16
                      replace H := Option.bind_eq_some_iff.mp H
                      obtain ⟨t130, A170, H⟩ := H
                      replace H : (if t130 = true then (davitref11_One.l0 k2 l0 a1 (wrap64 (x11_2 + 1))) else (if (wrap64 (x11_2 - a1)) > 20 then (some (0, 0, 0, ([] : List Int), x11_2, a1)) else (if 0 ≤ a1 then (if a1 ≤ x11_2 then (if x11_2 ≤ (l0.length : Int) then (some (1, a1, 0, ((l0.take (x11_2 : Int).toNat).drop (a1 : Int).toNat), x11_2, (-1))) else (none)) else (none)) else (none)))) = some (r1, r2, r3, r4, r5, r6) := H
                      have A17 := Aside0.mk A170
                      clear A170
                      by_cases c18 : t130 = true
                      · subst c18
                        have H1 : (davitref11_One.l0 k2 l0 a1 (wrap64 (x11_2 + 1))) = some (r1, r2, r3, r4, r5, r6) := by rw [if_pos rfl] at H; exact H
                        clear H
                        have H := H1
                        clear H1
                        have H' := Aside0.mk H
                        clear H
                        have p129 : 0 ≤ (x11_2 : Int) := of_decide_eq_true (by first | (with_reducible assumption) | assumption)
                        have q129 : x11_2 < (l0.length : Int) := of_decide_eq_true (by first | (with_reducible assumption) | assumption)
                        obtain ⟨ad129, e129, hx129_0⟩ := Kd.at_int (Kd.V_reads' HO_0.out).2.2 x11_2 p129 q129
                        obtain rfl : ad123 = ad129 := (by injection e129)
                        replace p129 := eq_true p129
                        replace q129 := eq_true q129
                        go_wp2_with (first | (go_at_call 95; (with_reducible refine (davitref11_within.calls (rd l0 x11_2) true _ A17.out).mono ?_); rintro e w' ⟨rfl, ⟨nd, rfl⟩⟩))
                        go_roundg k2
                        case measure => have := HJ10.out; have := HK2.out; omega
                        case rel => exact ⟨(wrap64 (x11_2 + 1)), (by first | rfl | (simp; done) | (simp [*]; done)), H', ⟨by have := HJ10.out; have := HK2.out; omega⟩, ⟨by (with_reducible repeat (first | apply Kd.V_alloc | apply Kd.V_drewN | apply Kd.V_drew)); exact HO_0.out⟩, ⟨by (with_reducible repeat (first | refine blk_drewN ?_ _ | refine blk_drew ?_ | refine blk_alloc ?_ _)); exact BK122.out⟩, ⟨by repeat (first | (with_reducible first | exact HB.out | apply below_alloc | apply pw_below_drewN | apply below_drew1 | refine below_set ?_ GE122.out) | exact HB.out)⟩⟩
                      · replace c18 := Bool.eq_false_iff.mpr c18
                        subst c18
                        have H1 : (if (wrap64 (x11_2 - a1)) > 20 then (some (0, 0, 0, ([] : List Int), x11_2, a1)) else (if 0 ≤ a1 then (if a1 ≤ x11_2 then (if x11_2 ≤ (l0.length : Int) then (some (1, a1, 0, ((l0.take (x11_2 : Int).toNat).drop (a1 : Int).toNat), x11_2, (-1))) else (none)) else (none)) else (none))) = some (r1, r2, r3, r4, r5, r6) := by rw [if_neg (show ¬ (false = true) by decide)] at H; exact H
                        clear H
                        have H := H1
                        clear H1
                        by_cases c19 : (wrap64 (x11_2 - a1)) > 20
                        · rw [if_pos c19] at H
                          have c19b0 : decide (20 < (wrap64 (x11_2 - a1))) = true := decide_eq_true c19
                          clear c19
                          simp only [Option.some.injEq, Prod.mk.injEq] at H
                          obtain ⟨rfl, rfl, rfl, rfl, rfl, rfl⟩ := H
                          have p129 : 0 ≤ (x11_2 : Int) := of_decide_eq_true (by first | (with_reducible assumption) | assumption)
                          have q129 : x11_2 < (l0.length : Int) := of_decide_eq_true (by first | (with_reducible assumption) | assumption)
                          obtain ⟨ad129, e129, hx129_0⟩ := Kd.at_int (Kd.V_reads' HO_0.out).2.2 x11_2 p129 q129
                          obtain rfl : ad123 = ad129 := (by injection e129)
                          replace p129 := eq_true p129
                          replace q129 := eq_true q129
                          go_wp2_with (first | (go_at_call 95; (with_reducible refine (davitref11_within.calls (rd l0 x11_2) false _ A17.out).mono ?_); rintro e w' ⟨rfl, ⟨nd, rfl⟩⟩; (try (rw [drewN_self wr]; generalize hq_ : World.drewN wr _ = wr; have n0_ : Aside0 (Kd.V (Kd.int .u8) 5 wr w.heap.size (fun k_ => (P0_ k_ ∨ w.heap.size ≤ k_) ∧ k_ ≠ gb122) (.slice (some ad123) l0.length c0) l0) := ⟨by rw [← hq_]; exact (by (with_reducible repeat (first | apply Kd.V_alloc | apply Kd.V_drewN | apply Kd.V_drew)); exact HO_0.out)⟩; have n1_ : Aside0 (wr.heap[gb122]? = some (.cells #[.int .i64 0, .int .i64 0, .int .i64 0, .slice none 0 0] 119 (0, 0))) := ⟨by rw [← hq_]; exact (by (with_reducible repeat (first | refine blk_drewN ?_ _ | refine blk_drew ?_ | refine blk_alloc ?_ _)); exact BK122.out)⟩; have n2_ : Aside0 (Below w.heap.size w wr) := ⟨by rw [← hq_]; exact (by repeat (first | (with_reducible first | exact HB.out | apply below_alloc | apply pw_below_drewN | apply below_drew1 | refine below_set ?_ GE122.out) | exact HB.out))⟩; clear HO_0 BK122 HB hq_; have HO_0 := n0_; have BK122 := n1_; have HB := n2_; clear n0_ n1_ n2_)); have hcz20_0 : wr.cell? ⟨gb122, 0, none⟩ = some (.int .i64 0) := (blk_cell BK122.out 0).trans rfl; have hcz20_1 : wr.cell? ⟨gb122, 1, none⟩ = some (.int .i64 0) := (blk_cell BK122.out 1).trans rfl; have hcz20_2 : wr.cell? ⟨gb122, 2, none⟩ = some (.int .i64 0) := (blk_cell BK122.out 2).trans rfl; have hcz20_3 : wr.cell? ⟨gb122, 3, none⟩ = some (.slice none 0 0) := (blk_cell BK122.out 3).trans rfl; have hfz20_0 := blk_frozen BK122.out 0; have hfz20_1 := blk_frozen BK122.out 1; have hfz20_2 := blk_frozen BK122.out 2; have hfz20_3 := blk_frozen BK122.out 3))
                          refine bodyPost_ret (results_ctt rfl _ _ gb122 119 #[.int .i64 0, .int .i64 0, .int .i64 0, .slice none 0 0] (0, 0) _ rfl (by (with_reducible repeat (first | refine blk_drewN ?_ _ | refine blk_drew ?_ | refine blk_alloc ?_ _)); refine blk_put (cs := #[.int .i64 0, .int .i64 0, .int .i64 0, .slice none 0 0]) ?_ 3 _ rfl; (with_reducible repeat (first | refine blk_drewN ?_ _ | refine blk_drew ?_ | refine blk_alloc ?_ _)); refine blk_put (cs := #[.int .i64 0, .int .i64 0, .int .i64 0, .slice none 0 0]) ?_ 2 _ rfl; (with_reducible repeat (first | refine blk_drewN ?_ _ | refine blk_drew ?_ | refine blk_alloc ?_ _)); refine blk_put (cs := #[.int .i64 0, .int .i64 0, .int .i64 0, .slice none 0 0]) ?_ 1 _ rfl; (with_reducible repeat (first | refine blk_drewN ?_ _ | refine blk_drew ?_ | refine blk_alloc ?_ _)); refine blk_put (cs := #[.int .i64 0, .int .i64 0, .int .i64 0, .slice none 0 0]) ?_ 0 _ rfl; (with_reducible repeat (first | refine blk_drewN ?_ _ | refine blk_drew ?_ | refine blk_alloc ?_ _)); exact BK122.out) Try.underlying119 rfl (by kernel_rfl)) rfl ?_
                          exact ⟨_, by first | rfl | (simp [errW_none, errW_some] <;> rfl) | (simp [*, errW_none, errW_some] <;> rfl), Kd.V_nil _ _ _ _ _, by repeat (first | (with_reducible first | exact HB.out | apply below_alloc | apply pw_below_drewN | apply below_drew1 | refine below_set ?_ GE122.out) | exact HB.out)⟩
                        · rw [if_neg c19] at H
                          have c19b0 : decide (20 < (wrap64 (x11_2 - a1))) = false := decide_eq_false c19
                          clear c19
                          by_cases c21 : 0 ≤ a1
                          · rw [if_pos c21] at H
                            have c21b0 := eq_true c21
                            have c21b1 : decide (0 ≤ a1) = true := decide_eq_true c21
                            clear c21
                            by_cases c22 : a1 ≤ x11_2
                            · rw [if_pos c22] at H
                              have c22b0 := eq_true c22
                              have c22b1 : decide (a1 ≤ x11_2) = true := decide_eq_true c22
                              clear c22
                              by_cases c23 : x11_2 ≤ (l0.length : Int)
                              · rw [if_pos c23] at H
                                have c23b0 := eq_true c23
                                have c23b1 : decide (x11_2 ≤ (l0.length : Int)) = true := decide_eq_true c23
                                clear c23
                                obtain ⟨y131, hy131⟩ : ∃ y_ : List Int, y_ = ((l0.take (x11_2 : Int).toNat).drop (a1 : Int).toNat) := ⟨_, rfl⟩
                                replace H : (some (1, a1, 0, y131, x11_2, (-1))) = some (r1, r2, r3, r4, r5, r6) := by first | (rw [hy131]; with_reducible exact H) | (have H2_ := (Option.bind_some _ _).symm.trans H; rw [hy131]; with_reducible exact H2_) | (have H2_ := (Option.bind_some _ _).symm.trans H; with_reducible exact H2_) | with_reducible exact H | (rw [hy131]; exact H) | exact H
                                have Ny131 := Aside0.mk hy131
                                clear hy131
                                simp only [Option.some.injEq, Prod.mk.injEq] at H
                                obtain ⟨rfl, rfl, rfl, rfl, rfl, rfl⟩ := H
                                have p129 : 0 ≤ (x11_2 : Int) := of_decide_eq_true (by first | (with_reducible assumption) | assumption)
                                have q129 : x11_2 < (l0.length : Int) := of_decide_eq_true (by first | (with_reducible assumption) | assumption)
                                obtain ⟨ad129, e129, hx129_0⟩ := Kd.at_int (Kd.V_reads' HO_0.out).2.2 x11_2 p129 q129
                                obtain rfl : ad123 = ad129 := (by injection e129)
                                replace p129 := eq_true p129
                                replace q129 := eq_true q129
                                go_wp2_with (first | (go_at_call 95; (with_reducible refine (davitref11_within.calls (rd l0 x11_2) false _ A17.out).mono ?_); rintro e w' ⟨rfl, ⟨nd, rfl⟩⟩; (try (rw [drewN_self wr]; generalize hq_ : World.drewN wr _ = wr; have n0_ : Aside0 (Kd.V (Kd.int .u8) 5 wr w.heap.size (fun k_ => (P0_ k_ ∨ w.heap.size ≤ k_) ∧ k_ ≠ gb122) (.slice (some ad123) l0.length c0) l0) := ⟨by rw [← hq_]; exact (by (with_reducible repeat (first | apply Kd.V_alloc | apply Kd.V_drewN | apply Kd.V_drew)); exact HO_0.out)⟩; have n1_ : Aside0 (wr.heap[gb122]? = some (.cells #[.int .i64 0, .int .i64 0, .int .i64 0, .slice none 0 0] 119 (0, 0))) := ⟨by rw [← hq_]; exact (by (with_reducible repeat (first | refine blk_drewN ?_ _ | refine blk_drew ?_ | refine blk_alloc ?_ _)); exact BK122.out)⟩; have n2_ : Aside0 (Below w.heap.size w wr) := ⟨by rw [← hq_]; exact (by repeat (first | (with_reducible first | exact HB.out | apply below_alloc | apply pw_below_drewN | apply below_drew1 | refine below_set ?_ GE122.out) | exact HB.out))⟩; clear HO_0 BK122 HB hq_; have HO_0 := n0_; have BK122 := n1_; have HB := n2_; clear n0_ n1_ n2_)); have q24 : (x11_2 : Int) ≤ ((l0.length : Int) : Int) := of_decide_eq_true (by first | (with_reducible assumption) | assumption); obtain ⟨i024, hi024, _, hsz24, _⟩ := info_parts info5; have hroom24 : l0.length ≤ c0 := (Kd.V_reads' HO_0.out).2.1; have hC24 : Kd.F (Kd.int .u8) _ _ (some ad123) l0.length l0 := (Kd.V_at (base := w.heap.size) HO_0.out).2.2; have ql24 : (a1 : Int) ≤ (x11_2 : Int) := of_decide_eq_true (by first | (with_reducible assumption) | assumption); have q024 : (0 : Int) ≤ (a1 : Int) := of_decide_eq_true (by first | (with_reducible assumption) | assumption); have hcut24 := cut_mid (P := Try.prog) 22 5 .i64 .i64 Try.underlying22 hi024 1 hsz24 (some ad123) l0.length c0 a1 x11_2 q024 ql24 q24 hroom24; have hr24 := Kd.F_mid (lo := (a1 : Int).toNat) (hi := (x11_2 : Int).toNat) (c := c0) hC24 (by omega) (by omega) hroom24; obtain ⟨A24, hA24⟩ : ∃ A1, A1 = (if c0 = (a1 : Int).toNat then (some ad123) else ((some ad123) : Option Addr).map (·.add ((a1 : Int).toNat * 1))) := ⟨_, rfl⟩; obtain ⟨c24, hc24⟩ : ∃ c1, c1 = c0 - (a1 : Int).toNat := ⟨_, rfl⟩; have hy24 : y131.length = (x11_2 : Int).toNat - (a1 : Int).toNat := (by rw [Ny131.out, List.length_drop, List.length_take] <;> omega); rw [show ((l0).take (x11_2 : Int).toNat).drop (a1 : Int).toNat = y131 from Ny131.out.symm] at hr24; replace hr24 : Kd.F (Kd.int .u8) _ _ A24 y131.length y131 := (by rw [hA24]; exact hr24); rw [← hy24, ← hA24, ← hc24] at hcut24; have HO135 := Aside0.mk (show Kd.V (Kd.int .u8) 5 _ w.heap.size _ (.slice A24 y131.length c24) y131 from Kd.V_mk (by rw [hy24, hc24]; exact Nat.sub_le_sub_right (Nat.le_trans (by omega) hroom24) _) hr24); have HC135 := Aside0.mk (show y131.length ≤ c24 from by rw [hy24, hc24]; exact Nat.sub_le_sub_right (Nat.le_trans (by omega) hroom24) _); clear hr24 hC24 hroom24 hi024 hsz24 hc24; have KY24 := Aside0.mk hy24; have KA24 := Aside0.mk hA24; clear hy24 hA24; replace q24 := eq_true q24; have hcz25_0 : wr.cell? ⟨gb122, 0, none⟩ = some (.int .i64 0) := (blk_cell BK122.out 0).trans rfl; have hcz25_1 : wr.cell? ⟨gb122, 1, none⟩ = some (.int .i64 0) := (blk_cell BK122.out 1).trans rfl; have hcz25_2 : wr.cell? ⟨gb122, 2, none⟩ = some (.int .i64 0) := (blk_cell BK122.out 2).trans rfl; have hcz25_3 : wr.cell? ⟨gb122, 3, none⟩ = some (.slice none 0 0) := (blk_cell BK122.out 3).trans rfl; have hfz25_0 := blk_frozen BK122.out 0; have hfz25_1 := blk_frozen BK122.out 1; have hfz25_2 := blk_frozen BK122.out 2; have hfz25_3 := blk_frozen BK122.out 3))
                                refine bodyPost_ret (results_ctt rfl _ _ gb122 119 #[.int .i64 1, .int .i64 a1, .int .i64 0, .slice A24 y131.length c24] (0, 0) _ rfl (by (with_reducible repeat (first | refine blk_drewN ?_ _ | refine blk_drew ?_ | refine blk_alloc ?_ _)); refine blk_put (cs := #[.int .i64 1, .int .i64 a1, .int .i64 0, .slice none 0 0]) ?_ 3 _ rfl; (with_reducible repeat (first | refine blk_drewN ?_ _ | refine blk_drew ?_ | refine blk_alloc ?_ _)); refine blk_put (cs := #[.int .i64 1, .int .i64 a1, .int .i64 0, .slice none 0 0]) ?_ 2 _ rfl; (with_reducible repeat (first | refine blk_drewN ?_ _ | refine blk_drew ?_ | refine blk_alloc ?_ _)); refine blk_put (cs := #[.int .i64 1, .int .i64 0, .int .i64 0, .slice none 0 0]) ?_ 1 _ rfl; (with_reducible repeat (first | refine blk_drewN ?_ _ | refine blk_drew ?_ | refine blk_alloc ?_ _)); refine blk_put (cs := #[.int .i64 0, .int .i64 0, .int .i64 0, .slice none 0 0]) ?_ 0 _ rfl; (with_reducible repeat (first | refine blk_drewN ?_ _ | refine blk_drew ?_ | refine blk_alloc ?_ _)); exact BK122.out) Try.underlying119 rfl (by kernel_rfl)) rfl ?_
                                exact ⟨_, by first | rfl | (simp [errW_none, errW_some] <;> rfl) | (simp [*, errW_none, errW_some] <;> rfl), by (with_reducible repeat (first | apply Kd.V_alloc | apply Kd.V_drewN | apply Kd.V_drew)); exact Kd.V_mono (Kd.V_far (p := ⟨gb122, 3, none⟩) (Kd.V_far (p := ⟨gb122, 2, none⟩) (Kd.V_far (p := ⟨gb122, 1, none⟩) (Kd.V_far (p := ⟨gb122, 0, none⟩) (Kd.V_mono HO135.out (fun k_ hk => (⟨hk, hk.2⟩ : _ ∧ k_ ≠ gb122))) (fun _ hk => hk.2) (.int .i64 1)) (fun _ hk => hk.2) (.int .i64 a1)) (fun _ hk => hk.2) (.int .i64 0)) (fun _ hk => hk.2) (.slice A24 y131.length c24)) (fun _ hk => hk.1.1), by repeat (first | (with_reducible first | exact HB.out | apply below_alloc | apply pw_below_drewN | apply below_drew1 | refine below_set ?_ GE122.out) | exact HB.out)⟩
                              · rw [if_neg c23] at H
                                exact absurd H (by simp)
                            · rw [if_neg c22] at H
                              exact absurd H (by simp)
                          · rw [if_neg c21] at H
                            exact absurd H (by simp)
                    · rw [if_neg c16] at H
                      exact absurd H (by simp)
                  · rw [if_neg c15] at H
                    have c15b0 : decide (x11_2 < (l0.length : Int)) = false := decide_eq_false c15
                    clear c15
                    by_cases c26 : (wrap64 (x11_2 - a1)) > 20
                    · rw [if_pos c26] at H
                      have c26b0 : decide (20 < (wrap64 (x11_2 - a1))) = true := decide_eq_true c26
                      clear c26
                      simp only [Option.some.injEq, Prod.mk.injEq] at H
                      obtain ⟨rfl, rfl, rfl, rfl, rfl, rfl⟩ := H
                      have hcz27_0 : wr.cell? ⟨gb122, 0, none⟩ = some (.int .i64 0) := (blk_cell BK122.out 0).trans rfl
                      have hcz27_1 : wr.cell? ⟨gb122, 1, none⟩ = some (.int .i64 0) := (blk_cell BK122.out 1).trans rfl
                      have hcz27_2 : wr.cell? ⟨gb122, 2, none⟩ = some (.int .i64 0) := (blk_cell BK122.out 2).trans rfl
                      have hcz27_3 : wr.cell? ⟨gb122, 3, none⟩ = some (.slice none 0 0) := (blk_cell BK122.out 3).trans rfl
                      have hfz27_0 := blk_frozen BK122.out 0
                      have hfz27_1 := blk_frozen BK122.out 1
                      have hfz27_2 := blk_frozen BK122.out 2
                      have hfz27_3 := blk_frozen BK122.out 3
                      go_wp2
                      refine bodyPost_ret (results_ctt rfl _ _ gb122 119 #[.int .i64 0, .int .i64 0, .int .i64 0, .slice none 0 0] (0, 0) _ rfl (by (with_reducible repeat (first | refine blk_drewN ?_ _ | refine blk_drew ?_ | refine blk_alloc ?_ _)); refine blk_put (cs := #[.int .i64 0, .int .i64 0, .int .i64 0, .slice none 0 0]) ?_ 3 _ rfl; (with_reducible repeat (first | refine blk_drewN ?_ _ | refine blk_drew ?_ | refine blk_alloc ?_ _)); refine blk_put (cs := #[.int .i64 0, .int .i64 0, .int .i64 0, .slice none 0 0]) ?_ 2 _ rfl; (with_reducible repeat (first | refine blk_drewN ?_ _ | refine blk_drew ?_ | refine blk_alloc ?_ _)); refine blk_put (cs := #[.int .i64 0, .int .i64 0, .int .i64 0, .slice none 0 0]) ?_ 1 _ rfl; (with_reducible repeat (first | refine blk_drewN ?_ _ | refine blk_drew ?_ | refine blk_alloc ?_ _)); refine blk_put (cs := #[.int .i64 0, .int .i64 0, .int .i64 0, .slice none 0 0]) ?_ 0 _ rfl; (with_reducible repeat (first | refine blk_drewN ?_ _ | refine blk_drew ?_ | refine blk_alloc ?_ _)); exact BK122.out) Try.underlying119 rfl (by kernel_rfl)) rfl ?_
                      exact ⟨_, by first | rfl | (simp [errW_none, errW_some] <;> rfl) | (simp [*, errW_none, errW_some] <;> rfl), Kd.V_nil _ _ _ _ _, by repeat (first | (with_reducible first | exact HB.out | apply below_alloc | apply pw_below_drewN | apply below_drew1 | refine below_set ?_ GE122.out) | exact HB.out)⟩
                    · rw [if_neg c26] at H
                      have c26b0 : decide (20 < (wrap64 (x11_2 - a1))) = false := decide_eq_false c26
                      clear c26
                      by_cases c28 : 0 ≤ a1
                      · rw [if_pos c28] at H
                        have c28b0 := eq_true c28
                        have c28b1 : decide (0 ≤ a1) = true := decide_eq_true c28
                        clear c28
                        by_cases c29 : a1 ≤ x11_2
                        · rw [if_pos c29] at H
                          have c29b0 := eq_true c29
                          have c29b1 : decide (a1 ≤ x11_2) = true := decide_eq_true c29
                          clear c29
                          by_cases c30 : x11_2 ≤ (l0.length : Int)
                          · rw [if_pos c30] at H
                            have c30b0 := eq_true c30
                            have c30b1 : decide (x11_2 ≤ (l0.length : Int)) = true := decide_eq_true c30
                            clear c30
                            obtain ⟨y136, hy136⟩ : ∃ y_ : List Int, y_ = ((l0.take (x11_2 : Int).toNat).drop (a1 : Int).toNat) := ⟨_, rfl⟩
                            replace H : (some (1, a1, 0, y136, x11_2, (-1))) = some (r1, r2, r3, r4, r5, r6) := by first | (rw [hy136]; with_reducible exact H) | (have H2_ := (Option.bind_some _ _).symm.trans H; rw [hy136]; with_reducible exact H2_) | (have H2_ := (Option.bind_some _ _).symm.trans H; with_reducible exact H2_) | with_reducible exact H | (rw [hy136]; exact H) | exact H
                            have Ny136 := Aside0.mk hy136
                            clear hy136
                            simp only [Option.some.injEq, Prod.mk.injEq] at H
                            obtain ⟨rfl, rfl, rfl, rfl, rfl, rfl⟩ := H
                            have q31 : (x11_2 : Int) ≤ ((l0.length : Int) : Int) := of_decide_eq_true (by first | (with_reducible assumption) | assumption)
                            obtain ⟨i031, hi031, _, hsz31, _⟩ := info_parts info5
                            have hroom31 : l0.length ≤ c0 := (Kd.V_reads' HO_0.out).2.1
                            have hC31 : Kd.F (Kd.int .u8) _ _ (some ad123) l0.length l0 := (Kd.V_at (base := w.heap.size) HO_0.out).2.2
                            have ql31 : (a1 : Int) ≤ (x11_2 : Int) := of_decide_eq_true (by first | (with_reducible assumption) | assumption)
                            have q031 : (0 : Int) ≤ (a1 : Int) := of_decide_eq_true (by first | (with_reducible assumption) | assumption)
                            have hcut31 := cut_mid (P := Try.prog) 22 5 .i64 .i64 Try.underlying22 hi031 1 hsz31 (some ad123) l0.length c0 a1 x11_2 q031 ql31 q31 hroom31
                            have hr31 := Kd.F_mid (lo := (a1 : Int).toNat) (hi := (x11_2 : Int).toNat) (c := c0) hC31 (by omega) (by omega) hroom31
                            obtain ⟨A31, hA31⟩ : ∃ A1, A1 = (if c0 = (a1 : Int).toNat then (some ad123) else ((some ad123) : Option Addr).map (·.add ((a1 : Int).toNat * 1))) := ⟨_, rfl⟩
                            obtain ⟨c31, hc31⟩ : ∃ c1, c1 = c0 - (a1 : Int).toNat := ⟨_, rfl⟩
                            have hy31 : y136.length = (x11_2 : Int).toNat - (a1 : Int).toNat := (by rw [Ny136.out, List.length_drop, List.length_take] <;> omega)
                            rw [show ((l0).take (x11_2 : Int).toNat).drop (a1 : Int).toNat = y136 from Ny136.out.symm] at hr31
                            replace hr31 : Kd.F (Kd.int .u8) _ _ A31 y136.length y136 := (by rw [hA31]; exact hr31)
                            rw [← hy31, ← hA31, ← hc31] at hcut31
                            have HO140 := Aside0.mk (show Kd.V (Kd.int .u8) 5 _ w.heap.size _ (.slice A31 y136.length c31) y136 from Kd.V_mk (by rw [hy31, hc31]; exact Nat.sub_le_sub_right (Nat.le_trans (by omega) hroom31) _) hr31)
                            have HC140 := Aside0.mk (show y136.length ≤ c31 from by rw [hy31, hc31]; exact Nat.sub_le_sub_right (Nat.le_trans (by omega) hroom31) _)
                            clear hr31 hC31 hroom31 hi031 hsz31 hc31
                            have KY31 := Aside0.mk hy31
                            have KA31 := Aside0.mk hA31
                            clear hy31 hA31
                            replace q31 := eq_true q31
                            have hcz32_0 : wr.cell? ⟨gb122, 0, none⟩ = some (.int .i64 0) := (blk_cell BK122.out 0).trans rfl
                            have hcz32_1 : wr.cell? ⟨gb122, 1, none⟩ = some (.int .i64 0) := (blk_cell BK122.out 1).trans rfl
                            have hcz32_2 : wr.cell? ⟨gb122, 2, none⟩ = some (.int .i64 0) := (blk_cell BK122.out 2).trans rfl
                            have hcz32_3 : wr.cell? ⟨gb122, 3, none⟩ = some (.slice none 0 0) := (blk_cell BK122.out 3).trans rfl
                            have hfz32_0 := blk_frozen BK122.out 0
                            have hfz32_1 := blk_frozen BK122.out 1
                            have hfz32_2 := blk_frozen BK122.out 2
                            have hfz32_3 := blk_frozen BK122.out 3
                            go_wp2
                            refine bodyPost_ret (results_ctt rfl _ _ gb122 119 #[.int .i64 1, .int .i64 a1, .int .i64 0, .slice A31 y136.length c31] (0, 0) _ rfl (by (with_reducible repeat (first | refine blk_drewN ?_ _ | refine blk_drew ?_ | refine blk_alloc ?_ _)); refine blk_put (cs := #[.int .i64 1, .int .i64 a1, .int .i64 0, .slice none 0 0]) ?_ 3 _ rfl; (with_reducible repeat (first | refine blk_drewN ?_ _ | refine blk_drew ?_ | refine blk_alloc ?_ _)); refine blk_put (cs := #[.int .i64 1, .int .i64 a1, .int .i64 0, .slice none 0 0]) ?_ 2 _ rfl; (with_reducible repeat (first | refine blk_drewN ?_ _ | refine blk_drew ?_ | refine blk_alloc ?_ _)); refine blk_put (cs := #[.int .i64 1, .int .i64 0, .int .i64 0, .slice none 0 0]) ?_ 1 _ rfl; (with_reducible repeat (first | refine blk_drewN ?_ _ | refine blk_drew ?_ | refine blk_alloc ?_ _)); refine blk_put (cs := #[.int .i64 0, .int .i64 0, .int .i64 0, .slice none 0 0]) ?_ 0 _ rfl; (with_reducible repeat (first | refine blk_drewN ?_ _ | refine blk_drew ?_ | refine blk_alloc ?_ _)); exact BK122.out) Try.underlying119 rfl (by kernel_rfl)) rfl ?_
                            exact ⟨_, by first | rfl | (simp [errW_none, errW_some] <;> rfl) | (simp [*, errW_none, errW_some] <;> rfl), by (with_reducible repeat (first | apply Kd.V_alloc | apply Kd.V_drewN | apply Kd.V_drew)); exact Kd.V_mono (Kd.V_far (p := ⟨gb122, 3, none⟩) (Kd.V_far (p := ⟨gb122, 2, none⟩) (Kd.V_far (p := ⟨gb122, 1, none⟩) (Kd.V_far (p := ⟨gb122, 0, none⟩) (Kd.V_mono HO140.out (fun k_ hk => (⟨hk, hk.2⟩ : _ ∧ k_ ≠ gb122))) (fun _ hk => hk.2) (.int .i64 1)) (fun _ hk => hk.2) (.int .i64 a1)) (fun _ hk => hk.2) (.int .i64 0)) (fun _ hk => hk.2) (.slice A31 y136.length c31)) (fun _ hk => hk.1.1), by repeat (first | (with_reducible first | exact HB.out | apply below_alloc | apply pw_below_drewN | apply below_drew1 | refine below_set ?_ GE122.out) | exact HB.out)⟩
                          · rw [if_neg c30] at H
                            exact absurd H (by simp)
                        · rw [if_neg c29] at H
                          exact absurd H (by simp)
                      · rw [if_neg c28] at H
                        exact absurd H (by simp)
            · replace c14 := Bool.eq_false_iff.mpr c14
              subst c14
              have H1 : (davitref11_One.l1 kj10 l0 a1 (rd l0 a1) a1 0) = some (r1, r2, r3, r4, r5, r6) := by rw [if_neg (show ¬ (false = true) by decide)] at H; exact H
              clear H
              have H := H1
              clear H1
              have H' := Aside0.mk H
              clear H
              go_wp2
              go_loopg [11, 12] kj10 (fun kq v11 v12 w' => ∃ (x11_2 : Int) (x12_2 : Int), v11 = .int .i64 x11_2 ∧ v12 = .int .i64 x12_2 ∧ Aside0 (davitref11_One.l1 kq l0 a1 (rd l0 a1) x11_2 x12_2 = some (r1, r2, r3, r4, r5, r6)) ∧ Aside0 (kq ≤ kj10) ∧ Aside0 (Kd.V (Kd.int .u8) 5 w' w.heap.size (fun k_ => (P0_ k_ ∨ w.heap.size ≤ k_) ∧ k_ ≠ gb122) (.slice (some ad123) l0.length c0) l0) ∧ Aside0 (w'.heap[gb122]? = some (.cells #[.int .i64 0, .int .i64 0, .int .i64 0, (.slice none 0 0)] 119 (0, 0))) ∧ Aside0 (Below w.heap.size w w'))
              case atStart => exact ⟨(a1), (0), (by first | rfl | (simp; done) | (simp [*]; done)), (by first | rfl | (simp; done) | (simp [*]; done)), H', ⟨Nat.le_refl _⟩, ⟨by (with_reducible repeat (first | apply Kd.V_alloc | apply Kd.V_drewN | apply Kd.V_drew)); exact HO_0.out⟩, ⟨by (with_reducible repeat (first | refine blk_drewN ?_ _ | refine blk_drew ?_ | refine blk_alloc ?_ _)); exact BK122.out⟩, ⟨by repeat (first | (with_reducible first | exact HB.out | apply below_alloc | apply pw_below_drewN | apply below_drew1 | refine below_set ?_ GE122.out) | exact HB.out)⟩⟩
              case round =>
                clear H'
                try clear c1
                try clear p1
                try clear q1
                try clear hx1
                try clear c2
                try clear p2
                try clear q2
                try clear c3
                try clear c3b0
                try clear q3
                try clear c4
                try clear c4b0
                try clear c5
                try clear c5b0
                try clear c5b1
                try clear p6
                try clear c9
                try clear p12
                try clear q12
                try clear hx12
                try clear c13
                try clear c13b0
                try clear c14
                try clear c15
                try clear c15b0
                try clear c16
                try clear c16b0
                try clear c18
                try clear c19
                try clear c19b0
                try clear c21
                try clear c21b0
                try clear c21b1
                try clear c22
                try clear c22b0
                try clear c22b1
                try clear c23
                try clear c23b0
                try clear c23b1
                try clear c24
                try clear q24
                try clear c26
                try clear c26b0
                try clear c28
                try clear c28b0
                try clear c28b1
                try clear c29
                try clear c29b0
                try clear c29b1
                try clear c30
                try clear c30b0
                try clear c30b1
                try clear c31
                try clear q31
                try clear hcz10_0
                try clear hcz10_1
                try clear hcz10_2
                try clear hcz10_3
                try clear hcz20_0
                try clear hcz20_1
                try clear hcz20_2
                try clear hcz20_3
                try clear hcz25_0
                try clear hcz25_1
                try clear hcz25_2
                try clear hcz25_3
                try clear hcz27_0
                try clear hcz27_1
                try clear hcz27_2
                try clear hcz27_3
                try clear hcz32_0
                try clear hcz32_1
                try clear hcz32_2
                try clear hcz32_3
                try clear hfz10_0
                try clear hfz10_1
                try clear hfz10_2
                try clear hfz10_3
                try clear hfz20_0
                try clear hfz20_1
                try clear hfz20_2
                try clear hfz20_3
                try clear hfz25_0
                try clear hfz25_1
                try clear hfz25_2
                try clear hfz25_3
                try clear hfz27_0
                try clear hfz27_1
                try clear hfz27_2
                try clear hfz27_3
                try clear hfz32_0
                try clear hfz32_1
                try clear hfz32_2
                try clear hfz32_3
                try clear hx123_0
                try clear hx129_0
                try clear p1
                try clear p12
                try clear p123
                try clear p129
                try clear p2
                try clear p6
                try clear q024
                try clear q031
                try clear q1
                try clear q12
                try clear q123
                try clear q129
                try clear q24
                try clear q31
                obtain ⟨x11_2, x12_2, rfl, rfl, HA, HK2, HO_0, BK122, HB⟩ := hrel
                cases gk with
                | zero => exact absurd HA.out (by simp [davitref11_One.l1])
                | succ k2 =>
                  have H := HA.out
                  clear HA
                  simp only [davitref11_One.l1] at H
                  have HC33 := Aside0.mk H
                  clear H
                  go_upto_region 13 with (fail)
                  go_cut [83] (fun v83 wc => ∃ (kq : Nat) (x83_32 : Bool), v83 = .bool x83_32 ∧ Aside0 (davitref11_One.j3 kq l0 a1 (rd l0 a1) x11_2 x12_2 x83_32 = some (r1, r2, r3, r4, r5, r6)) ∧ Aside0 (kq ≤ k2) ∧ Aside0 (Kd.V (Kd.int .u8) 5 wc w.heap.size (fun k_ => (P0_ k_ ∨ w.heap.size ≤ k_) ∧ k_ ≠ gb122) (.slice (some ad123) l0.length c0) l0) ∧ Aside0 (wc.heap[gb122]? = some (.cells #[.int .i64 0, .int .i64 0, .int .i64 0, (.slice none 0 0)] 119 (0, 0))) ∧ Aside0 (Below w.heap.size w wc))
                  case first =>
                    have H := HC33.out
                    clear HC33
                    by_cases c34 : x11_2 < (l0.length : Int)
                    · rw [if_pos c34] at H
                      have c34b0 : decide (x11_2 < (l0.length : Int)) = true := decide_eq_true c34
                      clear c34
                      (first | rw [c34b0] | (simp only [i64_w, i32_w]; rw [c34b0]) | skip)
                      by_cases c35 : 0 ≤ x11_2
                      · rw [if_pos c35] at H
                        have c35b0 : decide (0 ≤ x11_2) = true := decide_eq_true c35
                        clear c35
                        by_cases c36 : (rd l0 x11_2) ≥ 48
                        · rw [if_pos c36] at H
                          have c36b0 : decide (48 ≤ (rd l0 x11_2)) = true := decide_eq_true c36
                          clear c36
                          have H' := Aside0.mk H
                          clear H
                          have p141 : 0 ≤ (x11_2 : Int) := of_decide_eq_true (by first | (with_reducible assumption) | assumption)
                          have q141 : x11_2 < (l0.length : Int) := of_decide_eq_true (by first | (with_reducible assumption) | assumption)
                          obtain ⟨ad141, e141, hx141_0⟩ := Kd.at_int (Kd.V_reads' HO_0.out).2.2 x11_2 p141 q141
                          obtain rfl : ad123 = ad141 := (by injection e141)
                          replace p141 := eq_true p141
                          replace q141 := eq_true q141
                          have p142 : 0 ≤ (x11_2 : Int) := of_decide_eq_true (by first | (with_reducible assumption) | assumption)
                          have q142 : x11_2 < (l0.length : Int) := of_decide_eq_true (by first | (with_reducible assumption) | assumption)
                          obtain ⟨ad142, e142, hx142_0⟩ := Kd.at_int (Kd.V_reads' HO_0.out).2.2 x11_2 p142 q142
                          obtain rfl : ad123 = ad142 := (by injection e142)
                          replace p142 := eq_true p142
                          replace q142 := eq_true q142
                          go_wp2
                          go_meet
                          case rel => exact ⟨_, (decide ((rd l0 x11_2) ≤ 57)), (by first | rfl | (simp; done) | (simp [*]; done)), H', ⟨by have := HJ10.out; have := HK2.out; first | omega | exact Nat.le_refl _⟩, ⟨by (with_reducible repeat (first | apply Kd.V_alloc | apply Kd.V_drewN | apply Kd.V_drew)); exact HO_0.out⟩, ⟨by (with_reducible repeat (first | refine blk_drewN ?_ _ | refine blk_drew ?_ | refine blk_alloc ?_ _)); exact BK122.out⟩, ⟨by repeat (first | (with_reducible first | exact HB.out | apply below_alloc | apply pw_below_drewN | apply below_drew1 | refine below_set ?_ GE122.out) | exact HB.out)⟩⟩
                        · rw [if_neg c36] at H
                          have c36b0 : decide (48 ≤ (rd l0 x11_2)) = false := decide_eq_false c36
                          clear c36
                          have H' := Aside0.mk H
                          clear H
                          have p141 : 0 ≤ (x11_2 : Int) := of_decide_eq_true (by first | (with_reducible assumption) | assumption)
                          have q141 : x11_2 < (l0.length : Int) := of_decide_eq_true (by first | (with_reducible assumption) | assumption)
                          obtain ⟨ad141, e141, hx141_0⟩ := Kd.at_int (Kd.V_reads' HO_0.out).2.2 x11_2 p141 q141
                          obtain rfl : ad123 = ad141 := (by injection e141)
                          replace p141 := eq_true p141
                          replace q141 := eq_true q141
                          go_wp2
                          go_meet
                          case rel => exact ⟨_, (false), (by first | rfl | (simp; done) | (simp [*]; done)), H', ⟨by have := HJ10.out; have := HK2.out; first | omega | exact Nat.le_refl _⟩, ⟨by (with_reducible repeat (first | apply Kd.V_alloc | apply Kd.V_drewN | apply Kd.V_drew)); exact HO_0.out⟩, ⟨by (with_reducible repeat (first | refine blk_drewN ?_ _ | refine blk_drew ?_ | refine blk_alloc ?_ _)); exact BK122.out⟩, ⟨by repeat (first | (with_reducible first | exact HB.out | apply below_alloc | apply pw_below_drewN | apply below_drew1 | refine below_set ?_ GE122.out) | exact HB.out)⟩⟩
                      · rw [if_neg c35] at H
                        exact absurd H (by simp)
                    · rw [if_neg c34] at H
                      have c34b0 : decide (x11_2 < (l0.length : Int)) = false := decide_eq_false c34
                      clear c34
                      (first | rw [c34b0] | (simp only [i64_w, i32_w]; rw [c34b0]) | skip)
                      have H' := Aside0.mk H
                      clear H
                      go_wp2
                      go_meet
                      case rel => exact ⟨_, (false), (by first | rfl | (simp; done) | (simp [*]; done)), H', ⟨by have := HJ10.out; have := HK2.out; first | omega | exact Nat.le_refl _⟩, ⟨by (with_reducible repeat (first | apply Kd.V_alloc | apply Kd.V_drewN | apply Kd.V_drew)); exact HO_0.out⟩, ⟨by (with_reducible repeat (first | refine blk_drewN ?_ _ | refine blk_drew ?_ | refine blk_alloc ?_ _)); exact BK122.out⟩, ⟨by repeat (first | (with_reducible first | exact HB.out | apply below_alloc | apply pw_below_drewN | apply below_drew1 | refine below_set ?_ GE122.out) | exact HB.out)⟩⟩
                  case rest =>
                    clear HC33
                    try clear c1
                    try clear p1
                    try clear q1
                    try clear hx1
                    try clear c2
                    try clear p2
                    try clear q2
                    try clear c3
                    try clear c3b0
                    try clear q3
                    try clear c4
                    try clear c4b0
                    try clear c5
                    try clear c5b0
                    try clear c5b1
                    try clear p6
                    try clear c9
                    try clear p12
                    try clear q12
                    try clear hx12
                    try clear c13
                    try clear c13b0
                    try clear c14
                    try clear p14
                    try clear q14
                    try clear hx14
                    try clear c15
                    try clear c15b0
                    try clear c16
                    try clear c16b0
                    try clear c18
                    try clear c19
                    try clear c19b0
                    try clear c21
                    try clear c21b0
                    try clear c21b1
                    try clear c22
                    try clear c22b0
                    try clear c22b1
                    try clear c23
                    try clear c23b0
                    try clear c23b1
                    try clear c24
                    try clear q24
                    try clear c26
                    try clear c26b0
                    try clear c28
                    try clear c28b0
                    try clear c28b1
                    try clear c29
                    try clear c29b0
                    try clear c29b1
                    try clear c30
                    try clear c30b0
                    try clear c30b1
                    try clear c31
                    try clear q31
                    try clear c34
                    try clear c34b0
                    try clear c35
                    try clear c35b0
                    try clear c36
                    try clear c36b0
                    try clear hcz10_0
                    try clear hcz10_1
                    try clear hcz10_2
                    try clear hcz10_3
                    try clear hcz20_0
                    try clear hcz20_1
                    try clear hcz20_2
                    try clear hcz20_3
                    try clear hcz25_0
                    try clear hcz25_1
                    try clear hcz25_2
                    try clear hcz25_3
                    try clear hcz27_0
                    try clear hcz27_1
                    try clear hcz27_2
                    try clear hcz27_3
                    try clear hcz32_0
                    try clear hcz32_1
                    try clear hcz32_2
                    try clear hcz32_3
                    try clear hfz10_0
                    try clear hfz10_1
                    try clear hfz10_2
                    try clear hfz10_3
                    try clear hfz20_0
                    try clear hfz20_1
                    try clear hfz20_2
                    try clear hfz20_3
                    try clear hfz25_0
                    try clear hfz25_1
                    try clear hfz25_2
                    try clear hfz25_3
                    try clear hfz27_0
                    try clear hfz27_1
                    try clear hfz27_2
                    try clear hfz27_3
                    try clear hfz32_0
                    try clear hfz32_1
                    try clear hfz32_2
                    try clear hfz32_3
                    try clear hx123_0
                    try clear hx129_0
                    try clear hx141_0
                    try clear hx142_0
                    try clear p1
                    try clear p12
                    try clear p123
                    try clear p129
                    try clear p141
                    try clear p142
                    try clear p2
                    try clear p6
                    try clear q024
                    try clear q031
                    try clear q1
                    try clear q12
                    try clear q123
                    try clear q129
                    try clear q141
                    try clear q142
                    try clear q2
                    try clear q24
                    try clear q3
                    try clear q31
                    obtain ⟨kq, x83_32, rfl, HA, HJ32, HO_0, BK122, HB⟩ := hcut
                    cases kq with
                    | zero => exact absurd HA.out (by simp [davitref11_One.j3])
                    | succ kj32 =>
                      have H := HA.out
                      clear HA
                      simp only [davitref11_One.j3] at H
                      by_cases c37 : x83_32 = true
                      · subst c37
                        have H1 : (if x12_2 < 100000 then (if 0 ≤ x11_2 then (if x11_2 < (l0.length : Int) then (davitref11_One.l1 kj32 l0 a1 (rd l0 a1) (wrap64 (x11_2 + 1)) (wrap64 ((wrap64 ((wrap64 (10 * x12_2)) + (wrap64 (rd l0 x11_2)))) - 48))) else (none)) else (none)) else (davitref11_One.l1 kj32 l0 a1 (rd l0 a1) (wrap64 (x11_2 + 1)) x12_2)) = some (r1, r2, r3, r4, r5, r6) := by rw [if_pos rfl] at H; exact H
                        clear H
                        have H := H1
                        clear H1
                        by_cases c38 : x12_2 < 100000
                        · rw [if_pos c38] at H
                          have c38b0 : decide (x12_2 < 100000) = true := decide_eq_true c38
                          clear c38
                          by_cases c39 : 0 ≤ x11_2
                          · rw [if_pos c39] at H
                            have c39b0 : decide (0 ≤ x11_2) = true := decide_eq_true c39
                            clear c39
                            by_cases c40 : x11_2 < (l0.length : Int)
                            · rw [if_pos c40] at H
                              have c40b0 : decide (x11_2 < (l0.length : Int)) = true := decide_eq_true c40
                              clear c40
                              have H' := Aside0.mk H
                              clear H
                              have p143 : 0 ≤ (x11_2 : Int) := of_decide_eq_true (by first | (with_reducible assumption) | assumption)
                              have q143 : x11_2 < (l0.length : Int) := of_decide_eq_true (by first | (with_reducible assumption) | assumption)
                              obtain ⟨ad143, e143, hx143_0⟩ := Kd.at_int (Kd.V_reads' HO_0.out).2.2 x11_2 p143 q143
                              obtain rfl : ad123 = ad143 := (by injection e143)
                              replace p143 := eq_true p143
                              replace q143 := eq_true q143
                              go_wp2
                              go_roundg kj32
                              case measure => have := HJ10.out; have := HK2.out; have := HJ32.out; omega
                              case rel => exact ⟨(wrap64 (x11_2 + 1)), (wrap64 ((wrap64 ((wrap64 (10 * x12_2)) + (wrap64 (rd l0 x11_2)))) - 48)), (by first | rfl | (simp; done) | (simp [*]; done)), (by first | rfl | (simp; done) | (simp [*]; done)), H', ⟨by have := HJ10.out; have := HK2.out; have := HJ32.out; omega⟩, ⟨by (with_reducible repeat (first | apply Kd.V_alloc | apply Kd.V_drewN | apply Kd.V_drew)); exact HO_0.out⟩, ⟨by (with_reducible repeat (first | refine blk_drewN ?_ _ | refine blk_drew ?_ | refine blk_alloc ?_ _)); exact BK122.out⟩, ⟨by repeat (first | (with_reducible first | exact HB.out | apply below_alloc | apply pw_below_drewN | apply below_drew1 | refine below_set ?_ GE122.out) | exact HB.out)⟩⟩
                            · rw [if_neg c40] at H
                              exact absurd H (by simp)
                          · rw [if_neg c39] at H
                            exact absurd H (by simp)
                        · rw [if_neg c38] at H
                          have c38b0 : decide (x12_2 < 100000) = false := decide_eq_false c38
                          clear c38
                          have H' := Aside0.mk H
                          clear H
                          go_wp2
                          go_roundg kj32
                          case measure => have := HJ10.out; have := HK2.out; have := HJ32.out; omega
                          case rel => exact ⟨(wrap64 (x11_2 + 1)), (x12_2), (by first | rfl | (simp; done) | (simp [*]; done)), (by first | rfl | (simp; done) | (simp [*]; done)), H', ⟨by have := HJ10.out; have := HK2.out; have := HJ32.out; omega⟩, ⟨by (with_reducible repeat (first | apply Kd.V_alloc | apply Kd.V_drewN | apply Kd.V_drew)); exact HO_0.out⟩, ⟨by (with_reducible repeat (first | refine blk_drewN ?_ _ | refine blk_drew ?_ | refine blk_alloc ?_ _)); exact BK122.out⟩, ⟨by repeat (first | (with_reducible first | exact HB.out | apply below_alloc | apply pw_below_drewN | apply below_drew1 | refine below_set ?_ GE122.out) | exact HB.out)⟩⟩
                      · replace c37 := Bool.eq_false_iff.mpr c37
                        subst c37
                        have H1 : (if x11_2 = a1 then (some (0, 0, 0, ([] : List Int), x11_2, a1)) else (if (wrap64 (x11_2 - a1)) > 4 then (some (0, 0, 0, ([] : List Int), x11_2, a1)) else (if (wrap64 (x11_2 - a1)) > 1 then (if (rd l0 a1) = 48 then (some (0, 0, 0, ([] : List Int), x11_2, a1)) else (some (2, a1, x12_2, ([] : List Int), x11_2, (-1)))) else (some (2, a1, x12_2, ([] : List Int), x11_2, (-1)))))) = some (r1, r2, r3, r4, r5, r6) := by rw [if_neg (show ¬ (false = true) by decide)] at H; exact H
                        clear H
                        have H := H1
                        clear H1
                        by_cases c41 : x11_2 = a1
                        · rw [if_pos c41] at H
                          have c41b0 : (x11_2 == a1) = true := beq_iff_eq.mpr c41
                          have c41b1 : (x11_2 != a1) = false := bne_eq_false_iff_eq.mpr c41
                          clear c41
                          simp only [Option.some.injEq, Prod.mk.injEq] at H
                          obtain ⟨rfl, rfl, rfl, rfl, rfl, rfl⟩ := H
                          have hcz42_0 : wc.cell? ⟨gb122, 0, none⟩ = some (.int .i64 0) := (blk_cell BK122.out 0).trans rfl
                          have hcz42_1 : wc.cell? ⟨gb122, 1, none⟩ = some (.int .i64 0) := (blk_cell BK122.out 1).trans rfl
                          have hcz42_2 : wc.cell? ⟨gb122, 2, none⟩ = some (.int .i64 0) := (blk_cell BK122.out 2).trans rfl
                          have hcz42_3 : wc.cell? ⟨gb122, 3, none⟩ = some (.slice none 0 0) := (blk_cell BK122.out 3).trans rfl
                          have hfz42_0 := blk_frozen BK122.out 0
                          have hfz42_1 := blk_frozen BK122.out 1
                          have hfz42_2 := blk_frozen BK122.out 2
                          have hfz42_3 := blk_frozen BK122.out 3
                          go_wp2
                          refine bodyPost_ret (results_ctt rfl _ _ gb122 119 #[.int .i64 0, .int .i64 0, .int .i64 0, .slice none 0 0] (0, 0) _ rfl (by (with_reducible repeat (first | refine blk_drewN ?_ _ | refine blk_drew ?_ | refine blk_alloc ?_ _)); refine blk_put (cs := #[.int .i64 0, .int .i64 0, .int .i64 0, .slice none 0 0]) ?_ 3 _ rfl; (with_reducible repeat (first | refine blk_drewN ?_ _ | refine blk_drew ?_ | refine blk_alloc ?_ _)); refine blk_put (cs := #[.int .i64 0, .int .i64 0, .int .i64 0, .slice none 0 0]) ?_ 2 _ rfl; (with_reducible repeat (first | refine blk_drewN ?_ _ | refine blk_drew ?_ | refine blk_alloc ?_ _)); refine blk_put (cs := #[.int .i64 0, .int .i64 0, .int .i64 0, .slice none 0 0]) ?_ 1 _ rfl; (with_reducible repeat (first | refine blk_drewN ?_ _ | refine blk_drew ?_ | refine blk_alloc ?_ _)); refine blk_put (cs := #[.int .i64 0, .int .i64 0, .int .i64 0, .slice none 0 0]) ?_ 0 _ rfl; (with_reducible repeat (first | refine blk_drewN ?_ _ | refine blk_drew ?_ | refine blk_alloc ?_ _)); exact BK122.out) Try.underlying119 rfl (by kernel_rfl)) rfl ?_
                          exact ⟨_, by first | rfl | (simp [errW_none, errW_some] <;> rfl) | (simp [*, errW_none, errW_some] <;> rfl), Kd.V_nil _ _ _ _ _, by repeat (first | (with_reducible first | exact HB.out | apply below_alloc | apply pw_below_drewN | apply below_drew1 | refine below_set ?_ GE122.out) | exact HB.out)⟩
                        · rw [if_neg c41] at H
                          have c41b0 : (x11_2 == a1) = false := beq_eq_false_iff_ne.mpr c41
                          have c41b1 : (x11_2 != a1) = true := bne_iff_ne.mpr c41
                          by_cases c43 : (wrap64 (x11_2 - a1)) > 4
                          · rw [if_pos c43] at H
                            have c43b0 : decide (4 < (wrap64 (x11_2 - a1))) = true := decide_eq_true c43
                            clear c43
                            simp only [Option.some.injEq, Prod.mk.injEq] at H
                            obtain ⟨rfl, rfl, rfl, rfl, rfl, rfl⟩ := H
                            have hcz44_0 : wc.cell? ⟨gb122, 0, none⟩ = some (.int .i64 0) := (blk_cell BK122.out 0).trans rfl
                            have hcz44_1 : wc.cell? ⟨gb122, 1, none⟩ = some (.int .i64 0) := (blk_cell BK122.out 1).trans rfl
                            have hcz44_2 : wc.cell? ⟨gb122, 2, none⟩ = some (.int .i64 0) := (blk_cell BK122.out 2).trans rfl
                            have hcz44_3 : wc.cell? ⟨gb122, 3, none⟩ = some (.slice none 0 0) := (blk_cell BK122.out 3).trans rfl
                            have hfz44_0 := blk_frozen BK122.out 0
                            have hfz44_1 := blk_frozen BK122.out 1
                            have hfz44_2 := blk_frozen BK122.out 2
                            have hfz44_3 := blk_frozen BK122.out 3
                            go_wp2
                            refine bodyPost_ret (results_ctt rfl _ _ gb122 119 #[.int .i64 0, .int .i64 0, .int .i64 0, .slice none 0 0] (0, 0) _ rfl (by (with_reducible repeat (first | refine blk_drewN ?_ _ | refine blk_drew ?_ | refine blk_alloc ?_ _)); refine blk_put (cs := #[.int .i64 0, .int .i64 0, .int .i64 0, .slice none 0 0]) ?_ 3 _ rfl; (with_reducible repeat (first | refine blk_drewN ?_ _ | refine blk_drew ?_ | refine blk_alloc ?_ _)); refine blk_put (cs := #[.int .i64 0, .int .i64 0, .int .i64 0, .slice none 0 0]) ?_ 2 _ rfl; (with_reducible repeat (first | refine blk_drewN ?_ _ | refine blk_drew ?_ | refine blk_alloc ?_ _)); refine blk_put (cs := #[.int .i64 0, .int .i64 0, .int .i64 0, .slice none 0 0]) ?_ 1 _ rfl; (with_reducible repeat (first | refine blk_drewN ?_ _ | refine blk_drew ?_ | refine blk_alloc ?_ _)); refine blk_put (cs := #[.int .i64 0, .int .i64 0, .int .i64 0, .slice none 0 0]) ?_ 0 _ rfl; (with_reducible repeat (first | refine blk_drewN ?_ _ | refine blk_drew ?_ | refine blk_alloc ?_ _)); exact BK122.out) Try.underlying119 rfl (by kernel_rfl)) rfl ?_
                            exact ⟨_, by first | rfl | (simp [errW_none, errW_some] <;> rfl) | (simp [*, errW_none, errW_some] <;> rfl), Kd.V_nil _ _ _ _ _, by repeat (first | (with_reducible first | exact HB.out | apply below_alloc | apply pw_below_drewN | apply below_drew1 | refine below_set ?_ GE122.out) | exact HB.out)⟩
                          · rw [if_neg c43] at H
                            have c43b0 : decide (4 < (wrap64 (x11_2 - a1))) = false := decide_eq_false c43
                            clear c43
                            by_cases c45 : (wrap64 (x11_2 - a1)) > 1
                            · rw [if_pos c45] at H
                              have c45b0 : decide (1 < (wrap64 (x11_2 - a1))) = true := decide_eq_true c45
                              clear c45
                              by_cases c46 : (rd l0 a1) = 48
                              · rw [if_pos c46] at H
                                have c46b0 : ((rd l0 a1) == 48) = true := beq_iff_eq.mpr c46
                                have c46b1 : ((rd l0 a1) != 48) = false := bne_eq_false_iff_eq.mpr c46
                                clear c46
                                simp only [Option.some.injEq, Prod.mk.injEq] at H
                                obtain ⟨rfl, rfl, rfl, rfl, rfl, rfl⟩ := H
                                have hcz47_0 : wc.cell? ⟨gb122, 0, none⟩ = some (.int .i64 0) := (blk_cell BK122.out 0).trans rfl
                                have hcz47_1 : wc.cell? ⟨gb122, 1, none⟩ = some (.int .i64 0) := (blk_cell BK122.out 1).trans rfl
                                have hcz47_2 : wc.cell? ⟨gb122, 2, none⟩ = some (.int .i64 0) := (blk_cell BK122.out 2).trans rfl
                                have hcz47_3 : wc.cell? ⟨gb122, 3, none⟩ = some (.slice none 0 0) := (blk_cell BK122.out 3).trans rfl
                                have hfz47_0 := blk_frozen BK122.out 0
                                have hfz47_1 := blk_frozen BK122.out 1
                                have hfz47_2 := blk_frozen BK122.out 2
                                have hfz47_3 := blk_frozen BK122.out 3
                                go_wp2
                                refine bodyPost_ret (results_ctt rfl _ _ gb122 119 #[.int .i64 0, .int .i64 0, .int .i64 0, .slice none 0 0] (0, 0) _ rfl (by (with_reducible repeat (first | refine blk_drewN ?_ _ | refine blk_drew ?_ | refine blk_alloc ?_ _)); refine blk_put (cs := #[.int .i64 0, .int .i64 0, .int .i64 0, .slice none 0 0]) ?_ 3 _ rfl; (with_reducible repeat (first | refine blk_drewN ?_ _ | refine blk_drew ?_ | refine blk_alloc ?_ _)); refine blk_put (cs := #[.int .i64 0, .int .i64 0, .int .i64 0, .slice none 0 0]) ?_ 2 _ rfl; (with_reducible repeat (first | refine blk_drewN ?_ _ | refine blk_drew ?_ | refine blk_alloc ?_ _)); refine blk_put (cs := #[.int .i64 0, .int .i64 0, .int .i64 0, .slice none 0 0]) ?_ 1 _ rfl; (with_reducible repeat (first | refine blk_drewN ?_ _ | refine blk_drew ?_ | refine blk_alloc ?_ _)); refine blk_put (cs := #[.int .i64 0, .int .i64 0, .int .i64 0, .slice none 0 0]) ?_ 0 _ rfl; (with_reducible repeat (first | refine blk_drewN ?_ _ | refine blk_drew ?_ | refine blk_alloc ?_ _)); exact BK122.out) Try.underlying119 rfl (by kernel_rfl)) rfl ?_
                                exact ⟨_, by first | rfl | (simp [errW_none, errW_some] <;> rfl) | (simp [*, errW_none, errW_some] <;> rfl), Kd.V_nil _ _ _ _ _, by repeat (first | (with_reducible first | exact HB.out | apply below_alloc | apply pw_below_drewN | apply below_drew1 | refine below_set ?_ GE122.out) | exact HB.out)⟩
                              · rw [if_neg c46] at H
                                have c46b0 : ((rd l0 a1) == 48) = false := beq_eq_false_iff_ne.mpr c46
                                have c46b1 : ((rd l0 a1) != 48) = true := bne_iff_ne.mpr c46
                                simp only [Option.some.injEq, Prod.mk.injEq] at H
                                obtain ⟨rfl, rfl, rfl, rfl, rfl, rfl⟩ := H
                                have hcz48_0 : wc.cell? ⟨gb122, 0, none⟩ = some (.int .i64 0) := (blk_cell BK122.out 0).trans rfl
                                have hcz48_1 : wc.cell? ⟨gb122, 1, none⟩ = some (.int .i64 0) := (blk_cell BK122.out 1).trans rfl
                                have hcz48_2 : wc.cell? ⟨gb122, 2, none⟩ = some (.int .i64 0) := (blk_cell BK122.out 2).trans rfl
                                have hcz48_3 : wc.cell? ⟨gb122, 3, none⟩ = some (.slice none 0 0) := (blk_cell BK122.out 3).trans rfl
                                have hfz48_0 := blk_frozen BK122.out 0
                                have hfz48_1 := blk_frozen BK122.out 1
                                have hfz48_2 := blk_frozen BK122.out 2
                                have hfz48_3 := blk_frozen BK122.out 3
                                go_wp2
                                refine bodyPost_ret (results_ctt rfl _ _ gb122 119 #[.int .i64 2, .int .i64 a1, .int .i64 x12_2, .slice none 0 0] (0, 0) _ rfl (by (with_reducible repeat (first | refine blk_drewN ?_ _ | refine blk_drew ?_ | refine blk_alloc ?_ _)); refine blk_put (cs := #[.int .i64 2, .int .i64 a1, .int .i64 x12_2, .slice none 0 0]) ?_ 3 _ rfl; (with_reducible repeat (first | refine blk_drewN ?_ _ | refine blk_drew ?_ | refine blk_alloc ?_ _)); refine blk_put (cs := #[.int .i64 2, .int .i64 a1, .int .i64 0, .slice none 0 0]) ?_ 2 _ rfl; (with_reducible repeat (first | refine blk_drewN ?_ _ | refine blk_drew ?_ | refine blk_alloc ?_ _)); refine blk_put (cs := #[.int .i64 2, .int .i64 0, .int .i64 0, .slice none 0 0]) ?_ 1 _ rfl; (with_reducible repeat (first | refine blk_drewN ?_ _ | refine blk_drew ?_ | refine blk_alloc ?_ _)); refine blk_put (cs := #[.int .i64 0, .int .i64 0, .int .i64 0, .slice none 0 0]) ?_ 0 _ rfl; (with_reducible repeat (first | refine blk_drewN ?_ _ | refine blk_drew ?_ | refine blk_alloc ?_ _)); exact BK122.out) Try.underlying119 rfl (by kernel_rfl)) rfl ?_
                                exact ⟨_, by first | rfl | (simp [errW_none, errW_some] <;> rfl) | (simp [*, errW_none, errW_some] <;> rfl), Kd.V_nil _ _ _ _ _, by repeat (first | (with_reducible first | exact HB.out | apply below_alloc | apply pw_below_drewN | apply below_drew1 | refine below_set ?_ GE122.out) | exact HB.out)⟩
                            · rw [if_neg c45] at H
                              have c45b0 : decide (1 < (wrap64 (x11_2 - a1))) = false := decide_eq_false c45
                              clear c45
                              simp only [Option.some.injEq, Prod.mk.injEq] at H
                              obtain ⟨rfl, rfl, rfl, rfl, rfl, rfl⟩ := H
                              have hcz49_0 : wc.cell? ⟨gb122, 0, none⟩ = some (.int .i64 0) := (blk_cell BK122.out 0).trans rfl
                              have hcz49_1 : wc.cell? ⟨gb122, 1, none⟩ = some (.int .i64 0) := (blk_cell BK122.out 1).trans rfl
                              have hcz49_2 : wc.cell? ⟨gb122, 2, none⟩ = some (.int .i64 0) := (blk_cell BK122.out 2).trans rfl
                              have hcz49_3 : wc.cell? ⟨gb122, 3, none⟩ = some (.slice none 0 0) := (blk_cell BK122.out 3).trans rfl
                              have hfz49_0 := blk_frozen BK122.out 0
                              have hfz49_1 := blk_frozen BK122.out 1
                              have hfz49_2 := blk_frozen BK122.out 2
                              have hfz49_3 := blk_frozen BK122.out 3
                              go_wp2
                              refine bodyPost_ret (results_ctt rfl _ _ gb122 119 #[.int .i64 2, .int .i64 a1, .int .i64 x12_2, .slice none 0 0] (0, 0) _ rfl (by (with_reducible repeat (first | refine blk_drewN ?_ _ | refine blk_drew ?_ | refine blk_alloc ?_ _)); refine blk_put (cs := #[.int .i64 2, .int .i64 a1, .int .i64 x12_2, .slice none 0 0]) ?_ 3 _ rfl; (with_reducible repeat (first | refine blk_drewN ?_ _ | refine blk_drew ?_ | refine blk_alloc ?_ _)); refine blk_put (cs := #[.int .i64 2, .int .i64 a1, .int .i64 0, .slice none 0 0]) ?_ 2 _ rfl; (with_reducible repeat (first | refine blk_drewN ?_ _ | refine blk_drew ?_ | refine blk_alloc ?_ _)); refine blk_put (cs := #[.int .i64 2, .int .i64 0, .int .i64 0, .slice none 0 0]) ?_ 1 _ rfl; (with_reducible repeat (first | refine blk_drewN ?_ _ | refine blk_drew ?_ | refine blk_alloc ?_ _)); refine blk_put (cs := #[.int .i64 0, .int .i64 0, .int .i64 0, .slice none 0 0]) ?_ 0 _ rfl; (with_reducible repeat (first | refine blk_drewN ?_ _ | refine blk_drew ?_ | refine blk_alloc ?_ _)); exact BK122.out) Try.underlying119 rfl (by kernel_rfl)) rfl ?_
                              exact ⟨_, by first | rfl | (simp [errW_none, errW_some] <;> rfl) | (simp [*, errW_none, errW_some] <;> rfl), Kd.V_nil _ _ _ _ _, by repeat (first | (with_reducible first | exact HB.out | apply below_alloc | apply pw_below_drewN | apply below_drew1 | refine below_set ?_ GE122.out) | exact HB.out)⟩
    · rw [if_neg c4] at H
      exact absurd H (by simp)
  · rw [if_neg c3] at H
    exact absurd H (by simp)

end Go.Proofs.Ytpcapijakenjbaa.GLex
