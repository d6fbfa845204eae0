/- instructions: the laws NfaHas, NfaBuilds. -/
import Derived.Test.YtgebfcdcpmmgnaaVnO
import Derived.Test.YtgebfcdcpmmgnaaVnT
import Derived.Test.YtgebfcdcpmmgnaaVsY
set_option linter.unusedVariables false
set_option linter.unusedSimpArgs false
namespace Go.Proofs.Ytgebfcdcpmmgnaa.Vs
open Go.RowKit
set_option maxRecDepth 100000
abbrev egOps : List OpS := [⟨1, false, [⟨97, 97⟩]⟩, ⟨1, false, [⟨98, 98⟩]⟩, ⟨4, false, []⟩]
abbrev egIns : List InstS := [⟨2, 1, 3, false, []⟩, ⟨1, 0, 0, false, [⟨97, 97⟩]⟩, ⟨3, 2, 0, false, []⟩, ⟨1, 0, 0, false, [⟨98, 98⟩]⟩, ⟨4, 0, 0, false, []⟩]
theorem eg_parse : parseS [97, 124, 98] = (egOps, 0, 0) := by decide +kernel
theorem eg_build : buildS egOps = (egIns, 0) := by decide +kernel
theorem eg_has : InstS.has ⟨1, 0, 0, false, [⟨97, 97⟩]⟩ 97 = true ∧ InstS.has ⟨1, 0, 0, false, [⟨97, 97⟩]⟩ 98 = false := by decide +kernel
set_option maxHeartbeats 4000000 in
theorem nknows_fn : Fn Try.prog 33 [] [] (bool true) [] := by
  have c1 := parse_fn [97, 124, 98]
  rw [eg_parse] at c1
  have c2 := build_fn egOps (by decide) (by decide)
  rw [eg_build] at c2
  have c3 := has_fn ⟨1, 0, 0, false, [⟨97, 97⟩]⟩ 97
  have c4 := has_fn ⟨1, 0, 0, false, [⟨97, 97⟩]⟩ 98
  rw [eg_has.1] at c3
  rw [eg_has.2] at c4
  refine en Try.func33 (hfr := by (simp only [Try.ntmps33, go_sem, Nat.reduceSub, Nat.reduceAdd]; rfl)) ?_
  repeat' (first | exact absurd hb Bool.false_ne_true | exact absurd hb.symm Bool.false_ne_true | refine W.seq ?_ | refine W.block ?_ | (refine rg [] ?_; intro K hK) | (refine dr [] ?_; intro K hK) | refine cl (c1) ?_ | refine cl (c2) ?_ | refine cl (c3) ?_ | refine cl (c4) ?_ | refine oq ?_ | refine sk ?_ | (refine nk hK ?_; clear hK K) | (refine nd hK ?_; clear hK K) | refine sp ?_ | refine ex ?_ | (refine gs (fun hb => ?_) (fun hb => ?_) <;> replace hb := nb hb <;> try exact noB hb) | (refine cd (fun hb => ?_) (fun hb => ?_) <;> replace hb := nb hb <;> try exact noB hb) | (with_reducible refine Exists.intro _ (And.intro rfl ?_)) | ((with_reducible refine And.intro ?_ ?_); (focus exact sdA)) | fail)
  all_goals (refine rt ?_; refine fin ?_; exact wqA)
/-- What holds of all instructions that are built. -/
theorem runP_all (Q : InstS → Prop) (l : List OpS) (hs : ∀ o ∈ l, Q ⟨1, 0, 0, o.not, o.spans⟩) (h2 : ∀ x y, Q ⟨2, x, y, false, []⟩) (h3 : ∀ x, Q ⟨3, x, 0, false, []⟩) : ∀ sp, runP l = some sp → ∀ x ∈ sp, ∀ i ∈ x, Q i := by
  suffices h : ∀ m : List OpS, (∀ o ∈ m, Q ⟨1, 0, 0, o.not, o.spans⟩) → ∀ sp, runP m.reverse = some sp → ∀ x ∈ sp, ∀ i ∈ x, Q i by
    have := h l.reverse (fun o ho => hs o (by simpa using ho))
    rwa [List.reverse_reverse] at this
  intro m
  induction m with
  | nil => intro _ sp h x hx; cases h; cases hx
  | cons o m ih =>
    intro hm sp h
    rw [List.reverse_cons, runP_snoc] at h
    cases hp : runP m.reverse with
    | none => rw [hp] at h; cases h
    | some s =>
      rw [hp] at h
      have hq := ih (fun o ho => hm o (List.mem_cons_of_mem _ ho)) s hp
      have hset := hm o (by simp)
      have h : stepP o s = some sp := h
      have key : ∀ (y : List InstS) (r : List (List InstS)), some (y :: r) = some sp → (∀ i ∈ y, Q i) → (∀ x ∈ r, x ∈ s) → ∀ x ∈ sp, ∀ i ∈ x, Q i := fun y r e hy hr x hx i hi => by
        injection e with e
        subst e
        rcases List.mem_cons.1 hx with rfl | hx
        · exact hy i hi
        · exact hq x (hr x hx) i hi
      unfold stepP at h
      split at h
      · exact key _ _ h (fun i hi => by rw [List.mem_singleton] at hi; subst hi; exact hset) (fun x hx => hx)
      split at h
      · exact key _ _ h (fun i hi => by cases hi) (fun x hx => hx)
      split at h
      · split at h
        · rename_i b a r _
          refine key _ _ h (fun i hi => ?_) (fun x hx => by simp [hx])
          rcases List.mem_append.1 hi with hi | hi
          · exact hq a (by simp) i hi
          · exact hq b (by simp) i hi
        · cases h
      split at h
      · split at h
        · rename_i b a r _
          refine key _ _ h (fun i hi => ?_) (fun x hx => by simp [hx])
          unfold altL at hi
          rcases List.mem_cons.1 hi with rfl | hi
          · exact h2 _ _
          rcases List.mem_append.1 hi with hi | hi
          · exact hq a (by simp) i hi
          rcases List.mem_cons.1 hi with rfl | hi
          · exact h3 _
          · exact hq b (by simp) i hi
        · cases h
      split at h
      · split at h
        · rename_i a r _
          refine key _ _ h (fun i hi => ?_) (fun x hx => by simp [hx])
          unfold starL at hi
          rcases List.mem_cons.1 hi with rfl | hi
          · exact h2 _ _
          rcases List.mem_append.1 hi with hi | hi
          · exact hq a (by simp) i hi
          · rw [List.mem_singleton] at hi; subst hi; exact h3 _
        · cases h
      split at h
      · split at h
        · rename_i a r _
          refine key _ _ h (fun i hi => ?_) (fun x hx => by simp [hx])
          unfold plusL at hi
          rcases List.mem_append.1 hi with hi | hi
          · exact hq a (by simp) i hi
          · rw [List.mem_singleton] at hi; subst hi; exact h2 _ _
        · cases h
      split at h
      · split at h
        · rename_i a r _
          refine key _ _ h (fun i hi => ?_) (fun x hx => by simp [hx])
          unfold optL at hi
          rcases List.mem_cons.1 hi with rfl | hi
          · exact h2 _ _
          · exact hq a (by simp) i hi
        · cases h
      · cases h
theorem buildS_fit (l : List OpS) (hl : l.length ≤ 1000) (B : Nat) (hs : ∀ o ∈ l, o.spans.length ≤ B) : (buildS l).1.length ≤ 3001 ∧ ∀ i ∈ (buildS l).1, i.spans.length ≤ B := by
  rcases buildS_eq l with ⟨_, h⟩ | ⟨_, _, h⟩ | ⟨_, _, x, hr, h⟩
  · rw [h]; exact ⟨by simp, by simp⟩
  · rw [h]; exact ⟨by simp, by simp⟩
  · rw [h]
    have h1 : x.length ≤ 3000 := piece_len (l := l) (i := l.length) hl (by rw [List.take_of_length_le (Nat.le_refl _)]; exact hr) (by simp)
    refine ⟨by simp; omega, fun i hi => ?_⟩
    rcases List.mem_append.1 hi with hi | hi
    · exact runP_all (fun i => i.spans.length ≤ B) l hs (fun _ _ => Nat.zero_le _) (fun _ => Nat.zero_le _) _ hr x (by simp) i hi
    · rw [List.mem_singleton] at hi; subst hi; exact Nat.zero_le _
set_option maxHeartbeats 4000000 in
theorem nfaBuilds_fn (l : List OpS) : Fn Try.prog 9 [.d (opsD l)] [] (bool true) [] := by
  have ck := nknows_fn
  have cf := nfew_fn l
  cases hf : (l.all (fun o => decide (o.spans.length ≤ 60)) && decide (l.length ≤ 400)) with
  | false =>
    rw [hf] at cf
    refine en Try.func9 (hfr := by (simp only [Try.ntmps9, go_sem, Nat.reduceSub, Nat.reduceAdd]; rfl)) ?_
    repeat' (first | exact absurd hb Bool.false_ne_true | exact absurd hb.symm Bool.false_ne_true | refine W.seq ?_ | refine W.block ?_ | (refine rg [] ?_; intro K hK) | (refine dr [] ?_; intro K hK) | refine cl (cf) ?_ | refine cl (ck) ?_ | refine oq ?_ | refine sk ?_ | (refine nk hK ?_; clear hK K) | (refine nd hK ?_; clear hK K) | refine sp ?_ | refine ex ?_ | (refine gs (fun hb => ?_) (fun hb => ?_) <;> replace hb := nb hb <;> try exact noB hb) | (refine cd (fun hb => ?_) (fun hb => ?_) <;> replace hb := nb hb <;> try exact noB hb) | (with_reducible refine Exists.intro _ (And.intro rfl ?_)) | ((with_reducible refine And.intro ?_ ?_); (focus exact sdA)) | fail)
    all_goals (refine rt ?_; refine fin ?_; exact wqA)
  | true =>
    rw [hf] at cf
    simp only [Bool.and_eq_true, decide_eq_true_eq, List.all_eq_true] at hf
    obtain ⟨hs, hl⟩ := hf
    have hs2 : ∀ o ∈ l, o.spans.length ≤ 10000 := fun o ho => by have := hs o ho; omega
    have hb := buildS_fit l (by omega) 60 hs
    have c1 := build_fn l (by omega) hs2
    have c2 := ras_fn l (by omega) hs2
    have c3 := xbuild_fn l (by omega)
    have c4 := nas_fn (buildS l).1 (by omega) (fun i hi => by have := hb.2 i hi; omega)
    have c5 := same_fn (buildS l).1 (by omega) (fun i hi => by have := hb.2 i hi; omega)
    refine en Try.func9 (hfr := by (simp only [Try.ntmps9, go_sem, Nat.reduceSub, Nat.reduceAdd]; rfl)) ?_
    repeat' (first | exact absurd hb Bool.false_ne_true | exact absurd hb.symm Bool.false_ne_true | refine W.seq ?_ | refine W.block ?_ | (refine rg [] ?_; intro K hK) | (refine dr [] ?_; intro K hK) | refine cl (cf) ?_ | refine cl (ck) ?_ | refine cl (c1) ?_ | refine cl (c2) ?_ | refine cl (c3) ?_ | refine cl (c4) ?_ | refine cl (c5) ?_ | refine oq ?_ | refine sk ?_ | (refine nk hK ?_; clear hK K) | (refine nd hK ?_; clear hK K) | refine sp ?_ | refine ex ?_ | (refine gs (fun hb => ?_) (fun hb => ?_) <;> replace hb := nb hb <;> try exact noB hb) | (refine cd (fun hb => ?_) (fun hb => ?_) <;> replace hb := nb hb <;> try exact noB hb) | (with_reducible refine Exists.intro _ (And.intro rfl ?_)) | ((with_reducible refine And.intro ?_ ?_); (focus exact sdA)) | fail)
    all_goals (refine rt ?_; refine fin ?_; exact wqA)
set_option maxHeartbeats 4000000 in
theorem nfaHas_fn (x : InstS) (c : UInt8) : Fn Try.prog 10 [x.v, .d (u8 c)] [] (bool true) [] := by
  have ck := nknows_fn
  have c1 := has_fn x c
  have c2 := xhas_fn x c
  by_cases hs : x.spans.length ≤ 60
  · have c3 := nas_fn [x] (by simp) (fun i hi => by rw [List.mem_singleton] at hi; subst hi; omega)
    refine en Try.func10 (hfr := by (simp only [Try.ntmps10, go_sem, Nat.reduceSub, Nat.reduceAdd]; rfl)) ?_
    repeat' (first | exact absurd hb Bool.false_ne_true | exact absurd hb.symm Bool.false_ne_true | refine W.seq ?_ | refine W.block ?_ | (refine rg [] ?_; intro K hK) | (refine dr [] ?_; intro K hK) | refine cl (ck) ?_ | refine cl (c1) ?_ | refine cl (c2) ?_ | refine cl (c3) ?_ | refine oq ?_ | refine sk ?_ | (refine nk hK ?_; clear hK K) | (refine nd hK ?_; clear hK K) | refine sp ?_ | refine ex ?_ | (refine gs (fun hb => ?_) (fun hb => ?_) <;> replace hb := nb hb <;> try exact noB hb) | (refine cd (fun hb => ?_) (fun hb => ?_) <;> replace hb := nb hb <;> try exact noB hb) | (with_reducible refine Exists.intro _ (And.intro rfl ?_)) | ((with_reducible refine And.intro ?_ ?_); (focus exact sdA)) | fail)
    all_goals (refine rt ?_; refine fin ?_; exact wqA)
  · skip
    refine en Try.func10 (hfr := by (simp only [Try.ntmps10, go_sem, Nat.reduceSub, Nat.reduceAdd]; rfl)) ?_
    repeat' (first | exact absurd hb Bool.false_ne_true | exact absurd hb.symm Bool.false_ne_true | refine W.seq ?_ | refine W.block ?_ | (refine rg [] ?_; intro K hK) | (refine dr [] ?_; intro K hK) | refine cl (ck) ?_ | refine oq ?_ | refine sk ?_ | (refine nk hK ?_; clear hK K) | (refine nd hK ?_; clear hK K) | refine sp ?_ | refine ex ?_ | (refine gs (fun hb => ?_) (fun hb => ?_) <;> replace hb := nb hb <;> try exact noB hb) | (refine cd (fun hb => ?_) (fun hb => ?_) <;> replace hb := nb hb <;> try exact noB hb) | (with_reducible refine Exists.intro _ (And.intro rfl ?_)) | ((with_reducible refine And.intro ?_ ?_); (focus exact sdA)) | fail)
    all_goals (refine rt ?_; refine fin ?_; exact wqA)

abbrev IntN := { n : Int // (Lit.int .i64 n).wf = true }
theorem fdn_i64 {t : TypeId} (h : t = 3) : FD Try.prog t 1 (fun n : IntN => [.int .i64 n.1]) := by subst h; exact fd_int Try.underlying3 (by kernel_rfl)
theorem fdn_bool {t : TypeId} (h : t = 4) : FD Try.prog t 1 (fun b : Bool => [.bool b]) := by subst h; exact fd_bool Try.underlying4 (by kernel_rfl)
theorem fdn_byte {t : TypeId} (h : t = 5) : FD Try.prog t 1 (fun b : UInt8 => [u8 b]) := by subst h; exact fd_byte Try.underlying5 (by kernel_rfl)
theorem fdn_span {t : TypeId} (h : t = 151) : FD Try.prog t 2 (fun s : SpanS => [u8 s.lo, u8 s.hi]) := by
  subst h
  exact FD.to (fd_struct (q := 1 + 1) (f := fun x : UInt8 × UInt8 => [u8 x.1] ++ [u8 x.2]) Try.underlying151 (by kernel_rfl) (by decide) (.cons rfl (fdn_byte rfl) (.one rfl (fdn_byte rfl)))) fun x => ⟨⟨x.1, x.2⟩, rfl⟩
theorem fdn_spans {t : TypeId} (h : t = 79) : FD Try.prog t 1 (fun l : List SpanS => [spansD l]) := by subst h; exact fd_slA Try.underlying79 (by kernel_rfl) (fdn_span rfl)
theorem fd_op : FD Try.prog 138 3 (fun o : OpS => [.int .i64 o.kind, .bool o.not, spansD o.spans]) :=
  FD.to (fd_struct (q := 1 + (1 + 1)) (f := fun x : IntN × Bool × List SpanS => [.int .i64 x.1.1] ++ ([.bool x.2.1] ++ [spansD x.2.2])) Try.underlying138 (by kernel_rfl) (by decide) (.cons rfl (fdn_i64 rfl) (.cons rfl (fdn_bool rfl) (.one rfl (fdn_spans rfl))))) fun x => ⟨⟨x.1.1, x.2.1, x.2.2⟩, rfl⟩
theorem fd_inst : FD Try.prog 81 5 (fun o : InstS => [.int .i64 o.kind, .int .i64 o.x, .int .i64 o.y, .bool o.not, spansD o.spans]) :=
  FD.to (fd_struct (q := 1 + (1 + (1 + (1 + 1)))) (f := fun x : IntN × IntN × IntN × Bool × List SpanS => [.int .i64 x.1.1] ++ ([.int .i64 x.2.1.1] ++ ([.int .i64 x.2.2.1.1] ++ ([.bool x.2.2.2.1] ++ [spansD x.2.2.2.2])))) Try.underlying81 (by kernel_rfl) (by decide) (.cons rfl (fdn_i64 rfl) (.cons rfl (fdn_i64 rfl) (.cons rfl (fdn_i64 rfl) (.cons rfl (fdn_bool rfl) (.one rfl (fdn_spans rfl))))))) fun x => ⟨⟨x.1.1, x.2.1.1, x.2.2.1.1, x.2.2.2.1, x.2.2.2.2⟩, rfl⟩
theorem nfaBuilds_vs (l : List OpS) : Fn Try.prog 9 [.d (.sl 3 (l.map fun o => .agg [.int .i64 o.kind, .bool o.not, spansD o.spans]))] [] (bool true) [] := nfaBuilds_fn l
theorem nfaHas_vs (x : InstS) (c : Int) (hw : (Lit.int .u8 c).wf = true) : Fn Try.prog 10 [.agg [i64 x.kind, i64 x.x, i64 x.y, bool x.not, .d (spansD x.spans)], .d (.int .u8 c)] [] (bool true) [] := by
  have h3 : 0 ≤ c ∧ c ≤ 255 := Sl.wf_inR hw
  have e : c = (((UInt8.ofNat c.toNat).toNat : Nat) : Int) := by rw [u8_of, wrap8]; omega
  rw [e]
  exact nfaHas_fn x (UInt8.ofNat c.toNat)
end Go.Proofs.Ytgebfcdcpmmgnaa.Vs
