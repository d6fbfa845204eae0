/- records: reading back what was put, putting what was read; records: what bytes are read as, as the document says; records: what bytes are read as, whatever they are; records: the two laws. -/
import Derived.Test.YtpmbeldmclcjlaaVrO
import Derived.Test.YtpmbeldmclcjlaaVpN
import Derived.Test.YtpmbeldmclcjlaaVrM
import Derived.Test.YtpmbeldmclcjlaaVsY
set_option linter.unusedVariables false
set_option linter.unusedSimpArgs false
namespace Go.Proofs.Ytpmbeldmclcjlaa.Vs
open Go.RowKit
set_option maxRecDepth 100000
/-- A number that was put is read. -/
theorem rdN_put (n k : Nat) (xs : List UInt8) (h : n < 256 ^ k) : rdN k (numB n k ++ xs, false) = n := by
  unfold rdN
  rw [if_neg (by simp), List.take_left' (by simp), numOf_numB k n h]
theorem rdNs_put (n k : Nat) (xs : List UInt8) : rdNs k (numB n k ++ xs, false) = (xs, false) := by
  unfold rdNs
  rw [if_neg (by simp), List.drop_left' (by simp)]
theorem rdT_put (t xs : List UInt8) (h : t.length ≤ 65535) : rdT (txtB t ++ xs, false) = t := by
  unfold rdT txtB
  rw [List.append_assoc, rdNs_put, rdN_put _ _ _ (by omega), if_neg (by simp), List.take_left' rfl]
theorem rdTs_put (t xs : List UInt8) (h : t.length ≤ 65535) : rdTs (txtB t ++ xs, false) = (xs, false) := by
  unfold rdTs txtB
  rw [List.append_assoc, rdNs_put, rdN_put _ _ _ (by omega), if_neg (by simp), List.drop_left' rfl]
theorem rdVs_in (n : Nat) (s : RS) : rdVs (n + 1) s = rdVs n (rdTs s) := by
  induction n with
  | zero => rfl
  | succ n ih => rw [rdVs, ih, rdVs]
theorem rdV_in (n : Nat) (s : RS) : rdV (n + 1) s = rdT s :: rdV n (rdTs s) := by
  induction n with
  | zero => rfl
  | succ n ih => rw [rdV, ih, rdV, rdVs_in, List.cons_append]
theorem rdVs_put : ∀ (l : List (List UInt8)) (xs : List UInt8), (∀ t ∈ l, t.length ≤ 65535) → rdVs l.length (txtsB l ++ xs, false) = (xs, false) ∧ rdV l.length (txtsB l ++ xs, false) = l
  | [], xs, _ => ⟨rfl, rfl⟩
  | t :: l, xs, h => by
    have h1 := h t (by simp)
    have ih := rdVs_put l xs (fun u hu => h u (by simp [hu]))
    have e : txtsB (t :: l) ++ xs = txtB t ++ (txtsB l ++ xs) := by simp [txtsB]
    rw [e, List.length_cons, rdVs_in, rdV_in, rdT_put _ _ h1, rdTs_put _ _ h1, ih.1, ih.2]
    exact ⟨rfl, rfl⟩
/-- What was read was there, and is so with more behind it. -/
theorem rdNs_good {k : Nat} {s : RS} (h : (rdNs k s).2 = false) : s.2 = false ∧ s.1 = numB (rdN k s) k ++ (rdNs k s).1 := by
  obtain ⟨b, bad⟩ := s
  unfold rdNs rdN at *
  split at h
  · cases h
  · rename_i hc
    simp only [not_or, Nat.not_lt, Bool.not_eq_true] at hc
    rw [if_neg (by simp [hc])]
    refine ⟨hc.1, ?_⟩
    simp only [Bool.not_eq_true] at *
    rw [numB_numOf b k hc.2, if_neg (by simp [hc])]
    exact (List.take_append_drop k b).symm
theorem rdNs_more {k : Nat} {s : RS} (m : List UInt8) (h : (rdNs k s).2 = false) : rdN k (s.1 ++ m, false) = rdN k s ∧ rdNs k (s.1 ++ m, false) = ((rdNs k s).1 ++ m, false) := by
  have h1 := (rdNs_good h).2
  have h2 := rdN_lt k s
  rw [h1, List.append_assoc, rdN_put _ _ _ h2, rdNs_put]
  exact ⟨rfl, rfl⟩
theorem rdTs_good {s : RS} (h : (rdTs s).2 = false) : s.2 = false ∧ (rdT s).length ≤ 65535 ∧ s.1 = txtB (rdT s) ++ (rdTs s).1 := by
  have h2 := rdN_lt 2 s
  unfold rdTs rdT at *
  split at h
  · cases h
  · rename_i hc
    simp only [not_or, Nat.not_lt, Bool.not_eq_true] at hc
    rw [if_neg (by simp [hc]), if_neg (by simp [hc])]
    have h1 := rdNs_good hc.1
    have hl : ((rdNs 2 s).1.take (rdN 2 s)).length = rdN 2 s := by rw [List.length_take]; omega
    refine ⟨h1.1, by rw [hl]; omega, ?_⟩
    unfold txtB
    rw [hl, List.append_assoc]
    show _ = _ ++ (_ ++ (rdNs 2 s).1.drop (rdN 2 s))
    rw [List.take_append_drop]
    exact h1.2
theorem rdTs_more {s : RS} (m : List UInt8) (h : (rdTs s).2 = false) : rdT (s.1 ++ m, false) = rdT s ∧ rdTs (s.1 ++ m, false) = ((rdTs s).1 ++ m, false) := by
  have h1 := (rdTs_good h).2
  rw [h1.2, List.append_assoc, rdT_put _ _ h1.1, rdTs_put _ _ h1.1]
  exact ⟨rfl, rfl⟩
theorem rdVs_good : ∀ {n : Nat} {s : RS}, (rdVs n s).2 = false → s.2 = false ∧ (∀ t ∈ rdV n s, t.length ≤ 65535) ∧ s.1 = txtsB (rdV n s) ++ (rdVs n s).1
  | 0, s, h => ⟨h, by simp [rdV], by simp [rdV, rdVs, txtsB]⟩
  | n + 1, s, h => by
    rw [rdVs_in] at h
    have ih := rdVs_good h
    have h1 := rdTs_good ih.1
    rw [rdV_in, rdVs_in]
    refine ⟨h1.1, fun t ht => ?_, ?_⟩
    · rcases List.mem_cons.1 ht with rfl | ht
      · exact h1.2.1
      · exact ih.2.1 t ht
    · have e : txtsB (rdT s :: rdV n (rdTs s)) = txtB (rdT s) ++ txtsB (rdV n (rdTs s)) := by simp [txtsB]
      rw [e, List.append_assoc, ← ih.2.2]
      exact h1.2.2
theorem rdVs_more {n : Nat} {s : RS} (m : List UInt8) (h : (rdVs n s).2 = false) : rdV n (s.1 ++ m, false) = rdV n s ∧ rdVs n (s.1 ++ m, false) = ((rdVs n s).1 ++ m, false) := by
  have h1 := (rdVs_good h).2
  have h2 := rdVs_put (rdV n s) ((rdVs n s).1 ++ m) h1.1
  rw [rdV_len] at h2
  rw [h1.2, List.append_assoc]
  exact ⟨h2.2, h2.1⟩
theorem rdE_iff {s : RS} : rdE s = true ↔ s = ([], false) := by
  obtain ⟨b, bad⟩ := s
  unfold rdE
  cases bad <;> simp
/-- With more behind it, nothing is read to its end. -/
theorem more_raw (b m : List UInt8) (h : (rawE b).2 = false) : rawE (b ++ m) = ((rawE b).1 ++ m, false) := by
  unfold rawE at *
  have key : ∀ b : List UInt8, (g1 b).2 = false → gk (b ++ m) = gk b ∧ g1 (b ++ m) = ((g1 b).1 ++ m, false) := fun b h => rdNs_more (s := (b, false)) m h
  by_cases k1 : gk b = 1
  · rw [if_pos k1] at h ⊢
    have h6 : (p6 b).2 = false := (rdVs_good h).1
    have h5 : (p5 b).2 = false := (rdNs_good h6).1
    have h4 : (p4 b).2 = false := (rdNs_good h5).1
    have h3 : (p3 b).2 = false := (rdNs_good h4).1
    have h2 : (p2 b).2 = false := (rdNs_good h3).1
    have h1 : (g1 b).2 = false := (rdNs_good h2).1
    obtain ⟨e1, e2⟩ := key b h1
    have f2 : p2 (b ++ m) = ((p2 b).1 ++ m, false) := by unfold p2; rw [e2]; exact (rdNs_more m h2).2
    have f3 : p3 (b ++ m) = ((p3 b).1 ++ m, false) := by unfold p3; rw [f2]; exact (rdNs_more m h3).2
    have f4 : p4 (b ++ m) = ((p4 b).1 ++ m, false) := by unfold p4; rw [f3]; exact (rdNs_more m h4).2
    have f5 : p5 (b ++ m) = ((p5 b).1 ++ m, false) := by unfold p5; rw [f4]; exact (rdNs_more m h5).2
    have f6 := rdNs_more (k := 1) (s := p5 b) m h6
    rw [if_pos (e1.trans k1)]
    unfold pe p6
    rw [f5, f6.1, f6.2]
    exact (rdVs_more m h).2
  by_cases k2 : gk b = 2
  · rw [if_neg k1, if_pos k2] at h ⊢
    have h3 := (rdNs_good h).1
    have h2 := (rdNs_good h3).1
    have h1 := (rdNs_good h2).1
    obtain ⟨e1, e2⟩ := key b h1
    have f2 : q2 (b ++ m) = ((q2 b).1 ++ m, false) := by unfold q2; rw [e2]; exact (rdNs_more m h2).2
    have f3 : q3 (b ++ m) = ((q3 b).1 ++ m, false) := by unfold q3; rw [f2]; exact (rdNs_more m h3).2
    rw [if_neg (by omega), if_pos (by omega)]
    unfold q4
    rw [f3]
    exact (rdNs_more m h).2
  by_cases k3 : gk b = 3
  · rw [if_neg k1, if_neg k2, if_pos k3] at h ⊢
    have h5 := (rdTs_good h).1
    have h4 := (rdNs_good h5).1
    have h3 := (rdNs_good h4).1
    have h2 := (rdNs_good h3).1
    have h1 := (rdNs_good h2).1
    obtain ⟨e1, e2⟩ := key b h1
    have f2 : q2 (b ++ m) = ((q2 b).1 ++ m, false) := by unfold q2; rw [e2]; exact (rdNs_more m h2).2
    have f3 : o3' (b ++ m) = ((o3' b).1 ++ m, false) := by unfold o3'; rw [f2]; exact (rdNs_more m h3).2
    have f4 : o4' (b ++ m) = ((o4' b).1 ++ m, false) := by unfold o4'; rw [f3]; exact (rdNs_more m h4).2
    have f5 : o5' (b ++ m) = ((o5' b).1 ++ m, false) := by unfold o5'; rw [f4]; exact (rdNs_more m h5).2
    rw [if_neg (by omega), if_neg (by omega), if_pos (by omega)]
    unfold o6'
    rw [f5]
    exact (rdTs_more m h).2
  · rw [if_neg k1, if_neg k2, if_neg k3] at h ⊢
    obtain ⟨e1, e2⟩ := key b h
    rw [if_neg (by omega), if_neg (by omega), if_neg (by omega)]
    exact e2
theorem more_none (b m : List UInt8) (h : getOK b = true) (hm : m ≠ []) : getOK (b ++ m) = false := by
  unfold getOK at *
  rw [Bool.and_eq_true] at h
  have h1 := rdE_iff.1 h.1
  have h2 := more_raw b m (by rw [h1])
  rw [h1] at h2
  rw [h2, Bool.and_eq_false_iff]
  left
  rw [← Bool.not_eq_true, rdE_iff]
  simp [hm]
theorem toNat_sub (n : Nat) (c : Int) : ((n : Int) - c + c).toNat = n := by omega
theorem one_num (n : Nat) (h : n < 256) : [UInt8.ofNat n] = numB n 1 := by simp [numB]
/-- What was read is put as it was. -/
theorem put_get (b : List UInt8) (h : getOK b = true) : (rawR b).put = b := by
  unfold getOK at h
  rw [Bool.and_eq_true] at h
  have h1 := rdE_iff.1 h.1
  have hmay := of_decide_eq_true h.2
  clear h
  have hk : ∀ c : Nat, gk b = c → c < 256 → (g1 b).2 = false → b = numB c 1 ++ (g1 b).1 := fun c hc _ h => by
    have := (rdNs_good (s := (b, false)) h).2
    rw [show rdN 1 (b, false) = c from hc] at this
    exact this
  unfold rawE at h1
  unfold rawR at hmay ⊢
  by_cases k1 : gk b = 1
  · rw [if_pos k1] at h1 ⊢
    have hv := rdVs_good (n := rdN 1 (p5 b)) (s := p6 b) (by rw [show rdVs _ _ = pe b from rfl, h1])
    have h6 := rdNs_good (s := p5 b) (k := 1) hv.1
    have h5 := rdNs_good (s := p4 b) (k := 4) h6.1
    have h4 := rdNs_good (s := p3 b) (k := 1) h5.1
    have h3 := rdNs_good (s := p2 b) (k := 2) h4.1
    have h2 := rdNs_good (s := g1 b) (k := 1) h3.1
    have e := hk 1 k1 (by decide) h2.1
    rw [show rdVs (rdN 1 (p5 b)) (p6 b) = pe b from rfl, h1] at hv
    have b5 : rdN 1 (p5 b) < 256 := rdN_lt 1 _
    conv => rhs; rw [e, h2.2, show rdNs 1 (g1 b) = p2 b from rfl, h3.2, show rdNs 2 (p2 b) = p3 b from rfl, h4.2, show rdNs 1 (p3 b) = p4 b from rfl, h5.2, show rdNs 4 (p4 b) = p5 b from rfl, h6.2, show rdNs 1 (p5 b) = p6 b from rfl, hv.2.2]
    unfold RecS.put pr RecS.hd1 RecS.o1
    simp only [if_true, toNat_sub, Int.toNat_natCast, rdV_len, one_num _ b5, List.append_nil, List.append_assoc]
    rfl
  by_cases k2 : gk b = 2
  · rw [if_neg k1, if_pos k2] at h1 ⊢
    have h4 := rdNs_good (s := q3 b) (k := 1) (by rw [show rdNs _ _ = q4 b from rfl, h1])
    have h3 := rdNs_good (s := q2 b) (k := 1) h4.1
    have h2 := rdNs_good (s := g1 b) (k := 2) h3.1
    have e := hk 2 k2 (by decide) h2.1
    rw [show rdNs 1 (q3 b) = q4 b from rfl, h1] at h4
    conv => rhs; rw [e, h2.2, show rdNs 2 (g1 b) = q2 b from rfl, h3.2, show rdNs 1 (q2 b) = q3 b from rfl, h4.2]
    unfold RecS.put qr RecS.o2
    simp only [Int.toNat_natCast, List.append_nil, List.append_assoc]
    rfl
  by_cases k3 : gk b = 3
  · rw [if_neg k1, if_neg k2, if_pos k3] at h1 ⊢
    have h6 := rdTs_good (s := o5' b) (by rw [show rdTs _ = o6' b from rfl, h1])
    have h5 := rdNs_good (s := o4' b) (k := 1) h6.1
    have h4 := rdNs_good (s := o3' b) (k := 4) h5.1
    have h3 := rdNs_good (s := q2 b) (k := 1) h4.1
    have h2 := rdNs_good (s := g1 b) (k := 2) h3.1
    have e := hk 3 k3 (by decide) h2.1
    rw [show rdTs (o5' b) = o6' b from rfl, h1] at h6
    conv => rhs; rw [e, h2.2, show rdNs 2 (g1 b) = q2 b from rfl, h3.2, show rdNs 1 (q2 b) = o3' b from rfl, h4.2, show rdNs 4 (o3' b) = o4' b from rfl, h5.2, show rdNs 1 (o4' b) = o5' b from rfl, h6.2.2]
    unfold RecS.put or' RecS.o3
    simp only [toNat_sub, Int.toNat_natCast, List.append_nil, List.append_assoc]
    rfl
  · exfalso
    rw [if_neg k1, if_neg k2, if_neg k3] at hmay
    unfold RecS.may nr at hmay
    simp only at hmay
    omega
/-- What was put is read as it was. -/
theorem get_put (r : RecS) (h : r.may) : rawE r.put = ([], false) ∧ rawR r.put = r := by
  unfold RecS.may at h
  rcases h with ⟨hk, h⟩ | ⟨hk, h⟩ | ⟨hk, h⟩
  · unfold RecS.may1 RecS.noOut RecS.noInt inR textsOK at h
    obtain ⟨⟨a1, a2, a3, a4⟩, ⟨a5, a6⟩, a7, a8, a9, a10, a11, a12⟩ := h
    rw [Bool.and_eq_true, decide_eq_true_eq] at a12
    have e : r.put = numB 1 1 ++ (numB (r.step + 3).toNat 1 ++ (numB r.visit.toNat 2 ++ (numB r.tries.toNat 1 ++ (numB r.off.toNat 4 ++ (numB r.vars.length 1 ++ (txtsB r.vars ++ [])))))) := by
      unfold RecS.put RecS.hd1 RecS.o1
      simp only [hk, if_true, one_num _ (show r.vars.length < 256 by omega), List.append_nil, List.append_assoc]
      rfl
    generalize r.put = b at *
    have k0 : gk b = 1 := by unfold gk; rw [e, rdN_put _ _ _ (by decide)]
    have e1 : g1 b = (_, false) := (congrArg (fun x => rdNs 1 (x, false)) e).trans (rdNs_put _ _ _)
    have e2 : p2 b = (_, false) := (congrArg (rdNs 1) e1).trans (rdNs_put _ _ _)
    have e3 : p3 b = (_, false) := (congrArg (rdNs 2) e2).trans (rdNs_put _ _ _)
    have e4 : p4 b = (_, false) := (congrArg (rdNs 1) e3).trans (rdNs_put _ _ _)
    have e5 : p5 b = (_, false) := (congrArg (rdNs 4) e4).trans (rdNs_put _ _ _)
    have e6 : p6 b = (_, false) := (congrArg (rdNs 1) e5).trans (rdNs_put _ _ _)
    have n1 : rdN 1 (g1 b) = (r.step + 3).toNat := by rw [e1]; exact rdN_put _ _ _ (by omega)
    have n2 : rdN 2 (p2 b) = r.visit.toNat := by rw [e2]; exact rdN_put _ _ _ (by omega)
    have n3 : rdN 1 (p3 b) = r.tries.toNat := by rw [e3]; exact rdN_put _ _ _ (by omega)
    have n4 : rdN 4 (p4 b) = r.off.toNat := by rw [e4]; exact rdN_put _ _ _ (by omega)
    have n5 : rdN 1 (p5 b) = r.vars.length := by rw [e5]; exact rdN_put _ _ _ (by omega)
    have hv := rdVs_put r.vars [] (fun t ht => by have := of_decide_eq_true (List.all_eq_true.1 a12.1 t ht); omega)
    unfold rawE rawR
    rw [if_pos k0, if_pos k0]
    unfold pe pr
    rw [n1, n2, n3, n4, n5, e6, hv.1, hv.2]
    refine ⟨rfl, ?_⟩
    obtain ⟨⟩ := r
    simp only at *
    simp only [RecS.mk.injEq]
    refine ⟨by omega, by omega, by omega, by omega, by omega, trivial, by omega, by omega, by omega, by omega, by omega, by omega, a4.symm⟩
  · unfold RecS.may2 RecS.noPoint RecS.noOut inR at h
    obtain ⟨⟨c1, c2, c3, c4, c5⟩, ⟨a1, a2, a3, a4⟩, a5, a6, a7⟩ := h
    have e : r.put = numB 2 1 ++ (numB r.vis.toNat 2 ++ (numB r.st.toNat 1 ++ (numB r.try'.toNat 1 ++ []))) := by
      unfold RecS.put RecS.o2
      rw [if_neg (by omega), if_pos hk]
      simp only [List.append_nil, List.append_assoc]
      rfl
    generalize r.put = b at *
    have k0 : gk b = 2 := by unfold gk; rw [e, rdN_put _ _ _ (by decide)]
    have e1 : g1 b = (_, false) := (congrArg (fun x => rdNs 1 (x, false)) e).trans (rdNs_put _ _ _)
    have e2 : q2 b = (_, false) := (congrArg (rdNs 2) e1).trans (rdNs_put _ _ _)
    have e3 : q3 b = (_, false) := (congrArg (rdNs 1) e2).trans (rdNs_put _ _ _)
    have e4 : q4 b = (_, false) := (congrArg (rdNs 1) e3).trans (rdNs_put _ _ _)
    have n1 : rdN 2 (g1 b) = r.vis.toNat := by rw [e1]; exact rdN_put _ _ _ (by omega)
    have n2 : rdN 1 (q2 b) = r.st.toNat := by rw [e2]; exact rdN_put _ _ _ (by omega)
    have n3 : rdN 1 (q3 b) = r.try'.toNat := by rw [e3]; exact rdN_put _ _ _ (by omega)
    unfold rawE rawR
    rw [if_neg (by omega), if_pos k0, if_neg (by omega), if_pos k0, e4]
    unfold qr
    rw [n1, n2, n3]
    refine ⟨rfl, ?_⟩
    obtain ⟨⟩ := r
    simp only at *
    simp only [RecS.mk.injEq]
    refine ⟨by omega, by omega, by omega, by omega, by omega, c5.symm, by omega, by omega, by omega, by omega, by omega, by omega, a4.symm⟩
  · unfold RecS.may3 RecS.noPoint RecS.noInt inR at h
    obtain ⟨⟨c1, c2, c3, c4, c5⟩, ⟨a1, a2⟩, a5, a6, a7, a8, a9, a10⟩ := h
    have e : r.put = numB 3 1 ++ (numB r.vis.toNat 2 ++ (numB (r.to + 3).toNat 1 ++ (numB r.ofs.toNat 4 ++ (numB (r.vr + 1).toNat 1 ++ (txtB r.value ++ []))))) := by
      unfold RecS.put RecS.o3
      rw [if_neg (by omega), if_neg (by omega)]
      simp only [List.append_nil, List.append_assoc]
      rfl
    generalize r.put = b at *
    have k0 : gk b = 3 := by unfold gk; rw [e, rdN_put _ _ _ (by decide)]
    have e1 : g1 b = (_, false) := (congrArg (fun x => rdNs 1 (x, false)) e).trans (rdNs_put _ _ _)
    have e2 : q2 b = (_, false) := (congrArg (rdNs 2) e1).trans (rdNs_put _ _ _)
    have e3 : o3' b = (_, false) := (congrArg (rdNs 1) e2).trans (rdNs_put _ _ _)
    have e4 : o4' b = (_, false) := (congrArg (rdNs 4) e3).trans (rdNs_put _ _ _)
    have e5 : o5' b = (_, false) := (congrArg (rdNs 1) e4).trans (rdNs_put _ _ _)
    have e6 : o6' b = (_, false) := (congrArg rdTs e5).trans (rdTs_put _ _ (by omega))
    have n1 : rdN 2 (g1 b) = r.vis.toNat := by rw [e1]; exact rdN_put _ _ _ (by omega)
    have n2 : rdN 1 (q2 b) = (r.to + 3).toNat := by rw [e2]; exact rdN_put _ _ _ (by omega)
    have n3 : rdN 4 (o3' b) = r.ofs.toNat := by rw [e3]; exact rdN_put _ _ _ (by omega)
    have n4 : rdN 1 (o4' b) = (r.vr + 1).toNat := by rw [e4]; exact rdN_put _ _ _ (by omega)
    have n5 : rdT (o5' b) = r.value := by rw [e5]; exact rdT_put _ _ (by omega)
    unfold rawE rawR
    rw [if_neg (by omega), if_neg (by omega), if_pos k0, if_neg (by omega), if_neg (by omega), if_pos k0, e6]
    unfold or'
    rw [n1, n2, n3, n4, n5]
    refine ⟨rfl, ?_⟩
    obtain ⟨⟩ := r
    simp only at *
    simp only [RecS.mk.injEq]
    refine ⟨by omega, by omega, by omega, by omega, by omega, c5.symm, by omega, by omega, by omega, by omega, by omega, by omega, trivial⟩
theorem put_ok (r : RecS) (h : r.may) : getOK r.put = true := by
  unfold getOK
  rw [(get_put r h).1, (get_put r h).2, decide_eq_true h]
  rfl
set_option maxHeartbeats 4000000 in
theorem xget_fn2 (b : List UInt8) (hk : gk b = 2) : Fn Try.prog 30 [bytes b] [] (if rdE (q4 b) = true ∧ (qr b).may then .tup [(qr b).v, bool true] else .tup [RecS.zero.v, bool false]) [] := by
  have c0 := xrnum_fn (b, false) 1 (by decide) (by decide)
  rw [show rdN 1 (b, false) = 2 from hk, show rdNs 1 (b, false) = g1 b from rfl, show xrd (b, false) = .cells 160 [bytes b, bool false] from rfl] at c0
  have c1 := xrnum_fn (g1 b) 2 (by decide) (by decide)
  have b1 : rdN 2 (g1 b) < 65536 := rdN_lt 2 _
  rw [show rdNs 2 (g1 b) = q2 b from rfl] at c1
  have c2 := xrnum_fn (q2 b) 1 (by decide) (by decide)
  have b2 : rdN 1 (q2 b) < 256 := rdN_lt 1 _
  rw [show rdNs 1 (q2 b) = q3 b from rfl] at c2
  have c3 := xrnum_fn (q3 b) 1 (by decide) (by decide)
  have b3 : rdN 1 (q3 b) < 256 := rdN_lt 1 _
  rw [show rdNs 1 (q3 b) = q4 b from rfl] at c3
  have ce := xrend_fn (q4 b)
  have cm := xmay_fn (qr b)
  have hq : (qr b).cells = [i64 2, i64 0, i64 0, i64 0, i64 0, texts [], i64 (rdN 2 (g1 b)), i64 (rdN 1 (q2 b)), i64 (rdN 1 (q3 b)), i64 0, i64 0, i64 0, bytes []] := rfl
  unfold RecS.v at cm ⊢
  rw [hq] at cm ⊢
  have hz : RecS.zero.cells = [i64 0, i64 0, i64 0, i64 0, i64 0, texts [], i64 0, i64 0, i64 0, i64 0, i64 0, i64 0, bytes []] := rfl
  generalize hg1 : rdN 2 (g1 b) = n1 at *
  generalize hg2 : rdN 1 (q2 b) = n2 at *
  generalize hg3 : rdN 1 (q3 b) = n3 at *
  refine en Try.func30 (hfr := by (simp only [Try.ntmps30, go_sem, Nat.reduceSub, Nat.reduceAdd]; rfl)) ?_
  repeat' (first | exact absurd hb Bool.false_ne_true | exact absurd hb.symm Bool.false_ne_true | refine W.seq ?_ | refine W.block ?_ | (refine rg [] ?_; intro K hK) | (refine dr [] ?_; intro K hK) | refine cle [1] 0 (c0) ?_ | refine cle [1] 0 (c1) ?_ | refine cle [1] 0 (c2) ?_ | refine cle [1] 0 (c3) ?_ | refine cle [1] 0 (ce) ?_ | refine cl (cm) ?_ | refine oq ?_ | refine sk ?_ | (refine nk hK ?_; clear hK K) | (refine nd hK ?_; clear hK K) | refine sp ?_ | refine ex ?_ | (refine gs (fun hb => ?_) (fun hb => ?_) <;> replace hb := nb hb <;> try exact noB hb) | (refine cd (fun hb => ?_) (fun hb => ?_) <;> replace hb := nb hb <;> try exact noB hb) | (with_reducible refine Exists.intro _ (And.intro rfl ?_)) | ((with_reducible refine And.intro ?_ ?_); (focus exact sdA)) | fail)
  · rw [if_neg (fun h => ‹¬ (qr b).may› h.2), hz]
    all_goals (refine rt ?_; refine fin ?_; exact wqA)
  · rw [if_pos ⟨‹_›, ‹_›⟩]
    all_goals (refine rt ?_; refine fin ?_; exact wqA)
  · rw [if_neg (fun h => by simp_all), hz]
    all_goals (refine rt ?_; refine fin ?_; exact wqA)
set_option maxHeartbeats 4000000 in
theorem xget_fn1 (b : List UInt8) (hk : gk b = 1) : Fn Try.prog 30 [bytes b] [] (if rdE (pe b) = true ∧ (pr b).may then .tup [(pr b).v, bool true] else .tup [RecS.zero.v, bool false]) [] := by
  have c0 := xrnum_fn (b, false) 1 (by decide) (by decide)
  rw [show rdN 1 (b, false) = 1 from hk, show rdNs 1 (b, false) = g1 b from rfl, show xrd (b, false) = .cells 160 [bytes b, bool false] from rfl] at c0
  have c1 := xrnum_fn (g1 b) 1 (by decide) (by decide)
  have b1 : rdN 1 (g1 b) < 256 := rdN_lt 1 _
  rw [show rdNs 1 (g1 b) = p2 b from rfl] at c1
  have c2 := xrnum_fn (p2 b) 2 (by decide) (by decide)
  have b2 : rdN 2 (p2 b) < 65536 := rdN_lt 2 _
  rw [show rdNs 2 (p2 b) = p3 b from rfl] at c2
  have c3 := xrnum_fn (p3 b) 1 (by decide) (by decide)
  have b3 : rdN 1 (p3 b) < 256 := rdN_lt 1 _
  rw [show rdNs 1 (p3 b) = p4 b from rfl] at c3
  have c4 := xrnum_fn (p4 b) 4 (by decide) (by decide)
  have b4 : rdN 4 (p4 b) < 4294967296 := rdN_lt 4 _
  rw [show rdNs 4 (p4 b) = p5 b from rfl] at c4
  have c5 := xrnum_fn (p5 b) 1 (by decide) (by decide)
  have b5 : rdN 1 (p5 b) < 256 := rdN_lt 1 _
  rw [show rdNs 1 (p5 b) = p6 b from rfl] at c5
  have ce := xrend_fn (pe b)
  have cm := xmay_fn (pr b)
  have hq : (pr b).cells = [i64 1, i64 (rdN 1 (g1 b) - 3), i64 (rdN 2 (p2 b)), i64 (rdN 1 (p3 b)), i64 (rdN 4 (p4 b)), texts (rdV (rdN 1 (p5 b)) (p6 b)), i64 0, i64 0, i64 0, i64 0, i64 0, i64 0, bytes []] := rfl
  have hpe : pe b = rdVs (rdN 1 (p5 b)) (p6 b) := rfl
  unfold RecS.v at cm ⊢
  rw [hq] at cm ⊢
  have hz : RecS.zero.cells = [i64 0, i64 0, i64 0, i64 0, i64 0, texts [], i64 0, i64 0, i64 0, i64 0, i64 0, i64 0, bytes []] := rfl
  generalize hg1 : rdN 1 (g1 b) = n1 at *
  generalize hg2 : rdN 2 (p2 b) = n2 at *
  generalize hg3 : rdN 1 (p3 b) = n3 at *
  generalize hg4 : rdN 4 (p4 b) = n4 at *
  generalize hg5 : rdN 1 (p5 b) = n5 at *
  refine en Try.func30 (hfr := by (simp only [Try.ntmps30, go_sem, Nat.reduceSub, Nat.reduceAdd]; rfl)) ?_
  repeat' (first | exact absurd hb Bool.false_ne_true | exact absurd hb.symm Bool.false_ne_true | refine W.seq ?_ | refine W.block ?_ | (refine rgx [11] [] ?_; intro K hK) | (refine drx [11] [] ?_; intro K hK) | refine cle [1] 0 (c0) ?_ | refine cle [1] 0 (c1) ?_ | refine cle [1] 0 (c2) ?_ | refine cle [1] 0 (c3) ?_ | refine cle [1] 0 (c4) ?_ | refine cle [1] 0 (c5) ?_ | refine oq ?_ | refine sk ?_ | (refine nk hK ?_; clear hK K) | (refine nd hK ?_; clear hK K) | refine sp ?_ | refine ex ?_ | (refine gs (fun hb => ?_) (fun hb => ?_) <;> replace hb := nb hb <;> try exact noB hb) | (refine cd (fun hb => ?_) (fun hb => ?_) <;> replace hb := nb hb <;> try exact noB hb) | (with_reducible refine Exists.intro _ (And.intro rfl ?_)) | ((with_reducible refine And.intro ?_ ?_); (focus exact sdA)) | fail)
  refine W.ent (Ent.more 1) ?_
  refine W.lp (ι := Nat) (fun i => (ay 2 (.ptr 0 0 :: bool false :: .ptr 1 0 :: .ptr 2 0 :: i64 n5 :: i64 i :: ay 10 (i64 1 :: ay 89 [])))) (fun i => [.cells 48 (zc 0), xrd (rdVs i (p6 b)), .cells 48 [i64 1, i64 (n1 - 3), i64 n2, i64 n3, i64 n4, vcell (rdV i (p6 b)) 3, i64 0, i64 0, i64 0, i64 0, i64 0, i64 0, .nil], vcap (rdV i (p6 b))]) (fun i => i ≤ n5) (fun i => n5 - i) 0 (Nat.zero_le _) (sb [0, 1, 2, 3] _ _ (hf := ?_)) ?_
  · skip
    exact wkA
  · intro i hi
    have ct := xrtext_fn (rdVs i (p6 b))
    have hl := rdV_len i (p6 b)
    obtain rfl | ⟨j, rfl⟩ : i = 0 ∨ ∃ j, i = j + 1 := by cases i with | zero => exact .inl rfl | succ j => exact .inr ⟨j, rfl⟩
    · rw [vcell_0, vcap_0]
      repeat' (first | exact absurd hb Bool.false_ne_true | exact absurd hb.symm Bool.false_ne_true | refine W.seq ?_ | refine W.block ?_ | (refine rgx [24] [] ?_; intro K hK) | (refine drx [24] [] ?_; intro K hK) | refine cle [1] 0 (ct) ?_ | refine oq ?_ | refine sk ?_ | (refine nk hK ?_; clear hK K) | (refine nd hK ?_; clear hK K) | refine sp ?_ | refine ex ?_ | (refine gs (fun hb => ?_) (fun hb => ?_) <;> replace hb := nb hb <;> try exact noB hb) | (refine cd (fun hb => ?_) (fun hb => ?_) <;> replace hb := nb hb <;> try exact noB hb) | (with_reducible refine Exists.intro _ (And.intro rfl ?_)) | ((with_reducible refine And.intro ?_ ?_); (focus exact sdA)) | fail)
      · refine nx 1 (by omega) (by omega) ?_
        simp only [vcell_s, vcap_s]
        refine sb [0, 1, 2, 5] _ _ (hf := ?_)
        exact wkA
      · obtain rfl : n5 = 0 := by omega
        rw [← hpe]
        refine W.ent (sb [0, 1, 2] ((ay 2 (.ptr 0 0 :: bool false :: .ptr 1 0 :: .ptr 2 0 :: ay 102 []))) [.cells 48 (zc 0), xrd (pe b), .cells 48 [i64 1, i64 (n1 - 3), i64 n2, i64 n3, i64 n4, texts (rdV 0 (p6 b)), i64 0, i64 0, i64 0, i64 0, i64 0, i64 0, bytes []]] (hf := ?_)) ?_
        · skip
          exact wkA
        repeat' (first | exact absurd hb Bool.false_ne_true | exact absurd hb.symm Bool.false_ne_true | refine W.seq ?_ | refine W.block ?_ | (refine rg [] ?_; intro K hK) | (refine dr [] ?_; intro K hK) | refine cle [1] 0 (ce) ?_ | refine cl (cm) ?_ | refine oq ?_ | refine sk ?_ | (refine nk hK ?_; clear hK K) | (refine nd hK ?_; clear hK K) | refine sp ?_ | refine ex ?_ | (refine gs (fun hb => ?_) (fun hb => ?_) <;> replace hb := nb hb <;> try exact noB hb) | (refine cd (fun hb => ?_) (fun hb => ?_) <;> replace hb := nb hb <;> try exact noB hb) | (with_reducible refine Exists.intro _ (And.intro rfl ?_)) | ((with_reducible refine And.intro ?_ ?_); (focus exact sdA)) | fail)
        · rw [if_neg (fun h => ‹¬ (pr b).may› h.2), hz]
          all_goals (refine rt ?_; refine fin ?_; exact wqA)
        · rw [if_pos ⟨‹_›, ‹_›⟩]
          all_goals (refine rt ?_; refine fin ?_; exact wqA)
        · rw [if_neg (fun h => by simp_all), hz]
          all_goals (refine rt ?_; refine fin ?_; exact wqA)
    · rw [vcell_s, vcap_s]
      repeat' (first | exact absurd hb Bool.false_ne_true | exact absurd hb.symm Bool.false_ne_true | refine W.seq ?_ | refine W.block ?_ | (refine rgx [24] [] ?_; intro K hK) | (refine drx [24] [] ?_; intro K hK) | refine cle [1] 0 (ct) ?_ | refine oq ?_ | refine sk ?_ | (refine nk hK ?_; clear hK K) | (refine nd hK ?_; clear hK K) | refine sp ?_ | refine ex ?_ | (refine gs (fun hb => ?_) (fun hb => ?_) <;> replace hb := nb hb <;> try exact noB hb) | (refine cd (fun hb => ?_) (fun hb => ?_) <;> replace hb := nb hb <;> try exact noB hb) | (with_reducible refine Exists.intro _ (And.intro rfl ?_)) | ((with_reducible refine And.intro ?_ ?_); (focus exact sdA)) | fail)
      · rw [rdV_dtext]
        refine nx (j + 1 + 1) (by omega) (by omega) ?_
        simp only [vcell_s, vcap_s]
        refine sb [0, 1, 2, 3] _ _ (hf := ?_)
        exact wkA
      · obtain rfl : n5 = j + 1 := by omega
        rw [← hpe]
        refine W.ent (sb [0, 1, 2] ((ay 2 (.ptr 0 0 :: bool false :: .ptr 1 0 :: .ptr 2 0 :: ay 102 []))) [.cells 48 (zc 0), xrd (pe b), .cells 48 [i64 1, i64 (n1 - 3), i64 n2, i64 n3, i64 n4, texts (rdV (j + 1) (p6 b)), i64 0, i64 0, i64 0, i64 0, i64 0, i64 0, bytes []]] (hf := ?_)) ?_
        · skip
          exact wkA
        repeat' (first | exact absurd hb Bool.false_ne_true | exact absurd hb.symm Bool.false_ne_true | refine W.seq ?_ | refine W.block ?_ | (refine rg [] ?_; intro K hK) | (refine dr [] ?_; intro K hK) | refine cle [1] 0 (ce) ?_ | refine cl (cm) ?_ | refine oq ?_ | refine sk ?_ | (refine nk hK ?_; clear hK K) | (refine nd hK ?_; clear hK K) | refine sp ?_ | refine ex ?_ | (refine gs (fun hb => ?_) (fun hb => ?_) <;> replace hb := nb hb <;> try exact noB hb) | (refine cd (fun hb => ?_) (fun hb => ?_) <;> replace hb := nb hb <;> try exact noB hb) | (with_reducible refine Exists.intro _ (And.intro rfl ?_)) | ((with_reducible refine And.intro ?_ ?_); (focus exact sdA)) | fail)
        · rw [if_neg (fun h => ‹¬ (pr b).may› h.2), hz]
          all_goals (refine rt ?_; refine fin ?_; exact wqA)
        · rw [if_pos ⟨‹_›, ‹_›⟩]
          all_goals (refine rt ?_; refine fin ?_; exact wqA)
        · rw [if_neg (fun h => by simp_all), hz]
          all_goals (refine rt ?_; refine fin ?_; exact wqA)
set_option maxHeartbeats 4000000 in
theorem xget_fn3 (b : List UInt8) (hk : gk b = 3) : Fn Try.prog 30 [bytes b] [] (if rdE (o6' b) = true ∧ (or' b).may then .tup [(or' b).v, bool true] else .tup [RecS.zero.v, bool false]) [] := by
  have c0 := xrnum_fn (b, false) 1 (by decide) (by decide)
  rw [show rdN 1 (b, false) = 3 from hk, show rdNs 1 (b, false) = g1 b from rfl, show xrd (b, false) = .cells 160 [bytes b, bool false] from rfl] at c0
  have c1 := xrnum_fn (g1 b) 2 (by decide) (by decide)
  have b1 : rdN 2 (g1 b) < 65536 := rdN_lt 2 _
  rw [show rdNs 2 (g1 b) = q2 b from rfl] at c1
  have c2 := xrnum_fn (q2 b) 1 (by decide) (by decide)
  have b2 : rdN 1 (q2 b) < 256 := rdN_lt 1 _
  rw [show rdNs 1 (q2 b) = o3' b from rfl] at c2
  have c3 := xrnum_fn (o3' b) 4 (by decide) (by decide)
  have b3 : rdN 4 (o3' b) < 4294967296 := rdN_lt 4 _
  rw [show rdNs 4 (o3' b) = o4' b from rfl] at c3
  have c4 := xrnum_fn (o4' b) 1 (by decide) (by decide)
  have b4 : rdN 1 (o4' b) < 256 := rdN_lt 1 _
  rw [show rdNs 1 (o4' b) = o5' b from rfl] at c4
  have ct := xrtext_fn (o5' b)
  rw [show rdTs (o5' b) = o6' b from rfl] at ct
  have ce := xrend_fn (o6' b)
  have cm := xmay_fn (or' b)
  have hq : (or' b).cells = [i64 3, i64 0, i64 0, i64 0, i64 0, texts [], i64 (rdN 2 (g1 b)), i64 0, i64 0, i64 (rdN 1 (q2 b) - 3), i64 (rdN 4 (o3' b)), i64 (rdN 1 (o4' b) - 1), bytes (rdT (o5' b))] := rfl
  unfold RecS.v at cm ⊢
  rw [hq] at cm ⊢
  have hz : RecS.zero.cells = [i64 0, i64 0, i64 0, i64 0, i64 0, texts [], i64 0, i64 0, i64 0, i64 0, i64 0, i64 0, bytes []] := rfl
  generalize hg1 : rdN 2 (g1 b) = n1 at *
  generalize hg2 : rdN 1 (q2 b) = n2 at *
  generalize hg3 : rdN 4 (o3' b) = n3 at *
  generalize hg4 : rdN 1 (o4' b) = n4 at *
  generalize hg5 : rdT (o5' b) = tx at *
  refine en Try.func30 (hfr := by (simp only [Try.ntmps30, go_sem, Nat.reduceSub, Nat.reduceAdd]; rfl)) ?_
  repeat' (first | exact absurd hb Bool.false_ne_true | exact absurd hb.symm Bool.false_ne_true | refine W.seq ?_ | refine W.block ?_ | (refine rg [] ?_; intro K hK) | (refine dr [] ?_; intro K hK) | refine cle [1] 0 (c0) ?_ | refine cle [1] 0 (c1) ?_ | refine cle [1] 0 (c2) ?_ | refine cle [1] 0 (c3) ?_ | refine cle [1] 0 (c4) ?_ | refine cle [1] 0 (ct) ?_ | refine cle [1] 0 (ce) ?_ | refine cl (cm) ?_ | refine oq ?_ | refine sk ?_ | (refine nk hK ?_; clear hK K) | (refine nd hK ?_; clear hK K) | refine sp ?_ | refine ex ?_ | (refine gs (fun hb => ?_) (fun hb => ?_) <;> replace hb := nb hb <;> try exact noB hb) | (refine cd (fun hb => ?_) (fun hb => ?_) <;> replace hb := nb hb <;> try exact noB hb) | (with_reducible refine Exists.intro _ (And.intro rfl ?_)) | ((with_reducible refine And.intro ?_ ?_); (focus exact sdA)) | fail)
  · rw [if_neg (fun h => ‹¬ (or' b).may› h.2), hz]
    all_goals (refine rt ?_; refine fin ?_; exact wqA)
  · rw [if_pos ⟨‹_›, ‹_›⟩]
    all_goals (refine rt ?_; refine fin ?_; exact wqA)
  · rw [if_neg (fun h => by simp_all), hz]
    all_goals (refine rt ?_; refine fin ?_; exact wqA)
set_option maxHeartbeats 4000000 in
theorem xget_fn0 (b : List UInt8) (h1 : ¬ gk b = 1) (h2 : ¬ gk b = 2) (h3 : ¬ gk b = 3) : Fn Try.prog 30 [bytes b] [] (.tup [RecS.zero.v, bool false]) [] := by
  have c0 := xrnum_fn (b, false) 1 (by decide) (by decide)
  rw [show rdN 1 (b, false) = gk b from rfl, show rdNs 1 (b, false) = g1 b from rfl, show xrd (b, false) = .cells 160 [bytes b, bool false] from rfl] at c0
  have b0 : gk b < 256 := rdN_lt 1 _
  have i1 : ¬ ((gk b : Nat) : Int) = 1 := by omega
  have i2 : ¬ ((gk b : Nat) : Int) = 2 := by omega
  have i3 : ¬ ((gk b : Nat) : Int) = 3 := by omega
  have ce := xrend_fn (g1 b)
  have cm := xmay_fn (nr b)
  rw [decide_eq_false (p := (nr b).may) (fun h => by unfold RecS.may nr at h; simp only at h; omega)] at cm
  have hq : (nr b).cells = [i64 (gk b), i64 0, i64 0, i64 0, i64 0, texts [], i64 0, i64 0, i64 0, i64 0, i64 0, i64 0, bytes []] := rfl
  unfold RecS.v at cm ⊢
  rw [hq] at cm
  have hz : RecS.zero.cells = [i64 0, i64 0, i64 0, i64 0, i64 0, texts [], i64 0, i64 0, i64 0, i64 0, i64 0, i64 0, bytes []] := rfl
  rw [hz]
  generalize gk b = kk at *
  refine en Try.func30 (hfr := by (simp only [Try.ntmps30, go_sem, Nat.reduceSub, Nat.reduceAdd]; rfl)) ?_
  repeat' (first | exact absurd hb Bool.false_ne_true | exact absurd hb.symm Bool.false_ne_true | refine W.seq ?_ | refine W.block ?_ | (refine rg [] ?_; intro K hK) | (refine dr [] ?_; intro K hK) | refine cle [1] 0 (c0) ?_ | refine cle [1] 0 (ce) ?_ | refine cl (cm) ?_ | refine oq ?_ | refine sk ?_ | (refine nk hK ?_; clear hK K) | (refine nd hK ?_; clear hK K) | refine sp ?_ | refine ex ?_ | (refine gs (fun hb => ?_) (fun hb => ?_) <;> replace hb := nb hb <;> try exact noB hb) | (refine cd (fun hb => ?_) (fun hb => ?_) <;> replace hb := nb hb <;> try exact noB hb) | (with_reducible refine Exists.intro _ (And.intro rfl ?_)) | ((with_reducible refine And.intro ?_ ?_); (focus exact sdA)) | fail)
  · skip
    all_goals (refine rt ?_; refine fin ?_; exact wqA)
  · skip
    all_goals (refine rt ?_; refine fin ?_; exact wqA)
/-- The record of bytes. -/
def gotR (b : List UInt8) : RecS := if getOK b = true then rawR b else RecS.zero
theorem get_fn (b : List UInt8) (hB : b.length ≤ 140737488355328) : Fn Try.prog 27 [bytes b] [] (.tup [(gotR b).v, i64 (if getOK b = true then 0 else 2)]) [] := by
  have key : ∀ (r : RecS) (s : RS), rawR b = r → rawE b = s → (if rdE s = true ∧ r.may then V.tup [r.v, i64 0] else .tup [RecS.zero.v, i64 2]) = .tup [(gotR b).v, i64 (if getOK b = true then 0 else 2)] := fun r s h1 h2 => by
    have h3 : getOK b = true ↔ rdE s = true ∧ r.may := by unfold getOK; rw [h1, h2, Bool.and_eq_true, decide_eq_true_eq]
    unfold gotR
    by_cases h : rdE s = true ∧ r.may
    · rw [if_pos h, if_pos (h3.2 h), if_pos (h3.2 h), h1]
    · rw [if_neg h, if_neg (fun k => h (h3.1 k)), if_neg (fun k => h (h3.1 k))]
  by_cases h1 : gk b = 1
  · rw [← key (pr b) (pe b) (by unfold rawR; rw [if_pos h1]) (by unfold rawE; rw [if_pos h1])]
    exact get_fn1 b hB h1
  by_cases h2 : gk b = 2
  · rw [← key (qr b) (q4 b) (by unfold rawR; rw [if_neg h1, if_pos h2]) (by unfold rawE; rw [if_neg h1, if_pos h2])]
    exact get_fn2 b hB h2
  by_cases h3 : gk b = 3
  · rw [← key (or' b) (o6' b) (by unfold rawR; rw [if_neg h1, if_neg h2, if_pos h3]) (by unfold rawE; rw [if_neg h1, if_neg h2, if_pos h3])]
    exact get_fn3 b hB h3
  · rw [← key (nr b) (g1 b) (by unfold rawR; rw [if_neg h1, if_neg h2, if_neg h3]) (by unfold rawE; rw [if_neg h1, if_neg h2, if_neg h3]), if_neg (fun h => by have h := h.2; unfold RecS.may nr at h; simp only at h; omega)]
    exact get_fn0 b hB h1 h2 h3
theorem xget_fn (b : List UInt8) : Fn Try.prog 30 [bytes b] [] (.tup [(gotR b).v, bool (getOK b)]) [] := by
  have key : ∀ (r : RecS) (s : RS), rawR b = r → rawE b = s → (if rdE s = true ∧ r.may then V.tup [r.v, bool true] else .tup [RecS.zero.v, bool false]) = .tup [(gotR b).v, bool (getOK b)] := fun r s h1 h2 => by
    have h3 : getOK b = true ↔ rdE s = true ∧ r.may := by unfold getOK; rw [h1, h2, Bool.and_eq_true, decide_eq_true_eq]
    unfold gotR
    by_cases h : rdE s = true ∧ r.may
    · rw [if_pos h, h3.2 h, if_pos rfl, h1]
    · rw [if_neg h, if_neg (fun k => h (h3.1 k)), Bool.eq_false_iff.2 (fun k => h (h3.1 k))]
  by_cases h1 : gk b = 1
  · rw [← key (pr b) (pe b) (by unfold rawR; rw [if_pos h1]) (by unfold rawE; rw [if_pos h1])]
    exact xget_fn1 b h1
  by_cases h2 : gk b = 2
  · rw [← key (qr b) (q4 b) (by unfold rawR; rw [if_neg h1, if_pos h2]) (by unfold rawE; rw [if_neg h1, if_pos h2])]
    exact xget_fn2 b h2
  by_cases h3 : gk b = 3
  · rw [← key (or' b) (o6' b) (by unfold rawR; rw [if_neg h1, if_neg h2, if_pos h3]) (by unfold rawE; rw [if_neg h1, if_neg h2, if_pos h3])]
    exact xget_fn3 b h3
  · rw [← key (nr b) (g1 b) (by unfold rawR; rw [if_neg h1, if_neg h2, if_neg h3]) (by unfold rawE; rw [if_neg h1, if_neg h2, if_neg h3]), if_neg (fun h => by have h := h.2; unfold RecS.may nr at h; simp only at h; omega)]
    exact xget_fn0 b h1 h2 h3
/-- An Intent, and its bytes. -/
def ki : RecS := ⟨2, 0, 0, 0, 0, [], 1, 2, 0, 0, 0, 0, []⟩
theorem ki_may : ki.may := by decide
theorem ki_put : ki.put = [2, 0, 1, 2, 0] := by decide
theorem nil_bad : getOK [] = false := by decide
set_option maxHeartbeats 4000000 in
theorem knows_fn : Fn Try.prog 22 [] [] (bool true) [] := by
  have c1 := put_fn ki ki_may
  have c2 := get_fn [2, 0, 1, 2, 0] (by decide)
  have c3 := get_fn [] (by decide)
  have e2 : getOK [2, 0, 1, 2, 0] = true := by rw [← ki_put]; exact put_ok ki ki_may
  have e3 : gotR [2, 0, 1, 2, 0] = ki := by unfold gotR; rw [if_pos e2, ← ki_put, (get_put ki ki_may).2]
  have e4 : gotR [] = RecS.zero := by unfold gotR; rw [nil_bad]; rfl
  rw [ki_put] at c1
  rw [e2, e3, if_pos rfl] at c2
  rw [e4, nil_bad, if_neg (by decide)] at c3
  unfold RecS.v at c1 c2 c3
  rw [show ki.cells = [i64 2, i64 0, i64 0, i64 0, i64 0, texts [], i64 1, i64 2, i64 0, i64 0, i64 0, i64 0, bytes []] from rfl] at c1 c2
  rw [show RecS.zero.cells = [i64 0, i64 0, i64 0, i64 0, i64 0, texts [], i64 0, i64 0, i64 0, i64 0, i64 0, i64 0, bytes []] from rfl] at c3
  refine en Try.func22 (hfr := by (simp only [Try.ntmps22, go_sem, Nat.reduceSub, Nat.reduceAdd]; rfl)) ?_
  repeat' (first | exact absurd hb Bool.false_ne_true | exact absurd hb.symm Bool.false_ne_true | refine W.seq ?_ | refine W.block ?_ | (refine rg [] ?_; intro K hK) | (refine dr [] ?_; intro K hK) | refine cl (c1) ?_ | refine cl (c2) ?_ | refine cl (c3) ?_ | ((refine ⟨[2, 0, 1, 2, 0], rfl, ?_⟩)) | refine oq ?_ | refine sk ?_ | (refine nk hK ?_; clear hK K) | (refine nd hK ?_; clear hK K) | refine sp ?_ | refine ex ?_ | (refine gs (fun hb => ?_) (fun hb => ?_) <;> replace hb := nb hb <;> try exact noB hb) | (refine cd (fun hb => ?_) (fun hb => ?_) <;> replace hb := nb hb <;> try exact noB hb) | (with_reducible refine Exists.intro _ (And.intro rfl ?_)) | ((with_reducible refine And.intro ?_ ?_); (focus exact sdA)) | fail)
  all_goals (refine rt ?_; refine fin ?_; exact wqA)
theorem put_len (r : RecS) (h : r.may) : r.put.length ≤ 1000 := by
  unfold RecS.put
  unfold RecS.may at h
  rcases h with ⟨hk, h⟩ | ⟨hk, h⟩ | ⟨hk, h⟩
  · have ht := h.2.2.2.2.2.2.2
    unfold textsOK at ht
    rw [Bool.and_eq_true, decide_eq_true_eq] at ht
    have := txtsB_len r.vars ht.1
    rw [if_pos hk]
    simp only [RecS.hd1, RecS.o1, List.length_append, numB_len, List.length_cons, List.length_nil]
    omega
  · rw [if_neg (by omega), if_pos hk]
    simp [RecS.o2]
  · have := h.2.2.2.2.2.2.1
    rw [if_neg (by omega), if_neg (by omega)]
    simp only [RecS.o3, txtB, List.length_append, numB_len, List.length_cons, List.length_nil]
    omega
set_option maxHeartbeats 4000000 in
theorem recordPuts_fn (r : RecS) : Fn Try.prog 4 [r.v] [] (bool true) [] := by
  have ck := knows_fn
  have cf := few_fn r
  have ca := as_fn r
  have cm := may_fn r
  have cx := xmay_fn r
  by_cases hf : r.few = true
  · rw [hf] at cf
    by_cases hm : r.may
    · have c1 := put_fn r hm
      have c2 := get_fn r.put (by have := put_len r hm; omega)
      have c3 := xput_fn r hm
      have c4 := xsame_fn r r
      rw [decide_eq_true hm] at cm cx
      rw [decide_eq_true rfl] at c4
      rw [put_ok r hm, if_pos rfl, show gotR r.put = r by unfold gotR; rw [if_pos (put_ok r hm), (get_put r hm).2]] at c2
      generalize r.put = P at *
      refine en Try.func4 (hfr := by (simp only [Try.ntmps4, go_sem, Nat.reduceSub, Nat.reduceAdd]; rfl)) ?_
      repeat' (first | exact absurd hb Bool.false_ne_true | exact absurd hb.symm Bool.false_ne_true | refine W.seq ?_ | refine W.block ?_ | (refine rg [] ?_; intro K hK) | (refine dr [] ?_; intro K hK) | refine cl (cf) ?_ | refine cl (ck) ?_ | refine cl (c1) ?_ | refine cl (ca) ?_ | refine cl (cm) ?_ | refine cl (cx) ?_ | refine cl (c2) ?_ | refine cl (c3) ?_ | refine cl (c4) ?_ | refine oq ?_ | refine sk ?_ | (refine nk hK ?_; clear hK K) | (refine nd hK ?_; clear hK K) | refine sp ?_ | refine ex ?_ | (refine gs (fun hb => ?_) (fun hb => ?_) <;> replace hb := nb hb <;> try exact noB hb) | (refine cd (fun hb => ?_) (fun hb => ?_) <;> replace hb := nb hb <;> try exact noB hb) | (with_reducible refine Exists.intro _ (And.intro rfl ?_)) | ((with_reducible refine And.intro ?_ ?_); (focus exact sdA)) | fail)
      all_goals (refine rt ?_; refine fin ?_; exact wqA)
    · have c1 := put_no r hm
      rw [decide_eq_false hm] at cm cx
      refine en Try.func4 (hfr := by (simp only [Try.ntmps4, go_sem, Nat.reduceSub, Nat.reduceAdd]; rfl)) ?_
      repeat' (first | exact absurd hb Bool.false_ne_true | exact absurd hb.symm Bool.false_ne_true | refine W.seq ?_ | refine W.block ?_ | (refine rg [] ?_; intro K hK) | (refine dr [] ?_; intro K hK) | refine cl (cf) ?_ | refine cl (ck) ?_ | refine cl (c1) ?_ | refine cl (ca) ?_ | refine cl (cm) ?_ | refine cl (cx) ?_ | refine oq ?_ | refine sk ?_ | (refine nk hK ?_; clear hK K) | (refine nd hK ?_; clear hK K) | refine sp ?_ | refine ex ?_ | (refine gs (fun hb => ?_) (fun hb => ?_) <;> replace hb := nb hb <;> try exact noB hb) | (refine cd (fun hb => ?_) (fun hb => ?_) <;> replace hb := nb hb <;> try exact noB hb) | (with_reducible refine Exists.intro _ (And.intro rfl ?_)) | ((with_reducible refine And.intro ?_ ?_); (focus exact sdA)) | fail)
      all_goals (refine rt ?_; refine fin ?_; exact wqA)
  · rw [Bool.not_eq_true] at hf
    rw [hf] at cf
    refine en Try.func4 (hfr := by (simp only [Try.ntmps4, go_sem, Nat.reduceSub, Nat.reduceAdd]; rfl)) ?_
    repeat' (first | exact absurd hb Bool.false_ne_true | exact absurd hb.symm Bool.false_ne_true | refine W.seq ?_ | refine W.block ?_ | (refine rg [] ?_; intro K hK) | (refine dr [] ?_; intro K hK) | refine cl (cf) ?_ | refine cl (ck) ?_ | refine oq ?_ | refine sk ?_ | (refine nk hK ?_; clear hK K) | (refine nd hK ?_; clear hK K) | refine sp ?_ | refine ex ?_ | (refine gs (fun hb => ?_) (fun hb => ?_) <;> replace hb := nb hb <;> try exact noB hb) | (refine cd (fun hb => ?_) (fun hb => ?_) <;> replace hb := nb hb <;> try exact noB hb) | (with_reducible refine Exists.intro _ (And.intro rfl ?_)) | ((with_reducible refine And.intro ?_ ?_); (focus exact sdA)) | fail)
    all_goals (refine rt ?_; refine fin ?_; exact wqA)
set_option maxHeartbeats 4000000 in
theorem recordGets_fn (b m : List UInt8) : Fn Try.prog 5 [bytes b, bytes m] [] (bool true) [] := by
  have ck := knows_fn
  by_cases hl : b.length ≤ 2000 ∧ m.length ≤ 20
  · have c1 := get_fn b (by omega)
    have x1 := xget_fn b
    by_cases ho : getOK b = true
    · have hm : (rawR b).may := by unfold getOK at ho; rw [Bool.and_eq_true, decide_eq_true_eq] at ho; exact ho.2
      have hg : gotR b = rawR b := by unfold gotR; rw [if_pos ho]
      have c2 := put_fn (rawR b) hm
      rw [put_get b ho] at c2
      have c3 := get_fn (b ++ m) (by rw [List.length_append]; omega)
      have c4 := xsame_fn (rawR b) (rawR b)
      have ca := as_fn (rawR b)
      rw [decide_eq_true rfl] at c4
      rw [ho, hg, if_pos rfl] at c1
      rw [ho, hg] at x1
      have hmo : (if getOK (b ++ m) = true then (0 : Int) else 2) = if m = [] then 0 else 2 := by
        by_cases h : m = []
        · rw [if_pos h, h, List.append_nil, if_pos ho]
        · rw [if_neg h, more_none b m ho h, if_neg (by decide)]
      rw [hmo] at c3
      generalize rawR b = r at *
      generalize gotR (b ++ m) = r2 at *
      by_cases h0 : m = []
      · rw [if_pos h0] at c3
        have h1 : (m.length : Int) = 0 := by rw [h0]; rfl
        refine en Try.func5 (hfr := by (simp only [Try.ntmps5, go_sem, Nat.reduceSub, Nat.reduceAdd]; rfl)) ?_
        repeat' (first | exact absurd hb Bool.false_ne_true | exact absurd hb.symm Bool.false_ne_true | refine W.seq ?_ | refine W.block ?_ | (refine rg [] ?_; intro K hK) | (refine dr [] ?_; intro K hK) | refine cl (ck) ?_ | refine cl (c1) ?_ | refine cl (x1) ?_ | refine cl (c2) ?_ | refine cl (c3) ?_ | refine cl (c4) ?_ | refine cl (ca) ?_ | refine oq ?_ | refine sk ?_ | (refine nk hK ?_; clear hK K) | (refine nd hK ?_; clear hK K) | refine sp ?_ | refine ex ?_ | (refine gs (fun hb => ?_) (fun hb => ?_) <;> replace hb := nb hb <;> try exact noB hb) | (refine cd (fun hb => ?_) (fun hb => ?_) <;> replace hb := nb hb <;> try exact noB hb) | (with_reducible refine Exists.intro _ (And.intro rfl ?_)) | ((with_reducible refine And.intro ?_ ?_); (focus exact sdA)) | fail)
        · skip
          all_goals (refine rt ?_; refine fin ?_; exact wqA)
        · exfalso
          simp_all
      · rw [if_neg h0] at c3
        have h1 : ¬ (m.length : Int) = 0 := fun h => h0 (List.eq_nil_of_length_eq_zero (by omega))
        refine en Try.func5 (hfr := by (simp only [Try.ntmps5, go_sem, Nat.reduceSub, Nat.reduceAdd]; rfl)) ?_
        repeat' (first | exact absurd hb Bool.false_ne_true | exact absurd hb.symm Bool.false_ne_true | refine W.seq ?_ | refine W.block ?_ | (refine rg [] ?_; intro K hK) | (refine dr [] ?_; intro K hK) | refine cl (ck) ?_ | refine cl (c1) ?_ | refine cl (x1) ?_ | refine cl (c2) ?_ | refine cl (c3) ?_ | refine cl (c4) ?_ | refine cl (ca) ?_ | refine oq ?_ | refine sk ?_ | (refine nk hK ?_; clear hK K) | (refine nd hK ?_; clear hK K) | refine sp ?_ | refine ex ?_ | (refine gs (fun hb => ?_) (fun hb => ?_) <;> replace hb := nb hb <;> try exact noB hb) | (refine cd (fun hb => ?_) (fun hb => ?_) <;> replace hb := nb hb <;> try exact noB hb) | (with_reducible refine Exists.intro _ (And.intro rfl ?_)) | ((with_reducible refine And.intro ?_ ?_); (focus exact sdA)) | fail)
        · skip
          all_goals (refine rt ?_; refine fin ?_; exact wqA)
        · exfalso
          simp_all
    · rw [Bool.not_eq_true] at ho
      have hg : gotR b = RecS.zero := by unfold gotR; rw [ho]; rfl
      have ca := as_fn RecS.zero
      have c4 := xsame_fn RecS.zero RecS.zero
      rw [decide_eq_true rfl] at c4
      rw [ho, hg, if_neg (by decide)] at c1
      rw [ho, hg] at x1
      unfold RecS.v at ca c1 x1 c4
      rw [show RecS.zero.cells = [i64 0, i64 0, i64 0, i64 0, i64 0, texts [], i64 0, i64 0, i64 0, i64 0, i64 0, i64 0, bytes []] from rfl] at ca c1 x1 c4
      refine en Try.func5 (hfr := by (simp only [Try.ntmps5, go_sem, Nat.reduceSub, Nat.reduceAdd]; rfl)) ?_
      repeat' (first | exact absurd hb Bool.false_ne_true | exact absurd hb.symm Bool.false_ne_true | refine W.seq ?_ | refine W.block ?_ | (refine rg [] ?_; intro K hK) | (refine dr [] ?_; intro K hK) | refine cl (ck) ?_ | refine cl (c1) ?_ | refine cl (x1) ?_ | refine cl (c4) ?_ | refine cl (ca) ?_ | refine oq ?_ | refine sk ?_ | (refine nk hK ?_; clear hK K) | (refine nd hK ?_; clear hK K) | refine sp ?_ | refine ex ?_ | (refine gs (fun hb => ?_) (fun hb => ?_) <;> replace hb := nb hb <;> try exact noB hb) | (refine cd (fun hb => ?_) (fun hb => ?_) <;> replace hb := nb hb <;> try exact noB hb) | (with_reducible refine Exists.intro _ (And.intro rfl ?_)) | ((with_reducible refine And.intro ?_ ?_); (focus exact sdA)) | fail)
      all_goals (refine rt ?_; refine fin ?_; exact wqA)
  · skip
    refine en Try.func5 (hfr := by (simp only [Try.ntmps5, go_sem, Nat.reduceSub, Nat.reduceAdd]; rfl)) ?_
    repeat' (first | exact absurd hb Bool.false_ne_true | exact absurd hb.symm Bool.false_ne_true | refine W.seq ?_ | refine W.block ?_ | (refine rg [] ?_; intro K hK) | (refine dr [] ?_; intro K hK) | refine cl (ck) ?_ | refine oq ?_ | refine sk ?_ | (refine nk hK ?_; clear hK K) | (refine nd hK ?_; clear hK K) | refine sp ?_ | refine ex ?_ | (refine gs (fun hb => ?_) (fun hb => ?_) <;> replace hb := nb hb <;> try exact noB hb) | (refine cd (fun hb => ?_) (fun hb => ?_) <;> replace hb := nb hb <;> try exact noB hb) | (with_reducible refine Exists.intro _ (And.intro rfl ?_)) | ((with_reducible refine And.intro ?_ ?_); (focus exact sdA)) | fail)
    · skip
      all_goals (refine rt ?_; refine fin ?_; exact wqA)
    · skip
      all_goals (refine rt ?_; refine fin ?_; exact wqA)
/-- A record as it is handed in. -/
abbrev IntA := { n : Int // (Lit.int .i64 n).wf = true }
abbrev StA := IntA × IntA × IntA × IntA × List (List UInt8)
abbrev RecA := IntA × StA × IntA × IntA × IntA × IntA × IntA × IntA × List UInt8
theorem fd_i64 {t : TypeId} (h : t = 3) : FD Try.prog t 1 (fun n : IntA => [.int .i64 n.1]) := by subst h; exact fd_int Try.underlying3 (by kernel_rfl)
theorem fd_bytes {t : TypeId} (h : t = 33) : FD Try.prog t 1 (fun l : List UInt8 => [dtext l]) := by subst h; exact fd_sl1 Try.underlying33 (by kernel_rfl) (fd_byte Try.underlying5 (by kernel_rfl))
theorem fd_texts {t : TypeId} (h : t = 29) : FD Try.prog t 1 (fun l : List (List UInt8) => [.sl 1 (l.map dtext)]) := by subst h; exact fd_sl1 Try.underlying29 (by kernel_rfl) (fd_bytes rfl)
theorem fd_state {t : TypeId} (h : t = 31) : FD Try.prog t (1 + (1 + (1 + (1 + 1)))) (fun x : StA => [.int .i64 x.1.1, .int .i64 x.2.1.1, .int .i64 x.2.2.1.1, .int .i64 x.2.2.2.1.1, .sl 1 (x.2.2.2.2.map dtext)]) := by
  subst h
  exact fd_struct Try.underlying31 (by kernel_rfl) (by decide) (.cons rfl (fd_i64 rfl) (.cons rfl (fd_i64 rfl) (.cons rfl (fd_i64 rfl) (.cons rfl (fd_i64 rfl) (.one rfl (fd_texts rfl))))))
theorem fd_rec : FD Try.prog 35 (1 + ((1 + (1 + (1 + (1 + 1)))) + (1 + (1 + (1 + (1 + (1 + (1 + 1)))))))) (fun x : RecA => [.int .i64 x.1.1, .int .i64 x.2.1.1.1, .int .i64 x.2.1.2.1.1, .int .i64 x.2.1.2.2.1.1, .int .i64 x.2.1.2.2.2.1.1, .sl 1 (x.2.1.2.2.2.2.map dtext), .int .i64 x.2.2.1.1, .int .i64 x.2.2.2.1.1, .int .i64 x.2.2.2.2.1.1, .int .i64 x.2.2.2.2.2.1.1, .int .i64 x.2.2.2.2.2.2.1.1, .int .i64 x.2.2.2.2.2.2.2.1.1, dtext x.2.2.2.2.2.2.2.2]) :=
  fd_struct Try.underlying35 (by kernel_rfl) (by decide) (.cons rfl (fd_i64 rfl) (.cons rfl (fd_state rfl) (.cons rfl (fd_i64 rfl) (.cons rfl (fd_i64 rfl) (.cons rfl (fd_i64 rfl) (.cons rfl (fd_i64 rfl) (.cons rfl (fd_i64 rfl) (.cons rfl (fd_i64 rfl) (.one rfl (fd_bytes rfl))))))))))
theorem recordPuts_vs (x : RecA) : Fn Try.prog 4 [.agg [i64 x.1.1, i64 x.2.1.1.1, i64 x.2.1.2.1.1, i64 x.2.1.2.2.1.1, i64 x.2.1.2.2.2.1.1, texts x.2.1.2.2.2.2, i64 x.2.2.1.1, i64 x.2.2.2.1.1, i64 x.2.2.2.2.1.1, i64 x.2.2.2.2.2.1.1, i64 x.2.2.2.2.2.2.1.1, i64 x.2.2.2.2.2.2.2.1.1, bytes x.2.2.2.2.2.2.2.2]] [] (bool true) [] :=
  recordPuts_fn ⟨x.1.1, x.2.1.1.1, x.2.1.2.1.1, x.2.1.2.2.1.1, x.2.1.2.2.2.1.1, x.2.1.2.2.2.2, x.2.2.1.1, x.2.2.2.1.1, x.2.2.2.2.1.1, x.2.2.2.2.2.1.1, x.2.2.2.2.2.2.1.1, x.2.2.2.2.2.2.2.1.1, x.2.2.2.2.2.2.2.2⟩
theorem recordGets_vs (b m : List UInt8) : Fn Try.prog 5 [bytes b, bytes m] [] (bool true) [] := recordGets_fn b m
end Go.Proofs.Ytpmbeldmclcjlaa.Vs
