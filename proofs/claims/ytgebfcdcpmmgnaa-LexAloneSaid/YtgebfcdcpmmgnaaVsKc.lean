/- Bytes of a constant text. -/
import Derived.Test.YtgebfcdcpmmgnaaVsKb
set_option linter.unusedVariables false
set_option linter.unusedSimpArgs false
namespace Go.Proofs.Ytgebfcdcpmmgnaa.Vs
open Go.RowKit
section
variable {P : Program} {o : Oper} {ev : Operand → V} {C : Cx} {σ : List Ob} {w : World} {w0 : Bs} {lent : Nat → Prop}
def convSlV (T : Tb P) (s d : Nat) (x : V) (σ : List Ob) (K : KK) : Prop :=
  match (T.ty d).inf, x with
  | .sl e _ _, .own q xs c => s = d ∧ (T.ty e).inf = .int .u8 ∧ xs ≠ [] ∧ (match σ[c]? with
    | some (.cap e' q' n) => n = xs.length ∧ K (.d (.sl q xs)) [(c, .cap e' q' n)] [(c, .dead)]
    | _ => False)
  | _, _ => False
theorem freeze_other {w : World} {a : Addr} {n b : Nat} (h : b ≠ a.block) : (w.freeze a n).heap[b]? = w.heap[b]? := by
  unfold World.freeze
  split
  · rfl
  · simp only [Array.getElem?_modify]
    rw [if_neg (fun e => h e.symm)]
theorem freeze_same {w : World} {a : Addr} {n : Nat} {cs : Array Value} {e : TypeId} {p : Nat × Nat} (h : w.heap[a.block]? = some (.cells cs e p)) : ∃ p', (w.freeze a n).heap[a.block]? = some (.cells cs e p') := by
  unfold World.freeze
  split
  · exact ⟨p, h⟩
  · simp only [Array.getElem?_modify, if_true, h, Option.map_some]
    exact ⟨_, rfl⟩
theorem freeze_cell {w : World} {a : Addr} {n : Nat} {b k : Nat} {v : Value} (h : w.cell? ⟨b, k, none⟩ = some v) : (w.freeze a n).cell? ⟨b, k, none⟩ = some v := by
  by_cases hb : b = a.block
  · subst hb
    unfold World.cell? at h ⊢
    simp only at h ⊢
    cases hh : w.heap[a.block]? with
    | none => rw [hh] at h; cases h
    | some ob =>
      cases ob with
      | cells cs e p =>
        obtain ⟨p', hp⟩ := freeze_same (n := n) hh
        rw [hp]
        rw [hh] at h
        exact h
      | _ => rw [hh] at h; cases h
  · exact (World.cell?_of_block (a := ⟨b, k, none⟩) (freeze_other hb)).trans h
theorem freeze_size {w : World} {a : Addr} {n : Nat} : (w.freeze a n).heap.size = w.heap.size := by unfold World.freeze; split <;> simp
/-- A row that grew is but data from now on; its block is marked. -/
theorem Rel.mark (R : Rel w0 lent C σ w) {c n q g : Nat} {e : TypeId} {cap : Nat} (hi : σ[c]? = some (.cap e q n)) (hu : C.cur c = some (n, .slice (some ⟨g, 0, none⟩) n cap)) (k : Nat) : ∃ C', Rel w0 lent C' (σ.set c .dead) (w.freeze ⟨g, k, none⟩ 1) ∧ C.le C' ∧ C'.G = C.G := by
  let C' : Cx := { C with cur := fun j => if j = c then none else C.cur j }
  have hle : C.le C' := ⟨GC.le_refl _, fun _ _ h => h, Nat.le_refl _, fun j m u _ h _ => by
    have h' : (if j = c then none else C.cur j) = some (m, u) := h
    split at h'
    · cases h'
    · exact ⟨m, u, h', .inl ⟨rfl, rfl⟩⟩, fun _ h _ => h⟩
  have hblk : blockOf C c (.cap e q n) = some g := by simp [blockOf, hu, Value.ownBlock]
  refine ⟨C', R.step hi ⟨hle, rfl, fun _ _ => rfl, fun j hj => by simp [C', hj], fun b hb hne => freeze_other (fun h => hne (by rw [hblk, h])), fun b k' v h => freeze_cell (R.ro b k' v h), fun _ _ _ _ => rfl, by simp [ObR, C'], fun b hb => by simp [blockOf] at hb, by rw [freeze_size]; exact Nat.le_refl _, ?_, ?_, ?_⟩, hle, rfl⟩
  all_goals (unfold World.freeze; split <;> rfl)
theorem convSl_ok {T : Tb P} {s d : TypeId} {x : Operand} {K : KK} (ho : o.op = .convert s d x) (h : convSlV T s d (ev x) σ K) : ∃ v rd wr, K v rd wr ∧ LStep P o ev rd v wr ∧ (∀ p ∈ wr, ∃ q ∈ rd, q.1 = p.1) ∧ ∀ p ∈ rd, σ[p.1]? = some p.2 := by
  unfold convSlV at h
  split at h
  · rename_i e q' bb q xs c hd hx'
    obtain ⟨rfl, he, hn, h⟩ := h
    split at h
    · rename_i e' q'' n hσ
      obtain ⟨rfl, h⟩ := h
      refine ⟨_, _, _, h, fun w0 lent C σ w a R hx hrd K Q hK => ?_, by simp, by simpa using hσ⟩
      have hi := hrd (c, .cap e' q'' xs.length) (by simp)
      have hv := hx x (by simp [ho, Op.operands])
      rw [hx'] at hv
      unfold VR at hv
      obtain ⟨k1, k2, k3, k4⟩ := hv
      obtain ⟨_, u, cs, h1, h2, h3⟩ := R.obs c _ hi
      have h4 := (k4 _ _ h1).2 rfl
      subst h4
      rcases h2.2 with ⟨h5, h6⟩ | ⟨g, cap, cur, h5, _, h7, h8, h9, h10, h11⟩
      · exact absurd (List.eq_nil_of_length_eq_zero h6) hn
      · rw [h5] at h1
        obtain ⟨C', R', hle, hG⟩ := R.mark hi h1 cur.size
        have hu1 := (inf_sl T hd).1
        have hu2 := inf_int T he
        have hsh : w.shape? g = some (e', cur.size) := by simp [World.shape?, h7]
        have hrun : (execOp a.eval o).run P w = .ok (.value (a.eval x)) (w.freeze ⟨g, cur.size, none⟩ 1) := by
          have hc : (convert s s (.slice (some ⟨g, 0, none⟩) xs.length cap)).run P w = .ok (.slice (some ⟨g, 0, none⟩) xs.length cap) (w.freeze ⟨g, cur.size, none⟩ 1) := by
            unfold convert
            simp only [Sem.run_bind, run_underlying hu1 w, Result.andThen_ok, run_underlying hu2 w, beq_self_eq_true, markStringish, run_shape, hsh, run_freeze, Sem.run_pure]
          unfold execOp
          simp only [ho, h5, Sem.run_bind, hc, Result.andThen_ok, Sem.run_pure]
        unfold Oper.wp
        rw [hrun]
        refine hK C' _ _ R' hle ?_
        unfold VR
        rw [hG]
        exact k1
    · exact h.elim
  · exact h.elim
end
end Go.Proofs.Ytgebfcdcpmmgnaa.Vs
