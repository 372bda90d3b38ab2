/-
  QueueLooks as data: what Pops bring of one client is what its list told. No program.
-/
import Derived.Test.YtekgdlpicgibhaaM
namespace Go.Proofs.Ytekgdlpicgibhaa.Looks
open Go.Proofs.Ytekgdlpicgibhaa.QQ

structure Lk (q0 : QM Int) (c i k : Nat) (q : QM Int) : Prop where
  len : q.rows.length = q0.rows.length
  tot : q.total + i = q0.total
  at_ : k ≤ (q0.row c).length
  row : q.row c = (q0.row c).drop k
theorem lk_start (q0 : QM Int) (c : Nat) : Lk q0 c 0 0 q0 := ⟨rfl, rfl, Nat.zero_le _, by simp⟩
/-- A Pop on the way: whose it is; if it is the client's, it is the next one of the list. -/
theorem lk_pop {q0 : QM Int} {c i k : Nat} {q : QM Int} (hw : q.Wf) (h : Lk q0 c i k q) (hi : i < q0.total) :
    ∃ d x, q.pop = (some (d, x), q.popped d) ∧ d < q0.rows.length ∧ (if d = c then k < (q0.row c).length ∧ (q0.row c).getD k 0 = x ∧ Lk q0 c (i + 1) (k + 1) (q.popped d) else Lk q0 c (i + 1) k (q.popped d)) := by
  obtain ⟨d, x, xs, hd, hr, hp⟩ := QM.pop_pos hw (by have := h.tot; omega)
  refine ⟨d, x, hp, by rw [← h.len]; exact hd, ?_⟩
  have hl : (q.popped d).rows.length = q0.rows.length := by rw [QM.popped, QM.setRow_len]; exact h.len
  have ht : (q.popped d).total + (i + 1) = q0.total := by
    show q.total - 1 + (i + 1) = _
    have := h.tot
    omega
  by_cases e : d = c
  · subst e
    rw [if_pos rfl]
    have hk : k < (q0.row d).length := by
      rcases Nat.lt_or_ge k (q0.row d).length with hk | hk
      · exact hk
      · have := h.row
        rw [List.drop_eq_nil_of_le hk, hr] at this
        cases this
    have h2 := h.row
    rw [List.drop_eq_getElem_cons hk, hr] at h2
    injection h2 with h2 h3
    refine ⟨hk, ?_, hl, ht, hk, ?_⟩
    · simp [List.getD_eq_getElem?_getD, List.getElem?_eq_getElem hk, h2]
    · rw [QM.popped, QM.setRow_row _ _ _ _ _ _ hd, if_pos rfl, hr]
      exact h3
  · rw [if_neg e]
    refine ⟨hl, ht, h.at_, ?_⟩
    rw [QM.popped, QM.setRow_row _ _ _ _ _ _ hd, if_neg (Ne.symm e)]
    exact h.row
theorem lk_end {q0 : QM Int} {c k : Nat} {q : QM Int} (hw : q.Wf) (h : Lk q0 c q0.total k q) : q.pop = (none, q) ∧ q.total = 0 ∧ k = (q0.row c).length := by
  have h0 : q.total = 0 := by have := h.tot; omega
  refine ⟨QM.pop_zero hw h0, h0, ?_⟩
  have h1 := QM.row_le_total hw c
  rw [h.row, List.length_drop] at h1
  have := h.at_
  omega
end Go.Proofs.Ytekgdlpicgibhaa.Looks
