/-
  QueueTexts as data: what is pushed in turn to n clients comes back in turn. No program.
-/
import Derived.Test.YtekgdlpicgibhaaM
namespace Go.Proofs.Ytekgdlpicgibhaa.Texts
open Go.Proofs.Ytekgdlpicgibhaa.QQ
variable {α : Type}

/-- Of the k numbers from a on, what stands at those that are d modulo n. -/
def sel (s : Nat → α) (n d : Nat) : Nat → Nat → List α
  | _, 0 => []
  | a, k + 1 => (if a % n = d then [s a] else []) ++ sel s n d (a + 1) k
theorem sel_snoc (s : Nat → α) (n d a k : Nat) : sel s n d a (k + 1) = sel s n d a k ++ if (a + k) % n = d then [s (a + k)] else [] := by
  induction k generalizing a with
  | zero => simp [sel]
  | succ k ih =>
    rw [sel, ih (a + 1), sel, show a + 1 + k = a + (k + 1) by omega]
    simp
theorem sel_le (s : Nat → α) (n d a k : Nat) : (sel s n d a k).length ≤ k := by
  induction k generalizing a with
  | zero => simp [sel]
  | succ k ih =>
    have := ih (a + 1)
    rw [sel, List.length_append]
    split <;> simp <;> omega

structure Put (s : Nat → α) (n m : Nat) (q : QM α) : Prop where
  pl : q.places = 64
  len : q.rows.length = n
  nx : q.next = 0
  row : ∀ d, d < n → q.row d = sel s n d 0 m
theorem put_start (s : Nat → α) (n : Nat) : Put s n 0 (QM.empty n 64) where
  pl := rfl
  len := by simp [QM.empty]
  nx := rfl
  row := fun d _ => by rw [QM.empty_row]; rfl
theorem put_push {s : Nat → α} {n m : Nat} {q : QM α} (h : Put s n m q) (hn : 0 < n) (hm : m < 64) :
    q.push ((m : Int) % (n : Int)) (s m) = (0, q.pushed (m % n) (s m)) ∧ Put s n (m + 1) (q.pushed (m % n) (s m)) := by
  have hc : m % n < n := Nat.mod_lt _ hn
  have hcl : m % n < q.rows.length := by rw [h.len]; exact hc
  have e : (m : Int) % (n : Int) = ((m % n : Nat) : Int) := by simp
  constructor
  · unfold QM.push
    rw [e, if_neg (by omega), Int.toNat_natCast, if_neg]
    rw [h.row _ hc, h.pl]
    have := sel_le s n (m % n) 0 m
    omega
  · refine ⟨h.pl, by rw [QM.pushed, QM.setRow_len]; exact h.len, h.nx, fun d hd => ?_⟩
    rw [QM.pushed, QM.setRow_row _ _ _ _ _ _ hcl, sel_snoc, Nat.zero_add]
    by_cases e : d = m % n
    · subst e; rw [if_pos rfl, if_pos rfl, h.row _ hc]
    · rw [if_neg e, if_neg (Ne.symm e), h.row d hd]; simp

structure Tk (s : Nat → α) (n m i : Nat) (q : QM α) : Prop where
  len : q.rows.length = n
  nx : q.next = i % n
  row : ∀ d, d < n → q.row d = sel s n d i (m - i)
theorem tk_start {s : Nat → α} {n m : Nat} {q : QM α} (h : Put s n m q) : Tk s n m 0 q where
  len := h.len
  nx := by rw [h.nx]; simp
  row := h.row
theorem tk_pop {s : Nat → α} {n m i : Nat} {q : QM α} (hw : q.Wf) (h : Tk s n m i q) (hi : i < m) :
    q.pop = (some (i % n, s i), q.popped (i % n)) ∧ Tk s n m (i + 1) (q.popped (i % n)) := by
  have hn : 0 < n := by rw [← h.len]; exact hw.n1
  have hc : i % n < n := Nat.mod_lt _ hn
  have hcl : i % n < q.rows.length := by rw [h.len]; exact hc
  obtain ⟨k, hk⟩ : ∃ k, m - i = k + 1 := ⟨m - i - 1, by omega⟩
  have hk2 : m - (i + 1) = k := by omega
  have hr : q.row (i % n) = s i :: sel s n (i % n) (i + 1) k := by
    rw [h.row _ hc, hk, sel, if_pos rfl]; rfl
  have h0 : q.at_ 0 = i % n := by
    unfold QM.at_
    rw [h.nx, h.len, Nat.add_zero, Nat.mod_mod]
  constructor
  · rcases q.pop_cases hw with ⟨_, _, he⟩ | ⟨j, x, xs, hf, hj, hat, hx, he, hp⟩
    · have := he 0 hw.n1
      rw [h0, hr] at this
      cases this
    · have hj0 : j = 0 := by
        rcases Nat.eq_zero_or_pos j with e | e
        · exact e
        · have := he 0 e
          rw [h0, hr] at this
          cases this
      subst hj0
      rw [h0] at hp hx
      rw [hr] at hx
      cases hx
      exact hp
  · refine ⟨by rw [QM.popped, QM.setRow_len]; exact h.len, ?_, fun d hd => ?_⟩
    · show (i % n + 1) % q.rows.length = _
      rw [h.len, Nat.mod_add_mod]
    · rw [QM.popped, QM.setRow_row _ _ _ _ _ _ hcl, hk2]
      by_cases e : d = i % n
      · subst e; rw [if_pos rfl, hr]; rfl
      · rw [if_neg e, h.row d hd, hk, sel, if_neg (Ne.symm e)]; rfl
theorem tk_end {s : Nat → α} {n m : Nat} {q : QM α} (hw : q.Wf) (h : Tk s n m m q) : q.pop = (none, q) := by
  rcases q.pop_cases hw with ⟨e, _⟩ | ⟨j, x, xs, _, _, hat, hx, _⟩
  · exact e
  · rw [h.row _ (by rw [← h.len]; exact hat), Nat.sub_self] at hx
    cases hx
end Go.Proofs.Ytekgdlpicgibhaa.Texts
