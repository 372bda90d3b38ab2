/-
  QueueShares as data: n clients, each with its whole series, are served one after the other. No program.
-/
import Derived.Test.YtekgdlpicgibhaaM
namespace Go.Proofs.Ytekgdlpicgibhaa.Shares
open Go.Proofs.Ytekgdlpicgibhaa.QQ

/-- The first k values of client d. -/
def ser (d k : Nat) : List Int := (List.range k).map fun (j : Nat) => 1000 * (d : Int) + (j : Int)
theorem ser_succ (d k : Nat) : ser d (k + 1) = ser d k ++ [1000 * (d : Int) + (k : Int)] := by simp [ser, List.range_succ]
theorem ser_len (d k : Nat) : (ser d k).length = k := by simp [ser]
theorem ser_drop (d p k : Nat) (h : k < p) : (ser d p).drop k = (1000 * (d : Int) + (k : Int)) :: (ser d p).drop (k + 1) := by
  rw [List.drop_eq_getElem_cons (by rw [ser_len]; exact h)]
  simp [ser]

structure Fill (n p c k : Nat) (q : QM Int) : Prop where
  pl : q.places = p
  len : q.rows.length = n
  nx : q.next = 0
  tot : q.total = c * p + k
  row : ∀ d, d < n → q.row d = if d < c then ser d p else if d = c then ser d k else []
theorem fill_start (n p : Nat) : Fill n p 0 0 (QM.empty n p) where
  pl := rfl
  len := by simp [QM.empty]
  nx := rfl
  tot := by simp [QM.empty]
  row := fun d _ => by rw [QM.empty_row]; simp [ser]
theorem fill_push {n p c k : Nat} {q : QM Int} (h : Fill n p c k q) (hc : c < n) (hk : k < p) :
    q.push (c : Int) (1000 * (c : Int) + (k : Int)) = (0, q.pushed c (1000 * (c : Int) + (k : Int))) ∧ Fill n p c (k + 1) (q.pushed c (1000 * (c : Int) + (k : Int))) := by
  have hcl : c < q.rows.length := by rw [h.len]; exact hc
  have hr : q.row c = ser c k := by rw [h.row c hc]; simp
  constructor
  · unfold QM.push
    rw [if_neg (by omega), Int.toNat_natCast, if_neg]
    rw [hr, ser_len, h.pl]
    omega
  · refine ⟨h.pl, by rw [QM.pushed, QM.setRow_len]; exact h.len, h.nx, by show q.total + 1 = _; rw [h.tot]; omega, fun d hd => ?_⟩
    rw [QM.pushed, QM.setRow_row _ _ _ _ _ _ hcl]
    by_cases e : d = c
    · subst e
      simp [hr, ser_succ]
    · rw [if_neg e, h.row d hd]
      by_cases e2 : d < c
      · simp [e2]
      · simp [e2, e]
theorem fill_next {n p c : Nat} {q : QM Int} (h : Fill n p c p q) : Fill n p (c + 1) 0 q where
  pl := h.pl
  len := h.len
  nx := h.nx
  tot := by rw [h.tot, Nat.succ_mul]; rfl
  row := fun d hd => by
    rw [h.row d hd]
    by_cases e : d < c
    · simp [e, show d < c + 1 by omega]
    · by_cases e2 : d = c
      · subst e2; simp
      · rw [if_neg e, if_neg e2, if_neg (by omega)]
        by_cases e3 : d = c + 1
        · simp [e3, ser]
        · simp [e3]

/-- How many have been taken of client d behind i Pops. -/
def cnt (n d : Nat) : Nat → Nat
  | 0 => 0
  | i + 1 => cnt n d i + if i % n = d then 1 else 0
theorem cnt_eq (n d i : Nat) (hd : d < n) : cnt n d i = i / n + if d < i % n then 1 else 0 := by
  induction i with
  | zero => simp [cnt]
  | succ i ih =>
    have hm := Nat.mod_lt i (show 0 < n by omega)
    have hi := Nat.div_add_mod i n
    simp only [cnt, ih]
    by_cases e : i % n + 1 < n
    · have e1 : (i + 1) / n = i / n := by
        rw [show i + 1 = n * (i / n) + (i % n + 1) by omega, Nat.mul_add_div (by omega), Nat.div_eq_of_lt e]; rfl
      have e2 : (i + 1) % n = i % n + 1 := by
        rw [show i + 1 = n * (i / n) + (i % n + 1) by omega, Nat.mul_add_mod, Nat.mod_eq_of_lt e]
      rw [e1, e2]
      split <;> split <;> split <;> omega
    · have e0 : i % n + 1 = n := by omega
      have e1 : (i + 1) / n = i / n + 1 := by
        rw [show i + 1 = n * (i / n) + n by omega, Nat.mul_add_div (by omega), Nat.div_self (by omega)]
      have e2 : (i + 1) % n = 0 := by
        rw [show i + 1 = n * (i / n) + n by omega, Nat.mul_add_mod, Nat.mod_self]
      rw [e1, e2]
      split <;> split <;> split <;> omega

structure Taken (n p i : Nat) (q : QM Int) : Prop where
  len : q.rows.length = n
  nx : q.next = i % n
  tot : q.total + i = n * p
  row : ∀ d, d < n → q.row d = (ser d p).drop (cnt n d i)
theorem taken_start {n p : Nat} {q : QM Int} (h : Fill n p n 0 q) : Taken n p 0 q where
  len := h.len
  nx := by rw [h.nx]; simp
  tot := by rw [h.tot]; rfl
  row := fun d hd => by rw [h.row d hd, if_pos hd]; simp [cnt]
theorem taken_pop {n p i : Nat} {q : QM Int} (hw : q.Wf) (h : Taken n p i q) (hi : i < n * p) :
    q.pop = (some (i % n, 1000 * ((i % n : Nat) : Int) + ((i / n : Nat) : Int)), q.popped (i % n)) ∧ Taken n p (i + 1) (q.popped (i % n)) := by
  have hn : 0 < n := by rw [← h.len]; exact hw.n1
  have hc : i % n < n := Nat.mod_lt _ hn
  have hcl : i % n < q.rows.length := by rw [h.len]; exact hc
  have ec : cnt n (i % n) i = i / n := by rw [cnt_eq n _ i hc]; simp
  have hip : i / n < p := by
    rw [Nat.div_lt_iff_lt_mul hn, Nat.mul_comm]; exact hi
  have hr : q.row (i % n) = (1000 * ((i % n : Nat) : Int) + ((i / n : Nat) : Int)) :: (ser (i % n) p).drop (i / n + 1) := by
    rw [h.row _ hc, ec, ser_drop _ _ _ hip]
  have h0 : q.at_ 0 = i % n := by
    unfold QM.at_
    rw [h.nx, h.len, Nat.add_zero, Nat.mod_mod]
  constructor
  · rcases q.pop_cases hw with ⟨_, _, he⟩ | ⟨j, x, xs, hf, hj, hat, hx, he, hp⟩
    · have := he 0 hw.n1
      rw [h0, hr] at this
      cases this
    · have hj0 : j = 0 := by
        rcases Nat.eq_zero_or_pos j with e | e
        · exact e
        · have := he 0 e
          rw [h0, hr] at this
          cases this
      subst hj0
      rw [h0] at hp hx
      rw [hr] at hx
      cases hx
      exact hp
  · refine ⟨by rw [QM.popped, QM.setRow_len]; exact h.len, ?_, ?_, fun d hd => ?_⟩
    · show (i % n + 1) % q.rows.length = _
      rw [h.len, Nat.mod_add_mod]
    · show q.total - 1 + (i + 1) = _
      have := h.tot
      omega
    · rw [QM.popped, QM.setRow_row _ _ _ _ _ _ hcl]
      by_cases e : d = i % n
      · subst e
        rw [if_pos rfl, hr]
        simp [cnt, ec]
      · rw [if_neg e, h.row d hd]
        simp [cnt, Ne.symm e]
end Go.Proofs.Ytekgdlpicgibhaa.Shares
