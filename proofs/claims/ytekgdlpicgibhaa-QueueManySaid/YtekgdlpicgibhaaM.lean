/-
  The queue as data: what Push and Pop do to it. Plain lists and numbers, no program.
-/
namespace Go.Proofs.Ytekgdlpicgibhaa.QQ

/-- A queue as data. -/
structure QM (α : Type) where
  places : Nat
  rows : List (List α)
  next : Nat
  total : Nat

namespace QM
variable {α : Type}

def row (q : QM α) (c : Nat) : List α := q.rows.getD c []
def n (q : QM α) : Nat := q.rows.length
/-- Whose turn it is at the i-th look. -/
def at_ (q : QM α) (i : Nat) : Nat := (q.next + i) % q.rows.length

structure Wf (q : QM α) : Prop where
  p1 : 1 ≤ q.places
  p2 : q.places ≤ 64
  n1 : 1 ≤ q.rows.length
  n2 : q.rows.length ≤ 64
  nx : q.next < q.rows.length
  tot : q.total = (q.rows.map List.length).sum
  full : ∀ xs, xs ∈ q.rows → xs.length ≤ q.places

theorem row_get (q : QM α) {c : Nat} (hc : c < q.rows.length) : q.rows[c]? = some (q.row c) := by
  simp [row, List.getElem?_eq_getElem hc]
theorem row_out (q : QM α) {c : Nat} (hc : q.rows.length ≤ c) : q.row c = [] := by
  simp [row, List.getElem?_eq_none hc]
theorem row_le {q : QM α} (h : q.Wf) (c : Nat) : (q.row c).length ≤ q.places := by
  by_cases hc : c < q.rows.length
  · have : q.row c ∈ q.rows := List.mem_of_getElem? (q.row_get hc)
    exact h.full _ this
  · rw [q.row_out (by omega)]; simp
theorem sum_set (l : List Nat) (c x : Nat) (h : c < l.length) : (l.set c x).sum + l.getD c 0 = l.sum + x := by
  induction l generalizing c with
  | nil => simp at h
  | cons a l ih =>
    cases c with
    | zero => simp; omega
    | succ c =>
      have := ih c (by simpa using h)
      simp only [List.set_cons_succ, List.sum_cons, List.getD_cons_succ]
      omega
theorem le_sum (l : List Nat) (c : Nat) : l.getD c 0 ≤ l.sum := by
  induction l generalizing c with
  | nil => simp
  | cons a l ih =>
    cases c with
    | zero => simp
    | succ c => have := ih c; simp only [List.getD_cons_succ, List.sum_cons]; omega
theorem sum_le (l : List Nat) (b : Nat) (h : ∀ x, x ∈ l → x ≤ b) : l.sum ≤ l.length * b := by
  induction l with
  | nil => simp
  | cons a l ih =>
    have h1 := ih (fun x hx => h x (by simp [hx]))
    have h2 := h a (by simp)
    simp only [List.sum_cons, List.length_cons, Nat.succ_mul]
    omega
theorem total_le {q : QM α} (h : q.Wf) : q.total ≤ 4096 := by
  have h1 := sum_le (q.rows.map List.length) q.places (by
    intro x hx
    obtain ⟨xs, hxs, rfl⟩ := List.mem_map.1 hx
    exact h.full xs hxs)
  rw [List.length_map, ← h.tot] at h1
  have h2 : q.rows.length * q.places ≤ 64 * 64 := Nat.mul_le_mul h.n2 h.p2
  omega
theorem row_le_total {q : QM α} (h : q.Wf) (c : Nat) : (q.row c).length ≤ q.total := by
  have := le_sum (q.rows.map List.length) c
  rw [h.tot]
  refine Nat.le_trans (Nat.le_of_eq ?_) this
  simp only [row, List.getD_eq_getElem?_getD, List.getElem?_map]
  cases q.rows[c]? <;> simp

def setRow (q : QM α) (c : Nat) (xs : List α) (total next : Nat) : QM α := { q with rows := q.rows.set c xs, total := total, next := next }
theorem setRow_row (q : QM α) (c d : Nat) (xs : List α) (t nx : Nat) (hc : c < q.rows.length) : (q.setRow c xs t nx).row d = if d = c then xs else q.row d := by
  simp only [setRow, row, List.getD_eq_getElem?_getD]
  by_cases e : d = c
  · subst e; simp [hc]
  · rw [if_neg e, List.getElem?_set_ne (Ne.symm e)]
theorem setRow_len (q : QM α) (c : Nat) (xs : List α) (t nx : Nat) : (q.setRow c xs t nx).rows.length = q.rows.length := by simp [setRow]
theorem setRow_wf {q : QM α} (h : q.Wf) {c : Nat} {xs : List α} {t nx : Nat} (hc : c < q.rows.length) (hx : xs.length ≤ q.places) (ht : t + (q.row c).length = q.total + xs.length) (hnx : nx < q.rows.length) : (q.setRow c xs t nx).Wf where
  p1 := h.p1
  p2 := h.p2
  n1 := by rw [setRow_len]; exact h.n1
  n2 := by rw [setRow_len]; exact h.n2
  nx := by rw [setRow_len]; exact hnx
  tot := by
    have h1 := sum_set (q.rows.map List.length) c xs.length (by simpa using hc)
    have h2 : (q.rows.map List.length).getD c 0 = (q.row c).length := by
      simp only [row, List.getD_eq_getElem?_getD, List.getElem?_map, List.getElem?_eq_getElem hc]
      simp
    rw [h2, ← h.tot, ← List.map_set] at h1
    show t = ((q.rows.set c xs).map List.length).sum
    omega
  full := by
    intro ys hy
    rcases List.mem_or_eq_of_mem_set hy with hy | rfl
    · exact h.full ys hy
    · exact hx

/-- Push. -/
def pushed (q : QM α) (c : Nat) (x : α) : QM α := q.setRow c (q.row c ++ [x]) (q.total + 1) q.next
def push (q : QM α) (c : Int) (x : α) : Int × QM α :=
  if c < 0 ∨ (q.rows.length : Int) ≤ c then (1, q) else if q.places ≤ (q.row c.toNat).length then (141, q) else (0, q.pushed c.toNat x)
theorem pushed_wf {q : QM α} (h : q.Wf) {c : Nat} {x : α} (hc : c < q.rows.length) (hx : (q.row c).length < q.places) : (q.pushed c x).Wf :=
  setRow_wf h hc (by simp; omega) (by simp; omega) h.nx
theorem push_wf {q : QM α} (h : q.Wf) (c : Int) (x : α) : (q.push c x).2.Wf := by
  unfold push
  split
  · exact h
  · split
    · exact h
    · exact pushed_wf h (by omega) (by omega)
theorem push_len (q : QM α) (c : Int) (x : α) : (q.push c x).2.rows.length = q.rows.length := by
  unfold push
  split
  · rfl
  · split
    · rfl
    · exact setRow_len ..
theorem push_places (q : QM α) (c : Int) (x : α) : (q.push c x).2.places = q.places := by
  unfold push
  split
  · rfl
  · split <;> rfl

/-- Where the first one that has something stands, counted from next. -/
def first (q : QM α) : Option Nat := (List.range q.rows.length).find? fun j => !(q.row (q.at_ j)).isEmpty
def popped (q : QM α) (c : Nat) : QM α := q.setRow c (q.row c).tail (q.total - 1) ((c + 1) % q.rows.length)
/-- Pop: whose, what; what is left. -/
def pop (q : QM α) : Option (Nat × α) × QM α :=
  match q.first with
  | none => (none, q)
  | some j => match q.row (q.at_ j) with
    | [] => (none, q)
    | x :: _ => (some (q.at_ j, x), q.popped (q.at_ j))
theorem first_none {q : QM α} (h : q.first = none) : ∀ j, j < q.rows.length → q.row (q.at_ j) = [] := by
  intro j hj
  have := List.find?_eq_none.1 h j (List.mem_range.2 hj)
  simpa using this
theorem find_range {p : Nat → Bool} {m j : Nat} (h : (List.range m).find? p = some j) : j < m ∧ p j = true ∧ ∀ i, i < j → p i = false := by
  induction m with
  | zero => simp at h
  | succ m ih =>
    rw [List.range_succ, List.find?_append] at h
    cases e : (List.range m).find? p with
    | some i =>
      rw [e] at h
      simp at h
      subst h
      obtain ⟨h1, h2, h3⟩ := ih e
      exact ⟨by omega, h2, h3⟩
    | none =>
      rw [e] at h
      simp [List.find?_cons] at h
      cases hp : p m with
      | false => rw [hp] at h; simp at h
      | true =>
        rw [hp] at h
        simp at h
        subst h
        exact ⟨by omega, hp, fun i hi => by have := List.find?_eq_none.1 e i (List.mem_range.2 hi); simpa using this⟩
theorem first_some {q : QM α} {j : Nat} (h : q.first = some j) : j < q.rows.length ∧ q.row (q.at_ j) ≠ [] ∧ ∀ i, i < j → q.row (q.at_ i) = [] := by
  obtain ⟨h1, h2, h3⟩ := find_range h
  refine ⟨h1, by simpa using h2, fun i hi => by simpa using h3 i hi⟩
theorem at_lt {q : QM α} (h : q.Wf) (j : Nat) : q.at_ j < q.rows.length := Nat.mod_lt _ (by have := h.n1; omega)
theorem popped_wf {q : QM α} (h : q.Wf) {c : Nat} (hc : c < q.rows.length) (hx : q.row c ≠ []) : (q.popped c).Wf := by
  have h1 := row_le h c
  have h2 := row_le_total h c
  have h3 : (q.row c).length ≠ 0 := fun e => hx (List.eq_nil_of_length_eq_zero e)
  refine setRow_wf h hc (by simp; omega) (by simp; omega) (Nat.mod_lt _ (by omega))
theorem pop_wf {q : QM α} (h : q.Wf) : q.pop.2.Wf := by
  unfold pop
  split
  · exact h
  · rename_i j hj
    split
    · exact h
    · rename_i x xs hx
      exact popped_wf h (at_lt h j) (by rw [hx]; simp)
theorem pop_len (q : QM α) : q.pop.2.rows.length = q.rows.length := by
  unfold pop
  split
  · rfl
  · split
    · rfl
    · exact setRow_len ..
theorem pop_places (q : QM α) : q.pop.2.places = q.places := by
  unfold pop
  split
  · rfl
  · split <;> rfl
/-- Pop in two ways. -/
theorem pop_cases (q : QM α) (h : q.Wf) :
    (q.pop = (none, q) ∧ q.first = none ∧ ∀ j, j < q.rows.length → q.row (q.at_ j) = []) ∨
    (∃ j x xs, q.first = some j ∧ j < q.rows.length ∧ q.at_ j < q.rows.length ∧ q.row (q.at_ j) = x :: xs ∧ (∀ i, i < j → q.row (q.at_ i) = []) ∧ q.pop = (some (q.at_ j, x), q.popped (q.at_ j))) := by
  cases hf : q.first with
  | none => exact .inl ⟨by simp [pop, hf], rfl, first_none hf⟩
  | some j =>
    obtain ⟨h1, h2, h3⟩ := first_some hf
    cases hr : q.row (q.at_ j) with
    | nil => exact absurd hr h2
    | cons x xs => exact .inr ⟨j, x, xs, rfl, h1, at_lt h j, hr, h3, by simp [pop, hf, hr]⟩
/-- Every client is met by some look. -/
theorem at_all {q : QM α} (h : q.Wf) {c : Nat} (hc : c < q.rows.length) : ∃ j, j < q.rows.length ∧ q.at_ j = c := by
  have hx := h.nx
  by_cases e : q.next ≤ c
  · refine ⟨c - q.next, by omega, ?_⟩
    unfold at_
    rw [show q.next + (c - q.next) = c by omega]
    exact Nat.mod_eq_of_lt hc
  · refine ⟨c + q.rows.length - q.next, by omega, ?_⟩
    unfold at_
    rw [show q.next + (c + q.rows.length - q.next) = c + q.rows.length by omega, Nat.add_mod_right]
    exact Nat.mod_eq_of_lt hc

theorem sum_zero (l : List Nat) (h : ∀ x, x ∈ l → x = 0) : l.sum = 0 := by
  induction l with
  | nil => rfl
  | cons a l ih => rw [List.sum_cons, h a (by simp), ih (fun x hx => h x (by simp [hx]))]
theorem pop_pos {q : QM α} (h : q.Wf) (hp : 0 < q.total) : ∃ c x xs, c < q.rows.length ∧ q.row c = x :: xs ∧ q.pop = (some (c, x), q.popped c) := by
  rcases q.pop_cases h with ⟨_, _, he⟩ | ⟨j, x, xs, _, _, hat, hx, _, hpop⟩
  · exfalso
    have h0 : (q.rows.map List.length).sum = 0 := by
      refine sum_zero _ fun y hy => ?_
      obtain ⟨xs, hxs, rfl⟩ := List.mem_map.1 hy
      obtain ⟨c, hc, e⟩ := List.mem_iff_getElem.1 hxs
      obtain ⟨j, hj, ej⟩ := at_all h hc
      have := he j hj
      rw [ej] at this
      have e2 := q.row_get hc
      rw [List.getElem?_eq_getElem hc, e, this] at e2
      cases e2
      rfl
    rw [← h.tot] at h0
    omega
  · exact ⟨_, x, xs, hat, hx, hpop⟩
theorem pop_zero {q : QM α} (h : q.Wf) (hp : q.total = 0) : q.pop = (none, q) := by
  rcases q.pop_cases h with ⟨e, _⟩ | ⟨j, x, xs, _, _, hat, hx, _, _⟩
  · exact e
  · have := row_le_total h (q.at_ j)
    rw [hx] at this
    simp at this
    omega

/-- An empty queue. -/
def empty (clients places : Nat) : QM α := ⟨places, List.replicate clients [], 0, 0⟩
theorem empty_wf {c p : Nat} (h1 : 1 ≤ c) (h2 : c ≤ 64) (h3 : 1 ≤ p) (h4 : p ≤ 64) : (empty (α := α) c p).Wf where
  p1 := h3
  p2 := h4
  n1 := by simpa [empty] using h1
  n2 := by simpa [empty] using h2
  nx := by simp [empty]; omega
  tot := by simp [empty]
  full := by intro xs hx; simp [empty] at hx; simp [hx.2]
theorem empty_row (c p d : Nat) : (empty (α := α) c p).row d = [] := by
  simp only [empty, row, List.getD_eq_getElem?_getD, List.getElem?_replicate]
  split <;> simp
end QM
end Go.Proofs.Ytekgdlpicgibhaa.QQ
