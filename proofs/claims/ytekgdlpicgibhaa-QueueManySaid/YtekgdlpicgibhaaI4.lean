/-
  The queue of structs: each operation's contract for every state, told by the queue as data.
-/
import Derived.Test.YtekgdlpicgibhaaI3
namespace Go.Proofs.Ytekgdlpicgibhaa.QT
open Go.RowKit Go.Proofs.YtekgdlpicgibhaaW.PrintWords Go.Proofs.Ytekgdlpicgibhaa.QQ

/-- A queue lies in w, in blocks of S. -/
def QIn (w : World) (base : Nat) (S : Nat → Prop) (qb : Nat) (q : QM It) : Prop := ∃ rb vals, At w base qb rb vals q ∧ ∀ k, Foot qb rb vals k → S k
/-- S and what is new. -/
def Grow (S : Nat → Prop) (w : World) (k : Nat) : Prop := S k ∨ w.heap.size ≤ k

variable {w : World} {base qb : Nat} {S : Nat → Prop} {q : QM It}

theorem QIn.move {w1 : World} (h : QIn w base S qb q) {S' : Nat → Prop} (ho : Only S' w w1) (hs : ∀ k, S k → ¬ S' k) : QIn w1 base S qb q := by
  obtain ⟨rb, vals, hA, hf⟩ := h
  exact ⟨rb, vals, hA.only rfl ho (fun k hk => hs k (hf k hk)), hf⟩
theorem QIn.below {w1 : World} (h : QIn w base S qb q) (hb : Below w.heap.size w w1) : QIn w1 base S qb q := by
  obtain ⟨rb, vals, hA, hf⟩ := h
  exact ⟨rb, vals, hA.below rfl hb, hf⟩
theorem QIn.mono (h : QIn w base S qb q) {S' : Nat → Prop} (hs : ∀ k, S k → S' k) : QIn w base S' qb q := by
  obtain ⟨rb, vals, hA, hf⟩ := h
  exact ⟨rb, vals, hA, fun k hk => hs k (hf k hk)⟩
theorem QIn.bound (h : QIn w base S qb q) : QIn w base (fun k => S k ∧ base ≤ k ∧ k < w.heap.size) qb q := by
  obtain ⟨rb, vals, hA, hf⟩ := h
  exact ⟨rb, vals, hA, fun k hk => ⟨hf k hk, hA.foot_base hk⟩⟩

/-- What an operation leaves. -/
def Left (w : World) (base : Nat) (S : Nat → Prop) (qb : Nat) (q' : QM It) (w' : World) : Prop := QIn w' base (Grow S w) qb q' ∧ Only S w w'

def PushAny (w : World) (base : Nat) (S : Nat → Prop) (qb : Nat) (q : QM It) (c : Int) (x : It) (e : Ending) (w' : World) : Prop :=
  e = .returned (.int .i64 (q.push c x).1) ∧ Left w base S qb (q.push c x).2 w'
theorem push_any (h : QIn w base S qb q) (hw : q.Wf) (hbase : base ≤ w.heap.size) (c : Int) (x : It) :
    Calls Try.prog 32 #[.pointer (some ⟨qb, 0, none⟩), .int .i64 c, x.val] w (PushAny w base S qb q c x) := by
  obtain ⟨rb, vals, hA, hf⟩ := h
  by_cases hc : c < 0 ∨ (q.rows.length : Int) ≤ c
  · refine (push_arg hA c x (by omega)).mono ?_
    rintro e w' ⟨rfl, hb⟩
    simp only [PushAny, Left, QM.push, if_pos hc]
    exact ⟨trivial, ⟨rb, vals, hA.below rfl hb, fun k hk => .inl (hf k hk)⟩, Only.of_below hb _⟩
  · obtain ⟨n, rfl⟩ := Int.eq_ofNat_of_zero_le (show 0 ≤ c by omega)
    have hn : n < q.rows.length := by omega
    by_cases hp : q.places ≤ (q.row n).length
    · refine (push_full hA n x (q.row_get hn) hp).mono ?_
      rintro e w' ⟨rfl, hb⟩
      simp only [PushAny, Left, QM.push, if_neg hc, Int.toNat_natCast, if_pos hp]
      exact ⟨trivial, ⟨rb, vals, hA.below rfl hb, fun k hk => .inl (hf k hk)⟩, Only.of_below hb _⟩
    · refine (push_ok hA n x (q.row_get hn) (by omega) hw.p2 hbase (QM.total_le hw)).mono ?_
      rintro e w' ⟨rfl, vals', xs, hx, hA', ho, hF⟩
      rw [q.row_get hn] at hx
      cases hx
      simp only [PushAny, Left, QM.push, if_neg hc, Int.toNat_natCast, if_neg hp]
      exact ⟨trivial, ⟨rb, vals', hA', fun k hk => (hF k hk).imp (hf k) id⟩, ho.mono hf⟩

def popValue : Option (Nat × It) → Value
  | none => .tuple #[.int .i64 0, z43, .bool false]
  | some (c, x) => .tuple #[.int .i64 (c : Int), x.val, .bool true]
def PopAny (w : World) (base : Nat) (S : Nat → Prop) (qb : Nat) (q : QM It) (e : Ending) (w' : World) : Prop :=
  e = .returned (popValue q.pop.1) ∧ Left w base S qb q.pop.2 w'
theorem pop_any (h : QIn w base S qb q) (hw : q.Wf) (hbase : base ≤ w.heap.size) :
    Calls Try.prog 33 #[.pointer (some ⟨qb, 0, none⟩)] w (PopAny w base S qb q) := by
  obtain ⟨rb, vals, hA, hf⟩ := h
  rcases q.pop_cases hw with ⟨hp, _, hr⟩ | ⟨j, x, xs, _, hj, hat, hx, hr, hp⟩
  · refine (pop_none hA hw.n2 hw.n1 hw.nx (fun j hj => by rw [← hr j hj]; exact q.row_get (QM.at_lt hw j))).mono ?_
    rintro e w' ⟨rfl, hb⟩
    simp only [PopAny, Left, hp]
    exact ⟨rfl, ⟨rb, vals, hA.below rfl hb, fun k hk => .inl (hf k hk)⟩, Only.of_below hb _⟩
  · refine (pop_some hA hw.n2 hw.nx hbase j hj (fun i hi => by rw [← hr i hi]; exact q.row_get (QM.at_lt hw i)) (x := x) (xs := xs) (by rw [← hx]; exact q.row_get hat) ?_ (QM.total_le hw)).mono ?_
    · have := QM.row_le_total hw (q.at_ j)
      rw [hx] at this
      simp at this
      omega
    · rintro e w' ⟨rfl, vals', hA', ho, hF⟩
      simp only [PopAny, Left, hp]
      refine ⟨rfl, ⟨rb, vals', ?_, fun k hk => (hF k hk).imp (hf k) id⟩, ho.mono hf⟩
      have e : q.popped (q.at_ j) = { q with rows := q.rows.set (q.at_ j) xs, total := q.total - 1, next := (q.at_ j + 1) % q.rows.length } := by
        simp [QM.popped, QM.setRow, hx]
      rw [e]
      exact hA'

theorem new_any (c p : Int) (w : World) (h1 : 1 ≤ c) (h2 : c ≤ 64) (h3 : 1 ≤ p) (h4 : p ≤ 64) :
    Calls Try.prog 31 #[.int .i64 c, .int .i64 p] w fun e w' => ∃ qb, e = .returned (.pointer (some ⟨qb, 0, none⟩)) ∧ QIn w' w.heap.size (fun k => w.heap.size ≤ k) qb (QM.empty c.toNat p.toNat) ∧ Below w.heap.size w w' := by
  refine (new_yes c p w h1 h2 h3 h4).mono ?_
  rintro e w' ⟨qb, rb, rfl, hA, hb⟩
  exact ⟨qb, rfl, ⟨rb, _, hA, fun k hk => (hA.foot_base hk).1⟩, hb⟩
/-! ### One client, sixty-four places -/
/-- The queue in which xs waits. -/
def One (xs : List It) : QM It := ⟨64, [xs], 0, xs.length⟩
theorem one_empty : QM.empty (1 : Int).toNat (64 : Int).toNat = One [] := rfl
theorem one_push (xs : List It) (x : It) (h : xs.length < 64) : (One xs).push 0 x = (0, One (xs ++ [x])) := by
  have h1 : (One xs).row 0 = xs := rfl
  unfold QM.push
  rw [if_neg (by simp [One]), if_neg (by show ¬ 64 ≤ ((One xs).row 0).length; rw [h1]; omega)]
  simp [QM.pushed, QM.setRow, One, QM.row]
theorem one_pop (x : It) (xs : List It) : (One (x :: xs)).pop = (some (0, x), One xs) := by
  have h : (One (x :: xs)).first = some 0 := by
    have e : (One (x :: xs)).rows.length = 1 := rfl
    unfold QM.first
    rw [e]
    rfl
  unfold QM.pop
  rw [h]
  simp [One, QM.row, QM.at_, QM.popped, QM.setRow]
theorem one_none : (One []).pop = (none, One []) := by
  have h : (One []).first = none := by
    have e : (One []).rows.length = 1 := rfl
    unfold QM.first
    rw [e]
    rfl
  unfold QM.pop
  rw [h]
theorem one_wf (xs : List It) (h : xs.length ≤ 64) : (One xs).Wf where
  p1 := by simp [One]
  p2 := by simp [One]
  n1 := by simp [One]
  n2 := by simp [One]
  nx := by simp [One]
  tot := by simp [One]
  full := fun ys hy => by
    have e : ys = xs := by simpa [One] using hy
    subst e
    exact h
end Go.Proofs.Ytekgdlpicgibhaa.QT
