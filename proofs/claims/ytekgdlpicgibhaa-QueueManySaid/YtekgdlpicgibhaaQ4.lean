/-
  The queue of ints: each operation's contract for every state, told by the queue as data.
-/
import Derived.Test.YtekgdlpicgibhaaQ3
namespace Go.Proofs.Ytekgdlpicgibhaa.QI
open Go.RowKit Go.Proofs.YtekgdlpicgibhaaW.PrintWords Go.Proofs.Ytekgdlpicgibhaa.QQ

/-- A queue lies in w, in blocks of S. -/
def QIn (w : World) (base : Nat) (S : Nat → Prop) (qb : Nat) (q : QM Int) : Prop := ∃ rb vals, At w base qb rb vals q ∧ ∀ k, Foot qb rb vals k → S k
/-- S and what is new. -/
def Grow (S : Nat → Prop) (w : World) (k : Nat) : Prop := S k ∨ w.heap.size ≤ k

variable {w : World} {base qb : Nat} {S : Nat → Prop} {q : QM Int}

theorem QIn.move {w1 : World} (h : QIn w base S qb q) {S' : Nat → Prop} (ho : Only S' w w1) (hs : ∀ k, S k → ¬ S' k) : QIn w1 base S qb q := by
  obtain ⟨rb, vals, hA, hf⟩ := h
  exact ⟨rb, vals, hA.only rfl ho (fun k hk => hs k (hf k hk)), hf⟩
theorem QIn.below {w1 : World} (h : QIn w base S qb q) (hb : Below w.heap.size w w1) : QIn w1 base S qb q := by
  obtain ⟨rb, vals, hA, hf⟩ := h
  exact ⟨rb, vals, hA.below rfl hb, hf⟩
theorem QIn.mono (h : QIn w base S qb q) {S' : Nat → Prop} (hs : ∀ k, S k → S' k) : QIn w base S' qb q := by
  obtain ⟨rb, vals, hA, hf⟩ := h
  exact ⟨rb, vals, hA, fun k hk => hs k (hf k hk)⟩
theorem QIn.bound (h : QIn w base S qb q) : QIn w base (fun k => S k ∧ base ≤ k ∧ k < w.heap.size) qb q := by
  obtain ⟨rb, vals, hA, hf⟩ := h
  exact ⟨rb, vals, hA, fun k hk => ⟨hf k hk, hA.foot_base hk⟩⟩

/-- What an operation leaves. -/
def Left (w : World) (base : Nat) (S : Nat → Prop) (qb : Nat) (q' : QM Int) (w' : World) : Prop := QIn w' base (Grow S w) qb q' ∧ Only S w w'

def PushAny (w : World) (base : Nat) (S : Nat → Prop) (qb : Nat) (q : QM Int) (c : Int) (x : Int) (e : Ending) (w' : World) : Prop :=
  e = .returned (.int .i64 (q.push c x).1) ∧ Left w base S qb (q.push c x).2 w'
theorem push_any (h : QIn w base S qb q) (hw : q.Wf) (hbase : base ≤ w.heap.size) (c x : Int) :
    Calls Try.prog 19 #[.pointer (some ⟨qb, 0, none⟩), .int .i64 c, .int .i64 x] w (PushAny w base S qb q c x) := by
  obtain ⟨rb, vals, hA, hf⟩ := h
  by_cases hc : c < 0 ∨ (q.rows.length : Int) ≤ c
  · refine (push_arg hA c x (by omega)).mono ?_
    rintro e w' ⟨rfl, rfl⟩
    simp only [PushAny, Left, QM.push, if_pos hc]
    exact ⟨trivial, ⟨rb, vals, hA, fun k hk => .inl (hf k hk)⟩, Only.refl _ _⟩
  · obtain ⟨n, rfl⟩ := Int.eq_ofNat_of_zero_le (show 0 ≤ c by omega)
    have hn : n < q.rows.length := by omega
    by_cases hp : q.places ≤ (q.row n).length
    · refine (push_full hA n x (q.row_get hn) hp).mono ?_
      rintro e w' ⟨rfl, m, rfl⟩
      simp only [PushAny, Left, QM.push, if_neg hc, Int.toNat_natCast, if_pos hp]
      exact ⟨trivial, ⟨rb, vals, hA.move rfl (fun _ _ => rfl), fun k hk => .inl (hf k hk)⟩, Only.drewN _ _ _⟩
    · refine (push_ok hA n x (q.row_get hn) (by omega) hw.p2 hbase (QM.total_le hw)).mono ?_
      rintro e w' ⟨rfl, vals', xs, hx, hA', ho, hF⟩
      rw [q.row_get hn] at hx
      cases hx
      simp only [PushAny, Left, QM.push, if_neg hc, Int.toNat_natCast, if_neg hp]
      exact ⟨trivial, ⟨rb, vals', hA', fun k hk => (hF k hk).imp (hf k) id⟩, ho.mono hf⟩

def popValue : Option (Nat × Int) → Value
  | none => .tuple #[.int .i64 0, .int .i64 0, .bool false]
  | some (c, x) => .tuple #[.int .i64 (c : Int), .int .i64 x, .bool true]
def PopAny (w : World) (base : Nat) (S : Nat → Prop) (qb : Nat) (q : QM Int) (e : Ending) (w' : World) : Prop :=
  e = .returned (popValue q.pop.1) ∧ Left w base S qb q.pop.2 w'
theorem pop_any (h : QIn w base S qb q) (hw : q.Wf) (hbase : base ≤ w.heap.size) :
    Calls Try.prog 18 #[.pointer (some ⟨qb, 0, none⟩)] w (PopAny w base S qb q) := by
  obtain ⟨rb, vals, hA, hf⟩ := h
  rcases q.pop_cases hw with ⟨hp, _, hr⟩ | ⟨j, x, xs, _, hj, hat, hx, hr, hp⟩
  · refine (pop_none hA hw.n2 hw.n1 hw.nx (fun j hj => by rw [← hr j hj]; exact q.row_get (QM.at_lt hw j))).mono ?_
    rintro e w' ⟨rfl, m, rfl⟩
    simp only [PopAny, Left, hp]
    exact ⟨rfl, ⟨rb, vals, hA.move rfl (fun _ _ => rfl), fun k hk => .inl (hf k hk)⟩, Only.drewN _ _ _⟩
  · refine (pop_some hA hw.n2 hw.nx hbase j hj (fun i hi => by rw [← hr i hi]; exact q.row_get (QM.at_lt hw i)) (x := x) (xs := xs) (by rw [← hx]; exact q.row_get hat) ?_ (QM.total_le hw)).mono ?_
    · have := QM.row_le_total hw (q.at_ j)
      rw [hx] at this
      simp at this
      omega
    · rintro e w' ⟨rfl, vals', hA', ho, hF⟩
      simp only [PopAny, Left, hp]
      refine ⟨rfl, ⟨rb, vals', ?_, fun k hk => (hF k hk).imp (hf k) id⟩, ho.mono hf⟩
      have e : q.popped (q.at_ j) = { q with rows := q.rows.set (q.at_ j) xs, total := q.total - 1, next := (q.at_ j + 1) % q.rows.length } := by
        simp [QM.popped, QM.setRow, hx]
      rw [e]
      exact hA'

theorem total_any (h : QIn w base S qb q) :
    Calls Try.prog 20 #[.pointer (some ⟨qb, 0, none⟩)] w fun e w' => e = .returned (.int .i64 (q.total : Int)) ∧ w = w' := by
  obtain ⟨rb, vals, hA, _⟩ := h
  obtain ⟨c0, c1, c2, c3⟩ := hA.cell
  clear hA
  go_enter Try.func20, Try.ntmps20
  go_wp2
  go_ret
  exact ⟨rfl, rfl⟩

theorem new_any (c p : Int) (w : World) (h1 : 1 ≤ c) (h2 : c ≤ 64) (h3 : 1 ≤ p) (h4 : p ≤ 64) :
    Calls Try.prog 17 #[.int .i64 c, .int .i64 p] w fun e w' => ∃ qb, e = .returned (.pointer (some ⟨qb, 0, none⟩)) ∧ QIn w' w.heap.size (fun k => w.heap.size ≤ k) qb (QM.empty c.toNat p.toNat) ∧ Below w.heap.size w w' := by
  refine (new_yes c p w h1 h2 h3 h4).mono ?_
  rintro e w' ⟨qb, rb, rfl, hA, hb⟩
  exact ⟨qb, rfl, ⟨rb, _, hA, fun k hk => (hA.foot_base hk).1⟩, hb⟩
end Go.Proofs.Ytekgdlpicgibhaa.QI
