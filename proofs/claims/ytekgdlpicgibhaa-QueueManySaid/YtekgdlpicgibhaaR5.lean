/-
  The document's queue: each operation's contract for every state; a queue and the document's, apart, told the same.
-/
import Derived.Test.YtekgdlpicgibhaaR4
namespace Go.Proofs.Ytekgdlpicgibhaa.QI
open Go.RowKit Go.Proofs.YtekgdlpicgibhaaW.PrintWords Go.Proofs.Ytekgdlpicgibhaa.QQ

section
variable {w : World} {base rb : Nat} {S : Nat → Prop} {q : QM Int}
theorem rpush_any (h : RIn w base S rb q) (hw : q.Wf) (hbase : base ≤ w.heap.size) (c x : Int) :
    Calls Try.prog 38 #[.pointer (some ⟨rb, 0, none⟩), .int .i64 c, .int .i64 x] w fun e w' => e = .returned (.int .i64 (q.push c x).1) ∧ RLeft w base S rb (q.push c x).2 w' := by
  obtain ⟨lb, l, vals, hA, hf⟩ := h
  by_cases hc : c < 0 ∨ (q.rows.length : Int) ≤ c
  · refine (rpush_arg hA c x hc).mono ?_
    rintro e w' ⟨rfl, rfl⟩
    simp only [RLeft, QM.push, if_pos hc]
    exact ⟨trivial, ⟨lb, l, vals, hA, fun k hk => .inl (hf k hk)⟩, Only.refl _ _⟩
  · obtain ⟨n, rfl⟩ := Int.eq_ofNat_of_zero_le (show 0 ≤ c by omega)
    have hn : n < q.rows.length := by omega
    by_cases hp : q.places ≤ (q.row n).length
    · refine (rpush_full hA n x (q.row_get hn) hp).mono ?_
      rintro e w' ⟨rfl, m, rfl⟩
      simp only [RLeft, QM.push, if_neg hc, Int.toNat_natCast, if_pos hp]
      exact ⟨trivial, ⟨lb, l, vals, hA.move (fun _ _ => rfl), fun k hk => .inl (hf k hk)⟩, Only.drewN _ _ _⟩
    · refine (rpush_ok hA n x (q.row_get hn) (by omega) hw.p2 hbase).mono ?_
      rintro e w' ⟨rfl, vals', hA', ho, hF⟩
      simp only [RLeft, QM.push, if_neg hc, Int.toNat_natCast, if_neg hp]
      exact ⟨trivial, ⟨lb, l, vals', hA', fun k hk => (hF k hk).imp (hf k) id⟩, ho.mono (fun k hk => hf k (.inr (.inl hk)))⟩
theorem rpop_any (h : RIn w base S rb q) (hw : q.Wf) (hbase : base ≤ w.heap.size) :
    Calls Try.prog 39 #[.pointer (some ⟨rb, 0, none⟩)] w fun e w' => e = .returned (popValue q.pop.1) ∧ RLeft w base S rb q.pop.2 w' := by
  obtain ⟨lb, l, vals, hA, hf⟩ := h
  rcases q.pop_cases hw with ⟨hp, _, hr⟩ | ⟨j, x, xs, _, hj, hat, hx, hr, hp⟩
  · refine (rpop_none hA hw.n2 (fun j hj => by rw [← hr j hj]; exact q.row_get (QM.at_lt hw j))).mono ?_
    rintro e w' ⟨rfl, m, rfl⟩
    simp only [RLeft, hp]
    exact ⟨rfl, ⟨lb, l, vals, hA.move (fun _ _ => rfl), fun k hk => .inl (hf k hk)⟩, Only.drewN _ _ _⟩
  · refine (rpop_some hA hw.n2 hbase j hj (fun i hi => by rw [← hr i hi]; exact q.row_get (QM.at_lt hw i)) (x := x) (xs := xs) (by rw [← hx]; exact q.row_get hat) ?_).mono ?_
    · have := QM.row_le hw (q.at_ j)
      have := hw.p2
      rw [hx] at *
      simp at *
      omega
    · rintro e w' ⟨rfl, vals', hA', ho, hF⟩
      simp only [RLeft, hp]
      refine ⟨rfl, ⟨lb, q.at_ j, vals', ?_, fun k hk => (hF k hk).imp (hf k) id⟩, ho.mono (fun k hk => hk.elim (fun e => hf k (.inl e)) (fun e => hf k (.inr (.inl e))))⟩
      have e : q.popped (q.at_ j) = { q with rows := q.rows.set (q.at_ j) xs, total := q.total - 1, next := (q.at_ j + 1) % q.rows.length } := by
        simp [QM.popped, QM.setRow, hx]
      rw [e]
      exact hA'
end

/-- A queue and the document's, apart, in blocks of S. -/
structure PIn (w : World) (B : Nat) (S1 S2 : Nat → Prop) (qb rb : Nat) (q : QM Int) : Prop where
  a : QIn w B S1 qb q
  b : RIn w B S2 rb q
  wf : q.Wf
  ap : ∀ k, S1 k → ¬ S2 k
  lo : B ≤ w.heap.size
  hi1 : ∀ k, S1 k → k < w.heap.size
  hi2 : ∀ k, S2 k → k < w.heap.size

variable {w : World} {B qb rb : Nat} {S1 S2 : Nat → Prop} {q : QM Int}
/-- What a step leaves: both in the old blocks or in new ones, below w'. -/
def PLeft (w : World) (B : Nat) (S1 S2 : Nat → Prop) (qb rb : Nat) (q' : QM Int) (w' : World) : Prop :=
  ∃ T1 T2, PIn w' B T1 T2 qb rb q' ∧ (∀ k, T1 k ∨ T2 k → (S1 k ∨ S2 k) ∨ w.heap.size ≤ k) ∧ Only (fun k => S1 k ∨ S2 k) w w'
theorem PIn.below {w1 : World} (h : PIn w B S1 S2 qb rb q) (hb : Below w.heap.size w w1) : PIn w1 B S1 S2 qb rb q :=
  ⟨h.a.below hb, h.b.below hb, h.wf, h.ap, Nat.le_trans h.lo hb.size, fun k hk => Nat.lt_of_lt_of_le (h.hi1 k hk) hb.size, fun k hk => Nat.lt_of_lt_of_le (h.hi2 k hk) hb.size⟩
theorem PIn.move {w1 : World} (h : PIn w B S1 S2 qb rb q) {S' : Nat → Prop} (ho : Only S' w w1) (hs : ∀ k, S1 k ∨ S2 k → ¬ S' k) : PIn w1 B S1 S2 qb rb q :=
  ⟨h.a.move ho (fun k hk => hs k (.inl hk)), h.b.move ho (fun k hk => hs k (.inr hk)), h.wf, h.ap, Nat.le_trans h.lo ho.size, fun k hk => Nat.lt_of_lt_of_le (h.hi1 k hk) ho.size, fun k hk => Nat.lt_of_lt_of_le (h.hi2 k hk) ho.size⟩
theorem PIn.steps {q' : QM Int} {w1 w2 : World} (h : PIn w B S1 S2 qb rb q) (hw : q'.Wf) (ha : Left w B S1 qb q' w1) (hb : RIn w1 B S2 rb q → RLeft w1 B S2 rb q' w2) : PLeft w B S1 S2 qb rb q' w2 := by
  obtain ⟨a1, a2⟩ := ha
  obtain ⟨b1, b2⟩ := hb (h.b.move a2 (fun k h2 h1 => h.ap k h1 h2))
  have s1 := a2.size
  have s2 := b2.size
  refine ⟨_, _, ⟨(a1.bound).move b2 (fun k hk h2 => ?_), b1.bound, hw, ?_, by have := h.lo; omega, fun k hk => Nat.lt_of_lt_of_le hk.2.2 s2, fun k hk => hk.2.2⟩, ?_, ?_⟩
  · have := h.hi2 k h2
    rcases hk.1 with hk | hk
    · exact h.ap k hk h2
    · omega
  · rintro k ⟨h1, _, h2⟩ ⟨h3, _, _⟩
    rcases h3 with h3 | h3
    · have := h.hi2 k h3
      rcases h1 with h1 | h1
      · exact h.ap k h1 h3
      · omega
    · omega
  · rintro k (⟨hk, _, _⟩ | ⟨hk, _, _⟩)
    · exact hk.imp .inl id
    · rcases hk with hk | hk
      · exact .inl (.inr hk)
      · exact .inr (by omega)
  · exact (a2.mono (fun k hk => .inl hk)).trans (b2.mono (S' := fun k => S1 k ∨ S2 k) (fun k hk => .inr hk)) (fun k hk => .inl hk)
end Go.Proofs.Ytekgdlpicgibhaa.QI
