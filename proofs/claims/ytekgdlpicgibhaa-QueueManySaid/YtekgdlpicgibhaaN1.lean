/-
  QueueMany's state: up to twenty pairs of queues, the row of them, a queue of structs; each block is one's.
-/
import Derived.Test.YtekgdlpicgibhaaP5
import Derived.Test.YtekgdlpicgibhaaI4
namespace Go.Proofs.Ytekgdlpicgibhaa.QI
open Go.RowKit Go.Proofs.YtekgdlpicgibhaaW.PrintWords Go.Proofs.Ytekgdlpicgibhaa.QQ

def ptr (b : Nat) : Value := .pointer (some ⟨b, 0, none⟩)
/-- A row of pairs. -/
def kP : Kd (Nat × Nat) := Kd.iso (Kd.raw 2) (fun p => [ptr p.1, ptr p.2])
theorem kP_mk {w : World} {base : Nat} {ok : Nat → Prop} {x : Nat × Nat} {cs : List Value} (h : cs = [ptr x.1, ptr x.2]) : kP.M w base ok x cs := by
  subst h
  exact ⟨rfl, rfl, by intro u hu; simp only [List.mem_cons, List.not_mem_nil, or_false] at hu; rcases hu with rfl | rfl <;> rfl⟩
theorem info49 : (Try.prog.info? 49).map (fun i => (i.zero, i.size, i.bytes)) = some (some (.agg #[.pointer none, .pointer none]), 2, 16) := by kernel_rfl
def RP (w : World) (b : Nat) (v : Value) (xs : List (Nat × Nat)) : Prop := kP.R 49 w b (fun _ => True) v xs
theorem RP.keep {w w1 : World} {b : Nat} {v : Value} {xs : List (Nat × Nat)} (h : RP w b v xs) (hk : ∀ k, v.ownBlock = some k → w1.heap[k]? = w.heap[k]?) : RP w1 b v xs :=
  Kd.R_mono (Kd.R_step (Kd.R_tight rfl h) (fun k hk' _ => hk k hk'.symm)) (fun _ _ => trivial)
theorem RP.lt {w : World} {b : Nat} {v : Value} {xs : List (Nat × Nat)} (h : RP w b v xs) : ∀ k, v.ownBlock = some k → k < w.heap.size := Kd.R_lt h
theorem RP.cell {w : World} {b : Nat} {A : Option Addr} {n c : Nat} {xs : List (Nat × Nat)} (h : RP w b (.slice A n c) xs) {j : Nat} {x : Nat × Nat} (hx : xs[j]? = some x) :
    ∃ g, A = some ⟨g, 0, none⟩ ∧ w.cell? ⟨g, j * 2, none⟩ = some (.pointer (some ⟨x.1, 0, none⟩)) ∧ w.cell? ⟨g, j * 2 + 1, none⟩ = some (.pointer (some ⟨x.2, 0, none⟩)) := by
  obtain ⟨hn, _, hC⟩ := Kd.R_reads' h
  have hj : j < xs.length := (List.getElem?_eq_some_iff.1 hx).1
  obtain ⟨ad, cs, hA, _, hK, hc⟩ := Kd.C_get hC x (j : Int) (by omega) (by omega)
  simp only [Int.toNat_natCast] at hK hc
  rw [List.getD_eq_getElem?_getD, hx] at hK
  obtain ⟨rfl, _⟩ := hK
  subst hA
  obtain ⟨g, rfl⟩ := Kd.R_head h
  have e : ∀ n, Addr.add ⟨g, 0, none⟩ n = ⟨g, n, none⟩ := by
    intro n
    unfold Addr.add
    split
    · next h => rw [h]
    · simp
  have z0 := hc 0 _ rfl
  have z1 := hc 1 _ rfl
  rw [e] at z0 z1
  exact ⟨g, rfl, z0, z1⟩

/-- f tells whose a block is: i + 1 the i-th pair's, 100 the row's, 200 the queue of structs'. -/
structure MS (w0 w : World) (f : Nat → Nat) (n : Nat) (vp : Value) (P : List (Nat × Nat)) (o : Option (Nat × List QT.It)) : Prop where
  below : Below w0.heap.size w0 w
  ps : RP w w0.heap.size vp P
  fp : ∀ k, vp.ownBlock = some k → f k = 100
  pair : ∀ (i : Nat) (p : Nat × Nat), P[i]? = some p → ∃ q S1 S2, PIn w w0.heap.size S1 S2 p.1 p.2 q ∧ q.rows.length = n ∧ ∀ k, S1 k ∨ S2 k → f k = i + 1
  item : ∀ ib xs, o = some (ib, xs) → xs.length ≤ 64 ∧ ∃ S, QT.QIn w w0.heap.size S ib (QT.One xs) ∧ ∀ k, S k → k < w.heap.size ∧ f k = 200
  base : ∀ k, f k ≠ 0 → w0.heap.size ≤ k
  le : P.length ≤ 20

variable {w0 w w1 : World} {f : Nat → Nat} {n : Nat} {vp : Value} {P : List (Nat × Nat)} {o : Option (Nat × List QT.It)}
theorem MS.start {W : World} (hb : Below w0.heap.size w0 W) (n : Nat) : MS w0 W (fun _ => 0) n (.slice none 0 0) [] none where
  below := hb
  ps := Kd.R_nil _ _ _ _ _
  fp := fun k hk => by simp [Value.ownBlock] at hk
  pair := fun i p hp => by simp at hp
  item := fun ib xs h => by cases h
  base := fun k hk => absurd rfl hk
  le := by simp
theorem MS.later (h : MS w0 w f n vp P o) (hb : Below w.heap.size w w1) : MS w0 w1 f n vp P o where
  below := h.below.trans (hb.mono h.below.size)
  ps := h.ps.keep (fun k hk => hb.block k (h.ps.lt k hk))
  fp := h.fp
  pair := fun i p hp => by
    obtain ⟨q, S1, S2, hP, hn, hT⟩ := h.pair i p hp
    exact ⟨q, S1, S2, hP.below hb, hn, hT⟩
  item := fun ib xs e => by
    obtain ⟨h1, S, h2, h3⟩ := h.item ib xs e
    exact ⟨h1, S, h2.below hb, fun k hk => ⟨Nat.lt_of_lt_of_le (h3 k hk).1 hb.size, (h3 k hk).2⟩⟩
  base := h.base
  le := h.le
theorem MS.p_lt (h : MS w0 w f n vp P o) {i : Nat} {p : Nat × Nat} (hp : P[i]? = some p) : i + 1 ≤ 20 := by
  have := (List.getElem?_eq_some_iff.1 hp).1
  have := h.le
  omega
/-- A step at the j-th pair. -/
theorem MS.played (h : MS w0 w f n vp P o) {j : Nat} {p : Nat × Nat} (hj : P[j]? = some p) {q : QM Int} {S1 S2 : Nat → Prop} (hqn : q.rows.length = n) (hT : ∀ k, S1 k ∨ S2 k → f k = j + 1) {kind : Int} {e : Ending} {w' : World} (hp : Played w w0.heap.size S1 S2 p.1 p.2 q kind e w') :
    ∃ v f', e = .returned (.tuple #[.bool true, v]) ∧ MS w0 w' f' n vp P o := by
  obtain ⟨v, xs, q', T1, T2, rfl, _, _, hn, hP', hN, _, ho, _⟩ := hp
  have ho' : Only (fun k => f k = j + 1) w w' := ho.mono (fun k hk => hT k hk)
  have hj20 := h.p_lt hj
  refine ⟨v, retag f w.heap.size (fun k => if k < w.heap.size then 0 else j + 1), rfl, ?_⟩
  have Fo : ∀ k, k < w.heap.size → retag f w.heap.size (fun k => if k < w.heap.size then 0 else j + 1) k = f k := fun k hk => retag_old hk
  constructor
  · exact h.below.trans (ho'.below h.below.size (fun k hk => h.base k (by omega)))
  · exact h.ps.keep (fun k hk => ho'.block k (h.ps.lt k hk) (by rw [h.fp k hk]; omega))
  · intro k hk; rw [Fo k (h.ps.lt k hk)]; exact h.fp k hk
  · intro i p' hp'
    by_cases e : i = j
    · subst e
      rw [hj] at hp'
      cases hp'
      refine ⟨q', T1, T2, hP', hn.trans hqn, fun k hk => ?_⟩
      by_cases e : k < w.heap.size
      · rw [Fo k e]
        rcases hN k hk with h1 | h1
        · exact hT k h1
        · omega
      · rw [retag_new (by omega)]; simp [e]
    · obtain ⟨q2, U1, U2, hP, hn2, hT2⟩ := h.pair i p' hp'
      refine ⟨q2, U1, U2, hP.move ho' (fun k hk e2 => by have := hT2 k hk; omega), hn2, fun k hk => ?_⟩
      rw [Fo k (hk.elim (hP.hi1 k) (hP.hi2 k))]
      exact hT2 k hk
  · intro ib ys e
    obtain ⟨h1, S, h2, h3⟩ := h.item ib ys e
    exact ⟨h1, S, h2.move ho' (fun k hk e2 => by have := (h3 k hk).2; omega), fun k hk => ⟨Nat.lt_of_lt_of_le (h3 k hk).1 ho'.size, by rw [Fo k (h3 k hk).1]; exact (h3 k hk).2⟩⟩
  · intro k hk
    by_cases e : k < w.heap.size
    · rw [Fo k e] at hk; exact h.base k hk
    · have := h.below.size; omega
  · exact h.le
/-- A new pair has come into the row. -/
theorem MS.add (h : MS w0 w f n vp P none) {w3 w4 : World} {S1 S2 : Nat → Prop} {qb rb : Nat} {q : QM Int} {v1 : Value} (hP20 : P.length < 20) (hb : Below w.heap.size w w3) (hP : PIn w3 w0.heap.size S1 S2 qb rb q) (hS : ∀ k, S1 k ∨ S2 k → w.heap.size ≤ k) (hq : q.rows.length = n)
    (h4 : RP w4 w0.heap.size v1 (P ++ [(qb, rb)])) (g4 : w3.grownBy w4 vp.ownBlock) (a4 : v1.ownBlock = vp.ownBlock ∨ ∃ g, v1.ownBlock = some g ∧ w3.heap.size ≤ g) :
    ∃ f', MS w0 w4 f' n v1 (P ++ [(qb, rb)]) none := by
  have s0 := h.below.size
  have s3 := hb.size
  have s4 := g4.size
  have ll : ∀ k, vp.ownBlock = some k → k < w.heap.size := h.ps.lt
  have hi : ∀ k, S1 k ∨ S2 k → k < w3.heap.size := fun k hk => hk.elim (hP.hi1 k) (hP.hi2 k)
  have o1 : Only (fun k => f k = 100) w w4 := (Only.of_below hb _).trans (Only.of_grown g4) (fun k hk => .inl (h.fp k hk.symm))
  refine ⟨retag f w.heap.size (fun k => if k < w.heap.size then 0 else if k < w3.heap.size then P.length + 1 else 100), ?_⟩
  have Fo : ∀ k, k < w.heap.size → retag f w.heap.size (fun k => if k < w.heap.size then 0 else if k < w3.heap.size then P.length + 1 else 100) k = f k := fun k hk => retag_old hk
  constructor
  · exact h.below.trans (o1.below s0 (fun k hk => h.base k (by omega)))
  · exact h4
  · intro k hk
    rcases a4 with e | ⟨g, e, hg⟩
    · rw [e] at hk; rw [Fo k (ll k hk)]; exact h.fp k hk
    · rw [e] at hk; cases hk
      have e1 : ¬ k < w.heap.size := by omega
      have e2 : ¬ k < w3.heap.size := by omega
      rw [retag_new (by omega)]; simp [e1, e2]
  · intro i p hp
    by_cases hi2 : i < P.length
    · rw [List.getElem?_append_left hi2] at hp
      obtain ⟨q2, U1, U2, hP2, hn2, hT2⟩ := h.pair i p hp
      refine ⟨q2, U1, U2, hP2.move o1 (fun k hk e2 => by have := hT2 k hk; omega), hn2, fun k hk => ?_⟩
      rw [Fo k (hk.elim (hP2.hi1 k) (hP2.hi2 k))]
      exact hT2 k hk
    · obtain rfl : i = P.length := by have := (List.getElem?_eq_some_iff.1 hp).1; simp at this; omega
      rw [List.getElem?_append_right (Nat.le_refl _), Nat.sub_self] at hp
      simp at hp
      subst hp
      refine ⟨q, S1, S2, hP.move (Only.of_grown g4) (fun k hk e => ?_), hq, fun k hk => ?_⟩
      · have := hS k hk; have := ll k e.symm; omega
      · have h1 := hS k hk
        have h2 := hi k hk
        have e1 : ¬ k < w.heap.size := by omega
        rw [retag_new h1]; simp [e1, h2]
  · intro ib xs e; cases e
  · intro k hk
    by_cases e : k < w.heap.size
    · rw [Fo k e] at hk; exact h.base k hk
    · omega
  · simp; omega
/-- The queue of structs has come. -/
theorem MS.addItem (h : MS w0 w f n vp P none) {ib : Nat} (hb : Below w.heap.size w w1) (hI : QT.QIn w1 w.heap.size (fun k => w.heap.size ≤ k) ib (QT.One [])) : ∃ f', MS w0 w1 f' n vp P (some (ib, [])) := by
  have h' := h.later hb
  have s0 := h.below.size
  refine ⟨retag f w.heap.size (fun k => if k < w.heap.size then 0 else 200), ?_⟩
  have Fo : ∀ k, k < w.heap.size → retag f w.heap.size (fun k => if k < w.heap.size then 0 else 200) k = f k := fun k hk => retag_old hk
  constructor
  · exact h'.below
  · exact h'.ps
  · intro k hk; rw [Fo k (h.ps.lt k hk)]; exact h.fp k hk
  · intro i p hp
    obtain ⟨q2, U1, U2, hP2, hn2, hT2⟩ := h.pair i p hp
    refine ⟨q2, U1, U2, hP2.below hb, hn2, fun k hk => ?_⟩
    rw [Fo k (hk.elim (hP2.hi1 k) (hP2.hi2 k))]
    exact hT2 k hk
  · intro ib' xs e
    cases e
    obtain ⟨rb, vals, hA, hf⟩ := hI.bound
    refine ⟨by simp, fun k => w.heap.size ≤ k ∧ k < w1.heap.size, ⟨rb, vals, ⟨hA.hq, hA.hr, hA.len, fun c v xs h1 h2 => Kd.R_lower (hA.row c v xs h1 h2) s0, hA.apart, Nat.le_trans s0 hA.bq, Nat.le_trans s0 hA.br⟩, fun k hk => ⟨(hf k hk).1, (hf k hk).2.2⟩⟩, fun k hk => ⟨hk.2, ?_⟩⟩
    have e1 : ¬ k < w.heap.size := by omega
    rw [retag_new hk.1]; simp [e1]
  · intro k hk
    by_cases e : k < w.heap.size
    · rw [Fo k e] at hk; exact h.base k hk
    · omega
  · exact h.le
/-- A step at the queue of structs. -/
theorem MS.stepItem {ib : Nat} {xs ys : List QT.It} (h : MS w0 w f n vp P (some (ib, xs))) {S : Nat → Prop} (hS : ∀ k, S k → k < w.heap.size ∧ f k = 200) (hy : ys.length ≤ 64) {w' : World} (hl : QT.Left w w0.heap.size S ib (QT.One ys) w') : ∃ f', MS w0 w' f' n vp P (some (ib, ys)) := by
  obtain ⟨hq, ho⟩ := hl
  have ho' : Only (fun k => f k = 200) w w' := ho.mono (fun k hk => (hS k hk).2)
  refine ⟨retag f w.heap.size (fun k => if k < w.heap.size then 0 else 200), ?_⟩
  have Fo : ∀ k, k < w.heap.size → retag f w.heap.size (fun k => if k < w.heap.size then 0 else 200) k = f k := fun k hk => retag_old hk
  constructor
  · exact h.below.trans (ho'.below h.below.size (fun k hk => h.base k (by omega)))
  · exact h.ps.keep (fun k hk => ho'.block k (h.ps.lt k hk) (by rw [h.fp k hk]; omega))
  · intro k hk; rw [Fo k (h.ps.lt k hk)]; exact h.fp k hk
  · intro i p hp
    have := h.p_lt hp
    obtain ⟨q2, U1, U2, hP2, hn2, hT2⟩ := h.pair i p hp
    refine ⟨q2, U1, U2, hP2.move ho' (fun k hk e2 => by have := hT2 k hk; omega), hn2, fun k hk => ?_⟩
    rw [Fo k (hk.elim (hP2.hi1 k) (hP2.hi2 k))]
    exact hT2 k hk
  · intro ib' ys' e
    cases e
    refine ⟨hy, _, hq.bound, fun k hk => ⟨hk.2.2, ?_⟩⟩
    by_cases e : k < w.heap.size
    · rw [Fo k e]
      rcases hk.1 with h1 | h1
      · exact (hS k h1).2
      · omega
    · rw [retag_new (by omega)]; simp [e]
  · intro k hk
    by_cases e : k < w.heap.size
    · rw [Fo k e] at hk; exact h.base k hk
    · have := h.below.size; omega
  · exact h.le
end Go.Proofs.Ytekgdlpicgibhaa.QI
