/-
  QueueOwns' state: a pair of queues, the lists that it handed out, copies of them; each block is one's.
-/
import Derived.Test.YtekgdlpicgibhaaO2
import Derived.Test.YtekgdlpicgibhaaP5
namespace Go.Proofs.Ytekgdlpicgibhaa.QI
open Go.RowKit Go.Proofs.YtekgdlpicgibhaaW.PrintWords Go.Proofs.Ytekgdlpicgibhaa.QQ

theorem kR_keep {w w1 : World} {b : Nat} {v : Value} {xs : List Int} (h : K.R 3 w b (fun _ => True) v xs) (hk : ∀ k, v.ownBlock = some k → w1.heap[k]? = w.heap[k]?) : K.R 3 w1 b (fun _ => True) v xs :=
  Kd.R_mono (Kd.R_step (Kd.R_tight rfl h) (fun k hk' _ => hk k hk'.symm)) (fun _ _ => trivial)
theorem Lists.keep {w w1 : World} {b : Nat} {L : List Sl} {X : Nat → List Int} (h : Lists w b L X) (hk : ∀ (t : Nat) (x : Sl), L[t]? = some x → ∀ k, x.val.ownBlock = some k → w1.heap[k]? = w.heap[k]?) : Lists w1 b L X :=
  ⟨fun t x hx => ⟨kR_keep (h.own t x hx).1 (hk t x hx), (h.own t x hx).2⟩, h.apart⟩

/-- f tells whose a block is: 1 the pair's, 2 and 3 the two rows of slices, 4 the lists', 5 the copies', 7 the pair's box. -/
structure OS (w0 w : World) (pb : Nat) (f : Nat → Nat) (qb rb : Nat) (q : QM Int) (vl vw : Value) (L Wr : List Sl) (X : Nat → List Int) : Prop where
  below : Below w0.heap.size w0 w
  box : w.heap[pb]? = some (.cells #[.pointer (some ⟨qb, 0, none⟩), .pointer (some ⟨rb, 0, none⟩)] 49 (0, 0))
  fbox : f pb = 7
  pair : ∃ S1 S2, PIn w w0.heap.size S1 S2 qb rb q ∧ ∀ k, S1 k ∨ S2 k → f k = 1
  ls : RV w w0.heap.size vl L
  fl : ∀ k, vl.ownBlock = some k → f k = 2
  were : RV w w0.heap.size vw Wr
  fw : ∀ k, vw.ownBlock = some k → f k = 3
  lists : Lists w w0.heap.size L X
  f4 : ∀ (t : Nat) (x : Sl), L[t]? = some x → ∀ k, x.val.ownBlock = some k → f k = 4
  copies : ∀ (t : Nat) (x : Sl), Wr[t]? = some x → K.R 3 w w0.heap.size (fun _ => True) x.val (X t) ∧ (X t).length = x.n
  f5 : ∀ (t : Nat) (x : Sl), Wr[t]? = some x → ∀ k, x.val.ownBlock = some k → f k = 5
  base : ∀ k, f k ≠ 0 → w0.heap.size ≤ k
  len : Wr.length = L.length

variable {w0 w w1 : World} {pb : Nat} {f : Nat → Nat} {qb rb : Nat} {q : QM Int} {vl vw : Value} {L Wr : List Sl} {X : Nat → List Int}
theorem OS.later (h : OS w0 w pb f qb rb q vl vw L Wr X) (hb : Below w.heap.size w w1) : OS w0 w1 pb f qb rb q vl vw L Wr X where
  below := h.below.trans (hb.mono h.below.size)
  box := (hb.block _ (heap_lt_of h.box)).trans h.box
  fbox := h.fbox
  pair := by obtain ⟨S1, S2, hP, hT⟩ := h.pair; exact ⟨S1, S2, hP.below hb, hT⟩
  ls := h.ls.keep (fun k hk => hb.block k (h.ls.lt k hk))
  fl := h.fl
  were := h.were.keep (fun k hk => hb.block k (h.were.lt k hk))
  fw := h.fw
  lists := h.lists.keep (fun t x hx k hk => hb.block k (h.lists.lt hx k hk))
  f4 := h.f4
  copies := fun t x hx => ⟨kR_keep (h.copies t x hx).1 (fun k hk => hb.block k (Kd.R_lt (h.copies t x hx).1 k hk)), (h.copies t x hx).2⟩
  f5 := h.f5
  base := h.base
  len := h.len
/-- A step at the pair. -/
theorem OS.played (h : OS w0 w pb f qb rb q vl vw L Wr X) {S1 S2 : Nat → Prop} (hT : ∀ k, S1 k ∨ S2 k → f k = 1) {kind : Int} {e : Ending} {w' : World} (hp : Played w w0.heap.size S1 S2 qb rb q kind e w') :
    ∃ v f' q', e = .returned (.tuple #[.bool true, v]) ∧ q'.rows.length = q.rows.length ∧ OS w0 w' pb f' qb rb q' vl vw L Wr X := by
  obtain ⟨v, xs, q', T1, T2, rfl, _, _, hn, hP', hN, _, ho, _⟩ := hp
  have ho' : Only (fun k => f k = 1) w w' := ho.mono (fun k hk => hT k hk)
  refine ⟨v, retag f w.heap.size (fun k => if k < w.heap.size then 0 else 1), q', rfl, hn, ?_⟩
  have st : ∀ k, k < w.heap.size → f k ≠ 1 → w'.heap[k]? = w.heap[k]? := fun k h1 h2 => ho'.block k h1 h2
  have Fo : ∀ k, k < w.heap.size → retag f w.heap.size (fun k => if k < w.heap.size then 0 else 1) k = f k := fun k hk => retag_old hk
  constructor
  · exact h.below.trans (ho'.below h.below.size (fun k hk => h.base k (by omega)))
  · exact (st _ (heap_lt_of h.box) (by rw [h.fbox]; decide)).trans h.box
  · rw [Fo _ (heap_lt_of h.box)]; exact h.fbox
  · refine ⟨T1, T2, hP', fun k hk => ?_⟩
    by_cases e : k < w.heap.size
    · rw [Fo k e]
      rcases hN k hk with h1 | h1
      · exact hT k h1
      · omega
    · rw [retag_new (by omega)]; simp [e]
  · exact h.ls.keep (fun k hk => st k (h.ls.lt k hk) (by rw [h.fl k hk]; decide))
  · intro k hk; rw [Fo k (h.ls.lt k hk)]; exact h.fl k hk
  · exact h.were.keep (fun k hk => st k (h.were.lt k hk) (by rw [h.fw k hk]; decide))
  · intro k hk; rw [Fo k (h.were.lt k hk)]; exact h.fw k hk
  · exact h.lists.keep (fun t x hx k hk => st k (h.lists.lt hx k hk) (by rw [h.f4 t x hx k hk]; decide))
  · intro t x hx k hk; rw [Fo k (h.lists.lt hx k hk)]; exact h.f4 t x hx k hk
  · exact fun t x hx => ⟨kR_keep (h.copies t x hx).1 (fun k hk => st k (Kd.R_lt (h.copies t x hx).1 k hk) (by rw [h.f5 t x hx k hk]; decide)), (h.copies t x hx).2⟩
  · intro t x hx k hk; rw [Fo k (Kd.R_lt (h.copies t x hx).1 k hk)]; exact h.f5 t x hx k hk
  · intro k hk
    by_cases e : k < w.heap.size
    · rw [Fo k e] at hk; exact h.base k hk
    · have := h.below.size; omega
  · exact h.len
/-- The rows, one list longer. -/
def upd (X : Nat → List Int) (n : Nat) (xs : List Int) : Nat → List Int := fun t => if t = n then xs else X t
theorem upd_old {X : Nat → List Int} {n t : Nat} {xs : List Int} (h : t ≠ n) : upd X n xs t = X t := if_neg h
theorem upd_new {X : Nat → List Int} {n : Nat} {xs : List Int} : upd X n xs n = xs := if_pos rfl
/-- One list that was handed out, and a copy of it, have come into the rows. -/
theorem OS.row (h : OS w0 w pb f qb rb q vl vw L Wr X) {w3 w4 w5 w6 : World} {xs : List Int} {x y : Sl} {v1 v2 : Value} (hb : Below w.heap.size w w3) (hv : K.R 3 w3 w.heap.size (fun _ => True) x.val xs) (hx : xs.length = x.n) (h64 : x.n ≤ 64)
    (h4 : RV w4 w0.heap.size v1 (L ++ [x])) (g4 : w3.grownBy w4 vl.ownBlock) (a4 : v1.ownBlock = vl.ownBlock ∨ ∃ g, v1.ownBlock = some g ∧ w3.heap.size ≤ g)
    (hb5 : Below w4.heap.size w4 w5) (hm : K.R 3 w5 w4.heap.size (fun _ => True) y.val xs) (hy : xs.length = y.n)
    (h6 : RV w6 w0.heap.size v2 (Wr ++ [y])) (g6 : w5.grownBy w6 vw.ownBlock) (a6 : v2.ownBlock = vw.ownBlock ∨ ∃ g, v2.ownBlock = some g ∧ w5.heap.size ≤ g) :
    ∃ f', OS w0 w6 pb f' qb rb q v1 v2 (L ++ [x]) (Wr ++ [y]) (upd X L.length xs) := by
  have s0 := h.below.size
  have s3 := hb.size
  have s4 := g4.size
  have s5 := hb5.size
  have s6 := g6.size
  obtain ⟨F, hF⟩ : ∃ F : Nat → Nat, F = retag f w.heap.size (fun k => if k < w.heap.size then 0 else if some k = x.val.ownBlock then 4 else if some k = y.val.ownBlock then 5 else if some k = v1.ownBlock then 2 else if some k = v2.ownBlock then 3 else 0) := ⟨_, rfl⟩
  have Fo : ∀ k, k < w.heap.size → F k = f k := fun k hk => by rw [hF]; exact retag_old hk
  have ll : ∀ k, vl.ownBlock = some k → k < w.heap.size := h.ls.lt
  have lw : ∀ k, vw.ownBlock = some k → k < w.heap.size := h.were.lt
  have st : ∀ k, k < w.heap.size → f k ≠ 2 → f k ≠ 3 → w6.heap[k]? = w.heap[k]? := fun k h1 h2 h3 =>
    (g6.block k (by omega) (fun e => h3 (h.fw k e.symm))).trans ((hb5.block k (by omega)).trans ((g4.block k (by omega) (fun e => h2 (h.fl k e.symm))).trans (hb.block k h1)))
  -- the places of the new ones
  have xb : ∀ k, x.val.ownBlock = some k → w.heap.size ≤ k ∧ k < w3.heap.size := fun k hk => ⟨Kd.R_base hv k hk, Kd.R_lt hv k hk⟩
  have yb : ∀ k, y.val.ownBlock = some k → w4.heap.size ≤ k ∧ k < w5.heap.size := fun k hk => ⟨Kd.R_base hm k hk, Kd.R_lt hm k hk⟩
  have v1b : ∀ k, v1.ownBlock = some k → (k < w.heap.size ∧ f k = 2) ∨ (w3.heap.size ≤ k ∧ k < w4.heap.size) := fun k hk => by
    rcases a4 with e | ⟨g, e, hg⟩
    · rw [e] at hk; exact .inl ⟨ll k hk, h.fl k hk⟩
    · have := h4.lt k hk
      rw [e] at hk; cases hk; exact .inr ⟨hg, this⟩
  have v2b : ∀ k, v2.ownBlock = some k → (k < w.heap.size ∧ f k = 3) ∨ w5.heap.size ≤ k := fun k hk => by
    rcases a6 with e | ⟨g, e, hg⟩
    · rw [e] at hk; exact .inl ⟨lw k hk, h.fw k hk⟩
    · rw [e] at hk; cases hk; exact .inr hg
  refine ⟨F, ?_⟩
  constructor
  · refine h.below.trans ?_
    have o1 : Only (fun k => f k = 2 ∨ f k = 3) w w6 := ((((Only.of_below hb (fun k => f k = 2 ∨ f k = 3)).trans (Only.of_grown g4) (fun k hk => .inl (.inl (h.fl k hk.symm)))).trans (Only.of_below hb5 (fun _ => False)) (fun k hk => hk.elim))).trans (Only.of_grown g6) (fun k hk => .inl (.inr (h.fw k hk.symm)))
    exact o1.below s0 (fun k hk => h.base k (by omega))
  · exact (st _ (heap_lt_of h.box) (by rw [h.fbox]; decide) (by rw [h.fbox]; decide)).trans h.box
  · rw [Fo _ (heap_lt_of h.box)]; exact h.fbox
  · obtain ⟨S1, S2, hP, hT⟩ := h.pair
    have o1 : Only (fun k => f k = 2 ∨ f k = 3) w w6 := ((((Only.of_below hb (fun k => f k = 2 ∨ f k = 3)).trans (Only.of_grown g4) (fun k hk => .inl (.inl (h.fl k hk.symm)))).trans (Only.of_below hb5 (fun _ => False)) (fun k hk => hk.elim))).trans (Only.of_grown g6) (fun k hk => .inl (.inr (h.fw k hk.symm)))
    refine ⟨S1, S2, hP.move o1 (fun k hk e => by have := hT k hk; omega), fun k hk => ?_⟩
    rw [Fo k (hk.elim (hP.hi1 k) (hP.hi2 k))]
    exact hT k hk
  · refine h4.keep (fun k hk => ?_)
    have hl := h4.lt k hk
    refine (g6.block k (by omega) (fun e => ?_)).trans (hb5.block k hl)
    have h3 := h.fw k e.symm
    have := lw k e.symm
    rcases v1b k hk with h2 | h2 <;> omega
  · intro k hk
    rcases v1b k hk with h2 | h2
    · rw [Fo k h2.1]; exact h2.2
    · rw [hF, retag_new (by omega)]
      have e1 : ¬ some k = x.val.ownBlock := fun e => by have := xb k e.symm; omega
      have e2 : ¬ some k = y.val.ownBlock := fun e => by have := yb k e.symm; omega
      have e0 : ¬ k < w.heap.size := by omega
      simp [e0, e1, e2, hk]
  · exact h6
  · intro k hk
    rcases v2b k hk with h2 | h2
    · rw [Fo k h2.1]; exact h2.2
    · rw [hF, retag_new (by omega)]
      have e1 : ¬ some k = x.val.ownBlock := fun e => by have := xb k e.symm; omega
      have e2 : ¬ some k = y.val.ownBlock := fun e => by have := yb k e.symm; omega
      have e3 : ¬ some k = v1.ownBlock := fun e => by have := v1b k e.symm; omega
      have e0 : ¬ k < w.heap.size := by omega
      simp [e0, e1, e2, e3, hk]
  · have xstay : ∀ k, x.val.ownBlock = some k → w6.heap[k]? = w3.heap[k]? := fun k hk => by
      have := xb k hk
      exact (g6.block k (by omega) (fun e => by have := lw k e.symm; omega)).trans ((hb5.block k (by omega)).trans (g4.block k (by omega) (fun e => by have := ll k e.symm; omega)))
    refine ⟨fun t z hz => ?_, fun t t' g z z' hz hz' e e' => ?_⟩
    · by_cases ht : t < L.length
      · rw [List.getElem?_append_left ht] at hz
        rw [upd_old (by omega)]
        exact ⟨kR_keep (h.lists.own t z hz).1 (fun k hk => st k (h.lists.lt hz k hk) (by rw [h.f4 t z hz k hk]; decide) (by rw [h.f4 t z hz k hk]; decide)), (h.lists.own t z hz).2⟩
      · obtain rfl : t = L.length := by have := (List.getElem?_eq_some_iff.1 hz).1; simp at this; omega
        rw [List.getElem?_append_right (Nat.le_refl _), Nat.sub_self] at hz
        simp at hz
        subst hz
        rw [upd_new]
        exact ⟨kR_keep (Kd.R_lower hv s0) xstay, hx, h64⟩
    · by_cases ht : t < L.length <;> by_cases ht' : t' < L.length
      · rw [List.getElem?_append_left ht] at hz
        rw [List.getElem?_append_left ht'] at hz'
        exact h.lists.apart t t' g z z' hz hz' e e'
      · rw [List.getElem?_append_left ht] at hz
        obtain rfl : t' = L.length := by have := (List.getElem?_eq_some_iff.1 hz').1; simp at this; omega
        rw [List.getElem?_append_right (Nat.le_refl _), Nat.sub_self] at hz'
        simp at hz'
        subst hz'
        have := h.lists.lt hz g e
        have := (xb g e').1
        omega
      · rw [List.getElem?_append_left ht'] at hz'
        obtain rfl : t = L.length := by have := (List.getElem?_eq_some_iff.1 hz).1; simp at this; omega
        rw [List.getElem?_append_right (Nat.le_refl _), Nat.sub_self] at hz
        simp at hz
        subst hz
        have := h.lists.lt hz' g e'
        have := (xb g e).1
        omega
      · have h1 := (List.getElem?_eq_some_iff.1 hz).1
        have h2 := (List.getElem?_eq_some_iff.1 hz').1
        simp at h1 h2
        omega
  · intro t z hz k hk
    by_cases ht : t < L.length
    · rw [List.getElem?_append_left ht] at hz
      rw [Fo k (h.lists.lt hz k hk)]; exact h.f4 t z hz k hk
    · obtain rfl : t = L.length := by have := (List.getElem?_eq_some_iff.1 hz).1; simp at this; omega
      rw [List.getElem?_append_right (Nat.le_refl _), Nat.sub_self] at hz
      simp at hz
      subst hz
      have := xb k hk
      have e0 : ¬ k < w.heap.size := by omega
      rw [hF, retag_new (by omega)]
      simp [e0, hk]
  · intro t z hz
    by_cases ht : t < Wr.length
    · rw [List.getElem?_append_left ht] at hz
      rw [upd_old (by have := h.len; omega)]
      exact ⟨kR_keep (h.copies t z hz).1 (fun k hk => st k (Kd.R_lt (h.copies t z hz).1 k hk) (by rw [h.f5 t z hz k hk]; decide) (by rw [h.f5 t z hz k hk]; decide)), (h.copies t z hz).2⟩
    · obtain rfl : t = Wr.length := by have := (List.getElem?_eq_some_iff.1 hz).1; simp at this; omega
      rw [List.getElem?_append_right (Nat.le_refl _), Nat.sub_self] at hz
      simp at hz
      subst hz
      rw [h.len, upd_new]
      refine ⟨kR_keep (Kd.R_lower hm (by omega)) (fun k hk => ?_), hy⟩
      have := yb k hk
      exact g6.block k (by omega) (fun e => by have := lw k e.symm; omega)
  · intro t z hz k hk
    by_cases ht : t < Wr.length
    · rw [List.getElem?_append_left ht] at hz
      rw [Fo k (Kd.R_lt (h.copies t z hz).1 k hk)]; exact h.f5 t z hz k hk
    · obtain rfl : t = Wr.length := by have := (List.getElem?_eq_some_iff.1 hz).1; simp at this; omega
      rw [List.getElem?_append_right (Nat.le_refl _), Nat.sub_self] at hz
      simp at hz
      subst hz
      have := yb k hk
      have e0 : ¬ k < w.heap.size := by omega
      have e1 : ¬ some k = x.val.ownBlock := fun e => by have := xb k e.symm; omega
      rw [hF, retag_new (by omega)]
      simp [e0, e1, hk]
  · intro k hk
    by_cases e : k < w.heap.size
    · rw [Fo k e] at hk; exact h.base k hk
    · omega
  · simp [h.len]
end Go.Proofs.Ytekgdlpicgibhaa.QI
