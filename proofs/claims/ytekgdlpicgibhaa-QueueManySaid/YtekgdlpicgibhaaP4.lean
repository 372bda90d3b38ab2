/-
  QueuePlays' state: two slots for pairs, the book, the lists in it; each block is one's.
-/
import Derived.Test.YtekgdlpicgibhaaR6
import Derived.Test.YtekgdlpicgibhaaP3
namespace Go.Proofs.Ytekgdlpicgibhaa.QI
open Go.RowKit Go.Proofs.YtekgdlpicgibhaaW.PrintWords Go.Proofs.Ytekgdlpicgibhaa.QQ

/-- A slot: nothing, or a queue and the document's, in blocks of T. -/
def SlotOk (w : World) (B : Nat) (T : Nat → Prop) (vq vr : Value) : Prop :=
  (vq = .pointer none ∧ vr = .pointer none) ∨ ∃ qb rb q S1 S2, vq = .pointer (some ⟨qb, 0, none⟩) ∧ vr = .pointer (some ⟨rb, 0, none⟩) ∧ PIn w B S1 S2 qb rb q ∧ ∀ k, S1 k ∨ S2 k → T k
theorem SlotOk.move {w w1 : World} {B : Nat} {T S : Nat → Prop} {vq vr : Value} (h : SlotOk w B T vq vr) (ho : Only S w w1) (hs : ∀ k, T k → ¬ S k) : SlotOk w1 B T vq vr := by
  rcases h with h | ⟨qb, rb, q, S1, S2, e1, e2, hP, hT⟩
  · exact .inl h
  · exact .inr ⟨qb, rb, q, S1, S2, e1, e2, hP.move ho (fun k hk => hs k (hT k hk)), hT⟩
theorem SlotOk.tag {w : World} {B : Nat} {T T' : Nat → Prop} {vq vr : Value} (h : SlotOk w B T vq vr) (hs : ∀ k, k < w.heap.size → T k → T' k) : SlotOk w B T' vq vr := by
  rcases h with h | ⟨qb, rb, q, S1, S2, e1, e2, hP, hT⟩
  · exact .inl h
  · exact .inr ⟨qb, rb, q, S1, S2, e1, e2, hP, fun k hk => hs k (hk.elim (hP.hi1 k) (hP.hi2 k)) (hT k hk)⟩

/-- The state; f tells whose a block is: 1, 2 the slots', 3 the book's, 4 the lists', 5 the slots themselves. -/
structure QS (w0 w : World) (pb : Nat) (f : Nat → Nat) (q0 r0 q1 r1 vb : Value) (es : List KE) : Prop where
  below : Below w0.heap.size w0 w
  slots : w.heap[pb]? = some (.cells #[q0, r0, q1, r1] 50 (0, 0))
  fpb : f pb = 5
  s0 : SlotOk w w0.heap.size (fun k => f k = 1) q0 r0
  s1 : SlotOk w w0.heap.size (fun k => f k = 2) q1 r1
  book : BK w w0.heap.size vb es
  fb : ∀ k, vb.ownBlock = some k → f k = 3
  held : ∀ x, x ∈ es → (Holds w x ∧ x.n ≤ 4096) ∧ ∀ ad, x.A = some ad → ad.block < w.heap.size ∧ f ad.block = 4
  base : ∀ k, f k ≠ 0 → w0.heap.size ≤ k
  le : es.length ≤ 1000

variable {w0 w w1 : World} {pb : Nat} {f : Nat → Nat} {q0 r0 q1 r1 vb : Value} {es : List KE}
/-- New memory, and what is nobody's, may turn. -/
theorem QS.later (h : QS w0 w pb f q0 r0 q1 r1 vb es) (hb : Below w.heap.size w w1) : QS w0 w1 pb f q0 r0 q1 r1 vb es where
  below := h.below.trans (hb.mono h.below.size)
  slots := (hb.block _ (heap_lt_of h.slots)).trans h.slots
  fpb := h.fpb
  s0 := h.s0.move (Only.of_below hb (fun _ => False)) (fun _ _ h => h)
  s1 := h.s1.move (Only.of_below hb (fun _ => False)) (fun _ _ h => h)
  book := h.book.keep (fun k hk => hb.block k (h.book.lt k hk))
  fb := h.fb
  held := fun x hx => by
    obtain ⟨⟨h1, h2⟩, h3⟩ := h.held x hx
    exact ⟨⟨h1.move (fun ad e => hb.block _ (h3 ad e).1), h2⟩, fun ad e => ⟨Nat.lt_of_lt_of_le (h3 ad e).1 hb.size, (h3 ad e).2⟩⟩
  base := h.base
  le := h.le
/-- The tags of new blocks are free. -/
def retag (f : Nat → Nat) (n : Nat) (g : Nat → Nat) : Nat → Nat := fun k => if k < n then f k else g k
theorem retag_old {f g : Nat → Nat} {n k : Nat} (h : k < n) : retag f n g k = f k := if_pos h
theorem retag_new {f g : Nat → Nat} {n k : Nat} (h : n ≤ k) : retag f n g k = g k := if_neg (by omega)
theorem QS.hold (h : QS w0 w pb f q0 r0 q1 r1 vb es) : ∀ x ∈ es, Holds w x ∧ x.n ≤ 4096 := fun x hx => (h.held x hx).1

/-- A step at the first slot: what is of tag 1 may turn, new blocks have come. -/
theorem QS.turn0 (h : QS w0 w pb f q0 r0 q1 r1 vb es) (ho : Only (fun k => f k = 1) w w1) (g : Nat → Nat) (hg : ∀ k, g k ≠ 0 → w0.heap.size ≤ k)
    (hs : SlotOk w1 w0.heap.size (fun k => retag f w.heap.size g k = 1) q0 r0) : QS w0 w1 pb (retag f w.heap.size g) q0 r0 q1 r1 vb es where
  below := h.below.trans (ho.below h.below.size (fun k hk => h.base k (by omega)))
  slots := (ho.block _ (heap_lt_of h.slots) (by rw [h.fpb]; decide)).trans h.slots
  fpb := by rw [retag_old (heap_lt_of h.slots)]; exact h.fpb
  s0 := hs
  s1 := (h.s1.tag (T' := fun k => k < w.heap.size ∧ f k = 2) (fun k hk ht => ⟨hk, ht⟩)).move ho (fun k hk e => by have := hk.2; omega) |>.tag (fun k _ hk => by rw [retag_old hk.1]; exact hk.2)
  book := h.book.keep (fun k hk => ho.block k (h.book.lt k hk) (by rw [h.fb k hk]; decide))
  fb := fun k hk => by rw [retag_old (h.book.lt k hk)]; exact h.fb k hk
  held := fun x hx => by
    obtain ⟨⟨h1, h2⟩, h3⟩ := h.held x hx
    exact ⟨⟨h1.move (fun ad e => ho.block _ (h3 ad e).1 (by rw [(h3 ad e).2]; decide)), h2⟩, fun ad e => ⟨Nat.lt_of_lt_of_le (h3 ad e).1 ho.size, by rw [retag_old (h3 ad e).1]; exact (h3 ad e).2⟩⟩
  base := fun k hk => by
    by_cases e : k < w.heap.size
    · rw [retag_old e] at hk; exact h.base k hk
    · rw [retag_new (by omega)] at hk; exact hg k hk
  le := h.le
theorem QS.turn1 (h : QS w0 w pb f q0 r0 q1 r1 vb es) (ho : Only (fun k => f k = 2) w w1) (g : Nat → Nat) (hg : ∀ k, g k ≠ 0 → w0.heap.size ≤ k)
    (hs : SlotOk w1 w0.heap.size (fun k => retag f w.heap.size g k = 2) q1 r1) : QS w0 w1 pb (retag f w.heap.size g) q0 r0 q1 r1 vb es where
  below := h.below.trans (ho.below h.below.size (fun k hk => h.base k (by omega)))
  slots := (ho.block _ (heap_lt_of h.slots) (by rw [h.fpb]; decide)).trans h.slots
  fpb := by rw [retag_old (heap_lt_of h.slots)]; exact h.fpb
  s0 := (h.s0.tag (T' := fun k => k < w.heap.size ∧ f k = 1) (fun k hk ht => ⟨hk, ht⟩)).move ho (fun k hk e => by have := hk.2; omega) |>.tag (fun k _ hk => by rw [retag_old hk.1]; exact hk.2)
  s1 := hs
  book := h.book.keep (fun k hk => ho.block k (h.book.lt k hk) (by rw [h.fb k hk]; decide))
  fb := fun k hk => by rw [retag_old (h.book.lt k hk)]; exact h.fb k hk
  held := fun x hx => by
    obtain ⟨⟨h1, h2⟩, h3⟩ := h.held x hx
    exact ⟨⟨h1.move (fun ad e => ho.block _ (h3 ad e).1 (by rw [(h3 ad e).2]; decide)), h2⟩, fun ad e => ⟨Nat.lt_of_lt_of_le (h3 ad e).1 ho.size, by rw [retag_old (h3 ad e).1]; exact (h3 ad e).2⟩⟩
  base := fun k hk => by
    by_cases e : k < w.heap.size
    · rw [retag_old e] at hk; exact h.base k hk
    · rw [retag_new (by omega)] at hk; exact hg k hk
  le := h.le
end Go.Proofs.Ytekgdlpicgibhaa.QI
