/-
  QueuePlays' state: what a step, a list kept, a new pair leave.
-/
import Derived.Test.YtekgdlpicgibhaaP4
namespace Go.Proofs.Ytekgdlpicgibhaa.QI
open Go.RowKit Go.Proofs.YtekgdlpicgibhaaW.PrintWords Go.Proofs.Ytekgdlpicgibhaa.QQ

variable {w0 w w1 : World} {pb : Nat} {f : Nat → Nat} {q0 r0 q1 r1 vb : Value} {es : List KE}
theorem QIn.lower {b b' : Nat} {S : Nat → Prop} {qb : Nat} {q : QM Int} (h : QIn w b S qb q) (hb : b' ≤ b) : QIn w b' S qb q := by
  obtain ⟨rb, vals, hA, hf⟩ := h
  exact ⟨rb, vals, ⟨hA.hq, hA.hr, hA.len, fun c v xs h1 h2 => Kd.R_lower (hA.row c v xs h1 h2) hb, hA.apart, Nat.le_trans hb hA.bq, Nat.le_trans hb hA.br⟩, hf⟩
theorem RIn.lower {b b' : Nat} {S : Nat → Prop} {rb : Nat} {q : QM Int} (h : RIn w b S rb q) (hb : b' ≤ b) : RIn w b' S rb q := by
  obtain ⟨lb, l, vals, hA, hf⟩ := h
  exact ⟨lb, l, vals, ⟨hA.hq, hA.hr, hA.len, fun c v xs h1 h2 => Kd.R_lower (hA.row c v xs h1 h2) hb, Nat.le_trans hb hA.bq, Nat.le_trans hb hA.br, hA.ll, hA.nx⟩, hf⟩
/-- A new pair. -/
theorem PIn.new {w w1 w2 : World} {B qb rb c p : Nat} (hB : B ≤ w.heap.size) (h1 : QIn w1 w.heap.size (fun k => w.heap.size ≤ k) qb (QM.empty c p)) (b1 : Below w.heap.size w w1) (h2 : RIn w2 w1.heap.size (fun k => w1.heap.size ≤ k) rb (QM.empty c p)) (b2 : Below w1.heap.size w1 w2) (hw : (QM.empty c p).Wf (α := Int)) :
    PIn w2 B (fun k => w.heap.size ≤ k ∧ k < w1.heap.size) (fun k => w1.heap.size ≤ k ∧ k < w2.heap.size) qb rb (QM.empty c p) where
  a := (((h1.bound).mono (fun k hk => ⟨hk.1, hk.2.2⟩)).below b2).lower hB
  b := ((h2.bound).mono (fun k hk => ⟨hk.1, hk.2.2⟩)).lower (Nat.le_trans hB b1.size)
  wf := hw
  ap := fun k h1 h2 => by omega
  lo := by have := b1.size; have := b2.size; omega
  hi1 := fun k hk => by have := b2.size; omega
  hi2 := fun k hk => hk.2
/-- A list that has been kept is in the book. -/
theorem QS.kept (h : QS w0 w pb f q0 r0 q1 r1 vb es) {l : Value} {mark : Int} {n : Nat} {e : Ending} {w' : World} (hl : ∀ k, l.ownBlock = some k → f k = 6) (hn : n ≤ 64) (hes : es.length < 600) (hk : Kept3 w w0.heap.size vb l es mark n e w') :
    ∃ v' f' es', e = .returned v' ∧ QS w0 w' pb f' q0 r0 q1 r1 v' es' := by
  obtain ⟨v', x0, x1, x2, rfl, hB, hx, ho, hat⟩ := hk
  have hS : ∀ k, (some k = l.ownBlock ∨ some k = vb.ownBlock) → f k = 6 ∨ f k = 3 := fun k hk => hk.imp (fun e => hl k e.symm) (fun e => h.fb k e.symm)
  have hs := ho.size
  have old : ∀ k, k < w.heap.size → f k ≠ 6 → f k ≠ 3 → w'.heap[k]? = w.heap[k]? := fun k hk h1 h2 => ho.block k hk (fun e => (hS k e).elim h1 h2)
  obtain ⟨F, hF⟩ : ∃ F : Nat → Nat, F = fun k => if k < w.heap.size then (if f k = 6 then 4 else f k) else if some k = v'.ownBlock then 3 else 4 := ⟨_, rfl⟩
  have Fold : ∀ k, k < w.heap.size → f k ≠ 6 → F k = f k := fun k h1 h2 => by rw [hF]; simp [h1, h2]
  have slot : ∀ {t : Nat} {a b : Value}, t = 1 ∨ t = 2 → SlotOk w w0.heap.size (fun k => f k = t) a b → SlotOk w' w0.heap.size (fun k => F k = t) a b := by
    intro t a b ht hs0
    have h1 := (hs0.tag (T' := fun k => k < w.heap.size ∧ f k = t) (fun k hk ht => ⟨hk, ht⟩)).move ho (fun k hk e => by have := hS k e; have := hk.2; omega)
    exact h1.tag (fun k _ hk => by rw [Fold k hk.1 (by have := hk.2; omega)]; exact hk.2)
  refine ⟨v', F, es ++ [x0, x1, x2], rfl, ?_⟩
  have hpb := heap_lt_of h.slots
  constructor
  · exact h.below.trans (ho.below h.below.size (fun k hk => h.base k (by have := hS k hk; omega)))
  · exact (old pb hpb (by rw [h.fpb]; decide) (by rw [h.fpb]; decide)).trans h.slots
  · rw [Fold pb hpb (by rw [h.fpb]; decide)]; exact h.fpb
  · exact slot (.inl rfl) h.s0
  · exact slot (.inr rfl) h.s1
  · exact hB
  · intro k hk
    rcases hat with e | ⟨g, e, hg⟩
    · rw [e] at hk
      have h3 := h.fb k hk
      rw [Fold k (h.book.lt k hk) (by omega)]
      exact h3
    · have : ¬ k < w.heap.size := by rw [e] at hk; cases hk; omega
      rw [hF]
      simp [this, hk]
  · intro x hx'
    rcases List.mem_append.1 hx' with hx' | hx'
    · obtain ⟨⟨h1, h2⟩, h3⟩ := h.held x hx'
      refine ⟨⟨h1.move (fun ad e => old _ (h3 ad e).1 (by rw [(h3 ad e).2]; decide) (by rw [(h3 ad e).2]; decide)), h2⟩, fun ad e => ⟨Nat.lt_of_lt_of_le (h3 ad e).1 hs, ?_⟩⟩
      rw [Fold _ (h3 ad e).1 (by rw [(h3 ad e).2]; decide)]
      exact (h3 ad e).2
    · obtain ⟨h1, h2, h3, h4⟩ := hx x hx'
      refine ⟨⟨h1, by omega⟩, fun ad e => ?_⟩
      obtain ⟨a1, a2, a3⟩ := h4 ad e
      refine ⟨a2, ?_⟩
      by_cases hlt : ad.block < w.heap.size
      · have h6 : f ad.block = 6 := a1.elim (fun e => hl _ e.symm) (fun e => by omega)
        rw [hF]
        simp [hlt, h6]
      · rw [hF]
        simp [hlt, a3]
  · intro k hk
    by_cases e : k < w.heap.size
    · refine h.base k (fun h0 => hk ?_)
      rw [Fold k e (by omega)]
      exact h0
    · have := h.below.size; omega
  · simp; omega
/-- A step at slot 0. -/
theorem QS.stepped0 (h : QS w0 w pb f q0 r0 q1 r1 vb es) {qb rb : Nat} {q : QM Int} {S1 S2 : Nat → Prop} (hq : q0 = .pointer (some ⟨qb, 0, none⟩)) (hr : r0 = .pointer (some ⟨rb, 0, none⟩)) (_hP : PIn w w0.heap.size S1 S2 qb rb q) (hT : ∀ k, S1 k ∨ S2 k → f k = 1) {kind : Int} {e : Ending} {w' : World}
    (hp : Played w w0.heap.size S1 S2 qb rb q kind e w') :
    ∃ v xs f', e = .returned (.tuple #[.bool true, v]) ∧ K.R 3 w' w.heap.size (fun _ => True) v xs ∧ xs.length ≤ 64 ∧ QS w0 w' pb f' q0 r0 q1 r1 vb es ∧ (∀ k, v.ownBlock = some k → f' k = 6) ∧ (kind ≠ 5 → v = .slice none 0 0) := by
  obtain ⟨v, xs, q', T1, T2, rfl, hR, hx, _, hP', hN, hv, ho, hk⟩ := hp
  have ho' : Only (fun k => f k = 1) w w' := ho.mono (fun k hk => hT k hk)
  refine ⟨v, xs, retag f w.heap.size (fun k => if k < w.heap.size then 0 else if some k = v.ownBlock then 6 else 1), rfl, hR, hx, ?_, ?_, hk⟩
  · refine h.turn0 ho' _ (fun k hk => ?_) (.inr ⟨qb, rb, q', T1, T2, hq, hr, hP', fun k hk => ?_⟩)
    · by_cases e : k < w.heap.size
      · simp [e] at hk
      · have := h.below.size; omega
    · show retag f w.heap.size _ k = _
      by_cases e : k < w.heap.size
      · rw [retag_old e]
        rcases hN k hk with h1 | h1
        · exact hT k h1
        · omega
      · have : ¬ some k = v.ownBlock := fun e' => hv k e'.symm hk
        rw [retag_new (by omega)]
        simp [e, this]
  · intro k hk
    have hb := Kd.R_base hR k hk
    rw [retag_new hb]
    have : ¬ k < w.heap.size := by omega
    simp [this, hk]
/-- A pair is laid in slot 0. -/
theorem QS.put0 (h : QS w0 w pb f q0 r0 q1 r1 vb es) {qb rb : Nat} {q : QM Int} {S1 S2 : Nat → Prop} {w' : World} (hb : Below w.heap.size w w') (hP : PIn w' w0.heap.size S1 S2 qb rb q) (hS : ∀ k, S1 k ∨ S2 k → w.heap.size ≤ k) :
    ∃ f', QS w0 ((w'.setCell ⟨pb, 0, none⟩ (.pointer (some ⟨qb, 0, none⟩))).setCell ⟨pb, 1, none⟩ (.pointer (some ⟨rb, 0, none⟩))) pb f' (.pointer (some ⟨qb, 0, none⟩)) (.pointer (some ⟨rb, 0, none⟩)) q1 r1 vb es := by
  have h1 := h.later hb
  have hpb := heap_lt_of h.slots
  have ho : Only (fun k => k = pb) w' ((w'.setCell ⟨pb, 0, none⟩ (.pointer (some ⟨qb, 0, none⟩))).setCell ⟨pb, 1, none⟩ (.pointer (some ⟨rb, 0, none⟩))) := (show Only (fun k => k = pb) _ _ from Only.setCell w' ⟨pb, 0, none⟩ _).trans (show Only (fun k => k = pb) _ _ from Only.setCell _ ⟨pb, 1, none⟩ _) (fun k hk => .inl hk)
  have Fn : ∀ k, k < w.heap.size → retag f w.heap.size (fun k => if k < w.heap.size then 0 else 1) k = f k := fun k hk => retag_old hk
  refine ⟨retag f w.heap.size (fun k => if k < w.heap.size then 0 else 1), ?_⟩
  have old : ∀ k, k < w'.heap.size → k ≠ pb → ((w'.setCell ⟨pb, 0, none⟩ (.pointer (some ⟨qb, 0, none⟩))).setCell ⟨pb, 1, none⟩ (.pointer (some ⟨rb, 0, none⟩))).heap[k]? = w'.heap[k]? := fun k h1 h2 => ho.block k h1 h2
  constructor
  · exact h1.below.trans (ho.below h1.below.size (fun k hk => by subst hk; exact h.base k (by rw [h.fpb]; decide)))
  · rw [blk_set (blk_set h1.slots _ _)]; rfl
  · rw [Fn pb hpb]; exact h.fpb
  · refine .inr ⟨qb, rb, q, S1, S2, rfl, rfl, hP.move ho (fun k hk e => ?_), fun k hk => ?_⟩
    · have := hS k hk; omega
    · have hk' := hS k hk
      show retag f w.heap.size _ k = _
      have : ¬ k < w.heap.size := by omega
      rw [retag_new hk']
      simp [this]
  · exact ((h.s1.tag (T' := fun k => k < w.heap.size ∧ f k = 2) (fun k hk ht => ⟨hk, ht⟩)).move (Only.of_below hb (fun _ => False)) (fun _ _ h => h)).move ho (fun k hk e => by subst e; have := hk.2; rw [h.fpb] at this; cases this) |>.tag (fun k _ hk => by rw [Fn k hk.1]; exact hk.2)
  · exact h1.book.keep (fun k hk => old k (h1.book.lt k hk) (fun e => by subst e; have := h.fb k hk; rw [h.fpb] at this; cases this))
  · intro k hk; rw [Fn k (h.book.lt k hk)]; exact h.fb k hk
  · intro x hx
    obtain ⟨⟨a1, a2⟩, a3⟩ := h1.held x hx
    obtain ⟨_, b3⟩ := h.held x hx
    refine ⟨⟨a1.move (fun ad e => old _ (a3 ad e).1 (fun e' => ?_)), a2⟩, fun ad e => ⟨by simpa using (a3 ad e).1, ?_⟩⟩
    · have := (a3 ad e).2; rw [e', h.fpb] at this; cases this
    · rw [Fn _ (b3 ad e).1]; exact (a3 ad e).2
  · intro k hk
    by_cases e : k < w.heap.size
    · rw [Fn k e] at hk; exact h.base k hk
    · have := h.below.size; omega
  · exact h.le
/-- A step at slot 1. -/
theorem QS.stepped1 (h : QS w0 w pb f q0 r0 q1 r1 vb es) {qb rb : Nat} {q : QM Int} {S1 S2 : Nat → Prop} (hq : q1 = .pointer (some ⟨qb, 0, none⟩)) (hr : r1 = .pointer (some ⟨rb, 0, none⟩)) (_hP : PIn w w0.heap.size S1 S2 qb rb q) (hT : ∀ k, S1 k ∨ S2 k → f k = 2) {kind : Int} {e : Ending} {w' : World}
    (hp : Played w w0.heap.size S1 S2 qb rb q kind e w') :
    ∃ v xs f', e = .returned (.tuple #[.bool true, v]) ∧ K.R 3 w' w.heap.size (fun _ => True) v xs ∧ xs.length ≤ 64 ∧ QS w0 w' pb f' q0 r0 q1 r1 vb es ∧ (∀ k, v.ownBlock = some k → f' k = 6) ∧ (kind ≠ 5 → v = .slice none 0 0) := by
  obtain ⟨v, xs, q', T1, T2, rfl, hR, hx, _, hP', hN, hv, ho, hk⟩ := hp
  have ho' : Only (fun k => f k = 2) w w' := ho.mono (fun k hk => hT k hk)
  refine ⟨v, xs, retag f w.heap.size (fun k => if k < w.heap.size then 0 else if some k = v.ownBlock then 6 else 2), rfl, hR, hx, ?_, ?_, hk⟩
  · refine h.turn1 ho' _ (fun k hk => ?_) (.inr ⟨qb, rb, q', T1, T2, hq, hr, hP', fun k hk => ?_⟩)
    · by_cases e : k < w.heap.size
      · simp [e] at hk
      · have := h.below.size; omega
    · show retag f w.heap.size _ k = _
      by_cases e : k < w.heap.size
      · rw [retag_old e]
        rcases hN k hk with h1 | h1
        · exact hT k h1
        · omega
      · have : ¬ some k = v.ownBlock := fun e' => hv k e'.symm hk
        rw [retag_new (by omega)]
        simp [e, this]
  · intro k hk
    have hb := Kd.R_base hR k hk
    rw [retag_new hb]
    have : ¬ k < w.heap.size := by omega
    simp [this, hk]
/-- A pair is laid in slot 1. -/
theorem QS.put1 (h : QS w0 w pb f q0 r0 q1 r1 vb es) {qb rb : Nat} {q : QM Int} {S1 S2 : Nat → Prop} {w' : World} (hb : Below w.heap.size w w') (hP : PIn w' w0.heap.size S1 S2 qb rb q) (hS : ∀ k, S1 k ∨ S2 k → w.heap.size ≤ k) :
    ∃ f', QS w0 ((w'.setCell ⟨pb, 2, none⟩ (.pointer (some ⟨qb, 0, none⟩))).setCell ⟨pb, 3, none⟩ (.pointer (some ⟨rb, 0, none⟩))) pb f' q0 r0 (.pointer (some ⟨qb, 0, none⟩)) (.pointer (some ⟨rb, 0, none⟩)) vb es := by
  have h1 := h.later hb
  have hpb := heap_lt_of h.slots
  have ho : Only (fun k => k = pb) w' ((w'.setCell ⟨pb, 2, none⟩ (.pointer (some ⟨qb, 0, none⟩))).setCell ⟨pb, 3, none⟩ (.pointer (some ⟨rb, 0, none⟩))) := (show Only (fun k => k = pb) _ _ from Only.setCell w' ⟨pb, 2, none⟩ _).trans (show Only (fun k => k = pb) _ _ from Only.setCell _ ⟨pb, 3, none⟩ _) (fun k hk => .inl hk)
  have Fn : ∀ k, k < w.heap.size → retag f w.heap.size (fun k => if k < w.heap.size then 0 else 2) k = f k := fun k hk => retag_old hk
  refine ⟨retag f w.heap.size (fun k => if k < w.heap.size then 0 else 2), ?_⟩
  have old : ∀ k, k < w'.heap.size → k ≠ pb → ((w'.setCell ⟨pb, 2, none⟩ (.pointer (some ⟨qb, 0, none⟩))).setCell ⟨pb, 3, none⟩ (.pointer (some ⟨rb, 0, none⟩))).heap[k]? = w'.heap[k]? := fun k h1 h2 => ho.block k h1 h2
  constructor
  · exact h1.below.trans (ho.below h1.below.size (fun k hk => by subst hk; exact h.base k (by rw [h.fpb]; decide)))
  · rw [blk_set (blk_set h1.slots _ _)]; rfl
  · rw [Fn pb hpb]; exact h.fpb
  · exact ((h.s0.tag (T' := fun k => k < w.heap.size ∧ f k = 1) (fun k hk ht => ⟨hk, ht⟩)).move (Only.of_below hb (fun _ => False)) (fun _ _ h => h)).move ho (fun k hk e => by subst e; have := hk.2; rw [h.fpb] at this; cases this) |>.tag (fun k _ hk => by rw [Fn k hk.1]; exact hk.2)
  · refine .inr ⟨qb, rb, q, S1, S2, rfl, rfl, hP.move ho (fun k hk e => ?_), fun k hk => ?_⟩
    · have := hS k hk; omega
    · have hk' := hS k hk
      show retag f w.heap.size _ k = _
      have : ¬ k < w.heap.size := by omega
      rw [retag_new hk']
      simp [this]
  · exact h1.book.keep (fun k hk => old k (h1.book.lt k hk) (fun e => by subst e; have := h.fb k hk; rw [h.fpb] at this; cases this))
  · intro k hk; rw [Fn k (h.book.lt k hk)]; exact h.fb k hk
  · intro x hx
    obtain ⟨⟨a1, a2⟩, a3⟩ := h1.held x hx
    obtain ⟨_, b3⟩ := h.held x hx
    refine ⟨⟨a1.move (fun ad e => old _ (a3 ad e).1 (fun e' => ?_)), a2⟩, fun ad e => ⟨by simpa using (a3 ad e).1, ?_⟩⟩
    · have := (a3 ad e).2; rw [e', h.fpb] at this; cases this
    · rw [Fn _ (b3 ad e).1]; exact (a3 ad e).2
  · intro k hk
    by_cases e : k < w.heap.size
    · rw [Fn k e] at hk; exact h.base k hk
    · have := h.below.size; omega
  · exact h.le
end Go.Proofs.Ytekgdlpicgibhaa.QI
