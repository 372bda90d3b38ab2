/-
  One queue of strings as a law holds it.
-/
import Derived.Test.YtekgdlpicgibhaaS4
namespace Go.Proofs.Ytekgdlpicgibhaa.QS
open Go.RowKit Go.Proofs.YtekgdlpicgibhaaW.PrintWords Go.Proofs.Ytekgdlpicgibhaa.QQ

/-- The law's own queue: it lies in what came since w0; old memory is as it was. -/
def St (w0 w : World) (qb : Nat) (q : QM ByteArray) : Prop :=
  ∃ B, w0.heap.size ≤ B ∧ B ≤ w.heap.size ∧ QIn w B (fun k => B ≤ k) qb q ∧ q.Wf ∧ Below w0.heap.size w0 w

theorem St.wf {w0 w : World} {qb : Nat} {q : QM ByteArray} (h : St w0 w qb q) : q.Wf := by obtain ⟨B, _, _, _, h, _⟩ := h; exact h
theorem St.below {w0 w : World} {qb : Nat} {q : QM ByteArray} (h : St w0 w qb q) : Below w0.heap.size w0 w := by obtain ⟨B, _, _, _, _, h⟩ := h; exact h
theorem St.left {w0 w w' : World} {qb : Nat} {q q' : QM ByteArray} (h : St w0 w qb q) (hw : q'.Wf) (hl : ∀ B, B ≤ w.heap.size → QIn w B (fun k => B ≤ k) qb q → Left w B (fun k => B ≤ k) qb q' w') : St w0 w' qb q' := by
  obtain ⟨B, h1, h2, h3, h4, h5⟩ := h
  obtain ⟨hq, ho⟩ := hl B h2 h3
  have hb : Below B w w' := ho.below h2 (fun _ h => h)
  exact ⟨B, h1, Nat.le_trans h2 ho.size, hq.mono (fun k hk => hk.elim id (fun h => Nat.le_trans h2 h)), hw, h5.trans (hb.mono h1)⟩
/-- Something that lies beyond has come, or been written. -/
theorem St.later {w0 w w' : World} {qb : Nat} {q : QM ByteArray} (h : St w0 w qb q) (hb : Below w.heap.size w w') : St w0 w' qb q := by
  obtain ⟨B, h1, h2, h3, h4, h5⟩ := h
  exact ⟨B, h1, Nat.le_trans h2 hb.size, h3.below hb, h4, h5.trans (hb.mono (Nat.le_trans h1 h2))⟩

theorem St.drew {w0 w : World} {qb : Nat} {q : QM ByteArray} (h : St w0 w qb q) : St w0 w.drew qb q := h.later (below_drew (Below.refl _ _))

theorem push_st {w0 w : World} {qb : Nat} {q : QM ByteArray} (h : St w0 w qb q) (c : Int) (x : ByteArray) :
    Calls Try.prog 14 #[.pointer (some ⟨qb, 0, none⟩), .int .i64 c, .string x] w fun e w' => e = .returned (.int .i64 (q.push c x).1) ∧ St w0 w' qb (q.push c x).2 := by
  have H := h
  obtain ⟨B, h1, h2, h3, h4, h5⟩ := h
  refine (push_any h3 h4 h2 c x).mono ?_
  rintro e w' ⟨he, hq, ho⟩
  have hb : Below B w w' := ho.below h2 (fun _ h => h)
  exact ⟨he, ⟨B, h1, Nat.le_trans h2 ho.size, hq.mono (fun k hk => hk.elim id (fun h => Nat.le_trans h2 h)), QM.push_wf h4 c x, h5.trans (hb.mono h1)⟩⟩
theorem pop_st {w0 w : World} {qb : Nat} {q : QM ByteArray} (h : St w0 w qb q) :
    Calls Try.prog 16 #[.pointer (some ⟨qb, 0, none⟩)] w fun e w' => e = .returned (popValue q.pop.1) ∧ St w0 w' qb q.pop.2 := by
  obtain ⟨B, h1, h2, h3, h4, h5⟩ := h
  refine (pop_any h3 h4 h2).mono ?_
  rintro e w' ⟨he, hq, ho⟩
  have hb : Below B w w' := ho.below h2 (fun _ h => h)
  exact ⟨he, ⟨B, h1, Nat.le_trans h2 ho.size, hq.mono (fun k hk => hk.elim id (fun h => Nat.le_trans h2 h)), QM.pop_wf h4, h5.trans (hb.mono h1)⟩⟩
theorem new_st {w0 w : World} (hb : Below w0.heap.size w0 w) (c p : Int) (h1 : 1 ≤ c) (h2 : c ≤ 64) (h3 : 1 ≤ p) (h4 : p ≤ 64) :
    Calls Try.prog 13 #[.int .i64 c, .int .i64 p] w fun e w' => ∃ qb, e = .returned (.pointer (some ⟨qb, 0, none⟩)) ∧ St w0 w' qb (QM.empty c.toNat p.toNat) := by
  refine (new_any c p w h1 h2 h3 h4).mono ?_
  rintro e w' ⟨qb, rfl, hq, hb'⟩
  exact ⟨qb, rfl, ⟨w.heap.size, hb.size, hb'.size, hq, QM.empty_wf (by omega) (by omega) (by omega) (by omega), hb.trans (hb'.mono hb.size)⟩⟩

theorem push_to {w0 w : World} {qb : Nat} {q : QM ByteArray} (h : St w0 w qb q) (c : Int) (x : ByteArray) {r : Int} {q' : QM ByteArray} (he : q.push c x = (r, q')) :
    Calls Try.prog 14 #[.pointer (some ⟨qb, 0, none⟩), .int .i64 c, .string x] w fun e w' => e = .returned (.int .i64 r) ∧ St w0 w' qb q' := by
  have := push_st h c x
  rw [he] at this
  exact this
theorem pop_to {w0 w : World} {qb : Nat} {q : QM ByteArray} (h : St w0 w qb q) {r : Option (Nat × ByteArray)} {q' : QM ByteArray} (he : q.pop = (r, q')) :
    Calls Try.prog 16 #[.pointer (some ⟨qb, 0, none⟩)] w fun e w' => e = .returned (popValue r) ∧ St w0 w' qb q' := by
  have := pop_st h
  rw [he] at this
  exact this
end Go.Proofs.Ytekgdlpicgibhaa.QS
