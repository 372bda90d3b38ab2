/-
  apart, its second phase as data: each list goes on behind its end.
-/
import Derived.Test.YtekgdlpicgibhaaO1
namespace Go.Proofs.Ytekgdlpicgibhaa.QI
open Go.RowKit Go.Proofs.YtekgdlpicgibhaaW.PrintWords Go.Proofs.Ytekgdlpicgibhaa.QQ

def KE.sl (e : KE) : Sl := ⟨e.A, e.n, e.c⟩
def Sl.ke (x : Sl) (m : Int) : KE := ⟨x.A, x.c, m, x.n⟩
structure Ph2 (w wr : World) (b : Nat) (L : List Sl) (F : List KE) (vF : Value) (i : Nat) : Prop where
  only : Only (fun g => ∃ (t : Nat) (x : Sl), L[t]? = some x ∧ x.val.ownBlock = some g) w wr
  todo : ∀ (t : Nat) (x : Sl), L[t]? = some x → i ≤ t → K.R 3 wr b (fun _ => True) x.val (List.replicate x.n (mk_ t))
  old : ∀ (t : Nat) (x : Sl), L[t]? = some x → t < i → Holds wr (x.ke (mk_ t))
  farV : RV wr w.heap.size vF (F.map KE.sl)
  len : F.length = i
  far : ∀ (t : Nat) (e : KE), F[t]? = some e → Holds wr e ∧ e.m = mk_ t ∧ (∃ x, L[t]? = some x ∧ e.n = x.n + 90 ∧ ∀ ad, e.A = some ad → x.val.ownBlock = some ad.block ∨ w.heap.size ≤ ad.block) ∧ ∀ ad, e.A = some ad → ad.block < wr.heap.size ∧ some ad.block ≠ vF.ownBlock
variable {w wr : World} {b : Nat} {L : List Sl} {X : Nat → List Int}
theorem Ph2.start (h : Ph1 w wr b L X L.length 0) : Ph2 w wr b L [] (.slice none 0 0) 0 where
  only := h.only
  todo := fun t x hx _ => h.done t x hx (List.getElem?_eq_some_iff.1 hx).1
  old := fun t x hx ht => by omega
  farV := Kd.R_nil _ _ _ _ _
  len := rfl
  far := fun t e he => by simp at he
theorem Lists.lt (hL : Lists w b L X) {t : Nat} {x : Sl} (hx : L[t]? = some x) : ∀ k, x.val.ownBlock = some k → k < w.heap.size := Kd.R_lt (hL.own t x hx).1
/-- The i-th list has gone on, and lies in far. -/
theorem Ph2.next (hL : Lists w b L X) {F : List KE} {vF : Value} {i : Nat} (h : Ph2 w wr b L F vF i) {x : Sl} (hx : L[i]? = some x) {ws w5 : World} {A2 : Option Addr} {c2 : Nat} {v1 : Value}
    (hg : G2 wr wr ws b x.val (.slice A2 (x.n + 90) c2) x.n 90 (mk_ i))
    (hR : RV w5 w.heap.size v1 (F.map KE.sl ++ [⟨A2, x.n + 90, c2⟩])) (hgr : ws.grownBy w5 vF.ownBlock) (hat : v1.ownBlock = vF.ownBlock ∨ ∃ g, v1.ownBlock = some g ∧ ws.heap.size ≤ g) :
    Ph2 w w5 b L (F ++ [⟨A2, c2, mk_ i, x.n + 90⟩]) v1 (i + 1) := by
  obtain ⟨g1, g2, g3, g4, g5⟩ := hg
  have s0 := h.only.size
  have s1 := g3.size
  have s2 := hgr.size
  have hxlt := hL.lt hx
  have fl : ∀ k, vF.ownBlock = some k → w.heap.size ≤ k ∧ k < wr.heap.size := fun k hk => ⟨Kd.R_base h.farV k hk, h.farV.lt k hk⟩
  -- a block that is neither the i-th list's nor far's stays
  have stays : ∀ k, k < wr.heap.size → some k ≠ x.val.ownBlock → some k ≠ vF.ownBlock → w5.heap[k]? = wr.heap[k]? := fun k hk h1 h2 =>
    (hgr.block k (by omega) h2).trans (g3.block k hk h1)
  have stays2 : ∀ k, k < ws.heap.size → some k ≠ vF.ownBlock → w5.heap[k]? = ws.heap[k]? := fun k hk h2 => hgr.block k hk h2
  have lblk : ∀ {t : Nat} {y : Sl} {k : Nat}, L[t]? = some y → y.val.ownBlock = some k → k < wr.heap.size ∧ some k ≠ vF.ownBlock := fun {t y k} hy hk => by
    have := hL.lt hy k hk
    exact ⟨by omega, fun e => by have := (fl k e.symm).1; omega⟩
  have a2 : ∀ ad, A2 = some ad → (x.val.ownBlock = some ad.block ∨ wr.heap.size ≤ ad.block) ∧ ad.block < ws.heap.size := fun ad e => by
    subst e
    refine ⟨?_, Kd.R_lt g1 ad.block rfl⟩
    rcases g4 with h4 | ⟨g, h4, hl⟩
    · exact .inl h4.symm
    · injection h4 with h4; exact .inr (by omega)
  constructor
  · refine (h.only.trans (g3.mono (S' := fun g => ∃ (t : Nat) (x : Sl), L[t]? = some x ∧ x.val.ownBlock = some g) (fun k hk => ⟨i, x, hx, hk.symm⟩)) (fun k hk => .inl hk)).trans (Only.of_grown hgr) (fun k hk => .inr ?_)
    exact (fl k hk.symm).1
  · intro t y hy ht
    refine Kd.R_mono (Kd.R_step (Kd.R_tight rfl (h.todo t y hy (by omega))) (fun k hk hlt => stays k hlt (fun e => ?_) (lblk hy hk.symm).2)) (fun _ _ => trivial)
    have := hL.apart t i k y x hy hx hk.symm e.symm
    omega
  · intro t y hy ht
    by_cases e : t = i
    · subst e
      rw [hx] at hy
      cases hy
      have h0 : Holds wr (x.ke (mk_ t)) := holds_of_R (h.todo t x hx (Nat.le_refl _))
      refine (h0.stay g2).move (fun ad e => ?_)
      have hb : x.val.ownBlock = some ad.block := by have e' : x.A = some ad := e; show (Value.slice x.A x.n x.c).ownBlock = _; rw [e']; rfl
      exact stays2 _ (by have := (lblk hx hb).1; omega) (lblk hx hb).2
    · refine (h.old t y hy (by omega)).move (fun ad ea => ?_)
      have hb : y.val.ownBlock = some ad.block := by have e' : y.A = some ad := ea; show (Value.slice y.A y.n y.c).ownBlock = _; rw [e']; rfl
      exact stays _ (lblk hy hb).1 (fun e2 => e (hL.apart t i _ y x hy hx hb e2.symm)) (lblk hy hb).2
  · rw [List.map_append]; exact hR
  · simp [h.len]
  · intro t e he
    by_cases ht : t < F.length
    · rw [List.getElem?_append_left ht] at he
      obtain ⟨f1, f2, ⟨y, hy, f3, f4⟩, f5⟩ := h.far t e he
      have hti : t ≠ i := by have := h.len; omega
      refine ⟨f1.move (fun ad ea => stays _ (f5 ad ea).1 (fun e2 => ?_) (f5 ad ea).2), f2, ⟨y, hy, f3, f4⟩, fun ad ea => ⟨by have := (f5 ad ea).1; omega, fun e2 => ?_⟩⟩
      · rcases f4 ad ea with h4 | h4
        · exact hti (hL.apart t i _ y x hy hx h4 e2.symm)
        · have := hxlt _ e2.symm; omega
      · rcases hat with e3 | ⟨g, e3, hl⟩
        · rw [e3] at e2; exact (f5 ad ea).2 e2
        · rw [e3] at e2; cases e2; have := (f5 ad ea).1; omega
    · have hti : t = i := by
        have h1 := (List.getElem?_eq_some_iff.1 he).1
        have := h.len
        simp at h1
        omega
      subst hti
      rw [List.getElem?_append_right (by have := h.len; omega)] at he
      have : t - F.length = 0 := by have := h.len; omega
      rw [this] at he
      simp at he
      subst he
      have hne : ∀ ad, A2 = some ad → some ad.block ≠ vF.ownBlock := fun ad ea e2 => by
        rcases (a2 ad ea).1 with h4 | h4
        · have := hxlt _ h4; have := (fl _ e2.symm).1; omega
        · have := (fl _ e2.symm).2; omega
      refine ⟨(holds_of_R g1).move (fun ad ea => stays2 _ (a2 ad ea).2 (hne ad ea)), rfl, ⟨x, hx, rfl, fun ad ea => (a2 ad ea).1.imp id (fun h => by omega)⟩, fun ad ea => ⟨by have := (a2 ad ea).2; omega, fun e2 => ?_⟩⟩
      rcases hat with e3 | ⟨g, e3, hl⟩
      · rw [e3] at e2; exact hne ad ea e2
      · rw [e3] at e2; cases e2; have := (a2 ad ea).2; omega
end Go.Proofs.Ytekgdlpicgibhaa.QI
