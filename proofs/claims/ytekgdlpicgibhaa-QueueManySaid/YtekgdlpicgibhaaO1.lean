/-
  Lists that were handed out, each its own: what apart asks and keeps.
-/
import Derived.Test.YtekgdlpicgibhaaR6
import Derived.Test.YtekgdlpicgibhaaP3
namespace Go.Proofs.Ytekgdlpicgibhaa.QI
open Go.RowKit Go.Proofs.YtekgdlpicgibhaaW.PrintWords Go.Proofs.Ytekgdlpicgibhaa.QQ

/-- A row of slices. -/
structure Sl where
  A : Option Addr
  n : Nat
  c : Nat
def Sl.val (x : Sl) : Value := .slice x.A x.n x.c
def kV : Kd Sl := Kd.iso (Kd.raw 1) (fun x : Sl => [x.val])
theorem kV_mk {w : World} {base : Nat} {ok : Nat → Prop} {x : Sl} {cs : List Value} (h : cs = [x.val]) : kV.M w base ok x cs := by
  subst h
  exact ⟨rfl, rfl, by intro u hu; rw [List.mem_singleton.1 hu]; rfl⟩
def RV (w : World) (b : Nat) (v : Value) (xs : List Sl) : Prop := kV.R 40 w b (fun _ => True) v xs
theorem RV.keep {w w1 : World} {b : Nat} {v : Value} {xs : List Sl} (h : RV w b v xs) (hk : ∀ k, v.ownBlock = some k → w1.heap[k]? = w.heap[k]?) : RV w1 b v xs :=
  Kd.R_mono (Kd.R_step (Kd.R_tight rfl h) (fun k hk' _ => hk k hk'.symm)) (fun _ _ => trivial)
theorem RV.lt {w : World} {b : Nat} {v : Value} {xs : List Sl} (h : RV w b v xs) : ∀ k, v.ownBlock = some k → k < w.heap.size := Kd.R_lt h
theorem RV.cell {w : World} {b : Nat} {A : Option Addr} {n c : Nat} {xs : List Sl} (h : RV w b (.slice A n c) xs) {j : Nat} {x : Sl} (hx : xs[j]? = some x) :
    ∃ g, A = some ⟨g, 0, none⟩ ∧ w.cell? ⟨g, j, none⟩ = some (.slice x.A x.n x.c) := by
  obtain ⟨hn, _, hC⟩ := Kd.R_reads' h
  have hj : j < xs.length := (List.getElem?_eq_some_iff.1 hx).1
  obtain ⟨ad, cs, hA, _, hK, hc⟩ := Kd.C_get hC x (j : Int) (by omega) (by omega)
  simp only [Int.toNat_natCast] at hK hc
  rw [List.getD_eq_getElem?_getD, hx] at hK
  obtain ⟨rfl, _⟩ := hK
  subst hA
  obtain ⟨g, rfl⟩ := Kd.R_head h
  have z0 := hc 0 _ rfl
  have e : ∀ n, Addr.add ⟨g, 0, none⟩ n = ⟨g, n, none⟩ := by
    intro n
    unfold Addr.add
    split
    · next h => rw [h]
    · simp
  rw [e] at z0
  have e2 : j * kV.sz + 0 = j := by show j * 1 + 0 = j; omega
  rw [e2] at z0
  exact ⟨g, rfl, z0⟩
def mk_ (t : Nat) : Int := -1000 - (t : Int)

/-- While the lists are written full: the first i are; of the i-th the first k numbers. -/
structure Ph1 (w wr : World) (b : Nat) (L : List Sl) (X : Nat → List Int) (i k : Nat) : Prop where
  only : Only (fun g => ∃ (t : Nat) (x : Sl), L[t]? = some x ∧ x.val.ownBlock = some g) w wr
  done : ∀ (t : Nat) (x : Sl), L[t]? = some x → t < i → K.R 3 wr b (fun _ => True) x.val (List.replicate x.n (mk_ t))
  now : ∀ x, L[i]? = some x → K.R 3 wr b (fun _ => True) x.val (List.replicate k (mk_ i) ++ (X i).drop k)
  rest : ∀ (t : Nat) (x : Sl), L[t]? = some x → i < t → K.R 3 wr b (fun _ => True) x.val (X t)
/-- What apart is given: lists of their own, no two in one block. -/
structure Lists (w : World) (b : Nat) (L : List Sl) (X : Nat → List Int) : Prop where
  own : ∀ (t : Nat) (x : Sl), L[t]? = some x → K.R 3 w b (fun _ => True) x.val (X t) ∧ (X t).length = x.n ∧ x.n ≤ 64
  apart : ∀ (t t' g : Nat) (x x' : Sl), L[t]? = some x → L[t']? = some x' → x.val.ownBlock = some g → x'.val.ownBlock = some g → t = t'
theorem Ph1.start {w : World} {b : Nat} {L : List Sl} {X : Nat → List Int} (h : Lists w b L X) : Ph1 w w b L X 0 0 where
  only := Only.refl _ _
  done := fun t x _ ht => by omega
  now := fun x hx => by simpa using (h.own 0 x hx).1
  rest := fun t x hx _ => (h.own t x hx).1
/-- The next list. -/
theorem Ph1.turn {w wr : World} {b : Nat} {L : List Sl} {X : Nat → List Int} {i k : Nat} {x : Sl} (hL : Lists w b L X) (h : Ph1 w wr b L X i k) (hx : L[i]? = some x) (hk : k = x.n) : Ph1 w wr b L X (i + 1) 0 where
  only := h.only
  done := fun t y hy ht => by
    by_cases e : t = i
    · subst e
      rw [hx] at hy
      cases hy
      have := h.now x hx
      have hl := (hL.own t x hx).2.1
      rw [hk, ← hl, List.drop_length, List.append_nil, hl] at this
      exact this
    · exact h.done t y hy (by omega)
  now := fun y hy => by
    have := h.rest (i + 1) y hy (by omega)
    simpa using this
  rest := fun t y hy ht => h.rest t y hy (by omega)
/-- One number has been written. -/
theorem Ph1.put {w wr : World} {b g cap n : Nat} {L : List Sl} {X : Nat → List Int} {i k : Nat} (hL : Lists w b L X) (h : Ph1 w wr b L X i k) (hx : L[i]? = some ⟨some ⟨g, 0, none⟩, n, cap⟩) (hk : k < n) : Ph1 w (wr.setCell ⟨g, k, none⟩ (.int .i64 (mk_ i))) b L X i (k + 1) := by
  have ho : Only (fun j => j = g) wr (wr.setCell ⟨g, k, none⟩ (.int .i64 (mk_ i))) := Only.setCell wr ⟨g, k, none⟩ _
  have far : ∀ (t : Nat) (y : Sl) (ys : List Int), L[t]? = some y → t ≠ i → K.R 3 wr b (fun _ => True) y.val ys → K.R 3 (wr.setCell ⟨g, k, none⟩ (.int .i64 (mk_ i))) b (fun _ => True) y.val ys := by
    intro t y ys hy ht hR
    refine Kd.R_mono (Kd.R_step (Kd.R_tight rfl hR) (fun j hj hlt => ho.block j hlt (fun e => ?_))) (fun _ _ => trivial)
    subst e
    exact ht (hL.apart t i j y _ hy hx hj.symm rfl)
  refine ⟨h.only.trans ho (fun j hj => .inl ⟨i, _, hx, by subst hj; rfl⟩), fun t y hy ht => far t y _ hy (by omega) (h.done t y hy ht), fun y hy => ?_, fun t y hy ht => far t y _ hy (by omega) (h.rest t y hy ht)⟩
  rw [hx] at hy
  cases hy
  have hput := Kd.R_putn (h.now _ hx) (k : Int) (mk_ i)
  simp only [Int.toNat_natCast] at hput
  rw [fill_next (X i) (mk_ i) (by have := (hL.own i _ hx).2.1; simp only at this; omega)] at hput
  exact hput
end Go.Proofs.Ytekgdlpicgibhaa.QI
