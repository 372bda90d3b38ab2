/-
  Lists of images in memory, each image a row of its own.
-/
import Derived.Test.YtekgdlpicgibhabEM
namespace Go.Proofs.Ytekgdlpicgibhab.EX
open Go.RowKit Go.Proofs.YtekgdlpicgibhabW.PrintWords

/-- Rows of slices. -/
def kV : Kd Sl := Kd.iso (Kd.raw 1) (fun x : Sl => [x.val])
theorem kV_mk {w : World} {base : Nat} {ok : Nat → Prop} {x : Sl} {cs : List Value} (h : cs = [x.val]) : kV.M w base ok x cs := by
  subst h
  exact ⟨rfl, rfl, by intro u hu; rw [List.mem_singleton.1 hu]; rfl⟩
def Rv (w : World) (b : Nat) (v : Value) (xs : List Sl) : Prop := kV.R 24 w b (fun _ => True) v xs
theorem Rv.keep {w w1 : World} {b : Nat} {v : Value} {xs : List Sl} (h : Rv w b v xs) (hk : ∀ k, v.ownBlock = some k → w1.heap[k]? = w.heap[k]?) : Rv w1 b v xs :=
  Kd.R_mono (Kd.R_step (Kd.R_tight rfl h) (fun k hk' _ => hk k hk'.symm)) (fun _ _ => trivial)
theorem Rv.lt {w : World} {b : Nat} {v : Value} {xs : List Sl} (h : Rv w b v xs) : ∀ k, v.ownBlock = some k → k < w.heap.size := Kd.R_lt h
theorem add_zero_plain (g n : Nat) : Addr.add ⟨g, 0, none⟩ n = ⟨g, n, none⟩ := by
  unfold Addr.add
  split
  · next h => rw [h]
  · simp
theorem Rv.cell {w : World} {b : Nat} {A : Option Addr} {n c : Nat} {xs : List Sl} (h : Rv w b (.slice A n c) xs) {j : Nat} {x : Sl} (hx : xs[j]? = some x) :
    ∃ g, A = some ⟨g, 0, none⟩ ∧ w.cell? ⟨g, j, none⟩ = some (.slice x.A x.n x.c) := by
  obtain ⟨hn, _, hC⟩ := Kd.R_reads' h
  have hj : j < xs.length := (List.getElem?_eq_some_iff.1 hx).1
  obtain ⟨ad, cs, hA, _, hK, hc⟩ := Kd.C_get hC x (j : Int) (by omega) (by omega)
  simp only [Int.toNat_natCast] at hK hc
  rw [List.getD_eq_getElem?_getD, hx] at hK
  obtain ⟨rfl, _⟩ := hK
  subst hA
  obtain ⟨g, rfl⟩ := Kd.R_head h
  have z0 := hc 0 _ rfl
  rw [add_zero_plain] at z0
  have e2 : j * kV.sz + 0 = j := by show j * 1 + 0 = j; omega
  rw [e2] at z0
  exact ⟨g, rfl, z0⟩

/-- Images in memory: a row of slices, each of them a row of bytes of its own, no two in one block. -/
structure Im (w : World) (b : Nat) (v : Value) (L : List Sl) (Xs : List (List Int)) : Prop where
  row : Rv w b v L
  len : L.length = Xs.length
  at_ : ∀ (t : Nat) (x : Sl) (X : List Int), L[t]? = some x → Xs[t]? = some X → x.n = X.length ∧ Rb w b x.val X
  apart : ∀ (t t' g : Nat) (x x' : Sl), L[t]? = some x → L[t']? = some x' → x.val.ownBlock = some g → x'.val.ownBlock = some g → t = t'
variable {w w1 : World} {b : Nat} {v : Value} {L : List Sl} {Xs : List (List Int)}
theorem Im.nil (w : World) (b : Nat) : Im w b (.slice none 0 0) [] [] := ⟨Kd.R_nil _ _ _ _ _, rfl, fun t x X h => by simp at h, fun t t' g x x' h => by simp at h⟩
theorem Im.get (h : Im w b v L Xs) {t : Nat} {x : Sl} (hx : L[t]? = some x) : ∃ X, Xs[t]? = some X ∧ x.n = X.length ∧ Rb w b x.val X := by
  have ht := (List.getElem?_eq_some_iff.1 hx).1
  obtain ⟨X, hX⟩ : ∃ X, Xs[t]? = some X := ⟨_, List.getElem?_eq_getElem (by rw [← h.len]; exact ht)⟩
  exact ⟨X, hX, h.at_ t x X hx hX⟩
theorem Im.lt (h : Im w b v L Xs) {t : Nat} {x : Sl} (hx : L[t]? = some x) : ∀ k, x.val.ownBlock = some k → k < w.heap.size := by
  obtain ⟨X, _, _, hR⟩ := h.get hx
  exact hR.lt
theorem Im.below (h : Im w b v L Xs) (hb : Below w.heap.size w w1) : Im w1 b v L Xs :=
  ⟨h.row.keep (fun k hk => hb.block k (h.row.lt k hk)), h.len, fun t x X hx hX => ⟨(h.at_ t x X hx hX).1, (h.at_ t x X hx hX).2.below hb⟩, h.apart⟩
/-- An append to the row; the new image lies in a block that no other one has. -/
theorem Im.next {v1 : Value} (h : Im w b v L Xs) {s : Sl} {X : List Int} (hs : Rb w b s.val X) (hn : s.n = X.length) (hfresh : ∀ (t g : Nat) (x : Sl), L[t]? = some x → x.val.ownBlock = some g → s.val.ownBlock ≠ some g)
    (hR : Rv w1 b v1 (L ++ [s])) (hg : w.grownBy w1 v.ownBlock) : Im w1 b v1 (L ++ [s]) (Xs ++ [X]) := by
  have far : ∀ (u : Value) (ys : List Int), Rb w b u ys → Rb w1 b u ys := fun u ys hu => hu.keep (fun j hj => hg.block j (hu.lt j hj) (fun e => by
    obtain ⟨c1, h1⟩ := Kd.R_typed hu j hj
    obtain ⟨c2, h2⟩ := Kd.R_typed h.row j e.symm
    exact cells_ne h1 h2 (by decide) rfl))
  refine ⟨hR, by simp [h.len], fun t x Y hx hY => ?_, fun t t' g x x' hx hx' e e' => ?_⟩
  · by_cases ht : t < L.length
    · rw [List.getElem?_append_left ht] at hx
      rw [List.getElem?_append_left (by rw [← h.len]; exact ht)] at hY
      exact ⟨(h.at_ t x Y hx hY).1, far _ _ (h.at_ t x Y hx hY).2⟩
    · obtain rfl : t = L.length := by have := (List.getElem?_eq_some_iff.1 hx).1; simp at this; omega
      rw [List.getElem?_append_right (Nat.le_refl _), Nat.sub_self] at hx
      rw [h.len, List.getElem?_append_right (Nat.le_refl _), Nat.sub_self] at hY
      simp at hx hY
      subst hx
      subst hY
      exact ⟨hn, far _ _ hs⟩
  · by_cases ht : t < L.length <;> by_cases ht' : t' < L.length
    · rw [List.getElem?_append_left ht] at hx
      rw [List.getElem?_append_left ht'] at hx'
      exact h.apart t t' g x x' hx hx' e e'
    · rw [List.getElem?_append_left ht] at hx
      obtain rfl : t' = L.length := by have := (List.getElem?_eq_some_iff.1 hx').1; simp at this; omega
      rw [List.getElem?_append_right (Nat.le_refl _), Nat.sub_self] at hx'
      simp at hx'
      subst hx'
      exact (hfresh t g x hx e e').elim
    · rw [List.getElem?_append_left ht'] at hx'
      obtain rfl : t = L.length := by have := (List.getElem?_eq_some_iff.1 hx).1; simp at this; omega
      rw [List.getElem?_append_right (Nat.le_refl _), Nat.sub_self] at hx
      simp at hx
      subst hx
      exact (hfresh t' g x' hx' e' e).elim
    · have h1 := (List.getElem?_eq_some_iff.1 hx).1
      have h2 := (List.getElem?_eq_some_iff.1 hx').1
      simp at h1 h2
      omega
theorem Im.list (h : Im w b v L Xs) : ListAt w v Xs := by
  obtain ⟨A, c, e⟩ := Kd.R_slice h.row
  refine ⟨A, c, by rw [e, h.len], fun k X hX => ?_⟩
  have hk : k < L.length := by rw [h.len]; exact (List.getElem?_eq_some_iff.1 hX).1
  obtain ⟨x, hx⟩ : ∃ x, L[k]? = some x := ⟨_, List.getElem?_eq_getElem hk⟩
  obtain ⟨h1, h2⟩ := h.at_ k x X hx hX
  have hr := h.row
  rw [e] at hr
  obtain ⟨g, rfl, z0⟩ := Rv.cell hr hx
  have h3 : Rd w (.slice x.A X.length x.c) X := by have := h2.rd; rw [← h1]; exact this
  refine ⟨⟨g, 0, none⟩, x.A, x.c, rfl, ?_, ?_, h3⟩
  · have := World.block_lt_of_cell? w _ z0; exact this
  · rw [add_zero_plain, z0, h1]
end Go.Proofs.Ytekgdlpicgibhab.EX
