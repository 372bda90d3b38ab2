/-
  The images of a device's writes, as data: none twice, the first is what lasts, each mask's is among them, what a crash leaves is one.
-/
import Derived.Test.YtekgdlpicgibhabD7
namespace Go.Proofs.Ytekgdlpicgibhab.EX
open Go.RowKit Go.Proofs.YtekgdlpicgibhabW.PrintWords

theorem uniq_has (f : Nat → List Int) {m i : Nat} (h : i < m) : f i ∈ uniq f m := by
  induction m with
  | zero => omega
  | succ m ih =>
    unfold uniq
    by_cases e : i = m
    · subst e
      split
      · assumption
      · simp
    · split
      · exact ih (by omega)
      · exact List.mem_append_left _ (ih (by omega))
theorem uniq_nodup (f : Nat → List Int) (m : Nat) : (uniq f m).Nodup := by
  induction m with
  | zero => simp [uniq]
  | succ m ih =>
    unfold uniq
    split
    · exact ih
    · next h => exact List.nodup_append.2 ⟨ih, by simp, fun a ha b hb e => by simp at hb; subst hb; subst e; exact h ha⟩
theorem uniq_head (f : Nat → List Int) (m : Nat) : (uniq f (m + 1))[0]? = some (f 0) := by
  induction m with
  | zero => simp [uniq]
  | succ m ih =>
    rw [show uniq f (m + 1 + 1) = if f (m + 1) ∈ uniq f (m + 1) then uniq f (m + 1) else uniq f (m + 1) ++ [f (m + 1)] from rfl]
    split
    · exact ih
    · rw [List.getElem?_append_left (by have := (List.getElem?_eq_some_iff.1 ih).1; exact this)]
      exact ih
theorem nodup_at {L : List (List Int)} (h : L.Nodup) {i j : Nat} {x : List Int} (hi : L[i]? = some x) (hj : L[j]? = some x) : i = j := by
  obtain ⟨h1, e1⟩ := List.getElem?_eq_some_iff.1 hi
  obtain ⟨h2, e2⟩ := List.getElem?_eq_some_iff.1 hj
  rcases Nat.lt_trichotomy i j with hl | rfl | hl
  · exact (List.pairwise_iff_getElem.1 h i j h1 h2 hl (e1.trans e2.symm)).elim
  · rfl
  · exact (List.pairwise_iff_getElem.1 h j i h2 h1 hl (e2.trans e1.symm)).elim
theorem nodup_take {L : List (List Int)} (h : L.Nodup) {i : Nat} {x : List Int} (hi : L[i]? = some x) : ¬ x ∈ L.take i := fun hx => by
  obtain ⟨j, hj⟩ := List.getElem?_of_mem hx
  have hlt := (List.getElem?_eq_some_iff.1 hj).1
  rw [List.getElem?_take_of_lt (by simp at hlt; omega)] at hj
  have := nodup_at h hi hj
  simp at hlt
  omega
/-- The mask of what is kept. -/
def msk (kf : Nat → Bool) : Nat → Nat
  | 0 => 0
  | n + 1 => msk kf n + if kf n = true then 2 ^ n else 0
theorem msk_lt (kf : Nat → Bool) (n : Nat) : msk kf n < 2 ^ n := by
  induction n with
  | zero => simp [msk]
  | succ n ih =>
    unfold msk
    rw [Nat.pow_succ]
    split <;> omega
theorem msk_bit (kf : Nat → Bool) {n k : Nat} (hk : k < n) : (msk kf n / 2 ^ k % 2 = 1) ↔ kf k = true := by
  induction n with
  | zero => omega
  | succ n ih =>
    unfold msk
    by_cases e : k = n
    · subst e
      have hl := msk_lt kf k
      split
      · next h =>
        rw [Nat.add_div_right _ (Nat.pow_pos (by decide)), Nat.div_eq_of_lt hl]
        simp [h]
      · next h =>
        rw [Nat.add_zero, Nat.div_eq_of_lt hl]
        simp [h]
    · have hkn : k < n := by omega
      split
      · have e2 : 2 ^ n = 2 ^ k * (2 * 2 ^ (n - k - 1)) := by
          rw [← Nat.mul_assoc, ← Nat.pow_succ, ← Nat.pow_add]
          congr 1
          omega
        rw [e2, Nat.add_mul_div_left _ _ (Nat.pow_pos (by decide)), Nat.add_mul_mod_self_left]
        exact ih hkn
      · rw [Nat.add_zero]
        exact ih hkn
theorem keep_img {D : List Int} {P : List (Int × List Int)} (kf : Nat → Bool) : keepK D P kf P.length = img D P (msk kf P.length) := by
  have key : ∀ k, k ≤ P.length → keepK D P kf k = imgK D P (msk kf P.length) k := by
    intro k
    induction k with
    | zero => intro _; rfl
    | succ k ih =>
      intro hk
      obtain ⟨p, hp⟩ : ∃ p, P[k]? = some p := ⟨_, List.getElem?_eq_getElem (by omega)⟩
      by_cases h : kf k = true
      · rw [keepK_yes hp h, imgK_yes hp ((msk_bit kf (by omega)).2 h), ih (by omega)]
      · rw [keepK_no (by simpa using h), imgK_no (fun e => h ((msk_bit kf (by omega)).1 e)), ih (by omega)]
  exact key _ (Nat.le_refl _)
theorem img_zero (D : List Int) (P : List (Int × List Int)) : img D P 0 = D := by
  have key : ∀ k, imgK D P 0 k = D := by
    intro k
    induction k with
    | zero => rfl
    | succ k ih => rw [imgK_no (by simp), ih]
  exact key _
theorem errno_sets {D : List Int} {P : List (Int × List Int)} {N : Nat} (hD : D.length = 512 * N) (h1 : 1 ≤ N) (h6 : N ≤ 6) (hok : Ok N P) (h8 : P.length ≤ 8) : errno D.length P = 0 := by
  have e : D.length / 512 = N := by omega
  have e2 : fault N P = none := fault_none.2 hok
  have h2 : 2 ^ P.length ≤ 256 := Nat.le_trans (Nat.pow_le_pow_right (by omega) h8) (by decide)
  have h3 : N * 2 ^ P.length ≤ 6 * 256 := Nat.mul_le_mul h6 h2
  unfold errno
  rw [e, if_neg (by omega), e2]
  simp only
  rw [if_neg (by omega)]
theorem images_ok {D : List Int} {P : List (Int × List Int)} (h : errno D.length P = 0) : images D P = uniq (img D P) (2 ^ P.length) := by
  unfold images
  rw [if_pos h]
theorem keepK_byts {D : List Int} {P : List (Int × List Int)} (hD : Byts D) (hP : ∀ p ∈ P, Byts p.2) (kf : Nat → Bool) (k : Nat) : Byts (keepK D P kf k) := by
  induction k with
  | zero => exact hD
  | succ k ih =>
    unfold keepK
    split
    · exact ih
    · next p hp =>
      split
      · exact byts_put ih (hP p (List.mem_of_getElem? hp))
      · exact ih
/-- What ExploreSets asks of the images. -/
structure Sets (D : List Int) (P : List (Int × List Int)) (L : List (List Int)) : Prop where
  nodup : L.Nodup
  head : L[0]? = some D
  has : ∀ m, m < 2 ^ P.length → img D P m ∈ L
  from_ : ∀ x ∈ L, ∃ m, m < 2 ^ P.length ∧ x = img D P m
  kept : ∀ kf, keepK D P kf P.length ∈ L
theorem sets_images {D : List Int} {P : List (Int × List Int)} (h : errno D.length P = 0) : Sets D P (images D P) := by
  rw [images_ok h]
  obtain ⟨q, hq⟩ : ∃ q, 2 ^ P.length = q + 1 := ⟨2 ^ P.length - 1, by have := Nat.pow_pos (n := P.length) (show 0 < 2 by decide); omega⟩
  refine ⟨uniq_nodup _ _, ?_, fun m hm => uniq_has _ hm, fun x hx => ?_, fun kf => ?_⟩
  · rw [hq, uniq_head, img_zero]
  · obtain ⟨i, hi, e⟩ := uniq_mem hx
    exact ⟨i, hi, e⟩
  · rw [keep_img]
    exact uniq_has _ (msk_lt kf _)
/-- The greatest place so far: each image of an earlier mask lies below it. -/
def Last (D : List Int) (P : List (Int × List Int)) (L : List (List Int)) (m la : Nat) : Prop := la ≤ L.length ∧ ∀ m' i, m' < m → L[i]? = some (img D P m') → i + 1 ≤ la
theorem Last.next {D : List Int} {P : List (Int × List Int)} {L : List (List Int)} {m la j : Nat} (h : Last D P L m la) (hn : L.Nodup) (hj : L[j]? = some (img D P m)) : Last D P L (m + 1) (max la (j + 1)) := by
  refine ⟨?_, fun m' i hm hi => ?_⟩
  · have := (List.getElem?_eq_some_iff.1 hj).1
    have := h.1
    omega
  · by_cases e : m' = m
    · subst e
      have := nodup_at hn hi hj
      omega
    · have := h.2 m' i (by omega) hi
      omega
theorem Last.full {D : List Int} {P : List (Int × List Int)} {L : List (List Int)} {la : Nat} (hs : Sets D P L) (h : Last D P L (2 ^ P.length) la) : la = L.length := by
  have h1 := h.1
  have h0 : 0 < L.length := (List.getElem?_eq_some_iff.1 hs.head).1
  obtain ⟨x, hx⟩ : ∃ x, L[L.length - 1]? = some x := ⟨_, List.getElem?_eq_getElem (by omega)⟩
  obtain ⟨m, hm, rfl⟩ := hs.from_ x (List.mem_of_getElem? hx)
  have := h.2 m _ hm hx
  omega
end Go.Proofs.Ytekgdlpicgibhab.EX
