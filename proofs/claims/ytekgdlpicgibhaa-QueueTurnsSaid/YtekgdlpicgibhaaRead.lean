/-
  Slices that came in, as rows that are read: whole numbers, texts.
-/
import Derived.Test.YtekgdlpicgibhaaWWords
import Derived.SizedLaws
import Derived.ChangeSlices
import Derived.SliceStrings
namespace Go.Proofs.YtekgdlpicgibhaaRead
open Go.ChangeShapes Go.WideShapes Go.RowKit Go.Proofs.YtekgdlpicgibhaaW.PrintWords

section
variable {H : Type} {enc : TypeId × Value → H} {P : Program} {W : World} {base : Nat} {t e : TypeId} {a : Option Addr} {len cap : Nat} {d : DataW H} {ps : List MemPlace} {ts : List TypeId} {ds : List (DataW H)} {j : Nat}

theorem read_ints {k : IntKind} (ht : P.underlying t = some (.slice e)) (he : P.underlying e = some (.int k)) (hc : P.cellsOf e = 1) {B : Nat} (hB : P.bytesOf e = B) (hsz : (DataW.weightsEach P ts ds).all (· ≤ reachBytes) = true) (hj : ts[j]? = some t) (hd : ds[j]? = some d)
    (h : DataW.Trod enc P W base (fun _ => true) true t (.slice a len cap) d ps) :
    ∃ xs : List Int, ReadsOf (Value.int k) 0 W a len xs ∧ (∀ x, x ∈ xs → (Lit.int k x).wf = true) ∧ len * B ≤ 140737488351232 := by
  obtain ⟨fuel, hf⟩ := h
  rcases open_ints ht he hc hf with ⟨hcs, _⟩ | ⟨x, l, c, zs, hcs, _, hl, hm, hz, hx, hcell, hwf⟩
  · simp [Value.cells] at hcs
    obtain ⟨rfl, rfl, rfl⟩ := hcs
    exact ⟨[], ⟨rfl, by simp, fun h => absurd h (Nat.lt_irrefl 0)⟩, by simp, by simp⟩
  · simp [Value.cells] at hcs
    obtain ⟨rfl, rfl, rfl⟩ := hcs
    obtain ⟨hx, _⟩ := Prod.mk.inj hx
    subst hx
    have z := sized_slice hsz hj hd ht
    rw [hB] at z
    have hl2 : len ≤ zs.length := by rw [hz]; simpa using hl
    refine ⟨zs.take len, ⟨by rw [List.length_take]; omega, by simp only [maxLen] at hm; omega, fun _ => ⟨x, rfl, fun i hi => ?_⟩⟩, fun y hy => hwf y (List.mem_of_mem_take hy), ?_⟩
    · rw [hcell i (by omega)]
      simp [List.getD_eq_getElem?_getD, hi]
    · refine Nat.le_trans (Nat.mul_le_mul_right _ ?_) z
      simp [lits]
      omega
theorem read_strs (ht : P.underlying t = some (.slice e)) (he : P.underlying e = some .string) (hc : P.cellsOf e = 1) {B : Nat} (hB : P.bytesOf e = B) (hsz : (DataW.weightsEach P ts ds).all (· ≤ reachBytes) = true) (hj : ts[j]? = some t) (hd : ds[j]? = some d)
    (h : DataW.Trod enc P W base (fun _ => true) true t (.slice a len cap) d ps) :
    ∃ xs : List ByteArray, ReadsOf Value.string ByteArray.empty W a len xs ∧ len * B ≤ 140737488351232 := by
  obtain ⟨fuel, hf⟩ := h
  rcases open_strings ht he hc hf with ⟨hcs, _⟩ | ⟨x, l, c, zs, hcs, _, hl, hm, hz, hx, hcell, _⟩
  · simp [Value.cells] at hcs
    obtain ⟨rfl, rfl, rfl⟩ := hcs
    exact ⟨[], ⟨rfl, by simp, fun h => absurd h (Nat.lt_irrefl 0)⟩, by simp⟩
  · simp [Value.cells] at hcs
    obtain ⟨rfl, rfl, rfl⟩ := hcs
    obtain ⟨hx, _⟩ := Prod.mk.inj hx
    subst hx
    have z := sized_slice hsz hj hd ht
    rw [hB] at z
    have hl2 : len ≤ zs.length := by rw [hz]; simpa using hl
    refine ⟨zs.take len, ⟨by rw [List.length_take]; omega, by simp only [maxLen] at hm; omega, fun _ => ⟨x, rfl, fun i hi => ?_⟩⟩, ?_⟩
    · rw [hcell i (by omega)]
      simp [List.getD_eq_getElem?_getD, hi]
    · refine Nat.le_trans (Nat.mul_le_mul_right _ ?_) z
      simp [strs]
      omega
end
end Go.Proofs.YtekgdlpicgibhaaRead
