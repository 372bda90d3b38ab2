/-
  The images as data: what a set of the pending writes makes of the lasting bytes; the first of each kept; two are the same just when they hold the same where something pends. Plain lists and numbers, no program.
-/
import Derived.Test.YtekgdlpicgibhabE6
namespace Go.Proofs.Ytekgdlpicgibhab.EX

/-- d laid over the block b. -/
def put (xs : List Int) (b : Nat) (d : List Int) : List Int := xs.take (512 * b) ++ d ++ xs.drop (512 * b + 512)
theorem put_len {xs d : List Int} {b : Nat} (hd : d.length = 512) (hb : 512 * b + 512 ≤ xs.length) : (put xs b d).length = xs.length := by
  simp [put]; omega
theorem put_same {xs d : List Int} {b : Nat} (hd : d.length = 512) (hb : 512 * b + 512 ≤ xs.length) : blk (put xs b d) b = d := by
  unfold blk put
  rw [List.append_assoc, List.drop_append_of_le_length (by simp; omega), List.drop_of_length_le (by rw [List.length_take]; omega), List.nil_append, List.take_append_of_le_length (by omega), List.take_of_length_le (by omega)]
theorem getElem?_put {xs d : List Int} {b j : Nat} (hd : d.length = 512) (hb : 512 * b + 512 ≤ xs.length) : (put xs b d)[j]? = if 512 * b ≤ j ∧ j < 512 * b + 512 then d[j - 512 * b]? else xs[j]? := by
  unfold put
  have hl : (xs.take (512 * b)).length = 512 * b := by rw [List.length_take]; omega
  by_cases h1 : j < 512 * b
  · rw [if_neg (by omega), List.append_assoc, List.getElem?_append_left (by omega), List.getElem?_take_of_lt h1]
  · by_cases h2 : j < 512 * b + 512
    · rw [if_pos ⟨by omega, h2⟩, List.append_assoc, List.getElem?_append_right (by omega), hl, List.getElem?_append_left (by omega)]
    · rw [if_neg (by omega), List.getElem?_append_right (by simp; omega), List.getElem?_drop]
      congr 1
      simp
      omega
theorem getElem?_blk (xs : List Int) (b j : Nat) : (blk xs b)[j]? = if j < 512 then xs[512 * b + j]? else none := by
  unfold blk
  by_cases h : j < 512
  · rw [if_pos h, List.getElem?_take_of_lt h, List.getElem?_drop]
  · rw [if_neg h]
    exact List.getElem?_eq_none (by rw [List.length_take]; omega)
theorem put_other {xs d : List Int} {b c : Nat} (hd : d.length = 512) (hb : 512 * b + 512 ≤ xs.length) (h : c ≠ b) : blk (put xs b d) c = blk xs c := by
  apply List.ext_getElem?
  intro j
  rw [getElem?_blk, getElem?_blk]
  by_cases hj : j < 512
  · rw [if_pos hj, if_pos hj, getElem?_put hd hb, if_neg (by
      rintro ⟨h1, h2⟩
      rcases Nat.lt_or_gt_of_ne h with h | h
      · have := Nat.mul_le_mul_left 512 (Nat.succ_le_of_lt h); omega
      · have := Nat.mul_le_mul_left 512 (Nat.succ_le_of_lt h); omega)]
  · rw [if_neg hj, if_neg hj]
theorem ext_blk {xs ys : List Int} {N : Nat} (hx : xs.length = 512 * N) (hy : ys.length = 512 * N) (h : ∀ b, b < N → blk xs b = blk ys b) : xs = ys := by
  apply List.ext_getElem?
  intro j
  by_cases hj : j < 512 * N
  · have e := congrArg (fun l => l[j % 512]?) (h (j / 512) (by omega))
    simp only [getElem?_blk] at e
    rw [if_pos (Nat.mod_lt _ (by omega)), if_pos (Nat.mod_lt _ (by omega)), Nat.div_add_mod] at e
    exact e
  · rw [List.getElem?_eq_none (by omega), List.getElem?_eq_none (by omega)]

/-- The lasting bytes with those of the first k writes whose bit is set in m. -/
def imgK (bs : List Int) (ps : List (Int × List Int)) (m : Nat) : Nat → List Int
  | 0 => bs
  | k + 1 => match ps[k]? with
    | none => imgK bs ps m k
    | some p => if m / 2 ^ k % 2 = 1 then put (imgK bs ps m k) p.1.toNat p.2 else imgK bs ps m k
def img (bs : List Int) (ps : List (Int × List Int)) (m : Nat) : List Int := imgK bs ps m ps.length
variable {bs : List Int} {ps : List (Int × List Int)} {N : Nat}
theorem imgK_len (hb : bs.length = 512 * N) (hok : Ok N ps) (m k : Nat) : (imgK bs ps m k).length = 512 * N := by
  induction k with
  | zero => exact hb
  | succ k ih =>
    unfold imgK
    split
    · exact ih
    · next p hp =>
      obtain ⟨h1, h2, h3⟩ := hok p (List.mem_of_getElem? hp)
      split
      · rw [put_len h3 (by rw [ih]; have : p.1.toNat + 1 ≤ N := by omega
                           have := Nat.mul_le_mul_left 512 this; omega)]
        exact ih
      · exact ih
theorem imgK_far (hb : bs.length = 512 * N) (hok : Ok N ps) (m k c : Nat) (hc : ∀ p ∈ ps, p.1.toNat ≠ c) : blk (imgK bs ps m k) c = blk bs c := by
  induction k with
  | zero => rfl
  | succ k ih =>
    unfold imgK
    split
    · exact ih
    · next p hp =>
      obtain ⟨h1, h2, h3⟩ := hok p (List.mem_of_getElem? hp)
      split
      · rw [put_other h3 (by rw [imgK_len hb hok]; have : p.1.toNat + 1 ≤ N := by omega
                             have := Nat.mul_le_mul_left 512 this; omega) (fun e => hc p (List.mem_of_getElem? hp) e.symm)]
        exact ih
      · exact ih
theorem img_len (hb : bs.length = 512 * N) (hok : Ok N ps) (m : Nat) : (img bs ps m).length = 512 * N := imgK_len hb hok m _
/-- Two images are the same just when they are alike where something pends. -/
theorem like_img (hb : bs.length = 512 * N) (hok : Ok N ps) (m1 m2 : Nat) : likeB (img bs ps m1) (img bs ps m2) ps = decide (img bs ps m1 = img bs ps m2) := by
  by_cases h : img bs ps m1 = img bs ps m2
  · rw [decide_eq_true h, h]
    simp [likeB]
  · rw [decide_eq_false h, Bool.eq_false_iff]
    intro h2
    refine h (ext_blk (img_len hb hok m1) (img_len hb hok m2) (fun b _ => ?_))
    by_cases hc : ∃ p ∈ ps, p.1.toNat = b
    · obtain ⟨p, hp, rfl⟩ := hc
      exact of_decide_eq_true (List.all_eq_true.1 h2 p hp)
    · have hc' : ∀ p ∈ ps, p.1.toNat ≠ b := fun p hp e => hc ⟨p, hp, e⟩
      unfold img
      rw [imgK_far hb hok _ _ _ hc', imgK_far hb hok _ _ _ hc']

/-- The first of each. -/
def uniq (f : Nat → List Int) : Nat → List (List Int)
  | 0 => []
  | m + 1 => if f m ∈ uniq f m then uniq f m else uniq f m ++ [f m]
theorem uniq_mem {f : Nat → List Int} {m : Nat} {x : List Int} (h : x ∈ uniq f m) : ∃ i, i < m ∧ x = f i := by
  induction m with
  | zero => cases h
  | succ m ih =>
    unfold uniq at h
    split at h
    · obtain ⟨i, h1, h2⟩ := ih h
      exact ⟨i, by omega, h2⟩
    · rcases List.mem_append.1 h with h | h
      · obtain ⟨i, h1, h2⟩ := ih h
        exact ⟨i, by omega, h2⟩
      · exact ⟨m, by omega, by simpa using h⟩
theorem uniq_len (f : Nat → List Int) (m : Nat) : (uniq f m).length ≤ m := by
  induction m with
  | zero => simp [uniq]
  | succ m ih =>
    unfold uniq
    split
    · omega
    · simp; omega

/-- What the writes are faulted for: the first that is no write of a block below N. -/
def fault (N : Nat) : List (Int × List Int) → Option Int
  | [] => none
  | p :: r => if p.1 < 0 ∨ (N : Int) ≤ p.1 then some 52 else if p.2.length ≠ 512 then some 53 else fault N r
theorem fault_none {N : Nat} {ps : List (Int × List Int)} : fault N ps = none ↔ Ok N ps := by
  induction ps with
  | nil => simp [fault, Ok]
  | cons p r ih =>
    unfold fault
    by_cases h1 : p.1 < 0 ∨ (N : Int) ≤ p.1
    · rw [if_pos h1]
      simp only [reduceCtorEq, false_iff]
      intro h
      have := h p (by simp)
      omega
    · rw [if_neg h1]
      by_cases h2 : p.2.length ≠ 512
      · rw [if_pos h2]
        simp only [reduceCtorEq, false_iff]
        intro h
        exact h2 (h p (by simp)).2.2
      · rw [if_neg h2, ih]
        constructor
        · intro h q hq
          rcases List.mem_cons.1 hq with rfl | hq
          · exact ⟨by omega, by omega, by omega⟩
          · exact h q hq
        · exact fun h q hq => h q (List.mem_cons_of_mem _ hq)
/-- The errno: the image's, a write's, too many. -/
def errno (n : Nat) (ps : List (Int × List Int)) : Int :=
  if ¬ (n % 512 = 0 ∧ 1 ≤ n / 512 ∧ n / 512 ≤ 4096) then 51 else
  match fault (n / 512) ps with
  | some e => e
  | none => if 8 < ps.length ∨ 131072 < n / 512 * 2 ^ ps.length then 261 else 0
/-- The images: none with an errno. -/
def images (bs : List Int) (ps : List (Int × List Int)) : List (List Int) := if errno bs.length ps = 0 then uniq (img bs ps) (2 ^ ps.length) else []
end Go.Proofs.Ytekgdlpicgibhab.EX
