/-
  An append of one number to a row of one's own: the old value owns its row still, and whatever cell held that number holds it still.
-/
import Derived.Test.YtekgdlpicgibhaaQ6
namespace Go.Proofs.Ytekgdlpicgibhaa.QI
open Go.RowKit Go.Proofs.YtekgdlpicgibhaaW.PrintWords Go.Proofs.Ytekgdlpicgibhaa.QQ

theorem own_shrink {w : World} {base g n cap : Nat} {e : TypeId} {xs ys : List Value} (h : w.ownsRow base e 1 (.slice (some ⟨g, 0, none⟩) (n + 1) cap) (n + 1) (xs ++ ys)) (hx : xs.length = n) : w.ownsRow base e 1 (.slice (some ⟨g, 0, none⟩) n cap) n xs := by
  obtain ⟨h1, h2 | ⟨g', cap', cur, hv, hb, hg, h3, h4, h5, h6⟩⟩ := h
  · cases h2.1
  · cases hv
    refine ⟨by omega, .inr ⟨g, cap, cur, rfl, hb, hg, by omega, h4, h5, ?_⟩⟩
    have := congrArg (List.take n) h6
    rw [List.take_take, ← hx, List.take_left] at this
    rw [← this, ← hx]
    congr 1
    omega
/-- Every cell of y is one still. -/
def Stay (y : Value) (w w1 : World) : Prop := ∀ p, w.cell? p = some y → w1.cell? p = some y
theorem stay_setRow {w : World} {g n : Nat} {cur : Array Value} {e : TypeId} {y : Value} (hg : w.heap[g]? = some (.cells cur e (0, 0))) (hn : n < cur.size) : Stay y w (w.setRow g (cur.toList.take n ++ [y] ++ cur.toList.drop (n + 1)).toArray) := by
  intro p hp
  by_cases h : p.block = g
  · have h1 := setRow_heap w g cur (cur.toList.take n ++ [y] ++ cur.toList.drop (n + 1)).toArray e (0, 0) hg
    unfold World.cell? at hp ⊢
    rw [h] at hp ⊢
    rw [hg] at hp
    rw [h1]
    by_cases hs : p.spot.isSome = true
    · simp [hs] at hp
    simp only [hs, if_false, Bool.false_eq_true] at hp ⊢
    simp only [List.getElem?_toArray] at hp ⊢
    have hlt := (Array.getElem?_eq_some_iff.1 hp).1
    by_cases e1 : p.off < n
    · rw [List.append_assoc, List.getElem?_append_left (by simp; omega), List.getElem?_take_of_lt e1]
      simpa using hp
    · by_cases e2 : p.off = n
      · rw [List.append_assoc, List.getElem?_append_right (by simp; omega)]
        simp [e2, Nat.min_eq_left (Nat.le_of_lt hn)]
      · rw [List.getElem?_append_right (by simp; omega)]
        have e3 : (cur.toList.take n ++ [y]).length = n + 1 := by simp; omega
        rw [e3, List.getElem?_drop]
        have e4 : n + 1 + (p.off - (n + 1)) = p.off := by omega
        rw [e4]
        simpa using hp
  · rw [World.cell?_of_block (setRow_other w g p.block _ h)]
    exact hp
theorem run_append_keep {P : Program} (w : World) (base : Nat) (t ty e : TypeId) (k : IntKind) (bytes : Nat) (ht : P.underlying t = some (.slice e)) (hinfo : (P.info? e).map (fun i => (i.zero, i.size, i.bytes)) = some (some (.int k 0), 1, bytes))
    (v : Value) (xs : List Value) (y : Int) (hown : w.ownsRow base e 1 v xs.length xs) (ad : Addr) (hc : w.cell? ad = some (.int k y)) (h63 : xs.length + 1 ≤ maxLen) (hbytes : (xs.length + 1) * bytes ≤ 140737488355328) (hbase : base ≤ w.heap.size) :
    ∃ v1 w1, (Builtin.append_ #[t, t] ty #[v, .slice (some ad) 1 1]).run P w = .ok v1 w1 ∧ w1.ownsRow base e 1 v1 (xs.length + 1) (xs ++ [.int k y]) ∧ w1.ownsRow base e 1 v xs.length xs ∧ w.grownBy w1 v.ownBlock ∧ Stay (.int k y) w w1 ∧ (v1.ownBlock = v.ownBlock ∨ v1.ownBlock = some w.heap.size) := by
  obtain ⟨i0, hi, hz0, hz1, hz2⟩ := info_parts hinfo
  have hnews : ∀ j u, [Value.int k y][j]? = some u → w.cell? (ad.add j) = some u := by
    intro j u hj
    have hj0 : j = 0 := by have := (List.getElem?_eq_some_iff.1 hj).1; simp at this; exact this
    subst hj0
    simp at hj
    subst hj
    simpa [Addr.add] using hc
  have hone : ∀ u ∈ [Value.int k y], u.oneCell' = true := by intro u hu; rw [List.mem_singleton.1 hu]; rfl
  obtain ⟨v1, w1, hr, hown1, hg, _, hat⟩ := run_append_own_at (P := P) w base t ty e i0 (.int k 0) 1 bytes ht hi hz0 hz1 hz2 rfl (by decide) v xs.length xs hown ad 1 1 [.int k y] rfl hnews hone h63 hbytes hbase
  refine ⟨v1, w1, hr, hown1, ?_, hg, ?_, hat⟩
  all_goals
    rcases hown.2 with ⟨rfl, h0⟩ | ⟨g, cap, cur, rfl, hb, hcur, h3, h4, h5, h6⟩
  · obtain rfl : xs = [] := List.eq_nil_of_length_eq_zero h0
    exact World.ownsRow_nil _ _ _ _
  · by_cases hroom : xs.length + 1 ≤ cap
    · have hr2 := run_append_room (P := P) w t ty e i0 ht hi g xs.length cap cur hcur ad 1 1 [.int k y] (by rw [hz1]; rfl) hnews hone hroom (by rw [hz1, h5]; simp; omega)
      rw [hr] at hr2
      injection hr2 with e1 e2
      subst e1
      exact own_shrink hown1 rfl
    · obtain ⟨v2, w2, hr2, _, hg2⟩ := run_append_arg_grows (P := P) w t ty e i0 (.int k 0) 1 bytes ht hi hz0 hz1 hz2 rfl (by decide) ⟨g, 0, none⟩ xs.length cap xs (by simp) (fun j u hj => hown.cells rfl j u hj) ad 1 1 [.int k y] rfl hnews (by omega) h63 hbytes
      rw [hr] at hr2
      injection hr2 with e1 e2
      subst e2
      exact hown.kept hg2 (.inr (by simp [Value.ownBlock]))
  · intro p hp
    exact hg.cell hp (by simp [Value.ownBlock])
  · by_cases hroom : xs.length + 1 ≤ cap
    · have hr2 := run_append_room (P := P) w t ty e i0 ht hi g xs.length cap cur hcur ad 1 1 [.int k y] (by rw [hz1]; rfl) hnews hone hroom (by rw [hz1, h5]; simp; omega)
      rw [hr] at hr2
      injection hr2 with e1 e2
      subst e2
      rw [hz1]
      simpa using stay_setRow (n := xs.length) hcur (by rw [h5]; omega)
    · obtain ⟨v2, w2, hr2, _, hg2⟩ := run_append_arg_grows (P := P) w t ty e i0 (.int k 0) 1 bytes ht hi hz0 hz1 hz2 rfl (by decide) ⟨g, 0, none⟩ xs.length cap xs (by simp) (fun j u hj => hown.cells rfl j u hj) ad 1 1 [.int k y] rfl hnews (by omega) h63 hbytes
      rw [hr] at hr2
      injection hr2 with e1 e2
      subst e2
      intro p hp
      exact hg2.cell hp (by simp)
end Go.Proofs.Ytekgdlpicgibhaa.QI
