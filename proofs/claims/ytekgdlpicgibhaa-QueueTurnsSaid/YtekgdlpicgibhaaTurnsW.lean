/-
  QueueTurns: what waits, in memory, beside the queue. No program walked.
-/
import Derived.Test.YtekgdlpicgibhaaQ6
import Derived.Test.YtekgdlpicgibhaaTurnsM
namespace Go.Proofs.Ytekgdlpicgibhaa.Turns
open Go.RowKit Go.Proofs.YtekgdlpicgibhaaW.PrintWords Go.Proofs.Ytekgdlpicgibhaa.QQ Go.Proofs.Ytekgdlpicgibhaa.QI

theorem bound_nat (x m : Int) (w : World) (h1 : 1 ≤ m) (h2 : m ≤ 4096) : Calls Try.prog 12 #[.int .i64 x, .int .i64 m] w fun e w' => ∃ n : Nat, 1 ≤ n ∧ (n : Int) ≤ m ∧ e = .returned (.int .i64 (n : Int)) ∧ w = w' := by
  refine (bound_ok x m w h1 h2).mono ?_
  rintro e w' ⟨rfl, rfl⟩
  have a := Int.emod_nonneg x (show m ≠ 0 by omega)
  have b := Int.emod_lt_of_pos x (show 0 < m by omega)
  exact ⟨(1 + x % m).toNat, by omega, by omega, ret_int (by omega), rfl⟩
theorem add_block (a : Addr) (k : Nat) : (a.add k).block = a.block := by
  unfold Addr.add
  split <;> rfl

/-- One that waits, in memory: three numbers. -/
def kI : Kd It := Kd.iso (Kd.pair (Kd.int .i64) (Kd.pair (Kd.int .i64) (Kd.int .i64))) (fun x : It => ((x.c : Int), x.v, x.left))
def cellsI (x : It) : List Value := [.int .i64 (x.c : Int), .int .i64 x.v, .int .i64 x.left]
theorem kI_openM {w : World} {base : Nat} {ok : Nat → Prop} {x : It} {cs : List Value} (h : kI.M w base ok x cs) : cs = cellsI x := by
  obtain ⟨_, _, rfl, rfl, ⟨_, _, rfl, rfl, rfl⟩⟩ := h
  rfl
theorem kI_mkM (w : World) (base : Nat) (ok : Nat → Prop) (x : It) : kI.M w base ok x (cellsI x) := ⟨[.int .i64 (x.c : Int)], [.int .i64 x.v, .int .i64 x.left], rfl, rfl, ⟨[.int .i64 x.v], [.int .i64 x.left], rfl, rfl, rfl⟩⟩
theorem info43 : (Try.prog.info? 43).map (fun i => (i.zero, i.size, i.bytes)) = some (some (.agg #[.int .i64 0, .int .i64 0, .int .i64 0]), 3, 24) := by kernel_rfl

/-- The list's row. -/
def RI (w : World) (b : Nat) (v : Value) (W : List It) : Prop := kI.R 43 w b (fun _ => True) v W
theorem RI.nil (w : World) (b : Nat) : RI w b (.slice none 0 0) [] := Kd.R_nil _ _ _ _ _
theorem RI.shape {w : World} {b : Nat} {v : Value} {W : List It} (h : RI w b v W) : ∃ A c, v = .slice A W.length c := Kd.R_slice h
theorem RI.lt {w : World} {b : Nat} {v : Value} {W : List It} (h : RI w b v W) : ∀ k, v.ownBlock = some k → k < w.heap.size := Kd.R_lt h
theorem RI.lower {w : World} {b b' : Nat} {v : Value} {W : List It} (h : RI w b v W) (hb : b' ≤ b) : RI w b' v W := Kd.R_lower h hb
theorem RI.keep {w w1 : World} {b : Nat} {v : Value} {W : List It} (h : RI w b v W) (hk : ∀ k, v.ownBlock = some k → w1.heap[k]? = w.heap[k]?) : RI w1 b v W :=
  Kd.R_mono (Kd.R_step (Kd.R_tight rfl h) (fun k hk' _ => hk k hk'.symm)) (fun _ _ => trivial)
theorem RI.below {w w1 : World} {b : Nat} {v : Value} {W : List It} (h : RI w b v W) (hb : Below w.heap.size w w1) : RI w1 b v W := Kd.R_below h hb
theorem RI.cell {w : World} {b : Nat} {A : Option Addr} {n c : Nat} {W : List It} (h : RI w b (.slice A n c) W) (j : Nat) (x : It) (hx : W[j]? = some x) :
    ∃ ad, A = some ad ∧ w.cell? (ad.add (j * 3)) = some (.int .i64 (x.c : Int)) ∧ w.cell? (ad.add (j * 3 + 1)) = some (.int .i64 x.v) ∧ w.cell? (ad.add (j * 3 + 2)) = some (.int .i64 x.left) := by
  obtain ⟨hn, _, hC⟩ := Kd.R_reads' h
  have hj : j < W.length := (List.getElem?_eq_some_iff.1 hx).1
  obtain ⟨ad, cs, hA, _, hK, hc⟩ := Kd.C_get hC x (j : Int) (by omega) (by omega)
  simp only [Int.toNat_natCast] at hK hc
  rw [List.getD_eq_getElem?_getD, hx] at hK
  obtain ⟨_, _, rfl, rfl, ⟨_, _, rfl, rfl, rfl⟩⟩ := hK
  exact ⟨ad, hA, hc 0 _ rfl, hc 1 _ rfl, hc 2 _ rfl⟩

/-- The queue, and the list of what waits, apart. -/
def TSt (w0 w : World) (qb : Nat) (q : QM Int) (v : Value) (W : List It) : Prop :=
  ∃ B S, w0.heap.size ≤ B ∧ B ≤ w.heap.size ∧ (∀ k, S k → B ≤ k) ∧ QIn w B S qb q ∧ q.Wf ∧ Below w0.heap.size w0 w ∧ RI w w0.heap.size v W ∧ ∀ k, v.ownBlock = some k → ¬ S k
theorem TSt.of_st {w0 w : World} {qb : Nat} {q : QM Int} (h : St w0 w qb q) : TSt w0 w qb q (.slice none 0 0) [] := by
  obtain ⟨B, h1, h2, h3, h4, h5⟩ := h
  exact ⟨B, _, h1, h2, fun _ h => h, h3, h4, h5, RI.nil _ _, fun k hk => by simp [Value.ownBlock] at hk⟩
theorem TSt.wf {w0 w : World} {qb : Nat} {q : QM Int} {v : Value} {W : List It} (h : TSt w0 w qb q v W) : q.Wf := by
  obtain ⟨B, S, _, _, _, _, h, _⟩ := h; exact h
theorem TSt.below {w0 w : World} {qb : Nat} {q : QM Int} {v : Value} {W : List It} (h : TSt w0 w qb q v W) : Below w0.heap.size w0 w := by
  obtain ⟨B, S, _, _, _, _, _, h, _⟩ := h; exact h
theorem TSt.shape {w0 w : World} {qb : Nat} {q : QM Int} {v : Value} {W : List It} (h : TSt w0 w qb q v W) : ∃ A c, v = .slice A W.length c := by
  obtain ⟨B, S, _, _, _, _, _, _, h, _⟩ := h
  exact h.shape
theorem TSt.row {w0 w : World} {qb : Nat} {q : QM Int} {v : Value} {W : List It} (h : TSt w0 w qb q v W) : RI w w0.heap.size v W := by
  obtain ⟨B, S, _, _, _, _, _, _, h, _⟩ := h
  exact h
theorem TSt.push {w0 w : World} {qb : Nat} {q : QM Int} {v : Value} {W : List It} (h : TSt w0 w qb q v W) (c x : Int) {r : Int} {q' : QM Int} (he : q.push c x = (r, q')) :
    Calls Try.prog 19 #[.pointer (some ⟨qb, 0, none⟩), .int .i64 c, .int .i64 x] w fun e w' => e = .returned (.int .i64 r) ∧ TSt w0 w' qb q' v W := by
  obtain ⟨B, S, h1, h2, h3, h4, h5, h6, h7, h8⟩ := h
  have hw := QM.push_wf h5 c x
  refine (push_any h4 h5 h2 c x).mono ?_
  rintro e w' ⟨rfl, hl⟩
  rw [he] at hl hw ⊢
  refine ⟨rfl, ?_⟩
  obtain ⟨hq, ho⟩ := hl
  have hb : Below B w w' := ho.below h2 h3
  refine ⟨B, Grow S w, h1, Nat.le_trans h2 ho.size, fun k hk => hk.elim (h3 k) (fun h => Nat.le_trans h2 h), hq, hw, h6.trans (hb.mono h1), h7.keep (fun k hk => ho.block k (h7.lt k hk) (h8 k hk)), fun k hk hs => ?_⟩
  have := h7.lt k hk
  rcases hs with hs | hs
  · exact h8 k hk hs
  · omega
theorem TSt.pop {w0 w : World} {qb : Nat} {q : QM Int} {v : Value} {W : List It} (h : TSt w0 w qb q v W) {r : Option (Nat × Int)} {q' : QM Int} (he : q.pop = (r, q')) :
    Calls Try.prog 18 #[.pointer (some ⟨qb, 0, none⟩)] w fun e w' => e = .returned (popValue r) ∧ TSt w0 w' qb q' v W := by
  obtain ⟨B, S, h1, h2, h3, h4, h5, h6, h7, h8⟩ := h
  have hw := QM.pop_wf h5
  refine (pop_any h4 h5 h2).mono ?_
  rintro e w' ⟨rfl, hl⟩
  rw [he] at hl hw ⊢
  refine ⟨rfl, ?_⟩
  obtain ⟨hq, ho⟩ := hl
  have hb : Below B w w' := ho.below h2 h3
  refine ⟨B, Grow S w, h1, Nat.le_trans h2 ho.size, fun k hk => hk.elim (h3 k) (fun h => Nat.le_trans h2 h), hq, hw, h6.trans (hb.mono h1), h7.keep (fun k hk => ho.block k (h7.lt k hk) (h8 k hk)), fun k hk hs => ?_⟩
  have := h7.lt k hk
  rcases hs with hs | hs
  · exact h8 k hk hs
  · omega
theorem TSt.total {w0 w : World} {qb : Nat} {q : QM Int} {v : Value} {W : List It} (h : TSt w0 w qb q v W) :
    Calls Try.prog 20 #[.pointer (some ⟨qb, 0, none⟩)] w fun e w' => e = .returned (.int .i64 (q.total : Int)) ∧ w = w' := by
  obtain ⟨B, S, h1, h2, h3, h4, h5, h6, h7, h8⟩ := h
  exact total_any h4
theorem TSt.later {w0 w w' : World} {qb : Nat} {q : QM Int} {v : Value} {W : List It} (h : TSt w0 w qb q v W) (hb : Below w.heap.size w w') : TSt w0 w' qb q v W := by
  obtain ⟨B, S, h1, h2, h3, h4, h5, h6, h7, h8⟩ := h
  exact ⟨B, S, h1, Nat.le_trans h2 hb.size, h3, h4.below hb, h5, h6.trans (hb.mono (Nat.le_trans h1 h2)), h7.below hb, h8⟩
/-- What waits has been written, or made anew. -/
theorem TSt.wrote {w0 w w' : World} {qb : Nat} {q : QM Int} {v v1 : Value} {W W1 : List It} (h : TSt w0 w qb q v W) (hg : w.grownBy w' v.ownBlock) (hat : v1.ownBlock = v.ownBlock ∨ ∃ b, v1.ownBlock = some b ∧ w.heap.size ≤ b) (hR : RI w' w0.heap.size v1 W1) : TSt w0 w' qb q v1 W1 := by
  obtain ⟨B, S, h1, h2, h3, h4, h5, h6, h7, h8⟩ := h
  have ho := Only.of_grown hg
  have hb : Below w0.heap.size w0 w' := h6.grown hg (Nat.le_trans h1 h2) (fun k hk => Kd.R_base h7 k hk)
  refine ⟨B, _, h1, Nat.le_trans h2 ho.size, fun k hk => h3 k hk.1, (h4.bound).move ho (fun k hk e => h8 k e.symm hk.1), h5, hb, hR, fun k hk hs => ?_⟩
  rcases hat with hat | ⟨b, hb1, hb2⟩
  · exact h8 k (by rw [← hat]; exact hk) hs.1
  · rw [hb1] at hk
    cases hk
    omega
/-- Another list of its own, made since w, is what waits now. -/
theorem TSt.swap {w0 w w' : World} {qb : Nat} {q : QM Int} {v v1 : Value} {W W1 : List It} (h : TSt w0 w qb q v W) (hb : Below w.heap.size w w') (hR : RI w' w.heap.size v1 W1) : TSt w0 w' qb q v1 W1 := by
  obtain ⟨B, S, h1, h2, h3, h4, h5, h6, h7, h8⟩ := h
  refine ⟨B, _, h1, Nat.le_trans h2 hb.size, fun k hk => h3 k hk.1, h4.bound.below hb, h5, h6.trans (hb.mono (Nat.le_trans h1 h2)), hR.lower (Nat.le_trans h1 h2), fun k hk hs => ?_⟩
  have := Kd.R_base hR k hk
  omega
/-- Which Push says yes. -/
theorem push_case {n p : Nat} {W : List It} {q : QM Int} (h : Inv n W q) (hp : q.places = p) {c : Nat} (hc : c < n) (v : Int) :
    (num W c < p ∧ q.push c v = (0, q.pushed c v)) ∨ (p ≤ num W c ∧ ∃ r : Int, r ≠ 0 ∧ q.push c v = (r, q)) := by
  have hl := inv_num h hc
  have h1 : ¬ ((c : Int) < 0 ∨ (q.rows.length : Int) ≤ c) := by have := h.len; omega
  rw [QM.push, if_neg h1]
  by_cases hf : q.places ≤ (q.row (c : Int).toNat).length
  · rw [if_pos hf]
    refine .inr ⟨by rw [Int.toNat_natCast] at hf; omega, _, ?_, rfl⟩
    decide
  · rw [if_neg hf]
    refine .inl ⟨by rw [Int.toNat_natCast] at hf; omega, by simp⟩
end Go.Proofs.Ytekgdlpicgibhaa.Turns
