/-
  Memory: what has turned; rows of bytes of one's own; an append that keeps the old row.
-/
import Derived.Test.YtekgdlpicgibhabProg
import Derived.Test.YtekgdlpicgibhabWWords
import Derived.Test.YtekgdlpicgibhabWLast
import Derived.Test.YtekgdlpicgibhabWApart
import Derived.WalkKit
import Derived.Lib.Hide
import Derived.BigQuiet
import Derived.Deep.QuietTactic
import Derived.Deep.RegionHeld3
import Derived.Deep.RegionLaw
import Derived.Lib.SliceRun
import Derived.WalkSpells
namespace Go.Proofs.Ytekgdlpicgibhab.EX
open Go.RowKit Go.Proofs.YtekgdlpicgibhabW.PrintWords

/-- Blocks in S alone have turned; new blocks may have come. -/
structure Only (S : Nat → Prop) (w w' : World) : Prop where
  os : w'.os = w.os
  tape : w'.tape = w.tape
  output : w'.output = w.output
  size : w.heap.size ≤ w'.heap.size
  block : ∀ k, k < w.heap.size → ¬ S k → w'.heap[k]? = w.heap[k]?

theorem Only.refl (S : Nat → Prop) (w : World) : Only S w w := ⟨rfl, rfl, rfl, Nat.le_refl _, fun _ _ _ => rfl⟩
theorem Only.mono {S S' : Nat → Prop} {w w' : World} (h : Only S w w') (hs : ∀ k, S k → S' k) : Only S' w w' := ⟨h.os, h.tape, h.output, h.size, fun k hk hn => h.block k hk (fun hh => hn (hs k hh))⟩
theorem Only.trans {S S' : Nat → Prop} {w w1 w2 : World} (h : Only S w w1) (h' : Only S' w1 w2) (hs : ∀ k, S' k → S k ∨ w.heap.size ≤ k) : Only S w w2 :=
  ⟨h'.os.trans h.os, h'.tape.trans h.tape, h'.output.trans h.output, Nat.le_trans h.size h'.size, fun k hk hn =>
    (h'.block k (Nat.lt_of_lt_of_le hk h.size) (fun hh => (hs k hh).elim hn (fun hh => by omega))).trans (h.block k hk hn)⟩
theorem Only.below {S : Nat → Prop} {w w' : World} {B : Nat} (h : Only S w w') (hB : B ≤ w.heap.size) (hs : ∀ k, S k → B ≤ k) : Below B w w' :=
  ⟨h.os, h.tape, h.output, h.size, fun k hk => h.block k (by omega) (fun hh => by have := hs k hh; omega)⟩
theorem Only.of_below {w w' : World} (h : Below w.heap.size w w') (S : Nat → Prop) : Only S w w' := ⟨h.os, h.tape, h.output, h.size, fun k hk _ => h.block k hk⟩
theorem Only.of_grown {w w' : World} {row : Option Nat} (h : w.grownBy w' row) : Only (fun k => some k = row) w w' := ⟨h.os, h.tape, h.output, h.size, fun k hk hn => h.block k hk hn⟩
theorem Only.setCell (w : World) (p : Addr) (u : Value) : Only (fun k => k = p.block) w (w.setCell p u) :=
  ⟨rfl, rfl, rfl, by simp, fun k _ hn => Below.heap_setCell w p u k hn⟩
theorem Only.drewN (w : World) (S : Nat → Prop) (n : Nat) : Only S w (w.drewN n) := ⟨rfl, rfl, rfl, Nat.le_refl _, fun _ _ _ => rfl⟩
theorem Only.alloc (w : World) (S : Nat → Prop) (o : Obj) : Only S w (w.alloc o) := Only.of_below (below_alloc (Below.refl _ _) o) S

theorem heap_lt_of {w : World} {k : Nat} {o : Obj} (h : w.heap[k]? = some o) : k < w.heap.size := (Array.getElem?_eq_some_iff.1 h).1
theorem cells_ne {w : World} {k k' : Nat} {a b : Array Value} {t t' : Nat} {f f' : Nat × Nat} (h : w.heap[k]? = some (.cells a t f)) (h' : w.heap[k']? = some (.cells b t' f')) (hne : t ≠ t') : k ≠ k' := by
  rintro rfl
  rw [h] at h'
  injection h' with h'
  injection h' with _ h'
  exact hne h'

/-- Rows of bytes. -/
abbrev K : Kd Int := Kd.int .u8
abbrev byt : Int → Value := Value.int .u8
theorem info5 : (Try.prog.info? 5).map (fun i => (i.zero, i.size, i.bytes)) = some (some (.int .u8 0), 1, 1) := by kernel_rfl
theorem info24 : (Try.prog.info? 24).map (fun i => (i.zero, i.size, i.bytes)) = some (some (.slice none 0 0), 1, 24) := by kernel_rfl
def Rb (w : World) (b : Nat) (v : Value) (xs : List Int) : Prop := K.R 5 w b (fun _ => True) v xs
theorem Rb.keep {w w1 : World} {b : Nat} {v : Value} {xs : List Int} (h : Rb w b v xs) (hk : ∀ k, v.ownBlock = some k → w1.heap[k]? = w.heap[k]?) : Rb w1 b v xs :=
  Kd.R_mono (Kd.R_step (Kd.R_tight rfl h) (fun k hk' _ => hk k hk'.symm)) (fun _ _ => trivial)
theorem Rb.lt {w : World} {b : Nat} {v : Value} {xs : List Int} (h : Rb w b v xs) : ∀ k, v.ownBlock = some k → k < w.heap.size := Kd.R_lt h
theorem Rb.base {w : World} {b : Nat} {v : Value} {xs : List Int} (h : Rb w b v xs) : ∀ k, v.ownBlock = some k → b ≤ k := Kd.R_base h
theorem Rb.below {w w1 : World} {b : Nat} {v : Value} {xs : List Int} (h : Rb w b v xs) (hb : Below w.heap.size w w1) : Rb w1 b v xs := Kd.R_below h hb
theorem Rb.lower {w : World} {b b' : Nat} {v : Value} {xs : List Int} (h : Rb w b v xs) (hb : b' ≤ b) : Rb w b' v xs := Kd.R_lower h hb
/-- A slice that reads as those bytes. -/
def Rd (w : World) (v : Value) (xs : List Int) : Prop := ∃ A c, v = .slice A xs.length c ∧ ReadsOf byt 0 w A xs.length xs
theorem Rb.rd {w : World} {b : Nat} {v : Value} {xs : List Int} (h : Rb w b v xs) : Rd w v xs := by
  obtain ⟨A, c, e, _, hC⟩ := Kd.R_reads h
  exact ⟨A, c, e, Kd.reads_of_C hC⟩
theorem Rd.cells {w : World} {A : Option Addr} {n c : Nat} {xs : List Int} (h : Rd w (.slice A n c) xs) : n = xs.length ∧ ∀ k, k < n → ∃ ad, A = some ad ∧ ad.block < w.heap.size ∧ w.cell? (ad.add k) = some (.int .u8 (xs.getD k 0)) := by
  obtain ⟨A', c', e, hR⟩ := h
  cases e
  refine ⟨rfl, fun k hk => ?_⟩
  obtain ⟨ad, e, hc⟩ := hR.2.2 (by omega)
  refine ⟨ad, e, ?_, hc k hk⟩
  have := World.block_lt_of_cell? w _ (hc 0 (by omega))
  simpa [Addr.add] using this
theorem add_block (a : Addr) (k : Nat) : (a.add k).block = a.block := by
  unfold Addr.add
  split <;> rfl
theorem Rd.below {w w1 : World} {B : Nat} {v : Value} {xs : List Int} (h : Rd w v xs) (hB : w.heap.size ≤ B) (hb : Below B w w1) : Rd w1 v xs := by
  obtain ⟨A, c, e, h1, h2, h3⟩ := h
  refine ⟨A, c, e, h1, h2, fun hn => ?_⟩
  obtain ⟨ad, e', hc⟩ := h3 hn
  refine ⟨ad, e', fun j hj => ?_⟩
  have h4 := hc j hj
  have h5 := World.block_lt_of_cell? w _ h4
  exact (hb.cell (p := ad.add j) (by omega)).trans h4
/-- A copy in new memory. -/
def Copied (w : World) (xs : List Int) (e : Ending) (w' : World) : Prop := ∃ v, e = .returned v ∧ Rb w' w.heap.size v xs ∧ Below w.heap.size w w'

theorem own_shrink {w : World} {base g n cap : Nat} {e : TypeId} {xs ys : List Value} (h : w.ownsRow base e 1 (.slice (some ⟨g, 0, none⟩) (n + 1) cap) (n + 1) (xs ++ ys)) (hx : xs.length = n) : w.ownsRow base e 1 (.slice (some ⟨g, 0, none⟩) n cap) n xs := by
  obtain ⟨h1, h2 | ⟨g', cap', cur, hv, hb, hg, h3, h4, h5, h6⟩⟩ := h
  · cases h2.1
  · cases hv
    refine ⟨by omega, .inr ⟨g, cap, cur, rfl, hb, hg, by omega, h4, h5, ?_⟩⟩
    have := congrArg (List.take n) h6
    rw [List.take_take, ← hx, List.take_left] at this
    rw [← this, ← hx]
    congr 1
    omega
/-- Every cell of y is one still. -/
def Stay (y : Value) (w w1 : World) : Prop := ∀ p, w.cell? p = some y → w1.cell? p = some y
theorem stay_setRow {w : World} {g n : Nat} {cur : Array Value} {e : TypeId} {y : Value} (hg : w.heap[g]? = some (.cells cur e (0, 0))) (hn : n < cur.size) : Stay y w (w.setRow g (cur.toList.take n ++ [y] ++ cur.toList.drop (n + 1)).toArray) := by
  intro p hp
  by_cases h : p.block = g
  · have h1 := setRow_heap w g cur (cur.toList.take n ++ [y] ++ cur.toList.drop (n + 1)).toArray e (0, 0) hg
    unfold World.cell? at hp ⊢
    rw [h] at hp ⊢
    rw [hg] at hp
    rw [h1]
    by_cases hs : p.spot.isSome = true
    · simp [hs] at hp
    simp only [hs, if_false, Bool.false_eq_true] at hp ⊢
    simp only [List.getElem?_toArray] at hp ⊢
    have hlt := (Array.getElem?_eq_some_iff.1 hp).1
    by_cases e1 : p.off < n
    · rw [List.append_assoc, List.getElem?_append_left (by simp; omega), List.getElem?_take_of_lt e1]
      simpa using hp
    · by_cases e2 : p.off = n
      · rw [List.append_assoc, List.getElem?_append_right (by simp; omega)]
        simp [e2, Nat.min_eq_left (Nat.le_of_lt hn)]
      · rw [List.getElem?_append_right (by simp; omega)]
        have e3 : (cur.toList.take n ++ [y]).length = n + 1 := by simp; omega
        rw [e3, List.getElem?_drop]
        have e4 : n + 1 + (p.off - (n + 1)) = p.off := by omega
        rw [e4]
        simpa using hp
  · rw [World.cell?_of_block (setRow_other w g p.block _ h)]
    exact hp
theorem run_append_keep {P : Program} (w : World) (base : Nat) (t ty e : TypeId) (k : IntKind) (bytes : Nat) (ht : P.underlying t = some (.slice e)) (hinfo : (P.info? e).map (fun i => (i.zero, i.size, i.bytes)) = some (some (.int k 0), 1, bytes))
    (v : Value) (xs : List Value) (y : Int) (hown : w.ownsRow base e 1 v xs.length xs) (ad : Addr) (hc : w.cell? ad = some (.int k y)) (h63 : xs.length + 1 ≤ maxLen) (hbytes : (xs.length + 1) * bytes ≤ 140737488355328) (hbase : base ≤ w.heap.size) :
    ∃ v1 w1, (Builtin.append_ #[t, t] ty #[v, .slice (some ad) 1 1]).run P w = .ok v1 w1 ∧ w1.ownsRow base e 1 v1 (xs.length + 1) (xs ++ [.int k y]) ∧ w1.ownsRow base e 1 v xs.length xs ∧ w.grownBy w1 v.ownBlock ∧ Stay (.int k y) w w1 ∧ (v1.ownBlock = v.ownBlock ∨ v1.ownBlock = some w.heap.size) := by
  obtain ⟨i0, hi, hz0, hz1, hz2⟩ := info_parts hinfo
  have hnews : ∀ j u, [Value.int k y][j]? = some u → w.cell? (ad.add j) = some u := by
    intro j u hj
    have hj0 : j = 0 := by have := (List.getElem?_eq_some_iff.1 hj).1; simp at this; exact this
    subst hj0
    simp at hj
    subst hj
    simpa [Addr.add] using hc
  have hone : ∀ u ∈ [Value.int k y], u.oneCell' = true := by intro u hu; rw [List.mem_singleton.1 hu]; rfl
  obtain ⟨v1, w1, hr, hown1, hg, _, hat⟩ := run_append_own_at (P := P) w base t ty e i0 (.int k 0) 1 bytes ht hi hz0 hz1 hz2 rfl (by decide) v xs.length xs hown ad 1 1 [.int k y] rfl hnews hone h63 hbytes hbase
  refine ⟨v1, w1, hr, hown1, ?_, hg, ?_, hat⟩
  all_goals
    rcases hown.2 with ⟨rfl, h0⟩ | ⟨g, cap, cur, rfl, hb, hcur, h3, h4, h5, h6⟩
  · obtain rfl : xs = [] := List.eq_nil_of_length_eq_zero h0
    exact World.ownsRow_nil _ _ _ _
  · by_cases hroom : xs.length + 1 ≤ cap
    · have hr2 := run_append_room (P := P) w t ty e i0 ht hi g xs.length cap cur hcur ad 1 1 [.int k y] (by rw [hz1]; rfl) hnews hone hroom (by rw [hz1, h5]; simp; omega)
      rw [hr] at hr2
      injection hr2 with e1 e2
      subst e1
      exact own_shrink hown1 rfl
    · obtain ⟨v2, w2, hr2, _, hg2⟩ := run_append_arg_grows (P := P) w t ty e i0 (.int k 0) 1 bytes ht hi hz0 hz1 hz2 rfl (by decide) ⟨g, 0, none⟩ xs.length cap xs (by simp) (fun j u hj => hown.cells rfl j u hj) ad 1 1 [.int k y] rfl hnews (by omega) h63 hbytes
      rw [hr] at hr2
      injection hr2 with e1 e2
      subst e2
      exact hown.kept hg2 (.inr (by simp [Value.ownBlock]))
  · intro p hp
    exact hg.cell hp (by simp [Value.ownBlock])
  · by_cases hroom : xs.length + 1 ≤ cap
    · have hr2 := run_append_room (P := P) w t ty e i0 ht hi g xs.length cap cur hcur ad 1 1 [.int k y] (by rw [hz1]; rfl) hnews hone hroom (by rw [hz1, h5]; simp; omega)
      rw [hr] at hr2
      injection hr2 with e1 e2
      subst e2
      rw [hz1]
      simpa using stay_setRow (n := xs.length) hcur (by rw [h5]; omega)
    · obtain ⟨v2, w2, hr2, _, hg2⟩ := run_append_arg_grows (P := P) w t ty e i0 (.int k 0) 1 bytes ht hi hz0 hz1 hz2 rfl (by decide) ⟨g, 0, none⟩ xs.length cap xs (by simp) (fun j u hj => hown.cells rfl j u hj) ad 1 1 [.int k y] rfl hnews (by omega) h63 hbytes
      rw [hr] at hr2
      injection hr2 with e1 e2
      subst e2
      intro p hp
      exact hg2.cell hp (by simp)
end Go.Proofs.Ytekgdlpicgibhab.EX
