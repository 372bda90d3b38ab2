/-
  A queue in memory: its struct, the block of its rows, each row a row of the call's own, no two of them one block. The laws by which an operation goes on from one such state to the next.
-/
import Derived.Test.YtekgdlpicgibhaaProg
import Derived.Test.YtekgdlpicgibhaaM
import Derived.Test.YtekgdlpicgibhaaWWords
import Derived.Test.YtekgdlpicgibhaaWLast
import Derived.Test.YtekgdlpicgibhaaWApart
import Derived.WalkKit
import Derived.Lib.Hide
namespace Go.Proofs.Ytekgdlpicgibhaa.QQ
open Go.RowKit Go.Proofs.YtekgdlpicgibhaaW.PrintWords

/-- Blocks in S alone have turned; new blocks may have come. -/
structure Only (S : Nat → Prop) (w w' : World) : Prop where
  os : w'.os = w.os
  tape : w'.tape = w.tape
  output : w'.output = w.output
  size : w.heap.size ≤ w'.heap.size
  block : ∀ k, k < w.heap.size → ¬ S k → w'.heap[k]? = w.heap[k]?

theorem Only.refl (S : Nat → Prop) (w : World) : Only S w w := ⟨rfl, rfl, rfl, Nat.le_refl _, fun _ _ _ => rfl⟩
theorem Only.mono {S S' : Nat → Prop} {w w' : World} (h : Only S w w') (hs : ∀ k, S k → S' k) : Only S' w w' := ⟨h.os, h.tape, h.output, h.size, fun k hk hn => h.block k hk (fun hh => hn (hs k hh))⟩
theorem Only.trans {S S' : Nat → Prop} {w w1 w2 : World} (h : Only S w w1) (h' : Only S' w1 w2) (hs : ∀ k, S' k → S k ∨ w.heap.size ≤ k) : Only S w w2 :=
  ⟨h'.os.trans h.os, h'.tape.trans h.tape, h'.output.trans h.output, Nat.le_trans h.size h'.size, fun k hk hn =>
    (h'.block k (Nat.lt_of_lt_of_le hk h.size) (fun hh => (hs k hh).elim hn (fun hh => by omega))).trans (h.block k hk hn)⟩
theorem Only.below {S : Nat → Prop} {w w' : World} {B : Nat} (h : Only S w w') (hB : B ≤ w.heap.size) (hs : ∀ k, S k → B ≤ k) : Below B w w' :=
  ⟨h.os, h.tape, h.output, h.size, fun k hk => h.block k (by omega) (fun hh => by have := hs k hh; omega)⟩
theorem Only.of_below {w w' : World} (h : Below w.heap.size w w') (S : Nat → Prop) : Only S w w' := ⟨h.os, h.tape, h.output, h.size, fun k hk _ => h.block k hk⟩
theorem Only.of_grown {w w' : World} {row : Option Nat} (h : w.grownBy w' row) : Only (fun k => some k = row) w w' := ⟨h.os, h.tape, h.output, h.size, fun k hk hn => h.block k hk hn⟩
theorem Only.setCell (w : World) (p : Addr) (u : Value) : Only (fun k => k = p.block) w (w.setCell p u) :=
  ⟨rfl, rfl, rfl, by simp, fun k _ hn => Below.heap_setCell w p u k hn⟩
theorem Only.drewN (w : World) (S : Nat → Prop) (n : Nat) : Only S w (w.drewN n) := ⟨rfl, rfl, rfl, Nat.le_refl _, fun _ _ _ => rfl⟩
theorem Only.alloc (w : World) (S : Nat → Prop) (o : Obj) : Only S w (w.alloc o) := Only.of_below (below_alloc (Below.refl _ _) o) S

section
variable {α : Type} (d : Kd α) (TQ TS TE : Nat)

/-- The queue q lies in w: its struct in block qb, its rows' values in block rb. -/
structure QAt (w : World) (base qb rb : Nat) (vals : List Value) (q : QM α) : Prop where
  hq : w.heap[qb]? = some (.cells #[.int .i64 q.places, .slice (some ⟨rb, 0, none⟩) q.rows.length q.rows.length, .int .i64 q.next, .int .i64 q.total] TQ (0, 0))
  hr : w.heap[rb]? = some (.cells vals.toArray TS (0, 0))
  len : vals.length = q.rows.length
  row : ∀ (c : Nat) (v : Value) (xs : List α), vals[c]? = some v → q.rows[c]? = some xs → d.R TE w base (fun _ => True) v xs
  apart : ∀ (c c' : Nat) (v v' : Value) (k : Nat), vals[c]? = some v → vals[c']? = some v' → v.ownBlock = some k → v'.ownBlock = some k → c = c'
  bq : base ≤ qb
  br : base ≤ rb

/-- The blocks of such a queue. -/
def Foot (qb rb : Nat) (vals : List Value) (k : Nat) : Prop := k = qb ∨ k = rb ∨ ∃ (c : Nat) (v : Value), vals[c]? = some v ∧ v.ownBlock = some k

variable {d TQ TS TE}
variable {w w1 : World} {base qb rb : Nat} {vals : List Value} {q : QM α}

theorem QAt.val (h : QAt d TQ TS TE w base qb rb vals q) {c : Nat} (hc : c < q.rows.length) : ∃ v xs, vals[c]? = some v ∧ q.rows[c]? = some xs ∧ d.R TE w base (fun _ => True) v xs := by
  have hv : c < vals.length := by rw [h.len]; exact hc
  exact ⟨vals[c], q.rows[c], List.getElem?_eq_getElem hv, List.getElem?_eq_getElem hc, h.row c _ _ (List.getElem?_eq_getElem hv) (List.getElem?_eq_getElem hc)⟩
theorem QAt.own_typed (h : QAt d TQ TS TE w base qb rb vals q) {c k : Nat} {v : Value} (hv : vals[c]? = some v) (hk : v.ownBlock = some k) : ∃ cells, w.heap[k]? = some (.cells cells TE (0, 0)) := by
  have hc : c < q.rows.length := by rw [← h.len]; exact (List.getElem?_eq_some_iff.1 hv).1
  obtain ⟨v', xs, h1, h2, hR⟩ := h.val hc
  rw [hv] at h1
  cases h1
  obtain ⟨_, inner, ho, _⟩ := hR
  exact YtekgdlpicgibhaaW.PrintWords.own_typed ho k hk
theorem QAt.own_base (h : QAt d TQ TS TE w base qb rb vals q) {c k : Nat} {v : Value} (hv : vals[c]? = some v) (hk : v.ownBlock = some k) : base ≤ k ∧ k < w.heap.size := by
  have hc : c < q.rows.length := by rw [← h.len]; exact (List.getElem?_eq_some_iff.1 hv).1
  obtain ⟨v', xs, h1, h2, hR⟩ := h.val hc
  rw [hv] at h1
  cases h1
  obtain ⟨_, inner, ho, _⟩ := hR
  exact ⟨YtekgdlpicgibhaaW.PrintWords.own_base ho k hk, YtekgdlpicgibhaaW.PrintWords.own_lt ho k hk⟩
theorem heap_lt_of {w : World} {k : Nat} {o : Obj} (h : w.heap[k]? = some o) : k < w.heap.size := (Array.getElem?_eq_some_iff.1 h).1
theorem QAt.foot_base (h : QAt d TQ TS TE w base qb rb vals q) {k : Nat} (hk : Foot qb rb vals k) : base ≤ k ∧ k < w.heap.size := by
  rcases hk with rfl | rfl | ⟨c, v, hv, ho⟩
  · exact ⟨h.bq, heap_lt_of h.hq⟩
  · exact ⟨h.br, heap_lt_of h.hr⟩
  · exact h.own_base hv ho
theorem cells_ne {w : World} {k k' : Nat} {a b : Array Value} {t t' : Nat} {f f' : Nat × Nat} (h : w.heap[k]? = some (.cells a t f)) (h' : w.heap[k']? = some (.cells b t' f')) (hne : t ≠ t') : k ≠ k' := by
  rintro rfl
  rw [h] at h'
  injection h' with h'
  injection h' with _ h'
  exact hne h'
theorem QAt.ne_q (h : QAt d TQ TS TE w base qb rb vals q) (ht : TE ≠ TQ) {c k : Nat} {v : Value} (hv : vals[c]? = some v) (hk : v.ownBlock = some k) : k ≠ qb := by
  obtain ⟨cells, hc⟩ := h.own_typed hv hk
  exact cells_ne hc h.hq ht
theorem QAt.ne_r (h : QAt d TQ TS TE w base qb rb vals q) (ht : TE ≠ TS) {c k : Nat} {v : Value} (hv : vals[c]? = some v) (hk : v.ownBlock = some k) : k ≠ rb := by
  obtain ⟨cells, hc⟩ := h.own_typed hv hk
  exact cells_ne hc h.hr ht
theorem QAt.qr (h : QAt d TQ TS TE w base qb rb vals q) (ht : TQ ≠ TS) : qb ≠ rb := cells_ne h.hq h.hr ht

/-- What the walks read. -/
theorem QAt.cell (h : QAt d TQ TS TE w base qb rb vals q) : w.cell? ⟨qb, 0, none⟩ = some (.int .i64 q.places) ∧ w.cell? ⟨qb, 1, none⟩ = some (.slice (some ⟨rb, 0, none⟩) q.rows.length q.rows.length) ∧ w.cell? ⟨qb, 2, none⟩ = some (.int .i64 q.next) ∧ w.cell? ⟨qb, 3, none⟩ = some (.int .i64 q.total) := by
  refine ⟨?_, ?_, ?_, ?_⟩ <;> simp [World.cell?, h.hq]
theorem QAt.free (h : QAt d TQ TS TE w base qb rb vals q) (j : Nat) : w.frozen? ⟨qb, j, none⟩ = false := by simp [World.frozen?, h.hq]
theorem QAt.rcell (h : QAt d TQ TS TE w base qb rb vals q) {c : Nat} {v : Value} (hv : vals[c]? = some v) : w.cell? ⟨rb, c, none⟩ = some v := by simp [World.cell?, h.hr, hv]
theorem QAt.rfree (h : QAt d TQ TS TE w base qb rb vals q) (j : Nat) : w.frozen? ⟨rb, j, none⟩ = false := by simp [World.frozen?, h.hr]

/-- Its blocks have stayed: it lies there still. (The elements lead to nothing.) -/
theorem QAt.move (hE : d.E = []) (h : QAt d TQ TS TE w base qb rb vals q) (hm : ∀ k, Foot qb rb vals k → w1.heap[k]? = w.heap[k]?) : QAt d TQ TS TE w1 base qb rb vals q where
  hq := (hm qb (.inl rfl)).trans h.hq
  hr := (hm rb (.inr (.inl rfl))).trans h.hr
  len := h.len
  row := fun c v xs hv hx => Kd.R_mono (Kd.R_move (Kd.R_tight hE (h.row c v xs hv hx)) (fun k hk => hm k (.inr (.inr ⟨c, v, hv, hk.symm⟩)))) (fun _ _ => trivial)
  apart := h.apart
  bq := h.bq
  br := h.br
theorem QAt.only (hE : d.E = []) (h : QAt d TQ TS TE w base qb rb vals q) {S : Nat → Prop} (ho : Only S w w1) (hs : ∀ k, Foot qb rb vals k → ¬ S k) : QAt d TQ TS TE w1 base qb rb vals q :=
  h.move hE fun k hk => ho.block k (h.foot_base hk).2 (hs k hk)
theorem QAt.below (hE : d.E = []) (h : QAt d TQ TS TE w base qb rb vals q) (hb : Below w.heap.size w w1) : QAt d TQ TS TE w1 base qb rb vals q :=
  h.move hE fun k hk => hb.block k (h.foot_base hk).2

/-- A row has been written, or made anew, and is laid in its place. -/
theorem QAt.put (hE : d.E = []) (h1 : TE ≠ TQ) (h2 : TE ≠ TS) (h3 : TQ ≠ TS) (h : QAt d TQ TS TE w base qb rb vals q) {c : Nat} {v v1 : Value} {xs1 : List α} (hv : vals[c]? = some v)
    (hg : w.grownBy w1 v.ownBlock) (hat : v1.ownBlock = v.ownBlock ∨ ∃ b, v1.ownBlock = some b ∧ w.heap.size ≤ b) (hR : d.R TE w1 base (fun _ => True) v1 xs1) :
    QAt d TQ TS TE (w1.setCell ⟨rb, c, none⟩ v1) base qb rb (vals.set c v1) { q with rows := q.rows.set c xs1 } := by
  have hqr := h.qr h3
  have hcl : c < vals.length := (List.getElem?_eq_some_iff.1 hv).1
  have bq1 : w1.heap[qb]? = w.heap[qb]? := hg.block qb (heap_lt_of h.hq) (fun e => h.ne_q h1 hv e.symm rfl)
  have br1 : w1.heap[rb]? = w.heap[rb]? := hg.block rb (heap_lt_of h.hr) (fun e => h.ne_r h2 hv e.symm rfl)
  have hR1 : d.R TE (w1.setCell ⟨rb, c, none⟩ v1) base (fun _ => True) v1 xs1 := by
    refine Kd.R_set hR (br1.trans h.hr) (fun q hq => ?_) c v1
    rw [hE] at hq
    rcases List.mem_cons.1 hq with rfl | hq
    · exact h2
    · cases hq
  -- the other rows
  have other : ∀ (c' : Nat) (v' : Value) (xs : List α), c' ≠ c → vals[c']? = some v' → q.rows[c']? = some xs → d.R TE (w1.setCell ⟨rb, c, none⟩ v1) base (fun _ => True) v' xs := by
    intro c' v' xs hne hv' hx
    refine Kd.R_mono (Kd.R_move (Kd.R_tight hE (h.row c' v' xs hv' hx)) (fun k hk => ?_)) (fun _ _ => trivial)
    have hkr : k ≠ rb := h.ne_r h2 hv' hk.symm
    rw [Below.heap_setCell _ _ _ _ hkr]
    exact hg.block k (h.own_base hv' hk.symm).2 (fun e => hne (h.apart c' c v' v k hv' hv hk.symm e.symm))
  constructor
  · rw [Below.heap_setCell _ _ _ _ hqr, bq1, h.hq]
    simp
  · have := blk_set (br1.trans h.hr) c v1
    rw [this]
    congr 2
    apply Array.ext'
    simp
  · simp [h.len]
  · intro c' v' xs hv' hx
    by_cases e : c' = c
    · subst e
      have hcr : c' < q.rows.length := by rw [← h.len]; exact hcl
      rw [List.getElem?_set_self hcl] at hv'
      simp only at hx
      rw [List.getElem?_set_self hcr] at hx
      cases hv'
      cases hx
      exact hR1
    · rw [List.getElem?_set_ne (Ne.symm e)] at hv'
      simp only at hx
      rw [List.getElem?_set_ne (Ne.symm e)] at hx
      exact other c' v' xs e hv' hx
  · have key : ∀ (c' : Nat) (v' : Value) (k : Nat), c' ≠ c → vals[c']? = some v' → v'.ownBlock = some k → v1.ownBlock = some k → False := by
      intro c' v' k hne hv' hk hk1
      rcases hat with hat | ⟨b, hb, hle⟩
      · exact hne (h.apart c' c v' v k hv' hv hk (hat ▸ hk1))
      · rw [hb] at hk1
        cases hk1
        have := (h.own_base hv' hk).2
        omega
    intro c1 c2 v2 v3 k hv2 hv3 hk2 hk3
    by_cases e1 : c1 = c
    · by_cases e2 : c2 = c
      · rw [e1, e2]
      · subst e1
        rw [List.getElem?_set_self hcl] at hv2
        rw [List.getElem?_set_ne (Ne.symm e2)] at hv3
        cases hv2
        exact (key c2 v3 k e2 hv3 hk3 hk2).elim
    · rw [List.getElem?_set_ne (Ne.symm e1)] at hv2
      by_cases e2 : c2 = c
      · subst e2
        rw [List.getElem?_set_self hcl] at hv3
        cases hv3
        exact (key c1 v2 k e1 hv2 hk2 hk3).elim
      · rw [List.getElem?_set_ne (Ne.symm e2)] at hv3
        exact h.apart c1 c2 v2 v3 k hv2 hv3 hk2 hk3
  · exact h.bq
  · exact h.br
theorem QAt.rows_kept (hE : d.E = []) (h1 : TE ≠ TQ) (h : QAt d TQ TS TE w base qb rb vals q) (j : Nat) (u : Value) : ∀ (c : Nat) (v : Value) (xs : List α), vals[c]? = some v → q.rows[c]? = some xs → d.R TE (w.setCell ⟨qb, j, none⟩ u) base (fun _ => True) v xs := by
  intro c v xs hv hx
  refine Kd.R_set (h.row c v xs hv hx) h.hq (fun q hq => ?_) j u
  rw [hE] at hq
  rcases List.mem_cons.1 hq with rfl | hq
  · exact h1
  · cases hq
theorem QAt.set_total (hE : d.E = []) (h1 : TE ≠ TQ) (h3 : TQ ≠ TS) (h : QAt d TQ TS TE w base qb rb vals q) (t : Nat) : QAt d TQ TS TE (w.setCell ⟨qb, 3, none⟩ (.int .i64 t)) base qb rb vals { q with total := t } where
  hq := by rw [blk_set h.hq]; rfl
  hr := by rw [Below.heap_setCell _ _ _ _ (Ne.symm (h.qr h3))]; exact h.hr
  len := h.len
  row := h.rows_kept hE h1 3 _
  apart := h.apart
  bq := h.bq
  br := h.br
theorem QAt.set_next (hE : d.E = []) (h1 : TE ≠ TQ) (h3 : TQ ≠ TS) (h : QAt d TQ TS TE w base qb rb vals q) (t : Nat) : QAt d TQ TS TE (w.setCell ⟨qb, 2, none⟩ (.int .i64 t)) base qb rb vals { q with next := t } where
  hq := by rw [blk_set h.hq]; rfl
  hr := by rw [Below.heap_setCell _ _ _ _ (Ne.symm (h.qr h3))]; exact h.hr
  len := h.len
  row := h.rows_kept hE h1 2 _
  apart := h.apart
  bq := h.bq
  br := h.br
end
end Go.Proofs.Ytekgdlpicgibhaa.QQ
