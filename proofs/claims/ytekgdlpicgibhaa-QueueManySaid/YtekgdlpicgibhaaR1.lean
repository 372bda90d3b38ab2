/-
  The document's queue in memory: its struct, the block of its lines, each line a row of its own memory. The laws by which an operation goes on. New, Ints, Each, Len by their walks.
-/
import Derived.Test.YtekgdlpicgibhaaQ6
namespace Go.Proofs.Ytekgdlpicgibhaa.QI
open Go.RowKit Go.Proofs.YtekgdlpicgibhaaW.PrintWords Go.Proofs.Ytekgdlpicgibhaa.QQ

/-- The document's queue of the same rows. -/
structure RAt (w : World) (base rb lb : Nat) (vals : List Value) (l : Nat) (q : QM Int) : Prop where
  hq : w.heap[rb]? = some (.cells #[.slice (some ⟨lb, 0, none⟩) q.rows.length q.rows.length, .int .i64 q.places, .int .i64 (l : Int)] 84 (0, 0))
  hr : w.heap[lb]? = some (.cells vals.toArray 40 (0, 0))
  len : vals.length = q.rows.length
  row : ∀ (c : Nat) (v : Value) (xs : List Int), vals[c]? = some v → q.rows[c]? = some xs → K.R 3 w base (fun _ => True) v xs
  bq : base ≤ rb
  br : base ≤ lb
  ll : l < q.rows.length
  nx : (l + 1) % q.rows.length = q.next

variable {w w1 : World} {base rb lb l : Nat} {vals : List Value} {q : QM Int}
theorem RAt.val (h : RAt w base rb lb vals l q) {c : Nat} (hc : c < q.rows.length) : ∃ v xs, vals[c]? = some v ∧ q.rows[c]? = some xs ∧ K.R 3 w base (fun _ => True) v xs := by
  have hv : c < vals.length := by rw [h.len]; exact hc
  exact ⟨vals[c], q.rows[c], List.getElem?_eq_getElem hv, List.getElem?_eq_getElem hc, h.row c _ _ (List.getElem?_eq_getElem hv) (List.getElem?_eq_getElem hc)⟩
theorem RAt.own (h : RAt w base rb lb vals l q) {c k : Nat} {v : Value} (hv : vals[c]? = some v) (hk : v.ownBlock = some k) : base ≤ k ∧ k < w.heap.size ∧ k ≠ rb ∧ k ≠ lb := by
  have hc : c < q.rows.length := by rw [← h.len]; exact (List.getElem?_eq_some_iff.1 hv).1
  obtain ⟨v', xs, h1, h2, hR⟩ := h.val hc
  rw [hv] at h1
  cases h1
  obtain ⟨cells, hcs⟩ := Kd.R_typed hR k hk
  exact ⟨Kd.R_base hR k hk, Kd.R_lt hR k hk, cells_ne hcs h.hq (by decide), cells_ne hcs h.hr (by decide)⟩
theorem RAt.ne (h : RAt w base rb lb vals l q) : rb ≠ lb := cells_ne h.hq h.hr (by decide)
theorem RAt.foot_base (h : RAt w base rb lb vals l q) {k : Nat} (hk : Foot rb lb vals k) : base ≤ k ∧ k < w.heap.size := by
  rcases hk with rfl | rfl | ⟨c, v, hv, ho⟩
  · exact ⟨h.bq, heap_lt_of h.hq⟩
  · exact ⟨h.br, heap_lt_of h.hr⟩
  · exact ⟨(h.own hv ho).1, (h.own hv ho).2.1⟩
theorem RAt.cell (h : RAt w base rb lb vals l q) : w.cell? ⟨rb, 0, none⟩ = some (.slice (some ⟨lb, 0, none⟩) q.rows.length q.rows.length) ∧ w.cell? ⟨rb, 1, none⟩ = some (.int .i64 q.places) ∧ w.cell? ⟨rb, 2, none⟩ = some (.int .i64 (l : Int)) := by
  refine ⟨?_, ?_, ?_⟩ <;> simp [World.cell?, h.hq]
theorem RAt.free (h : RAt w base rb lb vals l q) (j : Nat) : w.frozen? ⟨rb, j, none⟩ = false := by simp [World.frozen?, h.hq]
theorem RAt.rcell (h : RAt w base rb lb vals l q) {c : Nat} {v : Value} (hv : vals[c]? = some v) : w.cell? ⟨lb, c, none⟩ = some v := by simp [World.cell?, h.hr, hv]
theorem RAt.rfree (h : RAt w base rb lb vals l q) (j : Nat) : w.frozen? ⟨lb, j, none⟩ = false := by simp [World.frozen?, h.hr]
theorem RAt.move (h : RAt w base rb lb vals l q) (hm : ∀ k, Foot rb lb vals k → w1.heap[k]? = w.heap[k]?) : RAt w1 base rb lb vals l q where
  hq := (hm rb (.inl rfl)).trans h.hq
  hr := (hm lb (.inr (.inl rfl))).trans h.hr
  len := h.len
  row := fun c v xs hv hx => Kd.R_mono (Kd.R_move (Kd.R_tight rfl (h.row c v xs hv hx)) (fun k hk => hm k (.inr (.inr ⟨c, v, hv, hk.symm⟩)))) (fun _ _ => trivial)
  bq := h.bq
  br := h.br
  ll := h.ll
  nx := h.nx
theorem RAt.below (h : RAt w base rb lb vals l q) (hb : Below w.heap.size w w1) : RAt w1 base rb lb vals l q :=
  h.move fun k hk => hb.block k (h.foot_base hk).2
/-- A line made anew is laid in its place. -/
theorem RAt.put (h : RAt w base rb lb vals l q) {c : Nat} {v1 : Value} {xs1 : List Int} (hc : c < q.rows.length) (hb : Below w.heap.size w w1) (hR : K.R 3 w1 base (fun _ => True) v1 xs1) (t : Nat) :
    RAt (w1.setCell ⟨lb, c, none⟩ v1) base rb lb (vals.set c v1) l { q with rows := q.rows.set c xs1, total := t } := by
  have h1 := h.below hb
  have hcl : c < vals.length := by rw [h.len]; exact hc
  have keep : ∀ {v : Value} {xs : List Int}, K.R 3 w1 base (fun _ => True) v xs → K.R 3 (w1.setCell ⟨lb, c, none⟩ v1) base (fun _ => True) v xs := by
    intro v xs hv
    refine Kd.R_set hv h1.hr (fun q hq => ?_) c v1
    rcases List.mem_cons.1 hq with rfl | hq
    · decide
    · cases hq
  constructor
  · rw [Below.heap_setCell _ _ _ _ h.ne, h1.hq]; simp
  · rw [blk_set h1.hr c v1]
    congr 2
    apply Array.ext'
    simp
  · simp [h.len]
  · intro c' v' xs hv' hx
    by_cases e : c' = c
    · subst e
      rw [List.getElem?_set_self hcl] at hv'
      simp only at hx
      rw [List.getElem?_set_self hc] at hx
      cases hv'
      cases hx
      exact keep hR
    · rw [List.getElem?_set_ne (Ne.symm e)] at hv'
      simp only at hx
      rw [List.getElem?_set_ne (Ne.symm e)] at hx
      exact keep (h1.row c' v' xs hv' hx)
  · exact h.bq
  · exact h.br
  · simpa using h.ll
  · simpa using h.nx
theorem RAt.set_last (h : RAt w base rb lb vals l q) {c : Nat} (hc : c < q.rows.length) : RAt (w.setCell ⟨rb, 2, none⟩ (.int .i64 (c : Int))) base rb lb vals c { q with next := (c + 1) % q.rows.length } where
  hq := by rw [blk_set h.hq]; rfl
  hr := by rw [Below.heap_setCell _ _ _ _ h.ne.symm]; exact h.hr
  len := h.len
  row := fun c' v xs hv hx => by
    refine Kd.R_set (h.row c' v xs hv hx) h.hq (fun q hq => ?_) 2 _
    rcases List.mem_cons.1 hq with rfl | hq
    · decide
    · cases hq
  bq := h.bq
  br := h.br
  ll := hc
  nx := rfl

/-- It lies in w, in blocks of S. -/
def RIn (w : World) (base : Nat) (S : Nat → Prop) (rb : Nat) (q : QM Int) : Prop := ∃ lb l vals, RAt w base rb lb vals l q ∧ ∀ k, Foot rb lb vals k → S k
theorem RIn.move {S : Nat → Prop} (h : RIn w base S rb q) {S' : Nat → Prop} (ho : Only S' w w1) (hs : ∀ k, S k → ¬ S' k) : RIn w1 base S rb q := by
  obtain ⟨lb, l, vals, hA, hf⟩ := h
  exact ⟨lb, l, vals, hA.move (fun k hk => ho.block k (hA.foot_base hk).2 (hs k (hf k hk))), hf⟩
theorem RIn.below {S : Nat → Prop} (h : RIn w base S rb q) (hb : Below w.heap.size w w1) : RIn w1 base S rb q := by
  obtain ⟨lb, l, vals, hA, hf⟩ := h
  exact ⟨lb, l, vals, hA.below hb, hf⟩
theorem RIn.mono {S : Nat → Prop} (h : RIn w base S rb q) {S' : Nat → Prop} (hs : ∀ k, S k → S' k) : RIn w base S' rb q := by
  obtain ⟨lb, l, vals, hA, hf⟩ := h
  exact ⟨lb, l, vals, hA, fun k hk => hs k (hf k hk)⟩
theorem RIn.bound {S : Nat → Prop} (h : RIn w base S rb q) : RIn w base (fun k => S k ∧ base ≤ k ∧ k < w.heap.size) rb q := by
  obtain ⟨lb, l, vals, hA, hf⟩ := h
  exact ⟨lb, l, vals, hA, fun k hk => ⟨hf k hk, hA.foot_base hk⟩⟩
/-- What an operation leaves. -/
def RLeft (w : World) (base : Nat) (S : Nat → Prop) (rb : Nat) (q' : QM Int) (w' : World) : Prop := RIn w' base (Grow S w) rb q' ∧ Only S w w'

theorem ints_any {w : World} {A : Option Addr} {cap : Nat} {xs : List Int} (hC : ReadsOf (Value.int .i64) 0 w A xs.length xs) (hl : xs.length ≤ 1099511627776) : Calls Try.prog 29 #[.slice A xs.length cap] w (Copied w xs) := by
  have HC : Hid (∀ k, k < xs.length → ∃ ad, A = some ad ∧ ad.block < w.heap.size ∧ w.cell? (ad.add k) = some (.int .i64 (xs.getD k 0))) := by
    intro k hk
    obtain ⟨ad, e, hc⟩ := hC.2.2 (by omega)
    refine ⟨ad, e, ?_, hc k hk⟩
    have := World.block_lt_of_cell? w _ (hc 0 (by omega))
    simpa [Addr.add] using this
  clear hC
  go_enter Try.func29, Try.ntmps29
  go_wp2
  go_loopw [3, 4] (fun v i wr => ∃ k : Nat, k ≤ xs.length ∧ i = .int .i64 k ∧ K.R 3 wr w.heap.size (fun _ => True) v (xs.take k) ∧ Below w.heap.size w wr) (fun _ i _ => xs.length - (intOf i).toNat)
  case atStart => exact ⟨0, Nat.zero_le _, rfl, by simpa using Kd.R_nil _ _ _ _ _, Below.refl _ _⟩
  case round =>
    obtain ⟨k, hk, rfl, hR, hb⟩ := hrel
    obtain ⟨Ar, cr, e⟩ := Kd.R_slice hR
    rw [List.length_take, Nat.min_eq_left hk] at e
    subst e
    have HR := Lib.hid hR
    have HB := Lib.hid hb
    clear hR hb
    by_cases hlt : k < xs.length
    · obtain ⟨ad, rfl, had, hc⟩ := HC.out k hlt
      obtain ⟨x, hx⟩ : ∃ x, xs.getD k 0 = x := ⟨_, rfl⟩
      have hcr : wr.cell? (ad.add k) = some (.int .i64 x) := by
        rw [← hx]
        refine (HB.out.cell (p := ad.add k) ?_).trans hc
        unfold Addr.add
        split <;> exact had
      have HX := Lib.hid hx
      clear hx hc
      go_wp2_with (first | (at_builtin; go_loud (refine Kd.R_append K (w0 := w) w.heap.size rfl (.tmp 11) (.tmp 16) 40 3 (.int .i64 0) 8 rfl Try.underlying40 info3 rfl (by decide) (by decide) (.slice Ar k cr) (xs.take k) x [.int .i64 x] (fun _ => True) (fun _ => False) rfl rfl rfl (fun _ hk => hk.elim) (fun _ _ => trivial) HR.out HB.out HB.out.size (by rw [List.length_take]; omega) ?_); intro v1 w4 hR1 hb1 hg1 hat1; have HR1 := Lib.hid hR1; have HB1 := Lib.hid hb1; clear hR1 hb1 hg1 hat1))
      go_roundw
      case rel => exact ⟨k + 1, hlt, by go_num, by rw [List.take_add_one, List.getElem?_eq_getElem hlt]; have := HX.out; rw [List.getD_eq_getElem?_getD, List.getElem?_eq_getElem hlt] at this; simp only [Option.getD_some] at this; rw [this]; exact HR1.out, HB1.out⟩
      case measure => simp [intOf]; omega
    · obtain rfl : k = xs.length := by omega
      go_wp2
      go_ret
      exact ⟨_, rfl, by have := HR.out; rwa [List.take_length] at this, HB.out⟩
end Go.Proofs.Ytekgdlpicgibhaa.QI
