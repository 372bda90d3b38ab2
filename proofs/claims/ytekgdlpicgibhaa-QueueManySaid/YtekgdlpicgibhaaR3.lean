/-
  The document's queue: Push by its walk.
-/
import Derived.Test.YtekgdlpicgibhaaR2
namespace Go.Proofs.Ytekgdlpicgibhaa.QI
open Go.RowKit Go.Proofs.YtekgdlpicgibhaaW.PrintWords Go.Proofs.Ytekgdlpicgibhaa.QQ

variable {w : World} {base rb lb l : Nat} {vals : List Value} {q : QM Int}
theorem rpush_arg (h : RAt w base rb lb vals l q) (c x : Int) (hc : c < 0 ∨ (q.rows.length : Int) ≤ c) :
    Calls Try.prog 38 #[.pointer (some ⟨rb, 0, none⟩), .int .i64 c, .int .i64 x] w fun e w' => e = .returned (.int .i64 1) ∧ w = w' := by
  obtain ⟨c0, c1, c2⟩ := h.cell
  have hc' : c < 0 ∨ (0 ≤ c ∧ (q.rows.length : Int) ≤ c) := by omega
  clear h hc
  rcases hc' with h1 | ⟨h1, h2⟩
  all_goals
    go_enter Try.func38, Try.ntmps38
    go_wp2
    go_ret
    exact ⟨rfl, rfl⟩
theorem rpush_full (h : RAt w base rb lb vals l q) (c : Nat) (x : Int) {xs : List Int} (hx : q.rows[c]? = some xs) (hp : q.places ≤ xs.length) :
    Calls Try.prog 38 #[.pointer (some ⟨rb, 0, none⟩), .int .i64 (c : Int), .int .i64 x] w fun e w' => e = .returned (.int .i64 141) ∧ ∃ n, w' = w.drewN n := by
  have hc : c < q.rows.length := (List.getElem?_eq_some_iff.1 hx).1
  obtain ⟨c0, c1, c2⟩ := h.cell
  obtain ⟨v, xs', hv, hx', hR⟩ := h.val hc
  rw [hx] at hx'
  cases hx'
  obtain ⟨A, cap, rfl, hl, _⟩ := Kd.R_reads hR
  have hr := h.rcell hv
  have b0 : (0 : Int) ≤ (c : Int) := by omega
  have b1 : (c : Int) < (q.rows.length : Int) := by omega
  have b2 : (q.places : Int) ≤ (xs.length : Int) := by omega
  clear h hv hR hx
  go_enter Try.func38, Try.ntmps38
  go_wp2
  go_quiet (fail)
  go_wp2
  go_ret
  exact ⟨rfl, _, rfl⟩
section
variable {α : Type} {P : Program} {ops : Array Oper} {o : Oper} {a : Act} {Kc : Act → World → Prop} {Q : Exit → Act → World → Prop}
theorem append1_step {W : World} (base : Nat) (hw : Region.wanted o (yielded ops a.tmps) = true) (s x : Operand)
    (ho : o.op = .call { callee := .builtin .append, args := #[s, x], argTypes := #[40, 40] })
    (v : Value) (xs : List Int) (ad : Addr) (y : Int) (hs : a.eval s = v) (hx : a.eval x = .slice (some ad) 1 1) (hc : W.cell? ad = some (.int .i64 y))
    (HO : K.R 3 W base (fun _ => True) v xs) (hbase : base ≤ W.heap.size) (hl : xs.length ≤ 4096)
    (h : ∀ v1 w1, K.R 3 w1 base (fun _ => True) v1 (xs ++ [y]) → W.grownBy w1 v.ownBlock → Kc (a.put o.dst v1) w1) :
    if Region.wanted o (yielded ops a.tmps) = true then Oper.wp Try.prog o a W Kc Q else Kc (a.put o.dst undef) W := by
  obtain ⟨i0, hi, hz0, hz1, hz2⟩ := info_parts info3
  rw [if_pos hw]
  have hown : W.ownsRow base 3 1 v xs.length (encs (Value.int .i64) xs) := Kd.own_of_R HO
  obtain ⟨v1, w1, hr, hown1, hg, _, hat⟩ := run_append_own_at (P := Try.prog) W base 40 o.type 3 i0 (.int .i64 0) 1 8 Try.underlying40 hi hz0 hz1 hz2 rfl (by decide) v xs.length _ hown ad 1 1 [.int .i64 y] rfl
    (by
      intro j u hj
      have hj0 : j = 0 := by have := (List.getElem?_eq_some_iff.1 hj).1; simp at this; exact this
      subst hj0
      simp at hj
      subst hj
      simpa [Addr.add] using hc) (by intro u hu; rw [List.mem_singleton.1 hu]; rfl) (by simp only [maxLen]; omega) (by omega) hbase
  unfold Oper.wp execOp
  simp only [ho, resolve, invoke, builtin, Sem.run_bind, Sem.run_pure, Result.andThen_ok, List.map_toArray, List.map_cons, List.map_nil, hs, hx, hr]
  refine h v1 w1 ?_ hg
  have e : encs (Value.int .i64) xs ++ [.int .i64 y] = encs (Value.int .i64) (xs ++ [y]) := by simp [encs]
  rw [e] at hown1
  exact Kd.R_of_own (by simpa using hown1) (fun _ _ => trivial)
end

/-- A row that Ints has made since w. -/
def Mid (w : World) (v : Value) (xs : List Int) (w1 : World) : Prop := K.R 3 w1 w.heap.size (fun _ => True) v xs ∧ Below w.heap.size w w1
theorem ints_from {w w' : World} {A : Option Addr} {cap : Nat} {xs : List Int} (hC : K.C w A xs.length xs) (hl : xs.length ≤ 4096) (hb : Below w.heap.size w w') :
    Calls Try.prog 29 #[.slice A xs.length cap] w' fun e w1 => ∃ v, e = .returned v ∧ Mid w v xs w1 ∧ Below w'.heap.size w' w1 := by
  refine (ints_any (Kd.reads_of_C (Kd.C_below hC hb)) (by omega)).mono ?_
  rintro e w1 ⟨v, rfl, hR, hb1⟩
  exact ⟨v, rfl, ⟨Kd.R_lower hR hb.size, hb.trans (hb1.mono hb.size)⟩, hb1⟩
theorem ints_a {w : World} {n : Nat} {A : Option Addr} {cap : Nat} {xs : List Int} (hC : K.C w A xs.length xs) (hl : xs.length ≤ 4096) :
    Calls Try.prog 29 #[.slice A xs.length cap] (w.drewN n) fun e w1 => ∃ v, e = .returned v ∧ Mid w v xs w1 := by
  refine (ints_from hC hl (pw_below_drewN (Below.refl _ w) n)).mono ?_
  rintro e w1 ⟨v, rfl, hm, _⟩
  exact ⟨v, rfl, hm⟩
theorem ints_b {w : World} {n : Nat} {y : Int} {A : Option Addr} {cap : Nat} {xs : List Int} (hC : K.C w A xs.length xs) (hl : xs.length ≤ 4096) :
    Calls Try.prog 29 #[.slice A xs.length cap] ((w.drewN n).alloc (.cells #[.int .i64 y] 3)) fun e w1 => ∃ v, e = .returned v ∧ Mid w v xs w1 ∧ w1.cell? ⟨w.heap.size, 0, none⟩ = some (.int .i64 y) := by
  refine (ints_from hC hl (below_alloc (pw_below_drewN (Below.refl _ w) n) _)).mono ?_
  rintro e w1 ⟨v, rfl, hm, hb⟩
  refine ⟨v, rfl, hm, ?_⟩
  rw [hb.cell (by simp)]
  exact (blk_cell (heap_alloc_new (w.drewN n) (.cells #[.int .i64 y] 3)) 0).trans rfl
theorem Mid.cell {w w1 : World} {v : Value} {xs : List Int} (h : Mid w v xs w1) {p : Addr} {u : Value} (hp : w.cell? p = some u) : w1.cell? p = some u := (h.2.cell (World.block_lt_of_cell? w _ hp)).trans hp
theorem Mid.cell2 {w w1 : World} {v : Value} {xs : List Int} (h : Mid w v xs w1) {p : Addr} {u : Value} (hp : w.cell? p = some u) (o : Obj) : (w1.alloc o).cell? p = some u :=
  (World.cell?_alloc_old _ _ _ (by have := World.block_lt_of_cell? w _ hp; have := h.2.size; omega)).trans (h.cell hp)
theorem Mid.grown {w w1 w2 : World} {v v2 : Value} {xs ys : List Int} (h : Mid w v xs w1) (hR : K.R 3 w2 w.heap.size (fun _ => True) v2 ys) (hg : w1.grownBy w2 v.ownBlock) : Mid w v2 ys w2 :=
  ⟨hR, h.2.grown hg h.2.size (fun k hk => Kd.R_base h.1 k hk)⟩

/-- What an operation leaves that has laid a line anew. -/
def RPut (w : World) (base rb lb : Nat) (vals : List Value) (l : Nat) (q : QM Int) (c : Nat) (xs : List Int) (t : Nat) (r e : Ending) (w' : World) : Prop :=
  e = r ∧ ∃ vals', RAt w' base rb lb vals' l { q with rows := q.rows.set c xs, total := t } ∧ Only (fun k => k = lb) w w' ∧ ∀ k, Foot rb lb vals' k → Foot rb lb vals k ∨ w.heap.size ≤ k
theorem rput_end (h : RAt w base rb lb vals l q) {c : Nat} {ys xs : List Int} (hx : q.rows[c]? = some ys) {v : Value} {w1 : World} (hm : Mid w v xs w1) (hbase : base ≤ w.heap.size) (t : Nat) {e : Ending} :
    RPut w base rb lb vals l q c xs t e e (w1.setCell ⟨lb, c, none⟩ v) := by
  have hc : c < q.rows.length := (List.getElem?_eq_some_iff.1 hx).1
  have hcl : c < vals.length := by rw [h.len]; exact hc
  refine ⟨rfl, _, h.put hc hm.2 (Kd.R_lower hm.1 hbase) t, ((Only.of_below hm.2 _).trans (Only.setCell _ _ _) (fun k hk => .inl hk)), ?_⟩
  intro k hk
  rcases hk with hk | hk | ⟨c', v', hv', hk⟩
  · exact .inl (.inl hk)
  · exact .inl (.inr (.inl hk))
  · by_cases e : c' = c
    · subst e
      rw [List.getElem?_set_self hcl] at hv'
      cases hv'
      exact .inr (Kd.R_base hm.1 k hk)
    · rw [List.getElem?_set_ne (Ne.symm e)] at hv'
      exact .inl (.inr (.inr ⟨c', v', hv', hk⟩))
set_option maxHeartbeats 4000000 in
theorem rpush_ok (h : RAt w base rb lb vals l q) (c : Nat) (x : Int) {xs : List Int} (hx : q.rows[c]? = some xs) (hp : xs.length < q.places) (hp2 : q.places ≤ 64) (hbase : base ≤ w.heap.size) :
    Calls Try.prog 38 #[.pointer (some ⟨rb, 0, none⟩), .int .i64 (c : Int), .int .i64 x] w (RPut w base rb lb vals l q c (xs ++ [x]) (q.total + 1) (.returned (.int .i64 0))) := by
  have hc : c < q.rows.length := (List.getElem?_eq_some_iff.1 hx).1
  obtain ⟨c0, c1, c2⟩ := h.cell
  obtain ⟨v, xs', hv, hx', hR⟩ := h.val hc
  rw [hx] at hx'
  cases hx'
  obtain ⟨A, cap, rfl, hl, hC⟩ := Kd.R_reads hR
  have hr := h.rcell hv
  have fr := h.rfree c
  have hrlt : rb < w.heap.size := heap_lt_of h.hq
  have hllt : lb < w.heap.size := heap_lt_of h.hr
  have b0 : (0 : Int) ≤ (c : Int) := by omega
  have b1 : (c : Int) < (q.rows.length : Int) := by omega
  have b2 : (xs.length : Int) < (q.places : Int) := by omega
  have hxl : xs.length ≤ 64 := by omega
  have HC : Hid (K.C w A xs.length xs) := hC
  have k1 : ∀ n o, ((w.drewN n).alloc o).cell? ⟨rb, 0, none⟩ = some (.slice (some ⟨lb, 0, none⟩) q.rows.length q.rows.length) := fun n o => (World.cell?_alloc_old _ _ _ (by show rb ≠ w.heap.size; omega)).trans c0
  have k2 : ∀ n o, ((w.drewN n).alloc o).cell? ⟨lb, c, none⟩ = some (.slice A xs.length cap) := fun n o => (World.cell?_alloc_old _ _ _ (by show lb ≠ w.heap.size; omega)).trans hr
  have H := Lib.hid h
  have HV := Lib.hid hv
  have HX := Lib.hid hx
  clear h hv hR hx hC
  go_enter Try.func38, Try.ntmps38
  go_wp2
  go_quiet (fail)
  go_wp2
  go_region_law (first
    | (go_simp; go_at_call 29; first | (refine (ints_b (y := x) HC.out (by omega)).mono ?_; rintro e w1 ⟨v1, rfl, hm, hy⟩; have HM := Lib.hid hm; have z0 := hm.cell c0; have z1 := hm.cell2 c0; obtain ⟨A1, d1, e1⟩ := Kd.R_slice hm.1; subst e1; clear hm) | (refine (ints_a HC.out (by omega)).mono ?_; rintro e w1 ⟨v1, rfl, hm⟩; have HM := Lib.hid hm; have z0 := hm.cell c0; have z1 := hm.cell2 c0; obtain ⟨A1, d1, e1⟩ := Kd.R_slice hm.1; subst e1; clear hm))
    | (refine append1_step w.heap.size (by rfl) (.tmp 43) (.tmp 45) (by rfl) (.slice A1 xs.length d1) xs ⟨w.heap.size, 0, none⟩ x (by rfl) (by rfl) hy HM.out.1 HM.out.2.size (by omega) ?_; intro v2 w4 hR2 hg2; have HM2 := Lib.hid (HM.out.grown hR2 hg2); clear hR2 hg2; have z4 := HM2.out.cell c0; have y4 := HM2.out.cell hr; have f4 : w4.frozen? ⟨lb, c, none⟩ = false := (HM2.out.2.frozen (p := ⟨lb, c, none⟩) hllt).trans fr; obtain ⟨A2, d2, e2⟩ := Kd.R_slice HM2.out.1; simp only [List.length_append, List.length_singleton] at e2; subst e2)
    | (refine append1_step (W := w1.alloc (.cells #[.int .i64 x] 3)) w.heap.size (by rfl) (.tmp 43) (.tmp 45) (by rfl) (.slice A1 xs.length d1) xs ⟨w1.heap.size, 0, none⟩ x (by rfl) (by rfl) ((blk_cell (heap_alloc_new w1 (.cells #[.int .i64 x] 3)) 0).trans rfl) (Kd.R_alloc HM.out.1 _) (by have := HM.out.2.size; simp; omega) (by omega) ?_; intro v2 w4 hR2 hg2; have HM2 := Lib.hid (HM.out.grown hR2 (World.grownBy.trans (World.grownBy_alloc w1 _ _) hg2)); clear hR2 hg2; have z4 := HM2.out.cell c0; have y4 := HM2.out.cell hr; have f4 : w4.frozen? ⟨lb, c, none⟩ = false := (HM2.out.2.frozen (p := ⟨lb, c, none⟩) hllt).trans fr; obtain ⟨A2, d2, e2⟩ := Kd.R_slice HM2.out.1; simp only [List.length_append, List.length_singleton] at e2; subst e2))
  all_goals go_wp2
  all_goals go_ret
  all_goals exact rput_end H.out HX.out HM2.out hbase (q.total + 1)
end Go.Proofs.Ytekgdlpicgibhaa.QI
