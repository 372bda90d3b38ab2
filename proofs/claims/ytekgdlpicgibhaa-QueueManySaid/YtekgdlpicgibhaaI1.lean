/-
  The queue of structs: New, has, Push, each by its walk.
-/
import Derived.Test.YtekgdlpicgibhaaQ0
import Derived.BigQuiet
import Derived.Deep.QuietTactic
import Derived.Deep.RegionHeld3
import Derived.Deep.RegionLaw
namespace Go.Proofs.Ytekgdlpicgibhaa.QT
open Go.RowKit Go.Proofs.YtekgdlpicgibhaaW.PrintWords Go.Proofs.Ytekgdlpicgibhaa.QQ

/-- An element. -/
structure It where
  c : Int
  v : Int
  l : Int
def It.cells (x : It) : List Value := [.int .i64 x.c, .int .i64 x.v, .int .i64 x.l]
def It.val (x : It) : Value := .agg #[.int .i64 x.c, .int .i64 x.v, .int .i64 x.l]
abbrev z43 : Value := .agg #[.int .i64 0, .int .i64 0, .int .i64 0]
def K : Kd It := Kd.iso (Kd.raw 3) It.cells
theorem K_mk {w : World} {base : Nat} {ok : Nat → Prop} {x : It} {cs : List Value} (h : cs = x.cells) : K.M w base ok x cs := by
  subst h
  exact ⟨rfl, rfl, by intro u hu; simp only [It.cells, List.mem_cons, List.not_mem_nil, or_false] at hu; rcases hu with rfl | rfl | rfl <;> rfl⟩
abbrev At := QAt K 89 41 43
theorem info41 : (Try.prog.info? 41).map (fun i => (i.zero, i.size, i.bytes)) = some (some (.slice none 0 0), 1, 24) := by kernel_rfl
theorem info43 : (Try.prog.info? 43).map (fun i => (i.zero, i.size, i.bytes)) = some (some z43, 3, 24) := by kernel_rfl

theorem new_no (c p : Int) (w : World) (h : ¬ (1 ≤ c ∧ c ≤ 64 ∧ 1 ≤ p ∧ p ≤ 64)) :
    Calls Try.prog 31 #[.int .i64 c, .int .i64 p] w fun e w' => e = .returned (.pointer none) ∧ w = w' := by
  have hc : c < 1 ∨ (1 ≤ c ∧ 64 < c) ∨ (1 ≤ c ∧ c ≤ 64 ∧ p < 1) ∨ (1 ≤ c ∧ c ≤ 64 ∧ 1 ≤ p ∧ 64 < p) := by omega
  clear h
  rcases hc with h1 | ⟨h1, h2⟩ | ⟨h1, h2, h3⟩ | ⟨h1, h2, h3, h4⟩
  all_goals
    go_enter Try.func31, Try.ntmps31
    go_wp2
    go_ret
    exact ⟨rfl, rfl⟩

theorem new_yes (c p : Int) (w : World) (h1 : 1 ≤ c) (h2 : c ≤ 64) (h3 : 1 ≤ p) (h4 : p ≤ 64) :
    Calls Try.prog 31 #[.int .i64 c, .int .i64 p] w fun e w' => ∃ qb rb, e = .returned (.pointer (some ⟨qb, 0, none⟩)) ∧ At w' w.heap.size qb rb (List.replicate c.toNat (.slice none 0 0)) ⟨p.toNat, List.replicate c.toNat [], 0, 0⟩ ∧ Below w.heap.size w w' := by
  obtain ⟨m, rfl⟩ := Int.eq_ofNat_of_zero_le (show 0 ≤ c by omega)
  obtain ⟨n, rfl⟩ := Int.eq_ofNat_of_zero_le (show 0 ≤ p by omega)
  have hmk : ∀ W : World, (Instr.makeSlice 87 (.int .i64 (m : Int)) (.int .i64 (m : Int))).run Try.prog W = .ok (.slice (some ⟨W.heap.size, 0, none⟩) m m) (W.alloc (.cells (madeCells #[.slice none 0 0] m) 41)) := fun W =>
    run_make_row' 87 41 (.slice none 0 0) 24 Try.underlying87 info41 rfl .i64 .i64 m (by omega) (by omega) W
  go_enter Try.func31, Try.ntmps31
  go_wp2
  go_ret
  refine ⟨w.heap.size + 1, w.heap.size, rfl, ?_, below_alloc (below_alloc (Below.refl _ _) _) _⟩
  have hcells : madeCells #[.slice none 0 0] m = (List.replicate m (Value.slice none 0 0)).toArray := by
    apply Array.ext'
    simp [toList_madeCells_one]
  refine ⟨?_, ?_, by simp, ?_, ?_, by omega, Nat.le_refl _⟩
  · have := heap_alloc_new (w.alloc (.cells (madeCells #[.slice none 0 0] m) 41)) (.cells #[.int .i64 n, .slice (some ⟨w.heap.size, 0, none⟩) m m, .int .i64 0, .int .i64 0] 89)
    simpa using this
  · have h0 := heap_alloc_new w (.cells (madeCells #[.slice none 0 0] m) 41)
    rw [Below.heap_alloc _ _ _ (by simp), h0, hcells]
    simp
  · intro c v xs hv hx
    simp [List.getElem?_replicate] at hv hx
    obtain ⟨_, rfl⟩ := hv
    obtain ⟨_, rfl⟩ := hx
    exact Kd.R_nil _ _ _ _ _
  · intro c c' v v' k hv _ hk _
    simp [List.getElem?_replicate] at hv
    obtain ⟨_, rfl⟩ := hv
    simp [Value.ownBlock] at hk

section
variable {w : World} {base qb rb : Nat} {vals : List Value} {q : QM It}

theorem has_no (h : At w base qb rb vals q) (c : Int) (hc : c < 0 ∨ (0 ≤ c ∧ (q.rows.length : Int) ≤ c)) :
    Calls Try.prog 43 #[.pointer (some ⟨qb, 0, none⟩), .int .i64 c] w fun e w' => e = .returned (.bool false) ∧ w = w' := by
  obtain ⟨c0, c1, c2, c3⟩ := h.cell
  clear h
  rcases hc with hc | ⟨hc1, hc2⟩
  · go_enter Try.func43, Try.ntmps43
    go_wp2
    go_ret
    exact ⟨rfl, rfl⟩
  · have hd : decide (c < (q.rows.length : Int)) = false := by simp; omega
    go_enter Try.func43, Try.ntmps43
    go_wp2
    go_ret
    exact ⟨rfl, rfl⟩
theorem has_yes (h : At w base qb rb vals q) (c : Nat) (hc : c < q.rows.length) :
    Calls Try.prog 43 #[.pointer (some ⟨qb, 0, none⟩), .int .i64 (c : Int)] w fun e w' => e = .returned (.bool true) ∧ w = w' := by
  obtain ⟨c0, c1, c2, c3⟩ := h.cell
  clear h
  go_enter Try.func43, Try.ntmps43
  go_wp2
  go_ret
  exact ⟨rfl, rfl⟩

/-- The element's box. -/
def W43 (w : World) (x : It) : World := w.alloc (.cells #[.int .i64 x.c, .int .i64 x.v, .int .i64 x.l] 43)
theorem below43 (w : World) (x : It) : Below w.heap.size w (W43 w x) := below_alloc (Below.refl _ _) _
theorem cells43 (w : World) (x : It) : (W43 w x).cell? ⟨w.heap.size, 0, none⟩ = some (.int .i64 x.c) ∧ (W43 w x).cell? ⟨w.heap.size, 1, none⟩ = some (.int .i64 x.v) ∧ (W43 w x).cell? ⟨w.heap.size, 2, none⟩ = some (.int .i64 x.l) :=
  ⟨(blk_cell (heap_alloc_new w _) 0).trans rfl, (blk_cell (heap_alloc_new w _) 1).trans rfl, (blk_cell (heap_alloc_new w _) 2).trans rfl⟩

theorem push_arg (h : At w base qb rb vals q) (c : Int) (x : It) (hc : c < 0 ∨ (0 ≤ c ∧ (q.rows.length : Int) ≤ c)) :
    Calls Try.prog 32 #[.pointer (some ⟨qb, 0, none⟩), .int .i64 c, x.val] w fun e w' => e = .returned (.int .i64 1) ∧ Below w.heap.size w w' := by
  have H := Lib.hid (h.below rfl (below43 w x))
  have HB := Lib.hid (below43 w x)
  have HC := Lib.hid hc
  clear h hc
  show Calls Try.prog 32 #[.pointer (some ⟨qb, 0, none⟩), .int .i64 c, .agg #[.int .i64 x.c, .int .i64 x.v, .int .i64 x.l]] w _
  go_enter Try.func32, Try.ntmps32
  go_wp2_with (go_at_call 43; refine (has_no H.out c HC.out).mono ?_; rintro e w' ⟨rfl, rfl⟩)
  go_ret
  exact ⟨rfl, HB.out⟩

theorem push_full (h : At w base qb rb vals q) (c : Nat) (x : It) {xs : List It} (hx : q.rows[c]? = some xs) (hf : q.places ≤ xs.length) :
    Calls Try.prog 32 #[.pointer (some ⟨qb, 0, none⟩), .int .i64 (c : Int), x.val] w fun e w' => e = .returned (.int .i64 141) ∧ Below w.heap.size w w' := by
  have hc : c < q.rows.length := (List.getElem?_eq_some_iff.1 hx).1
  have h1 := h.below rfl (below43 w x)
  obtain ⟨v, xs', hv, hx', hR⟩ := h1.val hc
  rw [hx] at hx'
  cases hx'
  obtain ⟨A, cap, rfl, hl, _⟩ := Kd.R_reads hR
  obtain ⟨W, hW⟩ : ∃ W, W43 w x = W := ⟨_, rfl⟩
  have HB := Lib.hid (below43 w x)
  rw [hW] at h1 HB
  obtain ⟨c0, c1, c2, c3⟩ := h1.cell
  have hr := h1.rcell hv
  have b0 : (0 : Int) ≤ (c : Int) := by omega
  have b1 : (c : Int) < (q.rows.length : Int) := by omega
  have b2 : (q.places : Int) ≤ (xs.length : Int) := by omega
  have H := Lib.hid h1
  have HW := Lib.hid hW
  clear h h1 hv hR hW
  show Calls Try.prog 32 #[.pointer (some ⟨qb, 0, none⟩), .int .i64 (c : Int), .agg #[.int .i64 x.c, .int .i64 x.v, .int .i64 x.l]] w _
  go_enter Try.func32, Try.ntmps32
  go_wp2_with fail
  rw [show w.alloc (.cells #[.int .i64 x.c, .int .i64 x.v, .int .i64 x.l] 43) = W from HW.out]
  refine (has_yes H.out c hc).mono ?_
  rintro e w' ⟨rfl, rfl⟩
  go_wp2
  go_quiet (fail)
  go_wp2
  go_ret
  exact ⟨rfl, pw_below_drewN HB.out _⟩

/-- What a push that goes through leaves. -/
def PushOk (w : World) (base qb rb : Nat) (vals : List Value) (q : QM It) (c : Nat) (x : It) (e : Ending) (w' : World) : Prop :=
  e = .returned (.int .i64 0) ∧ ∃ vals' xs, q.rows[c]? = some xs ∧ At w' base qb rb vals' { q with rows := q.rows.set c (xs ++ [x]), total := q.total + 1 } ∧ Only (Foot qb rb vals) w w' ∧ ∀ k, Foot qb rb vals' k → Foot qb rb vals k ∨ w.heap.size ≤ k

theorem push_end (h : At w base qb rb vals q) {c : Nat} {x : It} {xs : List It} (hx : q.rows[c]? = some xs) {v v1 : Value} {w1 : World} {m : Nat} (hv : vals[c]? = some v) (hR1 : K.R 43 w1 base (fun _ => True) v1 (xs ++ [x]))
    (hat : v1.ownBlock = v.ownBlock ∨ ∃ b, v1.ownBlock = some b ∧ (w.drewN m).heap.size ≤ b) (hg : (w.drewN m).grownBy w1 v.ownBlock) :
    PushOk w base qb rb vals q c x (.returned (.int .i64 0)) ((w1.setCell ⟨rb, c, none⟩ v1).setCell ⟨qb, 3, none⟩ (.int .i64 ((q.total : Int) + 1))) := by
  have hg' : w.grownBy w1 v.ownBlock := ⟨hg.os, hg.tape, hg.output, hg.size, hg.block⟩
  have h1 := h.put rfl (by decide) (by decide) (by decide) hv hg' hat hR1
  have h2 := h1.set_total rfl (by decide) (by decide) (q.total + 1)
  have hcl : c < vals.length := (List.getElem?_eq_some_iff.1 hv).1
  refine ⟨rfl, vals.set c v1, xs, hx, by simpa using h2, ?_, ?_⟩
  · refine ((Only.of_grown hg').mono (fun k hk => ?_) |>.trans ((Only.setCell w1 _ _).mono (S' := Foot qb rb vals) (fun k hk => ?_)) (fun k hk => .inl hk)).trans ((Only.setCell _ _ _).mono (S' := Foot qb rb vals) (fun k hk => ?_)) (fun k hk => .inl hk)
    · exact .inr (.inr ⟨c, v, hv, hk.symm⟩)
    · exact .inr (.inl hk)
    · exact .inl hk
  · intro k hk
    rcases hk with hk | hk | ⟨c', v', hv', hk⟩
    · exact .inl (.inl hk)
    · exact .inl (.inr (.inl hk))
    · by_cases e : c' = c
      · subst e
        rw [List.getElem?_set_self hcl] at hv'
        cases hv'
        rcases hat with hat | ⟨b, hb, hle⟩
        · exact .inl (.inr (.inr ⟨c', v, hv, hat ▸ hk⟩))
        · rw [hb] at hk
          cases hk
          exact .inr hle
      · rw [List.getElem?_set_ne (Ne.symm e)] at hv'
        exact .inl (.inr (.inr ⟨c', v', hv', hk⟩))

theorem PushOk.box {c : Nat} {x : It} {e : Ending} {w' : World} (h : PushOk (W43 w x) base qb rb vals q c x e w') : PushOk w base qb rb vals q c x e w' := by
  obtain ⟨h1, vals', xs, h2, h3, h4, h5⟩ := h
  exact ⟨h1, vals', xs, h2, h3, (Only.of_below (below43 w x) _).trans h4 (fun k hk => .inl hk), fun k hk => (h5 k hk).imp id (fun h => Nat.le_trans (below43 w x).size h)⟩
set_option maxHeartbeats 1000000 in
theorem push_ok (h0 : At w base qb rb vals q) (c : Nat) (x : It) {xs : List It} (hx : q.rows[c]? = some xs) (hf : xs.length < q.places) (hp : q.places ≤ 64) (hbase0 : base ≤ w.heap.size) (ht : q.total ≤ 4096) :
    Calls Try.prog 32 #[.pointer (some ⟨qb, 0, none⟩), .int .i64 (c : Int), x.val] w (PushOk w base qb rb vals q c x) := by
  refine Calls.mono ?_ (fun e w' => PushOk.box)
  have hc : c < q.rows.length := (List.getElem?_eq_some_iff.1 hx).1
  have h := h0.below rfl (below43 w x)
  have hbase : base ≤ (W43 w x).heap.size := Nat.le_trans hbase0 (below43 w x).size
  obtain ⟨z0, z1, z2⟩ := cells43 w x
  have hlt0 : w.heap.size < (W43 w x).heap.size := by simp [W43]
  obtain ⟨W, hW⟩ : ∃ W, W43 w x = W := ⟨_, rfl⟩
  rw [hW] at h z0 z1 z2 hlt0 hbase ⊢
  obtain ⟨g0, hg0⟩ : ∃ g0, w.heap.size = g0 := ⟨_, rfl⟩
  rw [hg0] at z0 z1 z2 hlt0
  obtain ⟨v, xs', hv, hx', hR⟩ := h.val hc
  rw [hx] at hx'
  cases hx'
  obtain ⟨A, cap, hvv, hl, _⟩ := Kd.R_reads hR
  have HVV := Lib.hid hvv
  subst hvv
  obtain ⟨c0, c1, c2, c3⟩ := h.cell
  have f3 := h.free 3
  have hr := h.rcell hv
  have fr := h.rfree c
  have b0 : (0 : Int) ≤ (c : Int) := by omega
  have b1 : (c : Int) < (q.rows.length : Int) := by omega
  have b2 : ¬ (q.places : Int) ≤ (xs.length : Int) := by omega
  have hrlt : rb < W.heap.size := heap_lt_of h.hr
  have hqlt : qb < W.heap.size := heap_lt_of h.hq
  have hqr : qb ≠ rb := h.qr (by decide)
  have hnq : some qb ≠ (Value.slice A xs.length cap).ownBlock := fun e => h.ne_q (by decide) hv e.symm rfl
  have hnr : some rb ≠ (Value.slice A xs.length cap).ownBlock := fun e => h.ne_r (by decide) hv e.symm rfl
  have k1 : ∀ n o, ((W.drewN n).alloc o).cell? ⟨qb, 1, none⟩ = some (.slice (some ⟨rb, 0, none⟩) q.rows.length q.rows.length) := fun n o => (World.cell?_alloc_old _ _ _ (by show qb ≠ W.heap.size; omega)).trans c1
  have k2 : ∀ n o, ((W.drewN n).alloc o).cell? ⟨rb, c, none⟩ = some (.slice A xs.length cap) := fun n o => (World.cell?_alloc_old _ _ _ (by show rb ≠ W.heap.size; omega)).trans hr
  have H := Lib.hid h
  have HR := Lib.hid hR
  have HV := Lib.hid hv
  have HX := Lib.hid hx
  have HW := Lib.hid hW
  have HG := Lib.hid hg0
  clear h h0 hv hR hx hW hbase0 hg0
  show Calls Try.prog 32 #[.pointer (some ⟨qb, 0, none⟩), .int .i64 (c : Int), .agg #[.int .i64 x.c, .int .i64 x.v, .int .i64 x.l]] w _
  go_enter Try.func32, Try.ntmps32
  go_wp2_with fail
  rw [show w.alloc (.cells #[.int .i64 x.c, .int .i64 x.v, .int .i64 x.l] 43) = W from HW.out, HG.out]
  refine (has_yes H.out c hc).mono ?_
  rintro e w' ⟨rfl, rfl⟩
  go_wp2
  go_quiet (fail)
  go_wp2
  go_region_law ((refine Kd.R_append_step K base (by rfl) (.tmp 35) (.tmp 37) 41 43 z43 24 (by rfl) Try.underlying41 info43 rfl (by decide) (by decide) (.slice A xs.length cap) xs x [.int .i64 x.c, .int .i64 x.v, .int .i64 x.l] (fun _ => True) (fun _ => False) (by rfl) (by rfl) (K_mk rfl) (fun _ hk => hk.elim) (fun _ _ => trivial) (Kd.R_drewN HR.out _) (pw_below_drewN (Below.refl base W) _) (by exact hbase) (by omega) ?_; intro v1 w1 hR1 hb1 hg1 hat1; obtain ⟨A1, cap1, e1⟩ := Kd.R_slice hR1; simp only [List.length_append, List.length_singleton] at e1; have E1 := Lib.hid e1; rw [e1]; clear e1; have hr1 := hg1.cell hr hnr; have fr1 : w1.frozen? ⟨rb, c, none⟩ = false := (World.frozen?_of_block (hg1.block rb hrlt hnr)).trans fr; have z1 := hg1.cell c3 hnq; have y1 := hg1.cell c1 hnq; have z2 : ∀ u, (w1.setCell ⟨rb, c, none⟩ u).cell? ⟨qb, 3, none⟩ = some (.int .i64 q.total) := fun u => (World.cell?_of_block (Below.heap_setCell w1 ⟨rb, c, none⟩ u qb hqr)).trans z1; have g1 : w1.frozen? ⟨qb, 3, none⟩ = false := (World.frozen?_of_block (hg1.block qb hqlt hnq)).trans f3))
  all_goals go_wp2
  all_goals go_ret
  all_goals exact push_end H.out HX.out HV.out (by rw [← E1.out]; exact hR1) (by rw [← E1.out]; exact hat1) hg1
end
end Go.Proofs.Ytekgdlpicgibhaa.QT
