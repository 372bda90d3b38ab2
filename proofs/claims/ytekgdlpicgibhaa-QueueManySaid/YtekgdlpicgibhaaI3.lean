/-
  The queue of structs: Pop by its walk.
-/
import Derived.Test.YtekgdlpicgibhaaI2
import Derived.IntWalk
namespace Go.Proofs.Ytekgdlpicgibhaa.QT
open Go.RowKit Go.Proofs.YtekgdlpicgibhaaW.PrintWords Go.Proofs.Ytekgdlpicgibhaa.QQ

variable {w : World} {base qb rb : Nat} {vals : List Value} {q : QM It}

theorem tmod_nat (a b : Nat) : ((a : Int) + (b : Int)) = ((a + b : Nat) : Int) := by omega

/-- What a Pop that finds one leaves. -/
def PopOk (w : World) (base qb rb : Nat) (vals : List Value) (q : QM It) (c : Nat) (x : It) (xs : List It) (e : Ending) (w' : World) : Prop :=
  e = .returned (.tuple #[.int .i64 (c : Int), x.val, .bool true]) ∧ ∃ vals', At w' base qb rb vals' { q with rows := q.rows.set c xs, total := q.total - 1, next := (c + 1) % q.rows.length } ∧ Only (Foot qb rb vals) w w' ∧ ∀ k, Foot qb rb vals' k → Foot qb rb vals k ∨ w.heap.size ≤ k

/-- What the round at i reads. -/
theorem round_facts (_h : At w base qb rb vals q) (hn : q.rows.length ≤ 64) (hnx : q.next < q.rows.length) (i : Nat) (hi : i < q.rows.length) :
    IntKind.i64.wrap ((q.next : Int) + (i : Int)) = (q.next : Int) + (i : Int) ∧ ((q.next : Int) + (i : Int)).tmod (q.rows.length : Int) = (((q.next + i) % q.rows.length : Nat) : Int) ∧ (q.next + i) % q.rows.length < q.rows.length := by
  refine ⟨IntWalk.i64_in _ (by omega), ?_, Nat.mod_lt _ (by omega)⟩
  rw [tmod_nat, ← Int.ofNat_tmod]

theorem below_set {w w1 : World} {B g j : Nat} {u : Value} (h : Below B w w1) (hg : B ≤ g) : Below B w (w1.setCell ⟨g, j, none⟩ u) :=
  ⟨h.os, h.tape, h.output, by simpa using h.size, fun k hk => (Below.heap_setCell w1 _ u k (by show k ≠ g; omega)).trans (h.block k hk)⟩
theorem blk43 (w : World) (x : It) : (W43 w x).heap[w.heap.size]? = some (.cells #[.int .i64 x.c, .int .i64 x.v, .int .i64 x.l] 43 (0, 0)) := heap_alloc_new w _
theorem isz43' : (Try.prog.info? 43).map (·.size) = some 3 := by kernel_rfl
theorem ret33 {tmps : Array Value} {W : World} {g : Nat} {x : It} {v2 v4 : Value} (h2 : tmps.getD 2 undef = v2) (h3 : tmps.getD 3 undef = .pointer (some ⟨g, 0, none⟩)) (h4 : tmps.getD 4 undef = v4) (hg : W.heap[g]? = some (.cells #[.int .i64 x.c, .int .i64 x.v, .int .i64 x.l] 43 (0, 0))) :
    (results Try.f33 tmps).run Try.prog W = .ok (.tuple #[v2, x.val, v4]) W := by
  have := results_list (fn := Try.f33) (P := Try.prog) (tmps := tmps) (w := W) (rs := [.tmp 2, .cell 3 43, .tmp 4]) rfl (by simp) (.tmp (.cell g 43 #[.int .i64 x.c, .int .i64 x.v, .int .i64 x.l] (0, 0) _ h3 hg Try.underlying43 rfl isz43' (.tmp .nil)))
  rw [h2, h4] at this
  exact this
theorem blk43set {Y : World} {g : Nat} {a b c : Value} (h : Y.heap[g]? = some (.cells #[.int .i64 0, .int .i64 0, .int .i64 0] 43 (0, 0))) : ((((Y.setCell ⟨g, 0, none⟩ a).setCell ⟨g, 1, none⟩ b).setCell ⟨g, 2, none⟩ c).drew).heap[g]? = some (.cells #[a, b, c] 43 (0, 0)) :=
  blk_set (blk_set (blk_set h 0 a) 1 b) 2 c
theorem frozen43 (w : World) (x : It) (m : Nat) (j : Nat) : ((W43 w x).drewN m).frozen? ⟨w.heap.size, j, none⟩ = false := by
  have h : ((W43 w x).drewN m).heap[w.heap.size]? = some (.cells #[.int .i64 x.c, .int .i64 x.v, .int .i64 x.l] 43 (0, 0)) := heap_alloc_new w _
  exact blk_frozen h j
set_option maxHeartbeats 1000000 in
theorem pop_none (h0 : At w base qb rb vals q) (hn : q.rows.length ≤ 64) (h1 : 1 ≤ q.rows.length) (hnx : q.next < q.rows.length) (he : ∀ j, j < q.rows.length → q.rows[(q.next + j) % q.rows.length]? = some []) :
    Calls Try.prog 33 #[.pointer (some ⟨qb, 0, none⟩)] w fun e w' => e = .returned (.tuple #[.int .i64 0, z43, .bool false]) ∧ Below w.heap.size w w' := by
  have h := h0.below rfl (below43 w ⟨0, 0, 0⟩)
  have HB := Lib.hid (below43 w ⟨0, 0, 0⟩)
  have fz := frozen43 w ⟨0, 0, 0⟩
  have rz := cells43 w ⟨0, 0, 0⟩
  have rh := blk43 w ⟨0, 0, 0⟩
  obtain ⟨W, hW⟩ : ∃ W, W43 w ⟨0, 0, 0⟩ = W := ⟨_, rfl⟩
  rw [hW] at h HB fz rz rh
  have hgl : Hid (w.heap.size < W.heap.size) := by subst hW; show _ < (W43 w ⟨0, 0, 0⟩).heap.size; simp [W43]
  obtain ⟨c0, c1, c2, c3⟩ := h.cell
  have b0 : (1 : Int) ≤ (q.rows.length : Int) := by omega
  have b2 : (q.rows.length : Int) ≤ 64 := by omega
  have H := Lib.hid h
  have HE := Lib.hid he
  have HW := Lib.hid hW
  have d1 : (w.alloc (.cells #[.int .i64 0, .int .i64 0, .int .i64 0] 43)).cell? ⟨qb, 1, none⟩ = some (.slice (some ⟨rb, 0, none⟩) q.rows.length q.rows.length) := (h0.below rfl (below43 w ⟨0, 0, 0⟩)).cell.2.1
  clear h h0 he hW
  go_enter Try.func33, Try.ntmps33
  go_wp2
  clear d1
  rw [show w.alloc (.cells #[.int .i64 0, .int .i64 0, .int .i64 0] 43) = W from HW.out]
  go_loopw [14] (fun i wr => ∃ k m : Nat, k ≤ q.rows.length ∧ i = .int .i64 k ∧ wr = W.drewN m) (fun i _ => q.rows.length - (intOf i).toNat)
  case atStart => exact ⟨0, 0, Nat.zero_le _, rfl, rfl⟩
  case round =>
    obtain ⟨k, m, hk, rfl, rfl⟩ := hrel
    by_cases hlt : k < q.rows.length
    · obtain ⟨e1, e2, e3⟩ := round_facts H.out hn hnx k hlt
      obtain ⟨v, xs, hv, hx, hR⟩ := H.out.val e3
      rw [HE.out k hlt] at hx
      cases hx
      obtain ⟨A, cap, rfl, hl, _⟩ := Kd.R_reads hR
      have hr := H.out.rcell hv
      obtain ⟨c, hc⟩ : ∃ c, (q.next + k) % q.rows.length = c := ⟨_, rfl⟩
      rw [hc] at e2 e3 hr
      have b4 : (0 : Int) ≤ (c : Int) := by omega
      have b5 : (c : Int) < (q.rows.length : Int) := by omega
      clear hv hR hc
      go_wp2
      go_quiet (fail)
      go_wp2
      go_roundw
      case rel => exact ⟨k + 1, _, hlt, by go_num, rfl⟩
      case measure => simp [intOf]; omega
    · have fz2 : ∀ ob j, ((W.drewN m).alloc ob).frozen? ⟨w.heap.size, j, none⟩ = false := fun ob j => (World.frozen?_of_block (Below.heap_alloc (W.drewN m) ob w.heap.size hgl.out)).trans (fz m j)
      have rz2 : ∀ j v, W.cell? ⟨w.heap.size, j, none⟩ = some v → ((W.drewN m).alloc (.cells #[.int .i64 0, .int .i64 0, .int .i64 0] 43)).cell? ⟨w.heap.size, j, none⟩ = some v := fun j v hv => (World.cell?_alloc_old _ _ _ (by have := hgl.out; show w.heap.size ≠ W.heap.size; omega)).trans hv
      have r0 := rz2 0 _ rz.1
      have r1 := rz2 1 _ rz.2.1
      have r2 := rz2 2 _ rz.2.2
      clear rz rz2
      obtain ⟨n0, n1, n2⟩ : ((W.drewN m).alloc (.cells #[.int .i64 0, .int .i64 0, .int .i64 0] 43)).cell? ⟨W.heap.size, 0, none⟩ = some (.int .i64 0) ∧ ((W.drewN m).alloc (.cells #[.int .i64 0, .int .i64 0, .int .i64 0] 43)).cell? ⟨W.heap.size, 1, none⟩ = some (.int .i64 0) ∧ ((W.drewN m).alloc (.cells #[.int .i64 0, .int .i64 0, .int .i64 0] 43)).cell? ⟨W.heap.size, 2, none⟩ = some (.int .i64 0) := cells43 (W.drewN m) ⟨0, 0, 0⟩
      go_wp2
      first | go_quiet (fail) | go_region_law (fail)
      all_goals go_wp2
      all_goals
        have rh2 : ((W.drewN m).alloc (.cells #[.int .i64 0, .int .i64 0, .int .i64 0] 43)).heap[w.heap.size]? = some (.cells #[.int .i64 0, .int .i64 0, .int .i64 0] 43 (0, 0)) := (Below.heap_alloc (W.drewN m) _ w.heap.size hgl.out).trans rh
        have HG := blk_set (blk_set (blk_set rh2 0 (.int .i64 0)) 1 (.int .i64 0)) 2 (.int .i64 0)
        (try simp only [Exit.inBlock, Exit.then])
        refine bodyPost_ret (results_list (rs := [.tmp 2, .cell 3 43, .tmp 4]) rfl (by simp) (.tmp (.cell w.heap.size 43 #[.int .i64 0, .int .i64 0, .int .i64 0] (0, 0) _ rfl HG Try.underlying43 rfl isz43' (.tmp .nil)))) rfl ?_
        refine ⟨rfl, ?_⟩
        exact below_drew (below_set (below_set (below_set (below_alloc (pw_below_drewN HB.out m) _) (Nat.le_refl _)) (Nat.le_refl _)) (Nat.le_refl _))

theorem pop_end (h : At w base qb rb vals q) {c : Nat} {x : It} {xs : List It} (hx : q.rows[c]? = some (x :: xs)) {v v1 : Value} {w1 : World} {m : Nat} (hv : vals[c]? = some v) (hR1 : K.R 43 w1 base (fun _ => True) v1 xs)
    (hat : v1.ownBlock = v.ownBlock) (hg : (w.drewN m).grownBy w1 v.ownBlock) {nx tot : Int} (hnx : nx = (((c + 1) % q.rows.length : Nat) : Int)) (htot : tot = ((q.total - 1 : Nat) : Int)) :
    PopOk w base qb rb vals q c x xs (.returned (.tuple #[.int .i64 (c : Int), x.val, .bool true])) (((w1.setCell ⟨rb, c, none⟩ v1).setCell ⟨qb, 3, none⟩ (.int .i64 tot)).setCell ⟨qb, 2, none⟩ (.int .i64 nx)) := by
  have hg' : w.grownBy w1 v.ownBlock := ⟨hg.os, hg.tape, hg.output, hg.size, hg.block⟩
  subst hnx
  subst htot
  have h1 := h.put rfl (by decide) (by decide) (by decide) hv hg' (.inl hat) hR1
  have h2 := h1.set_total rfl (by decide) (by decide) (q.total - 1)
  have h3 := h2.set_next rfl (by decide) (by decide) ((c + 1) % q.rows.length)
  have hcl : c < vals.length := (List.getElem?_eq_some_iff.1 hv).1
  refine ⟨rfl, vals.set c v1, h3, ?_, ?_⟩
  · refine (((Only.of_grown hg').mono (fun k hk => ?_) |>.trans ((Only.setCell w1 _ _).mono (S' := Foot qb rb vals) (fun k hk => ?_)) (fun k hk => .inl hk)).trans ((Only.setCell _ _ _).mono (S' := Foot qb rb vals) (fun k hk => ?_)) (fun k hk => .inl hk)).trans ((Only.setCell _ _ _).mono (S' := Foot qb rb vals) (fun k hk => ?_)) (fun k hk => .inl hk)
    · exact .inr (.inr ⟨c, v, hv, hk.symm⟩)
    · exact .inr (.inl hk)
    · exact .inl hk
    · exact .inl hk
  · intro k hk
    rcases hk with hk | hk | ⟨c', v', hv', hk⟩
    · exact .inl (.inl hk)
    · exact .inl (.inr (.inl hk))
    · by_cases e : c' = c
      · subst e
        rw [List.getElem?_set_self hcl] at hv'
        cases hv'
        exact .inl (.inr (.inr ⟨c', v, hv, hat ▸ hk⟩))
      · rw [List.getElem?_set_ne (Ne.symm e)] at hv'
        exact .inl (.inr (.inr ⟨c', v', hv', hk⟩))

theorem head43 {W : World} {g n cap : Nat} {x : It} {xs : List It} (h : K.R 43 W base (fun _ => True) (.slice (some ⟨g, 0, none⟩) n cap) (x :: xs)) :
    W.cell? ⟨g, 0, none⟩ = some (.int .i64 x.c) ∧ W.cell? ⟨g, 1, none⟩ = some (.int .i64 x.v) ∧ W.cell? ⟨g, 2, none⟩ = some (.int .i64 x.l) := by
  obtain ⟨hn, _, hC⟩ := Kd.R_reads' h
  obtain ⟨ad, cs, hA, _, hK, hc⟩ := Kd.C_get hC x 0 (by omega) (by simp)
  cases hA
  obtain ⟨rfl, _⟩ := hK
  have z0 := hc 0 _ rfl
  have z1 := hc 1 _ rfl
  have z2 := hc 2 _ rfl
  have e : ∀ n, Addr.add ⟨g, 0, none⟩ n = ⟨g, n, none⟩ := by
    intro n
    unfold Addr.add
    split
    · next h => rw [h]
    · simp
  rw [e] at z0 z1 z2
  simpa using ⟨z0, z1, z2⟩
/-- The result's box has been written. -/
theorem PopOk.box {W8 Y Z : World} {c : Nat} {x : It} {xs : List It} {e : Ending} (h0 : At w base qb rb vals q) (hb : Below w.heap.size w W8) (hlt : w.heap.size < W8.heap.size) (h : PopOk W8 base qb rb vals q c x xs e Y) (ho : Only (fun k => k = w.heap.size) Y Z) : PopOk w base qb rb vals q c x xs e Z := by
  obtain ⟨h1, vals', hA, hO, hF⟩ := h
  refine ⟨h1, vals', hA.only rfl ho (fun k hk e => ?_), ((Only.of_below hb _).trans hO (fun k hk => .inl hk)).trans ho (fun k hk => .inr (by omega)), fun k hk => (hF k hk).imp id (fun h => Nat.le_trans hb.size h)⟩
  rcases hF k hk with h | h
  · have := (h0.foot_base h).2; omega
  · omega
set_option maxHeartbeats 4000000 in
theorem pop_some (h0 : At w base qb rb vals q) (hn : q.rows.length ≤ 64) (hnx : q.next < q.rows.length) (hbase0 : base ≤ w.heap.size) (i : Nat) (hi : i < q.rows.length) (he : ∀ j, j < i → q.rows[(q.next + j) % q.rows.length]? = some []) {x : It} {xs : List It} (hx : q.rows[(q.next + i) % q.rows.length]? = some (x :: xs)) (ht : 1 ≤ q.total) (ht2 : q.total ≤ 4096) :
    Calls Try.prog 33 #[.pointer (some ⟨qb, 0, none⟩)] w (PopOk w base qb rb vals q ((q.next + i) % q.rows.length) x xs) := by
  have h := h0.below rfl (below43 w ⟨0, 0, 0⟩)
  have HB := Lib.hid (below43 w ⟨0, 0, 0⟩)
  have fz := frozen43 w ⟨0, 0, 0⟩
  have rh := blk43 w ⟨0, 0, 0⟩
  have d1 : (w.alloc (.cells #[.int .i64 0, .int .i64 0, .int .i64 0] 43)).cell? ⟨qb, 1, none⟩ = some (.slice (some ⟨rb, 0, none⟩) q.rows.length q.rows.length) := (h0.below rfl (below43 w ⟨0, 0, 0⟩)).cell.2.1
  obtain ⟨W, hW⟩ : ∃ W, W43 w ⟨0, 0, 0⟩ = W := ⟨_, rfl⟩
  rw [hW] at h HB fz rh
  have hgl : Hid (w.heap.size < W.heap.size) := by subst hW; show _ < (W43 w ⟨0, 0, 0⟩).heap.size; simp [W43]
  have hbase : base ≤ W.heap.size := Nat.le_trans hbase0 HB.out.size
  obtain ⟨c0, c1, c2, c3⟩ := h.cell
  have b0 : (1 : Int) ≤ (q.rows.length : Int) := by omega
  have b2 : (q.rows.length : Int) ≤ 64 := by omega
  have b3 : (1 : Int) ≤ (q.total : Int) := by omega
  have b6 : (q.total : Int) ≤ 4096 := by omega
  have hqr : qb ≠ rb := h.qr (by decide)
  have H := Lib.hid h
  have H0 := Lib.hid h0
  have HE := Lib.hid he
  have HX := Lib.hid hx
  have HW := Lib.hid hW
  clear h h0 he hx hW
  go_enter Try.func33, Try.ntmps33
  go_wp2
  clear d1
  rw [show w.alloc (.cells #[.int .i64 0, .int .i64 0, .int .i64 0] 43) = W from HW.out]
  go_loopw [14] (fun i' wr => ∃ k m : Nat, k ≤ i ∧ i' = .int .i64 k ∧ wr = W.drewN m) (fun i _ => q.rows.length - (intOf i).toNat)
  case atStart => exact ⟨0, 0, Nat.zero_le _, rfl, rfl⟩
  case round =>
    obtain ⟨k, m, hk, rfl, rfl⟩ := hrel
    have hlt : k < q.rows.length := by omega
    obtain ⟨e1, e2, e3⟩ := round_facts H.out hn hnx k hlt
    by_cases hki : k < i
    · obtain ⟨v, xs, hv, hx, hR⟩ := H.out.val e3
      rw [HE.out k hki] at hx
      cases hx
      obtain ⟨A, cap, rfl, hl, _⟩ := Kd.R_reads hR
      have hr := H.out.rcell hv
      obtain ⟨c, hc⟩ : ∃ c, (q.next + k) % q.rows.length = c := ⟨_, rfl⟩
      rw [hc] at e2 e3 hr
      have b4 : (0 : Int) ≤ (c : Int) := by omega
      have b5 : (c : Int) < (q.rows.length : Int) := by omega
      clear hv hR hc
      go_wp2
      go_quiet (fail)
      go_wp2
      go_roundw
      case rel => exact ⟨k + 1, _, hki, by go_num, rfl⟩
      case measure => simp [intOf]; omega
    · obtain rfl : k = i := by omega
      obtain ⟨c, hc⟩ : ∃ c, (q.next + k) % q.rows.length = c := ⟨_, rfl⟩
      have hx := HX.out
      rw [hc] at e2 e3 hx ⊢
      obtain ⟨v, xs', hv, hx', hR⟩ := H.out.val e3
      rw [hx] at hx'
      cases hx'
      obtain ⟨A, cap, hvv, hl, hC⟩ := Kd.R_reads hR
      obtain ⟨ad, hA, _⟩ := hC.2.2 (by simp)
      subst hA
      subst hvv
      obtain ⟨g, rfl⟩ := Kd.R_head hR
      have hr := H.out.rcell hv
      have fr := H.out.rfree c
      obtain ⟨hx0, hx1, hx2⟩ := head43 hR
      have b4 : (0 : Int) ≤ (c : Int) := by omega
      have b5 : (c : Int) < (q.rows.length : Int) := by omega
      have b7 : (0 : Int) < ((x :: xs).length : Int) := by rw [List.length_cons]; omega
      have b8 : (((x :: xs).length : Int) == 0) = false := beq_eq_false_iff_ne.2 (by simp; omega)
      obtain ⟨N, hN⟩ : ∃ N, (x :: xs).length = N := ⟨_, rfl⟩
      rw [hN] at hr hR b7 b8 hv hl
      have HR := Lib.hid hR
      have HV := Lib.hid hv
      have HX2 := Lib.hid hx
      have HN := Lib.hid hN
      clear hR hv hx hN hc
      have na : ∀ m, ((W.drewN m).alloc (.cells #[.int .i64 0, .int .i64 0, .int .i64 0] 43)).cell? ⟨W.heap.size, 0, none⟩ = some (.int .i64 0) ∧ ((W.drewN m).alloc (.cells #[.int .i64 0, .int .i64 0, .int .i64 0] 43)).cell? ⟨W.heap.size, 1, none⟩ = some (.int .i64 0) ∧ ((W.drewN m).alloc (.cells #[.int .i64 0, .int .i64 0, .int .i64 0] 43)).cell? ⟨W.heap.size, 2, none⟩ = some (.int .i64 0) := fun m => cells43 (W.drewN m) ⟨0, 0, 0⟩
      have na0 := fun m => (na m).1
      have na1 := fun m => (na m).2.1
      have na2 := fun m => (na m).2.2
      have nf : ∀ m j, ((W.drewN m).alloc (.cells #[.int .i64 0, .int .i64 0, .int .i64 0] 43)).frozen? ⟨W.heap.size, j, none⟩ = false := fun m j => blk_frozen (blk43 (W.drewN m) ⟨0, 0, 0⟩) j
      clear na fz
      go_wp2
      go_quiet (fail)
      go_upto_region 7 with fail
      obtain ⟨W8, hW8⟩ : ∃ W8, ((((W.drewN (m + nq)).alloc (.cells #[.int .i64 0, .int .i64 0, .int .i64 0] 43)).setCell ⟨W.heap.size, 0, none⟩ (.int .i64 x.c)).setCell ⟨W.heap.size, 1, none⟩ (.int .i64 x.v)).setCell ⟨W.heap.size, 2, none⟩ (.int .i64 x.l) = W8 := ⟨_, rfl⟩
      rw [hW8]
      have hB8 : Below W.heap.size W W8 := by
        subst hW8
        exact below_set (below_set (below_set (below_alloc (pw_below_drewN (Below.refl _ _) _) _) (Nat.le_refl _)) (Nat.le_refl _)) (Nat.le_refl _)
      have h8 : W8.heap[W.heap.size]? = some (.cells #[.int .i64 x.c, .int .i64 x.v, .int .i64 x.l] 43 (0, 0)) := by
        subst hW8
        exact blk_set (blk_set (blk_set (blk43 (W.drewN (m + nq)) ⟨0, 0, 0⟩) 0 _) 1 _) 2 _
      have h3 : W8.heap[w.heap.size]? = some (.cells #[.int .i64 0, .int .i64 0, .int .i64 0] 43 (0, 0)) := (hB8.block _ hgl.out).trans rh
      have hqlt : qb < w.heap.size := heap_lt_of H0.out.hq
      have hrlt : rb < w.heap.size := heap_lt_of H0.out.hr
      have hglt : g < w.heap.size := by
        obtain ⟨v', xs', hv', _, hR'⟩ := H0.out.val e3
        rw [HV.out] at hv'
        cases hv'
        exact Kd.R_lt hR' g rfl
      have hnq : some qb ≠ some g := fun e => H.out.ne_q (by decide) HV.out (k := g) (by simp [Value.ownBlock]) (by injection e with e; exact e.symm)
      have hnr : some rb ≠ some g := fun e => H.out.ne_r (by decide) HV.out (k := g) (by simp [Value.ownBlock]) (by injection e with e; exact e.symm)
      have hWl := hgl.out
      have H8 := Lib.hid (H.out.below rfl hB8)
      have HB8 := Lib.hid hB8
      have HH8 := Lib.hid h8
      have HH3 := Lib.hid h3
      have s8 : Hid (W.heap.size < W8.heap.size) := heap_lt_of h8
      clear hW8 hB8 h8 h3 na0 na1 na2 nf c0 c1 c2 c3 hr fr hx0 hx1 hx2
      obtain ⟨c0, c1, c2, c3⟩ := H8.out.cell
      have hr := H8.out.rcell HV.out
      have fr := H8.out.rfree c
      have f2 := H8.out.free 2
      have f3 := H8.out.free 3
      go_region_law (go_simp; go_at_call 44; refine (delete _ base g N cap (x :: xs) (Kd.R_drewN (Kd.R_below HR.out HB8.out) _) (by omega) (by exact Nat.le_trans hbase HB8.out.size)).mono ?_; rintro e w1 ⟨rfl, hR1, hg1⟩; have hr1 := hg1.cell hr hnr; have fr1 : w1.frozen? ⟨rb, c, none⟩ = false := (World.frozen?_of_block (hg1.block rb (Nat.lt_of_lt_of_le (Nat.lt_trans hrlt hWl) HB8.out.size) hnr)).trans fr; have z1 := hg1.cell c3 hnq; have y1 := hg1.cell c1 hnq; have g3 : w1.frozen? ⟨qb, 3, none⟩ = false := (World.frozen?_of_block (hg1.block qb (Nat.lt_of_lt_of_le (Nat.lt_trans hqlt hWl) HB8.out.size) hnq)).trans f3; have g2 : w1.frozen? ⟨qb, 2, none⟩ = false := (World.frozen?_of_block (hg1.block qb (Nat.lt_of_lt_of_le (Nat.lt_trans hqlt hWl) HB8.out.size) hnq)).trans f2; have z2 : ∀ u, (w1.setCell ⟨rb, c, none⟩ u).cell? ⟨qb, 3, none⟩ = some (.int .i64 q.total) := fun u => (World.cell?_of_block (Below.heap_setCell w1 ⟨rb, c, none⟩ u qb hqr)).trans z1; have z3 : ∀ u, (w1.setCell ⟨rb, c, none⟩ u).cell? ⟨qb, 1, none⟩ = some (.slice (some ⟨rb, 0, none⟩) q.rows.length q.rows.length) := fun u => (World.cell?_of_block (Below.heap_setCell w1 ⟨rb, c, none⟩ u qb hqr)).trans y1; have z4 : ∀ u, (w1.setCell ⟨rb, c, none⟩ u).cell? ⟨qb, 2, none⟩ = some (.int .i64 q.next) := fun u => (World.cell?_of_block (Below.heap_setCell w1 ⟨rb, c, none⟩ u qb hqr)).trans (hg1.cell c2 hnq); have HY : Hid (∀ u1 u2 u3 k, w.heap.size ≤ k → k < W8.heap.size → (((w1.setCell ⟨rb, c, none⟩ u1).setCell ⟨qb, 3, none⟩ u2).setCell ⟨qb, 2, none⟩ u3).heap[k]? = W8.heap[k]?) := (fun u1 u2 u3 k h1 h2 => (Below.heap_setCell _ ⟨qb, 2, none⟩ u3 k (by show k ≠ qb; omega)).trans ((Below.heap_setCell _ ⟨qb, 3, none⟩ u2 k (by show k ≠ qb; omega)).trans ((Below.heap_setCell _ ⟨rb, c, none⟩ u1 k (by show k ≠ rb; omega)).trans (hg1.block k h2 (fun e => by injection e with e; omega))))); have HR1 := Lib.hid hR1; have HG1 := Lib.hid hg1; clear hR1 hg1)
      all_goals
        have Y8 := fun u1 u2 u3 => (HY.out u1 u2 u3 W.heap.size (by omega) s8.out).trans HH8.out
        have Y3 := fun u1 u2 u3 => (HY.out u1 u2 u3 w.heap.size (Nat.le_refl _) (Nat.lt_trans hWl s8.out)).trans HH3.out
        have i0 := fun u1 u2 u3 => (blk_cell (Y8 u1 u2 u3) 0).trans rfl
        have i1 := fun u1 u2 u3 => (blk_cell (Y8 u1 u2 u3) 1).trans rfl
        have i2 := fun u1 u2 u3 => (blk_cell (Y8 u1 u2 u3) 2).trans rfl
        have j0 := fun u1 u2 u3 => (blk_cell (Y3 u1 u2 u3) 0).trans rfl
        have j1 := fun u1 u2 u3 => (blk_cell (Y3 u1 u2 u3) 1).trans rfl
        have j2 := fun u1 u2 u3 => (blk_cell (Y3 u1 u2 u3) 2).trans rfl
        have j3 := fun u1 u2 u3 j => blk_frozen (Y3 u1 u2 u3) j
        have HY3 := Lib.hid Y3
        clear Y8 Y3
        go_upto_region 10 with fail
        go_region_law (fail)
      all_goals go_wp2
      all_goals
        have HG := blk43set (a := .int .i64 x.c) (b := .int .i64 x.v) (c := .int .i64 x.l) (HY3.out (.slice (some ⟨g, 0, none⟩) (N - 1) cap) (.int .i64 ((q.total : Int) - 1)) (.int .i64 (((c : Int) + 1) % (q.rows.length : Int))))
        have hE := PopOk.box H0.out (HB.out.trans (HB8.out.mono HB.out.size)) (Nat.lt_trans hWl s8.out) (pop_end H8.out HX2.out HV.out HR1.out rfl HG1.out (nx := ((c : Int) + 1) % (q.rows.length : Int)) (tot := (q.total : Int) - 1) (by simp) (by omega)) (((Only.setCell _ ⟨w.heap.size, 0, none⟩ (.int .i64 x.c)).trans (Only.setCell _ ⟨w.heap.size, 1, none⟩ (.int .i64 x.v)) (fun k hk => .inl hk)).trans ((Only.setCell _ ⟨w.heap.size, 2, none⟩ (.int .i64 x.l)).trans (Only.drewN _ (fun k => k = w.heap.size) 1) (fun k hk => .inl hk)) (fun k hk => .inl hk))
        (try simp only [Exit.inBlock, Exit.then])
        refine bodyPost_ret (v := .tuple #[.int .i64 (c : Int), x.val, .bool true]) (ret33 (x := x) (g := w.heap.size) ?h2 ?h3 ?h4 HG) rfl ?_
        case h2 => kernel_rfl
        case h3 => kernel_rfl
        case h4 => kernel_rfl
        exact hE
end Go.Proofs.Ytekgdlpicgibhaa.QT
