/-
  The queue of ints: Pop by its walk.
-/
import Derived.Test.YtekgdlpicgibhaaQ2
import Derived.IntWalk
namespace Go.Proofs.Ytekgdlpicgibhaa.QI
open Go.RowKit Go.Proofs.YtekgdlpicgibhaaW.PrintWords Go.Proofs.Ytekgdlpicgibhaa.QQ

variable {w : World} {base qb rb : Nat} {vals : List Value} {q : QM Int}

theorem tmod_nat (a b : Nat) : ((a : Int) + (b : Int)) = ((a + b : Nat) : Int) := by omega

/-- What a Pop that finds one leaves. -/
def PopOk (w : World) (base qb rb : Nat) (vals : List Value) (q : QM Int) (c : Nat) (x : Int) (xs : List Int) (e : Ending) (w' : World) : Prop :=
  e = .returned (.tuple #[.int .i64 (c : Int), .int .i64 x, .bool true]) ∧ ∃ vals', At w' base qb rb vals' { q with rows := q.rows.set c xs, total := q.total - 1, next := (c + 1) % q.rows.length } ∧ Only (Foot qb rb vals) w w' ∧ ∀ k, Foot qb rb vals' k → Foot qb rb vals k ∨ w.heap.size ≤ k

/-- What the round at i reads. -/
theorem round_facts (_h : At w base qb rb vals q) (hn : q.rows.length ≤ 64) (hnx : q.next < q.rows.length) (i : Nat) (hi : i < q.rows.length) :
    IntKind.i64.wrap ((q.next : Int) + (i : Int)) = (q.next : Int) + (i : Int) ∧ ((q.next : Int) + (i : Int)).tmod (q.rows.length : Int) = (((q.next + i) % q.rows.length : Nat) : Int) ∧ (q.next + i) % q.rows.length < q.rows.length := by
  refine ⟨IntWalk.i64_in _ (by omega), ?_, Nat.mod_lt _ (by omega)⟩
  rw [tmod_nat, ← Int.ofNat_tmod]

theorem pop_none (h : At w base qb rb vals q) (hn : q.rows.length ≤ 64) (h1 : 1 ≤ q.rows.length) (hnx : q.next < q.rows.length) (he : ∀ j, j < q.rows.length → q.rows[(q.next + j) % q.rows.length]? = some []) :
    Calls Try.prog 18 #[.pointer (some ⟨qb, 0, none⟩)] w fun e w' => e = .returned (.tuple #[.int .i64 0, .int .i64 0, .bool false]) ∧ ∃ n, w' = w.drewN n := by
  obtain ⟨c0, c1, c2, c3⟩ := h.cell
  have b0 : (1 : Int) ≤ (q.rows.length : Int) := by omega
  have b2 : (q.rows.length : Int) ≤ 64 := by omega
  have H := Lib.hid h
  have HE := Lib.hid he
  clear h he
  go_enter Try.func18, Try.ntmps18
  go_wp2
  go_loopw [14] (fun i wr => ∃ k m : Nat, k ≤ q.rows.length ∧ i = .int .i64 k ∧ wr = w.drewN m) (fun i _ => q.rows.length - (intOf i).toNat)
  case atStart => exact ⟨0, 0, Nat.zero_le _, rfl, rfl⟩
  case round =>
    obtain ⟨k, m, hk, rfl, rfl⟩ := hrel
    by_cases hlt : k < q.rows.length
    · obtain ⟨e1, e2, e3⟩ := round_facts H.out hn hnx k hlt
      obtain ⟨v, xs, hv, hx, hR⟩ := H.out.val e3
      rw [HE.out k hlt] at hx
      cases hx
      obtain ⟨A, cap, rfl, hl, _⟩ := Kd.R_reads hR
      have hr := H.out.rcell hv
      obtain ⟨c, hc⟩ : ∃ c, (q.next + k) % q.rows.length = c := ⟨_, rfl⟩
      rw [hc] at e2 e3 hr
      have b4 : (0 : Int) ≤ (c : Int) := by omega
      have b5 : (c : Int) < (q.rows.length : Int) := by omega
      clear hv hR hc
      go_wp2
      go_quiet (fail)
      go_wp2
      go_roundw
      case rel => exact ⟨k + 1, _, hlt, by go_num, rfl⟩
      case measure => simp [intOf]; omega
    · go_wp2
      go_ret3
      exact ⟨rfl, m, rfl⟩

theorem pop_end (h : At w base qb rb vals q) {c : Nat} {x : Int} {xs : List Int} (hx : q.rows[c]? = some (x :: xs)) {v v1 : Value} {w1 : World} {m : Nat} (hv : vals[c]? = some v) (hR1 : K.R 3 w1 base (fun _ => True) v1 xs)
    (hat : v1.ownBlock = v.ownBlock) (hg : (w.drewN m).grownBy w1 v.ownBlock) {nx tot : Int} (hnx : nx = (((c + 1) % q.rows.length : Nat) : Int)) (htot : tot = ((q.total - 1 : Nat) : Int)) :
    PopOk w base qb rb vals q c x xs (.returned (.tuple #[.int .i64 (c : Int), .int .i64 x, .bool true])) (((w1.setCell ⟨rb, c, none⟩ v1).setCell ⟨qb, 3, none⟩ (.int .i64 tot)).setCell ⟨qb, 2, none⟩ (.int .i64 nx)) := by
  have hg' : w.grownBy w1 v.ownBlock := ⟨hg.os, hg.tape, hg.output, hg.size, hg.block⟩
  subst hnx
  subst htot
  have h1 := h.put rfl (by decide) (by decide) (by decide) hv hg' (.inl hat) hR1
  have h2 := h1.set_total rfl (by decide) (by decide) (q.total - 1)
  have h3 := h2.set_next rfl (by decide) (by decide) ((c + 1) % q.rows.length)
  have hcl : c < vals.length := (List.getElem?_eq_some_iff.1 hv).1
  refine ⟨rfl, vals.set c v1, h3, ?_, ?_⟩
  · refine (((Only.of_grown hg').mono (fun k hk => ?_) |>.trans ((Only.setCell w1 _ _).mono (S' := Foot qb rb vals) (fun k hk => ?_)) (fun k hk => .inl hk)).trans ((Only.setCell _ _ _).mono (S' := Foot qb rb vals) (fun k hk => ?_)) (fun k hk => .inl hk)).trans ((Only.setCell _ _ _).mono (S' := Foot qb rb vals) (fun k hk => ?_)) (fun k hk => .inl hk)
    · exact .inr (.inr ⟨c, v, hv, hk.symm⟩)
    · exact .inr (.inl hk)
    · exact .inl hk
    · exact .inl hk
  · intro k hk
    rcases hk with hk | hk | ⟨c', v', hv', hk⟩
    · exact .inl (.inl hk)
    · exact .inl (.inr (.inl hk))
    · by_cases e : c' = c
      · subst e
        rw [List.getElem?_set_self hcl] at hv'
        cases hv'
        exact .inl (.inr (.inr ⟨c', v, hv, hat ▸ hk⟩))
      · rw [List.getElem?_set_ne (Ne.symm e)] at hv'
        exact .inl (.inr (.inr ⟨c', v', hv', hk⟩))

set_option maxHeartbeats 2000000 in
theorem pop_some (h : At w base qb rb vals q) (hn : q.rows.length ≤ 64) (hnx : q.next < q.rows.length) (hbase : base ≤ w.heap.size) (i : Nat) (hi : i < q.rows.length) (he : ∀ j, j < i → q.rows[(q.next + j) % q.rows.length]? = some []) {x : Int} {xs : List Int} (hx : q.rows[(q.next + i) % q.rows.length]? = some (x :: xs)) (ht : 1 ≤ q.total) (ht2 : q.total ≤ 4096) :
    Calls Try.prog 18 #[.pointer (some ⟨qb, 0, none⟩)] w (PopOk w base qb rb vals q ((q.next + i) % q.rows.length) x xs) := by
  obtain ⟨c0, c1, c2, c3⟩ := h.cell
  have b0 : (1 : Int) ≤ (q.rows.length : Int) := by omega
  have b2 : (q.rows.length : Int) ≤ 64 := by omega
  have b3 : (1 : Int) ≤ (q.total : Int) := by omega
  have b6 : (q.total : Int) ≤ 4096 := by omega
  have f2 := h.free 2
  have f3 := h.free 3
  have hrlt : rb < w.heap.size := heap_lt_of h.hr
  have hqlt : qb < w.heap.size := heap_lt_of h.hq
  have hqr : qb ≠ rb := h.qr (by decide)
  have H := Lib.hid h
  have HE := Lib.hid he
  have HX := Lib.hid hx
  clear h he hx
  go_enter Try.func18, Try.ntmps18
  go_wp2
  go_loopw [14] (fun i' wr => ∃ k m : Nat, k ≤ i ∧ i' = .int .i64 k ∧ wr = w.drewN m) (fun i _ => q.rows.length - (intOf i).toNat)
  case atStart => exact ⟨0, 0, Nat.zero_le _, rfl, rfl⟩
  case round =>
    obtain ⟨k, m, hk, rfl, rfl⟩ := hrel
    have hlt : k < q.rows.length := by omega
    obtain ⟨e1, e2, e3⟩ := round_facts H.out hn hnx k hlt
    by_cases hki : k < i
    · obtain ⟨v, xs, hv, hx, hR⟩ := H.out.val e3
      rw [HE.out k hki] at hx
      cases hx
      obtain ⟨A, cap, rfl, hl, _⟩ := Kd.R_reads hR
      have hr := H.out.rcell hv
      obtain ⟨c, hc⟩ : ∃ c, (q.next + k) % q.rows.length = c := ⟨_, rfl⟩
      rw [hc] at e2 e3 hr
      have b4 : (0 : Int) ≤ (c : Int) := by omega
      have b5 : (c : Int) < (q.rows.length : Int) := by omega
      clear hv hR hc
      go_wp2
      go_quiet (fail)
      go_wp2
      go_roundw
      case rel => exact ⟨k + 1, _, hki, by go_num, rfl⟩
      case measure => simp [intOf]; omega
    · obtain rfl : k = i := by omega
      obtain ⟨c, hc⟩ : ∃ c, (q.next + k) % q.rows.length = c := ⟨_, rfl⟩
      have hx := HX.out
      rw [hc] at e2 e3 hx ⊢
      obtain ⟨v, xs', hv, hx', hR⟩ := H.out.val e3
      rw [hx] at hx'
      cases hx'
      obtain ⟨A, cap, hvv, hl, hC⟩ := Kd.R_reads hR
      obtain ⟨ad, hA, _⟩ := hC.2.2 (by simp)
      subst hA
      subst hvv
      obtain ⟨g, rfl⟩ := Kd.R_head hR
      have hr := H.out.rcell hv
      have fr := H.out.rfree c
      have hnq : some qb ≠ some g := fun e => H.out.ne_q (by decide) hv (k := g) (by simp [Value.ownBlock]) (by injection e with e; exact e.symm)
      have hnr : some rb ≠ some g := fun e => H.out.ne_r (by decide) hv (k := g) (by simp [Value.ownBlock]) (by injection e with e; exact e.symm)
      have hx0 : w.cell? ⟨g, 0, none⟩ = some (.int .i64 x) := by
        have := (Kd.own_of_R hR).cells (g := g) rfl 0 (.int .i64 x) rfl
        rwa [add_plain] at this
      have b4 : (0 : Int) ≤ (c : Int) := by omega
      have b5 : (c : Int) < (q.rows.length : Int) := by omega
      have b7 : (0 : Int) < ((x :: xs).length : Int) := by rw [List.length_cons]; omega
      have b8 : (((x :: xs).length : Int) == 0) = false := beq_eq_false_iff_ne.2 (by simp; omega)
      obtain ⟨N, hN⟩ : ∃ N, (x :: xs).length = N := ⟨_, rfl⟩
      rw [hN] at hr hR b7 b8 hv hl
      have HR := Lib.hid hR
      have HV := Lib.hid hv
      have HX2 := Lib.hid hx
      have HN := Lib.hid hN
      clear hR hv hx hN hc
      go_wp2
      go_quiet (fail)
      go_wp2
      go_region_law (go_simp; go_at_call 36; refine (delete _ base g N cap (x :: xs) (Kd.R_drewN HR.out _) (by omega) (by exact hbase)).mono ?_; rintro e w1 ⟨rfl, hR1, hg1⟩; have hr1 := hg1.cell hr hnr; have fr1 : w1.frozen? ⟨rb, c, none⟩ = false := (World.frozen?_of_block (hg1.block rb hrlt hnr)).trans fr; have z1 := hg1.cell c3 hnq; have y1 := hg1.cell c1 hnq; have g3 : w1.frozen? ⟨qb, 3, none⟩ = false := (World.frozen?_of_block (hg1.block qb hqlt hnq)).trans f3; have g2 : w1.frozen? ⟨qb, 2, none⟩ = false := (World.frozen?_of_block (hg1.block qb hqlt hnq)).trans f2; have z2 : ∀ u, (w1.setCell ⟨rb, c, none⟩ u).cell? ⟨qb, 3, none⟩ = some (.int .i64 q.total) := fun u => (World.cell?_of_block (Below.heap_setCell w1 ⟨rb, c, none⟩ u qb hqr)).trans z1; have z3 : ∀ u, (w1.setCell ⟨rb, c, none⟩ u).cell? ⟨qb, 1, none⟩ = some (.slice (some ⟨rb, 0, none⟩) q.rows.length q.rows.length) := fun u => (World.cell?_of_block (Below.heap_setCell w1 ⟨rb, c, none⟩ u qb hqr)).trans y1; have z4 : ∀ u, (w1.setCell ⟨rb, c, none⟩ u).cell? ⟨qb, 2, none⟩ = some (.int .i64 q.next) := fun u => (World.cell?_of_block (Below.heap_setCell w1 ⟨rb, c, none⟩ u qb hqr)).trans (hg1.cell c2 hnq); have HR1 := Lib.hid hR1; have HG1 := Lib.hid hg1; clear hR1 hg1)
      all_goals go_wp2
      all_goals go_ret3
      all_goals exact pop_end H.out HX2.out HV.out HR1.out rfl HG1.out (by simp) (by omega)
end Go.Proofs.Ytekgdlpicgibhaa.QI
