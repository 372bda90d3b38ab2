/-
  The document's queue: Pop by its walk.
-/
import Derived.Test.YtekgdlpicgibhaaR3
namespace Go.Proofs.Ytekgdlpicgibhaa.QI
open Go.RowKit Go.Proofs.YtekgdlpicgibhaaW.PrintWords Go.Proofs.Ytekgdlpicgibhaa.QQ

variable {w : World} {base rb lb l : Nat} {vals : List Value} {q : QM Int}
theorem rround_facts (h : RAt w base rb lb vals l q) (hn : q.rows.length ≤ 64) (i : Nat) (hi : i ≤ q.rows.length) :
    IntKind.i64.wrap ((l : Int) + (i : Int)) = (l : Int) + (i : Int) ∧ ((l : Int) + (i : Int)).tmod (q.rows.length : Int) = (((l + i) % q.rows.length : Nat) : Int) ∧ (l + i) % q.rows.length < q.rows.length := by
  have := h.ll
  refine ⟨IntWalk.i64_in _ (by omega), ?_, Nat.mod_lt _ (by omega)⟩
  rw [tmod_nat, ← Int.ofNat_tmod]
theorem rat_eq (h : RAt w base rb lb vals l q) (j : Nat) : (l + (j + 1)) % q.rows.length = (q.next + j) % q.rows.length := by
  rw [← h.nx, Nat.mod_add_mod]
  congr 1
  omega
theorem rpop_none (h : RAt w base rb lb vals l q) (hn : q.rows.length ≤ 64) (he : ∀ j, j < q.rows.length → q.rows[(q.next + j) % q.rows.length]? = some []) :
    Calls Try.prog 39 #[.pointer (some ⟨rb, 0, none⟩)] w fun e w' => e = .returned (.tuple #[.int .i64 0, .int .i64 0, .bool false]) ∧ ∃ n, w' = w.drewN n := by
  obtain ⟨c0, c1, c2⟩ := h.cell
  have b0 : (1 : Int) ≤ (q.rows.length : Int) := by have := h.ll; omega
  have b2 : (q.rows.length : Int) ≤ 64 := by omega
  have H := Lib.hid h
  have HE := Lib.hid he
  clear h he
  go_enter Try.func39, Try.ntmps39
  go_wp2
  go_loopw [6] (fun i wr => ∃ k m : Nat, k ≤ q.rows.length ∧ i = .int .i64 ((k : Int) + 1) ∧ wr = w.drewN m) (fun i _ => q.rows.length + 1 - (intOf i).toNat)
  case atStart => exact ⟨0, 0, Nat.zero_le _, rfl, rfl⟩
  case round =>
    obtain ⟨k, m, hk, rfl, rfl⟩ := hrel
    by_cases hlt : k < q.rows.length
    · obtain ⟨e1, e2, e3⟩ := rround_facts H.out hn (k + 1) hlt
      obtain ⟨v, xs, hv, hx, hR⟩ := H.out.val e3
      rw [rat_eq H.out k, HE.out k hlt] at hx
      cases hx
      obtain ⟨A, cap, rfl, hl, _⟩ := Kd.R_reads hR
      have hr := H.out.rcell hv
      obtain ⟨c, hc⟩ : ∃ c, (l + (k + 1)) % q.rows.length = c := ⟨_, rfl⟩
      rw [hc] at e2 e3 hr
      rw [Int.natCast_add, Int.natCast_one] at e1 e2
      have b4 : (0 : Int) ≤ (c : Int) := by omega
      have b5 : (c : Int) < (q.rows.length : Int) := by omega
      clear hv hR hc
      go_wp2
      go_roundw
      case rel => exact ⟨k + 1, _, hlt, by go_num, rfl⟩
      case measure => simp [intOf]; omega
    · go_wp2
      go_ret3
      exact ⟨rfl, m, rfl⟩
theorem ints_tail {w : World} {m g N cap : Nat} {x : Int} {xs : List Int} (hC : K.C w (some ⟨g, 0, none⟩) N (x :: xs)) (hN : (x :: xs).length = N) (hl : N ≤ cap) (hx : xs.length ≤ 64) :
    Calls Try.prog 29 #[.slice (if cap = 1 then some ⟨g, 0, none⟩ else some ⟨g, 1, none⟩) (N - 1) (cap - 1)] (w.drewN m) fun e w1 => ∃ v, e = .returned v ∧ Mid w v xs w1 := by
  have hr : ReadsOf (Value.int .i64) 0 w (some ⟨g, 0, none⟩) N (x :: xs) := Kd.reads_of_C hC
  have hd := hr.drop_ 1 (by rw [← hN]; simp) hl
  have e1 : (Option.map (fun x => x.add 1) (some (⟨g, 0, none⟩ : Addr))) = some ⟨g, 1, none⟩ := by simp [Addr.add]
  rw [e1] at hd
  have hN' : N - 1 = xs.length := by rw [← hN]; simp
  rw [List.drop_succ_cons, List.drop_zero, hN'] at hd
  rw [hN']
  refine (ints_any (hd.drewN m) (by omega)).mono ?_
  rintro e w1 ⟨v, rfl, hR, hb⟩
  exact ⟨v, rfl, hR, (pw_below_drewN (Below.refl _ w) m).trans hb⟩
/-- What a Pop that finds one leaves. -/
def RPopOk (w : World) (base rb lb : Nat) (vals : List Value) (q : QM Int) (c : Nat) (x : Int) (xs : List Int) (e : Ending) (w' : World) : Prop :=
  e = .returned (.tuple #[.int .i64 (c : Int), .int .i64 x, .bool true]) ∧ ∃ vals', RAt w' base rb lb vals' c { q with rows := q.rows.set c xs, total := q.total - 1, next := (c + 1) % q.rows.length } ∧ Only (fun k => k = rb ∨ k = lb) w w' ∧ ∀ k, Foot rb lb vals' k → Foot rb lb vals k ∨ w.heap.size ≤ k
theorem rpop_end (h : RAt w base rb lb vals l q) {c : Nat} {x : Int} {ys xs : List Int} (hx : q.rows[c]? = some ys) {v : Value} {w1 : World} (hm : Mid w v xs w1) (hbase : base ≤ w.heap.size) :
    RPopOk w base rb lb vals q c x xs (.returned (.tuple #[.int .i64 (c : Int), .int .i64 x, .bool true])) ((w1.setCell ⟨lb, c, none⟩ v).setCell ⟨rb, 2, none⟩ (.int .i64 (c : Int))) := by
  have hc : c < q.rows.length := (List.getElem?_eq_some_iff.1 hx).1
  obtain ⟨_, vals', hA, ho, hf⟩ := rput_end h hx hm hbase (q.total - 1) (e := .returned undef)
  have h2 := hA.set_last (c := c) (by simpa using hc)
  refine ⟨rfl, vals', ?_, (ho.mono (fun k hk => .inr hk)).trans (Only.setCell _ _ _) (fun k hk => .inl (.inl hk)), hf⟩
  simpa using h2
set_option maxHeartbeats 4000000 in
theorem rpop_some (h : RAt w base rb lb vals l q) (hn : q.rows.length ≤ 64) (hbase : base ≤ w.heap.size) (i : Nat) (hi : i < q.rows.length) (he : ∀ j, j < i → q.rows[(q.next + j) % q.rows.length]? = some []) {x : Int} {xs : List Int} (hx : q.rows[(q.next + i) % q.rows.length]? = some (x :: xs)) (hxl : xs.length ≤ 64) :
    Calls Try.prog 39 #[.pointer (some ⟨rb, 0, none⟩)] w (RPopOk w base rb lb vals q ((q.next + i) % q.rows.length) x xs) := by
  obtain ⟨c0, c1, c2⟩ := h.cell
  have b0 : (1 : Int) ≤ (q.rows.length : Int) := by have := h.ll; omega
  have b2 : (q.rows.length : Int) ≤ 64 := by omega
  have f2 := h.free 2
  have hrlt : rb < w.heap.size := heap_lt_of h.hq
  have hllt : lb < w.heap.size := heap_lt_of h.hr
  have hrl : rb ≠ lb := h.ne
  have H := Lib.hid h
  have HE := Lib.hid he
  have HX := Lib.hid hx
  clear h he hx
  go_enter Try.func39, Try.ntmps39
  go_wp2
  go_loopw [6] (fun i' wr => ∃ k m : Nat, k ≤ i ∧ i' = .int .i64 ((k : Int) + 1) ∧ wr = w.drewN m) (fun i _ => q.rows.length + 1 - (intOf i).toNat)
  case atStart => exact ⟨0, 0, Nat.zero_le _, rfl, rfl⟩
  case round =>
    obtain ⟨k, m, hk, rfl, rfl⟩ := hrel
    have hlt : k < q.rows.length := by omega
    obtain ⟨e1, e2, e3⟩ := rround_facts H.out hn (k + 1) hlt
    by_cases hki : k < i
    · obtain ⟨v, xs, hv, hx, hR⟩ := H.out.val e3
      rw [rat_eq H.out k, HE.out k hki] at hx
      cases hx
      obtain ⟨A, cap, rfl, hl, _⟩ := Kd.R_reads hR
      have hr := H.out.rcell hv
      obtain ⟨c, hc⟩ : ∃ c, (l + (k + 1)) % q.rows.length = c := ⟨_, rfl⟩
      rw [hc] at e2 e3 hr
      rw [Int.natCast_add, Int.natCast_one] at e1 e2
      have b4 : (0 : Int) ≤ (c : Int) := by omega
      have b5 : (c : Int) < (q.rows.length : Int) := by omega
      clear hv hR hc
      go_wp2
      go_roundw
      case rel => exact ⟨k + 1, _, hki, by go_num, rfl⟩
      case measure => simp [intOf]; omega
    · obtain rfl : k = i := by omega
      have hat := rat_eq H.out k
      obtain ⟨c, hc⟩ : ∃ c, (l + (k + 1)) % q.rows.length = c := ⟨_, rfl⟩
      have hx := HX.out
      rw [← hat, hc] at hx ⊢
      rw [hc] at e2 e3
      rw [Int.natCast_add, Int.natCast_one] at e1 e2
      obtain ⟨v, xs', hv, hx', hR⟩ := H.out.val e3
      rw [hx] at hx'
      cases hx'
      obtain ⟨A, cap, hvv, hl, hC⟩ := Kd.R_reads hR
      obtain ⟨ad, hA, _⟩ := hC.2.2 (by simp)
      subst hA
      subst hvv
      obtain ⟨g, rfl⟩ := Kd.R_head hR
      have hr := H.out.rcell hv
      have fr := H.out.rfree c
      have hx0 : w.cell? ⟨g, 0, none⟩ = some (.int .i64 x) := by
        have := (Kd.own_of_R hR).cells (g := g) rfl 0 (.int .i64 x) rfl
        rwa [add_plain] at this
      have b4 : (0 : Int) ≤ (c : Int) := by omega
      have b5 : (c : Int) < (q.rows.length : Int) := by omega
      have b7 : (0 : Int) < ((x :: xs).length : Int) := by rw [List.length_cons]; omega
      obtain ⟨N, hN⟩ : ∃ N, (x :: xs).length = N := ⟨_, rfl⟩
      rw [hN] at hr hR b7 hv hl hC
      have b9 : (1 : Int) ≤ (N : Int) := by omega
      have HC := Lib.hid hC
      have HV := Lib.hid hv
      have HX2 := Lib.hid hx
      have HN := Lib.hid hN
      clear hR hv hx hN hc hC hat
      go_wp2
      go_region_law (go_simp; go_at_call 29; refine (ints_tail HC.out HN.out hl hxl).mono ?_; rintro e w1 ⟨v1, rfl, hm⟩; have HM := Lib.hid hm; have z0 := hm.cell c0; have y0 := hm.cell hr; have y2 := hm.cell c2; have f0 : w1.frozen? ⟨lb, c, none⟩ = false := (hm.2.frozen (p := ⟨lb, c, none⟩) hllt).trans fr; have f9 : w1.frozen? ⟨rb, 2, none⟩ = false := (hm.2.frozen (p := ⟨rb, 2, none⟩) hrlt).trans f2; obtain ⟨A1, d1, e1⟩ := Kd.R_slice hm.1; subst e1; clear hm)
      all_goals go_wp2
      all_goals go_ret3
      all_goals exact rpop_end H.out HX2.out HM.out hbase
end Go.Proofs.Ytekgdlpicgibhaa.QI
