/-
  The document's queue: New, Each, Len, Total by their walks.
-/
import Derived.Test.YtekgdlpicgibhaaR1
namespace Go.Proofs.Ytekgdlpicgibhaa.QI
open Go.RowKit Go.Proofs.YtekgdlpicgibhaaW.PrintWords Go.Proofs.Ytekgdlpicgibhaa.QQ

theorem rnew_no (c p : Int) (w : World) (h : ¬ (1 ≤ c ∧ c ≤ 64 ∧ 1 ≤ p ∧ p ≤ 64)) :
    Calls Try.prog 21 #[.int .i64 c, .int .i64 p] w fun e w' => e = .returned (.pointer none) ∧ w = w' := by
  have hc : c < 1 ∨ (1 ≤ c ∧ 64 < c) ∨ (1 ≤ c ∧ c ≤ 64 ∧ p < 1) ∨ (1 ≤ c ∧ c ≤ 64 ∧ 1 ≤ p ∧ 64 < p) := by omega
  clear h
  rcases hc with h1 | ⟨h1, h2⟩ | ⟨h1, h2, h3⟩ | ⟨h1, h2, h3, h4⟩
  all_goals
    go_enter Try.func21, Try.ntmps21
    go_wp2
    go_ret
    exact ⟨rfl, rfl⟩
theorem rnew_yes (c p : Int) (w : World) (h1 : 1 ≤ c) (h2 : c ≤ 64) (h3 : 1 ≤ p) (h4 : p ≤ 64) :
    Calls Try.prog 21 #[.int .i64 c, .int .i64 p] w fun e w' => ∃ rb, e = .returned (.pointer (some ⟨rb, 0, none⟩)) ∧ RIn w' w.heap.size (fun k => w.heap.size ≤ k) rb (QM.empty c.toNat p.toNat) ∧ Below w.heap.size w w' := by
  obtain ⟨m, rfl⟩ := Int.eq_ofNat_of_zero_le (show 0 ≤ c by omega)
  obtain ⟨n, rfl⟩ := Int.eq_ofNat_of_zero_le (show 0 ≤ p by omega)
  have hmk : ∀ W : World, (Instr.makeSlice 64 (.int .i64 (m : Int)) (.int .i64 (m : Int))).run Try.prog W = .ok (.slice (some ⟨W.heap.size, 0, none⟩) m m) (W.alloc (.cells (madeCells #[.slice none 0 0] m) 40)) := fun W =>
    run_make_row' 64 40 (.slice none 0 0) 24 Try.underlying64 info40 rfl .i64 .i64 m (by omega) (by omega) W
  go_enter Try.func21, Try.ntmps21
  go_wp2
  go_ret
  have hcells : madeCells #[.slice none 0 0] m = (List.replicate m (Value.slice none 0 0)).toArray := by
    apply Array.ext'
    simp [toList_madeCells_one]
  have hA : RAt ((w.alloc (.cells (madeCells #[.slice none 0 0] m) 40)).alloc (.cells #[.slice (some ⟨w.heap.size, 0, none⟩) m m, .int .i64 n, .int .i64 ((m : Int) - 1)] 84)) w.heap.size (w.heap.size + 1) w.heap.size (List.replicate m (.slice none 0 0)) (m - 1) (QM.empty m n) := by
    refine ⟨?_, ?_, by simp [QM.empty], ?_, by omega, Nat.le_refl _, by simp [QM.empty]; omega, ?_⟩
    · have := heap_alloc_new (w.alloc (.cells (madeCells #[.slice none 0 0] m) 40)) (.cells #[.slice (some ⟨w.heap.size, 0, none⟩) m m, .int .i64 n, .int .i64 ((m : Int) - 1)] 84)
      have e : ((m : Int) - 1) = ((m - 1 : Nat) : Int) := by omega
      rw [e] at this ⊢
      simpa [QM.empty] using this
    · have h0 := heap_alloc_new w (.cells (madeCells #[.slice none 0 0] m) 40)
      rw [Below.heap_alloc _ _ _ (by simp), h0, hcells]
    · intro c v xs hv hx
      simp [QM.empty, List.getElem?_replicate] at hv hx
      obtain ⟨_, rfl⟩ := hv
      obtain ⟨_, rfl⟩ := hx
      exact Kd.R_nil _ _ _ _ _
    · have e : m - 1 + 1 = m := by omega
      simp [QM.empty, e]
  exact ⟨w.heap.size + 1, rfl, ⟨_, _, _, hA, fun k hk => (hA.foot_base hk).1⟩, below_alloc (below_alloc (Below.refl _ _) _) _⟩

variable {w : World} {base rb : Nat} {S : Nat → Prop} {q : QM Int}
theorem reach_any (h : RIn w base S rb q) (hw : q.Wf) (c : Int) :
    Calls Try.prog 28 #[.pointer (some ⟨rb, 0, none⟩), .int .i64 c] w (Copied w (rowI q c)) := by
  obtain ⟨lb, l, vals, hA, _⟩ := h
  obtain ⟨c0, c1, c2⟩ := hA.cell
  by_cases hc : 0 ≤ c ∧ c < (q.rows.length : Int)
  · obtain ⟨b0, b1⟩ := hc
    obtain ⟨n, rfl⟩ := Int.eq_ofNat_of_zero_le b0
    have e : rowI q (n : Int) = q.row n := by unfold rowI; rw [if_pos b0]; rfl
    rw [e]
    have hn : n < q.rows.length := by omega
    obtain ⟨v, xs, hv, hx, hR⟩ := hA.val hn
    have hrow : xs = q.row n := by rw [q.row_get hn] at hx; cases hx; rfl
    subst hrow
    obtain ⟨A, cap, rfl, hlc, hC⟩ := Kd.R_reads hR
    have hr := hA.rcell hv
    have hll : (q.row n).length ≤ 64 := by have := QM.row_le hw n; have := hw.p2; omega
    have HC : Hid (ReadsOf (Value.int .i64) 0 w A (q.row n).length (q.row n)) := Kd.reads_of_C hC
    clear hA hv hR hx hC
    go_enter Try.func28, Try.ntmps28
    go_wp2_with (go_at_call 29; refine (ints_any HC.out (by omega)).mono ?_; rintro e w' ⟨v, rfl, hR1, hb1⟩; have HR1 := Lib.hid hR1; have HB1 := Lib.hid hb1; clear hR1 hb1)
    go_ret
    exact ⟨v, rfl, HR1.out, HB1.out⟩
  · have e : rowI q c = [] := by
      unfold rowI
      split
      · exact q.row_out (by omega)
      · rfl
    rw [e]
    have hc' : c < 0 ∨ (0 ≤ c ∧ (q.rows.length : Int) ≤ c) := by omega
    clear hA hc
    rcases hc' with h1 | ⟨h1, h2⟩
    all_goals
      go_enter Try.func28, Try.ntmps28
      go_wp2
      go_ret
      exact ⟨_, rfl, Kd.R_nil _ _ _ _ _, Below.refl _ _⟩
theorem rlen_any (h : RIn w base S rb q) (hw : q.Wf) (c : Int) :
    Calls Try.prog 40 #[.pointer (some ⟨rb, 0, none⟩), .int .i64 c] w fun e w' => e = .returned (.int .i64 ((rowI q c).length : Int)) ∧ Below w.heap.size w w' := by
  have H := Lib.hid h
  have HW := Lib.hid hw
  clear h hw
  go_enter Try.func40, Try.ntmps40
  go_wp2_with (go_at_call 28; refine (reach_any H.out HW.out c).mono ?_; rintro e w' ⟨v, rfl, hR1, hb1⟩; obtain ⟨A1, d1, e1⟩ := Kd.R_slice hR1; subst e1; have HB1 := Lib.hid hb1; clear hR1 hb1)
  go_ret
  exact ⟨rfl, HB1.out⟩
theorem rtotal_any (h : RIn w base S rb q) (hw : q.Wf) :
    Calls Try.prog 41 #[.pointer (some ⟨rb, 0, none⟩)] w fun e w' => e = .returned (.int .i64 (q.total : Int)) ∧ ∃ n, w' = w.drewN n := by
  obtain ⟨lb, l, vals, hA, _⟩ := h
  obtain ⟨c0, c1, c2⟩ := hA.cell
  have n2 : q.rows.length ≤ 64 := hw.n2
  have hT : Hid (q.total = (q.rows.map List.length).sum) := hw.tot
  have hp2 : q.places ≤ 64 := hw.p2
  have HF : Hid (∀ xs ∈ q.rows, xs.length ≤ q.places) := hw.full
  have H := Lib.hid hA
  clear hA hw
  go_enter Try.func41, Try.ntmps41
  go_wp2
  go_loopw [3, 4] (fun a i wr => ∃ k s m : Nat, k ≤ q.rows.length ∧ i = .int .i64 k ∧ a = .int .i64 s ∧ s = ((q.rows.take k).map List.length).sum ∧ s ≤ k * 64 ∧ wr = w.drewN m) (fun _ i _ => q.rows.length - (intOf i).toNat)
  case atStart => exact ⟨0, 0, 0, Nat.zero_le _, rfl, rfl, by simp, by simp, rfl⟩
  case round =>
    obtain ⟨k, s, m, hk, rfl, rfl, hs, hs2, rfl⟩ := hrel
    have HS := Lib.hid hs
    clear hs
    by_cases hlt : k < q.rows.length
    · obtain ⟨v, xs, hv, hx, hR⟩ := H.out.val hlt
      obtain ⟨A, cap, rfl, hl, _⟩ := Kd.R_reads hR
      have hr := H.out.rcell hv
      have hxl : xs.length ≤ 64 := by have := HF.out xs (List.mem_of_getElem? hx); omega
      have HX := Lib.hid hx
      clear hv hR hx
      go_wp2
      go_roundw
      case rel => exact ⟨k + 1, s + xs.length, _, hlt, by go_num, by go_num, by rw [List.take_add_one, HX.out, List.map_append, List.sum_append, ← HS.out]; simp, by omega, rfl⟩
      case measure => simp [intOf]; omega
    · obtain rfl : k = q.rows.length := by omega
      have hs := HS.out
      rw [List.take_length, ← hT.out] at hs
      clear HS
      go_wp2
      go_ret
      exact ⟨by rw [hs]; rfl, _, rfl⟩
end Go.Proofs.Ytekgdlpicgibhaa.QI
