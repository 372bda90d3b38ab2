/-
  slices.Delete(s, 0, 1) on a row of the call's own.
-/
import Derived.Test.YtekgdlpicgibhaaQ1
import Derived.Lib.SliceRun
import Derived.Laws.IdiomCopy
namespace Go.Proofs.Ytekgdlpicgibhaa.QI
open Go.RowKit Go.Proofs.YtekgdlpicgibhaaW.PrintWords Go.Proofs.Ytekgdlpicgibhaa.QQ

theorem isz3 : (Try.prog.info? 3).map (·.size) = some K.sz := by kernel_rfl
theorem zero3 (w : World) : (zeroValue 3).run Try.prog w = .ok (.int .i64 0) w := by kernel_rfl
/-- clear of the one place behind a row's end. -/
theorem clear_one {w : World} {base g n cap : Nat} {xs : List Int} (hR : K.R 3 w base (fun _ => True) (.slice (some ⟨g, 0, none⟩) (n - 1) cap) xs) (h1 : 1 ≤ n) (hnc : n ≤ cap) :
    Sem.run Try.prog (Builtin.clear_ #[40] 0 #[.slice (some ⟨g, n - 1, none⟩) (n - (n - 1)) (cap - (n - 1))]) w = .ok (.tuple #[]) (w.setCells g (n - 1) [.int .i64 0]) ∧
      K.R 3 (w.setCells g (n - 1) [.int .i64 0]) base (fun _ => True) (.slice (some ⟨g, 0, none⟩) (n - 1) cap) xs ∧ w.grownBy (w.setCells g (n - 1) [.int .i64 0]) (some g) := by
  have ho := Kd.own_of_R hR
  rw [show n - (n - 1) = 1 by omega]
  rcases ho.2 with ⟨hv, _⟩ | ⟨g', cap', cur, hv, hb, hh, hnc', hcm, hcs, ht⟩
  · cases hv
  injection hv with ha hlen hc
  injection ha with ha
  injection ha with hg
  subst hg
  subst hc
  have hsz : n - 1 < cur.size := by omega
  obtain ⟨cur', h3, h4, h5⟩ := setCells_row [Value.int .i64 0] (n - 1) w cur hh (by simp; omega)
  obtain ⟨s1, s2, s3, s4⟩ := setCells_same g [Value.int .i64 0] (n - 1) w
  have hfar : ∀ k, k ≠ g → (w.setCells g (n - 1) [.int .i64 0]).heap[k]? = w.heap[k]? := fun k hk => setCells_far _ _ k hk
  refine ⟨Lib.run_clear_slice w 40 3 0 (.int .i64 0) Try.underlying40 zero3 rfl rfl g (n - 1) 1 (cap - (n - 1)) (by omega) ?_ ?_, ?_, ⟨s1, s2, s3, by rw [s4]; exact Nat.le_refl _, fun k _ hk => hfar k (fun e => hk (by rw [e]))⟩⟩
  · intro j hj
    obtain rfl : j = 0 := by omega
    simp [World.cell?, hh, hsz]
  · intro j _
    exact blk_frozen hh _
  · refine Kd.R_of_own ⟨ho.1, .inr ⟨g, cap, cur', by rw [← hlen], hb, h3, hnc', hcm, by rw [h4, hcs], ?_⟩⟩ (fun _ _ => trivial)
    rw [← ht, h5]
    rw [List.append_assoc, List.take_append_of_le_length (by simp; omega), List.take_take]
    congr 1
    omega
/-- slices.Delete(s, 0, 1), s a row of one's own with an element: the rest, in place. -/
theorem delete (w : World) (base g n cap : Nat) (xs : List Int) (hR : K.R 3 w base (fun _ => True) (.slice (some ⟨g, 0, none⟩) n cap) xs) (h1 : 1 ≤ n) (hb : base ≤ w.heap.size) :
    Calls Try.prog 36 #[.slice (some ⟨g, 0, none⟩) n cap, .int .i64 0, .int .i64 1] w fun e w' =>
      e = .returned (.slice (some ⟨g, 0, none⟩) (n - 1) cap) ∧ K.R 3 w' base (fun _ => True) (.slice (some ⟨g, 0, none⟩) (n - 1) cap) xs.tail ∧ w.grownBy w' (some g) := by
  obtain ⟨hn, hnc, hC⟩ := Kd.R_reads' hR
  have hmx := hC.2.1
  have b0 : (1 : Int) ≤ (n : Int) := by omega
  have b1 : (n : Int) ≤ (cap : Int) := by omega
  have HR := Lib.hid hR
  obtain ⟨A, hA⟩ : ∃ A : Option Addr, A = if cap = 1 then some ⟨g, 0, none⟩ else some ⟨g, 1, none⟩ := ⟨_, rfl⟩
  have hA' : (if cap = 1 then some ⟨g, 0, none⟩ else some ⟨g, 1, none⟩) = A := hA.symm
  have HA : Hid (A = if cap = 0 + 1 then some ⟨g, 0, none⟩ else (some (⟨g, 0, none⟩ : Addr)).map (·.add ((0 + 1) * K.sz))) := by
    rw [hA]
    rfl
  clear hR hn hA hC
  go_enter Try.func36, Try.ntmps36
  go_wp2
  go_region_law (refine Kd.R_delete_step K base (by rfl) (.tmp 22) (.tmp 25) 40 3 (by rfl) Try.underlying40 isz3 (g := g) (n := n) (c := cap) (k := 0) (m := n - 1) (c2 := cap - 1) (A := A) (by simp [Act.eval, Act.put]) (by simp [Act.eval, Act.put]) HA.out (by rfl) (Kd.R_drew HR.out) (by omega) (below_drew (Below.refl base w)) hb ?_; intro w1 hR1 hb1 hg1; obtain ⟨hcl, hR2, hg2⟩ := clear_one hR1 h1 hnc; have HR2 := Lib.hid hR2; have HG2 := Lib.hid hg2; have HG1 := Lib.hid hg1; clear hR2 hg2 hg1 hR1)
  all_goals go_wp2
  all_goals go_ret
  all_goals exact ⟨rfl, by rw [← List.eraseIdx_zero]; exact HR2.out, ⟨HG2.out.os.trans HG1.out.os, HG2.out.tape.trans HG1.out.tape, HG2.out.output.trans HG1.out.output, Nat.le_trans HG1.out.size HG2.out.size, fun k hk hn => (HG2.out.block k (Nat.lt_of_lt_of_le hk HG1.out.size) hn).trans (HG1.out.block k hk hn)⟩⟩
end Go.Proofs.Ytekgdlpicgibhaa.QI
