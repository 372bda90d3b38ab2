/-
  A slice of bytes, a slice of pending writes that came in, read; their bulk.
-/
import Derived.Test.YtekgdlpicgibhabE3
import Derived.Test.YtekgdlpicgibhabE11
import Derived.Test.YtekgdlpicgibhabRows
import Derived.Deep.Strs
import Derived.ChangeSlices
import Derived.Deep.Slices
import Derived.OpenShut
namespace Go.Proofs.Ytekgdlpicgibhab.EX
open Go.ChangeShapes Go.WideShapes Go.RowKit Go.Proofs.YtekgdlpicgibhabW.PrintWords _root_.Go.Proofs.Ytekgdlpicgibhab.Rows

theorem bulk_pos {H : Type} (d : DataW H) : 1 ≤ uptoBulk d := by
  cases d with
  | lit l => cases l <;> simp [uptoBulk]
  | nil => simp [uptoBulk]
  | ptr d => simp [uptoBulk]
  | slice e s => simp [uptoBulk]
  | agg p => simp [uptoBulk]
  | iface t d => simp [uptoBulk]
  | map e => simp [uptoBulk]
  | held x => simp [uptoBulk]
theorem bulk_len {H : Type} (ds : List (DataW H)) : ds.length ≤ uptoBulkAll ds := by
  induction ds with
  | nil => simp [uptoBulkAll]
  | cons d r ih =>
    have := bulk_pos d
    simp only [uptoBulkAll, List.length_cons]
    omega
theorem bulk_mem {H : Type} {ds : List (DataW H)} {d : DataW H} (h : d ∈ ds) : uptoBulk d ≤ uptoBulkAll ds := by
  induction ds with
  | nil => cases h
  | cons e r ih =>
    simp only [uptoBulkAll]
    rcases List.mem_cons.1 h with rfl | h
    · omega
    · have := ih h; omega
section
variable {H : Type} {enc : TypeId × Value → H} {w : World} {base : Nat} {spare : Nat → Bool} {held : Bool} {fuel : Nat} {cs : List Value} {x : DataW H × List MemPlace}
theorem read_bytes (h : DataW.trod enc Try.prog w base spare held fuel 24 cs = some x) : ∃ A n c bs, cs = [.slice A n c] ∧ Rd w (.slice A n c) bs ∧ Byts bs ∧ bs.length + 1 ≤ uptoBulk x.1 := by
  rcases Deep.open_slice1 Try.underlying24 (by kernel_rfl) h with ⟨rfl, rfl⟩ | ⟨a, len, cap, m, n, V, D, Pl, rfl, _, hl, hm, hmm, rfl, hx⟩
  · exact ⟨none, 0, 0, [], rfl, ⟨_, _, rfl, rfl, by simp, fun h => absurd h (by simp)⟩, fun x hx => by simp at hx, by simp [uptoBulk]⟩
  · have hlm : len ≤ m := by rw [hmm]; split <;> omega
    have key : ∀ i, i < len → V i = .int .u8 (intOf (V i)) ∧ 0 ≤ intOf (V i) ∧ intOf (V i) < 256 := by
      intro i hi
      obtain ⟨_, h2⟩ := hx i (by omega)
      obtain ⟨y, hy, _, hw⟩ := DataW.trod_int Try.underlying5 h2
      simp only [List.cons.injEq, and_true] at hy
      have := bounds_u8 hw
      rw [hy]
      exact ⟨rfl, by simp only [intOf]; omega, by simp only [intOf]; omega⟩
    have hbl : ((List.range len).map fun i => intOf (V i)).length = len := by simp
    refine ⟨some a, len, cap, (List.range len).map (fun i => intOf (V i)), rfl, ⟨some a, cap, by rw [hbl], rfl, by rw [hbl]; simp [maxLen] at hm; omega, fun hp => ⟨a, rfl, fun j hj => ?_⟩⟩, fun y hy => ?_, ?_⟩
    · rw [hbl] at hj
      rw [(hx j (by omega)).1, (key j hj).1]
      simp [List.getD_eq_getElem?_getD, hj, byt]
    · obtain ⟨i, hi, rfl⟩ := List.mem_map.1 hy
      exact ⟨(key i (List.mem_range.1 hi)).2.1, (key i (List.mem_range.1 hi)).2.2⟩
    · have := bulk_len ((List.range len).map D)
      simp only [List.length_map, List.length_range] at this
      simp only [uptoBulk, hbl]
      omega
theorem cells30 : Try.prog.cellsOf 30 = 2 := by kernel_rfl
set_option maxRecDepth 100000 in
theorem read_pend (h : DataW.trod enc Try.prog w base spare held fuel 25 cs = some x) :
    ∃ A n c ps, cs = [.slice A n c] ∧ PendAt w (.slice A n c) ps ∧ ps.length + 1 ≤ uptoBulk x.1 ∧ ∀ p ∈ ps, (-9223372036854775808 ≤ p.1 ∧ p.1 ≤ 9223372036854775807) ∧ Byts p.2 ∧ p.2.length ≤ uptoBulk x.1 := by
  rcases Deep.open_slice Try.underlying25 h with ⟨rfl, rfl⟩ | ⟨a, len, cap, m, n, D, Pl, rfl, _, hl, hm, hmm, rfl, hx⟩
  · exact ⟨none, 0, 0, [], rfl, ⟨_, _, rfl, fun k p hp => by simp at hp⟩, by simp [uptoBulk], fun p hp => by simp at hp⟩
  · have hlm : len ≤ m := by rw [hmm]; split <;> omega
    have key : ∀ i, ∃ p : Int × List Int, i < len → ∃ A' c', a.block < w.heap.size ∧ w.cell? (a.add (i * 2)) = some (.int .i64 p.1) ∧ w.cell? ⟨(a.add (i * 2)).block, (a.add (i * 2)).off + 1, none⟩ = some (.slice A' p.2.length c') ∧
        Rd w (.slice A' p.2.length c') p.2 ∧ (-9223372036854775808 ≤ p.1 ∧ p.1 ≤ 9223372036854775807) ∧ Byts p.2 ∧ p.2.length ≤ uptoBulk (D i) := by
      intro i
      by_cases hi : i < len
      · obtain ⟨cs', h1, h2⟩ := hx i (by omega)
        rw [cells30] at h1
        obtain ⟨_, hlen, hc⟩ := World.cells?_some h1
        obtain ⟨y0, y1, n', e, _, g0, g1⟩ := trod_struct2 Try.underlying30 h2
        match cs', hlen with
        | [v0, v1], _ =>
          have e0 := hc 0 (by omega)
          have e1 := hc 1 (by omega)
          have g0' : DataW.trod enc Try.prog w base spare held n' 3 [v0] = some y0 := g0
          have g1' : DataW.trod enc Try.prog w base spare held n' 24 [v1] = some y1 := g1
          obtain ⟨x0, q0, _, hw⟩ := DataW.trod_int Try.underlying3 g0'
          cases q0
          obtain ⟨A', n1, c', bs, q1, hR, hB, hbl⟩ := read_bytes g1'
          cases q1
          obtain ⟨A1, c1, e3, hr⟩ := id hR
          cases e3
          have e0' : w.cell? (a.add (i * 2)) = some (.int .i64 x0) := by
            have e4 : (a.add (i * 2)).add 0 = a.add (i * 2) := by simp [Addr.add]
            rw [e4] at e0
            simpa using e0
          have hb : (a.add (i * 2)).block = a.block := by unfold Addr.add; split <;> rfl
          refine ⟨(x0, bs), fun _ => ⟨A', c', by rw [← hb]; exact World.block_lt_of_cell? w _ e0', e0', cell_plain (by simpa using e1), hR, bounds_i64 hw, hB, ?_⟩⟩
          have e5 : D i = .agg [y0.1, y1.1] := by injection e
          rw [e5]
          simp only [uptoBulk, uptoBulkAll]
          omega
      · exact ⟨(0, []), fun h => absurd h hi⟩
    obtain ⟨f, hf⟩ : ∃ f : Nat → Int × List Int, ∀ i, i < len → ∃ A' c', a.block < w.heap.size ∧ w.cell? (a.add (i * 2)) = some (.int .i64 (f i).1) ∧ w.cell? ⟨(a.add (i * 2)).block, (a.add (i * 2)).off + 1, none⟩ = some (.slice A' (f i).2.length c') ∧
        Rd w (.slice A' (f i).2.length c') (f i).2 ∧ (-9223372036854775808 ≤ (f i).1 ∧ (f i).1 ≤ 9223372036854775807) ∧ Byts (f i).2 ∧ (f i).2.length ≤ uptoBulk (D i) := ⟨fun i => Classical.choose (key i), fun i hi => Classical.choose_spec (key i) hi⟩
    have hbl : ((List.range len).map f).length = len := by simp
    refine ⟨some a, len, cap, (List.range len).map f, rfl, ⟨some a, cap, by rw [hbl], fun k p hp => ?_⟩, ?_, fun p hp => ?_⟩
    · have hk : k < len := by have := (List.getElem?_eq_some_iff.1 hp).1; rw [hbl] at this; exact this
      have e : p = f k := by simp [hk] at hp; exact hp.symm
      subst e
      obtain ⟨A', c', h1, h2, h3, h4, _⟩ := hf k hk
      exact ⟨a, A', c', rfl, h1, h2, h3, h4⟩
    · have := bulk_len ((List.range len).map D)
      simp only [List.length_map, List.length_range] at this
      simp only [uptoBulk, hbl]
      omega
    · obtain ⟨i, hi, rfl⟩ := List.mem_map.1 hp
      have hi' := List.mem_range.1 hi
      obtain ⟨A', c', _, _, _, _, h5, h6, h7⟩ := hf i hi'
      have := bulk_mem (List.mem_map.2 ⟨i, hi, rfl⟩ : D i ∈ (List.range len).map D)
      exact ⟨h5, h6, by simp only [uptoBulk]; omega⟩
end
end Go.Proofs.Ytekgdlpicgibhab.EX
