/-
  Proved: the images of a device's writes are just those that a crash leaves, each once; the first is what lasts (ExploreSets), for every input.
-/
import Derived.Test.YtekgdlpicgibhabD9
import Derived.Test.YtekgdlpicgibhabReadP
import Derived.Test.YtekgdlpicgibhabClose
import Derived.SizedLaws
import Derived.ProofKit
import Derived.OpenShut
namespace Go.Proofs.Ytekgdlpicgibhab.Sets
open Go.ChangeShapes Go.WideShapes Go.ChangeAt Go.RowKit Go.Proofs.YtekgdlpicgibhabW.PrintWords EX
theorem own : ownKnob Try.prog.godebug = none := by kernel_rfl
theorem laidOut : laidOutB Try.prog = true := by kernel_rfl
section
variable {H : Type} {enc : TypeId × Value → H} {w : World} {base : Nat} {a : Option Addr} {len cap : Nat} {d : DataW H} {ps : List MemPlace} {ts : List TypeId} {ds : List (DataW H)} {j : Nat}
theorem cells53 : Try.prog.cellsOf 53 = 2 := by kernel_rfl
set_option maxRecDepth 100000 in
theorem read_wr (hsz : (DataW.weightsEach Try.prog ts ds).all (· ≤ reachBytes) = true) (hj : ts[j]? = some 47) (hd : ds[j]? = some d) (h : DataW.Trod enc Try.prog w base (fun _ => true) true 47 (.slice a len cap) d ps) :
    ∃ ws : List (Int × Int), len = ws.length ∧ WrAt w a ws ∧ ws.length ≤ 140737488355328 ∧ (∀ p ∈ ws, 0 ≤ p.2 ∧ p.2 < 256) ∧ ∀ p ∈ ws, -9223372036854775808 ≤ p.1 ∧ p.1 ≤ 9223372036854775807 := by
  obtain ⟨fuel, hf⟩ := h
  rcases Deep.open_slice Try.underlying47 hf with ⟨hcs, _⟩ | ⟨x, l, cc, m, n, D, Pl, hcs, _, hl, hm, hmm, hx, hcell⟩
  · simp [Value.cells] at hcs
    obtain ⟨rfl, rfl, rfl⟩ := hcs
    exact ⟨[], rfl, fun k p hp => by simp at hp, by simp, fun p hp => by simp at hp, fun p hp => by simp at hp⟩
  · simp [Value.cells] at hcs
    obtain ⟨rfl, rfl, rfl⟩ := hcs
    obtain ⟨hx, _⟩ := Prod.mk.inj hx
    subst hx
    have z := sized_slice hsz hj hd Try.underlying47
    rw [show Try.prog.bytesOf 53 = 16 by kernel_rfl] at z
    have hmc : m = cap := by simpa using hmm
    have key : ∀ i, ∃ p : Int × Int, i < len → x.block < w.heap.size ∧ w.cell? (x.add (i * 2)) = some (.int .i64 p.1) ∧ w.cell? ⟨(x.add (i * 2)).block, (x.add (i * 2)).off + 1, none⟩ = some (.int .u8 p.2) ∧ (0 ≤ p.2 ∧ p.2 < 256) ∧ (-9223372036854775808 ≤ p.1 ∧ p.1 ≤ 9223372036854775807) := by
      intro i
      by_cases hi : i < len
      · obtain ⟨cs', h1, h2⟩ := hcell i (by omega)
        rw [cells53] at h1
        obtain ⟨_, hlen, hc⟩ := World.cells?_some h1
        obtain ⟨y0, y1, n', e, _, g0, g1⟩ := trod_struct2 Try.underlying53 h2
        match cs', hlen with
        | [v0, v1], _ =>
          have e0 := hc 0 (by omega)
          have e1 := hc 1 (by omega)
          have g0' : DataW.trod enc Try.prog w base (fun _ => true) true n' 3 [v0] = some y0 := g0
          have g1' : DataW.trod enc Try.prog w base (fun _ => true) true n' 5 [v1] = some y1 := g1
          obtain ⟨x0, q0, _, w0⟩ := DataW.trod_int Try.underlying3 g0'
          obtain ⟨x1, q1, _, w1⟩ := DataW.trod_int Try.underlying5 g1'
          cases q0
          cases q1
          have e0' : w.cell? (x.add (i * 2)) = some (.int .i64 x0) := by
            have e4 : (x.add (i * 2)).add 0 = x.add (i * 2) := by simp [Addr.add]
            rw [e4] at e0
            simpa using e0
          have hb : (x.add (i * 2)).block = x.block := by unfold Addr.add; split <;> rfl
          have hb1 := bounds_u8 w1
          exact ⟨(x0, x1), fun _ => ⟨by rw [← hb]; exact World.block_lt_of_cell? w _ e0', e0', cell_plain (by simpa using e1), ⟨hb1.1, by simp only; omega⟩, bounds_i64 w0⟩⟩
      · exact ⟨(0, 0), fun h => absurd h hi⟩
    obtain ⟨f, hf2⟩ : ∃ f : Nat → Int × Int, ∀ i, i < len → x.block < w.heap.size ∧ w.cell? (x.add (i * 2)) = some (.int .i64 (f i).1) ∧ w.cell? ⟨(x.add (i * 2)).block, (x.add (i * 2)).off + 1, none⟩ = some (.int .u8 (f i).2) ∧ (0 ≤ (f i).2 ∧ (f i).2 < 256) ∧ (-9223372036854775808 ≤ (f i).1 ∧ (f i).1 ≤ 9223372036854775807) :=
      ⟨fun i => Classical.choose (key i), fun i hi => Classical.choose_spec (key i) hi⟩
    refine ⟨(List.range len).map f, by simp, fun k p hp => ?_, ?_, fun p hp => ?_, fun p hp => ?_⟩
    · have hk : k < len := by have := (List.getElem?_eq_some_iff.1 hp).1; simpa using this
      have e : p = f k := by simp [hk] at hp; exact hp.symm
      subst e
      obtain ⟨h1, h2, h3, _⟩ := hf2 k hk
      exact ⟨x, rfl, h1, h2, h3⟩
    · have h1 : (List.range m).length = m := List.length_range
      have h2 : len * 16 ≤ 140737488351232 := by
        refine Nat.le_trans (Nat.mul_le_mul_right _ ?_) z
        simp
      simp
      omega
    · obtain ⟨i, hi, rfl⟩ := List.mem_map.1 hp
      exact (hf2 i (List.mem_range.1 hi)).2.2.2.1
    · obtain ⟨i, hi, rfl⟩ := List.mem_map.1 hp
      exact (hf2 i (List.mem_range.1 hi)).2.2.2.2
theorem read_bools (hsz : (DataW.weightsEach Try.prog ts ds).all (· ≤ reachBytes) = true) (hj : ts[j]? = some 48) (hd : ds[j]? = some d) (h : DataW.Trod enc Try.prog w base (fun _ => true) true 48 (.slice a len cap) d ps) :
    ∃ ks : List Bool, len = ks.length ∧ Bools w w.heap.size a ks ∧ ks.length ≤ 140737488355328 := by
  obtain ⟨fuel, hf⟩ := h
  rcases Deep.open_slice1 Try.underlying48 (by kernel_rfl) hf with ⟨hcs, _⟩ | ⟨x, l, cc, m, n, V, D, Pl, hcs, _, hl, hm, hmm, hx, hcell⟩
  · simp [Value.cells] at hcs
    obtain ⟨rfl, rfl, rfl⟩ := hcs
    exact ⟨[], rfl, fun k hk => by simp at hk, by simp⟩
  · simp [Value.cells] at hcs
    obtain ⟨rfl, rfl, rfl⟩ := hcs
    obtain ⟨hx, _⟩ := Prod.mk.inj hx
    subst hx
    have z := sized_slice hsz hj hd Try.underlying48
    rw [show Try.prog.bytesOf 4 = 1 by kernel_rfl] at z
    have hmc : m = cap := by simpa using hmm
    have key : ∀ i, ∃ q : Bool, i < len → V i = .bool q := by
      intro i
      by_cases hi : i < len
      · obtain ⟨_, h2⟩ := hcell i (by omega)
        obtain ⟨q, hq, _⟩ := DataW.trod_bool Try.underlying4 h2
        simp only [List.cons.injEq, and_true] at hq
        exact ⟨q, fun _ => hq⟩
      · exact ⟨false, fun h => absurd h hi⟩
    obtain ⟨f, hf2⟩ : ∃ f : Nat → Bool, ∀ i, i < len → V i = .bool (f i) := ⟨fun i => Classical.choose (key i), fun i hi => Classical.choose_spec (key i) hi⟩
    refine ⟨(List.range len).map f, by simp, fun k hk => ?_, ?_⟩
    · have hk' : k < len := by simpa using hk
      have h1 := (hcell k (by omega)).1
      rw [hf2 k hk'] at h1
      have hb : (x.add k).block = x.block := by unfold Addr.add; split <;> rfl
      refine ⟨x, rfl, ?_, ?_⟩
      · rw [← hb]; exact World.block_lt_of_cell? w _ h1
      · rw [h1]
        simp [List.getD_eq_getElem?_getD, hk']
    · have h2 : len * 1 ≤ 140737488351232 := by
        refine Nat.le_trans (Nat.mul_le_mul_right _ ?_) z
        simp
      simp
      omega
end
set_option maxRecDepth 100000 in
theorem lifted (os : Os) (started : os.Started) (H : Type) (enc : TypeId × Value → H) :
    ReturnsInHanded {} Try.checked os 6 .any (Rows.exploreSetsSpec.pre6 enc Try.prog Try.f6 Rows.exploreSetsRow.domain false) (Rows.exploreSetsSpec.post enc Try.prog Try.f6 false true false false) := by
  refine returnsInHanded_of_change_sized (C := Try.checked) own started (by kernel_rfl) Try.func6
    (ChangeSpec.witness6 (enc := enc) (C := Try.checked) false ⟨#[], #[.int .i64 0, .slice none 0 0, .slice none 0 0], []⟩ 8 (by kernel_rfl) (by kernel_rfl) (by kernel_rfl) (by kernel_rfl)) ?_
  intro W base args ds gs before hval0 hW hcnd hsz0 _
  have hval : ∀ (j : Nat) t v, Try.f6.params[j]? = some t → args[j]? = some v → Value.okWide Try.prog W .any base t v := hval0
  have hsz : (DataW.weightsEach Try.prog (Try.f6.params.toList ++ Rows.exploreSetsSpec.plain.varTypes Try.prog) (ds ++ gs)).all (· ≤ reachBytes) = true := hsz0
  have hW' := hW
  obtain ⟨p, q, hA0, hV, rfl, hfz, hnd⟩ := hW
  have hA : DataW.TrodAll enc Try.prog W 0 (fun _ => true) true Try.f6.params.toList args.toList ds p := hA0
  rw [Try.params6] at hA hval hsz
  obtain ⟨v0, vs0, d0, ds0, p0, q0, hargs, rfl, rfl, h0, r0⟩ := trodAll_cons hA
  obtain ⟨v1, vs1, d1, ds1, p1, q1, rfl, rfl, rfl, h1, r1⟩ := trodAll_cons r0
  obtain ⟨v2, vs2, d2, ds2, p2, q2, rfl, rfl, rfl, h2, r2⟩ := trodAll_cons r1
  obtain ⟨rfl, rfl, rfl⟩ := trodAll_nil r2
  obtain rfl : args = #[v0, v1, v2] := by cases args; simp_all
  obtain ⟨rfl, rfl⟩ := trodVars_none hV
  obtain ⟨a0, rfl, rfl, rfl, w0⟩ := open_int Try.underlying3 (hval 0 3 v0 rfl rfl) h0
  obtain ⟨A1, len1, cap1, rfl⟩ := okWide_slice Try.underlying47 (hval 1 47 v1 rfl rfl)
  obtain ⟨A2, len2, cap2, rfl⟩ := okWide_slice Try.underlying48 (hval 2 48 v2 rfl rfl)
  obtain ⟨ws, rfl, hw, hl, hby, hb64⟩ := read_wr hsz (j := 1) rfl rfl h1
  obtain ⟨ks, rfl, hk, hkl⟩ := read_bools hsz (j := 2) rfl rfl h2
  clear hA0 hval0 hsz0
  simp only [List.append_nil] at hW'
  refine (sets_any (w := W) hw hk hl hby hb64 hkl).mono fun e W' ⟨he, hg⟩ => ?_
  subst he
  exact ⟨_, rfl, YtekgdlpicgibhabClose.post_true laidOut (by rfl) Try.underlying4 rfl (by kernel_rfl) hW' rfl hg⟩
theorem proved : Rows.ExploreSetsSaid :=
  OpenClaim.holds_of_wide 6 Try.f6 rfl rfl rfl rfl rfl rfl rfl ⟨rfl, rfl, rfl, rfl, rfl⟩ rfl rfl rfl rfl rfl (by kernel_rfl) Try.func6 (by kernel_rfl)
    (of_decide_eq_true (by kernel_rfl)) (by unfold Func.isWrapper; first | (rw [if_pos (by decide +kernel)]; kernel_rfl) | (rw [if_neg (by decide +kernel)]; exact ⟨rfl, rfl⟩))
    (fun os started H enc _ => lifted os started H enc)
end Go.Proofs.Ytekgdlpicgibhab.Sets
