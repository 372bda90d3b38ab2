/-
  A slice of structs of four whole numbers that came in, read.
-/
import Derived.Test.YtekgdlpicgibhaaWWords
import Derived.SizedLaws
import Derived.ChangeSlices
import Derived.Deep.Slices
import Derived.Lib.SmallJoins
namespace Go.Proofs.YtekgdlpicgibhaaRead
open Go.ChangeShapes Go.WideShapes Go.RowKit Go.Proofs.YtekgdlpicgibhaaW.PrintWords Go.Joins

/-- The script's cells. -/
def OpsAt (w : World) (A : Option Addr) (len : Nat) : Prop := ∀ k, k < len → ∃ ad kd who a b, A = some ad ∧ ad.block < w.heap.size ∧ w.cell? (ad.add (k * 4)) = some (.int .i64 kd) ∧ w.cell? ⟨(ad.add (k * 4)).block, (ad.add (k * 4)).off + 1, none⟩ = some (.int .i64 who) ∧ w.cell? ⟨(ad.add (k * 4)).block, (ad.add (k * 4)).off + 2, none⟩ = some (.int .i64 a) ∧ w.cell? ⟨(ad.add (k * 4)).block, (ad.add (k * 4)).off + 3, none⟩ = some (.int .i64 b)
theorem cell_plain {w : World} {p : Addr} {v : Value} {j : Nat} (h : w.cell? (p.add j) = some v) : w.cell? ⟨p.block, p.off + j, none⟩ = some v := by
  have hb : (p.add j).block = p.block := by unfold Addr.add; split <;> rfl
  have ho : (p.add j).off = p.off + j := by unfold Addr.add; split <;> simp_all
  unfold World.cell? at h ⊢
  rw [hb, ho] at h
  simp only
  split at h
  · split at h
    · cases h
    · simpa using h
  · cases h
section
variable {H : Type} {enc : TypeId × Value → H} {P : Program} {W : World} {base : Nat} {t e : TypeId} {a : Option Addr} {len cap : Nat} {d : DataW H} {ps : List MemPlace} {ts : List TypeId} {ds : List (DataW H)} {j : Nat}
theorem read_four {f0 f1 f2 f3 : Field} (ht : P.underlying t = some (.slice e)) (he : P.underlying e = some (.struct #[f0, f1, f2, f3])) (ce : P.cellsOf e = 4)
    (o : f0.offset = 0 ∧ f1.offset = 1 ∧ f2.offset = 2 ∧ f3.offset = 3) (c : P.cellsOf f0.type = 1 ∧ P.cellsOf f1.type = 1 ∧ P.cellsOf f2.type = 1 ∧ P.cellsOf f3.type = 1)
    (u : P.underlying f0.type = some (.int .i64) ∧ P.underlying f1.type = some (.int .i64) ∧ P.underlying f2.type = some (.int .i64) ∧ P.underlying f3.type = some (.int .i64))
    {B : Nat} (hB : P.bytesOf e = B) (hsz : (DataW.weightsEach P ts ds).all (· ≤ reachBytes) = true) (hj : ts[j]? = some t) (hd : ds[j]? = some d)
    (h : DataW.Trod enc P W base (fun _ => true) true t (.slice a len cap) d ps) :
    ∃ _xs : Unit, OpsAt W a len ∧ len * B ≤ 140737488351232 := by
  obtain ⟨o0, o1, o2, o3⟩ := o
  obtain ⟨c0, c1, c2, c3⟩ := c
  obtain ⟨u0, u1, u2, u3⟩ := u
  obtain ⟨fuel, hf⟩ := h
  rcases Deep.open_slice ht hf with ⟨hcs, _⟩ | ⟨x, l, cc, m, n, D, Pl, hcs, _, hl, hm, hmm, hx, hcell⟩
  · simp [Value.cells] at hcs
    obtain ⟨rfl, rfl, rfl⟩ := hcs
    exact ⟨(), fun k hk => by omega, by simp⟩
  · simp [Value.cells] at hcs
    obtain ⟨rfl, rfl, rfl⟩ := hcs
    obtain ⟨hx, _⟩ := Prod.mk.inj hx
    subst hx
    have z := sized_slice hsz hj hd ht
    rw [hB] at z
    have hmc : m = cap := by simpa using hmm
    refine ⟨(), fun k hk => ?_, ?_⟩
    · obtain ⟨cs', h1, h2⟩ := hcell k (by omega)
      rw [ce] at h1
      obtain ⟨_, hlen, hc⟩ := World.cells?_some h1
      obtain ⟨y0, y1, y2, y3, n', _, _, g0, g1, g2, g3⟩ := trod_struct4 he h2
      match cs', hlen with
      | [v0, v1, v2, v3], _ =>
        simp [o0, o1, o2, o3, c0, c1, c2, c3] at g0 g1 g2 g3
        have e0 := hc 0 (by omega)
        have e1 := hc 1 (by omega)
        have e2 := hc 2 (by omega)
        have e3 := hc 3 (by omega)
        obtain ⟨x0, q0, _⟩ := DataW.trod_int u0 g0
        obtain ⟨x1, q1, _⟩ := DataW.trod_int u1 g1
        obtain ⟨x2, q2, _⟩ := DataW.trod_int u2 g2
        obtain ⟨x3, q3, _⟩ := DataW.trod_int u3 g3
        cases q0
        cases q1
        cases q2
        cases q3
        have e0' : W.cell? (x.add (k * 4)) = some (.int .i64 x0) := by
          have : (x.add (k * 4)).add 0 = x.add (k * 4) := by simp [Addr.add]
          rw [this] at e0
          simpa using e0
        have hb : (x.add (k * 4)).block = x.block := by unfold Addr.add; split <;> rfl
        refine ⟨x, x0, x1, x2, x3, rfl, ?_, e0', ?_, ?_, ?_⟩
        · rw [← hb]; exact World.block_lt_of_cell? W _ e0'
        · exact cell_plain (by simpa using e1)
        · exact cell_plain (by simpa using e2)
        · exact cell_plain (by simpa using e3)
    · refine Nat.le_trans (Nat.mul_le_mul_right _ ?_) z
      simp
end
end Go.Proofs.YtekgdlpicgibhaaRead
