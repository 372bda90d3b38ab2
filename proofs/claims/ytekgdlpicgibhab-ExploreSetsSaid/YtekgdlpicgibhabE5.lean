/-
  stays: nothing of a twin is changed.
-/
import Derived.Test.YtekgdlpicgibhabE4
namespace Go.Proofs.Ytekgdlpicgibhab.EX
open Go.RowKit Go.Proofs.YtekgdlpicgibhabW.PrintWords

theorem cell_plain {w : World} {p : Addr} {v : Value} {j : Nat} (h : w.cell? (p.add j) = some v) : w.cell? ⟨p.block, p.off + j, none⟩ = some v := by
  have hb : (p.add j).block = p.block := by unfold Addr.add; split <;> rfl
  have ho : (p.add j).off = p.off + j := by unfold Addr.add; split <;> simp_all
  unfold World.cell? at h ⊢
  rw [hb, ho] at h
  simp only
  split at h
  · split at h
    · cases h
    · simpa using h
  · cases h
/-- A slice of pending writes with marks behind each. -/
def MarkAt (w : World) (v : Value) (ps : List (Int × List Int)) : Prop :=
  ∃ A c, v = .slice A ps.length c ∧ ∀ k p, ps[k]? = some p → ∃ ad A' c', A = some ad ∧ ad.block < w.heap.size ∧ w.cell? (ad.add (k * 2)) = some (.int .i64 p.1) ∧
    w.cell? ⟨(ad.add (k * 2)).block, (ad.add (k * 2)).off + 1, none⟩ = some (.slice A' p.2.length c') ∧ p.2.length + 2 ≤ c' ∧ Rd w (.slice A' (p.2.length + 2) c') (p.2 ++ [201, 202])
theorem MarkAt.pend {w : World} {v : Value} {ps : List (Int × List Int)} (h : MarkAt w v ps) : PendAt w v ps := by
  obtain ⟨A, c, e, h⟩ := h
  refine ⟨A, c, e, fun k p hp => ?_⟩
  obtain ⟨ad, A', c', h1, h2, h3, h4, _, h6⟩ := h k p hp
  exact ⟨ad, A', c', h1, h2, h3, h4, h6.front⟩
theorem MarkAt.below {w w1 : World} {B : Nat} {v : Value} {ps : List (Int × List Int)} (h : MarkAt w v ps) (hB : w.heap.size ≤ B) (hb : Below B w w1) : MarkAt w1 v ps := by
  obtain ⟨A, c, e, h⟩ := h
  refine ⟨A, c, e, fun k x hx => ?_⟩
  obtain ⟨ad, A', c', e1, h1, h2, h3, h4, h5⟩ := h k x hx
  exact ⟨ad, A', c', e1, Nat.lt_of_lt_of_le h1 hb.size, (hb.cell (p := ad.add (k * 2)) (by rw [add_block]; omega)).trans h2, (hb.cell (p := ⟨(ad.add (k * 2)).block, (ad.add (k * 2)).off + 1, none⟩) (by show (ad.add (k * 2)).block < B; rw [add_block]; omega)).trans h3, h4, h5.below hB hb⟩
set_option maxRecDepth 100000 in
set_option maxHeartbeats 1000000 in
theorem stays_any {w : World} {A B : Option Addr} {n m c d : Nat} {ps : List (Int × List Int)} (hx : MarkAt w (.slice A n c) ps) (hy : PendAt w (.slice B m d) ps) (hl : ∀ p ∈ ps, p.2.length ≤ 1099511627776) (hL : ps.length ≤ 1099511627776) :
    Calls Try.prog 15 #[.slice A n c, .slice B m d] w fun e w' => e = .returned (.bool true) ∧ ∃ k, w' = w.drewN k := by
  have HP := Lib.hid hx.pend
  have HY := Lib.hid hy
  obtain ⟨A1, c1, e1, hX⟩ := hx
  cases e1
  have HX := Lib.hid hX
  have HL := Lib.hid hl
  clear hX hl hy
  go_enter Try.func15, Try.ntmps15
  go_wp2_with fail
  refine (pends_same HP.out HY.out HL.out hL).mono ?_
  rintro e w' ⟨rfl, m1, rfl⟩
  go_wp2
  go_loopw [6] (fun i wr => ∃ k m : Nat, k ≤ ps.length ∧ i = .int .i64 k ∧ wr = w.drewN m) (fun i _ => ps.length - (intOf i).toNat)
  case atStart => exact ⟨0, m1, Nat.zero_le _, rfl, rfl⟩
  case round =>
    obtain ⟨k, m, hk, rfl, rfl⟩ := hrel
    by_cases hlt : k < ps.length
    · obtain ⟨p, hp⟩ : ∃ p, ps[k]? = some p := ⟨_, List.getElem?_eq_getElem hlt⟩
      obtain ⟨bk, x⟩ := p
      obtain ⟨ad, A1', c1', rfl, had, hc0, hc1, hcap, hR⟩ := HX.out k _ hp
      have hxl := HL.out _ (List.mem_of_getElem? hp)
      simp only at hxl hc0 hc1 hR hcap
      obtain ⟨ed, hA, _, h201⟩ := hR.cells.2 x.length (by omega)
      obtain ⟨ed', hA', _, h202⟩ := hR.cells.2 (x.length + 1) (by omega)
      subst hA
      cases hA'
      simp [List.getD_eq_getElem?_getD] at h201 h202
      have h203 := cell_plain h202
      have h205 : (x.length : Int) + 2 - 1 = (x.length : Int) + 1 := by omega
      have hcc : (x.length : Int) + 2 ≤ (c1' : Int) := by omega
      clear hp hR hcap
      go_wp2
      go_quiet (fail)
      go_wp2
      go_roundw
      case rel => exact ⟨k + 1, _, hlt, by go_num, rfl⟩
      case measure => simp [intOf]; omega
    · go_wp2
      go_ret
      exact ⟨rfl, m, rfl⟩
end Go.Proofs.Ytekgdlpicgibhab.EX
