/-
  Lists of byte slices, lists of pending writes: read, and held against each other.
-/
import Derived.Test.YtekgdlpicgibhabE2
namespace Go.Proofs.Ytekgdlpicgibhab.EX
open Go.RowKit Go.Proofs.YtekgdlpicgibhabW.PrintWords

/-- A slice of byte slices that reads so. -/
def ListAt (w : World) (v : Value) (Xs : List (List Int)) : Prop :=
  ∃ A c, v = .slice A Xs.length c ∧ ∀ k x, Xs[k]? = some x → ∃ ad A' c', A = some ad ∧ ad.block < w.heap.size ∧ w.cell? (ad.add k) = some (.slice A' x.length c') ∧ Rd w (.slice A' x.length c') x
/-- A slice of pending writes that reads so. -/
def PendAt (w : World) (v : Value) (ps : List (Int × List Int)) : Prop :=
  ∃ A c, v = .slice A ps.length c ∧ ∀ k p, ps[k]? = some p → ∃ ad A' c', A = some ad ∧ ad.block < w.heap.size ∧ w.cell? (ad.add (k * 2)) = some (.int .i64 p.1) ∧
    w.cell? ⟨(ad.add (k * 2)).block, (ad.add (k * 2)).off + 1, none⟩ = some (.slice A' p.2.length c') ∧ Rd w (.slice A' p.2.length c') p.2
theorem ListAt.below {w w1 : World} {B : Nat} {v : Value} {Xs : List (List Int)} (h : ListAt w v Xs) (hB : w.heap.size ≤ B) (hb : Below B w w1) : ListAt w1 v Xs := by
  obtain ⟨A, c, e, h⟩ := h
  refine ⟨A, c, e, fun k x hx => ?_⟩
  obtain ⟨ad, A', c', e1, h1, h2, h3⟩ := h k x hx
  exact ⟨ad, A', c', e1, Nat.lt_of_lt_of_le h1 hb.size, (hb.cell (p := ad.add k) (by rw [add_block]; omega)).trans h2, h3.below hB hb⟩
theorem PendAt.below {w w1 : World} {B : Nat} {v : Value} {ps : List (Int × List Int)} (h : PendAt w v ps) (hB : w.heap.size ≤ B) (hb : Below B w w1) : PendAt w1 v ps := by
  obtain ⟨A, c, e, h⟩ := h
  refine ⟨A, c, e, fun k x hx => ?_⟩
  obtain ⟨ad, A', c', e1, h1, h2, h3, h4⟩ := h k x hx
  exact ⟨ad, A', c', e1, Nat.lt_of_lt_of_le h1 hb.size, (hb.cell (p := ad.add (k * 2)) (by rw [add_block]; omega)).trans h2, (hb.cell (p := ⟨(ad.add (k * 2)).block, (ad.add (k * 2)).off + 1, none⟩) (by show (ad.add (k * 2)).block < B; rw [add_block]; omega)).trans h3, h4.below hB hb⟩

theorem Rd.drewN {w : World} {v : Value} {xs : List Int} (h : Rd w v xs) (n : Nat) : Rd (w.drewN n) v xs := h.below (Nat.le_refl _) (pw_below_drewN (Below.refl _ _) n)
theorem ListAt.drewN {w : World} {v : Value} {Xs : List (List Int)} (h : ListAt w v Xs) (n : Nat) : ListAt (w.drewN n) v Xs := h.below (Nat.le_refl _) (pw_below_drewN (Below.refl _ _) n)
theorem PendAt.drewN {w : World} {v : Value} {ps : List (Int × List Int)} (h : PendAt w v ps) (n : Nat) : PendAt (w.drewN n) v ps := h.below (Nat.le_refl _) (pw_below_drewN (Below.refl _ _) n)
/-- SameBytes at two slices that read alike, behind draws. -/
theorem same_yes {w : World} {A B : Option Addr} {n m c d : Nat} {xs : List Int} (hx : Rd w (.slice A n c) xs) (hy : Rd w (.slice B m d) xs) (hl : xs.length ≤ 1099511627776) (N : Nat) :
    Calls Try.prog 17 #[.slice A n c, .slice B m d] (w.drewN N) fun e w' => e = .returned (.bool true) ∧ ∃ k, w' = w.drewN k := by
  refine (same_any (hx.drewN N) (hy.drewN N) hl).mono ?_
  rintro e w' ⟨rfl, k, rfl⟩
  exact ⟨by rw [decide_eq_true rfl], _, World.drewN_drewN ..⟩

set_option maxRecDepth 100000 in
/-- SameLists of two that read alike. -/
theorem lists_same {w : World} {A B : Option Addr} {n m c d : Nat} {Xs : List (List Int)} (hx : ListAt w (.slice A n c) Xs) (hy : ListAt w (.slice B m d) Xs) (hl : ∀ x ∈ Xs, x.length ≤ 1099511627776) (hL : Xs.length ≤ 1099511627776) :
    Calls Try.prog 14 #[.slice A n c, .slice B m d] w fun e w' => e = .returned (.bool true) ∧ ∃ k, w' = w.drewN k := by
  obtain ⟨A1, c1, e1, hX⟩ := hx
  obtain ⟨A2, c2, e2, hY⟩ := hy
  cases e1
  cases e2
  have HX := Lib.hid hX
  have HY := Lib.hid hY
  have HL := Lib.hid hl
  clear hX hY hl
  go_enter Try.func14, Try.ntmps14
  go_wp2
  go_loopw [5] (fun i wr => ∃ k m : Nat, k ≤ Xs.length ∧ i = .int .i64 k ∧ wr = w.drewN m) (fun i _ => Xs.length - (intOf i).toNat)
  case atStart => exact ⟨0, 0, Nat.zero_le _, rfl, rfl⟩
  case round =>
    obtain ⟨k, m, hk, rfl, rfl⟩ := hrel
    by_cases hlt : k < Xs.length
    · obtain ⟨x, hx⟩ : ∃ x, Xs[k]? = some x := ⟨_, List.getElem?_eq_getElem hlt⟩
      obtain ⟨ad, A1', c1', rfl, had, hc, hR⟩ := HX.out k x hx
      obtain ⟨bd, A2', c2', rfl, hbd, hd, hS⟩ := HY.out k x hx
      have hxl := HL.out x (List.mem_of_getElem? hx)
      have HR := Lib.hid hR
      have HS := Lib.hid hS
      have HXL := Lib.hid hxl
      clear hR hS hx hxl
      go_upto_region 6 with fail
      go_region_law (go_simp; go_at_call 17; refine (same_yes HR.out HS.out HXL.out _).mono ?_; rintro e w6 ⟨rfl, m6, rfl⟩)
      all_goals
        go_wp2
        go_roundw
        case rel => exact ⟨k + 1, _, hlt, by go_num, rfl⟩
        case measure => simp [intOf]; omega
    · go_wp2
      go_ret
      exact ⟨rfl, m, rfl⟩
set_option maxRecDepth 100000 in
/-- SamePendings of two that read alike. -/
theorem pends_same {w : World} {A B : Option Addr} {n m c d : Nat} {ps : List (Int × List Int)} (hx : PendAt w (.slice A n c) ps) (hy : PendAt w (.slice B m d) ps) (hl : ∀ p ∈ ps, p.2.length ≤ 1099511627776) (hL : ps.length ≤ 1099511627776) :
    Calls Try.prog 39 #[.slice A n c, .slice B m d] w fun e w' => e = .returned (.bool true) ∧ ∃ k, w' = w.drewN k := by
  obtain ⟨A1, c1, e1, hX⟩ := hx
  obtain ⟨A2, c2, e2, hY⟩ := hy
  cases e1
  cases e2
  have HX := Lib.hid hX
  have HY := Lib.hid hY
  have HL := Lib.hid hl
  clear hX hY hl
  go_enter Try.func39, Try.ntmps39
  go_wp2
  go_loopw [5] (fun i wr => ∃ k m : Nat, k ≤ ps.length ∧ i = .int .i64 k ∧ wr = w.drewN m) (fun i _ => ps.length - (intOf i).toNat)
  case atStart => exact ⟨0, 0, Nat.zero_le _, rfl, rfl⟩
  case round =>
    obtain ⟨k, m, hk, rfl, rfl⟩ := hrel
    by_cases hlt : k < ps.length
    · obtain ⟨p, hp⟩ : ∃ p, ps[k]? = some p := ⟨_, List.getElem?_eq_getElem hlt⟩
      obtain ⟨b, x⟩ := p
      obtain ⟨ad, A1', c1', rfl, had, hc0, hc, hR⟩ := HX.out k _ hp
      obtain ⟨bd, A2', c2', rfl, hbd, hd0, hd, hS⟩ := HY.out k _ hp
      have hxl := HL.out _ (List.mem_of_getElem? hp)
      simp only at hxl hc0 hc hd0 hd hR hS
      have HR := Lib.hid hR
      have HS := Lib.hid hS
      have HXL := Lib.hid hxl
      clear hR hS hp hxl
      go_upto_region 6 with fail
      go_region_law (go_simp; go_at_call 17; refine (same_yes HR.out HS.out HXL.out _).mono ?_; rintro e w6 ⟨rfl, m6, rfl⟩)
      all_goals
        go_wp2
        go_quiet (fail)
        go_wp2
        go_roundw
        case rel => exact ⟨k + 1, _, hlt, by go_num, rfl⟩
        case measure => simp [intOf]; omega
    · go_wp2
      go_ret
      exact ⟨rfl, m, rfl⟩
end Go.Proofs.Ytekgdlpicgibhab.EX
