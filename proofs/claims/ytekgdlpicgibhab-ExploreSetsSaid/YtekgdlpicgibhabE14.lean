/-
  known: the images of two pending writes of one block.
-/
import Derived.Test.YtekgdlpicgibhabE12
import Derived.Deep.DeepCutAuto
namespace Go.Proofs.Ytekgdlpicgibhab.EX
open Go.RowKit Go.Proofs.YtekgdlpicgibhabW.PrintWords
def bs0 : List Int := List.replicate 1024 0
def ps0 : List (Int × List Int) := [(1, List.replicate 512 65), (1, List.replicate 512 66)]
def half (x : Int) : List Int := List.replicate 512 0 ++ List.replicate 512 x
theorem images0 : images bs0 ps0 = [half 0, half 65, half 66] := by decide +kernel
theorem errno0 : errno bs0.length ps0 = 0 := by decide +kernel
theorem below_step {W W1 W2 : World} (h : Below W.heap.size W W1) (h2 : Below W1.heap.size W1 W2) : Below W.heap.size W W2 := h.trans (h2.mono h.size)
theorem made0 (X : World) (s : Nat) (hs : X.heap.size = s) : Rd (X.alloc (.cells (madeCells #[.int .u8 0] 1024) 5)) (.slice (some ⟨s, 0, none⟩) 1024 1024) bs0 := by
  subst hs
  exact (made_row X 1024 (by decide)).rd
theorem pend2 (W : World) (s : Nat) (hs : W.heap.size = s) {A1 A2 : Option Addr} {n1 n2 c1 c2 : Nat} {x1 x2 : List Int} {b1 b2 : Int} {t : Nat} (h1 : Rd W (.slice A1 n1 c1) x1) (h2 : Rd W (.slice A2 n2 c2) x2) :
    PendAt (W.alloc (.cells #[.int .i64 b1, .slice A1 n1 c1, .int .i64 b2, .slice A2 n2 c2] t)) (.slice (some ⟨s, 0, none⟩) 2 2) [(b1, x1), (b2, x2)] := by
  subst hs
  obtain ⟨A, c, e, _⟩ := id h1
  cases e
  obtain ⟨A, c, e, _⟩ := id h2
  cases e
  have hb := heap_alloc_new W (.cells #[.int .i64 b1, .slice A1 x1.length c1, .int .i64 b2, .slice A2 x2.length c2] t)
  have hB := below_alloc (Below.refl W.heap.size W) (.cells #[.int .i64 b1, .slice A1 x1.length c1, .int .i64 b2, .slice A2 x2.length c2] t)
  refine ⟨_, _, rfl, fun k p hp => ?_⟩
  match k with
  | 0 =>
    simp at hp
    subst hp
    exact ⟨_, A1, c1, rfl, by simp, by rw [add_zero_plain]; exact (blk_cell hb 0).trans rfl, by rw [add_zero_plain]; exact (blk_cell hb 1).trans rfl, h1.below (Nat.le_refl _) hB⟩
  | 1 =>
    simp at hp
    subst hp
    exact ⟨_, A2, c2, rfl, by simp, by rw [add_zero_plain]; exact (blk_cell hb 2).trans rfl, by rw [add_zero_plain]; exact (blk_cell hb 3).trans rfl, h2.below (Nat.le_refl _) hB⟩
  | k + 2 => simp at hp
set_option maxRecDepth 100000 in
theorem lens0 : ∀ p ∈ ps0, p.2.length ≤ 1048576 := by decide
theorem blocks0 : ∀ p ∈ ps0, -9223372036854775808 ≤ p.1 ∧ p.1 ≤ 9223372036854775807 := by decide
theorem byts0 : Byts bs0 := fun x hx => by
  have := (List.mem_replicate.1 hx).2
  omega
set_option maxRecDepth 100000 in
theorem pbyts0 : ∀ p ∈ ps0, Byts p.2 := fun p hp x hx => by
  simp only [ps0, List.mem_cons, List.not_mem_nil, or_false] at hp
  rcases hp with rfl | rfl
  all_goals
    have := (List.mem_replicate.1 hx).2
    omega
/-- A list of byte slices with their room. -/
def ListC (w : World) (v : Value) (Xs : List (List Int)) : Prop :=
  ∃ A c, v = .slice A Xs.length c ∧ ∀ k x, Xs[k]? = some x → ∃ ad A' c', A = some ad ∧ ad.block < w.heap.size ∧ w.cell? (ad.add k) = some (.slice A' x.length c') ∧ x.length ≤ c' ∧ Rd w (.slice A' x.length c') x
theorem Im.listC {w : World} {b : Nat} {v : Value} {L : List Sl} {Xs : List (List Int)} (h : Im w b v L Xs) : ListC w v Xs := by
  obtain ⟨A, c, e⟩ := Kd.R_slice h.row
  refine ⟨A, c, by rw [e, h.len], fun k X hX => ?_⟩
  have hk : k < L.length := by rw [h.len]; exact (List.getElem?_eq_some_iff.1 hX).1
  obtain ⟨x, hx⟩ : ∃ x, L[k]? = some x := ⟨_, List.getElem?_eq_getElem hk⟩
  obtain ⟨h1, h2⟩ := h.at_ k x X hx hX
  have hr := h.row
  rw [e] at hr
  obtain ⟨g, rfl, z0⟩ := Rv.cell hr hx
  have h3 : Rd w (.slice x.A X.length x.c) X := by have := h2.rd; rw [← h1]; exact this
  have hcap : X.length ≤ x.c := by
    obtain ⟨_, hc', _⟩ := Kd.R_reads' (A := x.A) (n := x.n) (c := x.c) h2
    omega
  refine ⟨⟨g, 0, none⟩, x.A, x.c, rfl, ?_, ?_, hcap, h3⟩
  · have := World.block_lt_of_cell? w _ z0; exact this
  · rw [add_zero_plain, z0, h1]
/-- The two writes in the world behind them, whatever else has come. -/
theorem pend0 {w1 w2 : World} {A1 A2 : Option Addr} {c1 c2 b b' : Nat} (h1 : Rb w1 b (.slice A1 512 c1) (List.replicate 512 65)) (h2 : Rb w2 b' (.slice A2 512 c2) (List.replicate 512 66)) (X W : World) (s : Nat) (hs : W.heap.size = s)
    (b1 : Below w1.heap.size w1 W) (b2 : Below w2.heap.size w2 W) (b3 : Below (W.alloc (.cells #[.int .i64 1, .slice A1 512 c1, .int .i64 1, .slice A2 512 c2] 30)).heap.size (W.alloc (.cells #[.int .i64 1, .slice A1 512 c1, .int .i64 1, .slice A2 512 c2] 30)) X) : PendAt X (.slice (some ⟨s, 0, none⟩) 2 2) ps0 := by
  have h := pend2 (b1 := 1) (b2 := 1) (t := 30) W s hs (h1.rd.below (Nat.le_refl _) b1) (h2.rd.below (Nat.le_refl _) b2)
  exact h.below (Nat.le_refl _) b3
set_option maxRecDepth 100000 in
set_option maxHeartbeats 2000000 in
theorem known_any (w : World) : Calls Try.prog 9 #[] w fun e w' => e = .returned (.bool true) ∧ Below w.heap.size w w' := by
  have hmk : ∀ W : World, (Instr.makeSlice 24 (.int .i64 1024) (.int .i64 1024)).run Try.prog W = .ok (.slice (some ⟨W.heap.size, 0, none⟩) 1024 1024) (W.alloc (.cells (madeCells #[.int .u8 0] 1024) 5)) := fun W =>
    run_make_row' 24 5 (.int .u8 0) 1 Try.underlying24 info5 rfl .i64 .i64 1024 (by decide) (by decide) W
  have HW0 : Hid (Below w.heap.size w w.drew) := below_drew (Below.refl _ _)
  go_enter Try.func9, Try.ntmps9
  go_upto_region 1 with fail
  go_cut [1, 2] (fun s1 s2 wx => ListC wx s1 [half 0, half 65, half 66] ∧ s2 = .int .i64 0 ∧ Below w.heap.size w wx)
  case first =>
    go_region_law (first
      | (go_simp; go_at_call_of 23 (Value.int .u8 65); refine (full_any 65 _).mono ?_; rintro e w1 ⟨v1, rfl, hR1, hb1⟩; obtain ⟨A1, c1, e1⟩ := Kd.R_slice hR1; rw [List.length_replicate] at e1; subst e1; have HR1 := Lib.hid hR1; have HB1 := Lib.hid hb1; clear hR1 hb1)
      | (go_simp; go_at_call_of 23 (Value.int .u8 66); refine (full_any 66 _).mono ?_; rintro e w2 ⟨v2, rfl, hR2, hb2⟩; obtain ⟨A2, c2, e2⟩ := Kd.R_slice hR2; rw [List.length_replicate] at e2; subst e2; have HR2 := Lib.hid hR2; have HB2 := Lib.hid hb2; clear hR2 hb2)
      | (go_simp; go_at_call 12; refine (images_any (bs := bs0) (ps := ps0)
            (by first
              | (refine Rd.below (made0 w.drew _ (by simp)) (Nat.le_refl _) ?_; (repeat (first | exact Below.refl _ _ | exact below_drew (Below.refl _ _) | refine below_alloc ?_ _ | refine below_step ?_ HB2.out | refine below_step ?_ HB1.out)); done)
              | (refine Rd.below (made0 w1 _ (by simp)) (Nat.le_refl _) ?_; (repeat (first | exact Below.refl _ _ | exact below_drew (Below.refl _ _) | refine below_alloc ?_ _ | refine below_step ?_ HB2.out | refine below_step ?_ HB1.out)); done)
              | (refine Rd.below (made0 w2 _ (by simp)) (Nat.le_refl _) ?_; (repeat (first | exact Below.refl _ _ | exact below_drew (Below.refl _ _) | refine below_alloc ?_ _ | refine below_step ?_ HB2.out | refine below_step ?_ HB1.out)); done)
              | (refine Rd.below (made0 (w2.alloc (.cells #[.int .i64 1, .slice A1 512 c1, .int .i64 1, .slice A2 512 c2] 30)) _ (by simp)) (Nat.le_refl _) ?_; (repeat (first | exact Below.refl _ _ | exact below_drew (Below.refl _ _) | refine below_alloc ?_ _ | refine below_step ?_ HB2.out | refine below_step ?_ HB1.out)); done))
            (by first
              | (refine pend0 HR1.out HR2.out _ w2 _ (by simp) ?_ ?_ ?_ <;> ((repeat (first | exact Below.refl _ _ | exact below_drew (Below.refl _ _) | refine below_alloc ?_ _ | refine below_step ?_ HB2.out | refine below_step ?_ HB1.out)); done))
              | (refine pend0 HR1.out HR2.out _ (w2.alloc (.cells (madeCells #[.int .u8 0] 1024) 5)) _ (by simp) ?_ ?_ ?_ <;> ((repeat (first | exact Below.refl _ _ | exact below_drew (Below.refl _ _) | refine below_alloc ?_ _ | refine below_step ?_ HB2.out | refine below_step ?_ HB1.out)); done)))
            (by decide) (by decide) lens0 blocks0 byts0 pbyts0).mono ?_; rintro e w3 ⟨v3, L3, rfl, hI3, hb3⟩; have HI3 := Lib.hid hI3; have HB3 := Lib.hid hb3; clear hI3 hb3))
    all_goals
      have HW3 : Hid (Below w.heap.size w w3) := by
        refine (below_step ?_ HB3.out)
        repeat (first | exact Below.refl _ _ | exact below_drew (Below.refl _ _) | refine below_alloc ?_ _ | refine below_step ?_ HB2.out | refine below_step ?_ HB1.out)
        all_goals exact below_drew (below_alloc (Below.refl _ _) _)
      go_wp2
      go_meet
      exact ⟨by have := HI3.out.listC; rw [images0] at this; exact this, by rw [errno0], HW3.out⟩
  case rest =>
    obtain ⟨hl, rfl, hb⟩ := hcut
    obtain ⟨A0, c0, rfl, hX⟩ := hl
    have HX := Lib.hid hX
    have HB := Lib.hid hb
    clear hX hb hmk
    go_wp2_with fail
    refine (num_any 0 _).mono ?_
    rintro e w1 ⟨rfl, rfl⟩
    go_wp2
    go_loopw [3] (fun i wr => ∃ k : Nat, k ≤ 3 ∧ i = .int .i64 k ∧ wr = wc) (fun i _ => 3 - (intOf i).toNat)
    case atStart => exact ⟨0, by omega, rfl, rfl⟩
    case round =>
      obtain ⟨k, hk, rfl, rfl⟩ := hrel
      by_cases hlt : k < 3
      · obtain ⟨x, hx⟩ : ∃ x, [half 0, half 65, half 66][k]? = some x := ⟨_, List.getElem?_eq_getElem hlt⟩
        obtain ⟨ad, A', c', rfl, had, hc, hcap, hR⟩ := HX.out k x hx
        obtain ⟨y, rfl⟩ : ∃ y, x = half y := by
          have := List.mem_of_getElem? hx
          simp only [List.mem_cons, List.not_mem_nil, or_false] at this
          rcases this with rfl | rfl | rfl <;> exact ⟨_, rfl⟩
        have hhl : (half y).length = 1024 := by simp [half]
        rw [hhl] at hc hR hcap
        have hP := Rd.front (xs := List.replicate 512 0) (ys := List.replicate 512 y) hR
        rw [List.length_replicate] at hP
        have HZ := Lib.hid hP
        have hcap : (512 : Int) ≤ (c' : Int) := by omega
        clear hx hP hR hhl
        go_wp2_with fail
        refine (zero_any HZ.out (by omega)).mono ?_
        rintro e w5 ⟨rfl, rfl⟩
        go_wp2
        go_roundw
        case rel => exact ⟨k + 1, hlt, by go_num, trivial⟩
        case measure => simp [intOf]; omega
      · obtain rfl : k = 3 := by omega
        obtain ⟨a0, A1, c1, rfl, q0, z0, _, r0⟩ := HX.out 0 (half 0) rfl
        obtain ⟨a1, A2, c2, e1, q1, z1, _, r1⟩ := HX.out 1 (half 65) rfl
        cases e1
        obtain ⟨a2, A3, c3, e2, q2, z2, _, r2⟩ := HX.out 2 (half 66) rfl
        cases e2
        have hhl : ∀ y, (half y).length = 1024 := fun y => by simp [half]
        have hv : ∀ y, (half y).getD 600 0 = y := fun y => by
          unfold half
          rw [List.getD_eq_getElem?_getD, List.getElem?_append_right (by simp), List.length_replicate, List.getElem?_replicate]
          rfl
        rw [hhl] at z0 r0 z1 r1 z2 r2
        obtain ⟨d0, e0, p0, y0⟩ := r0.cells.2 600 (by omega)
        obtain ⟨d1, e1, p1, y1⟩ := r1.cells.2 600 (by omega)
        obtain ⟨d2, e2, p2, y2⟩ := r2.cells.2 600 (by omega)
        subst e0 e1 e2
        rw [hv] at y0 y1 y2
        have y0 := cell_plain y0
        have y1 := cell_plain y1
        have y2 := cell_plain y2
        rw [Addr.add_zero'] at z0
        have z1 := cell_plain z1
        have z2 := cell_plain z2
        clear r0 r1 r2 hhl hv
        go_wp2
        go_ret
        exact ⟨rfl, HB.out⟩
end Go.Proofs.Ytekgdlpicgibhab.EX
