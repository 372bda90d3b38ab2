/-
  One queue of ints as a law holds it; annexlaw14's known, bound, num.
-/
import Derived.Test.YtekgdlpicgibhaaQ4
namespace Go.Proofs.Ytekgdlpicgibhaa.QI
open Go.RowKit Go.Proofs.YtekgdlpicgibhaaW.PrintWords Go.Proofs.Ytekgdlpicgibhaa.QQ

/-- The law's own queue: it lies in what came since w0; old memory is as it was. -/
def St (w0 w : World) (qb : Nat) (q : QM Int) : Prop :=
  ∃ B, w0.heap.size ≤ B ∧ B ≤ w.heap.size ∧ QIn w B (fun k => B ≤ k) qb q ∧ q.Wf ∧ Below w0.heap.size w0 w

theorem St.wf {w0 w : World} {qb : Nat} {q : QM Int} (h : St w0 w qb q) : q.Wf := by obtain ⟨B, _, _, _, h, _⟩ := h; exact h
theorem St.below {w0 w : World} {qb : Nat} {q : QM Int} (h : St w0 w qb q) : Below w0.heap.size w0 w := by obtain ⟨B, _, _, _, _, h⟩ := h; exact h
theorem St.left {w0 w w' : World} {qb : Nat} {q q' : QM Int} (h : St w0 w qb q) (hw : q'.Wf) (hl : ∀ B, B ≤ w.heap.size → QIn w B (fun k => B ≤ k) qb q → Left w B (fun k => B ≤ k) qb q' w') : St w0 w' qb q' := by
  obtain ⟨B, h1, h2, h3, h4, h5⟩ := h
  obtain ⟨hq, ho⟩ := hl B h2 h3
  have hb : Below B w w' := ho.below h2 (fun _ h => h)
  exact ⟨B, h1, Nat.le_trans h2 ho.size, hq.mono (fun k hk => hk.elim id (fun h => Nat.le_trans h2 h)), hw, h5.trans (hb.mono h1)⟩
/-- Something that lies beyond has come, or been written. -/
theorem St.later {w0 w w' : World} {qb : Nat} {q : QM Int} (h : St w0 w qb q) (hb : Below w.heap.size w w') : St w0 w' qb q := by
  obtain ⟨B, h1, h2, h3, h4, h5⟩ := h
  exact ⟨B, h1, Nat.le_trans h2 hb.size, h3.below hb, h4, h5.trans (hb.mono (Nat.le_trans h1 h2))⟩

theorem St.drew {w0 w : World} {qb : Nat} {q : QM Int} (h : St w0 w qb q) : St w0 w.drew qb q := h.later (below_drew (Below.refl _ _))

theorem push_st {w0 w : World} {qb : Nat} {q : QM Int} (h : St w0 w qb q) (c x : Int) :
    Calls Try.prog 19 #[.pointer (some ⟨qb, 0, none⟩), .int .i64 c, .int .i64 x] w fun e w' => e = .returned (.int .i64 (q.push c x).1) ∧ St w0 w' qb (q.push c x).2 := by
  have H := h
  obtain ⟨B, h1, h2, h3, h4, h5⟩ := h
  refine (push_any h3 h4 h2 c x).mono ?_
  rintro e w' ⟨he, hq, ho⟩
  have hb : Below B w w' := ho.below h2 (fun _ h => h)
  exact ⟨he, ⟨B, h1, Nat.le_trans h2 ho.size, hq.mono (fun k hk => hk.elim id (fun h => Nat.le_trans h2 h)), QM.push_wf h4 c x, h5.trans (hb.mono h1)⟩⟩
theorem pop_st {w0 w : World} {qb : Nat} {q : QM Int} (h : St w0 w qb q) :
    Calls Try.prog 18 #[.pointer (some ⟨qb, 0, none⟩)] w fun e w' => e = .returned (popValue q.pop.1) ∧ St w0 w' qb q.pop.2 := by
  obtain ⟨B, h1, h2, h3, h4, h5⟩ := h
  refine (pop_any h3 h4 h2).mono ?_
  rintro e w' ⟨he, hq, ho⟩
  have hb : Below B w w' := ho.below h2 (fun _ h => h)
  exact ⟨he, ⟨B, h1, Nat.le_trans h2 ho.size, hq.mono (fun k hk => hk.elim id (fun h => Nat.le_trans h2 h)), QM.pop_wf h4, h5.trans (hb.mono h1)⟩⟩
theorem total_st {w0 w : World} {qb : Nat} {q : QM Int} (h : St w0 w qb q) :
    Calls Try.prog 20 #[.pointer (some ⟨qb, 0, none⟩)] w fun e w' => e = .returned (.int .i64 (q.total : Int)) ∧ w = w' := by
  obtain ⟨B, h1, h2, h3, h4, h5⟩ := h
  exact total_any h3
theorem new_st {w0 w : World} (hb : Below w0.heap.size w0 w) (c p : Int) (h1 : 1 ≤ c) (h2 : c ≤ 64) (h3 : 1 ≤ p) (h4 : p ≤ 64) :
    Calls Try.prog 17 #[.int .i64 c, .int .i64 p] w fun e w' => ∃ qb, e = .returned (.pointer (some ⟨qb, 0, none⟩)) ∧ St w0 w' qb (QM.empty c.toNat p.toNat) := by
  refine (new_any c p w h1 h2 h3 h4).mono ?_
  rintro e w' ⟨qb, rfl, hq, hb'⟩
  exact ⟨qb, rfl, ⟨w.heap.size, hb.size, hb'.size, hq, QM.empty_wf (by omega) (by omega) (by omega) (by omega), hb.trans (hb'.mono hb.size)⟩⟩

theorem push_to {w0 w : World} {qb : Nat} {q : QM Int} (h : St w0 w qb q) (c x : Int) {r : Int} {q' : QM Int} (he : q.push c x = (r, q')) :
    Calls Try.prog 19 #[.pointer (some ⟨qb, 0, none⟩), .int .i64 c, .int .i64 x] w fun e w' => e = .returned (.int .i64 r) ∧ St w0 w' qb q' := by
  have := push_st h c x
  rw [he] at this
  exact this
theorem pop_to {w0 w : World} {qb : Nat} {q : QM Int} (h : St w0 w qb q) {r : Option (Nat × Int)} {q' : QM Int} (he : q.pop = (r, q')) :
    Calls Try.prog 18 #[.pointer (some ⟨qb, 0, none⟩)] w fun e w' => e = .returned (popValue r) ∧ St w0 w' qb q' := by
  have := pop_st h
  rw [he] at this
  exact this
theorem num (x : Int) (w : World) : Calls Try.prog 15 #[.int .i64 x] w fun e w' => e = .returned (.int .i64 x) ∧ w = w' := by
  go_enter Try.func15, Try.ntmps15
  go_wp2
  go_ret
  exact ⟨rfl, rfl⟩

theorem ret_int {k : IntKind} {a b : Int} (h : a = b) : Ending.returned (.int k a) = .returned (.int k b) := by rw [h]
theorem tmod_emod (x m : Int) : x.tmod m % m = x % m := by
  rw [Int.tmod_def]
  exact Int.sub_mul_emod_self_left x m _
theorem bound_ok (x m : Int) (w : World) (h1 : 1 ≤ m) (h2 : m ≤ 4096) : Calls Try.prog 12 #[.int .i64 x, .int .i64 m] w fun e w' => e = .returned (.int .i64 (1 + (x % m))) ∧ w = w' := by
  have e1 : (-m < x.tmod m ∧ x.tmod m < m) := ⟨Int.neg_lt_of_neg_lt (by have := Int.lt_tmod_of_pos x (show 0 < m by omega); omega), Int.tmod_lt_of_pos x (by omega)⟩
  have a1 := e1.1
  have a2 := e1.2
  clear e1
  go_enter Try.func12, Try.ntmps12
  go_wp2
  go_ret
  refine ⟨ret_int ?_, rfl⟩
  rw [tmod_emod]
  have := Int.emod_nonneg x (show m ≠ 0 by omega)
  have := Int.emod_lt_of_pos x (show 0 < m by omega)
  unfold wrap64
  omega

theorem known (w : World) : Calls Try.prog 11 #[] w fun e w' => e = .returned (.bool true) ∧ Below w.heap.size w w' := by
  go_enter Try.func11, Try.ntmps11
  go_wp2_with fail
  refine (new_st (Below.refl _ w) 3 2 (by decide) (by decide) (by decide) (by decide)).mono ?_
  rintro e w1 ⟨qb, rfl, h⟩
  have h0 : Hid (St w w1 qb ⟨2, [[], [], []], 0, 0⟩) := h
  clear h
  go_wp2_with fail
  refine (push_to h0.out 1 7 (r := 0) (q' := ⟨2, [[], [7], []], 0, 1⟩) rfl).mono ?_
  rintro e w2 ⟨rfl, h⟩
  have h1 := Lib.hid h
  clear h h0
  go_wp2_with fail
  refine (push_to h1.out 1 8 (r := 0) (q' := ⟨2, [[], [7, 8], []], 0, 2⟩) rfl).mono ?_
  rintro e w3 ⟨rfl, h⟩
  have h2 := Lib.hid h
  clear h h1
  go_wp2_with fail
  refine (push_to h2.out 1 9 (r := 141) (q' := ⟨2, [[], [7, 8], []], 0, 2⟩) rfl).mono ?_
  rintro e w4 ⟨rfl, h⟩
  have h3 := Lib.hid h
  clear h h2
  go_wp2_with fail
  refine (push_to h3.out 0 5 (r := 0) (q' := ⟨2, [[5], [7, 8], []], 0, 3⟩) rfl).mono ?_
  rintro e w5 ⟨rfl, h⟩
  have h4 := Lib.hid h
  clear h h3
  go_wp2_with fail
  refine (pop_to h4.out (r := (some (0, 5))) (q' := ⟨2, [[], [7, 8], []], 1, 2⟩) rfl).mono ?_
  rintro e w6 ⟨rfl, h⟩
  have h5 := Lib.hid h
  clear h h4
  simp only [popValue]
  go_wp2_with fail
  refine (pop_to h5.out (r := (some (1, 7))) (q' := ⟨2, [[], [8], []], 2, 1⟩) rfl).mono ?_
  rintro e w7 ⟨rfl, h⟩
  have h6 := Lib.hid h
  clear h h5
  simp only [popValue]
  go_wp2_with fail
  refine (pop_to h6.out (r := (some (1, 8))) (q' := ⟨2, [[], [], []], 2, 0⟩) rfl).mono ?_
  rintro e w8 ⟨rfl, h⟩
  have h7 := Lib.hid h
  clear h h6
  simp only [popValue]
  go_wp2_with fail
  refine (pop_to h7.out (r := none) (q' := ⟨2, [[], [], []], 2, 0⟩) rfl).mono ?_
  rintro e w9 ⟨rfl, h⟩
  have h8 := Lib.hid h
  clear h h7
  simp only [popValue]
  go_wp2_with (go_at_call 15; refine (num _ _).mono ?_; rintro e w' ⟨rfl, rfl⟩)
  go_ret
  exact ⟨rfl, h8.out.below⟩
end Go.Proofs.Ytekgdlpicgibhaa.QI
