/-
  Proved: QueueNews: for every two numbers the law answers true: which numbers make a queue; it is empty. No condition.
-/
import Derived.Test.YtekgdlpicgibhaaRows
import Derived.Test.YtekgdlpicgibhaaQ5
import Derived.Test.YtekgdlpicgibhaaClose
import Derived.ProofKit
import Derived.OpenShut
import Derived.SizedLaws
namespace Go.Proofs.Ytekgdlpicgibhaa.News
open Go.ChangeShapes Go.WideShapes Go.ChangeAt Go.RowKit Go.Proofs.YtekgdlpicgibhaaW.PrintWords Go.Proofs.Ytekgdlpicgibhaa.QQ Go.Proofs.Ytekgdlpicgibhaa.QI

theorem walk_no (c p : Int) (w : World) (h : ¬ (1 ≤ c ∧ c ≤ 64 ∧ 1 ≤ p ∧ p ≤ 64)) :
    Calls Try.prog 4 #[.int .i64 c, .int .i64 p] w fun e w' => e = .returned (.bool true) ∧ Below w.heap.size w w' := by
  have H := Lib.hid h
  have hc : c < 1 ∨ (1 ≤ c ∧ 64 < c) ∨ (1 ≤ c ∧ c ≤ 64 ∧ p < 1) ∨ (1 ≤ c ∧ c ≤ 64 ∧ 1 ≤ p ∧ 64 < p) := by omega
  clear h
  rcases hc with h1 | ⟨h1, h2⟩ | ⟨h1, h2, h3⟩ | ⟨h1, h2, h3, h4⟩
  all_goals
    go_enter Try.func4, Try.ntmps4
    go_wp2_with (first | (go_at_call 11; refine (known _).mono ?_; rintro e w1 ⟨rfl, hb⟩) | (go_at_call 17; refine (new_no c p _ H.out).mono ?_; rintro e w' ⟨rfl, rfl⟩))
    go_ret
    exact ⟨rfl, hb⟩

theorem walk_yes (c p : Int) (w : World) (h1 : 1 ≤ c) (h2 : c ≤ 64) (h3 : 1 ≤ p) (h4 : p ≤ 64) :
    Calls Try.prog 4 #[.int .i64 c, .int .i64 p] w fun e w' => e = .returned (.bool true) ∧ Below w.heap.size w w' := by
  go_enter Try.func4, Try.ntmps4
  go_wp2_with fail
  refine (known _).mono ?_
  rintro e w1 ⟨rfl, hb⟩
  go_wp2_with fail
  refine (new_st hb c p h1 h2 h3 h4).mono ?_
  rintro e w2 ⟨qb, rfl, h⟩
  have hw := Lib.hid h.wf
  have hp : (QM.empty (α := Int) c.toNat p.toNat).pop = (none, QM.empty c.toNat p.toNat) := by
    rcases (QM.empty (α := Int) c.toNat p.toNat).pop_cases hw.out with ⟨e, _⟩ | ⟨j, x, xs, _, _, _, hx, _⟩
    · exact e
    · rw [QM.empty_row] at hx; cases hx
  have hl : (QM.empty (α := Int) c.toNat p.toNat).rows.length = c.toNat := by simp [QM.empty]
  have e1 : (QM.empty (α := Int) c.toNat p.toNat).push c 1 = (1, QM.empty c.toNat p.toNat) := by
    unfold QM.push
    rw [if_pos (by rw [hl]; omega)]
  have e2 : (QM.empty (α := Int) c.toNat p.toNat).push (-1) 1 = (1, QM.empty c.toNat p.toNat) := by
    unfold QM.push
    rw [if_pos (by omega)]
  have e3 : (QM.empty (α := Int) c.toNat p.toNat).push (c - 1) 1 = (0, (QM.empty (α := Int) c.toNat p.toNat).pushed (c - 1).toNat 1) := by
    unfold QM.push
    rw [if_neg (by rw [hl]; omega), QM.empty_row, if_neg]
    have := hw.out.p1
    simp
    omega
  have P := Lib.hid hp
  have E1 := Lib.hid e1
  have E2 := Lib.hid e2
  have E3 := Lib.hid e3
  have H0 := Lib.hid h
  clear hp e1 e2 e3 h hl
  go_wp2_with fail
  refine (pop_to H0.out P.out).mono ?_
  rintro e w3 ⟨rfl, h⟩
  simp only [popValue]
  have H1 := Lib.hid h
  clear h
  go_wp2_with fail
  refine (push_to H1.out _ _ E1.out).mono ?_
  rintro e w4 ⟨rfl, h⟩
  have H2 := Lib.hid h
  clear h
  go_wp2_with fail
  refine (push_to H2.out _ _ E2.out).mono ?_
  rintro e w5 ⟨rfl, h⟩
  have H3 := Lib.hid h
  clear h
  go_wp2_with fail
  refine (push_to H3.out _ _ E3.out).mono ?_
  rintro e w6 ⟨rfl, h⟩
  have H4 := Lib.hid h
  clear h
  go_wp2_with fail
  refine (total_st H4.out).mono ?_
  rintro e w' ⟨rfl, rfl⟩
  have ht : ((QM.empty (α := Int) c.toNat p.toNat).pushed (c - 1).toNat 1).total = 1 := rfl
  rw [ht]
  clear ht
  go_wp2_with (go_at_call 15; refine (num _ _).mono ?_; rintro e w' ⟨rfl, rfl⟩)
  go_ret
  exact ⟨rfl, H4.out.below⟩

theorem walk (c p : Int) (w : World) : Calls Try.prog 4 #[.int .i64 c, .int .i64 p] w fun e w' => e = .returned (.bool true) ∧ Below w.heap.size w w' := by
  by_cases h : 1 ≤ c ∧ c ≤ 64 ∧ 1 ≤ p ∧ p ≤ 64
  · exact walk_yes c p w h.1 h.2.1 h.2.2.1 h.2.2.2
  · exact walk_no c p w h
theorem own : ownKnob Try.prog.godebug = none := by kernel_rfl
theorem laidOut : laidOutB Try.prog = true := by kernel_rfl
set_option maxRecDepth 100000 in
theorem lifted (os : Os) (started : os.Started) (H : Type) (enc : TypeId × Value → H) :
    ReturnsInHanded {} Try.checked os 4 .any (Rows.queueNewsSpec.pre6 enc Try.prog Try.f4 Rows.queueNewsRow.domain false) (Rows.queueNewsSpec.post enc Try.prog Try.f4 false true false false) := by
  refine returnsInHanded_of_change_sized (C := Try.checked) own started (by kernel_rfl) Try.func4
    (ChangeSpec.witness6 (enc := enc) (C := Try.checked) false ⟨#[], #[.int .i64 0, .int .i64 0], []⟩ 8 (by kernel_rfl) (by kernel_rfl) (by kernel_rfl) (by kernel_rfl)) ?_
  intro W base args ds gs before hval0 hW hcnd hsz0 _
  have hval : ∀ (j : Nat) t v, Try.f4.params[j]? = some t → args[j]? = some v → Value.okWide Try.prog W .any base t v := hval0
  have hsz : (DataW.weightsEach Try.prog (Try.f4.params.toList ++ Rows.queueNewsSpec.plain.varTypes Try.prog) (ds ++ gs)).all (· ≤ reachBytes) = true := hsz0
  have hW' := hW
  obtain ⟨p, q, hA0, hV, rfl, hfz, hnd⟩ := hW
  have hA : DataW.TrodAll enc Try.prog W 0 (fun _ => true) true Try.f4.params.toList args.toList ds p := hA0
  rw [Try.params4] at hA hval hsz
  obtain ⟨v0, vs0, d0, ds0, p0, q0, hargs, rfl, rfl, h0, r0⟩ := trodAll_cons hA
  obtain ⟨v1, vs1, d1, ds1, p1, q1, rfl, rfl, rfl, h1, r1⟩ := trodAll_cons r0
  obtain ⟨rfl, rfl, rfl⟩ := trodAll_nil r1
  obtain rfl : args = #[v0, v1] := by cases args; simp_all
  obtain ⟨rfl, rfl⟩ := trodVars_none hV
  obtain ⟨a0, rfl, rfl, rfl, w0⟩ := open_int Try.underlying3 (hval 0 3 v0 rfl rfl) h0
  obtain ⟨a1, rfl, rfl, rfl, w1⟩ := open_int Try.underlying3 (hval 1 3 v1 rfl rfl) h1
  clear hA0 hval0 hsz0
  simp only [List.append_nil] at hW'
  refine (walk a0 a1 W).mono fun e W' ⟨he, hg⟩ => ?_
  subst he
  exact ⟨_, rfl, YtekgdlpicgibhaaClose.post_true laidOut (by rfl) Try.underlying4 rfl (by kernel_rfl) hW' rfl hg⟩

theorem proved : Rows.QueueNewsSaid :=
  OpenClaim.holds_of_wide 4 Try.f4 rfl rfl rfl rfl rfl rfl rfl ⟨rfl, rfl, rfl, rfl, rfl⟩ rfl rfl rfl rfl rfl (by kernel_rfl) Try.func4 (by kernel_rfl)
    (of_decide_eq_true (by kernel_rfl)) (by unfold Func.isWrapper; first | (rw [if_pos (by decide +kernel)]; kernel_rfl) | (rw [if_neg (by decide +kernel)]; exact ⟨rfl, rfl⟩))
    (fun os started H enc _ => lifted os started H enc)

end Go.Proofs.Ytekgdlpicgibhaa.News
