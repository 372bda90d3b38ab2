/-
  Proved: the same bytes and writes in one memory, asked twice, changed in place, asked twice again: every answer is the document's, all stay, none shows in another (ExploreOwns), where the arguments are of bulk at most 1048576.
-/
import Derived.Test.YtekgdlpicgibhabE22
import Derived.Test.YtekgdlpicgibhabReadP
import Derived.Test.YtekgdlpicgibhabClose
import Derived.ProofKit
import Derived.OpenShut
import Derived.JoinedCond
namespace Go.Proofs.Ytekgdlpicgibhab.Owns
open Go.ChangeShapes Go.WideShapes Go.ChangeAt Go.RowKit Go.Proofs.YtekgdlpicgibhabW.PrintWords EX
theorem laidOut : laidOutB Try.prog = true := by kernel_rfl
theorem own : ownKnob Try.prog.godebug = none := by kernel_rfl
theorem small {H : Type} {ds : List (DataW H)} (hk : Rows.uptoSmall H ds = true) : ∀ d ∈ ds, Rows.uptoBulk d ≤ 1048576 := fun _ hd => Nat.le_trans (bulk_mem hd) (of_decide_eq_true hk)
theorem read_cap {H : Type} {enc : TypeId × Value → H} {w : World} {base : Nat} {spare : Nat → Bool} {held : Bool} {fuel : Nat} {v : Value} {x : DataW H × List MemPlace} (h : DataW.trod enc Try.prog w base spare held fuel 25 [v] = some x) :
    ∀ A n c, v = .slice A n c → n ≤ c := by
  intro A n c e
  subst e
  rcases Deep.open_slice Try.underlying25 h with ⟨e, _⟩ | ⟨a, len, cap, m, n', D, Pl, e, _, hl, _⟩
  · simp only [List.cons.injEq, and_true] at e
    injection e with _ e1 e2
    omega
  · simp only [List.cons.injEq, and_true] at e
    injection e with _ e1 e2
    omega
set_option maxRecDepth 100000 in
theorem contract (H : Type) (enc : TypeId × Value → H) (W : World) (base : Nat) (args : Array Value) (ds gs : List (DataW H)) (before : List MemPlace)
    (hval : ∀ (j : Nat) t v, Try.f5.params[j]? = some t → args[j]? = some v → Value.okWide Try.prog W .any base t v)
    (hW : DataW.Whole enc Try.prog Try.f5.params.toList Rows.exploreOwnsSpec.vars false W args.toList ds gs before) (hk : Rows.uptoSmall H (ds ++ gs) = true) :
    Calls Try.prog 5 args W fun e W' => ∃ v, e = .returned v ∧ Rows.exploreOwnsSpec.post enc Try.prog Try.f5 false true false false W args v W' := by
  have hW' := hW
  obtain ⟨p, q, hA0, hV, rfl, hfz, hnd⟩ := hW
  have hA : DataW.TrodAll enc Try.prog W 0 (fun _ => true) true Try.f5.params.toList args.toList ds p := hA0
  rw [Try.params5] at hA hval
  obtain ⟨v0, vs0, d0, ds0, p0, q0, hargs, rfl, rfl, h0, r0⟩ := trodAll_cons hA
  obtain ⟨v1, vs1, d1, ds1, p1, q1, rfl, rfl, rfl, h1, r1⟩ := trodAll_cons r0
  obtain ⟨v2, vs2, d2, ds2, p2, q2, rfl, rfl, rfl, h2, r2⟩ := trodAll_cons r1
  obtain ⟨rfl, rfl, rfl⟩ := trodAll_nil r2
  obtain rfl : args = #[v0, v1, v2] := by cases args; simp_all
  obtain ⟨rfl, rfl⟩ := trodVars_none hV
  obtain ⟨A0, n0, c0, rfl⟩ := okWide_slice Try.underlying24 (hval 0 24 v0 rfl rfl)
  obtain ⟨A1, n1, c1, rfl⟩ := okWide_slice Try.underlying25 (hval 1 25 v1 rfl rfl)
  obtain ⟨a2, rfl, rfl, rfl, w2⟩ := open_int Try.underlying3 (hval 2 3 v2 rfl rfl) h2
  obtain ⟨f0, e0⟩ := h0
  obtain ⟨f1, e1⟩ := h1
  obtain ⟨A, n, c, bs, hv0, hR, hB, hl⟩ := read_bytes e0
  have hcp := read_cap e1
  obtain ⟨C, m, k, ps, hv1, hP, hpl, hps⟩ := read_pend e1
  have hv0' : A0 = A ∧ n0 = n ∧ c0 = c := by simpa [Value.cells] using hv0
  obtain ⟨rfl, rfl, rfl⟩ := hv0'
  have hv1' : A1 = C ∧ n1 = m ∧ c1 = k := by simpa [Value.cells] using hv1
  obtain ⟨rfl, rfl, rfl⟩ := hv1'
  clear hA0
  simp only [List.append_nil] at hW' hk
  have s0 := small hk d0 (by simp)
  have s1 := small hk d1 (by simp)
  simp only at hl hpl hps
  refine (owns_any hR hP (hcp _ _ _ rfl) (by omega) (by omega) (fun p hp => by have := (hps p hp).2.2; omega) (fun p hp => (hps p hp).1) hB (fun p hp => (hps p hp).2.1)).mono fun e W' ⟨he, hg⟩ => ?_
  subst he
  exact ⟨_, rfl, YtekgdlpicgibhabClose.post_true laidOut (by rfl) Try.underlying4 rfl (by kernel_rfl) hW' rfl hg⟩
set_option maxRecDepth 100000 in
theorem lifted (os : Os) (started : os.Started) (H : Type) (enc : TypeId × Value → H) (F : Stop.Interp) :
    ReturnsInHanded {} Try.checked os 5 .any ((Rows.OpenSpec.upto Rows.exploreOwnsSpec).pre6 enc Try.prog Try.f5 Rows.exploreOwnsUptoRow.domain false) (((Rows.OpenSpec.upto Rows.exploreOwnsSpec).at F).post enc Try.prog Try.f5 false true false false) := by
  refine returnsInHanded_of_cond (C := Try.checked) (s := Rows.OpenSpec.upto Rows.exploreOwnsSpec) (k := Rows.uptoSmall) rfl own started (by kernel_rfl) Try.func5
    (OpenSpec.witness (enc := enc) (C := Try.checked) (s := Rows.OpenSpec.upto Rows.exploreOwnsSpec) (k := Rows.uptoSmall) rfl false ⟨#[], #[.slice none 0 0, .slice none 0 0, .int .i64 0], []⟩ 8 (by kernel_rfl) (by kernel_rfl) (by kernel_rfl)
      (x := ([.nil, .nil, .lit (.int .i64 0)], [], [])) (by kernel_rfl) rfl (by kernel_rfl)) ?_
  intro W base args ds gs before hval hW _ hk _
  exact contract H enc W base args ds gs before hval hW hk
theorem proved : Rows.ExploreOwnsUptoSaid :=
  OpenClaim.holds_of_cond 5 Try.f5 rfl rfl rfl rfl rfl rfl rfl ⟨rfl, rfl, rfl, rfl, rfl⟩ rfl rfl rfl rfl rfl (by kernel_rfl) Try.func5 (by kernel_rfl)
    (of_decide_eq_true (by kernel_rfl)) (by unfold Func.isWrapper; first | (rw [if_pos (by decide +kernel)]; kernel_rfl) | (rw [if_neg (by decide +kernel)]; exact ⟨rfl, rfl⟩))
    (fun os started H enc _ F => lifted os started H enc F)
end Go.Proofs.Ytekgdlpicgibhab.Owns
