/-
  QueueMany's state: what each call leaves.
-/
import Derived.Test.YtekgdlpicgibhaaO5
import Derived.Test.YtekgdlpicgibhaaN1
namespace Go.Proofs.Ytekgdlpicgibhaa.QI
open Go.RowKit Go.Proofs.YtekgdlpicgibhaaW.PrintWords Go.Proofs.Ytekgdlpicgibhaa.QQ

variable {w0 w : World} {f : Nat → Nat} {n : Nat} {vp : Value} {P : List (Nat × Nat)} {o : Option (Nat × List QT.It)}
theorem stepM (h : MS w0 w f n vp P o) {j : Nat} {p : Nat × Nat} (hj : P[j]? = some p) (kd who a b : Int) (m : Nat) :
    Calls Try.prog 22 #[.agg #[.pointer (some ⟨p.1, 0, none⟩), .pointer (some ⟨p.2, 0, none⟩)], .agg #[.int .i64 kd, .int .i64 who, .int .i64 a, .int .i64 b]] (w.drewN m) fun e w' =>
      ∃ v f', e = .returned (.tuple #[.bool true, v]) ∧ MS w0 w' f' n vp P o := by
  have h' := h.later (pw_below_drewN (Below.refl _ _) m)
  obtain ⟨q, S1, S2, hP, hn, hT⟩ := h'.pair j p hj
  exact (plays_any hP kd who a b).mono (fun e w' hp => h'.played hj hn hT hp)
theorem pairM (h : MS w0 w f n vp P o) {j : Nat} {p : Nat × Nat} (hj : P[j]? = some p) : ∃ q, PairAt w0 w p.1 p.2 q := by
  obtain ⟨q, S1, S2, hP, hn, hT⟩ := h.pair j p hj
  exact ⟨q, h.below, S1, S2, hP⟩
theorem pushM {ib : Nat} {xs : List QT.It} (h : MS w0 w f n vp P (some (ib, xs))) (hx : xs.length < 64) (x : QT.It) :
    Calls Try.prog 32 #[.pointer (some ⟨ib, 0, none⟩), .int .i64 0, .agg #[.int .i64 x.c, .int .i64 x.v, .int .i64 x.l]] w fun e w' => e = .returned (.int .i64 0) ∧ ∃ f', MS w0 w' f' n vp P (some (ib, xs ++ [x])) := by
  obtain ⟨_, S, hq, hS⟩ := h.item ib xs rfl
  refine (QT.push_any hq (QT.one_wf xs (by omega)) h.below.size 0 x).mono ?_
  rintro e w' ⟨rfl, hl⟩
  rw [QT.one_push xs x hx] at hl ⊢
  exact ⟨rfl, h.stepItem hS (by simp; omega) hl⟩
theorem popM {ib : Nat} {x : QT.It} {xs : List QT.It} (h : MS w0 w f n vp P (some (ib, x :: xs))) :
    Calls Try.prog 33 #[.pointer (some ⟨ib, 0, none⟩)] w fun e w' => e = .returned (.tuple #[.int .i64 0, .agg #[.int .i64 x.c, .int .i64 x.v, .int .i64 x.l], .bool true]) ∧ ∃ f', MS w0 w' f' n vp P (some (ib, xs)) := by
  obtain ⟨hx, S, hq, hS⟩ := h.item ib _ rfl
  refine (QT.pop_any hq (QT.one_wf _ hx) h.below.size).mono ?_
  rintro e w' ⟨rfl, hl⟩
  rw [QT.one_pop] at hl ⊢
  exact ⟨rfl, h.stepItem hS (by simp at hx; omega) hl⟩
theorem popM0 {ib : Nat} (h : MS w0 w f n vp P (some (ib, []))) :
    Calls Try.prog 33 #[.pointer (some ⟨ib, 0, none⟩)] w fun e w' => e = .returned (.tuple #[.int .i64 0, .agg #[.int .i64 0, .int .i64 0, .int .i64 0], .bool false]) ∧ ∃ f', MS w0 w' f' n vp P (some (ib, [])) := by
  obtain ⟨hx, S, hq, hS⟩ := h.item ib _ rfl
  refine (QT.pop_any hq (QT.one_wf _ hx) h.below.size).mono ?_
  rintro e w' ⟨rfl, hl⟩
  rw [QT.one_none] at hl ⊢
  exact ⟨rfl, h.stepItem hS (by simp) hl⟩

/-- The first m items. -/
def itx (I : Nat → Int × Int × Int) (t : Nat) : QT.It := ⟨(I t).1, (I t).2.1, (I t).2.2⟩
def upTo (I : Nat → Int × Int × Int) (m : Nat) : List QT.It := (List.range m).map (itx I)
theorem upTo_len (I : Nat → Int × Int × Int) (m : Nat) : (upTo I m).length = m := by simp [upTo]
theorem upTo_succ (I : Nat → Int × Int × Int) (m : Nat) : upTo I m ++ [itx I m] = upTo I (m + 1) := by simp [upTo, List.range_succ]
theorem upTo_drop (I : Nat → Int × Int × Int) {m t : Nat} (h : t < m) : (upTo I m).drop t = itx I t :: (upTo I m).drop (t + 1) := by
  rw [List.drop_eq_getElem_cons (by rw [upTo_len]; exact h)]
  simp [upTo]
theorem upTo_end (I : Nat → Int × Int × Int) (m : Nat) : (upTo I m).drop m = [] := by
  rw [List.drop_eq_nil_iff, upTo_len]
  exact Nat.le_refl _
end Go.Proofs.Ytekgdlpicgibhaa.QI
