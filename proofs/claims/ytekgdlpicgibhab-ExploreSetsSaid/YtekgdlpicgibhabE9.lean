/-
  A range over a function whose rounds are handed new memory: the law for a caller and an iterator that share an invariant.
-/
import Derived.Test.YtekgdlpicgibhabE0
import Derived.RangeFuncNested
import Derived.RangeFuncLeaves
namespace Go.Proofs.Ytekgdlpicgibhab.EX
open Go.RowKit

/-- How a round's body is left: off its end. -/
def memPost (I : World → Prop) (l0 l1 : Nat) (W1 : World) : Exit → Act → World → Prop
  | .normal, _, W' => I W' ∧ W'.heap[l0]? = W1.heap[l0]? ∧ W'.heap[l1]? = W1.heap[l1]?
  | _, _, _ => False
/-- The iterator's contract: M rounds; the m-th is handed v, of which Vm speaks. -/
def Iter (n : Nat) (P : Program) (gf : Nat) (lb : Array Value) (M : Nat) (Cap : World → Prop) (Vm : Nat → Value → World → World → Prop) : Prop :=
  ∀ (J : Nat → World → Prop) (l : Nat) (W : World),
    (∀ m W W', J m W → Below W.heap.size W W' → J m W') → (∀ m W, J m W → Cap W) →
    (∀ m v W0 W, m < M → J m W0 → Below W0.heap.size W0 W → Vm m v W0 W → YieldAt Fence.wide n P l #[v] W fun e W' => e = .returned (.bool true) ∧ J (m + 1) W') →
    J 0 W → CallsIn Fence.wide n P gf (#[.func (.yield l) #[] #[]] ++ lb) W fun e W' => (∃ v, e = .returned v) ∧ J M W'
def Lp (l0 : Nat) (k : Nat) : Prop := k = l0 ∨ k = l0 + 1
theorem only_putObj {l0 l : Nat} (W : World) (o : Obj) (h : Lp l0 l) : Only (Lp l0) W (W.putObj l o) :=
  ⟨rfl, rfl, rfl, by simp, fun k _ hn => World.putObj_heap_other (fun e => hn (e ▸ h))⟩
theorem wpIn_rangeFunc_mem {n : Nat} {P : Program} {g : Operand} {ps : Array Tmp} {assign body : Code} {Q : Exit → Act → World → Prop} {a : Act} {w : World}
    {gf : Nat} {lb : Array Value} (hg : a.eval g = .func (.func gf) #[] lb) (eg : ∀ args w, (callFunc gf args).run P w = .ok (.enter gf args) w)
    {M : Nat} {Cap : World → Prop} {Vm : Nat → Value → World → World → Prop} (hiter : Iter (n - 1) P gf lb M Cap Vm) (hps : ps.size = 1)
    (I : Nat → World → Prop) (hI : ∀ m W W', I m W → Only (Lp w.heap.size) W W' → I m W') (hCap : ∀ m W, I m W → w.heap.size + 2 ≤ W.heap.size → Cap W)
    (hVm : ∀ m v W0 W o, w.heap.size + 2 ≤ W0.heap.size → Vm m v W0 W → Vm m v W0 (W.putObj (w.heap.size + 1) o)) (h0 : I 0 w) (a₁ : Value → Act)
    (hassign : ∀ (l : Nat) (v : Value) (W : World) (K : Act → World → Prop), K (a₁ v) W →
      assign.wpIn (Fence.wide.inRound l) (n - 1) P (Exit.then K (fun _ _ _ => False)) { tmps := (ps.zip #[v]).foldl (fun t (p, v) => t.setIfInBounds p v) a.tmps, defers := [] } W)
    (hbody : ∀ (l m : Nat) (v : Value) (W0 W1 : World), m < M → I m W0 → w.heap.size + 2 ≤ W0.heap.size → Only (Lp w.heap.size) W0 W1 → Vm m v W0 W1 →
      body.wpIn (Fence.wide.inRound l) (n - 1) P (memPost (I (m + 1)) w.heap.size (w.heap.size + 1) W1) (a₁ v) W1)
    (hdone : ∀ (W : World), I M W → w.heap.size + 2 ≤ W.heap.size → W.heap[w.heap.size]? = some (.deferred (some [])) → Q .normal { a with defers := { target := .collected w.heap.size, args := #[] } :: a.defers } W) :
    (Code.rangeFunc g ps assign body).wpIn Fence.wide n P Q a w := by
  refine wpIn_rangeFunc ?_
  intro fn hfn
  rw [show Fence.wide.round = none from rfl]
  obtain ⟨rec, hrec⟩ : ∃ rec : LoopState → Option Code → Loop, rec = fun st pe => { state := st, pending := pe, fn, tmps := a.tmps, params := ps, assign, body, defers := w.heap.size } := ⟨_, rfl⟩
  obtain ⟨W1, hW1⟩ : ∃ W1, (w.alloc (.deferred (some []))).alloc (.loop (rec .ready none)) = W1 := ⟨_, rfl⟩
  have hL1 : W1.heap[w.heap.size + 1]? = some (.loop (rec .ready none)) := by
    rw [← hW1]; have := World.alloc_heap_new (w.alloc (.deferred (some []))) (.loop (rec .ready none)); rwa [World.size_alloc] at this
  have hK1 : W1.heap[w.heap.size]? = some (.deferred (some [])) := by
    rw [← hW1]; exact (Below.heap_alloc _ _ _ (by simp)).trans (World.alloc_heap_new w _)
  have hb1 : Below w.heap.size w W1 := by
    rw [← hW1]; exact ((Below.refl _ w).alloc (Nat.le_refl _) _).alloc (by simp) _
  have hs1 : w.heap.size + 2 ≤ W1.heap.size := by rw [← hW1]; simp
  have hI1 : I 0 W1 := hI 0 w W1 h0 (Only.of_below hb1 _)
  refine ⟨w.heap.size + 1, [{ target := .collected w.heap.size, args := #[] }], W1, { target := .fn (.func gf) lb, args := #[.func (.yield (w.heap.size + 1)) #[] #[]] }, W1, gf,
    #[.func (.yield (w.heap.size + 1)) #[] #[]] ++ lb, W1, ?_, ?_, ?_, ?_, fun h => by simp [Fence.wide] at h, ?_⟩
  · rw [← hW1, hrec]; exact run_enterLoop_outer _ _ _ _ _
  · simp only [resolve, hg]
    simp [go_sem]
  · intro f' _; exact trivial
  · simp [invoke, go_sem, eg]
  · unfold Iter at hiter
    refine (hiter
      (fun m W => I m W ∧ w.heap.size + 2 ≤ W.heap.size ∧ W.heap[w.heap.size + 1]? = some (.loop (rec .ready none)) ∧ W.heap[w.heap.size]? = some (.deferred (some [])))
      (w.heap.size + 1) W1 ?_ ?_ ?_ (show _ ∧ _ ∧ _ ∧ _ from ⟨hI1, hs1, hL1, hK1⟩)).mono ?_
    · rintro m W W' ⟨h1, h2, h3, h4⟩ hb
      exact ⟨hI m W W' h1 (Only.of_below hb _), Nat.le_trans h2 hb.size, (hb.block _ (by omega)).trans h3, (hb.block _ (by omega)).trans h4⟩
    · rintro m W ⟨h1, h2, _⟩
      exact hCap m W h1 h2
    · -- one round
      rintro m v W0 W hm ⟨hi, hs, hl0, hk0⟩ hbel hv
      have hl : W.heap[w.heap.size + 1]? = some (.loop (rec .ready none)) := (hbel.block _ (by omega)).trans hl0
      have hk : W.heap[w.heap.size]? = some (.deferred (some [])) := (hbel.block _ (by omega)).trans hk0
      have hsW : w.heap.size + 2 ≤ W.heap.size := Nat.le_trans hs hbel.size
      have hy := run_yield (P := P) (args := #[v]) hl (by rw [hrec]; exact hps.symm)
      rw [hrec] at hy
      refine ⟨fn, _, assign, body, hy, roundIn_of_wpIn hfn ?_⟩
      refine hassign _ v W _ ?_
      refine ⟨_, run_beginRound hl (by rw [hrec]), ?_⟩
      obtain ⟨W2, hW2⟩ : ∃ W2, W.putObj (w.heap.size + 1) (.loop { rec .ready none with state := .busy }) = W2 := ⟨_, rfl⟩
      rw [hW2]
      have hl2 : W2.heap[w.heap.size + 1]? = some (.loop { rec .ready none with state := .busy }) := by rw [← hW2]; exact World.putObj_heap_same (by omega)
      have hk2 : W2.heap[w.heap.size]? = some (.deferred (some [])) := by rw [← hW2]; exact (World.putObj_heap_other (by omega)).trans hk
      have ho2 : Only (Lp w.heap.size) W0 W2 := by rw [← hW2]; exact (Only.of_below hbel _).trans (only_putObj W _ (.inr rfl)) (fun k hk => .inl hk)
      have hv2 : Vm m v W0 W2 := by rw [← hW2]; exact hVm m v W0 W _ hs hv
      refine wpIn_mono (hbody _ m v W0 W2 hm hi hs ho2 hv2) ?_
      rintro e a3 W3 hp
      cases e with
      | normal =>
        obtain ⟨hi3, hk3, hl3⟩ := hp
        rw [hk2] at hk3
        rw [hl2] at hl3
        have hr := run_endRound (P := P) none hl3
        have hlt3 := (Array.getElem?_eq_some_iff.1 hl3).1
        rw [hrec] at hr
        refine ⟨_, _, hr, rfl, hI _ _ _ hi3 (only_putObj W3 _ (.inr rfl)), by simp; omega, ?_, (World.putObj_heap_other (by omega)).trans hk3⟩
        rw [World.putObj_heap_same hlt3, hrec]
        rfl
      | ret => exact hp.elim
      | exit id => exact hp.elim
      | goto t => exact hp.elim
      | panic ch => exact hp.elim
      | outgrown => exact hp.elim
    · -- behind the iterator
      rintro e W2 ⟨⟨v, rfl⟩, hi, hs, hl, hk⟩
      exact ⟨none, _, by have := run_endLoop (P := P) hl (by rw [hrec]; simp); rw [hrec] at this; exact this, hdone _ (hI _ _ _ hi (only_putObj W2 _ (.inr rfl))) (by simp; omega) ((World.putObj_heap_other (by omega)).trans hk)⟩
end Go.Proofs.Ytekgdlpicgibhab.EX
