/-
  The book of lists that were handed out: keep.
-/
import Derived.Test.YtekgdlpicgibhaaP1
namespace Go.Proofs.Ytekgdlpicgibhaa.QI
open Go.RowKit Go.Proofs.YtekgdlpicgibhaaW.PrintWords Go.Proofs.Ytekgdlpicgibhaa.QQ

section
variable {ops : Array Oper} {rest : List Oper} {o : Oper} {a : Act} {Q : Exit → Act → World → Prop}
theorem wp_append_keep {Kc : Act → World → Prop} {Q : Exit → Act → World → Prop} {W : World} (base : Nat) (s x : Operand)
    (ho : o.op = .call { callee := .builtin .append, args := #[s, x], argTypes := #[40, 40] })
    (v : Value) (xs : List Int) (ad : Addr) (y : Int) (hs : a.eval s = v) (hx : a.eval x = .slice (some ad) 1 1) (hc : W.cell? ad = some (.int .i64 y))
    (HO : K.R 3 W base (fun _ => True) v xs) (hbase : base ≤ W.heap.size) (hl : xs.length ≤ 8192)
    (h : ∀ v1 w1, K.R 3 w1 base (fun _ => True) v1 (xs ++ [y]) → K.R 3 w1 base (fun _ => True) v xs → W.grownBy w1 v.ownBlock → Stay (.int .i64 y) W w1 → (v1.ownBlock = v.ownBlock ∨ v1.ownBlock = some W.heap.size) → Kc (a.put o.dst v1) w1) :
    Oper.wp Try.prog o a W Kc Q := by
  have hown : W.ownsRow base 3 1 v xs.length (encs (Value.int .i64) xs) := Kd.own_of_R HO
  obtain ⟨v1, w1, hr, hown1, hown2, hg, hst, hat⟩ := run_append_keep (P := Try.prog) W base 40 o.type 3 .i64 8 Try.underlying40 info3 v (encs (Value.int .i64) xs) y (by rw [encs_length]; exact hown) ad hc (by rw [encs_length]; simp only [maxLen]; omega) (by rw [encs_length]; omega) hbase
  unfold Oper.wp execOp
  simp only [ho, resolve, invoke, builtin, Sem.run_bind, Sem.run_pure, Result.andThen_ok, List.map_toArray, List.map_cons, List.map_nil, hs, hx, hr]
  have e : encs (Value.int .i64) xs ++ [.int .i64 y] = encs (Value.int .i64) (xs ++ [y]) := by simp [encs]
  rw [e, encs_length] at hown1
  rw [encs_length] at hown2
  exact h v1 w1 (Kd.R_of_own (by simpa using hown1) (fun _ _ => trivial)) (Kd.R_of_own hown2 (fun _ _ => trivial)) hg hst hat
theorem stay_alloc (y : Value) (W : World) (ob : Obj) : Stay y W (W.alloc ob) := fun _ hp => (World.cell?_alloc_old _ _ _ (by have := World.block_lt_of_cell? W _ hp; omega)).trans hp
theorem Stay.trans {y : Value} {w w1 w2 : World} (h : Stay y w w1) (h' : Stay y w1 w2) : Stay y w w2 := fun p hp => h' p (h p hp)
theorem stay_below {y : Value} {w w1 : World} (h : Below w.heap.size w w1) : Stay y w w1 := fun p hp => (h.cell (World.block_lt_of_cell? w p hp)).trans hp
theorem Holds.stay {w w1 : World} {x : KE} (h : Holds w x) (hs : Stay (.int .i64 x.m) w w1) : Holds w1 x := by
  refine ⟨h.1, h.2.1, fun hn => ?_⟩
  obtain ⟨ad, e, hc⟩ := h.2.2 hn
  refine ⟨ad, e, fun j hj => ?_⟩
  have := hc j hj
  simp only [List.getD_eq_getElem?_getD, List.getElem?_replicate, hj, if_true, Option.getD_some] at this ⊢
  exact hs _ this
theorem holds_of_R {w : World} {b n c : Nat} {A : Option Addr} {m : Int} (h : K.R 3 w b (fun _ => True) (.slice A n c) (List.replicate n m)) : Holds w ⟨A, c, m, n⟩ := by
  have := Kd.reads_of_C (enc := Value.int .i64) (d := (0 : Int)) (h1 := fun _ => rfl) (Kd.R_reads' h).2.2
  rw [List.length_replicate] at this
  exact this
/-- Behind an append: of a row of its own, onto new memory. -/
structure App (W w1 : World) (base : Nat) (v v1 : Value) (xs : List Int) (y : Int) : Prop where
  new : K.R 3 w1 base (fun _ => True) v1 (xs ++ [y])
  old : K.R 3 w1 base (fun _ => True) v xs
  grown : W.grownBy w1 v.ownBlock
  stay : Stay (.int .i64 y) W w1
  at_ : v1.ownBlock = v.ownBlock ∨ ∃ b, v1.ownBlock = some b ∧ W.heap.size ≤ b
theorem wpList_append_keep {W : World} (base : Nat) (hgd : o.guard = none) (s x : Operand)
    (ho : o.op = .call { callee := .builtin .append, args := #[s, x], argTypes := #[40, 40] })
    (v : Value) (xs : List Int) (y : Int) (hs : a.eval s = v) (hx : a.eval x = .slice (some ⟨W.heap.size, 0, none⟩) 1 1)
    (HO : K.R 3 W base (fun _ => True) v xs) (hbase : base ≤ W.heap.size) (hl : xs.length ≤ 8192)
    (h : ∀ v1 w1, App W w1 base v v1 xs y → wpList Try.prog ops Q rest (a.put o.dst v1) w1) :
    wpList Try.prog ops Q (o :: rest) a (W.alloc (.cells #[.int .i64 y] 3)) :=
  wpList_plain hgd fun _ hK => wp_append_keep base s x ho v xs ⟨W.heap.size, 0, none⟩ y hs hx ((blk_cell (heap_alloc_new W (.cells #[.int .i64 y] 3)) 0).trans rfl) (Kd.R_alloc HO _) (by simp; omega) hl
    fun v1 w1 h1 h2 h3 h4 h5 => hK _ _ (h v1 w1 ⟨h1, h2, World.grownBy.trans (World.grownBy_alloc W _ _) h3, (stay_alloc _ _ _).trans h4, h5.imp id (fun e => ⟨_, e, by simp⟩)⟩)
end
theorem BK.keep {w w1 : World} {b : Nat} {v : Value} {es : List KE} (h : BK w b v es) (hk : ∀ k, v.ownBlock = some k → w1.heap[k]? = w.heap[k]?) : BK w1 b v es :=
  Kd.R_mono (Kd.R_step (Kd.R_tight rfl h) (fun k hk' _ => hk k hk'.symm)) (fun _ _ => trivial)
theorem BK.lt {w : World} {b : Nat} {v : Value} {es : List KE} (h : BK w b v es) : ∀ k, v.ownBlock = some k → k < w.heap.size := Kd.R_lt h
end Go.Proofs.Ytekgdlpicgibhaa.QI
