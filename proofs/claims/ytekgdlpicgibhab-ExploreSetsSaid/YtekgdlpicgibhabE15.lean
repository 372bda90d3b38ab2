/-
  Rows of bytes that were handed out, each its own: written full, gone on behind their ends: what stays.
-/
import Derived.Test.YtekgdlpicgibhabE7
import Derived.OpenShut
namespace Go.Proofs.Ytekgdlpicgibhab.EX
open Go.RowKit Go.Proofs.YtekgdlpicgibhabW.PrintWords

theorem stay_alloc (y : Value) (W : World) (ob : Obj) : Stay y W (W.alloc ob) := fun _ hp => (World.cell?_alloc_old _ _ _ (by have := World.block_lt_of_cell? W _ hp; omega)).trans hp
theorem Stay.trans {y : Value} {w w1 w2 : World} (h : Stay y w w1) (h' : Stay y w1 w2) : Stay y w w2 := fun p hp => h' p (h p hp)
/-- A row that was handed out and written full of m. -/
structure KE where
  A : Option Addr
  c : Nat
  m : Int
  n : Nat
def Holds (w : World) (x : KE) : Prop := ReadsOf byt 0 w x.A x.n (List.replicate x.n x.m)
theorem Holds.cell {w : World} {x : KE} (h : Holds w x) {j : Nat} (hj : j < x.n) : ∃ ad, x.A = some ad ∧ w.cell? (ad.add j) = some (.int .u8 x.m) := by
  obtain ⟨ad, e, hc⟩ := h.2.2 (by omega)
  refine ⟨ad, e, ?_⟩
  rw [hc j hj]
  simp [hj]
theorem Holds.stay {w w1 : World} {x : KE} (h : Holds w x) (hs : Stay (.int .u8 x.m) w w1) : Holds w1 x := by
  refine ⟨h.1, h.2.1, fun hn => ?_⟩
  obtain ⟨ad, e, hc⟩ := h.2.2 hn
  refine ⟨ad, e, fun j hj => ?_⟩
  have := hc j hj
  simp only [List.getD_eq_getElem?_getD, List.getElem?_replicate, hj, if_true, Option.getD_some] at this ⊢
  exact hs _ this
theorem Holds.move {w w1 : World} {x : KE} (h : Holds w x) (hm : ∀ ad, x.A = some ad → w1.heap[ad.block]? = w.heap[ad.block]?) : Holds w1 x := by
  refine ⟨h.1, h.2.1, fun hn => ?_⟩
  obtain ⟨ad, e, hc⟩ := h.2.2 hn
  refine ⟨ad, e, fun j hj => ?_⟩
  have hb : (ad.add j).block = ad.block := by unfold Addr.add; split <;> rfl
  rw [World.cell?_of_block (w := w) (by rw [hb]; exact hm ad e)]
  exact hc j hj
theorem holds_of_R {w : World} {b n c : Nat} {A : Option Addr} {m : Int} (h : Rb w b (.slice A n c) (List.replicate n m)) : Holds w ⟨A, c, m, n⟩ := by
  have := Kd.reads_of_C (enc := byt) (d := (0 : Int)) (h1 := fun _ => rfl) (Kd.R_reads' h).2.2
  rw [List.length_replicate] at this
  exact this
/-- Behind an append: of a row of its own, onto new memory. -/
structure App (W w1 : World) (base : Nat) (v v1 : Value) (xs : List Int) (y : Int) : Prop where
  new : Rb w1 base v1 (xs ++ [y])
  old : Rb w1 base v xs
  grown : W.grownBy w1 v.ownBlock
  stay : Stay (.int .u8 y) W w1
  at_ : v1.ownBlock = v.ownBlock ∨ ∃ b, v1.ownBlock = some b ∧ W.heap.size ≤ b
section
variable {ops : Array Oper} {rest : List Oper} {o : Oper} {a : Act} {Q : Exit → Act → World → Prop}
theorem wp_append_keep {Kc : Act → World → Prop} {Q : Exit → Act → World → Prop} {W : World} (base : Nat) (s x : Operand)
    (ho : o.op = .call { callee := .builtin .append, args := #[s, x], argTypes := #[24, 24] })
    (v : Value) (xs : List Int) (ad : Addr) (y : Int) (hs : a.eval s = v) (hx : a.eval x = .slice (some ad) 1 1) (hc : W.cell? ad = some (.int .u8 y))
    (HO : Rb W base v xs) (hbase : base ≤ W.heap.size) (hl : xs.length ≤ 1099511627776)
    (h : ∀ v1 w1, Rb w1 base v1 (xs ++ [y]) → Rb w1 base v xs → W.grownBy w1 v.ownBlock → Stay (.int .u8 y) W w1 → (v1.ownBlock = v.ownBlock ∨ v1.ownBlock = some W.heap.size) → Kc (a.put o.dst v1) w1) :
    Oper.wp Try.prog o a W Kc Q := by
  have hown : W.ownsRow base 5 1 v xs.length (encs byt xs) := Kd.own_of_R HO
  obtain ⟨v1, w1, hr, hown1, hown2, hg, hst, hat⟩ := run_append_keep (P := Try.prog) W base 24 o.type 5 .u8 1 Try.underlying24 info5 v (encs byt xs) y (by rw [encs_length]; exact hown) ad hc (by rw [encs_length]; simp only [maxLen]; omega) (by rw [encs_length]; omega) hbase
  unfold Oper.wp execOp
  simp only [ho, resolve, invoke, builtin, Sem.run_bind, Sem.run_pure, Result.andThen_ok, List.map_toArray, List.map_cons, List.map_nil, hs, hx, hr]
  have e : encs byt xs ++ [.int .u8 y] = encs byt (xs ++ [y]) := by simp [encs]
  rw [e, encs_length] at hown1
  rw [encs_length] at hown2
  exact h v1 w1 (Kd.R_of_own (by simpa using hown1) (fun _ _ => trivial)) (Kd.R_of_own hown2 (fun _ _ => trivial)) hg hst hat
theorem wpList_append_keep {W : World} (base : Nat) (hgd : o.guard = none) (s x : Operand)
    (ho : o.op = .call { callee := .builtin .append, args := #[s, x], argTypes := #[24, 24] })
    (v : Value) (xs : List Int) (y : Int) (hs : a.eval s = v) (hx : a.eval x = .slice (some ⟨W.heap.size, 0, none⟩) 1 1)
    (HO : Rb W base v xs) (hbase : base ≤ W.heap.size) (hl : xs.length ≤ 1099511627776)
    (h : ∀ v1 w1, App W w1 base v v1 xs y → wpList Try.prog ops Q rest (a.put o.dst v1) w1) :
    wpList Try.prog ops Q (o :: rest) a (W.alloc (.cells #[.int .u8 y] 5)) :=
  wpList_plain hgd fun _ hK => wp_append_keep base s x ho v xs ⟨W.heap.size, 0, none⟩ y hs hx ((blk_cell (heap_alloc_new W (.cells #[.int .u8 y] 5)) 0).trans rfl) (HO.keep (fun k hk => Below.heap_alloc _ _ _ (HO.lt k hk))) (by simp; omega) hl
    fun v1 w1 h1 h2 h3 h4 h5 => hK _ _ (h v1 w1 ⟨h1, h2, World.grownBy.trans (World.grownBy_alloc W _ _) h3, (stay_alloc _ _ _).trans h4, h5.imp id (fun e => ⟨_, e, by simp⟩)⟩)
end
/-- A row that goes on, on its way. -/
def G2 (w w1 ws : World) (b' : Nat) (l v2 : Value) (k j : Nat) (mark : Int) : Prop :=
  Rb ws b' v2 (List.replicate (k + j) mark) ∧ Stay (.int .u8 mark) w1 ws ∧ Only (fun i => some i = l.ownBlock) w ws ∧ (v2.ownBlock = l.ownBlock ∨ ∃ g, v2.ownBlock = some g ∧ w.heap.size ≤ g) ∧ w1.heap.size ≤ ws.heap.size
theorem only_app {w ws w4 : World} {base : Nat} {l v2 v3 : Value} {xs : List Int} {y : Int} (ho : Only (fun i => some i = l.ownBlock) w ws) (ha : App ws w4 base v2 v3 xs y) (hat : v2.ownBlock = l.ownBlock ∨ ∃ g, v2.ownBlock = some g ∧ w.heap.size ≤ g) :
    Only (fun i => some i = l.ownBlock) w w4 ∧ (v3.ownBlock = l.ownBlock ∨ ∃ g, v3.ownBlock = some g ∧ w.heap.size ≤ g) := by
  refine ⟨ho.trans (Only.of_grown ha.grown) (fun k hk => ?_), ?_⟩
  · rcases hat with e | ⟨g, e, hg⟩
    · exact .inl (by rw [← e]; exact hk)
    · rw [e] at hk; cases hk; exact .inr hg
  · rcases ha.at_ with e | ⟨g, e, hg⟩
    · rw [e]; exact hat
    · exact .inr ⟨g, e, Nat.le_trans ho.size hg⟩
theorem G2.next {w w1 ws w4 : World} {b' k j : Nat} {l v2 v3 : Value} {mark : Int} (h : G2 w w1 ws b' l v2 k j mark) (ha : App ws w4 b' v2 v3 (List.replicate (k + j) mark) mark) : G2 w w1 w4 b' l v3 k (j + 1) mark := by
  obtain ⟨h1, h2, h3, h4, h5⟩ := h
  obtain ⟨o1, o2⟩ := only_app h3 ha h4
  refine ⟨?_, h2.trans ha.stay, o1, o2, Nat.le_trans h5 ha.grown.size⟩
  have := ha.new
  rwa [← List.replicate_succ'] at this

/-- The lists' blocks. -/
def LB (L : List Sl) (g : Nat) : Prop := ∃ (t : Nat) (x : Sl), L[t]? = some x ∧ x.val.ownBlock = some g
/-- Rows of their own, no two in one block. -/
structure Lists (w : World) (b : Nat) (L : List Sl) (X : Nat → List Int) : Prop where
  own : ∀ (t : Nat) (x : Sl), L[t]? = some x → Rb w b x.val (X t) ∧ (X t).length = x.n
  apart : ∀ (t t' g : Nat) (x x' : Sl), L[t]? = some x → L[t']? = some x' → x.val.ownBlock = some g → x'.val.ownBlock = some g → t = t'
theorem Lists.lt {w : World} {b : Nat} {L : List Sl} {X : Nat → List Int} (hL : Lists w b L X) {t : Nat} {x : Sl} (hx : L[t]? = some x) : ∀ k, x.val.ownBlock = some k → k < w.heap.size := Rb.lt (hL.own t x hx).1
theorem Im.lists {w : World} {b : Nat} {v : Value} {L : List Sl} {Xs : List (List Int)} (h : Im w b v L Xs) : Lists w b L (fun t => Xs.getD t []) where
  own := fun t x hx => by
    obtain ⟨X, hX, hn, hR⟩ := h.get hx
    simp only [List.getD_eq_getElem?_getD, hX, Option.getD_some]
    exact ⟨hR, hn.symm⟩
  apart := h.apart
theorem Rv.lists {w wr : World} {b bL : Nat} {vL : Value} {L : List Sl} {X : Nat → List Int} (hL : Lists w b L X) (h : Rv w bL vL L) (ho : Only (LB L) w wr) : Rv wr bL vL L :=
  h.keep (fun k hk => ho.block k (h.lt k hk) (fun ⟨t, x, hx, e⟩ => by
    obtain ⟨c1, h1⟩ := Kd.R_typed h k hk
    obtain ⟨c2, h2⟩ := Kd.R_typed (hL.own t x hx).1 k e
    exact cells_ne h1 h2 (by decide) rfl))
def KE.sl (e : KE) : Sl := ⟨e.A, e.n, e.c⟩
def Sl.ke (x : Sl) (m : Int) : KE := ⟨x.A, x.c, m, x.n⟩
/-- The first i lists are full of marks and have gone on by ct, into F; the others hold Y. -/
structure Ph (mk : Nat → Int) (ct : Nat) (w wr : World) (b : Nat) (L : List Sl) (Y : Nat → List Int) (F : List KE) (vF : Value) (i : Nat) : Prop where
  only : Only (LB L) w wr
  todo : ∀ (t : Nat) (x : Sl), L[t]? = some x → i ≤ t → Rb wr b x.val (Y t) ∧ (Y t).length = x.n
  old : ∀ (t : Nat) (x : Sl), L[t]? = some x → t < i → Holds wr (x.ke (mk t))
  farV : Rv wr w.heap.size vF (F.map KE.sl)
  len : F.length = i
  far : ∀ (t : Nat) (e : KE), F[t]? = some e → Holds wr e ∧ e.m = mk t ∧ (∃ x, L[t]? = some x ∧ e.n = x.n + ct ∧ ∀ ad, e.A = some ad → x.val.ownBlock = some ad.block ∨ w.heap.size ≤ ad.block) ∧ ∀ ad, e.A = some ad → ad.block < wr.heap.size ∧ some ad.block ≠ vF.ownBlock
variable {mk : Nat → Int} {ct : Nat} {w wr : World} {b : Nat} {L : List Sl} {X Y : Nat → List Int}
theorem Ph.start (h : Lists w b L X) : Ph mk ct w w b L X [] (.slice none 0 0) 0 where
  only := Only.refl _ _
  todo := fun t x hx _ => h.own t x hx
  old := fun t x hx ht => by omega
  farV := Kd.R_nil _ _ _ _ _
  len := rfl
  far := fun t e he => by simp at he
def upd (Y : Nat → List Int) (j : Nat) (l : List Int) : Nat → List Int := fun t => if t = j then l else Y t
theorem upd_same (Y : Nat → List Int) (j : Nat) (l : List Int) : upd Y j l j = l := if_pos rfl
theorem upd_ne (Y : Nat → List Int) {j t : Nat} (l : List Int) (h : t ≠ j) : upd Y j l t = Y t := if_neg h
theorem Ph.congr {Y' : Nat → List Int} {F : List KE} {vF : Value} {i : Nat} (h : Ph mk ct w wr b L Y F vF i) (he : ∀ t, i ≤ t → t < L.length → Y t = Y' t) : Ph mk ct w wr b L Y' F vF i :=
  ⟨h.only, fun t x hx ht => by rw [← he t ht (List.getElem?_eq_some_iff.1 hx).1]; exact h.todo t x hx ht, h.old, h.farV, h.len, h.far⟩
/-- A byte is written into one of the others. -/
theorem Ph.put (hL : Lists w b L X) {F : List KE} {vF : Value} {i j g cap n k : Nat} (h : Ph mk ct w wr b L Y F vF i) (hj : i ≤ j) (hx : L[j]? = some ⟨some ⟨g, 0, none⟩, n, cap⟩) (m : Int) :
    Ph mk ct w (wr.setCell ⟨g, k, none⟩ (.int .u8 m)) b L (upd Y j ((Y j).set k m)) F vF i := by
  have ho : Only (fun q => q = g) wr (wr.setCell ⟨g, k, none⟩ (.int .u8 m)) := Only.setCell wr ⟨g, k, none⟩ _
  have s0 := h.only.size
  have hxlt : g < w.heap.size := hL.lt hx g rfl
  have fl : ∀ k, vF.ownBlock = some k → w.heap.size ≤ k ∧ k < wr.heap.size := fun k hk => ⟨Kd.R_base h.farV k hk, h.farV.lt k hk⟩
  have ne : ∀ {t : Nat} {y : Sl} {q : Nat}, L[t]? = some y → t ≠ j → y.val.ownBlock = some q → q ≠ g := fun {t y q} hy ht hq e => by
    subst e
    exact ht (hL.apart t j q y _ hy hx hq rfl)
  refine ⟨h.only.trans ho (fun q hq => .inl ⟨j, _, hx, by subst hq; rfl⟩), fun t y hy ht => ?_, fun t y hy ht => ?_, ?_, h.len, fun t e he => ?_⟩
  · by_cases e : t = j
    · subst e
      rw [hx] at hy
      cases hy
      rw [upd_same, List.length_set]
      obtain ⟨h1, h2⟩ := h.todo t _ hx ht
      refine ⟨?_, h2⟩
      have hput := Kd.R_putn h1 (k : Int) m
      simp only [Int.toNat_natCast] at hput
      exact hput
    · rw [upd_ne _ _ e]
      obtain ⟨h1, h2⟩ := h.todo t y hy ht
      exact ⟨h1.keep (fun q hq => ho.block q (h1.lt q hq) (ne hy e hq)), h2⟩
  · refine (h.old t y hy ht).move (fun ad ea => ?_)
    have hb : y.val.ownBlock = some ad.block := by have e' : y.A = some ad := ea; show (Value.slice y.A y.n y.c).ownBlock = _; rw [e']; rfl
    exact ho.block _ (by have := hL.lt hy _ hb; omega) (ne hy (by omega) hb)
  · exact h.farV.keep (fun q hq => ho.block q (fl q hq).2 (fun e => by have := (fl q hq).1; omega))
  · obtain ⟨f1, f2, ⟨y, hy, f3, f4⟩, f5⟩ := h.far t e he
    have ht : t < i := by have := (List.getElem?_eq_some_iff.1 he).1; have := h.len; omega
    refine ⟨f1.move (fun ad ea => ho.block _ (f5 ad ea).1 (fun e2 => ?_)), f2, ⟨y, hy, f3, f4⟩, fun ad ea => ⟨by have := (f5 ad ea).1; have := ho.size; omega, (f5 ad ea).2⟩⟩
    rcases f4 ad ea with h4 | h4
    · exact ne hy (by omega) h4 e2
    · omega
/-- The i-th list, full of its mark, has gone on, and lies in far. -/
theorem Ph.next (hL : Lists w b L X) {F : List KE} {vF : Value} {i : Nat} (h : Ph mk ct w wr b L Y F vF i) {x : Sl} (hx : L[i]? = some x) (hY : Y i = List.replicate x.n (mk i)) {ws w5 : World} {A2 : Option Addr} {c2 : Nat} {v1 : Value}
    (hg : G2 wr wr ws b x.val (.slice A2 (x.n + ct) c2) x.n ct (mk i))
    (hR : Rv w5 w.heap.size v1 (F.map KE.sl ++ [⟨A2, x.n + ct, c2⟩])) (hgr : ws.grownBy w5 vF.ownBlock) (hat : v1.ownBlock = vF.ownBlock ∨ ∃ g, v1.ownBlock = some g ∧ ws.heap.size ≤ g) :
    Ph mk ct w w5 b L Y (F ++ [⟨A2, c2, mk i, x.n + ct⟩]) v1 (i + 1) := by
  obtain ⟨g1, g2, g3, g4, g5⟩ := hg
  have s0 := h.only.size
  have s1 := g3.size
  have s2 := hgr.size
  have hxlt := hL.lt hx
  have fl : ∀ k, vF.ownBlock = some k → w.heap.size ≤ k ∧ k < wr.heap.size := fun k hk => ⟨Kd.R_base h.farV k hk, h.farV.lt k hk⟩
  -- a block that is neither the i-th list's nor far's stays
  have stays : ∀ k, k < wr.heap.size → some k ≠ x.val.ownBlock → some k ≠ vF.ownBlock → w5.heap[k]? = wr.heap[k]? := fun k hk h1 h2 =>
    (hgr.block k (by omega) h2).trans (g3.block k hk h1)
  have stays2 : ∀ k, k < ws.heap.size → some k ≠ vF.ownBlock → w5.heap[k]? = ws.heap[k]? := fun k hk h2 => hgr.block k hk h2
  have lblk : ∀ {t : Nat} {y : Sl} {k : Nat}, L[t]? = some y → y.val.ownBlock = some k → k < wr.heap.size ∧ some k ≠ vF.ownBlock := fun {t y k} hy hk => by
    have := hL.lt hy k hk
    exact ⟨by omega, fun e => by have := (fl k e.symm).1; omega⟩
  have a2 : ∀ ad, A2 = some ad → (x.val.ownBlock = some ad.block ∨ wr.heap.size ≤ ad.block) ∧ ad.block < ws.heap.size := fun ad e => by
    subst e
    refine ⟨?_, Kd.R_lt g1 ad.block rfl⟩
    rcases g4 with h4 | ⟨g, h4, hl⟩
    · exact .inl h4.symm
    · injection h4 with h4; exact .inr (by omega)
  constructor
  · refine (h.only.trans (g3.mono (S' := LB L) (fun k hk => ⟨i, x, hx, hk.symm⟩)) (fun k hk => .inl hk)).trans (Only.of_grown hgr) (fun k hk => .inr ?_)
    exact (fl k hk.symm).1
  · intro t y hy ht
    obtain ⟨h1, h2⟩ := h.todo t y hy (by omega)
    refine ⟨h1.keep (fun k hk => stays k (h1.lt k hk) (fun e => ?_) (lblk hy hk).2), h2⟩
    have := hL.apart t i k y x hy hx hk e.symm
    omega
  · intro t y hy ht
    by_cases e : t = i
    · subst e
      rw [hx] at hy
      cases hy
      have h1 := (h.todo t x hx (Nat.le_refl _)).1
      rw [hY] at h1
      have h0 : Holds wr (x.ke (mk t)) := holds_of_R h1
      refine (h0.stay g2).move (fun ad e => ?_)
      have hb : x.val.ownBlock = some ad.block := by have e' : x.A = some ad := e; show (Value.slice x.A x.n x.c).ownBlock = _; rw [e']; rfl
      exact stays2 _ (by have := (lblk hx hb).1; omega) (lblk hx hb).2
    · refine (h.old t y hy (by omega)).move (fun ad ea => ?_)
      have hb : y.val.ownBlock = some ad.block := by have e' : y.A = some ad := ea; show (Value.slice y.A y.n y.c).ownBlock = _; rw [e']; rfl
      exact stays _ (lblk hy hb).1 (fun e2 => e (hL.apart t i _ y x hy hx hb e2.symm)) (lblk hy hb).2
  · rw [List.map_append]; exact hR
  · simp [h.len]
  · intro t e he
    by_cases ht : t < F.length
    · rw [List.getElem?_append_left ht] at he
      obtain ⟨f1, f2, ⟨y, hy, f3, f4⟩, f5⟩ := h.far t e he
      have hti : t ≠ i := by have := h.len; omega
      refine ⟨f1.move (fun ad ea => stays _ (f5 ad ea).1 (fun e2 => ?_) (f5 ad ea).2), f2, ⟨y, hy, f3, f4⟩, fun ad ea => ⟨by have := (f5 ad ea).1; omega, fun e2 => ?_⟩⟩
      · rcases f4 ad ea with h4 | h4
        · exact hti (hL.apart t i _ y x hy hx h4 e2.symm)
        · have := hxlt _ e2.symm; omega
      · rcases hat with e3 | ⟨g, e3, hl⟩
        · rw [e3] at e2; exact (f5 ad ea).2 e2
        · rw [e3] at e2; cases e2; have := (f5 ad ea).1; omega
    · have hti : t = i := by
        have h1 := (List.getElem?_eq_some_iff.1 he).1
        have := h.len
        simp at h1
        omega
      subst hti
      rw [List.getElem?_append_right (by have := h.len; omega)] at he
      have : t - F.length = 0 := by have := h.len; omega
      rw [this] at he
      simp at he
      subst he
      have hne : ∀ ad, A2 = some ad → some ad.block ≠ vF.ownBlock := fun ad ea e2 => by
        rcases (a2 ad ea).1 with h4 | h4
        · have := hxlt _ h4; have := (fl _ e2.symm).1; omega
        · have := (fl _ e2.symm).2; omega
      refine ⟨(holds_of_R g1).move (fun ad ea => stays2 _ (a2 ad ea).2 (hne ad ea)), rfl, ⟨x, hx, rfl, fun ad ea => (a2 ad ea).1.imp id (fun h => by omega)⟩, fun ad ea => ⟨by have := (a2 ad ea).2; omega, fun e2 => ?_⟩⟩
      rcases hat with e3 | ⟨g, e3, hl⟩
      · rw [e3] at e2; exact hne ad ea e2
      · rw [e3] at e2; cases e2; have := (a2 ad ea).2; omega
end Go.Proofs.Ytekgdlpicgibhab.EX
