/-
  Rows of slices, each a mark in new memory: written full, gone on behind their ends: what stays.
-/
import Derived.Test.YtekgdlpicgibhabE13
import Derived.Test.YtekgdlpicgibhabE15
namespace Go.Proofs.Ytekgdlpicgibhab.EX
open Go.RowKit Go.Proofs.YtekgdlpicgibhabW.PrintWords

/-- All bytes stay. -/
def KB (w w1 : World) : Prop := ∀ (g : Nat) (cs : Array Value), w.heap[g]? = some (.cells cs 5 (0, 0)) → w1.heap[g]? = some (.cells cs 5 (0, 0))
theorem KB.refl (w : World) : KB w w := fun _ _ h => h
theorem KB.trans {w w1 w2 : World} (h : KB w w1) (h' : KB w1 w2) : KB w w2 := fun g cs hg => h' g cs (h g cs hg)
theorem KB.of_below {w w1 : World} (h : Below w.heap.size w w1) : KB w w1 := fun g _ hg => (h.block g (heap_lt_of hg)).trans hg
theorem KB.of_grown {w w1 : World} {row : Option Nat} (h : w.grownBy w1 row) (hr : ∀ k, row = some k → ∃ cs t, w.heap[k]? = some (.cells cs t (0, 0)) ∧ t ≠ 5) : KB w w1 := fun g cs hg =>
  (h.block g (heap_lt_of hg) (fun e => by
    obtain ⟨cs', t, h1, h2⟩ := hr g e.symm
    rw [hg] at h1
    injection h1 with h1
    injection h1 with _ h1
    exact h2 h1.symm)).trans hg
theorem KB.setCell {w : World} {g i t : Nat} {cs : Array Value} (u : Value) (hg : w.heap[g]? = some (.cells cs t (0, 0))) (ht : t ≠ 5) : KB w (w.setCell ⟨g, i, none⟩ u) := fun g' cs' hg' =>
  (Below.heap_setCell w ⟨g, i, none⟩ u g' (fun e => by
    have e' : g' = g := e
    subst e'
    rw [hg] at hg'
    injection hg' with h1
    injection h1 with _ h1
    exact ht h1)).trans hg'
/-- A mark: a slice of one byte m in memory of its own. -/
def MarkS (w : World) (m : Int) (u : Value) : Prop := ∃ g, u = .slice (some ⟨g, 0, none⟩) 1 1 ∧ w.heap[g]? = some (.cells #[.int .u8 m] 5 (0, 0))
theorem MarkS.keep {w w1 : World} {m : Int} {u : Value} (h : MarkS w m u) (hk : KB w w1) : MarkS w1 m u := by
  obtain ⟨g, e, hg⟩ := h
  exact ⟨g, e, hk _ _ hg⟩
def HoldsL (w : World) (A : Option Addr) (n : Nat) (m : Int) : Prop := ∀ j, j < n → ∃ g u, A = some ⟨g, 0, none⟩ ∧ w.cell? ⟨g, j, none⟩ = some u ∧ MarkS w m u
theorem HoldsL.move {w w1 : World} {A : Option Addr} {n : Nat} {m : Int} (h : HoldsL w A n m) (hk : KB w w1) (hm : ∀ g, A = some ⟨g, 0, none⟩ → w1.heap[g]? = w.heap[g]?) : HoldsL w1 A n m := fun j hj => by
  obtain ⟨g, u, e, hc, hu⟩ := h j hj
  exact ⟨g, u, e, (World.cell?_of_block (hm g e)).trans hc, hu.keep hk⟩
/-- All cells but one stay. -/
def Stay1 (q : Option Nat) (n : Nat) (w w1 : World) : Prop := ∀ p u, w.cell? p = some u → (some p.block = q → p.off ≠ n) → w1.cell? p = some u
theorem HoldsL.stay {w w1 : World} {A : Option Addr} {n N : Nat} {m : Int} {q : Option Nat} (h : HoldsL w A n m) (hk : KB w w1) (hs : Stay1 q N w w1) (hn : n ≤ N) : HoldsL w1 A n m := fun j hj => by
  obtain ⟨g, u, e, hc, hu⟩ := h j hj
  exact ⟨g, u, e, hs _ _ hc (fun _ h => by have h' : j = N := h; omega), hu.keep hk⟩
theorem stay1_setRow {w : World} {g n : Nat} {cur : Array Value} {e : TypeId} {y : Value} (hg : w.heap[g]? = some (.cells cur e (0, 0))) (hn : n < cur.size) : Stay1 (some g) n w (w.setRow g (cur.toList.take n ++ [y] ++ cur.toList.drop (n + 1)).toArray) := by
  intro p u hp hne
  by_cases h : p.block = g
  · have h1 := setRow_heap w g cur (cur.toList.take n ++ [y] ++ cur.toList.drop (n + 1)).toArray e (0, 0) hg
    have hno : p.off ≠ n := hne (by rw [h])
    unfold World.cell? at hp ⊢
    rw [h] at hp ⊢
    rw [hg] at hp
    rw [h1]
    by_cases hs : p.spot.isSome = true
    · simp [hs] at hp
    simp only [hs, if_false, Bool.false_eq_true] at hp ⊢
    simp only [List.getElem?_toArray] at hp ⊢
    have hlt := (Array.getElem?_eq_some_iff.1 hp).1
    by_cases e1 : p.off < n
    · rw [List.append_assoc, List.getElem?_append_left (by simp; omega), List.getElem?_take_of_lt e1]
      simpa using hp
    · rw [List.getElem?_append_right (by simp; omega)]
      have e3 : (cur.toList.take n ++ [y]).length = n + 1 := by simp; omega
      rw [e3, List.getElem?_drop]
      have e4 : n + 1 + (p.off - (n + 1)) = p.off := by omega
      rw [e4]
      simpa using hp
  · rw [World.cell?_of_block (setRow_other w g p.block _ h)]
    exact hp
theorem run_append_keep1 {P : Program} (w : World) (base : Nat) (t ty e : TypeId) (z : Value) (bytes : Nat) (ht : P.underlying t = some (.slice e)) (hinfo : (P.info? e).map (fun i => (i.zero, i.size, i.bytes)) = some (some z, 1, bytes)) (hzc : z.cells.size = 1)
    (v : Value) (xs : List Value) (y : Value) (hy : y.oneCell' = true) (hown : w.ownsRow base e 1 v xs.length xs) (ad : Addr) (hc : w.cell? ad = some y) (h63 : xs.length + 1 ≤ maxLen) (hbytes : (xs.length + 1) * bytes ≤ 140737488355328) (hbase : base ≤ w.heap.size) :
    ∃ v1 w1, (Builtin.append_ #[t, t] ty #[v, .slice (some ad) 1 1]).run P w = .ok v1 w1 ∧ w1.ownsRow base e 1 v1 (xs.length + 1) (xs ++ [y]) ∧ w.grownBy w1 v.ownBlock ∧ Stay1 v.ownBlock xs.length w w1 ∧ (v1.ownBlock = v.ownBlock ∨ v1.ownBlock = some w.heap.size) := by
  obtain ⟨i0, hi, hz0, hz1, hz2⟩ := info_parts hinfo
  have hnews : ∀ j u, [y][j]? = some u → w.cell? (ad.add j) = some u := by
    intro j u hj
    have hj0 : j = 0 := by have := (List.getElem?_eq_some_iff.1 hj).1; simp at this; exact this
    subst hj0
    simp at hj
    subst hj
    simpa [Addr.add] using hc
  have hone : ∀ u ∈ [y], u.oneCell' = true := by intro u hu; rw [List.mem_singleton.1 hu]; exact hy
  obtain ⟨v1, w1, hr, hown1, hg, _, hat⟩ := run_append_own_at (P := P) w base t ty e i0 z 1 bytes ht hi hz0 hz1 hz2 hzc (by decide) v xs.length xs hown ad 1 1 [y] rfl hnews hone h63 hbytes hbase
  refine ⟨v1, w1, hr, hown1, hg, ?_, hat⟩
  rcases hown.2 with ⟨rfl, h0⟩ | ⟨g, cap, cur, rfl, hb, hcur, h3, h4, h5, h6⟩
  · intro p u hp _
    exact hg.cell hp (by simp [Value.ownBlock])
  · by_cases hroom : xs.length + 1 ≤ cap
    · have hr2 := run_append_room (P := P) w t ty e i0 ht hi g xs.length cap cur hcur ad 1 1 [y] (by rw [hz1]; rfl) hnews hone hroom (by rw [hz1, h5]; simp; omega)
      rw [hr] at hr2
      injection hr2 with e1 e2
      subst e2
      rw [hz1]
      show Stay1 (some g) _ _ _
      simpa using stay1_setRow (n := xs.length) (y := y) hcur (by rw [h5]; omega)
    · obtain ⟨v2, w2, hr2, _, hg2⟩ := run_append_arg_grows (P := P) w t ty e i0 z 1 bytes ht hi hz0 hz1 hz2 hzc (by decide) ⟨g, 0, none⟩ xs.length cap xs (by simp) (fun j u hj => hown.cells rfl j u hj) ad 1 1 [y] rfl hnews (by omega) h63 hbytes
      rw [hr] at hr2
      injection hr2 with e1 e2
      subst e2
      intro p u hp _
      exact hg2.cell hp (by simp)
theorem stay1_alloc (W : World) (ob : Obj) (q : Option Nat) (n : Nat) : Stay1 q n W (W.alloc ob) := fun _ _ hp _ => (World.cell?_alloc_old _ _ _ (by have := World.block_lt_of_cell? W _ hp; omega)).trans hp
theorem Stay1.trans {q : Option Nat} {n : Nat} {w w1 w2 : World} (h : Stay1 q n w w1) (h' : Stay1 q n w1 w2) : Stay1 q n w w2 := fun p u hp hne => h' p u (h p u hp hne) hne
/-- Behind an append of a slice to a row of slices of its own. -/
structure App1 (W w1 : World) (base : Nat) (v v1 : Value) (xs : List Sl) (y : Sl) : Prop where
  new : Rv w1 base v1 (xs ++ [y])
  grown : W.grownBy w1 v.ownBlock
  stay : Stay1 v.ownBlock xs.length W w1
  at_ : v1.ownBlock = v.ownBlock ∨ ∃ b, v1.ownBlock = some b ∧ W.heap.size ≤ b
section
variable {ops : Array Oper} {rest : List Oper} {o : Oper} {a : Act}
theorem wp_append_keep1 {Kc : Act → World → Prop} {Q : Exit → Act → World → Prop} {W : World} (base : Nat) (s x : Operand)
    (ho : o.op = .call { callee := .builtin .append, args := #[s, x], argTypes := #[31, 31] })
    (v : Value) (xs : List Sl) (ad : Addr) (y : Sl) (hs : a.eval s = v) (hx : a.eval x = .slice (some ad) 1 1) (hc : W.cell? ad = some y.val)
    (HO : Rv W base v xs) (hbase : base ≤ W.heap.size) (hl : xs.length ≤ 1099511627776)
    (h : ∀ v1 w1, Rv w1 base v1 (xs ++ [y]) → W.grownBy w1 v.ownBlock → Stay1 v.ownBlock xs.length W w1 → (v1.ownBlock = v.ownBlock ∨ v1.ownBlock = some W.heap.size) → Kc (a.put o.dst v1) w1) :
    Oper.wp Try.prog o a W Kc Q := by
  have hown : W.ownsRow base 24 1 v xs.length (xs.map Sl.val) := own_of_Rv HO
  obtain ⟨v1, w1, hr, hown1, hg, hst, hat⟩ := run_append_keep1 (P := Try.prog) W base 31 o.type 24 (.slice none 0 0) 24 Try.underlying31 info24 rfl v (xs.map Sl.val) y.val rfl (by rw [List.length_map]; exact hown) ad hc (by rw [List.length_map]; simp only [maxLen]; omega) (by rw [List.length_map]; omega) hbase
  unfold Oper.wp execOp
  simp only [ho, resolve, invoke, builtin, Sem.run_bind, Sem.run_pure, Result.andThen_ok, List.map_toArray, List.map_cons, List.map_nil, hs, hx, hr]
  have e : xs.map Sl.val ++ [y.val] = (xs ++ [y]).map Sl.val := by simp
  rw [e, List.length_map] at hown1
  rw [List.length_map] at hst
  exact h v1 w1 (Rv_of_own (by simpa using hown1)) hg hst hat
theorem wpList_append_keep1 {Q : Exit → Act → World → Prop} {W : World} (base sz : Nat) (hsz : W.heap.size = sz) (hgd : o.guard = none) (s x : Operand)
    (ho : o.op = .call { callee := .builtin .append, args := #[s, x], argTypes := #[31, 31] })
    (v : Value) (xs : List Sl) (y : Sl) (hs : a.eval s = v) (hx : a.eval x = .slice (some ⟨sz, 0, none⟩) 1 1)
    (HO : Rv W base v xs) (hbase : base ≤ W.heap.size) (hl : xs.length ≤ 1099511627776)
    (h : ∀ v1 w1, App1 W w1 base v v1 xs y → wpList Try.prog ops Q rest (a.put o.dst v1) w1) :
    wpList Try.prog ops Q (o :: rest) a (W.alloc (.cells #[y.val] 24)) :=
  wpList_plain hgd fun _ hK => wp_append_keep1 base s x ho v xs ⟨W.heap.size, 0, none⟩ y hs (by rw [hsz]; exact hx) ((blk_cell (heap_alloc_new W (.cells #[y.val] 24)) 0).trans rfl) (HO.keep (fun k hk => Below.heap_alloc _ _ _ (HO.lt k hk))) (by simp; omega) hl
    fun v1 w1 h1 h3 h4 h5 => hK _ _ (h v1 w1 ⟨h1, World.grownBy.trans (World.grownBy_alloc W _ _) h3, (stay1_alloc _ _ _ _).trans h4, h5.imp id (fun e => ⟨_, e, by simp⟩)⟩)
end
theorem App1.kb {W w1 : World} {base : Nat} {v v1 : Value} {xs : List Sl} {y : Sl} (h : App1 W w1 base v v1 xs y) (hR : Rv W base v xs) : KB W w1 :=
  KB.of_grown h.grown (fun k hk => by
    obtain ⟨cs, h1⟩ := Kd.R_typed hR k hk
    exact ⟨cs, _, h1, by decide⟩)

/-- Rows of lists of slices. -/
def Ru (w : World) (b : Nat) (v : Value) (xs : List Sl) : Prop := kV.R 31 w b (fun _ => True) v xs
theorem Ru.keep {w w1 : World} {b : Nat} {v : Value} {xs : List Sl} (h : Ru w b v xs) (hk : ∀ k, v.ownBlock = some k → w1.heap[k]? = w.heap[k]?) : Ru w1 b v xs :=
  Kd.R_mono (Kd.R_step (Kd.R_tight rfl h) (fun k hk' _ => hk k hk'.symm)) (fun _ _ => trivial)
theorem Ru.lt {w : World} {b : Nat} {v : Value} {xs : List Sl} (h : Ru w b v xs) : ∀ k, v.ownBlock = some k → k < w.heap.size := Kd.R_lt h
theorem Ru.cell {w : World} {b : Nat} {A : Option Addr} {n c : Nat} {xs : List Sl} (h : Ru w b (.slice A n c) xs) {j : Nat} {x : Sl} (hx : xs[j]? = some x) :
    ∃ g, A = some ⟨g, 0, none⟩ ∧ w.cell? ⟨g, j, none⟩ = some (.slice x.A x.n x.c) := by
  obtain ⟨hn, _, hC⟩ := Kd.R_reads' h
  have hj : j < xs.length := (List.getElem?_eq_some_iff.1 hx).1
  obtain ⟨ad, cs, hA, _, hK, hc⟩ := Kd.C_get hC x (j : Int) (by omega) (by omega)
  simp only [Int.toNat_natCast] at hK hc
  rw [List.getD_eq_getElem?_getD, hx] at hK
  obtain ⟨rfl, _⟩ := hK
  subst hA
  obtain ⟨g, rfl⟩ := Kd.R_head h
  have z0 := hc 0 _ rfl
  rw [add_zero_plain] at z0
  have e2 : j * kV.sz + 0 = j := by show j * 1 + 0 = j; omega
  rw [e2] at z0
  exact ⟨g, rfl, z0⟩
/-- Lists of slices, each a row of its own, no two in one block. -/
structure RL (w : World) (b : Nat) (LS : List Sl) : Prop where
  own : ∀ (t : Nat) (x : Sl), LS[t]? = some x → ∃ Y, Rv w b x.val Y ∧ Y.length = x.n
  apart : ∀ (t t' g : Nat) (x x' : Sl), LS[t]? = some x → LS[t']? = some x' → x.val.ownBlock = some g → x'.val.ownBlock = some g → t = t'
theorem RL.lt {w : World} {b : Nat} {LS : List Sl} (h : RL w b LS) {t : Nat} {x : Sl} (hx : LS[t]? = some x) : ∀ k, x.val.ownBlock = some k → k < w.heap.size := by
  obtain ⟨Y, hR, _⟩ := h.own t x hx
  exact hR.lt
theorem Ru.lists {w wr : World} {b bL : Nat} {vL : Value} {LS : List Sl} (hL : RL w b LS) (h : Ru w bL vL LS) (ho : Only (LB LS) w wr) : Ru wr bL vL LS :=
  h.keep (fun k hk => ho.block k (h.lt k hk) (fun ⟨t, x, hx, e⟩ => by
    obtain ⟨c1, h1⟩ := Kd.R_typed h k hk
    obtain ⟨Y, hR, _⟩ := hL.own t x hx
    obtain ⟨c2, h2⟩ := Kd.R_typed hR k e
    exact cells_ne h1 h2 (by decide) rfl))
def mkL (t : Nat) : Int := 1 + (t : Int)
def updN (q : Nat → Nat) (i k : Nat) : Nat → Nat := fun t => if t = i then k else q t
/-- Of each list t the first q t are marks. -/
structure P1 (w wr : World) (b : Nat) (LS : List Sl) (q : Nat → Nat) : Prop where
  only : Only (LB LS) w wr
  row : ∀ (t : Nat) (x : Sl), LS[t]? = some x → ∃ Y : List Sl, Rv wr b x.val Y ∧ Y.length = x.n ∧ ∀ (j : Nat) (y : Sl), j < q t → Y[j]? = some y → MarkS wr (mkL t) y.val
variable {w wr : World} {b : Nat} {LS : List Sl} {q : Nat → Nat}
theorem P1.start (h : RL w b LS) : P1 w w b LS (fun _ => 0) := ⟨Only.refl _ _, fun t x hx => by
  obtain ⟨Y, h1, h2⟩ := h.own t x hx
  exact ⟨Y, h1, h2, fun j y hj => by omega⟩⟩
theorem P1.congr {q' : Nat → Nat} (h : P1 w wr b LS q) (he : ∀ t, t < LS.length → q' t = q t) : P1 w wr b LS q' := ⟨h.only, fun t x hx => by
  obtain ⟨Y, h1, h2, h3⟩ := h.row t x hx
  exact ⟨Y, h1, h2, fun j y hj hy => h3 j y (by rw [← he t (List.getElem?_eq_some_iff.1 hx).1]; exact hj) hy⟩⟩
theorem P1.put (hL : RL w b LS) (h : P1 w wr b LS q) {i g n c k : Nat} (hx : LS[i]? = some ⟨some ⟨g, 0, none⟩, n, c⟩) (hq : q i = k) :
    P1 w ((wr.alloc (.cells #[.int .u8 (mkL i)] 5)).setCell ⟨g, k, none⟩ (.slice (some ⟨wr.heap.size, 0, none⟩) 1 1)) b LS (updN q i (k + 1)) := by
  obtain ⟨w1, hw1⟩ : ∃ w1, wr.alloc (.cells #[.int .u8 (mkL i)] 5) = w1 := ⟨_, rfl⟩
  have hb1 : Below wr.heap.size wr w1 := by rw [← hw1]; exact below_alloc (Below.refl _ _) _
  have hnew : w1.heap[wr.heap.size]? = some (.cells #[.int .u8 (mkL i)] 5 (0, 0)) := by rw [← hw1]; exact heap_alloc_new _ _
  rw [hw1]
  have ho : Only (fun q => q = g) w1 (w1.setCell ⟨g, k, none⟩ (.slice (some ⟨wr.heap.size, 0, none⟩) 1 1)) := Only.setCell w1 ⟨g, k, none⟩ _
  have hglt := hL.lt hx g rfl
  have hs := h.only.size
  obtain ⟨Yi, hRi, hYl, hYm⟩ := h.row i _ hx
  have hRi1 : Rv w1 b (.slice (some ⟨g, 0, none⟩) n c) Yi := Rv.keep hRi (fun k hk => hb1.block k (Rv.lt hRi k hk))
  obtain ⟨cg, hgt⟩ := Kd.R_typed hRi1 g rfl
  have hkb : KB w1 (w1.setCell ⟨g, k, none⟩ (.slice (some ⟨wr.heap.size, 0, none⟩) 1 1)) := KB.setCell _ hgt (by decide)
  have hkb0 : KB wr w1 := KB.of_below hb1
  refine ⟨(h.only.trans (Only.of_below hb1 (fun _ => False)) (fun _ hk => hk.elim)).trans ho (fun k' hk' => .inl ⟨i, _, hx, by rw [show k' = g from hk']; rfl⟩), fun t y hy => ?_⟩
  by_cases e : t = i
  · subst e
    rw [hx] at hy
    cases hy
    have hput : w1.ownsRow b 24 1 (.slice (some ⟨g, 0, none⟩) n c) n (Yi.map Sl.val) := by have h2 := own_of_Rv hRi1; rw [hYl] at h2; exact h2
    refine ⟨Yi.set k ⟨some ⟨wr.heap.size, 0, none⟩, 1, 1⟩, ?_, by simpa using hYl, fun j y hj hy => ?_⟩
    · have h2 := (hput.stored k (Sl.val ⟨some ⟨wr.heap.size, 0, none⟩, 1, 1⟩)).1
      rw [← List.map_set] at h2
      refine Rv_of_own ?_
      rw [List.length_set]
      rw [hYl]
      exact h2
    · rw [List.getElem?_set] at hy
      by_cases ej : k = j
      · rw [if_pos ej] at hy
        split at hy
        · cases hy
          exact ⟨wr.heap.size, rfl, hkb _ _ hnew⟩
        · cases hy
      · rw [if_neg ej] at hy
        unfold updN at hj
        rw [if_pos rfl] at hj
        exact ((hYm j y (by omega) hy).keep hkb0).keep hkb
  · obtain ⟨Y, h1, h2, h3⟩ := h.row t y hy
    have h1' : Rv w1 b y.val Y := h1.keep (fun k hk => hb1.block k (h1.lt k hk))
    refine ⟨Y, h1'.keep (fun k' hk' => ho.block k' (h1'.lt k' hk') (fun e2 => ?_)), h2, fun j u hj hu => ?_⟩
    · have e3 : k' = g := e2
      subst e3
      exact e (hL.apart t i k' y _ hy hx hk' rfl)
    · unfold updN at hj
      rw [if_neg e] at hj
      exact ((h3 j u hj hu).keep hkb0).keep hkb
/-- A list that goes on, on its way. -/
structure G2L (w ws : World) (b : Nat) (x : Sl) (v2 : Value) (j : Nat) (m : Int) : Prop where
  kb : KB w ws
  row : ∃ Z, Rv ws b v2 Z ∧ Z.length = x.n + j ∧ ∀ y ∈ Z, MarkS ws m y.val
  holds : HoldsL ws x.A x.n m
  only : Only (fun i => some i = x.val.ownBlock) w ws
  at_ : v2.ownBlock = x.val.ownBlock ∨ ∃ g, v2.ownBlock = some g ∧ w.heap.size ≤ g
theorem holdsL_of_R {w : World} {b n c : Nat} {A : Option Addr} {m : Int} {Y : List Sl} (h : Rv w b (.slice A n c) Y) (hm : ∀ y ∈ Y, MarkS w m y.val) : HoldsL w A n m := fun j hj => by
  have hl := (Kd.R_reads' h).1
  obtain ⟨y, hy⟩ : ∃ y, Y[j]? = some y := ⟨_, List.getElem?_eq_getElem (by omega)⟩
  obtain ⟨g, e, hc⟩ := h.cell hy
  exact ⟨g, _, e, hc, hm y (List.mem_of_getElem? hy)⟩
theorem G2L.start {w : World} {b : Nat} {x : Sl} {m : Int} {Y : List Sl} (h : Rv w b x.val Y) (hn : Y.length = x.n) (hm : ∀ y ∈ Y, MarkS w m y.val) : G2L w w b x x.val 0 m :=
  ⟨KB.refl _, ⟨Y, h, hn, hm⟩, holdsL_of_R h hm, Only.refl _ _, .inl rfl⟩
theorem rv_kb {ws w4 : World} {b : Nat} {v : Value} {Z : List Sl} (hR : Rv ws b v Z) (hg : ws.grownBy w4 v.ownBlock) : KB ws w4 :=
  KB.of_grown hg (fun k hk => by
    obtain ⟨cs, h1⟩ := Kd.R_typed hR k hk
    exact ⟨cs, _, h1, by decide⟩)
theorem G2L.next {w ws w4 : World} {b j : Nat} {x : Sl} {v2 v3 : Value} {m : Int} {Z : List Sl} (h : G2L w ws b x v2 j m) (hR : Rv ws b v2 Z) (hZ : Z.length = x.n + j) (hZm : ∀ y ∈ Z, MarkS ws m y.val)
    (ha : App1 (ws.alloc (.cells #[.int .u8 m] 5)) w4 b v2 v3 Z ⟨some ⟨ws.heap.size, 0, none⟩, 1, 1⟩) : G2L w w4 b x v3 (j + 1) m := by
  have hb1 : Below ws.heap.size ws (ws.alloc (.cells #[.int .u8 m] 5)) := below_alloc (Below.refl _ _) _
  have hnew := heap_alloc_new ws (.cells #[.int .u8 m] 5)
  have hR1 : Rv (ws.alloc (.cells #[.int .u8 m] 5)) b v2 Z := Rv.keep hR (fun k hk => hb1.block k (Rv.lt hR k hk))
  have k1 : KB ws (ws.alloc (.cells #[.int .u8 m] 5)) := KB.of_below hb1
  have k2 := ha.kb hR1
  have o1 : Only (fun i => some i = x.val.ownBlock) w (ws.alloc (.cells #[.int .u8 m] 5)) := h.only.trans (Only.of_below hb1 (fun _ => False)) (fun _ hk => hk.elim)
  refine ⟨(h.kb.trans k1).trans k2, ⟨Z ++ [⟨some ⟨ws.heap.size, 0, none⟩, 1, 1⟩], ha.new, by simp; omega, fun y hy => ?_⟩, ?_, o1.trans (Only.of_grown ha.grown) (fun k hk => ?_), ?_⟩
  · rcases List.mem_append.1 hy with hy | hy
    · exact ((hZm y hy).keep k1).keep k2
    · rw [List.mem_singleton.1 hy]
      exact ⟨ws.heap.size, rfl, k2 _ _ hnew⟩
  · exact (h.holds.stay k1 (stay1_alloc _ _ v2.ownBlock Z.length) (by omega)).stay k2 ha.stay (by omega)
  · rcases h.at_ with e | ⟨g, e, hg⟩
    · exact .inl (by rw [← e]; exact hk)
    · rw [e] at hk; cases hk; exact .inr hg
  · rcases ha.at_ with e | ⟨g, e, hg⟩
    · rw [e]; exact h.at_
    · refine .inr ⟨g, e, Nat.le_trans o1.size hg⟩
/-- The first i lists are full of marks and have gone on by 90, into F. -/
structure PhL (w wr : World) (b : Nat) (LS : List Sl) (F : List KE) (vF : Value) (i : Nat) : Prop where
  only : Only (LB LS) w wr
  todo : ∀ (t : Nat) (x : Sl), LS[t]? = some x → i ≤ t → ∃ Y, Rv wr b x.val Y ∧ Y.length = x.n ∧ ∀ y ∈ Y, MarkS wr (mkL t) y.val
  old : ∀ (t : Nat) (x : Sl), LS[t]? = some x → t < i → HoldsL wr x.A x.n (mkL t)
  farV : Ru wr w.heap.size vF (F.map KE.sl)
  len : F.length = i
  far : ∀ (t : Nat) (e : KE), F[t]? = some e → HoldsL wr e.A e.n e.m ∧ e.m = mkL t ∧ (∃ x, LS[t]? = some x ∧ e.n = x.n + 90 ∧ ∀ ad, e.A = some ad → x.val.ownBlock = some ad.block ∨ w.heap.size ≤ ad.block) ∧ ∀ ad, e.A = some ad → ad.block < wr.heap.size ∧ some ad.block ≠ vF.ownBlock
theorem P1.done (h : P1 w wr b LS q) (hq : ∀ (t : Nat) (x : Sl), LS[t]? = some x → x.n ≤ q t) : PhL w wr b LS [] (.slice none 0 0) 0 where
  only := h.only
  todo := fun t x hx _ => by
    obtain ⟨Y, h1, h2, h3⟩ := h.row t x hx
    refine ⟨Y, h1, h2, fun y hy => ?_⟩
    obtain ⟨j, hj⟩ := List.getElem?_of_mem hy
    have := (List.getElem?_eq_some_iff.1 hj).1
    exact h3 j y (by have := hq t x hx; omega) hj
  old := fun t x hx ht => by omega
  farV := Kd.R_nil _ _ _ _ _
  len := rfl
  far := fun t e he => by simp at he
theorem PhL.next (hL : RL w b LS) {F : List KE} {vF : Value} {i : Nat} (h : PhL w wr b LS F vF i) {x : Sl} (hx : LS[i]? = some x) {ws w5 : World} {A2 : Option Addr} {c2 : Nat} {v1 : Value}
    (hg : G2L wr ws b x (.slice A2 (x.n + 90) c2) 90 (mkL i)) (hFu : Ru ws w.heap.size vF (F.map KE.sl))
    (hR : Ru w5 w.heap.size v1 (F.map KE.sl ++ [⟨A2, x.n + 90, c2⟩])) (hgr : ws.grownBy w5 vF.ownBlock) (hat : v1.ownBlock = vF.ownBlock ∨ ∃ g, v1.ownBlock = some g ∧ ws.heap.size ≤ g) :
    PhL w w5 b LS (F ++ [⟨A2, c2, mkL i, x.n + 90⟩]) v1 (i + 1) := by
  obtain ⟨gk, ⟨Z, g1, gl, gm⟩, g2, g3, g4⟩ := hg
  have s0 := h.only.size
  have s1 := g3.size
  have s2 := hgr.size
  have hxlt := hL.lt hx
  have fl : ∀ k, vF.ownBlock = some k → w.heap.size ≤ k ∧ k < wr.heap.size := fun k hk => ⟨Kd.R_base h.farV k hk, h.farV.lt k hk⟩
  have k5 : KB ws w5 := KB.of_grown hgr (fun k hk => by
    obtain ⟨cs, h1⟩ := Kd.R_typed hFu k hk
    exact ⟨cs, _, h1, by decide⟩)
  have kk : KB wr w5 := gk.trans k5
  have stays : ∀ k, k < wr.heap.size → some k ≠ x.val.ownBlock → some k ≠ vF.ownBlock → w5.heap[k]? = wr.heap[k]? := fun k hk h1 h2 =>
    (hgr.block k (by omega) h2).trans (g3.block k hk h1)
  have stays2 : ∀ k, k < ws.heap.size → some k ≠ vF.ownBlock → w5.heap[k]? = ws.heap[k]? := fun k hk h2 => hgr.block k hk h2
  have lblk : ∀ {t : Nat} {y : Sl} {k : Nat}, LS[t]? = some y → y.val.ownBlock = some k → k < wr.heap.size ∧ some k ≠ vF.ownBlock := fun {t y k} hy hk => by
    have := hL.lt hy k hk
    exact ⟨by omega, fun e => by have := (fl k e.symm).1; omega⟩
  have hvb : ∀ {y : Sl} {g : Nat}, y.A = some ⟨g, 0, none⟩ → y.val.ownBlock = some g := fun {y g} e => by show (Value.slice y.A y.n y.c).ownBlock = _; rw [e]; rfl
  have a2 : ∀ ad, A2 = some ad → (x.val.ownBlock = some ad.block ∨ wr.heap.size ≤ ad.block) ∧ ad.block < ws.heap.size := fun ad e => by
    subst e
    refine ⟨?_, Kd.R_lt g1 ad.block rfl⟩
    rcases g4 with h4 | ⟨g, h4, hl⟩
    · exact .inl h4.symm
    · injection h4 with h4; exact .inr (by omega)
  constructor
  · refine (h.only.trans (g3.mono (S' := LB LS) (fun k hk => ⟨i, x, hx, hk.symm⟩)) (fun k hk => .inl hk)).trans (Only.of_grown hgr) (fun k hk => .inr ?_)
    exact (fl k hk.symm).1
  · intro t y hy ht
    obtain ⟨Y, h1, h2, h3⟩ := h.todo t y hy (by omega)
    refine ⟨Y, h1.keep (fun k hk => stays k (h1.lt k hk) (fun e => ?_) (lblk hy hk).2), h2, fun u hu => (h3 u hu).keep kk⟩
    have := hL.apart t i k y x hy hx hk e.symm
    omega
  · intro t y hy ht
    by_cases e : t = i
    · subst e
      rw [hx] at hy
      cases hy
      exact g2.move k5 (fun g eg => stays2 _ (by have := (lblk hx (hvb eg)).1; omega) (lblk hx (hvb eg)).2)
    · refine (h.old t y hy (by omega)).move kk (fun g eg => ?_)
      exact stays _ (lblk hy (hvb eg)).1 (fun e2 => e (hL.apart t i _ y x hy hx (hvb eg) e2.symm)) (lblk hy (hvb eg)).2
  · rw [List.map_append]; exact hR
  · simp [h.len]
  · intro t e he
    by_cases ht : t < F.length
    · rw [List.getElem?_append_left ht] at he
      obtain ⟨f1, f2, ⟨y, hy, f3, f4⟩, f5⟩ := h.far t e he
      have hti : t ≠ i := by have := h.len; omega
      refine ⟨f1.move kk (fun g eg => stays _ (f5 _ eg).1 (fun e2 => ?_) (f5 _ eg).2), f2, ⟨y, hy, f3, f4⟩, fun ad ea => ⟨by have := (f5 ad ea).1; omega, fun e2 => ?_⟩⟩
      · rcases f4 _ eg with h4 | h4
        · exact hti (hL.apart t i _ y x hy hx h4 e2.symm)
        · have := hxlt _ e2.symm; simp only at h4; omega
      · rcases hat with e3 | ⟨g, e3, hl⟩
        · rw [e3] at e2; exact (f5 ad ea).2 e2
        · rw [e3] at e2; cases e2; have := (f5 ad ea).1; omega
    · have hti : t = i := by
        have h1 := (List.getElem?_eq_some_iff.1 he).1
        have := h.len
        simp at h1
        omega
      subst hti
      rw [List.getElem?_append_right (by have := h.len; omega)] at he
      have : t - F.length = 0 := by have := h.len; omega
      rw [this] at he
      simp at he
      subst he
      have hne : ∀ ad, A2 = some ad → some ad.block ≠ vF.ownBlock := fun ad ea e2 => by
        rcases (a2 ad ea).1 with h4 | h4
        · have := hxlt _ h4; have := (fl _ e2.symm).1; omega
        · have := (fl _ e2.symm).2; omega
      refine ⟨(holdsL_of_R g1 gm).move k5 (fun g eg => stays2 _ (a2 _ eg).2 (hne _ eg)), rfl, ⟨x, hx, rfl, fun ad ea => (a2 ad ea).1.imp id (fun h => by omega)⟩, fun ad ea => ⟨by have := (a2 ad ea).2; omega, fun e2 => ?_⟩⟩
      rcases hat with e3 | ⟨g, e3, hl⟩
      · rw [e3] at e2; exact hne ad ea e2
      · rw [e3] at e2; cases e2; have := (a2 ad ea).2; omega
end Go.Proofs.Ytekgdlpicgibhab.EX
