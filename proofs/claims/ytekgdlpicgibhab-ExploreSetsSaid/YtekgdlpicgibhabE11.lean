/-
  The library's Images: what holds between two rounds of its range over the survivors.
-/
import Derived.Test.YtekgdlpicgibhabE10
import Derived.Maps.OwnIn
import Derived.Maps.Views
import Derived.Maps.AppendAt
import Derived.StringKeys
import Derived.Laws.IdiomStrings
namespace Go.Proofs.Ytekgdlpicgibhab.EX
open Go.RowKit Go.Proofs.YtekgdlpicgibhabW.PrintWords Go.Maps

/-- Bytes are bytes. -/
def Byts (xs : List Int) : Prop := ∀ x ∈ xs, 0 ≤ x ∧ x < 256
def str (xs : List Int) : List UInt8 := xs.map fun x => UInt8.ofNat x.toNat
theorem str_at {xs : List Int} (h : Byts xs) (j : Nat) (hj : j < (str xs).length) : ((str xs)[j].toNat : Int) = xs.getD j 0 := by
  have hj' : j < xs.length := by simpa [str] using hj
  obtain ⟨h1, h2⟩ := h _ (List.getElem_mem hj')
  simp only [str, List.getElem_map, List.getD_eq_getElem?_getD, List.getElem?_eq_getElem hj', Option.getD_some]
  rw [UInt8.toNat_ofNat', Nat.mod_eq_of_lt (by omega)]
  omega
theorem str_inj {xs ys : List Int} (hx : Byts xs) (hy : Byts ys) (h : str xs = str ys) : xs = ys := by
  have hl : xs.length = ys.length := by have := congrArg List.length h; simpa [str] using this
  apply List.ext_getElem hl
  intro j h1 h2
  have e1 := str_at hx j (by simpa [str] using h1)
  have e2 := str_at hy j (by simpa [str] using h2)
  have e3 : (str xs)[j]'(by simpa [str] using h1) = (str ys)[j]'(by simpa [str] using h2) := by simp [h]
  rw [e3] at e1
  rw [e1] at e2
  simpa [List.getD_eq_getElem?_getD, List.getElem?_eq_getElem h1, List.getElem?_eq_getElem h2] using e2
theorem byts_put {xs d : List Int} {b : Nat} (hx : Byts xs) (hd : Byts d) : Byts (put xs b d) := by
  intro x h
  unfold put at h
  rcases List.mem_append.1 h with h | h
  · rcases List.mem_append.1 h with h | h
    · exact hx x (List.mem_of_mem_take h)
    · exact hd x h
  · exact hx x (List.mem_of_mem_drop h)
theorem byts_img {bs : List Int} {ps : List (Int × List Int)} (hb : Byts bs) (hp : ∀ p ∈ ps, Byts p.2) (m k : Nat) : Byts (imgK bs ps m k) := by
  induction k with
  | zero => exact hb
  | succ k ih =>
    unfold imgK
    split
    · exact ih
    · next p h =>
      split
      · exact byts_put ih (hp p (List.mem_of_getElem? h))
      · exact ih

theorem Im.only {w w1 : World} {b : Nat} {v : Value} {L : List Sl} {Xs : List (List Int)} (h : Im w b v L Xs) {S : Nat → Prop} (ho : Only S w w1) (hS : ∀ k, b ≤ k → ¬ S k) : Im w1 b v L Xs :=
  ⟨h.row.keep (fun k hk => ho.block k (h.row.lt k hk) (hS k (Kd.R_base h.row k hk))), h.len, fun t x X hx hX => ⟨(h.at_ t x X hx hX).1, (h.at_ t x X hx hX).2.keep (fun k hk => ho.block k ((h.at_ t x X hx hX).2.lt k hk) (hS k ((h.at_ t x X hx hX).2.base k hk)))⟩, h.apart⟩

/-- What holds when m images have come: the boxes, the map, the list. -/
structure IX (w0 : World) (B ob xb mb db pb : Nat) (A C : Option Addr) (c kc : Nat) (bs : List Int) (ps : List (Int × List Int)) (m : Nat) (W : World) (v : Value) (L : List Sl) (D : DataW Unit) : Prop where
  out : W.heap[ob]? = some (.cells #[v] 31 (0, 0))
  box : W.heap[xb]? = some (.cells #[.map (some mb)] 69 (0, 0))
  map : W.ownsMap Try.prog 9 (plainElem Try.prog 3) mb m D
  at_ : ∀ X : List UInt8, D.atKey (.string X) (.lit (.int .i64 0)) = .lit (.int .i64 (if X ∈ (uniq (img bs ps) m).map str then 1 else 0))
  im : Im W B v L (uniq (img bs ps) m)
  dbk : W.heap[db]? = some (.cells #[.slice A bs.length c] 24 (0, 0))
  pbk : W.heap[pb]? = some (.cells #[.slice C ps.length kc] 25 (0, 0))
  low : Below w0.heap.size w0 W
section
variable {w0 W W' : World} {B ob xb mb db pb : Nat} {A C : Option Addr} {c kc m : Nat} {bs : List Int} {ps : List (Int × List Int)} {v : Value} {L : List Sl} {D : DataW Unit}
theorem IX.only (h : IX w0 B ob xb mb db pb A C c kc bs ps m W v L D) {S : Nat → Prop} (ho : Only S W W') (hS : ∀ k, B ≤ k → ¬ S k) (h1 : ¬ S ob) (h2 : ¬ S xb) (h3 : ¬ S mb) (h4 : ¬ S db) (h5 : ¬ S pb) (h6 : ∀ k, S k → w0.heap.size ≤ k) : IX w0 B ob xb mb db pb A C c kc bs ps m W' v L D where
  out := (ho.block _ (heap_lt_of h.out) h1).trans h.out
  box := (ho.block _ (heap_lt_of h.box) h2).trans h.box
  map := by
    obtain ⟨es, clock, hb, F, hs, hD⟩ := h.map
    exact ⟨es, clock, (ho.block _ (heap_lt_of hb) h3).trans hb, F, hs, hD⟩
  at_ := h.at_
  im := h.im.only ho hS
  dbk := (ho.block _ (heap_lt_of h.dbk) h4).trans h.dbk
  pbk := (ho.block _ (heap_lt_of h.pbk) h5).trans h.pbk
  low := h.low.trans (ho.below h.low.size h6)
theorem uniq_map_mem {f : Nat → List Int} {m : Nat} (hf : ∀ i, Byts (f i)) : str (f m) ∈ (uniq f m).map str ↔ f m ∈ uniq f m := by
  constructor
  · intro h
    obtain ⟨y, hy, e⟩ := List.mem_map.1 h
    obtain ⟨i, _, rfl⟩ := uniq_mem hy
    rw [← str_inj (hf i) (hf m) e]
    exact hy
  · exact fun h => List.mem_map.2 ⟨_, h, rfl⟩
/-- An image that is there already. -/
theorem IX.stay (h : IX w0 B ob xb mb db pb A C c kc bs ps m W v L D) (hm : img bs ps m ∈ uniq (img bs ps) m) : IX w0 B ob xb mb db pb A C c kc bs ps (m + 1) W v L D := by
  have hu : uniq (img bs ps) (m + 1) = uniq (img bs ps) m := by
    conv => lhs; unfold uniq
    exact if_pos hm
  exact ⟨h.out, h.box, h.map.mono (Nat.le_succ m), by rw [hu]; exact h.at_, by rw [hu]; exact h.im, h.dbk, h.pbk, h.low⟩
/-- A new one: into the map, to the list's end. -/
theorem IX.add (h : IX w0 B ob xb mb db pb A C c kc bs ps m W v L D) (hlt : ob < B ∧ xb < B ∧ mb < B ∧ db < B ∧ pb < B) (hge : w0.heap.size ≤ ob ∧ w0.heap.size ≤ mb ∧ w0.heap.size ≤ B) {s : Sl}
    (hs : Rb W B s.val (img bs ps m)) (hn : s.n = (img bs ps m).length) (hfresh : ∀ (t g : Nat) (x : Sl), L[t]? = some x → x.val.ownBlock = some g → s.val.ownBlock ≠ some g)
    (hnew : img bs ps m ∉ uniq (img bs ps) m) {W2 W3 : World} {v1 : Value} (hmap : W2.ownsMap Try.prog 9 (plainElem Try.prog 3) mb (m + 1) (D.put (.string (str (img bs ps m))) (.lit (.int .i64 1))))
    (g2 : W.grownBy W2 (some mb)) (hR : Rv W3 B v1 (L ++ [s])) (g3 : W2.grownBy W3 v.ownBlock) :
    IX w0 B ob xb mb db pb A C c kc bs ps (m + 1) (W3.setCell ⟨ob, 0, none⟩ v1) v1 (L ++ [s]) (D.put (.string (str (img bs ps m))) (.lit (.int .i64 1))) := by
  obtain ⟨l1, l2, l3, l4, l5⟩ := hlt
  obtain ⟨b1, b2, b3⟩ := hge
  have hu : uniq (img bs ps) (m + 1) = uniq (img bs ps) m ++ [img bs ps m] := by
    conv => lhs; unfold uniq
    exact if_neg hnew
  obtain ⟨es, clock, hb, _⟩ := h.map
  have n1 : ob ≠ mb := fun e => by have := h.out; rw [e, hb] at this; cases this
  have n2 : xb ≠ mb := fun e => by have := h.box; rw [e, hb] at this; cases this
  have n3 : db ≠ mb := fun e => by have := h.dbk; rw [e, hb] at this; cases this
  have n4 : pb ≠ mb := fun e => by have := h.pbk; rw [e, hb] at this; cases this
  have n5 : xb ≠ ob := cells_ne h.box h.out (by decide)
  have n6 : db ≠ ob := cells_ne h.dbk h.out (by decide)
  have n7 : pb ≠ ob := cells_ne h.pbk h.out (by decide)
  have vb : ∀ k, v.ownBlock = some k → B ≤ k := fun k hk => Kd.R_base h.im.row k hk
  have o2 : Only (fun k => some k = some mb) W W2 := Only.of_grown g2
  have o3 : Only (fun k => some k = v.ownBlock) W2 W3 := Only.of_grown g3
  have o4 : Only (fun k => k = ob) W3 (W3.setCell ⟨ob, 0, none⟩ v1) := Only.setCell W3 ⟨ob, 0, none⟩ v1
  have im2 : Im W2 B v L (uniq (img bs ps) m) := h.im.only o2 (fun k hk e => by cases e; omega)
  have hs2 : Rb W2 B s.val (img bs ps m) := hs.keep (fun k hk => o2.block k (hs.lt k hk) (fun e => by cases e; have := hs.base _ hk; omega))
  have im3 := im2.next hs2 hn hfresh hR g3
  have im4 := im3.only o4 (fun k hk e => by omega)
  have far : ∀ k, k < B → k < W.heap.size → k ≠ mb → k ≠ ob → (W3.setCell ⟨ob, 0, none⟩ v1).heap[k]? = W.heap[k]? := fun k hk hl hm ho =>
    (o4.block k (by have := g2.size; have := g3.size; omega) ho).trans ((o3.block k (by have := g2.size; omega) (fun e => by have := vb k e.symm; omega)).trans (o2.block k hl (fun e => by cases e; exact hm rfl)))
  refine ⟨?_, (far _ l2 (heap_lt_of h.box) n2 n5).trans h.box, ?_, ?_, by rw [hu]; exact im4, (far _ l4 (heap_lt_of h.dbk) n3 n6).trans h.dbk, (far _ l5 (heap_lt_of h.pbk) n4 n7).trans h.pbk, ?_⟩
  · have h1 : W3.heap[ob]? = some (.cells #[v] 31 (0, 0)) := (o3.block ob (by have := g2.size; have := heap_lt_of h.out; omega) (fun e => by have := vb ob e.symm; omega)).trans ((o2.block ob (heap_lt_of h.out) (fun e => by cases e; exact n1 rfl)).trans h.out)
    have h2 := blk_set h1 0 v1
    exact h2
  · obtain ⟨es', clock', hb', F', hs', hD'⟩ := hmap
    exact ⟨es', clock', (o4.block mb (by have := g3.size; have := heap_lt_of hb'; omega) (fun e => n1 e.symm)).trans ((o3.block mb (heap_lt_of hb') (fun e => by have := vb mb e.symm; omega)).trans hb'), F', hs', hD'⟩
  · intro X
    rw [hu, List.map_append]
    have hD : IsMap D := h.map.isMap
    by_cases e : X = str (img bs ps m)
    · subst e
      rw [atKey_put_same hD (by exact trivial)]
      rw [if_pos (List.mem_append.2 (.inr (by simp)))]
    · rw [atKey_put_other (by intro h; cases h; exact e rfl), h.at_ X]
      have e2 : (X ∈ (uniq (img bs ps) m).map str ++ [img bs ps m].map str) ↔ X ∈ (uniq (img bs ps) m).map str := by
        simp only [List.mem_append, List.map_cons, List.map_nil, List.mem_singleton]
        exact ⟨fun h => h.elim id (fun h => (e h).elim), .inl⟩
      simp only [e2]
  · have f2 : Below w0.heap.size W W2 := o2.below h.low.size (fun k hk => by cases hk; exact b2)
    have f3 : Below w0.heap.size W2 W3 := o3.below (Nat.le_trans h.low.size g2.size) (fun k hk => by have := vb k hk.symm; omega)
    have f4 : Below w0.heap.size W3 (W3.setCell ⟨ob, 0, none⟩ v1) := o4.below (Nat.le_trans h.low.size (Nat.le_trans g2.size g3.size)) (fun k hk => by omega)
    exact ((h.low.trans f2).trans f3).trans f4
end
end Go.Proofs.Ytekgdlpicgibhab.EX
