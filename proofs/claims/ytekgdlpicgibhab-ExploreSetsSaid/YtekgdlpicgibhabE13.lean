/-
  A row of images as cells, and back; an append to it between two worlds.
-/
import Derived.Test.YtekgdlpicgibhabE11
import Derived.IntWalk
import Derived.RangeFuncBox
namespace Go.Proofs.Ytekgdlpicgibhab.EX
open Go.RowKit Go.Proofs.YtekgdlpicgibhabW.PrintWords Go.Maps
theorem own_of_Rv {w : World} {b : Nat} {v : Value} {L : List Sl} (h : Rv w b v L) : w.ownsRow b 24 1 v L.length (L.map Sl.val) := by
  obtain ⟨_, inner, ho, hl, hr⟩ := h
  have e : inner = L.map Sl.val := by
    have hl' : inner.length = L.length := by rw [hl]; exact Nat.mul_one _
    apply List.ext_getElem?
    intro j
    by_cases hj : j < L.length
    · obtain ⟨hx, _⟩ := hr j _ (List.getElem?_eq_getElem hj)
      have e1 : inner[j]? = ((inner.drop (j * 1)).take 1)[0]? := by rw [Nat.mul_one, List.getElem?_take_of_lt (by omega), List.getElem?_drop]; rfl
      rw [e1]
      show ((inner.drop (j * kV.sz)).take kV.sz)[0]? = _
      rw [hx, List.getElem?_map, List.getElem?_eq_getElem hj]
      rfl
    · rw [List.getElem?_eq_none (by omega), List.getElem?_eq_none (by simp; omega)]
  rw [← e]
  exact ho
theorem Rv_of_own {w : World} {b : Nat} {v : Value} {L : List Sl} (h : w.ownsRow b 24 1 v L.length (L.map Sl.val)) : Rv w b v L := by
  refine ⟨fun _ _ => trivial, L.map Sl.val, h, by rw [List.length_map]; exact (Nat.mul_one _).symm, fun j p hj => kV_mk ?_⟩
  show ((L.map Sl.val).drop (j * 1)).take 1 = [p.val]
  rw [Nat.mul_one]
  have hj' := (List.getElem?_eq_some_iff.1 hj)
  obtain ⟨hlt, rfl⟩ := hj'
  rw [List.drop_eq_getElem_cons (by simpa using hlt), List.take_succ_cons, List.take_zero]
  simp
theorem not_frozen {w : World} {g : Nat} {cs : Array Value} {t : Nat} (h : w.heap[g]? = some (.cells cs t (0, 0))) (i : Nat := 0) : w.frozen? ⟨g, i, none⟩ = false := by
  unfold World.frozen?
  rw [h]
  simp
theorem far_end {W W2 W3 : World} {mb ob B k : Nat} {v v1 : Value} {o : Obj} (g2 : W.grownBy W2 (some mb)) (g3 : (W2.alloc o).grownBy W3 v.ownBlock) (hv : ∀ k, v.ownBlock = some k → B ≤ k) (hk : k < B) (hW : k < W.heap.size) (hm : k ≠ mb) (ho : k ≠ ob) : (W3.setCell ⟨ob, 0, none⟩ v1).heap[k]? = W.heap[k]? := by
  have h2 := g2.size
  refine (Below.heap_setCell _ _ _ _ ho).trans ((g3.block k (by rw [World.size_alloc]; omega) (fun e => by have := hv k e.symm; omega)).trans ((Below.heap_alloc _ _ _ (by omega)).trans (g2.block k hW (fun e => by cases e; exact hm rfl))))
section
variable {w0 W W2 W3 : World} {B ob xb mb db pb : Nat} {A C : Option Addr} {c kc m : Nat} {bs : List Int} {ps : List (Int × List Int)} {v : Value} {L : List Sl} {D D2 : DataW Unit} {m2 : Nat} {u : Value}
theorem IX.ob_ne (h : IX w0 B ob xb mb db pb A C c kc bs ps m W v L D) : ob ≠ mb := by
  obtain ⟨es, clock, hb, _⟩ := h.map
  exact fun e => by have := h.out; rw [e, hb] at this; cases this
theorem IX.rv (h : IX w0 B ob xb mb db pb A C c kc bs ps m W v L D) (hm : mb < B) (g2 : W.grownBy W2 (some mb)) : Rv W2 B v L :=
  h.im.row.keep (fun k hk => g2.block k (h.im.row.lt k hk) (fun e => by cases e; have := Kd.R_base h.im.row _ hk; omega))
theorem IX.rv_alloc (h : IX w0 B ob xb mb db pb A C c kc bs ps m W v L D) (hm : mb < B) (g2 : W.grownBy W2 (some mb)) (o : Obj) : (W2.alloc o).ownsRow B 24 1 v L.length (L.map Sl.val) :=
  own_of_Rv ((h.rv hm g2).keep (fun k hk => Below.heap_alloc _ _ _ (Rv.lt (h.rv hm g2) k hk)))
theorem IX.out2 (h : IX w0 B ob xb mb db pb A C c kc bs ps m W v L D) (hob : ob < B) (g2 : W.grownBy W2 (some mb)) {o : Obj} (g3 : (W2.alloc o).grownBy W3 v.ownBlock) : W3.heap[ob]? = some (.cells #[v] 31 (0, 0)) := by
  have h1 : W2.heap[ob]? = some (.cells #[v] 31 (0, 0)) := (g2.block ob (heap_lt_of h.out) (fun e => by cases e; exact h.ob_ne rfl)).trans h.out
  have h2 : (W2.alloc o).heap[ob]? = some (.cells #[v] 31 (0, 0)) := (Below.heap_alloc _ _ _ (heap_lt_of h1)).trans h1
  exact (g3.block ob (heap_lt_of h2) (fun e => by have := Kd.R_base h.im.row _ e.symm; omega)).trans h2
/-- The round's end for a new image. -/
theorem IX.added (h : IX w0 B ob xb mb db pb A C c kc bs ps m W v L D) (hlt : ob < B ∧ xb < B ∧ mb < B ∧ db < B ∧ pb < B) (hge : w0.heap.size ≤ ob ∧ w0.heap.size ≤ mb ∧ w0.heap.size ≤ B) {s : Sl}
    (hs : Rb W B s.val (img bs ps m)) (hn : s.n = (img bs ps m).length) (hfresh : ∀ (t g : Nat) (x : Sl), L[t]? = some x → x.val.ownBlock = some g → s.val.ownBlock ≠ some g)
    (hnew : img bs ps m ∉ uniq (img bs ps) m) {v1 : Value} (hmap : W2.ownsMap Try.prog 9 (plainElem Try.prog 3) mb (m + 1) (D.put (.string (str (img bs ps m))) (.lit (.int .i64 1))))
    (g2 : W.grownBy W2 (some mb)) {o : Obj} (ho : W3.ownsRow B 24 1 v1 (L.length + 1) (L.map Sl.val ++ [s.val])) (g3 : (W2.alloc o).grownBy W3 v.ownBlock) :
    IX w0 B ob xb mb db pb A C c kc bs ps (m + 1) (W3.setCell ⟨ob, 0, none⟩ v1) v1 (L ++ [s]) (D.put (.string (str (img bs ps m))) (.lit (.int .i64 1))) := by
  refine h.add hlt hge hs hn hfresh hnew hmap g2 (Rv_of_own (by simpa using ho)) ?_
  exact (World.grownBy_alloc W2 o v.ownBlock).trans g3
end
end Go.Proofs.Ytekgdlpicgibhab.EX
