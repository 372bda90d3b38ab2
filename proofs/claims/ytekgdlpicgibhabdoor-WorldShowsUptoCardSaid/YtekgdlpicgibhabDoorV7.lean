/-
  A call as the program writes it (play.written).
-/
import Derived.Test.YtekgdlpicgibhabDoorV5
import Derived.Test.YtekgdlpicgibhabDoorV6
import Derived.Lib.SmallJoins
namespace Go.Proofs.YtekgdlpicgibhabDoor.SH
open Go.RowKit Go.Proofs.YtekgdlpicgibhabDoorW.PrintWords PT PWorldShows

theorem fill_h (c : Cl) (ls : List UInt8) : fill c (ls ++ [104]) = { fill c ls with h := c.h } := by simp [fill]
theorem fill_i (c : Cl) (ls : List UInt8) : fill c (ls ++ [105]) = { fill c ls with h2 := c.h2 } := by simp [fill]
theorem fill_o (c : Cl) (ls : List UInt8) : fill c (ls ++ [111]) = { fill c ls with off := c.off } := by simp [fill]
theorem fill_l (c : Cl) (ls : List UInt8) : fill c (ls ++ [108]) = { fill c ls with len := c.len } := by simp [fill]
theorem fill_p (c : Cl) (ls : List UInt8) : fill c (ls ++ [112]) = { fill c ls with path := c.path } := by simp [fill]
theorem fill_n (c : Cl) (ls : List UInt8) : fill c (ls ++ [110]) = { fill c ls with name := c.name } := by simp [fill]
theorem fill_t (c : Cl) (ls : List UInt8) : fill c (ls ++ [50]) = { fill c ls with name2 := c.name2 } := by simp [fill]
theorem fill_d (c : Cl) (ls : List UInt8) : fill c (ls ++ [100]) = { fill c ls with data := c.data } := by simp [fill]
theorem formOf_len (op : Int) : (formOf op).length ≤ 4 := by
  unfold formOf
  repeat' split
  all_goals simp
theorem formOf_mem (op : Int) (l : UInt8) (h : l ∈ formOf op) : l = 112 ∨ l = 110 ∨ l = 50 ∨ l = 100 ∨ l = 104 ∨ l = 105 ∨ l = 111 ∨ l = 108 := by
  unfold formOf at h
  repeat' split at h
  all_goals (simp only [List.mem_cons, List.not_mem_nil, or_false] at h; first | (rcases h with rfl | rfl | rfl | rfl <;> decide) | (rcases h with rfl | rfl | rfl <;> decide) | (rcases h with rfl | rfl <;> decide) | (subst h; decide))
/-- The bytes are a form's last letter. -/
theorem data_last (op : Int) (k : Nat) (h : k < (formOf op).length) : ¬ 100 ∈ (formOf op).take k := by
  have h4 := formOf_len op
  have hk : k = 0 ∨ k = 1 ∨ k = 2 ∨ k = 3 := by omega
  revert h
  unfold formOf
  repeat' split
  all_goals (rcases hk with rfl | rfl | rfl | rfl <;> simp)

/-- What a round of written carries: the row of words, the copy of the call, its form, the call of the letters so far. -/
structure Wr (c : Cl) (A : Option Addr) (cap : Nat) (Fm : List UInt8) (Nm F : ByteArray) (w wr : World) (k : Nat) (v : Value) : Prop where
  own : wr.ownsRow w.heap.size 9 1 v (Nm :: (Fm.take k).map fun l => by_ (wordOf c l)).length (encs Value.string (Nm :: (Fm.take k).map fun l => by_ (wordOf c l)))
  b0 : wr.heap[w.heap.size]? = some (.cells (c.cells A cap).toArray 25 (0, 0))
  b1 : wr.heap[w.heap.size + 1]? = some (.cells #[.string Nm, .string F] 72 (0, 0))
  bel : Below w.heap.size w wr
/-- The call of the letters so far, and its bytes. -/
structure Br (c : Cl) (w wr : World) (ls : List UInt8) (A' : Option Addr) (cap' : Nat) : Prop where
  b3 : wr.heap[w.heap.size + 1 + 1 + 1]? = some (.cells ((fill c ls).cells A' cap').toArray 25 (0, 0))
  rd : Kd.C (Kd.int .u8) wr A' (fill c ls).data.length (fill c ls).data
  le : (fill c ls).data.length ≤ cap'
  none : ¬ 100 ∈ ls → A' = none ∧ cap' = 0

theorem blk_keep {wr W w1 : World} {base n : Nat} {v : Value} {xs : List Value} (hd : Below wr.heap.size wr W) (hg : W.grownBy w1 v.ownBlock) (ho : wr.ownsRow base 9 1 v n xs) {g : Nat} {cs : Array Value} {t : TypeId} {fr : Nat × Nat} (hb : wr.heap[g]? = some (.cells cs t fr)) (ht : t ≠ 9) :
    w1.heap[g]? = some (.cells cs t fr) := by
  have hlt : g < wr.heap.size := by
    rcases Nat.lt_or_ge g wr.heap.size with h' | h'
    · exact h'
    · rw [Array.getElem?_eq_none h'] at hb; cases hb
  refine (hg.block g (Nat.lt_of_lt_of_le hlt hd.size) (fun e => ?_)).trans ((hd.block g hlt).trans hb)
  obtain ⟨cs2, h2⟩ := own_typed ho g e.symm
  rw [hb] at h2
  injection h2 with h2
  injection h2 with _ h2
  exact ht h2
theorem Wr.size3 {c : Cl} {A : Option Addr} {cap : Nat} {Fm : List UInt8} {Nm F : ByteArray} {w wr : World} {k : Nat} {v : Value} (h : Wr c A cap Fm Nm F w wr k v) : w.heap.size + 1 + 1 ≤ wr.heap.size := by
  have hb := h.b1
  rcases Nat.lt_or_ge (w.heap.size + 1) wr.heap.size with h' | h'
  · exact h'
  · rw [Array.getElem?_eq_none h'] at hb; cases hb
theorem set_step0 {c : Cl} {A : Option Addr} {cap : Nat} {Fm : List UInt8} {Nm F : ByteArray} {w w1 : World} {k : Nat} {v1 : Value} {cs : Array Value} {j : Nat} {val : Value}
    (ho : w1.ownsRow w.heap.size 9 1 v1 (Nm :: (Fm.take k).map fun l => by_ (wordOf c l)).length (encs Value.string (Nm :: (Fm.take k).map fun l => by_ (wordOf c l)))) (hb1 : Below w.heap.size w w1)
    (B0 : w1.heap[w.heap.size]? = some (.cells (c.cells A cap).toArray 25 (0, 0))) (B1 : w1.heap[w.heap.size + 1]? = some (.cells #[.string Nm, .string F] 72 (0, 0))) (B3 : w1.heap[w.heap.size + 1 + 1 + 1]? = some (.cells cs 25 (0, 0)))
    (hcs : cs.setIfInBounds j val = ((fill c (Fm.take k)).cells none 0).toArray) (hd : (fill c (Fm.take k)).data = []) :
    Wr c A cap Fm Nm F w (w1.setCell ⟨w.heap.size + 1 + 1 + 1, j, none⟩ val) k v1 ∧ Br c w (w1.setCell ⟨w.heap.size + 1 + 1 + 1, j, none⟩ val) (Fm.take k) none 0 := by
  refine ⟨⟨own_move ho (fun g hg => Below.heap_setCell w1 _ val g (fun e => ?_)), (Below.heap_setCell w1 _ val _ (by show w.heap.size ≠ w.heap.size + 1 + 1 + 1; omega)).trans B0, (Below.heap_setCell w1 _ val _ (by show w.heap.size + 1 ≠ w.heap.size + 1 + 1 + 1; omega)).trans B1, hb1.setCell (by show w.heap.size ≤ w.heap.size + 1 + 1 + 1; omega) val⟩, ⟨?_, ?_, ?_, fun _ => ⟨rfl, rfl⟩⟩⟩
  · have e' : g = w.heap.size + 1 + 1 + 1 := e
    subst e'
    obtain ⟨cs2, h2⟩ := own_typed ho _ hg
    rw [B3] at h2
    injection h2 with h2
    injection h2 with _ h2
    exact absurd h2 (by decide)
  · rw [← hcs]; exact Go.Joins.block_setCell B3 val
  · rw [hd]; exact Kd.C_nil _ _
  · rw [hd]; exact Nat.zero_le _
theorem set_step {c : Cl} {A : Option Addr} {cap : Nat} {Fm : List UInt8} {Nm F : ByteArray} {w w1 : World} {k : Nat} {v1 : Value} {cs : Array Value} {j : Nat} {val : Value}
    (ho : w1.ownsRow w.heap.size 9 1 v1 (Nm :: (Fm.take k).map fun l => by_ (wordOf c l)).length (encs Value.string (Nm :: (Fm.take k).map fun l => by_ (wordOf c l)))) (hb1 : Below w.heap.size w w1)
    (B0 : w1.heap[w.heap.size]? = some (.cells (c.cells A cap).toArray 25 (0, 0))) (B1 : w1.heap[w.heap.size + 1]? = some (.cells #[.string Nm, .string F] 72 (0, 0))) (B3 : w1.heap[w.heap.size + 1 + 1 + 1]? = some (.cells cs 25 (0, 0)))
    (hcs : cs.setIfInBounds j val = ((fill c (Fm.take k)).cells none 0).toArray) (hd : (fill c (Fm.take k)).data = []) :
    Wr c A cap Fm Nm F w (w1.setCell ⟨w.heap.size + 1 + 1 + 1, j, none⟩ val).drew k v1 ∧ Br c w (w1.setCell ⟨w.heap.size + 1 + 1 + 1, j, none⟩ val).drew (Fm.take k) none 0 := by
  refine ⟨⟨own_move ho (fun g hg => Below.heap_setCell w1 _ val g (fun e => ?_)), (Below.heap_setCell w1 _ val _ (by show w.heap.size ≠ w.heap.size + 1 + 1 + 1; omega)).trans B0, (Below.heap_setCell w1 _ val _ (by show w.heap.size + 1 ≠ w.heap.size + 1 + 1 + 1; omega)).trans B1, below_drew (hb1.setCell (by show w.heap.size ≤ w.heap.size + 1 + 1 + 1; omega) val)⟩, ⟨?_, ?_, ?_, fun _ => ⟨rfl, rfl⟩⟩⟩
  · have e' : g = w.heap.size + 1 + 1 + 1 := e
    subst e'
    obtain ⟨cs2, h2⟩ := own_typed ho _ hg
    rw [B3] at h2
    injection h2 with h2
    injection h2 with _ h2
    exact absurd h2 (by decide)
  · rw [← hcs]; exact Go.Joins.block_setCell B3 val
  · rw [hd]; exact Kd.C_nil _ _
  · rw [hd]; exact Nat.zero_le _
theorem set_data {c : Cl} {A A' : Option Addr} {cap cap' : Nat} {Fm : List UInt8} {Nm F : ByteArray} {w w1 w2 : World} {k n : Nat} {v1 : Value} {cs : Array Value}
    (ho : w1.ownsRow w.heap.size 9 1 v1 (Nm :: (Fm.take k).map fun l => by_ (wordOf c l)).length (encs Value.string (Nm :: (Fm.take k).map fun l => by_ (wordOf c l)))) (hb1 : Below w.heap.size w w1)
    (B0 : w1.heap[w.heap.size]? = some (.cells (c.cells A cap).toArray 25 (0, 0))) (B1 : w1.heap[w.heap.size + 1]? = some (.cells #[.string Nm, .string F] 72 (0, 0))) (B3 : w1.heap[w.heap.size + 1 + 1 + 1]? = some (.cells cs 25 (0, 0)))
    (hb2 : Below w1.heap.size w1 w2) (hrd : Kd.C (Kd.int .u8) w2 A' n (fill c (Fm.take k)).data) (hA : ∀ ad, A' = some ad → w1.heap.size ≤ ad.block) (hn : n ≤ cap') (hl : (fill c (Fm.take k)).data.length = n) (h100 : 100 ∈ Fm.take k)
    (hcs : cs.setIfInBounds 8 (.slice A' n cap') = ((fill c (Fm.take k)).cells A' cap').toArray) :
    Wr c A cap Fm Nm F w (w2.setCell ⟨w.heap.size + 1 + 1 + 1, 8, none⟩ (.slice A' n cap')) k v1 ∧ Br c w (w2.setCell ⟨w.heap.size + 1 + 1 + 1, 8, none⟩ (.slice A' n cap')) (Fm.take k) A' cap' := by
  have lt : ∀ {g : Nat} {o : Obj}, w1.heap[g]? = some o → g < w1.heap.size := fun {g o} h => by
    rcases Nat.lt_or_ge g w1.heap.size with h' | h'
    · exact h'
    · rw [Array.getElem?_eq_none h'] at h; cases h
  have l3 := lt B3
  have C0 := (hb2.block _ (lt B0)).trans B0
  have C1 := (hb2.block _ (lt B1)).trans B1
  have C3 := (hb2.block _ l3).trans B3
  have ho2 := own_up ho hb2
  refine ⟨⟨own_move ho2 (fun g hg => Below.heap_setCell w2 _ _ g (fun e => ?_)), (Below.heap_setCell w2 _ _ _ (by show w.heap.size ≠ w.heap.size + 1 + 1 + 1; omega)).trans C0, (Below.heap_setCell w2 _ _ _ (by show w.heap.size + 1 ≠ w.heap.size + 1 + 1 + 1; omega)).trans C1, (below_then hb1 hb1.size hb2).setCell (by show w.heap.size ≤ w.heap.size + 1 + 1 + 1; omega) _⟩, ⟨?_, ?_, ?_, fun h => absurd h100 h⟩⟩
  · have e' : g = w.heap.size + 1 + 1 + 1 := e
    subst e'
    obtain ⟨cs2, h2⟩ := own_typed ho2 _ hg
    rw [C3] at h2
    injection h2 with h2
    injection h2 with _ h2
    exact absurd h2 (by decide)
  · rw [← hcs]; exact Go.Joins.block_setCell C3 _
  · rw [hl]
    exact Kd.C_keep (enc := Value.int .u8) (d := (0 : Int)) hrd ((KeepBut.refl w2 _ none).set_ 8 _) (fun ad e _ => by have := hA ad e; omega)
  · rw [hl]; exact hn
theorem equal_l0 (l0 l1 : List Int) (hl : l0.length = l1.length) (hm : l0.length ≤ 1048576) : ∀ (k i : Nat), i ≤ l0.length → l0.length - i < k → slices_Equal_byte_byte.l0 k l0 l1 (l0.length : Int) (i : Int) = some (decide (l0.drop i = l1.drop i)) := by
  intro k
  induction k with
  | zero => intro i _ h; omega
  | succ k ih =>
    intro i hi hk
    unfold slices_Equal_byte_byte.l0
    by_cases hlt : i < l0.length
    · have h1 : rd l0 (i : Int) = l0[i] := by simp [rd, hlt]
      have h2 : rd l1 (i : Int) = l1[i]'(by omega) := by simp [rd, show i < l1.length by omega]
      rw [if_pos (by omega), if_pos (by omega), if_pos (by omega), if_pos (by omega), h1, h2]
      have d0 : l0.drop i = l0[i] :: l0.drop (i + 1) := List.drop_eq_getElem_cons hlt
      have d1 : l1.drop i = l1[i]'(by omega) :: l1.drop (i + 1) := List.drop_eq_getElem_cons (by omega)
      by_cases he : l0[i] = l1[i]'(by omega)
      · rw [if_pos he]
        have hw : wrap64 ((i : Int) + 1) = ((i + 1 : Nat) : Int) := by unfold wrap64; omega
        rw [hw, ih (i + 1) hlt (by omega), d0, d1, he]
        simp only [List.cons.injEq, true_and]
      · rw [if_neg he, d0, d1]
        simp only [List.cons.injEq, he, false_and, decide_false]
    · rw [if_neg (by omega)]
      have : i = l0.length := by omega
      subst this
      rw [List.drop_length, hl, List.drop_length]
      simp
theorem equal_f (l0 l1 : List Int) (hm : l0.length ≤ 1048576) : slices_Equal_byte_byte.f (l0.length + 1) l0 l1 = some (decide (l0 = l1)) := by
  unfold slices_Equal_byte_byte.f
  by_cases hl : l0.length = l1.length
  · rw [if_pos (by omega)]
    have h := equal_l0 l0 l1 hl hm (l0.length + 1) 0 (Nat.zero_le _) (by omega)
    simpa using h
  · rw [if_neg (by omega)]
    have : l0 ≠ l1 := fun e => hl (by rw [e])
    simp [this]
theorem ba_ext {a b : ByteArray} (h : a.toList = b.toList) : a = b := by
  rw [ByteArray.toList_eq, ByteArray.toList_eq] at h
  cases a; cases b
  congr
  exact Array.ext' h
/-- same: are two calls the same? -/
theorem same_f (c d : Cl) (hm : c.data.length ≤ 1048576) : ∃ r, play_same.f (c.data.length + 1) c.op c.h c.h2 c.off c.len c.path c.name c.name2 c.data d.op d.h d.h2 d.off d.len d.path d.name d.name2 d.data = some r ∧ (r = true ↔ c = d) := by
  obtain ⟨op, h, h2, off, len, path, name, name2, data⟩ := c
  obtain ⟨op', h', h2', off', len', path', name', name2', data'⟩ := d
  simp only [play_same.f, equal_f data data' hm, Option.bind_some, Cl.mk.injEq]
  have no : ∀ {p : Prop}, ¬ p → ∃ r : Bool, some false = some r ∧ (r = true ↔ p) := fun hp => ⟨false, rfl, by simp [hp]⟩
  by_cases e1 : path.toList = path'.toList
  case neg => rw [if_neg e1]; exact no (fun h => e1 (by rw [h.2.2.2.2.2.1]))
  by_cases e2 : name.toList = name'.toList
  case neg => rw [if_pos e1, if_neg e2]; exact no (fun h => e2 (by rw [h.2.2.2.2.2.2.1]))
  by_cases e3 : name2.toList = name2'.toList
  case neg => rw [if_pos e1, if_pos e2, if_neg e3]; exact no (fun h => e3 (by rw [h.2.2.2.2.2.2.2.1]))
  by_cases e4 : data = data'
  case neg => rw [if_pos e1, if_pos e2, if_pos e3, if_neg (by simpa using e4)]; exact no (fun h => e4 h.2.2.2.2.2.2.2.2)
  rw [if_pos e1, if_pos e2, if_pos e3, if_pos (by simpa using e4)]
  have e1' := ba_ext e1
  have e2' := ba_ext e2
  have e3' := ba_ext e3
  by_cases e5 : op = op'
  case neg => rw [if_neg e5]; exact no (fun h => e5 h.1)
  by_cases e6 : h = h'
  case neg => rw [if_pos e5, if_neg e6]; exact no (fun h => e6 h.2.1)
  by_cases e7 : h2 = h2'
  case neg => rw [if_pos e5, if_pos e6, if_neg e7]; exact no (fun h => e7 h.2.2.1)
  by_cases e8 : off = off'
  case neg => rw [if_pos e5, if_pos e6, if_pos e7, if_neg e8]; exact no (fun h => e8 h.2.2.2.1)
  rw [if_pos e5, if_pos e6, if_pos e7, if_pos e8]
  exact ⟨_, rfl, by simp [e1', e2', e3', e4, e5, e6, e7, e8]⟩
/-- The words joined. -/
theorem join_words (op : Int) (c : Cl) (hop : c.op = op) (Nm : ByteArray) (hN : Nm = by_ (nameOf op)) (Fm : List UInt8) (hF : Fm = formOf op) :
    wordsT ((Nm :: Fm.map fun l => by_ (wordOf c l)).map Wd.txt) = textC c := by
  subst hop hN hF
  have h : ((by_ (nameOf c.op) :: (formOf c.op).map fun l => by_ (wordOf c l)).map Wd.txt).map (fun x => x.text.data.toList) = nameOf c.op :: (formOf c.op).map (wordOf c) := by
    simp [List.map_map, Function.comp_def, Wd.text, by_data]
  unfold wordsT
  rw [h, join_spaced]
  rfl
/-- Are the first k of the four numbers small? -/
def smallTo (c : Cl) (k : Nat) (b : Bool) : Prop := b = true ↔ ∀ x ∈ [c.h, c.h2, c.off, c.len].take k, numOk x
theorem smallTo_0 (c : Cl) : smallTo c 0 true := by simp [smallTo]
theorem smallTo_4 {c : Cl} {b : Bool} (h : smallTo c 4 b) : b = true ↔ smallC c := by
  rw [show (b = true ↔ smallC c) ↔ (b = true ↔ ∀ x ∈ [c.h, c.h2, c.off, c.len].take 4, numOk x) by simp [smallC]]
  exact h
theorem smallTo_no {c : Cl} {k : Nat} (h : smallTo c k false) : smallTo c (k + 1) false := by
  simp only [smallTo, Bool.false_eq_true, false_iff] at h ⊢
  intro hh
  exact h fun x hx => hh x ((List.take_subset_take_left _ (Nat.le_succ k)) hx)
theorem smallTo_step {c : Cl} {k : Nat} (h : smallTo c k true) (x : Int) (hx : [c.h, c.h2, c.off, c.len][k]? = some x) (b : Bool) (hb : b = true ↔ numOk x) : smallTo c (k + 1) b := by
  simp only [smallTo, true_iff] at h ⊢
  rw [hb, List.take_add_one, hx]
  constructor
  · intro hn y hy
    rcases List.mem_append.1 hy with hy | hy
    · exact h y hy
    · simp at hy; subst hy; exact hn
  · intro hh; exact hh x (by simp)

set_option maxRecDepth 100000 in
set_option maxHeartbeats 8000000 in
theorem written18 {B : Nat} (c : Cl) (A : Option Addr) (cap : Nat) (w : World) (hT : Tabs B w) (hB : B ≤ w.heap.size) (hc : ClIn w c A cap) (hdb : bytesOf (strOfNums c.data) = c.data) :
    Calls Tryd.prog 18 #[.agg (c.cells A cap).toArray] w fun e w' => ∃ (s : ByteArray) (n : Int), e = .returned (.tuple #[.string s, .int .i64 n]) ∧ (okC c ∧ n = 0 ∧ s = by_ (textC c) ∨ ¬ okC c ∧ n ≠ 0) ∧ Below w.heap.size w w' := by
  by_cases hop : opOk c
  · obtain ⟨h1, h10⟩ := hop
    have hcn := fun o => (hT.on_up hB (below_alloc (Below.refl _ w) o)).cn c.op.toNat (by omega) (by omega)
    have hcf := fun o => (hT.on_up hB (below_alloc (Below.refl _ w) o)).cf c.op.toNat (by omega) (by omega)
    rw [Int.toNat_of_nonneg (by omega)] at hcn hcf
    rw [Nat.mul_comm] at hcn hcf
    obtain ⟨Fm, hFm⟩ : ∃ Fm, Fm = formOf c.op := ⟨_, rfl⟩
    have hfl := formOf_len c.op
    have hmem := formOf_mem c.op
    have hdl := data_last c.op
    rw [← hFm] at hcf hfl hmem hdl
    obtain ⟨F, hF⟩ : ∃ F, F = by_ Fm := ⟨_, rfl⟩
    have hFs : F.size = Fm.length := by rw [hF, by_size]
    have hFx : ∀ k (h : k < F.size) (h' : k < Fm.length), F[k] = Fm[k] := fun k h h' => by subst hF; simp [by_]; rfl
    rw [← hF] at hcf
    obtain ⟨Nm, hNm⟩ : ∃ Nm, Nm = by_ (nameOf c.op) := ⟨_, rfl⟩
    rw [← hNm] at hcn
    have HDB := Lib.hid hdb
    have HT := Lib.hid hT
    have HB := Lib.hid hB
    have HC := Lib.hid hc
    have HF := Lib.hid hFm
    have HN := Lib.hid hNm
    have HM := Lib.hid hmem
    have HX := Lib.hid hFx
    have HD := Lib.hid hdl
    clear hT hB hc hFm hNm hF hmem hFx hdl hdb
    obtain ⟨op, h, h2, off, len, path, name, name2, data⟩ := c
    simp only [Cl.cells]
    simp only at h1 h10 hcn hcf
    have e1 : decide (op < 1) = false := decide_eq_false (by omega)
    have e2 : decide (11 ≤ op) = false := decide_eq_false (by omega)
    have e3 : decide (op < 11) = true := decide_eq_true (by omega)
    go_enter Tryd.func18, Tryd.ntmps18
    go_upto_region 7 with (fail)
    have hFb : F.size ≤ 4 := by omega
    go_wp2
    go_loopw [5, 34] (fun v i wr => ∃ (k : Nat) (A' : Option Addr) (cap' : Nat), k ≤ Fm.length ∧ i = .int .i64 k ∧ Wr ⟨op, h, h2, off, len, path, name, name2, data⟩ A cap Fm Nm F w wr k v ∧ Br ⟨op, h, h2, off, len, path, name, name2, data⟩ w wr (Fm.take k) A' cap') (fun _ i _ => Fm.length - (intOf i).toNat)
    case atStart =>
      have hA1 := below_alloc (Below.refl w.heap.size w) (.cells #[.int .i64 op, .int .i64 h, .int .i64 h2, .int .i64 off, .int .i64 len, .string path, .string name, .string name2, .slice A data.length cap] 25)
      have hA2 := below_alloc hA1 (.cells #[.string Nm, .string F] 72)
      have hA3 := below_alloc hA2 (.cells #[.string Nm] 9)
      refine ⟨0, none, 0, Nat.zero_le _, rfl, ⟨?_, ?_, ?_, ?_⟩, ⟨?_, Kd.C_nil _ _, Nat.zero_le _, fun _ => ⟨rfl, rfl⟩⟩⟩
      · have ho := own_lit_of (enc := Value.string) ((w.alloc (.cells #[.int .i64 op, .int .i64 h, .int .i64 h2, .int .i64 off, .int .i64 len, .string path, .string name, .string name2, .slice A data.length cap] 25)).alloc (.cells #[.string Nm, .string F] 72)) w.heap.size 9 [Nm] hA2.size (by simp)
        have ho2 := own_up ho (below_alloc (Below.refl _ _) (.cells #[.int .i64 op, .int .i64 0, .int .i64 0, .int .i64 0, .int .i64 0, .string ⟨#[]⟩, .string ⟨#[]⟩, .string ⟨#[]⟩, .slice none 0 0] 25))
        simp only [alloc_size] at ho2
        exact ho2
      · exact (((Go.heap_alloc_old _ _ (by simp only [alloc_size]; omega)).trans (Go.heap_alloc_old _ _ (by simp only [alloc_size]; omega))).trans (Go.heap_alloc_old _ _ (by simp only [alloc_size]; omega))).trans (Go.heap_alloc_new w _)
      · have hn := Go.heap_alloc_new (w.alloc (.cells #[.int .i64 op, .int .i64 h, .int .i64 h2, .int .i64 off, .int .i64 len, .string path, .string name, .string name2, .slice A data.length cap] 25)) (.cells #[.string Nm, .string F] 72)
        simp only [alloc_size] at hn
        exact ((Go.heap_alloc_old _ _ (by simp only [alloc_size]; omega)).trans (Go.heap_alloc_old _ _ (by simp only [alloc_size]; omega))).trans hn
      · exact below_alloc hA3 _
      · have hn := Go.heap_alloc_new (((w.alloc (.cells #[.int .i64 op, .int .i64 h, .int .i64 h2, .int .i64 off, .int .i64 len, .string path, .string name, .string name2, .slice A data.length cap] 25)).alloc (.cells #[.string Nm, .string F] 72)).alloc (.cells #[.string Nm] 9)) (.cells #[.int .i64 op, .int .i64 0, .int .i64 0, .int .i64 0, .int .i64 0, .string ⟨#[]⟩, .string ⟨#[]⟩, .string ⟨#[]⟩, .slice none 0 0] 25)
        simp only [alloc_size] at hn
        exact hn
    case round =>
      obtain ⟨k, A', cap', hk, rfl, hW, hBr⟩ := hrel
      have HW := Lib.hid hW
      have HR := Lib.hid hBr
      have z1 := cellB hW.b1 1
      obtain ⟨y0, y1, y2, y3, y4, y5, y6, y7, y8⟩ := cells9 hW.b0
      clear hW hBr
      by_cases hlt : k < Fm.length
      · have hx : ∀ h : k < F.size, ((F[k]'h).toNat : Int) = (Fm[k].toNat : Int) := fun h => by rw [HX.out k h hlt]
        have hlm := HM.out Fm[k] (List.getElem_mem hlt)
        have hnd := HD.out k hlt
        obtain ⟨rfl, rfl⟩ := HR.out.none hnd
        have htk : Fm.take (k + 1) = Fm.take k ++ [Fm[k]] := by rw [List.take_add_one, List.getElem?_eq_getElem hlt]; rfl
        obtain ⟨l, hl⟩ : ∃ l, l = Fm[k] := ⟨_, rfl⟩
        rw [← hl] at hx hlm htk
        have HTK := Lib.hid htk
        have HND := Lib.hid hnd
        clear hl htk hnd
        rcases hlm with rfl | rfl | rfl | rfl | rfl | rfl | rfl | rfl
        · have hx' : ∀ h : k < F.size, ((F[k]'h).toNat : Int) = 112 := hx
          clear hx
          have Hr := Lib.hid HC.out.path
          have Hrd := Lib.hid (HC.out.on HW.out.bel)
          go_upto_region 12 with (go_at_call 26; refine (cell26_t w.heap.size 112 (.inl rfl) _).mono ?_; rintro e w9 ⟨rfl, hw⟩; obtain rfl := hw.symm)
          go_cut [10] (fun v wx => v = .string path ∧ Below wr.heap.size wr wx)
          case first =>
            have hu25 := Tryd.underlying25
            go_region_with (go_at_call 27; go_loud (refine (play_told.calls op h h2 off len path name name2 A cap data 112 path _ (Kd.C_drew Hrd.out.rd) Hrd.out.cap rfl).mono ?_; rintro e w9 ⟨rfl, hd⟩))
            all_goals
              go_wp2_with fail
              go_meet
              exact ⟨rfl, below_then (below_drew (Below.refl _ wr)) (by simp) hd⟩
          case rest =>
            obtain ⟨rfl, hbx⟩ := hcut
            rename World => wx
            have HBX := Lib.hid hbx
            clear hbx z1 y0 y1 y2 y3 y4 y5 y6 y7 y8
            go_upto_region 14 with (first | (go_at_call 9; refine (text7 path _ Hr.out).mono ?_; rintro e w2 ⟨rfl, hd0⟩; have hd := below_then HBX.out HBX.out.size hd0; clear hd0) | (at_builtin; go_loud ((refine print_append_of Value.string w.heap.size rfl (.tmp 50) (.tmp 53) 52 9 (.string ⟨#[]⟩) 16 rfl Tryd.underlying52 info9 rfl (by decide) _ (Nm :: (Fm.take k).map fun l => by_ (wordOf ⟨op, h, h2, off, len, path, name, name2, data⟩ l)) (textOf path) rfl rfl rfl (own_up HW.out.own hd) (below_then HW.out.bel HW.out.bel.size hd) (Nat.le_trans HW.out.bel.size hd.size) (by simp; omega) ?_; intro v1 w1 ho hb1 hg _; have b0' := blk_keep hd hg HW.out.own HW.out.b0 (by decide); have b1' := blk_keep hd hg HW.out.own HW.out.b1 (by decide); have b3' := blk_keep hd hg HW.out.own HR.out.b3 (by decide); have z1' := cellB b1' 1))))
            have B0 := Lib.hid b0'
            have B1 := Lib.hid b1'
            have B3 := Lib.hid b3'
            clear b0' b1' b3'
            go_wp2_with (go_at_call 28; refine (put28_p (w.heap.size + 1 + 1 + 1) _ path _ B3.out rfl).mono ?_; rintro e w9 ⟨rfl, rfl⟩)
            go_roundw
            case rel =>
              have hw : (Nm :: (Fm.take (k + 1)).map fun l => by_ (wordOf ⟨op, h, h2, off, len, path, name, name2, data⟩ l)) = (Nm :: (Fm.take k).map fun l => by_ (wordOf ⟨op, h, h2, off, len, path, name, name2, data⟩ l)) ++ [textOf path] := by
                rw [HTK.out, List.map_append, ← by_toList (textOf path)]; rfl
              have hst := set_step0 (A := A) (cap := cap) (k := k + 1) (j := 5) (val := .string path) (by rw [hw]; exact ho) hb1 B0.out B1.out B3.out (by rw [HTK.out, fill_p]; rfl) (by rw [HTK.out]; simp [fill, HND.out])
              exact ⟨k + 1, none, 0, hlt, by go_num, hst.1, hst.2⟩
            case measure => simp [intOf]; omega
        · have hx' : ∀ h : k < F.size, ((F[k]'h).toNat : Int) = 110 := hx
          clear hx
          have Hr := Lib.hid HC.out.name
          have Hrd := Lib.hid (HC.out.on HW.out.bel)
          go_upto_region 12 with (go_at_call 26; refine (cell26_t w.heap.size 110 (.inr (.inl rfl)) _).mono ?_; rintro e w9 ⟨rfl, hw⟩; obtain rfl := hw.symm)
          go_cut [10] (fun v wx => v = .string name ∧ Below wr.heap.size wr wx)
          case first =>
            have hu25 := Tryd.underlying25
            go_region_with (go_at_call 27; go_loud (refine (play_told.calls op h h2 off len path name name2 A cap data 110 name _ (Kd.C_drew Hrd.out.rd) Hrd.out.cap rfl).mono ?_; rintro e w9 ⟨rfl, hd⟩))
            all_goals
              go_wp2_with fail
              go_meet
              exact ⟨rfl, below_then (below_drew (Below.refl _ wr)) (by simp) hd⟩
          case rest =>
            obtain ⟨rfl, hbx⟩ := hcut
            rename World => wx
            have HBX := Lib.hid hbx
            clear hbx z1 y0 y1 y2 y3 y4 y5 y6 y7 y8
            go_upto_region 14 with (first | (go_at_call 9; refine (text7 name _ Hr.out).mono ?_; rintro e w2 ⟨rfl, hd0⟩; have hd := below_then HBX.out HBX.out.size hd0; clear hd0) | (at_builtin; go_loud ((refine print_append_of Value.string w.heap.size rfl (.tmp 50) (.tmp 53) 52 9 (.string ⟨#[]⟩) 16 rfl Tryd.underlying52 info9 rfl (by decide) _ (Nm :: (Fm.take k).map fun l => by_ (wordOf ⟨op, h, h2, off, len, path, name, name2, data⟩ l)) (textOf name) rfl rfl rfl (own_up HW.out.own hd) (below_then HW.out.bel HW.out.bel.size hd) (Nat.le_trans HW.out.bel.size hd.size) (by simp; omega) ?_; intro v1 w1 ho hb1 hg _; have b0' := blk_keep hd hg HW.out.own HW.out.b0 (by decide); have b1' := blk_keep hd hg HW.out.own HW.out.b1 (by decide); have b3' := blk_keep hd hg HW.out.own HR.out.b3 (by decide); have z1' := cellB b1' 1))))
            have B0 := Lib.hid b0'
            have B1 := Lib.hid b1'
            have B3 := Lib.hid b3'
            clear b0' b1' b3'
            go_wp2_with (go_at_call 28; refine (put28_n (w.heap.size + 1 + 1 + 1) _ name _ B3.out rfl).mono ?_; rintro e w9 ⟨rfl, rfl⟩)
            go_roundw
            case rel =>
              have hw : (Nm :: (Fm.take (k + 1)).map fun l => by_ (wordOf ⟨op, h, h2, off, len, path, name, name2, data⟩ l)) = (Nm :: (Fm.take k).map fun l => by_ (wordOf ⟨op, h, h2, off, len, path, name, name2, data⟩ l)) ++ [textOf name] := by
                rw [HTK.out, List.map_append, ← by_toList (textOf name)]; rfl
              have hst := set_step0 (A := A) (cap := cap) (k := k + 1) (j := 6) (val := .string name) (by rw [hw]; exact ho) hb1 B0.out B1.out B3.out (by rw [HTK.out, fill_n]; rfl) (by rw [HTK.out]; simp [fill, HND.out])
              exact ⟨k + 1, none, 0, hlt, by go_num, hst.1, hst.2⟩
            case measure => simp [intOf]; omega
        · have hx' : ∀ h : k < F.size, ((F[k]'h).toNat : Int) = 50 := hx
          clear hx
          have Hr := Lib.hid HC.out.name2
          have Hrd := Lib.hid (HC.out.on HW.out.bel)
          go_upto_region 12 with (go_at_call 26; refine (cell26_t w.heap.size 50 (.inr (.inr (.inl rfl))) _).mono ?_; rintro e w9 ⟨rfl, hw⟩; obtain rfl := hw.symm)
          go_cut [10] (fun v wx => v = .string name2 ∧ Below wr.heap.size wr wx)
          case first =>
            have hu25 := Tryd.underlying25
            go_region_with (go_at_call 27; go_loud (refine (play_told.calls op h h2 off len path name name2 A cap data 50 name2 _ (Kd.C_drew Hrd.out.rd) Hrd.out.cap rfl).mono ?_; rintro e w9 ⟨rfl, hd⟩))
            all_goals
              go_wp2_with fail
              go_meet
              exact ⟨rfl, below_then (below_drew (Below.refl _ wr)) (by simp) hd⟩
          case rest =>
            obtain ⟨rfl, hbx⟩ := hcut
            rename World => wx
            have HBX := Lib.hid hbx
            clear hbx z1 y0 y1 y2 y3 y4 y5 y6 y7 y8
            go_upto_region 14 with (first | (go_at_call 9; refine (text7 name2 _ Hr.out).mono ?_; rintro e w2 ⟨rfl, hd0⟩; have hd := below_then HBX.out HBX.out.size hd0; clear hd0) | (at_builtin; go_loud ((refine print_append_of Value.string w.heap.size rfl (.tmp 50) (.tmp 53) 52 9 (.string ⟨#[]⟩) 16 rfl Tryd.underlying52 info9 rfl (by decide) _ (Nm :: (Fm.take k).map fun l => by_ (wordOf ⟨op, h, h2, off, len, path, name, name2, data⟩ l)) (textOf name2) rfl rfl rfl (own_up HW.out.own hd) (below_then HW.out.bel HW.out.bel.size hd) (Nat.le_trans HW.out.bel.size hd.size) (by simp; omega) ?_; intro v1 w1 ho hb1 hg _; have b0' := blk_keep hd hg HW.out.own HW.out.b0 (by decide); have b1' := blk_keep hd hg HW.out.own HW.out.b1 (by decide); have b3' := blk_keep hd hg HW.out.own HR.out.b3 (by decide); have z1' := cellB b1' 1))))
            have B0 := Lib.hid b0'
            have B1 := Lib.hid b1'
            have B3 := Lib.hid b3'
            clear b0' b1' b3'
            go_wp2_with (go_at_call 28; refine (put28_t (w.heap.size + 1 + 1 + 1) _ name2 _ B3.out rfl).mono ?_; rintro e w9 ⟨rfl, rfl⟩)
            go_roundw
            case rel =>
              have hw : (Nm :: (Fm.take (k + 1)).map fun l => by_ (wordOf ⟨op, h, h2, off, len, path, name, name2, data⟩ l)) = (Nm :: (Fm.take k).map fun l => by_ (wordOf ⟨op, h, h2, off, len, path, name, name2, data⟩ l)) ++ [textOf name2] := by
                rw [HTK.out, List.map_append, ← by_toList (textOf name2)]; rfl
              have hst := set_step0 (A := A) (cap := cap) (k := k + 1) (j := 7) (val := .string name2) (by rw [hw]; exact ho) hb1 B0.out B1.out B3.out (by rw [HTK.out, fill_t]; rfl) (by rw [HTK.out]; simp [fill, HND.out])
              exact ⟨k + 1, none, 0, hlt, by go_num, hst.1, hst.2⟩
            case measure => simp [intOf]; omega
        · have hx' : ∀ h : k < F.size, ((F[k]'h).toNat : Int) = 100 := hx
          clear hx
          have Hr := Lib.hid HC.out.data
          have Hrd := Lib.hid (HC.out.on HW.out.bel)
          go_upto_region 12 with (go_at_call 26; refine (cell26_t w.heap.size 100 (.inr (.inr (.inr rfl))) _).mono ?_; rintro e w9 ⟨rfl, hw⟩; obtain rfl := hw.symm)
          go_cut [10] (fun v wx => v = .string (strOfNums data) ∧ Below wr.heap.size wr wx)
          case first =>
            have hu25 := Tryd.underlying25
            go_region_with (go_at_call 27; go_loud (refine (play_told.calls op h h2 off len path name name2 A cap data 100 (strOfNums data) _ (Kd.C_drew Hrd.out.rd) Hrd.out.cap rfl).mono ?_; rintro e w9 ⟨rfl, hd⟩))
            all_goals
              go_wp2_with fail
              go_meet
              exact ⟨rfl, below_then (below_drew (Below.refl _ wr)) (by simp) hd⟩
          case rest =>
            obtain ⟨rfl, hbx⟩ := hcut
            rename World => wx
            have HBX := Lib.hid hbx
            clear hbx z1 y0 y1 y2 y3 y4 y5 y6 y7 y8
            go_upto_region 14 with (first | (go_at_call 9; refine (text7 (strOfNums data) _ (by rw [strOfNums_size]; exact Hr.out)).mono ?_; rintro e w2 ⟨rfl, hd0⟩; have hd := below_then HBX.out HBX.out.size hd0; clear hd0) | (at_builtin; go_loud ((refine print_append_of Value.string w.heap.size rfl (.tmp 50) (.tmp 53) 52 9 (.string ⟨#[]⟩) 16 rfl Tryd.underlying52 info9 rfl (by decide) _ (Nm :: (Fm.take k).map fun l => by_ (wordOf ⟨op, h, h2, off, len, path, name, name2, data⟩ l)) (textOf (strOfNums data)) rfl rfl rfl (own_up HW.out.own hd) (below_then HW.out.bel HW.out.bel.size hd) (Nat.le_trans HW.out.bel.size hd.size) (by simp; omega) ?_; intro v1 w1 ho hb1 hg _; have b0' := blk_keep hd hg HW.out.own HW.out.b0 (by decide); have b1' := blk_keep hd hg HW.out.own HW.out.b1 (by decide); have b3' := blk_keep hd hg HW.out.own HR.out.b3 (by decide); have z1' := cellB b1' 1))))
            have B0 := Lib.hid b0'
            have B1 := Lib.hid b1'
            have B3 := Lib.hid b3'
            clear b0' b1' b3'
            go_wp2_with (go_at_call 28; refine (put28_d (w.heap.size + 1 + 1 + 1) _ (strOfNums data) _ B3.out rfl (by rw [strOfNums_size]; exact Hr.out)).mono ?_; rintro e w9 ⟨rfl, A9, c9, w8, hb8, hrd8, hA8, hc8, rfl⟩; have HB8 := Lib.hid hb8; have HR8 := Lib.hid hrd8; have HA8 := Lib.hid hA8; have HC8 := Lib.hid hc8; clear hb8 hrd8 hA8 hc8)
            go_roundw
            case rel =>
              have hw : (Nm :: (Fm.take (k + 1)).map fun l => by_ (wordOf ⟨op, h, h2, off, len, path, name, name2, data⟩ l)) = (Nm :: (Fm.take k).map fun l => by_ (wordOf ⟨op, h, h2, off, len, path, name, name2, data⟩ l)) ++ [textOf (strOfNums data)] := by
                rw [HTK.out, List.map_append, ← by_toList (textOf (strOfNums data))]; rfl
              have hfd : (fill ⟨op, h, h2, off, len, path, name, name2, data⟩ (Fm.take (k + 1))).data = data := by rw [HTK.out, fill_d]
              have hst := set_data (A := A) (cap := cap) (k := k + 1) (by rw [hw]; exact ho) hb1 B0.out B1.out B3.out HB8.out (by rw [hfd]; have h8 := HR8.out; rw [HDB.out] at h8; exact h8) HA8.out HC8.out (by rw [hfd, strOfNums_size]) (by rw [HTK.out]; simp) (by rw [HTK.out, fill_d, strOfNums_size]; rfl)
              exact ⟨k + 1, A9, c9, hlt, by go_num, hst.1, hst.2⟩
            case measure => simp [intOf]; omega
        · have hx' : ∀ h : k < F.size, ((F[k]'h).toNat : Int) = 104 := hx
          clear hx
          have Hr := Lib.hid HC.out.h
          go_upto_region 16 with (first | (go_at_call 26; refine (cell26_h w.heap.size _).mono ?_; rintro e w' ⟨rfl, rfl⟩) | (go_at_call 16; refine (itoa16 h _ Hr.out (HT.out.on_up HB.out HW.out.bel)).mono ?_; rintro e w2 ⟨rfl, hd⟩) | (at_builtin; go_loud ((refine print_append_of Value.string w.heap.size rfl (.tmp 61) (.tmp 66) 52 9 (.string ⟨#[]⟩) 16 rfl Tryd.underlying52 info9 rfl (by decide) _ (Nm :: (Fm.take k).map fun l => by_ (wordOf ⟨op, h, h2, off, len, path, name, name2, data⟩ l)) (by_ (Lib.itoa h)) rfl rfl rfl (own_up HW.out.own hd) (below_then HW.out.bel HW.out.bel.size hd) (Nat.le_trans HW.out.bel.size hd.size) (by simp; omega) ?_; intro v1 w1 ho hb1 hg _; have b0' := blk_keep hd hg HW.out.own HW.out.b0 (by decide); have b1' := blk_keep hd hg HW.out.own HW.out.b1 (by decide); have b3' := blk_keep hd hg HW.out.own HR.out.b3 (by decide); have z1' := cellB b1' 1; have y1' := cellB b0' 1; have x3 := cellB b3' 1; have f3 := unfrozenB b3' 1; replace y1' : w1.cell? ⟨w.heap.size, 1, none⟩ = some (.int .i64 h) := y1'; replace x3 : w1.cell? ⟨w.heap.size + 1 + 1 + 1, 1, none⟩ = some (.int .i64 (fill ⟨op, h, h2, off, len, path, name, name2, data⟩ (Fm.take k)).h) := x3))))
          have B0 := Lib.hid b0'
          have B1 := Lib.hid b1'
          have B3 := Lib.hid b3'
          clear b0' b1' b3'
          go_region_with (go_at_call 26; refine (cell26_h (w.heap.size + 1 + 1 + 1) _).mono ?_; rintro e w9 ⟨rfl, rfl⟩)
          all_goals go_wp2
          all_goals
            go_roundw
            case rel =>
              have hw : (Nm :: (Fm.take (k + 1)).map fun l => by_ (wordOf ⟨op, h, h2, off, len, path, name, name2, data⟩ l)) = (Nm :: (Fm.take k).map fun l => by_ (wordOf ⟨op, h, h2, off, len, path, name, name2, data⟩ l)) ++ [by_ (Lib.itoa h)] := by
                rw [HTK.out, List.map_append]; rfl
              have hst := set_step (A := A) (cap := cap) (k := k + 1) (j := 1) (val := .int .i64 h) (by rw [hw]; exact ho) hb1 B0.out B1.out B3.out (by rw [HTK.out, fill_h]; rfl) (by rw [HTK.out]; simp [fill, HND.out])
              exact ⟨k + 1, none, 0, hlt, by go_num, hst.1, hst.2⟩
            case measure => simp [intOf]; omega
        · have hx' : ∀ h : k < F.size, ((F[k]'h).toNat : Int) = 105 := hx
          clear hx
          have Hr := Lib.hid HC.out.h2
          go_upto_region 16 with (first | (go_at_call 26; refine (cell26_i w.heap.size _).mono ?_; rintro e w' ⟨rfl, rfl⟩) | (go_at_call 16; refine (itoa16 h2 _ Hr.out (HT.out.on_up HB.out HW.out.bel)).mono ?_; rintro e w2 ⟨rfl, hd⟩) | (at_builtin; go_loud ((refine print_append_of Value.string w.heap.size rfl (.tmp 61) (.tmp 66) 52 9 (.string ⟨#[]⟩) 16 rfl Tryd.underlying52 info9 rfl (by decide) _ (Nm :: (Fm.take k).map fun l => by_ (wordOf ⟨op, h, h2, off, len, path, name, name2, data⟩ l)) (by_ (Lib.itoa h2)) rfl rfl rfl (own_up HW.out.own hd) (below_then HW.out.bel HW.out.bel.size hd) (Nat.le_trans HW.out.bel.size hd.size) (by simp; omega) ?_; intro v1 w1 ho hb1 hg _; have b0' := blk_keep hd hg HW.out.own HW.out.b0 (by decide); have b1' := blk_keep hd hg HW.out.own HW.out.b1 (by decide); have b3' := blk_keep hd hg HW.out.own HR.out.b3 (by decide); have z1' := cellB b1' 1; have y1' := cellB b0' 2; have x3 := cellB b3' 2; have f3 := unfrozenB b3' 2; replace y1' : w1.cell? ⟨w.heap.size, 2, none⟩ = some (.int .i64 h2) := y1'; replace x3 : w1.cell? ⟨w.heap.size + 1 + 1 + 1, 2, none⟩ = some (.int .i64 (fill ⟨op, h, h2, off, len, path, name, name2, data⟩ (Fm.take k)).h2) := x3))))
          have B0 := Lib.hid b0'
          have B1 := Lib.hid b1'
          have B3 := Lib.hid b3'
          clear b0' b1' b3'
          go_region_with (go_at_call 26; refine (cell26_i (w.heap.size + 1 + 1 + 1) _).mono ?_; rintro e w9 ⟨rfl, rfl⟩)
          all_goals go_wp2
          all_goals
            go_roundw
            case rel =>
              have hw : (Nm :: (Fm.take (k + 1)).map fun l => by_ (wordOf ⟨op, h, h2, off, len, path, name, name2, data⟩ l)) = (Nm :: (Fm.take k).map fun l => by_ (wordOf ⟨op, h, h2, off, len, path, name, name2, data⟩ l)) ++ [by_ (Lib.itoa h2)] := by
                rw [HTK.out, List.map_append]; rfl
              have hst := set_step (A := A) (cap := cap) (k := k + 1) (j := 2) (val := .int .i64 h2) (by rw [hw]; exact ho) hb1 B0.out B1.out B3.out (by rw [HTK.out, fill_i]; rfl) (by rw [HTK.out]; simp [fill, HND.out])
              exact ⟨k + 1, none, 0, hlt, by go_num, hst.1, hst.2⟩
            case measure => simp [intOf]; omega
        · have hx' : ∀ h : k < F.size, ((F[k]'h).toNat : Int) = 111 := hx
          clear hx
          have Hr := Lib.hid HC.out.off
          go_upto_region 16 with (first | (go_at_call 26; refine (cell26_o w.heap.size _).mono ?_; rintro e w' ⟨rfl, rfl⟩) | (go_at_call 16; refine (itoa16 off _ Hr.out (HT.out.on_up HB.out HW.out.bel)).mono ?_; rintro e w2 ⟨rfl, hd⟩) | (at_builtin; go_loud ((refine print_append_of Value.string w.heap.size rfl (.tmp 61) (.tmp 66) 52 9 (.string ⟨#[]⟩) 16 rfl Tryd.underlying52 info9 rfl (by decide) _ (Nm :: (Fm.take k).map fun l => by_ (wordOf ⟨op, h, h2, off, len, path, name, name2, data⟩ l)) (by_ (Lib.itoa off)) rfl rfl rfl (own_up HW.out.own hd) (below_then HW.out.bel HW.out.bel.size hd) (Nat.le_trans HW.out.bel.size hd.size) (by simp; omega) ?_; intro v1 w1 ho hb1 hg _; have b0' := blk_keep hd hg HW.out.own HW.out.b0 (by decide); have b1' := blk_keep hd hg HW.out.own HW.out.b1 (by decide); have b3' := blk_keep hd hg HW.out.own HR.out.b3 (by decide); have z1' := cellB b1' 1; have y1' := cellB b0' 3; have x3 := cellB b3' 3; have f3 := unfrozenB b3' 3; replace y1' : w1.cell? ⟨w.heap.size, 3, none⟩ = some (.int .i64 off) := y1'; replace x3 : w1.cell? ⟨w.heap.size + 1 + 1 + 1, 3, none⟩ = some (.int .i64 (fill ⟨op, h, h2, off, len, path, name, name2, data⟩ (Fm.take k)).off) := x3))))
          have B0 := Lib.hid b0'
          have B1 := Lib.hid b1'
          have B3 := Lib.hid b3'
          clear b0' b1' b3'
          go_region_with (go_at_call 26; refine (cell26_o (w.heap.size + 1 + 1 + 1) _).mono ?_; rintro e w9 ⟨rfl, rfl⟩)
          all_goals go_wp2
          all_goals
            go_roundw
            case rel =>
              have hw : (Nm :: (Fm.take (k + 1)).map fun l => by_ (wordOf ⟨op, h, h2, off, len, path, name, name2, data⟩ l)) = (Nm :: (Fm.take k).map fun l => by_ (wordOf ⟨op, h, h2, off, len, path, name, name2, data⟩ l)) ++ [by_ (Lib.itoa off)] := by
                rw [HTK.out, List.map_append]; rfl
              have hst := set_step (A := A) (cap := cap) (k := k + 1) (j := 3) (val := .int .i64 off) (by rw [hw]; exact ho) hb1 B0.out B1.out B3.out (by rw [HTK.out, fill_o]; rfl) (by rw [HTK.out]; simp [fill, HND.out])
              exact ⟨k + 1, none, 0, hlt, by go_num, hst.1, hst.2⟩
            case measure => simp [intOf]; omega
        · have hx' : ∀ h : k < F.size, ((F[k]'h).toNat : Int) = 108 := hx
          clear hx
          have Hr := Lib.hid HC.out.len
          go_upto_region 16 with (first | (go_at_call 26; refine (cell26_l w.heap.size _).mono ?_; rintro e w' ⟨rfl, rfl⟩) | (go_at_call 16; refine (itoa16 len _ Hr.out (HT.out.on_up HB.out HW.out.bel)).mono ?_; rintro e w2 ⟨rfl, hd⟩) | (at_builtin; go_loud ((refine print_append_of Value.string w.heap.size rfl (.tmp 61) (.tmp 66) 52 9 (.string ⟨#[]⟩) 16 rfl Tryd.underlying52 info9 rfl (by decide) _ (Nm :: (Fm.take k).map fun l => by_ (wordOf ⟨op, h, h2, off, len, path, name, name2, data⟩ l)) (by_ (Lib.itoa len)) rfl rfl rfl (own_up HW.out.own hd) (below_then HW.out.bel HW.out.bel.size hd) (Nat.le_trans HW.out.bel.size hd.size) (by simp; omega) ?_; intro v1 w1 ho hb1 hg _; have b0' := blk_keep hd hg HW.out.own HW.out.b0 (by decide); have b1' := blk_keep hd hg HW.out.own HW.out.b1 (by decide); have b3' := blk_keep hd hg HW.out.own HR.out.b3 (by decide); have z1' := cellB b1' 1; have y1' := cellB b0' 4; have x3 := cellB b3' 4; have f3 := unfrozenB b3' 4; replace y1' : w1.cell? ⟨w.heap.size, 4, none⟩ = some (.int .i64 len) := y1'; replace x3 : w1.cell? ⟨w.heap.size + 1 + 1 + 1, 4, none⟩ = some (.int .i64 (fill ⟨op, h, h2, off, len, path, name, name2, data⟩ (Fm.take k)).len) := x3))))
          have B0 := Lib.hid b0'
          have B1 := Lib.hid b1'
          have B3 := Lib.hid b3'
          clear b0' b1' b3'
          go_region_with (go_at_call 26; refine (cell26_l (w.heap.size + 1 + 1 + 1) _).mono ?_; rintro e w9 ⟨rfl, rfl⟩)
          all_goals go_wp2
          all_goals
            go_roundw
            case rel =>
              have hw : (Nm :: (Fm.take (k + 1)).map fun l => by_ (wordOf ⟨op, h, h2, off, len, path, name, name2, data⟩ l)) = (Nm :: (Fm.take k).map fun l => by_ (wordOf ⟨op, h, h2, off, len, path, name, name2, data⟩ l)) ++ [by_ (Lib.itoa len)] := by
                rw [HTK.out, List.map_append]; rfl
              have hst := set_step (A := A) (cap := cap) (k := k + 1) (j := 4) (val := .int .i64 len) (by rw [hw]; exact ho) hb1 B0.out B1.out B3.out (by rw [HTK.out, fill_l]; rfl) (by rw [HTK.out]; simp [fill, HND.out])
              exact ⟨k + 1, none, 0, hlt, by go_num, hst.1, hst.2⟩
            case measure => simp [intOf]; omega
      · obtain rfl : k = Fm.length := by omega
        have HC9 := Lib.hid (HC.out.on HW.out.bel)
        have hO := HW.out.own
        have hbb0 := HW.out.b0
        have hbb3 := HR.out.b3
        have Hrd3 := Lib.hid HR.out.rd
        have Hle3 := Lib.hid HR.out.le
        have Hbel := Lib.hid HW.out.bel
        rw [List.take_length] at hO hbb3 Hrd3 Hle3
        clear HW HR hk hlt
        have hjw := join_words op ⟨op, h, h2, off, len, path, name, name2, data⟩ rfl Nm HN.out Fm HF.out
        obtain ⟨xs, hxs⟩ : ∃ xs, xs = (Nm :: Fm.map fun l => by_ (wordOf ⟨op, h, h2, off, len, path, name, name2, data⟩ l)) := ⟨_, rfl⟩
        have hxl : xs.length ≤ 5 := by rw [hxs]; simp; omega
        have hxp : 0 < xs.length := by rw [hxs]; simp
        rw [← hxs] at hO hjw
        have hcells := fun g' hg' => hO.cells (g := g') hg'
        have hgl := own_lt hO
        obtain ⟨n5, hn5⟩ : ∃ n5, n5 = xs.length := ⟨_, rfl⟩
        have HOk := textC_le HC9.out
        rcases hO.2 with ⟨_, e⟩ | ⟨gb, cap0, cur, rfl, hgb, hh, hr⟩
        · omega
        have HJ : Hid (∀ W, Below wr.heap.size wr W → Calls Tryd.prog 17 #[.slice (some ⟨gb, 0, none⟩) n5 cap0, .string ⟨#[32]⟩] W fun e w' => e = .returned (.string (by_ (textC ⟨op, h, h2, off, len, path, name, name2, data⟩))) ∧ Below W.heap.size W w') := fun W hb => by
          have hj := join17 (xs.map Wd.txt) gb cap0 W (fun j x hx => by
            rw [cell_below hb _ (hgl gb rfl)]
            have hxx : xs[j]? = some x := by
              simp only [List.getElem?_map, Option.map_map, Option.map_eq_some_iff] at hx
              obtain ⟨y, hy, rfl⟩ := hx
              exact hy
            have h' := hcells gb rfl j (.string x) (by simp only [encs, List.getElem?_map]; rw [hxx]; rfl)
            rwa [add0] at h') (Nat.lt_of_lt_of_le (hgl gb rfl) hb.size) (by simp; omega) (by have := hr.1; simpa using this) (by rw [hjw]; omega)
          rw [hjw, List.length_map, ← hn5] at hj
          exact hj
        rw [← hn5]
        clear hO hcells hh hr hgb hgl hjw hxs hxl hxp hn5 HOk
        have hbl0 := hbb0
        obtain ⟨q0, q1, q2, q3, q4, q5, q6, q7, q8⟩ := cells9 hbb0
        have HB0 := Lib.hid hbb0
        have HB3 := Lib.hid hbb3
        clear hbb0 hbb3 hbl0 z1 y0 y1 y2 y3 y4 y5 y6 y7 y8 q0 q5 q6 q7 q8
        have i0 : ∀ w : World, (Instr.index 79 (.agg #[.int .i64 h, .int .i64 h2, .int .i64 off, .int .i64 len]) (.int .i64 0)).run Tryd.prog w = .ok (.int .i64 h) w := fun _ => by kernel_rfl
        have i1 : ∀ w : World, (Instr.index 79 (.agg #[.int .i64 h, .int .i64 h2, .int .i64 off, .int .i64 len]) (.int .i64 1)).run Tryd.prog w = .ok (.int .i64 h2) w := fun _ => by kernel_rfl
        have i2 : ∀ w : World, (Instr.index 79 (.agg #[.int .i64 h, .int .i64 h2, .int .i64 off, .int .i64 len]) (.int .i64 2)).run Tryd.prog w = .ok (.int .i64 off) w := fun _ => by kernel_rfl
        have i3 : ∀ w : World, (Instr.index 79 (.agg #[.int .i64 h, .int .i64 h2, .int .i64 off, .int .i64 len]) (.int .i64 3)).run Tryd.prog w = .ok (.int .i64 len) w := fun _ => by kernel_rfl
        go_wp2_with fail
        go_loop [7, 87] (fun sm i => ∃ (k2 : Nat) (b : Bool), k2 ≤ 4 ∧ i = .int .i64 k2 ∧ sm = .bool b ∧ smallTo ⟨op, h, h2, off, len, path, name, name2, data⟩ k2 b) (fun _ i => 4 - (intOf i).toNat)
        case atStart => exact ⟨0, true, by omega, rfl, rfl, smallTo_0 _⟩
        case round =>
          obtain ⟨k2, b, hk2, rfl, rfl, hb⟩ := hrel
          rcases (show k2 = 0 ∨ k2 = 1 ∨ k2 = 2 ∨ k2 = 3 ∨ k2 = 4 by omega) with rfl | rfl | rfl | rfl | rfl
          · cases b with
            | false =>
              go_wp2_with fail
              go_round
              case rel => exact ⟨1, false, by omega, rfl, rfl, smallTo_no hb⟩
              case measure => simp [intOf]
            | true =>
              by_cases g1 : 0 ≤ h
              · have d1 : decide (0 ≤ h) = true := decide_eq_true g1
                by_cases g2 : h ≤ 1073741824
                · have d2 : decide (h ≤ 1073741824) = true := decide_eq_true g2
                  go_wp2_with fail
                  go_round
                  case rel => exact ⟨1, true, by omega, rfl, rfl, smallTo_step hb h rfl true (by simp [numOk]; omega)⟩
                  case measure => simp [intOf]
                · have d2 : decide (h ≤ 1073741824) = false := decide_eq_false g2
                  go_wp2_with fail
                  go_round
                  case rel => exact ⟨1, false, by omega, rfl, rfl, smallTo_step hb h rfl false (by simp [numOk]; omega)⟩
                  case measure => simp [intOf]
              · have d1 : decide (0 ≤ h) = false := decide_eq_false g1
                go_wp2_with fail
                go_round
                case rel => exact ⟨1, false, by omega, rfl, rfl, smallTo_step hb h rfl false (by simp [numOk]; omega)⟩
                case measure => simp [intOf]
          · cases b with
            | false =>
              go_wp2_with fail
              go_round
              case rel => exact ⟨2, false, by omega, rfl, rfl, smallTo_no hb⟩
              case measure => simp [intOf]
            | true =>
              by_cases g1 : 0 ≤ h2
              · have d1 : decide (0 ≤ h2) = true := decide_eq_true g1
                by_cases g2 : h2 ≤ 1073741824
                · have d2 : decide (h2 ≤ 1073741824) = true := decide_eq_true g2
                  go_wp2_with fail
                  go_round
                  case rel => exact ⟨2, true, by omega, rfl, rfl, smallTo_step hb h2 rfl true (by simp [numOk]; omega)⟩
                  case measure => simp [intOf]
                · have d2 : decide (h2 ≤ 1073741824) = false := decide_eq_false g2
                  go_wp2_with fail
                  go_round
                  case rel => exact ⟨2, false, by omega, rfl, rfl, smallTo_step hb h2 rfl false (by simp [numOk]; omega)⟩
                  case measure => simp [intOf]
              · have d1 : decide (0 ≤ h2) = false := decide_eq_false g1
                go_wp2_with fail
                go_round
                case rel => exact ⟨2, false, by omega, rfl, rfl, smallTo_step hb h2 rfl false (by simp [numOk]; omega)⟩
                case measure => simp [intOf]
          · cases b with
            | false =>
              go_wp2_with fail
              go_round
              case rel => exact ⟨3, false, by omega, rfl, rfl, smallTo_no hb⟩
              case measure => simp [intOf]
            | true =>
              by_cases g1 : 0 ≤ off
              · have d1 : decide (0 ≤ off) = true := decide_eq_true g1
                by_cases g2 : off ≤ 1073741824
                · have d2 : decide (off ≤ 1073741824) = true := decide_eq_true g2
                  go_wp2_with fail
                  go_round
                  case rel => exact ⟨3, true, by omega, rfl, rfl, smallTo_step hb off rfl true (by simp [numOk]; omega)⟩
                  case measure => simp [intOf]
                · have d2 : decide (off ≤ 1073741824) = false := decide_eq_false g2
                  go_wp2_with fail
                  go_round
                  case rel => exact ⟨3, false, by omega, rfl, rfl, smallTo_step hb off rfl false (by simp [numOk]; omega)⟩
                  case measure => simp [intOf]
              · have d1 : decide (0 ≤ off) = false := decide_eq_false g1
                go_wp2_with fail
                go_round
                case rel => exact ⟨3, false, by omega, rfl, rfl, smallTo_step hb off rfl false (by simp [numOk]; omega)⟩
                case measure => simp [intOf]
          · cases b with
            | false =>
              go_wp2_with fail
              go_round
              case rel => exact ⟨4, false, by omega, rfl, rfl, smallTo_no hb⟩
              case measure => simp [intOf]
            | true =>
              by_cases g1 : 0 ≤ len
              · have d1 : decide (0 ≤ len) = true := decide_eq_true g1
                by_cases g2 : len ≤ 1073741824
                · have d2 : decide (len ≤ 1073741824) = true := decide_eq_true g2
                  go_wp2_with fail
                  go_round
                  case rel => exact ⟨4, true, by omega, rfl, rfl, smallTo_step hb len rfl true (by simp [numOk]; omega)⟩
                  case measure => simp [intOf]
                · have d2 : decide (len ≤ 1073741824) = false := decide_eq_false g2
                  go_wp2_with fail
                  go_round
                  case rel => exact ⟨4, false, by omega, rfl, rfl, smallTo_step hb len rfl false (by simp [numOk]; omega)⟩
                  case measure => simp [intOf]
              · have d1 : decide (0 ≤ len) = false := decide_eq_false g1
                go_wp2_with fail
                go_round
                case rel => exact ⟨4, false, by omega, rfl, rfl, smallTo_step hb len rfl false (by simp [numOk]; omega)⟩
                case measure => simp [intOf]
          · have hsm := smallTo_4 hb
            have HSM := Lib.hid hsm
            clear hb hsm i0 i1 i2 i3
            obtain ⟨d, hd⟩ : ∃ d, d = fill ⟨op, h, h2, off, len, path, name, name2, data⟩ Fm := ⟨_, rfl⟩
            rw [← hd] at HB3 Hrd3 Hle3
            have HDE := Lib.hid hd
            clear hd
            obtain ⟨r, hr1, hr2⟩ := same_f ⟨op, h, h2, off, len, path, name, name2, data⟩ d HC9.out.data
            have HR1 := Lib.hid hr1
            have HR2 := Lib.hid hr2
            clear hr1 hr2
            obtain ⟨op3, g3, j3, off3, len3, path3, name3, mame3, data3⟩ := d
            have hb3 : wr.heap[w.heap.size + 1 + 1 + 1]? = some (.cells #[.int .i64 op3, .int .i64 g3, .int .i64 j3, .int .i64 off3, .int .i64 len3, .string path3, .string name3, .string mame3, .slice A' data3.length cap'] 25 (0, 0)) := HB3.out
            have hb0 : wr.heap[w.heap.size]? = some (.cells #[.int .i64 op, .int .i64 h, .int .i64 h2, .int .i64 off, .int .i64 len, .string path, .string name, .string name2, .slice A data.length cap] 25 (0, 0)) := HB0.out
            have HX3 := Lib.hid hb3
            have HX0 := Lib.hid hb0
            clear hb3 hb0 HB3 HB0 q1 q2 q3 q4
            cases r with
            | false =>
              go_wp2_with (first | (refine wpList_load_row rfl 25 _ rfl w.heap.size rfl 25 _ _ _ HX0.out Tryd.underlying25 rfl (by kernel_rfl) ?_; go_simp) | (refine wpList_load_row rfl 25 _ rfl (w.heap.size + 1 + 1 + 1) rfl 25 _ _ _ HX3.out Tryd.underlying25 rfl (by kernel_rfl) ?_; go_simp) | (go_at_call 29; refine (play_same.calls (data.length + 1) op h h2 off len path name name2 A cap data op3 g3 j3 off3 len3 path3 name3 mame3 A' cap' data3 false _ HC9.out.rd HC9.out.cap Hrd3.out Hle3.out HR1.out).mono ?_; rintro e w9 ⟨rfl, hb9⟩))
              go_ret2
              exact ⟨_, 218, rfl, .inr ⟨fun hk => Bool.false_ne_true (HR2.out.2 (hk.2.1.trans (by rw [HDE.out, HF.out]))), by decide⟩, below_then Hbel.out Hbel.out.size hb9⟩
            | true =>
              cases b with
              | false =>
                go_wp2_with (first | (refine wpList_load_row rfl 25 _ rfl w.heap.size rfl 25 _ _ _ HX0.out Tryd.underlying25 rfl (by kernel_rfl) ?_; go_simp) | (refine wpList_load_row rfl 25 _ rfl (w.heap.size + 1 + 1 + 1) rfl 25 _ _ _ HX3.out Tryd.underlying25 rfl (by kernel_rfl) ?_; go_simp) | (go_at_call 29; refine (play_same.calls (data.length + 1) op h h2 off len path name name2 A cap data op3 g3 j3 off3 len3 path3 name3 mame3 A' cap' data3 true _ HC9.out.rd HC9.out.cap Hrd3.out Hle3.out HR1.out).mono ?_; rintro e w9 ⟨rfl, hb9⟩))
                go_ret2
                exact ⟨_, 213, rfl, .inr ⟨fun hk => Bool.false_ne_true (HSM.out.2 hk.2.2), by decide⟩, below_then Hbel.out Hbel.out.size hb9⟩
              | true =>
                go_wp2_with (first | (refine wpList_load_row rfl 25 _ rfl w.heap.size rfl 25 _ _ _ HX0.out Tryd.underlying25 rfl (by kernel_rfl) ?_; go_simp) | (refine wpList_load_row rfl 25 _ rfl (w.heap.size + 1 + 1 + 1) rfl 25 _ _ _ HX3.out Tryd.underlying25 rfl (by kernel_rfl) ?_; go_simp) | (go_at_call 29; refine (play_same.calls (data.length + 1) op h h2 off len path name name2 A cap data op3 g3 j3 off3 len3 path3 name3 mame3 A' cap' data3 true _ HC9.out.rd HC9.out.cap Hrd3.out Hle3.out HR1.out).mono ?_; rintro e w9 ⟨rfl, hb9⟩) | (go_at_call 17; refine (HJ.out _ hb9).mono ?_; rintro e w8 ⟨rfl, hb8⟩))
                go_ret2
                exact ⟨_, 0, rfl, .inl ⟨⟨⟨h1, h10⟩, (HR2.out.1 (by first | rfl | trivial)).trans (by rw [HDE.out, HF.out]), HSM.out.1 (by first | rfl | trivial)⟩, rfl, rfl⟩, below_then (below_then Hbel.out Hbel.out.size hb9) (Nat.le_trans Hbel.out.size hb9.size) hb8⟩
  · obtain ⟨op, h, h2, off, len, path, name, name2, data⟩ := c
    simp only [Cl.cells]
    simp only [opOk] at hop
    by_cases h1 : op < 1
    · have e1 : decide (op < 1) = true := decide_eq_true h1
      go_enter Tryd.func18, Tryd.ntmps18
      go_wp2
      go_ret2
      exact ⟨_, 212, rfl, .inr ⟨fun hk => absurd hk.1 hop, by decide⟩, below_alloc (Below.refl _ _) _⟩
    · have e1 : decide (op < 1) = false := decide_eq_false h1
      have e2 : decide (11 ≤ op) = true := decide_eq_true (by omega)
      go_enter Tryd.func18, Tryd.ntmps18
      go_wp2
      go_ret2
      exact ⟨_, 212, rfl, .inr ⟨fun hk => absurd hk.1 hop, by decide⟩, below_alloc (Below.refl _ _) _⟩
end Go.Proofs.YtekgdlpicgibhabDoor.SH
