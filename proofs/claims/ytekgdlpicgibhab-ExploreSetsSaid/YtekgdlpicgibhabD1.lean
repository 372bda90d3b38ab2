/-
  A device in memory: its fields, what it lasts and what pends; the lock; what stays.
-/
import Derived.Test.YtekgdlpicgibhabE20
import Derived.Test.YtekgdlpicgibhabLk
import Derived.Conc.MuLone
import Derived.Maps.OwnSet
import Derived.Laws.CopyOwn
namespace Go.Proofs.Ytekgdlpicgibhab.EX
open Go.RowKit Go.Proofs.YtekgdlpicgibhabW.PrintWords Go.MuLone

def anyR (_ : Value) : Option (DataW Unit × List MemPlace) := some (.nil, [])
/-- A device: its lock's state is lk; it lasts D; P pends. -/
structure Dev (w : World) (lk : Int) (b g mb m : Nat) (vd vP : Value) (T : List (Int × Sl)) (D : List Int) (P : List (Int × List Int)) : Prop where
  blk : ∃ s, w.heap[g]? = some (.cells #[.int .i32 lk, .int .u32 s, vd, vP, .map (some mb), .bool false, .int .i64 0] 87 (0, 0))
  gb : b ≤ g
  map : ∃ X, w.ownsMap (H := Unit) Try.prog 3 anyR mb m X
  mbb : b ≤ mb
  d : Rb w b vd D
  row : Rq w b vP T
  len : T.length = P.length
  at_ : ∀ (k : Nat) (x : Int × Sl) (p : Int × List Int), T[k]? = some x → P[k]? = some p → x.1 = p.1 ∧ x.2.n = p.2.length ∧ Rb w b x.2.val p.2
  apart : ∀ (k j : Nat) (x : Int × Sl), T[k]? = some x → x.2.val.ownBlock = some j → vd.ownBlock ≠ some j
/-- The blocks that a device's calls write. -/
def devS (g mb : Nat) (vd vP : Value) (k : Nat) : Prop := k = g ∨ k = mb ∨ vd.ownBlock = some k ∨ vP.ownBlock = some k
section
variable {w w1 : World} {lk : Int} {b g mb m : Nat} {vd vP : Value} {T : List (Int × Sl)} {D : List Int} {P : List (Int × List Int)}
theorem ownsMap_keep {X : DataW Unit} (h : w.ownsMap Try.prog 3 anyR mb m X) (hk : w1.heap[mb]? = w.heap[mb]?) : w1.ownsMap Try.prog 3 anyR mb m X := by
  obtain ⟨es, clock, hb, F, hs, hD⟩ := h
  exact ⟨es, clock, hk.trans hb, F, hs, hD⟩
theorem Dev.mblk (h : Dev w lk b g mb m vd vP T D P) : ∃ es c, w.heap[mb]? = some (.map es c) := by
  obtain ⟨X, es, clock, hb, _⟩ := h.map
  exact ⟨es, clock, hb⟩
theorem Dev.lt (h : Dev w lk b g mb m vd vP T D P) : ∀ k, devS g mb vd vP k → b ≤ k ∧ k < w.heap.size := fun k hk => by
  rcases hk with rfl | rfl | hk | hk
  · obtain ⟨s, hs⟩ := h.blk
    exact ⟨h.gb, heap_lt_of hs⟩
  · obtain ⟨es, c, hs⟩ := h.mblk
    exact ⟨h.mbb, heap_lt_of hs⟩
  · exact ⟨h.d.base k hk, h.d.lt k hk⟩
  · exact ⟨Kd.R_base h.row k hk, Kd.R_lt h.row k hk⟩
/-- All that is the device's stays. -/
theorem Dev.only (h : Dev w lk b g mb m vd vP T D P) {S : Nat → Prop} (ho : Only S w w1) (hS : ∀ k, b ≤ k → k < w.heap.size → ¬ S k) : Dev w1 lk b g mb m vd vP T D P where
  blk := by
    obtain ⟨s, hs⟩ := h.blk
    exact ⟨s, (ho.block g (heap_lt_of hs) (hS g h.gb (heap_lt_of hs))).trans hs⟩
  gb := h.gb
  map := by
    obtain ⟨es, c, hs⟩ := h.mblk
    obtain ⟨X, hX⟩ := h.map
    exact ⟨X, ownsMap_keep hX (ho.block mb (heap_lt_of hs) (hS mb h.mbb (heap_lt_of hs)))⟩
  mbb := h.mbb
  d := h.d.keep (fun k hk => ho.block k (h.d.lt k hk) (hS k (h.d.base k hk) (h.d.lt k hk)))
  row := h.row.keep (fun k hk => ho.block k (Kd.R_lt h.row k hk) (hS k (Kd.R_base h.row k hk) (Kd.R_lt h.row k hk)))
  len := h.len
  at_ := fun k x p hx hp => by
    obtain ⟨h1, h2, h3⟩ := h.at_ k x p hx hp
    exact ⟨h1, h2, h3.keep (fun j hj => ho.block j (h3.lt j hj) (hS j (h3.base j hj) (h3.lt j hj)))⟩
  apart := h.apart
theorem Dev.below (h : Dev w lk b g mb m vd vP T D P) (hb : Below w.heap.size w w1) : Dev w1 lk b g mb m vd vP T D P :=
  h.only (Only.of_below hb (fun _ => False)) (fun _ _ _ h => h)
theorem Dev.g_ne (h : Dev w lk b g mb m vd vP T D P) : g ≠ mb := fun e => by
  obtain ⟨s, hs⟩ := h.blk
  obtain ⟨es, c, hm⟩ := h.mblk
  rw [e, hm] at hs
  cases hs
theorem Dev.typ (h : Dev w lk b g mb m vd vP T D P) : ∃ cs, w.heap[g]? = some (.cells cs 87 (0, 0)) := by
  obtain ⟨s, hs⟩ := h.blk
  exact ⟨_, hs⟩
/-- A field is written. -/
theorem Dev.field (h : Dev w lk b g mb m vd vP T D P) {i : Nat} {u : Value} {lk' : Int} {vd' vP' : Value}
    (hset : ∀ s, (#[.int .i32 lk, .int .u32 s, vd, vP, .map (some mb), .bool false, .int .i64 0] : Array Value).setIfInBounds i u = #[.int .i32 lk', .int .u32 s, vd', vP', .map (some mb), .bool false, .int .i64 0])
    (hd : vd' = vd) {T' : List (Int × Sl)} {P' : List (Int × List Int)} (hrow : Rq w b vP' T') (hlen : T'.length = P'.length) (hrg : vP'.ownBlock ≠ some g)
    (hat : ∀ (k : Nat) (x : Int × Sl) (p : Int × List Int), T'[k]? = some x → P'[k]? = some p → x.1 = p.1 ∧ x.2.n = p.2.length ∧ Rb w b x.2.val p.2)
    (hap : ∀ (k j : Nat) (x : Int × Sl), T'[k]? = some x → x.2.val.ownBlock = some j → vd.ownBlock ≠ some j) : Dev (w.setCell ⟨g, i, none⟩ u) lk' b g mb m vd' vP' T' D P' := by
  subst hd
  have ho : Only (fun q => q = g) w (w.setCell ⟨g, i, none⟩ u) := Only.setCell w ⟨g, i, none⟩ u
  obtain ⟨cs, hg⟩ := h.typ
  have nb : ∀ {v : Value} {xs : List Int} (hv : Rb w b v xs) k, v.ownBlock = some k → k ≠ g := fun hv k hk e => by
    obtain ⟨c1, h1⟩ := Kd.R_typed hv k hk
    exact cells_ne h1 hg (by decide) e
  refine ⟨?_, h.gb, ?_, h.mbb, h.d.keep (fun k hk => ho.block k (h.d.lt k hk) (nb h.d k hk)), hrow.keep (fun k hk => ho.block k (Kd.R_lt hrow k hk) (fun e => hrg (by rw [hk]; exact congrArg some e))), hlen, fun k x p hx hp => ?_, hap⟩
  · obtain ⟨s, hs⟩ := h.blk
    refine ⟨s, ?_⟩
    rw [← hset s]
    exact heap_setCell_same w g i _ _ u hs
  · obtain ⟨es, c, hs⟩ := h.mblk
    obtain ⟨X, hX⟩ := h.map
    exact ⟨X, ownsMap_keep hX (ho.block mb (heap_lt_of hs) (fun e => h.g_ne e.symm))⟩
  · obtain ⟨h1, h2, h3⟩ := hat k x p hx hp
    exact ⟨h1, h2, h3.keep (fun j hj => ho.block j (h3.lt j hj) (nb h3 j hj))⟩
theorem Dev.row_ne (h : Dev w lk b g mb m vd vP T D P) : vP.ownBlock ≠ some g := fun e => by
  obtain ⟨cs, hg⟩ := h.typ
  obtain ⟨c1, h1⟩ := Kd.R_typed h.row g e
  exact cells_ne h1 hg (by decide) rfl
theorem Dev.lock (h : Dev w lk b g mb m vd vP T D P) (lk' : Int) : Dev (w.setCell ⟨g, 0, none⟩ (.int .i32 lk')) lk' b g mb m vd vP T D P :=
  h.field (fun _ => rfl) rfl h.row h.len h.row_ne h.at_ h.apart
theorem Dev.pend (h : Dev w lk b g mb m vd vP T D P) {vP' : Value} {T' : List (Int × Sl)} {P' : List (Int × List Int)} (hrow : Rq w b vP' T') (hlen : T'.length = P'.length)
    (hat : ∀ (k : Nat) (x : Int × Sl) (p : Int × List Int), T'[k]? = some x → P'[k]? = some p → x.1 = p.1 ∧ x.2.n = p.2.length ∧ Rb w b x.2.val p.2)
    (hap : ∀ (k j : Nat) (x : Int × Sl), T'[k]? = some x → x.2.val.ownBlock = some j → vd.ownBlock ≠ some j) : Dev (w.setCell ⟨g, 3, none⟩ vP') lk b g mb m vd vP' T' D P' := by
  refine h.field (fun _ => rfl) rfl hrow hlen (fun e => ?_) hat hap
  obtain ⟨cs, hg⟩ := h.typ
  obtain ⟨c1, h1⟩ := Kd.R_typed hrow g e
  exact cells_ne h1 hg (by decide) rfl
theorem Dev.cells (h : Dev w lk b g mb m vd vP T D P) : w.cell? ⟨g, 0, none⟩ = some (.int .i32 lk) ∧ w.cell? ⟨g, 2, none⟩ = some vd ∧ w.cell? ⟨g, 3, none⟩ = some vP ∧ w.cell? ⟨g, 4, none⟩ = some (.map (some mb)) ∧
    w.cell? ⟨g, 5, none⟩ = some (.bool false) ∧ w.cell? ⟨g, 6, none⟩ = some (.int .i64 0) ∧ ∀ i, w.frozen? ⟨g, i, none⟩ = false := by
  obtain ⟨s, hs⟩ := h.blk
  exact ⟨(blk_cell hs 0).trans rfl, (blk_cell hs 2).trans rfl, (blk_cell hs 3).trans rfl, (blk_cell hs 4).trans rfl, (blk_cell hs 5).trans rfl, (blk_cell hs 6).trans rfl, fun i => not_frozen hs i⟩
theorem Dev.slices (h : Dev w lk b g mb m vd vP T D P) : ∃ A c A' c', vd = .slice A D.length c ∧ vP = .slice A' P.length c' := by
  obtain ⟨A, c, e⟩ := Kd.R_slice h.d
  obtain ⟨A', c', e'⟩ := Kd.R_slice h.row
  exact ⟨A, c, A', c', e, by rw [e', h.len]⟩
theorem only_lock (w : World) (g : Nat) (u : Value) {mb : Nat} {vd vP : Value} (i : Nat := 0) : Only (devS g mb vd vP) w (w.setCell ⟨g, i, none⟩ u) :=
  (Only.setCell w ⟨g, i, none⟩ u).mono (fun _ e => .inl e)
theorem Only.set (h : Only (devS g mb vd vP) w w1) (i : Nat) (u : Value) : Only (devS g mb vd vP) w (w1.setCell ⟨g, i, none⟩ u) := h.trans (only_lock w1 g u (mb := mb) (vd := vd) (vP := vP) i) (fun _ hk => .inl hk)
theorem Only.then_below {w2 : World} {S : Nat → Prop} (h : Only S w w1) (hb : Below w1.heap.size w1 w2) : Only S w w2 := h.trans (Only.of_below hb (fun _ => False)) (fun _ h => h.elim)
theorem Rb.set {v : Value} {xs : List Int} {b0 : Nat} (h : Rb w b0 v xs) {g i : Nat} {cs : Array Value} {t : Nat} (hg : w.heap[g]? = some (.cells cs t (0, 0))) (ht : t ≠ 5) (u : Value) : Rb (w.setCell ⟨g, i, none⟩ u) b0 v xs :=
  h.keep (fun k hk => Below.heap_setCell _ _ _ _ (fun e => by
    have e' : k = g := e
    subst e'
    obtain ⟨c1, h1⟩ := Kd.R_typed h k hk
    exact cells_ne h1 hg (fun e => ht e.symm) rfl))
/-- A new device. -/
theorem made_dev {A : Option Addr} {n cap b0 : Nat} {D0 : List Int} (hd : Rb w b0 (.slice A n cap) D0) (hb0 : b0 ≤ w.heap.size) :
    Calls Try.prog 40 #[.slice A n cap] w fun e w' => ∃ g mb, e = .returned (.pointer (some ⟨g, 0, none⟩)) ∧ Below w.heap.size w w' ∧ Dev w' 0 b0 g mb 0 (.slice A n cap) (.slice none 0 0) [] D0 [] := by
  have hmm := @run_makeMap Try.prog
  have HD := Lib.hid hd
  clear hd
  go_enter Try.func40, Try.ntmps40
  go_wp2
  go_ret
  have hb : Below w.heap.size w ((w.alloc (.map #[] 0)).alloc (.cells #[.int .i32 0, .int .u32 0, .slice A n cap, .slice none 0 0, .map (some w.heap.size), .bool false, .int .i64 0] 87)) := below_alloc (below_alloc (Below.refl _ _) _) _
  refine ⟨w.heap.size + 1, w.heap.size, rfl, hb, ⟨⟨0, ?_⟩, by omega, ⟨.map [], ?_⟩, hb0, HD.out.below hb, Kd.R_nil _ _ _ _ _, rfl, fun k x p hx => by simp at hx, fun k j x hx => by simp at hx⟩⟩
  · have h := heap_alloc_new (w.alloc (.map #[] 0)) (.cells #[.int .i32 0, .int .u32 0, .slice A n cap, .slice none 0 0, .map (some w.heap.size), .bool false, .int .i64 0] 87)
    rw [World.size_alloc] at h
    exact h
  · exact ownsMap_keep (w := w.alloc (.map #[] 0)) (World.ownsMap_made _ _ _ _) (Below.heap_alloc _ _ _ (by simp))
set_option maxRecDepth 100000 in
theorem durable_any (h : Dev w 0 b g mb m vd vP T D P) (hl : D.length ≤ 1099511627776) :
    Calls Try.prog 25 #[.pointer (some ⟨g, 0, none⟩)] w fun e w' => ∃ v, e = .returned v ∧ Rb w' w.heap.size v D ∧ Dev w' 0 b g mb m vd vP T D P ∧ Only (devS g mb vd vP) w w' := by
  obtain ⟨A, c, A', c', e1, e2⟩ := h.slices
  obtain ⟨z0, z2, z3, z4, z5, z6, hf⟩ := h.cells
  have f0 := hf 0
  have H1 := Lib.hid (h.lock 1)
  have H := Lib.hid h
  obtain ⟨w1, hw1⟩ : ∃ w1, w.setCell ⟨g, 0, none⟩ (.int .i32 1) = w1 := ⟨_, rfl⟩
  have HO1 : Hid (Only (devS g mb vd vP) w w1) := by show Only _ _ _; rw [← hw1]; exact only_lock w g _
  rw [hw1] at H1
  have HW := Lib.hid hw1
  obtain ⟨_, y2, _⟩ := H1.out.cells
  have HRd := Lib.hid H1.out.d.rd
  rw [e1] at y2 HRd
  have HE := Lib.hid e1
  clear h hf hw1 e1 e2 z2 z3 z4 z5 z6
  go_enter_defers Try.func25, Try.ntmps25
  go_wp2_with (go_at_call 41; refine (lock_free muLib ⟨g, 0, none⟩ _ z0 f0).mono ?_; rintro e w' ⟨rfl, rfl⟩; rw [HW.out])
  refine (clone_any HRd.out hl).mono ?_
  rintro e w2 ⟨v, rfl, hR2, hb2⟩
  have HR2 := Lib.hid hR2
  have HD2 := Lib.hid (H1.out.below hb2)
  have HB2 := Lib.hid hb2
  obtain ⟨y0, _, _, _, _, _, yf⟩ := (H1.out.below hb2).cells
  have yf0 := yf 0
  clear hR2 hb2 yf
  go_wp2
  refine leaves_cons (f := 42) (args := #[.pointer (some ⟨g, 0, none⟩)]) (by simp) (by simp [go_sem]) ?_
  refine (unlock_deferred muLib ⟨g, 0, none⟩ .returning _ y0 yf0).mono ?_
  rintro e u' w'' ⟨rfl, rfl, rfl⟩
  refine ⟨_, results_tmp rfl _ _ _, v, rfl, ?_, HD2.out.lock 0, (HO1.out.then_below HB2.out).set 0 _⟩
  obtain ⟨cs, hg⟩ := HD2.out.typ
  exact (HR2.out.lower HO1.out.size).set hg (by decide) _
end
end Go.Proofs.Ytekgdlpicgibhab.EX
