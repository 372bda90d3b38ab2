/-
  What holds between the rounds of ExploreOwns: the arguments in place, the answers kept, the copies.
-/
import Derived.Test.YtekgdlpicgibhabE20
namespace Go.Proofs.Ytekgdlpicgibhab.EX
open Go.RowKit Go.Proofs.YtekgdlpicgibhabW.PrintWords

def ApartL (L : List Sl) : Prop := ∀ (t t' g : Nat) (x x' : Sl), L[t]? = some x → L[t']? = some x' → x.val.ownBlock = some g → x'.val.ownBlock = some g → t = t'
theorem ApartL.append {L L' : List Sl} (h : ApartL L) (h' : ApartL L') (hd : ∀ (x x' : Sl) (g : Nat), x ∈ L → x' ∈ L' → x.val.ownBlock = some g → x'.val.ownBlock ≠ some g) : ApartL (L ++ L') := fun t t' g x x' hx hx' e e' => by
  by_cases ht : t < L.length <;> by_cases ht' : t' < L.length
  · rw [List.getElem?_append_left ht] at hx
    rw [List.getElem?_append_left ht'] at hx'
    exact h t t' g x x' hx hx' e e'
  · rw [List.getElem?_append_left ht] at hx
    rw [List.getElem?_append_right (by omega)] at hx'
    exact (hd x x' g (List.mem_of_getElem? hx) (List.mem_of_getElem? hx') e e').elim
  · rw [List.getElem?_append_left ht'] at hx'
    rw [List.getElem?_append_right (by omega)] at hx
    exact (hd x' x g (List.mem_of_getElem? hx') (List.mem_of_getElem? hx) e' e).elim
  · rw [List.getElem?_append_right (by omega)] at hx hx'
    have := h' _ _ g x x' hx hx' e e'
    omega

/-- The bytes and the writes, in memory below B. -/
structure OD (W : World) (b0 b1 B : Nat) (vd vp : Value) (T : List (Int × Sl)) (bs : List Int) (ps : List (Int × List Int)) : Prop where
  d : Rb W b0 vd bs
  dlt : ∀ k, vd.ownBlock = some k → k < b1
  p : TwA W b1 vp T ps
  plt : ∀ k, vp.ownBlock = some k → k < B
  tlt : ∀ (t : Nat) (x : Int × Sl) (k : Nat), T[t]? = some x → x.2.val.ownBlock = some k → k < B
  le : b1 ≤ B
section
variable {W W1 : World} {b0 b1 B : Nat} {vd vp : Value} {T : List (Int × Sl)} {bs : List Int} {ps : List (Int × List Int)}
theorem OD.only (h : OD W b0 b1 B vd vp T bs ps) {S : Nat → Prop} (ho : Only S W W1) (hS : ∀ k, k < B → ¬ S k) : OD W1 b0 b1 B vd vp T bs ps where
  d := h.d.keep (fun k hk => ho.block k (h.d.lt k hk) (hS k (by have := h.dlt k hk; have := h.le; omega)))
  dlt := h.dlt
  p := ⟨⟨h.p.row.keep (fun k hk => ho.block k (Kd.R_lt h.p.row k hk) (hS k (h.plt k hk))), h.p.len, fun k x p hx hp => by
    obtain ⟨h1, h2, h3⟩ := h.p.at_ k x p hx hp
    exact ⟨h1, h2, h3.keep (fun j hj => ho.block j (h3.lt j hj) (hS j (h.tlt k x j hx ((own_len _ _ _ _).trans hj))))⟩⟩, h.p.apart⟩
  plt := h.plt
  tlt := h.tlt
  le := h.le
theorem OD.setd {g n c : Nat} (h : OD W b0 b1 B (.slice (some ⟨g, 0, none⟩) n c) vp T bs ps) (j : Nat) (y : Int) : OD (W.setCell ⟨g, j, none⟩ (.int .u8 y)) b0 b1 B (.slice (some ⟨g, 0, none⟩) n c) vp T (bs.set j y) ps := by
  have ho : Only (fun q => q = g) W (W.setCell ⟨g, j, none⟩ (.int .u8 y)) := Only.setCell W ⟨g, j, none⟩ _
  have hg := h.dlt g rfl
  have hput := Kd.R_putn h.d (j : Int) y
  simp only [Int.toNat_natCast] at hput
  refine ⟨hput, h.dlt, ⟨⟨h.p.row.keep (fun k hk => ho.block k (Kd.R_lt h.p.row k hk) (fun e => ?_)), h.p.len, fun k x p hx hp => ?_⟩, h.p.apart⟩, h.plt, h.tlt, h.le⟩
  · have := Kd.R_base h.p.row k hk
    have e' : k = g := e
    omega
  · obtain ⟨h1, h2, h3⟩ := h.p.at_ k x p hx hp
    refine ⟨h1, h2, h3.keep (fun i hi => ho.block i (h3.lt i hi) (fun e => ?_))⟩
    have := h3.base i hi
    have e' : i = g := e
    omega
theorem OD.setp {k g n c : Nat} {bk b' : Int} {x : List Int} (h : OD W b0 b1 B vd vp T bs ps) (hx : T[k]? = some (bk, ⟨some ⟨g, 0, none⟩, n, c⟩)) (hp : ps[k]? = some (b', x)) {j : Nat} (hj : j < x.length) (y : Int) :
    OD (W.setCell ⟨g, j, none⟩ (.int .u8 y)) b0 b1 B vd vp T bs (ps.set k (b', x.set j y)) := by
  have ho : Only (fun q => q = g) W (W.setCell ⟨g, j, none⟩ (.int .u8 y)) := Only.setCell W ⟨g, j, none⟩ _
  obtain ⟨h1, h2, h3⟩ := h.p.at_ k _ _ hx hp
  have hgb := h3.base g rfl
  refine ⟨h.d.keep (fun i hi => ho.block i (h.d.lt i hi) (fun e => ?_)), h.dlt, ⟨⟨h.p.row.keep (fun i hi => ho.block i (Kd.R_lt h.p.row i hi) (fun e => ?_)), by rw [List.length_set]; exact h.p.len, fun k' x' p' hx' hp' => ?_⟩, h.p.apart⟩, h.plt, h.tlt, h.le⟩
  · have := h.dlt i hi
    have e' : i = g := e
    omega
  · obtain ⟨c1, q1⟩ := Kd.R_typed h3 g rfl
    obtain ⟨c2, q2⟩ := Kd.R_typed h.p.row i hi
    exact cells_ne q2 q1 (by decide) e
  · by_cases e : k' = k
    · subst e
      rw [hx] at hx'
      cases hx'
      rw [List.getElem?_set_self (List.getElem?_eq_some_iff.1 hp).1] at hp'
      cases hp'
      refine ⟨h1, by simpa using h2, ?_⟩
      have hput := Kd.R_putn h3 (j : Int) y
      simp only [Int.toNat_natCast] at hput
      rw [List.set_append_left _ _ hj] at hput
      exact hput
    · rw [List.getElem?_set_ne (fun e2 => e e2.symm)] at hp'
      obtain ⟨f1, f2, f3⟩ := h.p.at_ k' x' p' hx' hp'
      refine ⟨f1, f2, f3.keep (fun i hi => ho.block i (f3.lt i hi) (fun e2 => ?_))⟩
      have e3 : i = g := e2
      subst e3
      exact e (h.p.apart k' k i x' _ hx' hx ((own_len _ _ _ _).trans hi) rfl)
end
theorem Im.grown31 {W W1 : World} {b : Nat} {v : Value} {L : List Sl} {X : List (List Int)} (h : Im W b v L X) {q : Option Nat} (hg : W.grownBy W1 q) (hq : ∀ k, q = some k → ∃ cs, W.heap[k]? = some (.cells cs 31 (0, 0))) : Im W1 b v L X :=
  ⟨h.row.keep (fun k hk => hg.block k (h.row.lt k hk) (fun e => by
    obtain ⟨c1, q1⟩ := Kd.R_typed h.row k hk
    obtain ⟨c2, q2⟩ := hq k e.symm
    exact cells_ne q1 q2 (by decide) rfl)), h.len, fun t x Y hx hY => ⟨(h.at_ t x Y hx hY).1, (h.at_ t x Y hx hY).2.keep (fun k hk => hg.block k ((h.at_ t x Y hx hY).2.lt k hk) (fun e => by
    obtain ⟨c1, q1⟩ := Kd.R_typed (h.at_ t x Y hx hY).2 k hk
    obtain ⟨c2, q2⟩ := hq k e.symm
    exact cells_ne q1 q2 (by decide) rfl))⟩, h.apart⟩
/-- Lists of images in a row. -/
structure OB (W : World) (B : Nat) (v : Value) (LS : List Sl) (M : List (List Sl)) (XX : List (List (List Int))) : Prop where
  row : Ru W B v LS
  len : LS.length = M.length
  lenX : M.length = XX.length
  im : ∀ (t : Nat) (x : Sl) (L : List Sl) (X : List (List Int)), LS[t]? = some x → M[t]? = some L → XX[t]? = some X → Im W B x.val L X
section
variable {W W1 : World} {B : Nat} {v : Value} {LS : List Sl} {M : List (List Sl)} {XX : List (List (List Int))}
theorem OB.nil (W : World) (B : Nat) : OB W B (.slice none 0 0) [] [] [] := ⟨Kd.R_nil _ _ _ _ _, rfl, rfl, fun t x L X h => by simp at h⟩
theorem OB.only (h : OB W B v LS M XX) {S : Nat → Prop} (ho : Only S W W1) (hS : ∀ k, B ≤ k → ¬ S k) : OB W1 B v LS M XX :=
  ⟨h.row.keep (fun k hk => ho.block k (h.row.lt k hk) (hS k (Kd.R_base h.row k hk))), h.len, h.lenX, fun t x L X hx hL hX => (h.im t x L X hx hL hX).only ho hS⟩
theorem OB.below (h : OB W B v LS M XX) (hb : Below W.heap.size W W1) : OB W1 B v LS M XX :=
  ⟨h.row.keep (fun k hk => hb.block k (h.row.lt k hk)), h.len, h.lenX, fun t x L X hx hL hX => (h.im t x L X hx hL hX).below hb⟩
theorem OB.other (h : OB W B v LS M XX) {q : Option Nat} (hg : W.grownBy W1 q) (hq : ∀ k, q = some k → ∃ cs, W.heap[k]? = some (.cells cs 31 (0, 0))) (hne : ∀ k, q = some k → v.ownBlock ≠ some k) : OB W1 B v LS M XX :=
  ⟨h.row.keep (fun k hk => hg.block k (h.row.lt k hk) (fun e => hne k e.symm hk)), h.len, h.lenX, fun t x L X hx hL hX => (h.im t x L X hx hL hX).grown31 hg hq⟩
theorem Ru.typed {v : Value} {LS : List Sl} (h : Ru W B v LS) : ∀ k, v.ownBlock = some k → ∃ cs, W.heap[k]? = some (.cells cs 31 (0, 0)) := fun k hk => Kd.R_typed h k hk
theorem OB.next {v1 : Value} {x : Sl} {L : List Sl} {X : List (List Int)} (h : OB W B v LS M XX) (hi : Im W B x.val L X) (hR : Ru W1 B v1 (LS ++ [x])) (hg : W.grownBy W1 v.ownBlock) : OB W1 B v1 (LS ++ [x]) (M ++ [L]) (XX ++ [X]) := by
  have hq := h.row.typed
  refine ⟨hR, by simp [h.len], by simp [h.lenX], fun t y L' X' hy hL hX => ?_⟩
  by_cases ht : t < LS.length
  · rw [List.getElem?_append_left ht] at hy
    rw [List.getElem?_append_left (by rw [← h.len]; exact ht)] at hL
    rw [List.getElem?_append_left (by rw [← h.lenX, ← h.len]; exact ht)] at hX
    exact (h.im t y L' X' hy hL hX).grown31 hg hq
  · obtain rfl : t = LS.length := by have := (List.getElem?_eq_some_iff.1 hy).1; simp at this; omega
    rw [List.getElem?_append_right (Nat.le_refl _), Nat.sub_self] at hy
    rw [h.len, List.getElem?_append_right (Nat.le_refl _), Nat.sub_self] at hL
    rw [h.len, h.lenX, List.getElem?_append_right (Nat.le_refl _), Nat.sub_self] at hX
    simp at hy hL hX
    subst hy
    subst hL
    subst hX
    exact hi.grown31 hg hq
theorem OB.get (h : OB W B v LS M XX) {t : Nat} {x : Sl} (hx : LS[t]? = some x) : ∃ L X, M[t]? = some L ∧ XX[t]? = some X ∧ Im W B x.val L X := by
  have ht := (List.getElem?_eq_some_iff.1 hx).1
  obtain ⟨L, hL⟩ : ∃ L, M[t]? = some L := ⟨_, List.getElem?_eq_getElem (by rw [← h.len]; exact ht)⟩
  obtain ⟨X, hX⟩ : ∃ X, XX[t]? = some X := ⟨_, List.getElem?_eq_getElem (by rw [← h.lenX, ← h.len]; exact ht)⟩
  exact ⟨L, X, hL, hX, h.im t x L X hx hL hX⟩
theorem OB.memx (h : OB W B v LS M XX) {L : List Sl} (hL : L ∈ M) : ∃ x X, X ∈ XX ∧ Im W B x L X := by
  obtain ⟨t, ht⟩ := List.getElem?_of_mem hL
  have hlt := (List.getElem?_eq_some_iff.1 ht).1
  obtain ⟨x, hx⟩ : ∃ x, LS[t]? = some x := ⟨_, List.getElem?_eq_getElem (by rw [h.len]; exact hlt)⟩
  obtain ⟨X, hX⟩ : ∃ X, XX[t]? = some X := ⟨_, List.getElem?_eq_getElem (by rw [← h.lenX]; exact hlt)⟩
  exact ⟨x.val, X, List.mem_of_getElem? hX, h.im t x L X hx ht hX⟩
theorem OB.mem (h : OB W B v LS M XX) {y : Sl} (hy : y ∈ M.flatten) : ∃ X ∈ XX, ∃ Y ∈ X, y.n = Y.length ∧ Rb W B y.val Y := by
  obtain ⟨L, hL, hyL⟩ := List.mem_flatten.1 hy
  obtain ⟨x, X, hX, hi⟩ := h.memx hL
  obtain ⟨s, hs⟩ := List.getElem?_of_mem hyL
  obtain ⟨Y, hY, h1, h2⟩ := hi.get hs
  exact ⟨X, hX, Y, List.mem_of_getElem? hY, h1, h2⟩
theorem OB.lists (h : OB W B v LS M XX) (hap : ApartL M.flatten) : ∃ X : Nat → List Int, Lists W B M.flatten X := by
  have key : ∀ t : Nat, ∃ Y : List Int, ∀ x, M.flatten[t]? = some x → Rb W B x.val Y ∧ Y.length = x.n := fun t => by
    cases ht : M.flatten[t]? with
    | none => exact ⟨[], fun x hx => by simp at hx⟩
    | some y =>
      obtain ⟨X, _, Y, _, h1, h2⟩ := h.mem (List.mem_of_getElem? ht)
      exact ⟨Y, fun x hx => by cases hx; exact ⟨h2, h1.symm⟩⟩
  exact ⟨fun t => Classical.choose (key t), fun t x hx => Classical.choose_spec (key t) x hx, hap⟩
theorem OB.rl (h : OB W B v LS M XX) (hap : ApartL LS) : RL W B LS where
  own := fun t x hx => by
    obtain ⟨L, X, hL, hX, hi⟩ := h.get hx
    exact ⟨L, hi.row, ((Kd.R_reads' hi.row).1).symm⟩
  apart := hap
end
/-- All together. -/
structure OS (w W : World) (b0 b1 B : Nat) (vd vp vl vw : Value) (T : List (Int × Sl)) (bs : List Int) (ps : List (Int × List Int)) (LS WS : List Sl) (M N : List (List Sl)) (XX YY : List (List (List Int))) : Prop where
  od : OD W b0 b1 B vd vp T bs ps
  ol : OB W B vl LS M XX
  ow : OB W B vw WS N YY
  apL : ApartL LS
  apM : ApartL M.flatten
  ne : ∀ k, vl.ownBlock = some k → vw.ownBlock ≠ some k
  below : Below w.heap.size w W
  B0 : w.heap.size ≤ b0
  B1 : w.heap.size ≤ b1
  Bw : B ≤ W.heap.size
section
variable {w W W1 W2 : World} {b0 b1 B : Nat} {vd vp vl vw : Value} {T : List (Int × Sl)} {bs : List Int} {ps : List (Int × List Int)} {LS WS : List Sl} {M N : List (List Sl)} {XX YY : List (List (List Int))}
theorem OS.next (h : OS w W b0 b1 B vd vp vl vw T bs ps LS WS M N XX YY) (hb : Below W.heap.size W W1) : OS w W1 b0 b1 B vd vp vl vw T bs ps LS WS M N XX YY where
  od := h.od.only (Only.of_below hb (fun _ => False)) (fun _ _ h => h)
  ol := h.ol.below hb
  ow := h.ow.below hb
  apL := h.apL
  apM := h.apM
  ne := h.ne
  below := h.below.trans (hb.mono h.below.size)
  B0 := h.B0
  B1 := h.B1
  Bw := Nat.le_trans h.Bw hb.size
theorem only_lt {k : Nat} {q : Option Nat} (h : ∀ k, q = some k → B ≤ k) (hk : k < B) : ¬ some k = q := fun e => by have := h k e.symm; omega
/-- A list of images joins the row of answers. -/
theorem OS.addL (h : OS w W b0 b1 B vd vp vl vw T bs ps LS WS M N XX YY) (hb : Below W.heap.size W W1) {x : Sl} {L : List Sl} {X : List (List Int)} (hi : Im W1 W.heap.size x.val L X) {v1 : Value} (hR : Ru W2 B v1 (LS ++ [x])) (hg : W1.grownBy W2 vl.ownBlock)
    (hat : v1.ownBlock = vl.ownBlock ∨ ∃ k, v1.ownBlock = some k ∧ W1.heap.size ≤ k) : OS w W2 b0 b1 B vd vp v1 vw T bs ps (LS ++ [x]) WS (M ++ [L]) N (XX ++ [X]) YY := by
  have h1 := h.next hb
  have hbase : ∀ k, vl.ownBlock = some k → B ≤ k := fun k hk => Kd.R_base h1.ol.row k hk
  refine ⟨h1.od.only (Only.of_grown hg) (fun k hk => only_lt hbase hk), h1.ol.next (hi.lower h.Bw) hR hg, h1.ow.other hg h1.ol.row.typed h1.ne, h.apL.append (fun t t' g y y' hy hy' _ _ => ?_) (fun y y' g hy hy' e e' => ?_), ?_, fun k hk e => ?_, h1.below.grown hg h1.below.size (fun j hj => Nat.le_trans (Nat.le_trans h.B1 h.od.le) (hbase j hj)), h.B0, h.B1, Nat.le_trans h1.Bw hg.size⟩
  · have e1 := (List.getElem?_eq_some_iff.1 hy).1
    have e2 := (List.getElem?_eq_some_iff.1 hy').1
    simp at e1 e2
    omega
  · rw [List.mem_singleton.1 hy'] at e'
    have e1 := Kd.R_base hi.row g e'
    obtain ⟨t, ht⟩ := List.getElem?_of_mem hy
    obtain ⟨L', X', _, _, hi'⟩ := h.ol.get ht
    have e2 := hi'.row.lt g e
    omega
  · rw [List.flatten_append]
    refine h.apM.append ?_ (fun y y' g hy hy' e e' => ?_)
    · simp only [List.flatten_cons, List.flatten_nil, List.append_nil]
      exact hi.apart
    · simp only [List.flatten_cons, List.flatten_nil, List.append_nil] at hy'
      obtain ⟨t, ht⟩ := List.getElem?_of_mem hy'
      obtain ⟨Y, _, _, hR'⟩ := hi.get ht
      have e1 := hR'.base g e'
      obtain ⟨_, _, Y', _, _, hR2⟩ := h.ol.mem hy
      have e2 := hR2.lt g e
      omega
  · rcases hat with e1 | ⟨k', e1, hl⟩
    · rw [e1] at hk; exact h.ne k hk e
    · rw [e1] at hk
      cases hk
      have := h1.ow.row.lt k e
      omega
/-- A copy joins the row of copies. -/
theorem OS.addW (h : OS w W b0 b1 B vd vp vl vw T bs ps LS WS M N XX YY) {x : Sl} {L : List Sl} {X : List (List Int)} (hi : Im W B x.val L X) {v1 : Value} (hR : Ru W2 B v1 (WS ++ [x])) (hg : W.grownBy W2 vw.ownBlock)
    (hat : v1.ownBlock = vw.ownBlock ∨ ∃ k, v1.ownBlock = some k ∧ W.heap.size ≤ k) : OS w W2 b0 b1 B vd vp vl v1 T bs ps LS (WS ++ [x]) M (N ++ [L]) XX (YY ++ [X]) := by
  have hbase : ∀ k, vw.ownBlock = some k → B ≤ k := fun k hk => Kd.R_base h.ow.row k hk
  refine ⟨h.od.only (Only.of_grown hg) (fun k hk => only_lt hbase hk), h.ol.other hg h.ow.row.typed (fun k hk e => h.ne k e hk), h.ow.next hi hR hg, h.apL, h.apM, fun k hk e => ?_, h.below.grown hg h.below.size (fun j hj => Nat.le_trans (Nat.le_trans h.B1 h.od.le) (hbase j hj)), h.B0, h.B1, Nat.le_trans h.Bw hg.size⟩
  rcases hat with e1 | ⟨k', e1, hl⟩
  · rw [e1] at e; exact h.ne k hk e
  · rw [e1] at e
    cases e
    have := h.ol.row.lt k hk
    omega
theorem OS.low (h : OS w W b0 b1 B vd vp vl vw T bs ps LS WS M N XX YY) {g : Nat} (hg : w.heap.size ≤ g) (j : Nat) (u : Value) : Below w.heap.size w (W.setCell ⟨g, j, none⟩ u) :=
  h.below.trans ((Only.setCell W ⟨g, j, none⟩ u).below h.below.size (fun k hk => by have e : k = g := hk; omega))
theorem OS.setd {g n c : Nat} (h : OS w W b0 b1 B (.slice (some ⟨g, 0, none⟩) n c) vp vl vw T bs ps LS WS M N XX YY) (j : Nat) (y : Int) : OS w (W.setCell ⟨g, j, none⟩ (.int .u8 y)) b0 b1 B (.slice (some ⟨g, 0, none⟩) n c) vp vl vw T (bs.set j y) ps LS WS M N XX YY := by
  have ho : Only (fun q => q = g) W (W.setCell ⟨g, j, none⟩ (.int .u8 y)) := Only.setCell W ⟨g, j, none⟩ _
  have hg := h.od.dlt g rfl
  have hg0 := h.od.d.base g rfl
  have hle := h.od.le
  have hS : ∀ k, B ≤ k → ¬ k = g := fun k hk e => by omega
  exact ⟨h.od.setd j y, h.ol.only ho hS, h.ow.only ho hS, h.apL, h.apM, h.ne, h.low (Nat.le_trans h.B0 hg0) j _, h.B0, h.B1, by simpa using h.Bw⟩
theorem OS.setp {k g n c : Nat} {bk b' : Int} {x : List Int} (h : OS w W b0 b1 B vd vp vl vw T bs ps LS WS M N XX YY) (hx : T[k]? = some (bk, ⟨some ⟨g, 0, none⟩, n, c⟩)) (hp : ps[k]? = some (b', x)) {j : Nat} (hj : j < x.length) (y : Int) :
    OS w (W.setCell ⟨g, j, none⟩ (.int .u8 y)) b0 b1 B vd vp vl vw T bs (ps.set k (b', x.set j y)) LS WS M N XX YY := by
  have ho : Only (fun q => q = g) W (W.setCell ⟨g, j, none⟩ (.int .u8 y)) := Only.setCell W ⟨g, j, none⟩ _
  have hg := h.od.tlt k _ g hx rfl
  have hg0 := (h.od.p.toTw.lt hx g rfl).1
  have hS : ∀ k, B ≤ k → ¬ k = g := fun k hk e => by omega
  exact ⟨h.od.setp hx hp hj y, h.ol.only ho hS, h.ow.only ho hS, h.apL, h.apM, h.ne, h.low (Nat.le_trans h.B1 hg0) j _, h.B0, h.B1, by simpa using h.Bw⟩
end
/-- Where a byte is changed. -/
def flipJ (n : Nat) (at_ : Int) : Nat := ((at_.tmod n + n).tmod n).toNat
theorem flipJ_lt {n : Nat} (at_ : Int) (hn : 0 < n) : (at_.tmod n + n).tmod n = (flipJ n at_ : Int) ∧ flipJ n at_ < n := by
  unfold flipJ
  have h1 : -(n : Int) < at_.tmod n := Int.lt_tmod_of_pos _ (by omega)
  have h2 : 0 ≤ (at_.tmod n + n).tmod n := Int.tmod_nonneg _ (by omega)
  have h3 : (at_.tmod n + n).tmod n < n := Int.tmod_lt_of_pos _ (by omega)
  exact ⟨by omega, by omega⟩
def flipB (m : Int) (at_ : Int) (xs : List Int) : List Int := xs.set (flipJ xs.length at_) (bits .xor .u8 (xs.getD (flipJ xs.length at_) 0) m)
theorem flipB_len (m at_ : Int) (xs : List Int) : (flipB m at_ xs).length = xs.length := by simp [flipB]
theorem xor_u8 (x m : Int) : 0 ≤ bits .xor .u8 x m ∧ bits .xor .u8 x m < 256 := by
  unfold bits
  exact ⟨by simp [IntKind.wrap, IntKind.bits, IntKind.signed]; omega, by simp [IntKind.wrap, IntKind.bits, IntKind.signed]; omega⟩
theorem byts_flip {xs : List Int} (h : Byts xs) (m at_ : Int) : Byts (flipB m at_ xs) := fun x hx => by
  rcases List.mem_or_eq_of_mem_set hx with hx | rfl
  · exact h x hx
  · exact xor_u8 _ _
def flipP (at_ : Int) (p : Int × List Int) : Int × List Int := (p.1, flipB 1 at_ p.2)
/-- What is asked of the bytes and the writes. -/
structure Fine (bs : List Int) (ps : List (Int × List Int)) : Prop where
  bl : bs.length ≤ 8192
  bb : Byts bs
  pl : ps.length ≤ 5
  pn : ∀ p ∈ ps, p.2.length ≤ 1048576
  pb : ∀ p ∈ ps, Byts p.2
  pr : ∀ p ∈ ps, -9223372036854775808 ≤ p.1 ∧ p.1 ≤ 9223372036854775807
theorem Fine.flip {bs : List Int} {ps : List (Int × List Int)} (h : Fine bs ps) (at_ : Int) : Fine (flipB 255 at_ bs) (ps.map (flipP at_)) := by
  refine ⟨by rw [flipB_len]; exact h.bl, byts_flip h.bb _ _, by rw [List.length_map]; exact h.pl, fun p hp => ?_, fun p hp => ?_, fun p hp => ?_⟩
  all_goals
    obtain ⟨q, hq, rfl⟩ := List.mem_map.1 hp
  · show (flipB 1 at_ q.2).length ≤ _
    rw [flipB_len]; exact h.pn q hq
  · exact byts_flip (h.pb q hq) _ _
  · exact h.pr q hq
/-- The first k writes are changed. -/
def part (at_ : Int) (ps : List (Int × List Int)) (k : Nat) : List (Int × List Int) := (ps.take k).map (flipP at_) ++ ps.drop k
theorem part_zero (at_ : Int) (ps : List (Int × List Int)) : part at_ ps 0 = ps := by simp [part]
theorem part_all (at_ : Int) (ps : List (Int × List Int)) : part at_ ps ps.length = ps.map (flipP at_) := by simp [part]
theorem part_len (at_ : Int) (ps : List (Int × List Int)) (k : Nat) : (part at_ ps k).length = ps.length := by simp [part]; omega
theorem part_get (at_ : Int) (ps : List (Int × List Int)) {k : Nat} {p : Int × List Int} (h : ps[k]? = some p) : (part at_ ps k)[k]? = some p := by
  have hk := (List.getElem?_eq_some_iff.1 h).1
  unfold part
  rw [List.getElem?_append_right (by simp; omega)]
  simp [List.getElem?_drop, Nat.min_eq_left (Nat.le_of_lt hk), h]
theorem part_next (at_ : Int) (ps : List (Int × List Int)) {k : Nat} {p : Int × List Int} (h : ps[k]? = some p) : (part at_ ps k).set k (flipP at_ p) = part at_ ps (k + 1) := by
  have hk := (List.getElem?_eq_some_iff.1 h).1
  unfold part
  have hl : ((ps.take k).map (flipP at_)).length = k := by simp; omega
  rw [List.set_append_right _ _ (by omega), hl, Nat.sub_self, List.take_add_one, h, List.drop_eq_getElem_cons hk, List.set_cons_zero]
  simp
end Go.Proofs.Ytekgdlpicgibhab.EX
