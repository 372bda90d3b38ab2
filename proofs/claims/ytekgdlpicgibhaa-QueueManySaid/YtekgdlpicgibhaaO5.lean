/-
  QueueOwns' state: what each call leaves.
-/
import Derived.Test.YtekgdlpicgibhaaO3
import Derived.Test.YtekgdlpicgibhaaO4
namespace Go.Proofs.Ytekgdlpicgibhaa.QI
open Go.RowKit Go.Proofs.YtekgdlpicgibhaaW.PrintWords Go.Proofs.Ytekgdlpicgibhaa.QQ

theorem bound_nat' (x m : Int) (w : World) (h1 : 1 ≤ m) (h2 : m ≤ 4096) : Calls Try.prog 12 #[.int .i64 x, .int .i64 m] w fun e w' => ∃ n : Nat, 1 ≤ n ∧ (n : Int) ≤ m ∧ e = .returned (.int .i64 (n : Int)) ∧ w = w' := by
  refine (bound_ok x m w h1 h2).mono ?_
  rintro e w' ⟨rfl, rfl⟩
  have a := Int.emod_nonneg x (show m ≠ 0 by omega)
  have b := Int.emod_lt_of_pos x (show 0 < m by omega)
  exact ⟨(1 + x % m).toNat, by omega, by omega, ret_int (by omega), rfl⟩
/-- The state with no list yet. -/
theorem os_start {w W : World} {B1 B2 : Nat → Prop} {qb rb pb : Nat} {q : QM Int} (hb : Below w.heap.size w W) (hP : PIn W w.heap.size B1 B2 qb rb q) (hS : ∀ k, B1 k ∨ B2 k → w.heap.size ≤ k ∧ k ≠ pb) (hpb : w.heap.size ≤ pb) (hx : W.heap[pb]? = some (.cells #[.pointer (some ⟨qb, 0, none⟩), .pointer (some ⟨rb, 0, none⟩)] 49 (0, 0))) (X : Nat → List Int) :
    OS w W pb (fun k => if k = pb then 7 else if w.heap.size ≤ k then 1 else 0) qb rb q (.slice none 0 0) (.slice none 0 0) [] [] X where
  below := hb
  box := hx
  fbox := by simp
  pair := ⟨B1, B2, hP, fun k hk => by have := hS k hk; simp [this.1, this.2]⟩
  ls := Kd.R_nil _ _ _ _ _
  fl := fun k hk => by simp [Value.ownBlock] at hk
  were := Kd.R_nil _ _ _ _ _
  fw := fun k hk => by simp [Value.ownBlock] at hk
  lists := ⟨fun t x hx => by simp at hx, fun t t' g x x' hx => by simp at hx⟩
  f4 := fun t x hx => by simp at hx
  copies := fun t x hx => by simp at hx
  f5 := fun t x hx => by simp at hx
  base := fun k hk => by
    by_cases e : k = pb
    · omega
    · by_cases e2 : w.heap.size ≤ k
      · exact e2
      · simp [e, e2] at hk
  len := rfl

section
variable {w0 w : World} {pb : Nat} {f : Nat → Nat} {qb rb : Nat} {q : QM Int} {vl vw : Value} {L Wr : List Sl} {X : Nat → List Int}
theorem stepO (h : OS w0 w pb f qb rb q vl vw L Wr X) (kd who a b : Int) (n : Nat) :
    Calls Try.prog 22 #[.agg #[.pointer (some ⟨qb, 0, none⟩), .pointer (some ⟨rb, 0, none⟩)], .agg #[.int .i64 kd, .int .i64 who, .int .i64 a, .int .i64 b]] (w.drewN n) fun e w' =>
      ∃ v f' q', e = .returned (.tuple #[.bool true, v]) ∧ q'.rows.length = q.rows.length ∧ OS w0 w' pb f' qb rb q' vl vw L Wr X := by
  have h' := h.later (pw_below_drewN (Below.refl _ _) n)
  obtain ⟨S1, S2, hP, hT⟩ := h'.pair
  exact (plays_any hP kd who a b).mono (fun e w' hp => h'.played hT hp)
/-- The pair alone. -/
def PairAt (w0 w : World) (qb rb : Nat) (q : QM Int) : Prop := Below w0.heap.size w0 w ∧ ∃ S1 S2, PIn w w0.heap.size S1 S2 qb rb q
theorem OS.pairAt (h : OS w0 w pb f qb rb q vl vw L Wr X) : PairAt w0 w qb rb q := by
  obtain ⟨S1, S2, hP, _⟩ := h.pair
  exact ⟨h.below, S1, S2, hP⟩
theorem PairAt.later {w1 : World} (h : PairAt w0 w qb rb q) (hb : Below w.heap.size w w1) : PairAt w0 w1 qb rb q := by
  obtain ⟨h1, S1, S2, hP⟩ := h
  exact ⟨h1.trans (hb.mono h1.size), S1, S2, hP.below hb⟩
theorem eachP (h : PairAt w0 w qb rb q) (c : Int) : Calls Try.prog 25 #[.pointer (some ⟨qb, 0, none⟩), .int .i64 c] w (Copied w (rowI q c)) := by
  obtain ⟨_, S1, S2, hP⟩ := h
  exact each_any hP.a hP.wf c
theorem reachP (h : PairAt w0 w qb rb q) (c : Int) : Calls Try.prog 28 #[.pointer (some ⟨rb, 0, none⟩), .int .i64 c] w (Copied w (rowI q c)) := by
  obtain ⟨_, S1, S2, hP⟩ := h
  exact reach_any hP.b hP.wf c
theorem rowP (h : PairAt w0 w qb rb q) (c : Int) : (rowI q c).length ≤ 64 := by
  obtain ⟨_, S1, S2, hP⟩ := h
  unfold rowI
  split
  · have := QM.row_le hP.wf c.toNat
    have := hP.wf.p2
    omega
  · simp
theorem sameR {W : World} {b b' : Nat} {A B : Option Addr} {n c d : Nat} {xs : List Int} (hx : K.R 3 W b (fun _ => True) (.slice A n c) xs) (hy : K.R 3 W b' (fun _ => True) (.slice B n d) xs) (hn : xs.length = n) :
    Calls Try.prog 26 #[.slice A n c, .slice B n d] W fun e w' => e = .returned (.bool true) ∧ ∃ k, w' = W.drewN k := by
  subst hn
  obtain ⟨A1, c1, e1, _, h1⟩ := Kd.R_reads hx
  obtain ⟨A2, c2, e2, _, h2⟩ := Kd.R_reads hy
  cases e1
  cases e2
  exact same_any (Kd.reads_of_C h1) (Kd.reads_of_C h2)
theorem copyR {W : World} {b : Nat} {A : Option Addr} {n c : Nat} {xs : List Int} (hx : K.R 3 W b (fun _ => True) (.slice A n c) xs) (hn : xs.length = n) (hl : n ≤ 64) : Calls Try.prog 29 #[.slice A n c] W (Copied W xs) := by
  subst hn
  obtain ⟨A1, c1, e1, _, h1⟩ := Kd.R_reads hx
  cases e1
  exact ints_any (Kd.reads_of_C h1) (by omega)
theorem sameO (h : OS w0 w pb f qb rb q vl vw L Wr X) {t : Nat} {x y : Sl} (hx : L[t]? = some x) (hy : Wr[t]? = some y) (n : Nat) :
    Calls Try.prog 26 #[.slice x.A x.n x.c, .slice y.A y.n y.c] (w.drewN n) fun e w' => e = .returned (.bool true) ∧ OS w0 w' pb f qb rb q vl vw L Wr X := by
  have h' := h.later (pw_below_drewN (Below.refl _ _) n)
  obtain ⟨a1, a2, _⟩ := h'.lists.own t x hx
  obtain ⟨b1, b2⟩ := h'.copies t y hy
  have e : y.n = x.n := by omega
  have b1' : K.R 3 (w.drewN n) w0.heap.size (fun _ => True) (.slice y.A x.n y.c) (X t) := by rw [← e]; exact b1
  rw [e]
  refine (sameR a1 b1' a2).mono ?_
  rintro e w' ⟨rfl, k, rfl⟩
  exact ⟨rfl, h'.later (pw_below_drewN (Below.refl _ _) k)⟩
theorem apartO (h : OS w0 w pb f qb rb q vl vw L Wr X) (hl : L.length ≤ 1000) :
    Calls Try.prog 30 #[vl] w fun e w' => e = .returned (.bool true) ∧ PairAt w0 w' qb rb q := by
  refine (apart_any h.lists h.ls h.below.size hl).mono ?_
  rintro e w' ⟨rfl, ho⟩
  refine ⟨rfl, h.below.trans (ho.below h.below.size (fun k hk => ?_)), ?_⟩
  · obtain ⟨t, x, hx, e⟩ := hk
    exact h.base k (by rw [h.f4 t x hx k e]; decide)
  · obtain ⟨S1, S2, hP, hT⟩ := h.pair
    refine ⟨S1, S2, hP.move ho (fun k hk hk2 => ?_)⟩
    obtain ⟨t, x, hx, e⟩ := hk2
    have := h.f4 t x hx k e
    have := hT k hk
    omega
theorem OS.were_later (h : OS w0 w pb f qb rb q vl vw L Wr X) {w3 w4 w5 : World} (hb : Below w.heap.size w w3) (g4 : w3.grownBy w4 vl.ownBlock) (hb5 : Below w4.heap.size w4 w5) : RV w5 w0.heap.size vw Wr :=
  h.were.keep (fun k hk => by
    have h1 := h.were.lt k hk
    have s3 := hb.size
    have s4 := g4.size
    exact (hb5.block k (by omega)).trans ((g4.block k (by omega) (fun e => by have := h.fl k e.symm; have := h.fw k hk; omega)).trans (hb.block k h1)))
theorem op_later (h : Below w0.heap.size w0 w) {ad : Addr} {j : Nat} {kd who a b : Int} (had : ad.block < w0.heap.size) (z : w0.cell? (ad.add j) = some (.int .i64 kd) ∧ w0.cell? ⟨(ad.add j).block, (ad.add j).off + 1, none⟩ = some (.int .i64 who) ∧ w0.cell? ⟨(ad.add j).block, (ad.add j).off + 2, none⟩ = some (.int .i64 a) ∧ w0.cell? ⟨(ad.add j).block, (ad.add j).off + 3, none⟩ = some (.int .i64 b)) :
    w.cell? (ad.add j) = some (.int .i64 kd) ∧ w.cell? ⟨(ad.add j).block, (ad.add j).off + 1, none⟩ = some (.int .i64 who) ∧ w.cell? ⟨(ad.add j).block, (ad.add j).off + 2, none⟩ = some (.int .i64 a) ∧ w.cell? ⟨(ad.add j).block, (ad.add j).off + 3, none⟩ = some (.int .i64 b) := by
  have hab : (ad.add j).block = ad.block := by unfold Addr.add; split <;> rfl
  exact ⟨(h.cell (p := ad.add j) (by rw [hab]; exact had)).trans z.1, (h.cell (p := ⟨(ad.add j).block, (ad.add j).off + 1, none⟩) (by rw [hab]; exact had)).trans z.2.1, (h.cell (p := ⟨(ad.add j).block, (ad.add j).off + 2, none⟩) (by rw [hab]; exact had)).trans z.2.2.1, (h.cell (p := ⟨(ad.add j).block, (ad.add j).off + 3, none⟩) (by rw [hab]; exact had)).trans z.2.2.2⟩
end

end Go.Proofs.Ytekgdlpicgibhaa.QI
