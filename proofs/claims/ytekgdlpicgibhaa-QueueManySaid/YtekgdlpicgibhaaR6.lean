/-
  One step at a queue and at the document's: plays answers true.
-/
import Derived.Test.YtekgdlpicgibhaaR5
namespace Go.Proofs.Ytekgdlpicgibhaa.QI
open Go.RowKit Go.Proofs.YtekgdlpicgibhaaW.PrintWords Go.Proofs.Ytekgdlpicgibhaa.QQ

/-- What a step at a pair leaves. -/
def Played (w : World) (B : Nat) (S1 S2 : Nat → Prop) (qb rb : Nat) (q : QM Int) (kind : Int) (e : Ending) (w' : World) : Prop :=
  ∃ v xs q' T1 T2, e = .returned (.tuple #[.bool true, v]) ∧ K.R 3 w' w.heap.size (fun _ => True) v xs ∧ xs.length ≤ 64 ∧ q'.rows.length = q.rows.length ∧ PIn w' B T1 T2 qb rb q' ∧
    (∀ k, T1 k ∨ T2 k → (S1 k ∨ S2 k) ∨ w.heap.size ≤ k) ∧ (∀ k, v.ownBlock = some k → ¬ (T1 k ∨ T2 k)) ∧ Only (fun k => S1 k ∨ S2 k) w w' ∧ (kind ≠ 5 → v = .slice none 0 0)

variable {w : World} {B qb rb : Nat} {S1 S2 : Nat → Prop} {q : QM Int}

def Bx (w W : World) (qb rb : Nat) (o0 o1 o2 o3 : Int) : Prop :=
  W.heap[w.heap.size]? = some (.cells #[.pointer (some ⟨qb, 0, none⟩), .pointer (some ⟨rb, 0, none⟩)] 49 (0, 0)) ∧
  W.heap[w.heap.size + 1]? = some (.cells #[.int .i64 o0, .int .i64 o1, .int .i64 o2, .int .i64 o3] 53 (0, 0))
theorem Bx.start (w : World) (qb rb : Nat) (o0 o1 o2 o3 : Int) : Bx w ((w.alloc (.cells #[.pointer (some ⟨qb, 0, none⟩), .pointer (some ⟨rb, 0, none⟩)] 49)).alloc (.cells #[.int .i64 o0, .int .i64 o1, .int .i64 o2, .int .i64 o3] 53)) qb rb o0 o1 o2 o3 := by
  refine ⟨?_, ?_⟩
  · rw [Below.heap_alloc _ _ _ (by simp)]
    exact heap_alloc_new w _
  · have := heap_alloc_new (w.alloc (.cells #[.pointer (some ⟨qb, 0, none⟩), .pointer (some ⟨rb, 0, none⟩)] 49)) (.cells #[.int .i64 o0, .int .i64 o1, .int .i64 o2, .int .i64 o3] 53)
    simpa using this
theorem Bx.cells {W : World} {o0 o1 o2 o3 : Int} (h : Bx w W qb rb o0 o1 o2 o3) :
    W.cell? ⟨w.heap.size, 0, none⟩ = some (.pointer (some ⟨qb, 0, none⟩)) ∧ W.cell? ⟨w.heap.size, 1, none⟩ = some (.pointer (some ⟨rb, 0, none⟩)) ∧ W.cell? ⟨w.heap.size + 1, 2, none⟩ = some (.int .i64 o2) ∧ W.cell? ⟨w.heap.size + 1, 3, none⟩ = some (.int .i64 o3) ∧ W.cell? ⟨w.heap.size + 1, 0, none⟩ = some (.int .i64 o0) :=
  ⟨(blk_cell h.1 0).trans rfl, (blk_cell h.1 1).trans rfl, (blk_cell h.2 2).trans rfl, (blk_cell h.2 3).trans rfl, (blk_cell h.2 0).trans rfl⟩
theorem Bx.only {W W' : World} {o0 o1 o2 o3 : Int} (h : Bx w W qb rb o0 o1 o2 o3) {S : Nat → Prop} (ho : Only S W W') (hs : ∀ k, S k → k < w.heap.size) : Bx w W' qb rb o0 o1 o2 o3 := by
  have l1 := heap_lt_of h.1
  have l2 := heap_lt_of h.2
  exact ⟨(ho.block _ l1 (fun hh => by have := hs _ hh; omega)).trans h.1, (ho.block _ l2 (fun hh => by have := hs _ hh; omega)).trans h.2⟩
theorem Bx.below {W W' : World} {o0 o1 o2 o3 : Int} (h : Bx w W qb rb o0 o1 o2 o3) (hb : Below W.heap.size W W') : Bx w W' qb rb o0 o1 o2 o3 :=
  ⟨(hb.block _ (heap_lt_of h.1)).trans h.1, (hb.block _ (heap_lt_of h.2)).trans h.2⟩

theorem PLeft.played {W w' : World} (hb : Below w.heap.size w W) {q' : QM Int} {kind : Int} (h : PLeft W B S1 S2 qb rb q' w') (hn : q'.rows.length = q.rows.length) : Played w B S1 S2 qb rb q kind (.returned (.tuple #[.bool true, .slice none 0 0])) w' := by
  obtain ⟨T1, T2, hP, hT, ho⟩ := h
  exact ⟨_, [], q', T1, T2, rfl, Kd.R_nil _ _ _ _ _, by simp, hn, hP, fun k hk => (hT k hk).imp id (fun h => Nat.le_trans hb.size h), fun k hk => by simp [Value.ownBlock] at hk, (Only.of_below hb _).trans ho (fun k hk => .inl hk), fun _ => rfl⟩

set_option maxHeartbeats 2000000 in
theorem plays_push (h : PIn w B S1 S2 qb rb q) (who a b : Int) :
    Calls Try.prog 22 #[.agg #[.pointer (some ⟨qb, 0, none⟩), .pointer (some ⟨rb, 0, none⟩)], .agg #[.int .i64 2, .int .i64 who, .int .i64 a, .int .i64 b]] w (Played w B S1 S2 qb rb q 2) := by
  obtain ⟨W, hW⟩ : ∃ W, (w.alloc (.cells #[.pointer (some ⟨qb, 0, none⟩), .pointer (some ⟨rb, 0, none⟩)] 49)).alloc (.cells #[.int .i64 2, .int .i64 who, .int .i64 a, .int .i64 b] 53) = W := ⟨_, rfl⟩
  have hb : Below w.heap.size w W := by subst hW; exact below_alloc (below_alloc (Below.refl _ _) _) _
  have hx : Bx w W qb rb 2 who a b := by subst hW; exact Bx.start _ _ _ _ _ _ _
  have hP := h.below hb
  obtain ⟨x0, x1, x2, x3, x4⟩ := hx.cells
  have H := Lib.hid h
  have HB := Lib.hid hb
  have HX := Lib.hid hx
  have HP := Lib.hid hP
  clear h hb hx hP
  go_enter Try.func22, Try.ntmps22
  go_wp2_with fail
  refine (push_any HP.out.a HP.out.wf HP.out.lo a b).mono ?_
  rintro e w3 ⟨rfl, hl⟩
  have HL := Lib.hid hl
  obtain ⟨y0, y1, y2, y3, y4⟩ := (HX.out.only hl.2 H.out.hi1).cells
  have HR := Lib.hid (HP.out.b.move hl.2 (fun k h2 h1 => HP.out.ap k h1 h2))
  have HS := Lib.hid hl.2.size
  clear hl
  go_wp2_with fail
  refine (rpush_any HR.out HP.out.wf (Nat.le_trans HP.out.lo HS.out) a b).mono ?_
  rintro e w4 ⟨rfl, hr⟩
  have HQ := Lib.hid (HP.out.steps (QM.push_wf HP.out.wf a b) HL.out (fun _ => hr))
  clear hr
  go_wp2_with fail
  refine (num _ _).mono ?_
  rintro e w' ⟨rfl, rfl⟩
  go_wp2
  go_ret2
  exact PLeft.played HB.out HQ.out (QM.push_len _ _ _)
theorem looked {W w3 : World} (h : PIn w3 B S1 S2 qb rb q) (hb : Below W.heap.size W w3) (m : Nat) : PLeft W B S1 S2 qb rb q (w3.drewN m) :=
  ⟨S1, S2, h.below (pw_below_drewN (Below.refl _ _) m), fun _ hk => .inl hk, Only.of_below (pw_below_drewN hb m) _⟩
theorem eached {W w3 w4 : World} (hb : Below w.heap.size w W) (h : PIn w3 B S1 S2 qb rb q) (h0 : PIn w B S1 S2 qb rb q) {v : Value} {xs : List Int} (hR : K.R 3 w3 W.heap.size (fun _ => True) v xs) (hb1 : Below W.heap.size W w3) (hb2 : Below w3.heap.size w3 w4) (m : Nat) (hl : xs.length ≤ 64) :
    Played w B S1 S2 qb rb q 5 (.returned (.tuple #[.bool true, v])) (w4.drewN m) := by
  have hb4 := pw_below_drewN hb2 m
  refine ⟨v, xs, q, S1, S2, rfl, Kd.R_lower (Kd.R_below hR hb4) hb.size, hl, rfl, h.below hb4, fun _ hk => .inl hk, fun k hk hs => ?_, Only.of_below ((hb.trans (hb1.mono hb.size)).trans (hb4.mono (Nat.le_trans hb.size hb1.size))) _, fun h => absurd rfl h⟩
  have h1 := Kd.R_base hR k hk
  have h2 := hb.size
  rcases hs with hs | hs
  · have := h0.hi1 k hs; omega
  · have := h0.hi2 k hs; omega
set_option maxHeartbeats 2000000 in
theorem plays_pop (h : PIn w B S1 S2 qb rb q) (who a b : Int) :
    Calls Try.prog 22 #[.agg #[.pointer (some ⟨qb, 0, none⟩), .pointer (some ⟨rb, 0, none⟩)], .agg #[.int .i64 3, .int .i64 who, .int .i64 a, .int .i64 b]] w (Played w B S1 S2 qb rb q 3) := by
  obtain ⟨W, hW⟩ : ∃ W, (w.alloc (.cells #[.pointer (some ⟨qb, 0, none⟩), .pointer (some ⟨rb, 0, none⟩)] 49)).alloc (.cells #[.int .i64 3, .int .i64 who, .int .i64 a, .int .i64 b] 53) = W := ⟨_, rfl⟩
  have hb : Below w.heap.size w W := by subst hW; exact below_alloc (below_alloc (Below.refl _ _) _) _
  have hx : Bx w W qb rb 3 who a b := by subst hW; exact Bx.start _ _ _ _ _ _ _
  have hP := h.below hb
  obtain ⟨x0, x1, x2, x3, x4⟩ := hx.cells
  have H := Lib.hid h
  have HB := Lib.hid hb
  have HX := Lib.hid hx
  have HP := Lib.hid hP
  clear h hb hx hP
  obtain ⟨r, q', hpq⟩ : ∃ r q', q.pop = (r, q') := ⟨_, _, rfl⟩
  have hlen : q'.rows.length = q.rows.length := by have := QM.pop_len q; rw [hpq] at this; exact this
  have hwf : q'.Wf := by have := QM.pop_wf HP.out.wf; rw [hpq] at this; exact this
  have HN := Lib.hid hlen
  have HWF := Lib.hid hwf
  have hp1 : Hid (Calls Try.prog 18 #[.pointer (some ⟨qb, 0, none⟩)] W fun e w' => e = .returned (popValue r) ∧ Left W B S1 qb q' w') := by
    have := pop_any HP.out.a HP.out.wf HP.out.lo
    unfold PopAny at this
    rw [hpq] at this
    exact this
  have hp2 : Hid (∀ w3, RIn w3 B S2 rb q → B ≤ w3.heap.size → Calls Try.prog 39 #[.pointer (some ⟨rb, 0, none⟩)] w3 fun e w' => e = .returned (popValue r) ∧ RLeft w3 B S2 rb q' w') := by
    intro w3 h3 hlo
    have := rpop_any h3 HP.out.wf hlo
    rw [hpq] at this
    exact this
  clear hpq hlen hwf
  rcases r with _ | ⟨d, v⟩
  all_goals
    go_enter Try.func22, Try.ntmps22
    go_wp2_with fail
    refine hp1.out.mono ?_
    rintro e w3 ⟨rfl, hl⟩
    have HL := Lib.hid hl
    obtain ⟨y0, y1, y2, y3, y4⟩ := (HX.out.only hl.2 H.out.hi1).cells
    have HR := Lib.hid (HP.out.b.move hl.2 (fun k h2 h1 => HP.out.ap k h1 h2))
    have HS := Lib.hid hl.2.size
    clear hl
    simp only [popValue]
    go_wp2_with fail
    refine (hp2.out _ HR.out (Nat.le_trans HP.out.lo HS.out)).mono ?_
    rintro e w4 ⟨rfl, hr⟩
    have HQ := Lib.hid (HP.out.steps HWF.out HL.out (fun _ => hr))
    clear hr
    simp only [popValue]
    go_wp2
    go_ret2
    exact PLeft.played HB.out HQ.out HN.out
set_option maxHeartbeats 2000000 in
theorem plays_look (h : PIn w B S1 S2 qb rb q) (who a b : Int) :
    Calls Try.prog 22 #[.agg #[.pointer (some ⟨qb, 0, none⟩), .pointer (some ⟨rb, 0, none⟩)], .agg #[.int .i64 4, .int .i64 who, .int .i64 a, .int .i64 b]] w (Played w B S1 S2 qb rb q 4) := by
  obtain ⟨W, hW⟩ : ∃ W, (w.alloc (.cells #[.pointer (some ⟨qb, 0, none⟩), .pointer (some ⟨rb, 0, none⟩)] 49)).alloc (.cells #[.int .i64 4, .int .i64 who, .int .i64 a, .int .i64 b] 53) = W := ⟨_, rfl⟩
  have hb : Below w.heap.size w W := by subst hW; exact below_alloc (below_alloc (Below.refl _ _) _) _
  have hx : Bx w W qb rb 4 who a b := by subst hW; exact Bx.start _ _ _ _ _ _ _
  have hP := h.below hb
  obtain ⟨x0, x1, x2, x3, x4⟩ := hx.cells
  have H := Lib.hid h
  have HB := Lib.hid hb
  have HX := Lib.hid hx
  have HP := Lib.hid hP
  clear h hb hx hP
  go_enter Try.func22, Try.ntmps22
  go_wp2_with fail
  refine (len_any HP.out.a a).mono ?_
  rintro e w' ⟨rfl, rfl⟩
  go_wp2_with fail
  refine (rlen_any HP.out.b HP.out.wf a).mono ?_
  rintro e w3 ⟨rfl, hl⟩
  obtain ⟨y0, y1, y2, y3, y4⟩ := (HX.out.below hl).cells
  have HL := Lib.hid hl
  have HP3 := Lib.hid (HP.out.below hl)
  clear hl
  go_wp2_with fail
  refine (total_any HP3.out.a).mono ?_
  rintro e w' ⟨rfl, rfl⟩
  go_wp2_with fail
  refine (rtotal_any HP3.out.b HP3.out.wf).mono ?_
  rintro e w' ⟨rfl, m, rfl⟩
  go_wp2
  go_ret2
  exact PLeft.played HB.out (looked HP3.out HL.out m) rfl
set_option maxHeartbeats 2000000 in
theorem plays_each (h : PIn w B S1 S2 qb rb q) (who a b : Int) :
    Calls Try.prog 22 #[.agg #[.pointer (some ⟨qb, 0, none⟩), .pointer (some ⟨rb, 0, none⟩)], .agg #[.int .i64 5, .int .i64 who, .int .i64 a, .int .i64 b]] w (Played w B S1 S2 qb rb q 5) := by
  obtain ⟨W, hW⟩ : ∃ W, (w.alloc (.cells #[.pointer (some ⟨qb, 0, none⟩), .pointer (some ⟨rb, 0, none⟩)] 49)).alloc (.cells #[.int .i64 5, .int .i64 who, .int .i64 a, .int .i64 b] 53) = W := ⟨_, rfl⟩
  have hb : Below w.heap.size w W := by subst hW; exact below_alloc (below_alloc (Below.refl _ _) _) _
  have hx : Bx w W qb rb 5 who a b := by subst hW; exact Bx.start _ _ _ _ _ _ _
  have hP := h.below hb
  obtain ⟨x0, x1, x2, x3, x4⟩ := hx.cells
  have H := Lib.hid h
  have HB := Lib.hid hb
  have HX := Lib.hid hx
  have HP := Lib.hid hP
  clear h hb hx hP
  have hll : (rowI q a).length ≤ 64 := by
    unfold rowI
    split
    · have := QM.row_le HP.out.wf a.toNat; have := HP.out.wf.p2; omega
    · simp
  obtain ⟨L, hL⟩ : ∃ L, rowI q a = L := ⟨_, rfl⟩
  rw [hL] at hll
  have HLL := Lib.hid hL
  clear hL
  go_enter Try.func22, Try.ntmps22
  go_wp2_with fail
  refine (each_any HP.out.a HP.out.wf a).mono ?_
  rintro e w3 ⟨v1, rfl, h1, hb1⟩
  rw [HLL.out] at h1
  obtain ⟨y0, y1, y2, y3, y4⟩ := (HX.out.below hb1).cells
  obtain ⟨A1, d1, e1⟩ := Kd.R_slice h1
  subst e1
  have HR1 := Lib.hid h1
  have HB1 := Lib.hid hb1
  have HP3 := Lib.hid (HP.out.below hb1)
  clear h1 hb1
  go_wp2_with fail
  refine (reach_any HP3.out.b HP3.out.wf a).mono ?_
  rintro e w4 ⟨v2, rfl, h2, hb2⟩
  rw [HLL.out] at h2
  obtain ⟨A2, d2, e2⟩ := Kd.R_slice h2
  subst e2
  have HR2 := Lib.hid h2
  have HB2 := Lib.hid hb2
  clear h2 hb2
  go_wp2_with fail
  refine (same_any (Kd.reads_of_C (Kd.C_below (Kd.R_reads' HR1.out).2.2 HB2.out)) (Kd.reads_of_C (Kd.R_reads' HR2.out).2.2)).mono ?_
  rintro e w' ⟨rfl, m, rfl⟩
  go_wp2
  go_ret2
  exact eached HB.out HP3.out H.out HR1.out HB1.out HB2.out m hll
set_option maxHeartbeats 2000000 in
theorem plays_other (h : PIn w B S1 S2 qb rb q) (kd who a b : Int) (hk : kd ≠ 2 ∧ kd ≠ 3 ∧ kd ≠ 4 ∧ kd ≠ 5) :
    Calls Try.prog 22 #[.agg #[.pointer (some ⟨qb, 0, none⟩), .pointer (some ⟨rb, 0, none⟩)], .agg #[.int .i64 kd, .int .i64 who, .int .i64 a, .int .i64 b]] w (Played w B S1 S2 qb rb q kd) := by
  obtain ⟨W, hW⟩ : ∃ W, (w.alloc (.cells #[.pointer (some ⟨qb, 0, none⟩), .pointer (some ⟨rb, 0, none⟩)] 49)).alloc (.cells #[.int .i64 kd, .int .i64 who, .int .i64 a, .int .i64 b] 53) = W := ⟨_, rfl⟩
  have hb : Below w.heap.size w W := by subst hW; exact below_alloc (below_alloc (Below.refl _ _) _) _
  have hx : Bx w W qb rb kd who a b := by subst hW; exact Bx.start _ _ _ _ _ _ _
  have hP := h.below hb
  obtain ⟨x0, x1, x2, x3, x4⟩ := hx.cells
  have H := Lib.hid h
  have HB := Lib.hid hb
  have HX := Lib.hid hx
  have HP := Lib.hid hP
  clear h hb hx hP
  have t2 : (kd == 2) = false := beq_eq_false_iff_ne.2 hk.1
  have t3 : (kd == 3) = false := beq_eq_false_iff_ne.2 hk.2.1
  have t4 : (kd == 4) = false := beq_eq_false_iff_ne.2 hk.2.2.1
  have t5 : (kd == 5) = false := beq_eq_false_iff_ne.2 hk.2.2.2
  clear hk
  go_enter Try.func22, Try.ntmps22
  go_wp2
  go_ret2
  exact PLeft.played HB.out (looked HP.out (Below.refl _ _) 0) rfl

theorem plays_any (h : PIn w B S1 S2 qb rb q) (kd who a b : Int) :
    Calls Try.prog 22 #[.agg #[.pointer (some ⟨qb, 0, none⟩), .pointer (some ⟨rb, 0, none⟩)], .agg #[.int .i64 kd, .int .i64 who, .int .i64 a, .int .i64 b]] w (Played w B S1 S2 qb rb q kd) := by
  by_cases h2 : kd = 2
  · subst h2; exact plays_push h who a b
  by_cases h3 : kd = 3
  · subst h3; exact plays_pop h who a b
  by_cases h4 : kd = 4
  · subst h4; exact plays_look h who a b
  by_cases h5 : kd = 5
  · subst h5; exact plays_each h who a b
  exact plays_other h kd who a b ⟨h2, h3, h4, h5⟩
end Go.Proofs.Ytekgdlpicgibhaa.QI
