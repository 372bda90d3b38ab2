/-
  A device tells what pends.
-/
import Derived.Test.YtekgdlpicgibhabD1
namespace Go.Proofs.Ytekgdlpicgibhab.EX
open Go.RowKit Go.Proofs.YtekgdlpicgibhabW.PrintWords Go.MuLone

/-- Pending writes in memory of their own. -/
structure PO (w : World) (b : Nat) (v : Value) (T : List (Int × Sl)) (P : List (Int × List Int)) : Prop where
  row : Rq w b v T
  len : T.length = P.length
  at_ : ∀ (k : Nat) (x : Int × Sl) (p : Int × List Int), T[k]? = some x → P[k]? = some p → x.1 = p.1 ∧ x.2.n = p.2.length ∧ Rb w b x.2.val p.2
section
variable {w w1 : World} {b : Nat} {v : Value} {T : List (Int × Sl)} {P : List (Int × List Int)}
theorem PO.nil (w : World) (b : Nat) : PO w b (.slice none 0 0) [] [] := ⟨Kd.R_nil _ _ _ _ _, rfl, fun k x p hx => by simp at hx⟩
theorem PO.below (h : PO w b v T P) (hb : Below w.heap.size w w1) : PO w1 b v T P :=
  ⟨h.row.keep (fun k hk => hb.block k (Kd.R_lt h.row k hk)), h.len, fun k x p hx hp => ⟨(h.at_ k x p hx hp).1, (h.at_ k x p hx hp).2.1, (h.at_ k x p hx hp).2.2.below hb⟩⟩
theorem PO.next {w4 : World} {v1 : Value} (h : PO w b v T P) {s : Sl} {bk : Int} {xs : List Int} (hn : s.n = xs.length) (hs : Rb w b s.val xs) (hR : Rq w4 b v1 (T ++ [(bk, s)])) (hg : w.grownBy w4 v.ownBlock) : PO w4 b v1 (T ++ [(bk, s)]) (P ++ [(bk, xs)]) where
  row := hR
  len := by simp [h.len]
  at_ := fun k x p hx hp => by
    have far : ∀ (u : Value) (ys : List Int), Rb w b u ys → Rb w4 b u ys := fun u ys hu => hu.keep (fun j hj => hg.block j (hu.lt j hj) (fun e => by
      obtain ⟨c1, h1⟩ := Kd.R_typed hu j hj
      obtain ⟨c2, h2⟩ := Kd.R_typed h.row j e.symm
      exact cells_ne h1 h2 (by decide) rfl))
    by_cases hk : k < T.length
    · rw [List.getElem?_append_left hk] at hx
      rw [List.getElem?_append_left (by rw [← h.len]; exact hk)] at hp
      obtain ⟨a, c, d⟩ := h.at_ k x p hx hp
      exact ⟨a, c, far _ _ d⟩
    · obtain rfl : k = T.length := by have := (List.getElem?_eq_some_iff.1 hx).1; simp at this; omega
      rw [List.getElem?_append_right (Nat.le_refl _), Nat.sub_self] at hx
      rw [h.len, List.getElem?_append_right (Nat.le_refl _), Nat.sub_self] at hp
      simp at hx hp
      subst hx
      subst hp
      exact ⟨rfl, hn, far _ _ hs⟩
theorem PO.set (h : PO w b v T P) {g i : Nat} {cs : Array Value} (hg : w.heap[g]? = some (.cells cs 87 (0, 0))) (u : Value) : PO (w.setCell ⟨g, i, none⟩ u) b v T P :=
  ⟨h.row.keep (fun k hk => Below.heap_setCell _ _ _ _ (fun e => by
    have e' : k = g := e
    subst e'
    obtain ⟨c1, h1⟩ := Kd.R_typed h.row k hk
    exact cells_ne h1 hg (by decide) rfl)), h.len, fun k x p hx hp => ⟨(h.at_ k x p hx hp).1, (h.at_ k x p hx hp).2.1, (h.at_ k x p hx hp).2.2.set hg (by decide) u⟩⟩
theorem PO.pend (h : PO w b v T P) : PendAt w v P := by
  obtain ⟨A, c, e⟩ := Kd.R_slice h.row
  refine ⟨A, c, by rw [e, h.len], fun k p hp => ?_⟩
  have hk : k < T.length := by rw [h.len]; exact (List.getElem?_eq_some_iff.1 hp).1
  obtain ⟨x, hx⟩ : ∃ x, T[k]? = some x := ⟨_, List.getElem?_eq_getElem hk⟩
  obtain ⟨h1, h2, h3⟩ := h.at_ k x p hx hp
  have hr := h.row
  rw [e] at hr
  obtain ⟨g, rfl, z0, z1⟩ := Rq.cell hr hx
  refine ⟨⟨g, 0, none⟩, x.2.A, x.2.c, rfl, by have := World.block_lt_of_cell? w _ z0; exact this, by rw [add_zero_plain, z0, h1], by rw [add_zero_plain, z1, h2], ?_⟩
  have h4 := h3.rd
  rw [← h2]
  exact h4
end
section
variable {w : World} {b g mb m : Nat} {vd vP : Value} {T : List (Int × Sl)} {D : List Int} {P : List (Int × List Int)}
set_option maxRecDepth 100000 in
set_option maxHeartbeats 4000000 in
theorem pending_any (h : Dev w 0 b g mb m vd vP T D P) (hl : ∀ p ∈ P, p.2.length ≤ 1099511627776) (hL : P.length ≤ 1048576) :
    Calls Try.prog 26 #[.pointer (some ⟨g, 0, none⟩)] w fun e w' => ∃ v T', e = .returned v ∧ PO w' w.heap.size v T' P ∧ Dev w' 0 b g mb m vd vP T D P ∧ Only (devS g mb vd vP) w w' := by
  obtain ⟨A, c, A', c', e1, e2⟩ := h.slices
  obtain ⟨z0, z2, z3, z4, z5, z6, hf⟩ := h.cells
  have f0 := hf 0
  have H1 := Lib.hid (h.lock 1)
  have HSZ : Hid (w.heap.size = (w.setCell ⟨g, 0, none⟩ (.int .i32 1)).heap.size) := by show _ = _; simp
  obtain ⟨w1, hw1⟩ : ∃ w1, w.setCell ⟨g, 0, none⟩ (.int .i32 1) = w1 := ⟨_, rfl⟩
  have HO1 : Hid (Only (devS g mb vd vP) w w1) := by show Only _ _ _; rw [← hw1]; exact only_lock w g _
  rw [hw1] at H1 HSZ
  have HW := Lib.hid hw1
  obtain ⟨_, _, y3, _⟩ := H1.out.cells
  rw [e2] at y3
  have HE := Lib.hid e2
  have HL := Lib.hid hl
  clear h hf hw1 e1 e2 z2 z3 z4 z5 z6 hl
  go_enter_defers Try.func26, Try.ntmps26
  go_wp2_with (go_at_call 41; refine (lock_free muLib ⟨g, 0, none⟩ _ z0 f0).mono ?_; rintro e w' ⟨rfl, rfl⟩; rw [HW.out])
  go_loopw [3, 18] (fun v i wr => ∃ (k : Nat) (T' : List (Int × Sl)), k ≤ P.length ∧ i = .int .i64 k ∧ PO wr w1.heap.size v T' (P.take k) ∧ Below w1.heap.size w1 wr) (fun _ i _ => P.length - (intOf i).toNat)
  case atStart => exact ⟨0, [], Nat.zero_le _, rfl, PO.nil _ _, Below.refl _ _⟩
  case round =>
    obtain ⟨k, T', hk, rfl, hP, hb⟩ := hrel
    obtain ⟨Ar, cr, e⟩ := Kd.R_slice hP.row
    have hTl : T'.length = k := by rw [hP.len, List.length_take, Nat.min_eq_left hk]
    rw [hTl] at e
    subst e
    have HP := Lib.hid hP
    have HB := Lib.hid hb
    have HTL := Lib.hid hTl
    have HD := Lib.hid (H1.out.below hb)
    clear hP hb hTl
    by_cases hlt : k < P.length
    · obtain ⟨p, hp⟩ : ∃ p, P[k]? = some p := ⟨_, List.getElem?_eq_getElem hlt⟩
      obtain ⟨x, hx⟩ : ∃ x, T[k]? = some x := ⟨_, List.getElem?_eq_getElem (by rw [HD.out.len]; exact hlt)⟩
      obtain ⟨h1, h2, h3⟩ := HD.out.at_ k x p hx hp
      have hrow := HD.out.row
      rw [HE.out] at hrow
      obtain ⟨gp, rfl, u0, u1⟩ := Rq.cell hrow hx
      obtain ⟨bk, xs⟩ := p
      obtain ⟨xb, xA, xn, xc⟩ := x
      simp only at h1 h2 h3 u0 u1
      subst h1
      subst h2
      have hxl := HL.out _ (List.mem_of_getElem? hp)
      simp only at hxl
      have HR := Lib.hid h3.rd
      have HPk := Lib.hid hp
      clear hrow hx h3 hp
      go_upto_region 7 with fail
      obtain ⟨W6, hW6⟩ : ∃ W6, wr.alloc (.cells #[.int .i64 xb, .slice xA xs.length xc] 30) = W6 := ⟨_, rfl⟩
      rw [hW6]
      have hbb : W6.heap[wr.heap.size]? = some (.cells #[.int .i64 xb, .slice xA xs.length xc] 30 (0, 0)) := by subst hW6; exact heap_alloc_new wr _
      have hB6 : Below wr.heap.size wr W6 := by subst hW6; exact below_alloc (Below.refl _ _) _
      have t0 : W6.cell? ⟨wr.heap.size, 0, none⟩ = some (.int .i64 xb) := (blk_cell hbb 0).trans rfl
      have t1 : W6.cell? ⟨wr.heap.size, 1, none⟩ = some (.slice xA xs.length xc) := (blk_cell hbb 1).trans rfl
      have HR6 := Lib.hid (HR.out.below (Nat.le_refl _) hB6)
      clear hbb hW6 u0 u1
      have HB6 := Lib.hid hB6
      clear hB6
      have hcl : Hid (∀ m, Calls Try.prog 45 #[.slice xA xs.length xc] (W6.drewN m) (Copied (W6.drewN m) xs)) := fun m => clone_any (HR6.out.drewN m) hxl
      have HPT := Lib.hid (HP.out.below HB6.out)
      have HBT : Hid (Below w1.heap.size w1 W6) := HB.out.trans (HB6.out.mono HB.out.size)
      refine wp_region_noPanic ?_
      go_region_law (first | ((refine Kd.R_append_step kQ w1.heap.size (by rfl) (.tmp 22) (.tmp 29) 25 30 (.agg #[.int .i64 0, .slice none 0 0]) 32 (by rfl) Try.underlying25 info30 rfl (by decide) (by decide) (.slice Ar k cr) T' (xb, ⟨A7, xs.length, c7⟩) [.int .i64 xb, .slice A7 xs.length c7] (fun _ => True) (fun _ => False) (by rfl) (by rfl) (kQ_mk rfl) (fun _ hk => hk.elim) (fun _ _ => trivial) (HPX.out.row) (Below.refl _ _) (by exact HBS.out) (by have := HTL.out; omega) ?_; intro v5 w5 hR5 hb5 hg5 hat5; have HN := Lib.hid (HPX.out.next (s := ⟨A7, xs.length, c7⟩) (bk := xb) (xs := xs) rfl HR7.out (v1 := v5) hR5 hg5); have HBN := Lib.hid (HBX.out.grown hg5 HBS.out (fun j hj => Kd.R_base HPX.out.row j hj)); clear hR5 hb5 hg5 hat5)) | (go_simp; go_at_call 45; refine (hcl.out _).mono ?_; rintro e w7 ⟨v7, rfl, hR7, hb7⟩; obtain ⟨A7, c7, e7⟩ := Kd.R_slice hR7; subst e7; have hb8 := (pw_below_drewN (Below.refl W6.heap.size W6) _).trans hb7; have t0 := (hb8.cell (p := ⟨wr.heap.size, 0, none⟩) (World.block_lt_of_cell? W6 _ t0)).trans t0; have HPX := Lib.hid (HPT.out.below hb8); have HBX : Hid (Below w1.heap.size w1 w7) := HBT.out.trans (hb8.mono HBT.out.size); have HBS : Hid (w1.heap.size ≤ w7.heap.size) := HBX.out.size; have HR7 : Hid (Rb w7 w1.heap.size (.slice A7 xs.length c7) xs) := hR7.lower HBT.out.size; clear hR7 hb7 hb8))
      all_goals
        refine NoPanic.normal ?_
        go_wp2
        go_roundw
        case rel => exact ⟨k + 1, _, hlt, by go_num, by rw [List.take_add_one, HPk.out]; exact HN.out, HBN.out⟩
        case measure => simp [intOf]; omega
    · obtain rfl : k = P.length := by omega
      have hp2 := HP.out
      rw [List.take_length] at hp2
      have HP2 := Lib.hid hp2
      obtain ⟨y0, _, _, _, _, _, yf⟩ := HD.out.cells
      have yf0 := yf 0
      clear hp2 yf
      go_wp2
      refine leaves_cons (f := 42) (args := #[.pointer (some ⟨g, 0, none⟩)]) (by simp) (by simp [go_sem]) ?_
      refine (unlock_deferred muLib ⟨g, 0, none⟩ .returning _ y0 yf0).mono ?_
      rintro e u' w'' ⟨rfl, rfl, rfl⟩
      refine ⟨_, results_tmp rfl _ _ _, _, T', rfl, ?_, HD.out.lock 0, (HO1.out.then_below HB.out).set 0 _⟩
      obtain ⟨cs, hg⟩ := HD.out.typ
      rw [HSZ.out]
      exact HP2.out.set hg _
end
end Go.Proofs.Ytekgdlpicgibhab.EX
