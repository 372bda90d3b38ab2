/-
  twin: the writes in new memory, with marks behind each; stays.
-/
import Derived.Test.YtekgdlpicgibhabE3
namespace Go.Proofs.Ytekgdlpicgibhab.EX
open Go.RowKit Go.Proofs.YtekgdlpicgibhabW.PrintWords

/-- A slice value. -/
structure Sl where
  A : Option Addr
  n : Nat
  c : Nat
def Sl.val (x : Sl) : Value := .slice x.A x.n x.c
/-- Rows of pending writes. -/
def kQ : Kd (Int × Sl) := Kd.iso (Kd.raw 2) (fun x => [.int .i64 x.1, x.2.val])
theorem kQ_mk {w : World} {base : Nat} {ok : Nat → Prop} {x : Int × Sl} {cs : List Value} (h : cs = [.int .i64 x.1, x.2.val]) : kQ.M w base ok x cs := by
  subst h
  exact ⟨rfl, rfl, by intro u hu; simp only [List.mem_cons, List.not_mem_nil, or_false] at hu; rcases hu with rfl | rfl <;> rfl⟩
theorem info30 : (Try.prog.info? 30).map (fun i => (i.zero, i.size, i.bytes)) = some (some (.agg #[.int .i64 0, .slice none 0 0]), 2, 32) := by kernel_rfl
def Rq (w : World) (b : Nat) (v : Value) (T : List (Int × Sl)) : Prop := kQ.R 30 w b (fun _ => True) v T
theorem Rq.keep {w w1 : World} {b : Nat} {v : Value} {xs : List (Int × Sl)} (h : Rq w b v xs) (hk : ∀ k, v.ownBlock = some k → w1.heap[k]? = w.heap[k]?) : Rq w1 b v xs :=
  Kd.R_mono (Kd.R_step (Kd.R_tight rfl h) (fun k hk' _ => hk k hk'.symm)) (fun _ _ => trivial)
theorem Rq.cell {w : World} {b : Nat} {A : Option Addr} {n c : Nat} {xs : List (Int × Sl)} (h : Rq w b (.slice A n c) xs) {j : Nat} {x : Int × Sl} (hx : xs[j]? = some x) :
    ∃ g, A = some ⟨g, 0, none⟩ ∧ w.cell? ⟨g, j * 2, none⟩ = some (.int .i64 x.1) ∧ w.cell? ⟨g, j * 2 + 1, none⟩ = some (.slice x.2.A x.2.n x.2.c) := by
  obtain ⟨hn, _, hC⟩ := Kd.R_reads' h
  have hj : j < xs.length := (List.getElem?_eq_some_iff.1 hx).1
  obtain ⟨ad, cs, hA, _, hK, hc⟩ := Kd.C_get hC x (j : Int) (by omega) (by omega)
  simp only [Int.toNat_natCast] at hK hc
  rw [List.getD_eq_getElem?_getD, hx] at hK
  obtain ⟨rfl, _⟩ := hK
  subst hA
  obtain ⟨g, rfl⟩ := Kd.R_head h
  have e : ∀ n, Addr.add ⟨g, 0, none⟩ n = ⟨g, n, none⟩ := by
    intro n
    unfold Addr.add
    split
    · next h => rw [h]
    · simp
  have z0 := hc 0 _ rfl
  have z1 := hc 1 _ rfl
  rw [e] at z0 z1
  exact ⟨g, rfl, z0, z1⟩

/-- The writes in new memory, with marks behind each. -/
structure Tw (w : World) (b : Nat) (v : Value) (T : List (Int × Sl)) (ps : List (Int × List Int)) : Prop where
  row : Rq w b v T
  len : T.length = ps.length
  at_ : ∀ (k : Nat) (x : Int × Sl) (p : Int × List Int), T[k]? = some x → ps[k]? = some p → x.1 = p.1 ∧ x.2.n = p.2.length ∧ Rb w b (.slice x.2.A (x.2.n + 2) x.2.c) (p.2 ++ [201, 202])
theorem Tw.below {w w1 : World} {b : Nat} {v : Value} {T : List (Int × Sl)} {ps : List (Int × List Int)} (h : Tw w b v T ps) (hb : Below w.heap.size w w1) : Tw w1 b v T ps :=
  ⟨h.row.keep (fun k hk => hb.block k (Kd.R_lt h.row k hk)), h.len, fun k x p hx hp => ⟨(h.at_ k x p hx hp).1, (h.at_ k x p hx hp).2.1, (h.at_ k x p hx hp).2.2.below hb⟩⟩
theorem Tw.next {w w4 : World} {b : Nat} {v v1 : Value} {T : List (Int × Sl)} {ps : List (Int × List Int)} (h : Tw w b v T ps) {s : Sl} {bk : Int} {xs : List Int} (hn : s.n = xs.length) (hs : Rb w b (.slice s.A (s.n + 2) s.c) (xs ++ [201, 202]))
    (hR : Rq w4 b v1 (T ++ [(bk, s)])) (hg : w.grownBy w4 v.ownBlock) : Tw w4 b v1 (T ++ [(bk, s)]) (ps ++ [(bk, xs)]) where
  row := hR
  len := by simp [h.len]
  at_ := fun k x p hx hp => by
    have far : ∀ (u : Value) (ys : List Int), Rb w b u ys → Rb w4 b u ys := fun u ys hu => hu.keep (fun j hj => hg.block j (hu.lt j hj) (fun e => by
      obtain ⟨c1, h1⟩ := Kd.R_typed hu j hj
      obtain ⟨c2, h2⟩ := Kd.R_typed h.row j e.symm
      exact cells_ne h1 h2 (by decide) rfl))
    by_cases hk : k < T.length
    · rw [List.getElem?_append_left hk] at hx
      rw [List.getElem?_append_left (by rw [← h.len]; exact hk)] at hp
      obtain ⟨a, c, d⟩ := h.at_ k x p hx hp
      exact ⟨a, c, far _ _ d⟩
    · obtain rfl : k = T.length := by have := (List.getElem?_eq_some_iff.1 hx).1; simp at this; omega
      rw [List.getElem?_append_right (Nat.le_refl _), Nat.sub_self] at hx
      rw [h.len, List.getElem?_append_right (Nat.le_refl _), Nat.sub_self] at hp
      simp at hx hp
      subst hx
      subst hp
      exact ⟨rfl, hn, far _ _ hs⟩
theorem Rd.front {w : World} {A : Option Addr} {n c : Nat} {xs ys : List Int} (h : Rd w (.slice A n c) (xs ++ ys)) : Rd w (.slice A xs.length c) xs := by
  obtain ⟨A', c', e, h1, h2, h3⟩ := h
  cases e
  refine ⟨A, c, rfl, rfl, by simp at h2; omega, fun hn => ?_⟩
  obtain ⟨ad, e', hc⟩ := h3 (by simp; omega)
  refine ⟨ad, e', fun j hj => ?_⟩
  rw [hc j (by simp; omega)]
  simp [List.getElem?_append_left hj]
theorem Tw.pend {w : World} {b : Nat} {v : Value} {T : List (Int × Sl)} {ps : List (Int × List Int)} (h : Tw w b v T ps) : PendAt w v ps := by
  obtain ⟨A, c, e⟩ := Kd.R_slice h.row
  refine ⟨A, c, by rw [e, h.len], fun k p hp => ?_⟩
  have hk : k < T.length := by rw [h.len]; exact (List.getElem?_eq_some_iff.1 hp).1
  obtain ⟨x, hx⟩ : ∃ x, T[k]? = some x := ⟨_, List.getElem?_eq_getElem hk⟩
  obtain ⟨h1, h2, h3⟩ := h.at_ k x p hx hp
  have hr := h.row
  rw [e] at hr
  obtain ⟨g, rfl, z0, z1⟩ := Rq.cell hr hx
  have ea : ∀ n, Addr.add ⟨g, 0, none⟩ n = ⟨g, n, none⟩ := by
    intro n
    unfold Addr.add
    split
    · next h => rw [h]
    · simp
  refine ⟨⟨g, 0, none⟩, x.2.A, x.2.c, rfl, by have := World.block_lt_of_cell? w _ z0; exact this, by rw [ea, z0, h1], by rw [ea, z1, h2], ?_⟩
  exact h3.rd.front
theorem two_cells (W : World) (a b : Value) (t : TypeId) : ∀ (j : Nat) (u : Value), [a, b][j]? = some u → (W.alloc (.cells #[a, b] t)).cell? (Addr.add ⟨W.heap.size, 0, none⟩ j) = some u := by
  intro j u hj
  have e : Addr.add ⟨W.heap.size, 0, none⟩ j = ⟨W.heap.size, j, none⟩ := by
    unfold Addr.add
    split
    · next h => rw [h]
    · simp
  rw [e]
  refine (blk_cell (heap_alloc_new W _) j).trans ?_
  simpa using hj
set_option maxRecDepth 100000 in
set_option maxHeartbeats 2000000 in
theorem twin_any {w : World} {A : Option Addr} {n cap : Nat} {ps : List (Int × List Int)} (hC : PendAt w (.slice A n cap) ps) (hl : ∀ p ∈ ps, p.2.length ≤ 1099511627776) (hL : ps.length ≤ 1099511627776) :
    Calls Try.prog 11 #[.slice A n cap] w fun e w' => ∃ v T, e = .returned v ∧ Tw w' w.heap.size v T ps ∧ Below w.heap.size w w' := by
  have HCw := Lib.hid hC
  obtain ⟨A1, c1, e1, hX⟩ := hC
  cases e1
  have HX := Lib.hid hX
  have HL := Lib.hid hl
  clear hX hl
  go_enter Try.func11, Try.ntmps11
  go_wp2
  go_loopw [3, 4] (fun v i wr => ∃ (k : Nat) (T : List (Int × Sl)), k ≤ ps.length ∧ i = .int .i64 k ∧ Tw wr w.heap.size v T (ps.take k) ∧ Below w.heap.size w wr) (fun _ i _ => ps.length - (intOf i).toNat)
  case atStart => exact ⟨0, [], Nat.zero_le _, rfl, ⟨Kd.R_nil _ _ _ _ _, by simp, fun k x p hx => by simp at hx⟩, Below.refl _ _⟩
  case round =>
    obtain ⟨k, T, hk, rfl, hT, hb⟩ := hrel
    obtain ⟨Ar, cr, e⟩ := Kd.R_slice hT.row
    have hTl : T.length = k := by rw [hT.len, List.length_take, Nat.min_eq_left hk]
    rw [hTl] at e
    subst e
    have HT := Lib.hid hT
    have HB := Lib.hid hb
    have HTL := Lib.hid hTl
    clear hT hb hTl
    by_cases hlt : k < ps.length
    · obtain ⟨p, hp⟩ : ∃ p, ps[k]? = some p := ⟨_, List.getElem?_eq_getElem hlt⟩
      obtain ⟨bk, x⟩ := p
      obtain ⟨ad, A1', c1', rfl, had, hc0, hc1, hR⟩ := HX.out k _ hp
      have hxl := HL.out _ (List.mem_of_getElem? hp)
      simp only at hxl hc0 hc1 hR
      have z0 := (HB.out.cell (p := ad.add (k * 2)) (by rw [add_block]; exact had)).trans hc0
      have z1 := (HB.out.cell (p := ⟨(ad.add (k * 2)).block, (ad.add (k * 2)).off + 1, none⟩) (by show (ad.add (k * 2)).block < _; rw [add_block]; exact had)).trans hc1
      have HR := Lib.hid (hR.below (Nat.le_refl _) HB.out)
      have HXL := Lib.hid hxl
      have HP := Lib.hid hp
      have HZ0 := Lib.hid hc0
      have HZ1 := Lib.hid hc1
      clear hR hp hxl hc0 hc1
      go_wp2_with fail
      refine (bytes_any HR.out HXL.out).mono ?_
      rintro e w3 ⟨v3, rfl, hR3, hb3⟩
      obtain ⟨A3, c3, e3⟩ := Kd.R_slice hR3
      subst e3
      have HR3 := Lib.hid hR3
      have HB3 := Lib.hid hb3
      clear hR3 hb3 z0 z1
      obtain ⟨i0, hi, hz0, hz1, hz2⟩ := info_parts info5
      have HO := Lib.hid (Kd.own_of_R (HR3.out.below (below_alloc (Below.refl _ w3) (.cells #[.int .u8 201, .int .u8 202] 5))))
      have HS3 : Hid (wr.heap.size ≤ (w3.alloc (.cells #[.int .u8 201, .int .u8 202] 5)).heap.size) := by
        have := HB3.out.size
        show _ ≤ _
        rw [World.size_alloc]
        omega
      have hxl2 : x.length ≤ 1099511627776 := HXL.out
      go_upto_region 7 with (first | (at_builtin; go_loud (refine wpList_append_own _ rfl (.tmp 18) (.tmp 19) 24 rfl wr.heap.size 5 i0 (.int .u8 0) 1 1 Try.underlying24 hi hz0 hz1 hz2 rfl (by decide) (.slice A3 x.length c3) x.length (encs (Value.int .u8) x) rfl HO.out ⟨w3.heap.size, 0, none⟩ 2 2 [.int .u8 201, .int .u8 202] rfl rfl (two_cells w3 _ _ 5) (by intro u hu; simp only [List.mem_cons, List.not_mem_nil, or_false] at hu; rcases hu with rfl | rfl <;> rfl) (by unfold maxLen; omega) (by omega) HS3.out ?_); intro v4 w4 ho4 hg4 hz; clear hz; have HO4 := Lib.hid ho4; have HG4 := Lib.hid hg4; clear ho4 hg4))
      have hg4' : (w3.alloc (.cells #[.int .u8 201, .int .u8 202] 5)).grownBy w4 (Value.slice A3 x.length c3).ownBlock := HG4.out
      have hR4 : Rb w4 wr.heap.size v4 (x ++ [201, 202]) := Kd.R_of_own (xs := x ++ [201, 202]) (by have := HO4.out; simpa [encs] using this) (fun _ _ => trivial)
      have hB4 : Below wr.heap.size wr w4 := (HB3.out.trans ((below_alloc (Below.refl _ w3) _).mono HB3.out.size)).grown hg4' HS3.out (fun j hj => HR3.out.base j hj)
      obtain ⟨A4, c4, e4⟩ := Kd.R_slice hR4
      have hcap : (x ++ [201, 202]).length ≤ c4 := by
        obtain ⟨A', c', e', hc', _⟩ := Kd.R_reads hR4
        rw [e4] at e'
        cases e'
        exact hc'
      simp only [List.length_append, List.length_cons, List.length_nil, Nat.zero_add, Nat.reduceAdd] at e4 hcap
      subst e4
      have HR4 := Lib.hid hR4
      have HB4 := Lib.hid hB4
      clear hR4 hB4 hg4' HO4 HG4 HO HS3 HR3 HB3 hi hz0 hz1 hz2
      have z0 := (HB.out.trans (HB4.out.mono HB.out.size)).cell (p := ad.add (k * 2)) (by rw [add_block]; exact had) |>.trans HZ0.out
      have z1 := (HB.out.trans (HB4.out.mono HB.out.size)).cell (p := ⟨(ad.add (k * 2)).block, (ad.add (k * 2)).off + 1, none⟩) (by show (ad.add (k * 2)).block < _; rw [add_block]; exact had) |>.trans HZ1.out
      have HT4 := Lib.hid (HT.out.below HB4.out)
      have hbase : w.heap.size ≤ w4.heap.size := Nat.le_trans HB.out.size HB4.out.size
      have hTl : T.length = k := HTL.out
      have hcc : (x.length : Int) ≤ (c4 : Int) := by omega
      go_region_law ((refine Kd.R_append_step kQ w.heap.size (by rfl) (.tmp 21) (.tmp 36) 25 30 (.agg #[.int .i64 0, .slice none 0 0]) 32 (by rfl) Try.underlying25 info30 rfl (by decide) (by decide) (.slice Ar k cr) T (bk, ⟨A4, x.length, c4⟩) [.int .i64 bk, .slice A4 x.length c4] (fun _ => True) (fun _ => False) (by rfl) (by rfl) (kQ_mk rfl) (fun _ hk => hk.elim) (fun _ _ => trivial) (Kd.R_drewN HT4.out.row _) (pw_below_drewN (Below.refl w.heap.size w4) _) (by exact hbase) (by omega) ?_; intro v5 w5 hR5 hb5 hg5 hat5; have hg6 : w4.grownBy w5 (Value.slice Ar k cr).ownBlock := ⟨hg5.os, hg5.tape, hg5.output, hg5.size, hg5.block⟩; have HN := Lib.hid (HT4.out.next (s := ⟨A4, x.length, c4⟩) (bk := bk) (xs := x) rfl (HR4.out.lower HB.out.size) (w4 := w5) (v1 := v5) hR5 hg6); have HB5 := Lib.hid ((HB.out.trans (HB4.out.mono HB.out.size)).grown hg6 hbase (fun j hj => Kd.R_base HT4.out.row j hj)); clear hR5 hb5 hg5 hg6 hat5))
      all_goals
        go_wp2
        go_roundw
        case rel => exact ⟨k + 1, _, hlt, by go_num, by rw [List.take_add_one, HP.out]; exact HN.out, HB5.out⟩
        case measure => simp [intOf]; omega
    · obtain rfl : k = ps.length := by omega
      go_wp2
      go_ret
      exact ⟨_, T, rfl, by have := HT.out; rwa [List.take_length] at this, HB.out⟩
end Go.Proofs.Ytekgdlpicgibhab.EX
