/-
  copies; the twin, each of its writes in a block of its own; what holds between the rounds of ExploreOwns.
-/
import Derived.Test.YtekgdlpicgibhabE12
import Derived.Test.YtekgdlpicgibhabE18
import Derived.IntWalk
namespace Go.Proofs.Ytekgdlpicgibhab.EX
open Go.RowKit Go.Proofs.YtekgdlpicgibhabW.PrintWords

set_option maxRecDepth 100000 in
theorem copies_any {w : World} {A : Option Addr} {n cap : Nat} {Xs : List (List Int)} (hC : ListAt w (.slice A n cap) Xs) (hl : ∀ x ∈ Xs, x.length ≤ 1099511627776) (hL : Xs.length ≤ 1048576) :
    Calls Try.prog 18 #[.slice A n cap] w fun e w' => ∃ v L, e = .returned v ∧ Im w' w.heap.size v L Xs ∧ Below w.heap.size w w' := by
  have HCw := Lib.hid hC
  obtain ⟨A1, c1, e1, hX⟩ := hC
  cases e1
  have HX := Lib.hid hX
  have HL := Lib.hid hl
  clear hX hl
  go_enter Try.func18, Try.ntmps18
  go_wp2
  go_loopw [3, 4] (fun v i wr => ∃ (k : Nat) (L : List Sl), k ≤ Xs.length ∧ i = .int .i64 k ∧ Im wr w.heap.size v L (Xs.take k) ∧ Below w.heap.size w wr) (fun _ i _ => Xs.length - (intOf i).toNat)
  case atStart => exact ⟨0, [], Nat.zero_le _, rfl, Im.nil _ _, Below.refl _ _⟩
  case round =>
    obtain ⟨k, L, hk, rfl, hI, hb⟩ := hrel
    obtain ⟨Ar, cr, e⟩ := Kd.R_slice hI.row
    have hTl : L.length = k := by rw [hI.len, List.length_take, Nat.min_eq_left hk]
    rw [hTl] at e
    subst e
    have HI := Lib.hid hI
    have HB := Lib.hid hb
    have HTL := Lib.hid hTl
    clear hI hb hTl
    by_cases hlt : k < Xs.length
    · obtain ⟨x, hp⟩ : ∃ p, Xs[k]? = some p := ⟨_, List.getElem?_eq_getElem hlt⟩
      obtain ⟨ad, A1', c1', rfl, had, hc0, hR⟩ := HX.out k _ hp
      have hxl := HL.out _ (List.mem_of_getElem? hp)
      have z0 := (HB.out.cell (p := ad.add k) (by rw [add_block]; exact had)).trans hc0
      have HR := Lib.hid (hR.below (Nat.le_refl _) HB.out)
      have HXL := Lib.hid hxl
      have HP := Lib.hid hp
      clear hR hp hxl hc0
      go_wp2_with fail
      refine (bytes_any HR.out HXL.out).mono ?_
      rintro e w3 ⟨v3, rfl, hR3, hb3⟩
      obtain ⟨A3, c3, e3⟩ := Kd.R_slice hR3
      subst e3
      have HR3 := Lib.hid hR3
      have HB3 := Lib.hid hb3
      have HI3 := Lib.hid (HI.out.below hb3)
      have HBS : Hid (w.heap.size ≤ w3.heap.size) := Nat.le_trans HB.out.size hb3.size
      clear hR3 hb3 z0
      go_wp2_with (first | (at_builtin; go_loud (refine Kd.R_append kV (w0 := w3) w.heap.size rfl (.tmp 11) (.tmp 17) 31 24 (.slice none 0 0) 24 rfl Try.underlying31 info24 rfl (by decide) (by decide) (.slice Ar k cr) L (⟨A3, x.length, c3⟩ : Sl) [.slice A3 x.length c3] (fun _ => True) (fun _ => False) rfl rfl (kV_mk rfl) (fun _ hk => hk.elim) (fun _ _ => trivial) HI3.out.row (show Below w.heap.size w3 w3 from ⟨rfl, rfl, rfl, Nat.le_refl _, fun _ _ => rfl⟩) HBS.out (by rw [HTL.out]; omega) ?_); intro v9 w9 hR9 _ hg9 hat9; have HN := Lib.hid (HI3.out.next (s := ⟨A3, x.length, c3⟩) (X := x) (HR3.out.lower HB.out.size) rfl (fun t g y hy hg e => by have h1 := (HI.out.lt hy) g hg; have h2 := HR3.out.base g e; omega) hR9 hg9); have HB9 := Lib.hid ((HB.out.trans (HB3.out.mono HB.out.size)).grown hg9 HBS.out (fun j hj => Kd.R_base HI3.out.row j hj)); clear hR9 hg9 hat9))
      go_roundw
      case rel => exact ⟨k + 1, _, hlt, by go_num, by rw [List.take_add_one, HP.out]; exact HN.out, HB9.out⟩
      case measure => simp [intOf]; omega
    · obtain rfl : k = Xs.length := by omega
      go_wp2
      go_ret
      exact ⟨_, L, rfl, by have := HI.out; rwa [List.take_length] at this, HB.out⟩

theorem own_len {A : Option Addr} (n m c c' : Nat) : (Value.slice A n c).ownBlock = (Value.slice A m c').ownBlock := by cases A <;> rfl
/-- A twin, each of its writes in a block of its own. -/
structure TwA (w : World) (b : Nat) (v : Value) (T : List (Int × Sl)) (ps : List (Int × List Int)) : Prop extends Tw w b v T ps where
  apart : ∀ (k k' g : Nat) (x x' : Int × Sl), T[k]? = some x → T[k']? = some x' → x.2.val.ownBlock = some g → x'.2.val.ownBlock = some g → k = k'
theorem TwA.below {w w1 : World} {b : Nat} {v : Value} {T : List (Int × Sl)} {ps : List (Int × List Int)} (h : TwA w b v T ps) (hb : Below w.heap.size w w1) : TwA w1 b v T ps := ⟨h.toTw.below hb, h.apart⟩
theorem Tw.lt {w : World} {b : Nat} {v : Value} {T : List (Int × Sl)} {ps : List (Int × List Int)} (h : Tw w b v T ps) {k : Nat} {x : Int × Sl} (hx : T[k]? = some x) : ∀ g, x.2.val.ownBlock = some g → b ≤ g ∧ g < w.heap.size := fun g hg => by
  have hk := (List.getElem?_eq_some_iff.1 hx).1
  obtain ⟨p, hp⟩ : ∃ p, ps[k]? = some p := ⟨_, List.getElem?_eq_getElem (by rw [← h.len]; exact hk)⟩
  have h3 := (h.at_ k x p hx hp).2.2
  have e : (Value.slice x.2.A (x.2.n + 2) x.2.c).ownBlock = some g := (own_len _ _ _ _).trans hg
  exact ⟨h3.base g e, h3.lt g e⟩
theorem TwA.next {w w4 : World} {b : Nat} {v v1 : Value} {T : List (Int × Sl)} {ps : List (Int × List Int)} (h : TwA w b v T ps) {s : Sl} {bk : Int} {xs : List Int} (hn : s.n = xs.length) (hs : Rb w b (.slice s.A (s.n + 2) s.c) (xs ++ [201, 202]))
    (hf : ∀ (t g : Nat) (x : Int × Sl), T[t]? = some x → x.2.val.ownBlock = some g → s.val.ownBlock ≠ some g) (hR : Rq w4 b v1 (T ++ [(bk, s)])) (hg : w.grownBy w4 v.ownBlock) : TwA w4 b v1 (T ++ [(bk, s)]) (ps ++ [(bk, xs)]) := by
  refine ⟨h.toTw.next hn hs hR hg, fun t t' g x x' hx hx' e e' => ?_⟩
  by_cases ht : t < T.length <;> by_cases ht' : t' < T.length
  · rw [List.getElem?_append_left ht] at hx
    rw [List.getElem?_append_left ht'] at hx'
    exact h.apart t t' g x x' hx hx' e e'
  · rw [List.getElem?_append_left ht] at hx
    obtain rfl : t' = T.length := by have := (List.getElem?_eq_some_iff.1 hx').1; simp at this; omega
    rw [List.getElem?_append_right (Nat.le_refl _), Nat.sub_self] at hx'
    simp at hx'
    subst hx'
    exact (hf t g x hx e e').elim
  · rw [List.getElem?_append_left ht'] at hx'
    obtain rfl : t = T.length := by have := (List.getElem?_eq_some_iff.1 hx).1; simp at this; omega
    rw [List.getElem?_append_right (Nat.le_refl _), Nat.sub_self] at hx
    simp at hx
    subst hx
    exact (hf t' g x' hx' e' e).elim
  · have h1 := (List.getElem?_eq_some_iff.1 hx).1
    have h2 := (List.getElem?_eq_some_iff.1 hx').1
    simp at h1 h2
    omega
set_option maxRecDepth 100000 in
set_option maxHeartbeats 2000000 in
theorem twinA_any {w : World} {A : Option Addr} {n cap : Nat} {ps : List (Int × List Int)} (hC : PendAt w (.slice A n cap) ps) (hl : ∀ p ∈ ps, p.2.length ≤ 1099511627776) (hL : ps.length ≤ 1099511627776) :
    Calls Try.prog 11 #[.slice A n cap] w fun e w' => ∃ v T, e = .returned v ∧ TwA w' w.heap.size v T ps ∧ Below w.heap.size w w' := by
  have HCw := Lib.hid hC
  obtain ⟨A1, c1, e1, hX⟩ := hC
  cases e1
  have HX := Lib.hid hX
  have HL := Lib.hid hl
  clear hX hl
  go_enter Try.func11, Try.ntmps11
  go_wp2
  go_loopw [3, 4] (fun v i wr => ∃ (k : Nat) (T : List (Int × Sl)), k ≤ ps.length ∧ i = .int .i64 k ∧ TwA wr w.heap.size v T (ps.take k) ∧ Below w.heap.size w wr) (fun _ i _ => ps.length - (intOf i).toNat)
  case atStart => exact ⟨0, [], Nat.zero_le _, rfl, ⟨⟨Kd.R_nil _ _ _ _ _, by simp, fun k x p hx => by simp at hx⟩, fun k k' g x x' hx => by simp at hx⟩, Below.refl _ _⟩
  case round =>
    obtain ⟨k, T, hk, rfl, hT, hb⟩ := hrel
    obtain ⟨Ar, cr, e⟩ := Kd.R_slice hT.row
    have hTl : T.length = k := by rw [hT.len, List.length_take, Nat.min_eq_left hk]
    rw [hTl] at e
    subst e
    have HT := Lib.hid hT
    have HB := Lib.hid hb
    have HTL := Lib.hid hTl
    clear hT hb hTl
    by_cases hlt : k < ps.length
    · obtain ⟨p, hp⟩ : ∃ p, ps[k]? = some p := ⟨_, List.getElem?_eq_getElem hlt⟩
      obtain ⟨bk, x⟩ := p
      obtain ⟨ad, A1', c1', rfl, had, hc0, hc1, hR⟩ := HX.out k _ hp
      have hxl := HL.out _ (List.mem_of_getElem? hp)
      simp only at hxl hc0 hc1 hR
      have z0 := (HB.out.cell (p := ad.add (k * 2)) (by rw [add_block]; exact had)).trans hc0
      have z1 := (HB.out.cell (p := ⟨(ad.add (k * 2)).block, (ad.add (k * 2)).off + 1, none⟩) (by show (ad.add (k * 2)).block < _; rw [add_block]; exact had)).trans hc1
      have HR := Lib.hid (hR.below (Nat.le_refl _) HB.out)
      have HXL := Lib.hid hxl
      have HP := Lib.hid hp
      have HZ0 := Lib.hid hc0
      have HZ1 := Lib.hid hc1
      clear hR hp hxl hc0 hc1
      go_wp2_with fail
      refine (bytes_any HR.out HXL.out).mono ?_
      rintro e w3 ⟨v3, rfl, hR3, hb3⟩
      obtain ⟨A3, c3, e3⟩ := Kd.R_slice hR3
      subst e3
      have HR3 := Lib.hid hR3
      have HB3 := Lib.hid hb3
      clear hR3 hb3 z0 z1
      obtain ⟨i0, hi, hz0, hz1, hz2⟩ := info_parts info5
      have HO := Lib.hid (Kd.own_of_R (HR3.out.below (below_alloc (Below.refl _ w3) (.cells #[.int .u8 201, .int .u8 202] 5))))
      have HS3 : Hid (wr.heap.size ≤ (w3.alloc (.cells #[.int .u8 201, .int .u8 202] 5)).heap.size) := by
        have := HB3.out.size
        show _ ≤ _
        rw [World.size_alloc]
        omega
      have hxl2 : x.length ≤ 1099511627776 := HXL.out
      go_upto_region 7 with (first | (at_builtin; go_loud (refine wpList_append_own _ rfl (.tmp 18) (.tmp 19) 24 rfl wr.heap.size 5 i0 (.int .u8 0) 1 1 Try.underlying24 hi hz0 hz1 hz2 rfl (by decide) (.slice A3 x.length c3) x.length (encs (Value.int .u8) x) rfl HO.out ⟨w3.heap.size, 0, none⟩ 2 2 [.int .u8 201, .int .u8 202] rfl rfl (two_cells w3 _ _ 5) (by intro u hu; simp only [List.mem_cons, List.not_mem_nil, or_false] at hu; rcases hu with rfl | rfl <;> rfl) (by unfold maxLen; omega) (by omega) HS3.out ?_); intro v4 w4 ho4 hg4 hz; clear hz; have HO4 := Lib.hid ho4; have HG4 := Lib.hid hg4; clear ho4 hg4))
      have hg4' : (w3.alloc (.cells #[.int .u8 201, .int .u8 202] 5)).grownBy w4 (Value.slice A3 x.length c3).ownBlock := HG4.out
      have hR4 : Rb w4 wr.heap.size v4 (x ++ [201, 202]) := Kd.R_of_own (xs := x ++ [201, 202]) (by have := HO4.out; simpa [encs] using this) (fun _ _ => trivial)
      have hB4 : Below wr.heap.size wr w4 := (HB3.out.trans ((below_alloc (Below.refl _ w3) _).mono HB3.out.size)).grown hg4' HS3.out (fun j hj => HR3.out.base j hj)
      obtain ⟨A4, c4, e4⟩ := Kd.R_slice hR4
      have hcap : (x ++ [201, 202]).length ≤ c4 := by
        obtain ⟨A', c', e', hc', _⟩ := Kd.R_reads hR4
        rw [e4] at e'
        cases e'
        exact hc'
      simp only [List.length_append, List.length_cons, List.length_nil, Nat.zero_add, Nat.reduceAdd] at e4 hcap
      subst e4
      have HR4 := Lib.hid hR4
      have HB4 := Lib.hid hB4
      clear hR4 hB4 hg4' HO4 HG4 HO HS3 HR3 HB3 hi hz0 hz1 hz2
      have z0 := (HB.out.trans (HB4.out.mono HB.out.size)).cell (p := ad.add (k * 2)) (by rw [add_block]; exact had) |>.trans HZ0.out
      have z1 := (HB.out.trans (HB4.out.mono HB.out.size)).cell (p := ⟨(ad.add (k * 2)).block, (ad.add (k * 2)).off + 1, none⟩) (by show (ad.add (k * 2)).block < _; rw [add_block]; exact had) |>.trans HZ1.out
      have HT4 := Lib.hid (HT.out.below HB4.out)
      have hbase : w.heap.size ≤ w4.heap.size := Nat.le_trans HB.out.size HB4.out.size
      have hTl : T.length = k := HTL.out
      have hcc : (x.length : Int) ≤ (c4 : Int) := by omega
      go_region_law ((refine Kd.R_append_step kQ w.heap.size (by rfl) (.tmp 21) (.tmp 36) 25 30 (.agg #[.int .i64 0, .slice none 0 0]) 32 (by rfl) Try.underlying25 info30 rfl (by decide) (by decide) (.slice Ar k cr) T (bk, ⟨A4, x.length, c4⟩) [.int .i64 bk, .slice A4 x.length c4] (fun _ => True) (fun _ => False) (by rfl) (by rfl) (kQ_mk rfl) (fun _ hk => hk.elim) (fun _ _ => trivial) (Kd.R_drewN HT4.out.row _) (pw_below_drewN (Below.refl w.heap.size w4) _) (by exact hbase) (by omega) ?_; intro v5 w5 hR5 hb5 hg5 hat5; have hg6 : w4.grownBy w5 (Value.slice Ar k cr).ownBlock := ⟨hg5.os, hg5.tape, hg5.output, hg5.size, hg5.block⟩; have HN := Lib.hid (HT4.out.next (s := ⟨A4, x.length, c4⟩) (bk := bk) (xs := x) rfl (HR4.out.lower HB.out.size) (fun t g y hy hg e => by have h1 := (HT.out.toTw.lt hy g hg).2; have h2 := HR4.out.base g ((own_len _ _ _ _).trans e); omega) (w4 := w5) (v1 := v5) hR5 hg6); have HB5 := Lib.hid ((HB.out.trans (HB4.out.mono HB.out.size)).grown hg6 hbase (fun j hj => Kd.R_base HT4.out.row j hj)); clear hR5 hb5 hg5 hg6 hat5))
      all_goals
        go_wp2
        go_roundw
        case rel => exact ⟨k + 1, _, hlt, by go_num, by rw [List.take_add_one, HP.out]; exact HN.out, HB5.out⟩
        case measure => simp [intOf]; omega
    · obtain rfl : k = ps.length := by omega
      go_wp2
      go_ret
      exact ⟨_, T, rfl, by have := HT.out; rwa [List.take_length] at this, HB.out⟩
end Go.Proofs.Ytekgdlpicgibhab.EX
