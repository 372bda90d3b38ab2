/-
  ExploreImages: the two answers are one; then each image is written full and goes on behind its end.
-/
import Derived.Test.YtekgdlpicgibhabE14
import Derived.Test.YtekgdlpicgibhabE15
namespace Go.Proofs.Ytekgdlpicgibhab.EX
open Go.RowKit Go.Proofs.YtekgdlpicgibhabW.PrintWords

theorem fault_ne {N : Nat} {ps : List (Int × List Int)} : fault N ps ≠ some 0 := by
  induction ps with
  | nil => simp [fault]
  | cons p r ih =>
    unfold fault
    split
    · decide
    · split
      · decide
      · exact ih
theorem errno_zero {n : Nat} {ps : List (Int × List Int)} (h : errno n ps = 0) : Sized n ∧ fault (n / 512) ps = none ∧ ps.length ≤ 8 := by
  unfold errno at h
  by_cases hs : n % 512 = 0 ∧ 1 ≤ n / 512 ∧ n / 512 ≤ 4096
  · rw [if_neg (fun h => h hs)] at h
    have hS : Sized n := by unfold Sized; omega
    cases hf : fault (n / 512) ps with
    | some e =>
      rw [hf] at h
      simp only at h
      subst h
      exact (fault_ne hf).elim
    | none =>
      rw [hf] at h
      simp only at h
      by_cases h2 : 8 < ps.length ∨ 131072 < n / 512 * 2 ^ ps.length
      · rw [if_pos h2] at h
        exact absurd h (by decide)
      · exact ⟨hS, rfl, by omega⟩
  · rw [if_pos hs] at h
    exact absurd h (by decide)
theorem images_len {bs : List Int} {ps : List (Int × List Int)} : (images bs ps).length ≤ 256 := by
  unfold images
  split
  · next h =>
    obtain ⟨_, _, h8⟩ := errno_zero h
    have h1 := uniq_len (img bs ps) (2 ^ ps.length)
    have h2 : 2 ^ ps.length ≤ 256 := Nat.le_trans (Nat.pow_le_pow_right (by omega) h8) (by decide)
    omega
  · exact Nat.zero_le _
theorem images_each {bs : List Int} {ps : List (Int × List Int)} {X : List Int} (hX : X ∈ images bs ps) : X.length = bs.length := by
  unfold images at hX
  split at hX
  · next h =>
    obtain ⟨hs, hf, _⟩ := errno_zero h
    obtain ⟨i, _, rfl⟩ := uniq_mem hX
    have hbl : bs.length = 512 * (bs.length / 512) := by unfold Sized at hs; omega
    rw [img_len hbl (fault_none.1 hf)]
    exact hbl.symm
  · cases hX
/-- Two more writes behind a row of them. -/
theorem Rq.two {w w1 : World} {b : Nat} {v v1 : Value} {T : List (Int × Sl)} {inner : List Value} {x y : Int × Sl} (hr : Reps (kQ.M w b (fun k => True ∧ some k ≠ v.ownBlock)) 2 T inner)
    (hown : w1.ownsRow b 30 2 v1 (T.length + 2) (inner ++ [.int .i64 x.1, x.2.val, .int .i64 y.1, y.2.val])) : Rq w1 b v1 (T ++ [x, y]) := by
  refine ⟨fun _ _ => trivial, inner ++ [.int .i64 x.1, x.2.val, .int .i64 y.1, y.2.val], by rw [show (T ++ [x, y]).length = T.length + 2 by simp]; exact hown, ?_⟩
  have h0 : Reps (kQ.M w1 b (fun k => True ∧ some k ≠ v1.ownBlock)) 2 T inner := hr.imp_ (fun _ _ h => h)
  have h1 := (h0.snoc (p := x) (kQ_mk rfl) rfl).snoc (p := y) (kQ_mk rfl) rfl
  rw [show T ++ [x, y] = T ++ [x] ++ [y] by simp, show inner ++ [.int .i64 x.1, x.2.val, .int .i64 y.1, y.2.val] = inner ++ [.int .i64 x.1, x.2.val] ++ [.int .i64 y.1, y.2.val] by simp]
  exact h1
theorem four_cells (W : World) (a b c d : Value) (t : TypeId) : ∀ (j : Nat) (u : Value), [a, b, c, d][j]? = some u → (W.alloc (.cells #[a, b, c, d] t)).cell? (Addr.add ⟨W.heap.size, 0, none⟩ j) = some u := by
  intro j u hj
  rw [add_zero_plain]
  refine (blk_cell (heap_alloc_new W _) j).trans ?_
  simpa using hj
def nilS : Sl := ⟨none, 0, 0⟩
def two : List (Int × Sl) := [(-71, nilS), (-72, nilS)]
/-- A twin with two more writes behind it. -/
structure Tw2 (w : World) (b : Nat) (v : Value) (T : List (Int × Sl)) (ps : List (Int × List Int)) : Prop where
  row : Rq w b v (T ++ two)
  len : T.length = ps.length
  at_ : ∀ (k : Nat) (x : Int × Sl) (p : Int × List Int), T[k]? = some x → ps[k]? = some p → x.1 = p.1 ∧ x.2.n = p.2.length ∧ Rb w b (.slice x.2.A (x.2.n + 2) x.2.c) (p.2 ++ [201, 202])
theorem Tw2.below {w w1 : World} {b : Nat} {v : Value} {T : List (Int × Sl)} {ps : List (Int × List Int)} (h : Tw2 w b v T ps) (hb : Below w.heap.size w w1) : Tw2 w1 b v T ps :=
  ⟨h.row.keep (fun k hk => hb.block k (Kd.R_lt h.row k hk)), h.len, fun k x p hx hp => ⟨(h.at_ k x p hx hp).1, (h.at_ k x p hx hp).2.1, (h.at_ k x p hx hp).2.2.below hb⟩⟩
theorem Tw.two {w w1 : World} {b : Nat} {v v1 : Value} {T : List (Int × Sl)} {ps : List (Int × List Int)} (h : Tw w b v T ps) (hR : Rq w1 b v1 (T ++ two)) (hg : w.grownBy w1 v.ownBlock) : Tw2 w1 b v1 T ps where
  row := hR
  len := h.len
  at_ := fun k x p hx hp => by
    obtain ⟨h1, h2, h3⟩ := h.at_ k x p hx hp
    exact ⟨h1, h2, h3.keep (fun j hj => hg.block j (h3.lt j hj) (fun e => by
      obtain ⟨c1, q1⟩ := Kd.R_typed h3 j hj
      obtain ⟨c2, q2⟩ := Kd.R_typed h.row j e.symm
      exact cells_ne q1 q2 (by decide) rfl))⟩
theorem Tw2.mark {w : World} {b n c : Nat} {A : Option Addr} {T : List (Int × Sl)} {ps : List (Int × List Int)} (h : Tw2 w b (.slice A n c) T ps) : MarkAt w (.slice A ps.length c) ps := by
  refine ⟨A, c, rfl, fun k p hp => ?_⟩
  have hk : k < T.length := by rw [h.len]; exact (List.getElem?_eq_some_iff.1 hp).1
  obtain ⟨x, hx⟩ : ∃ x, T[k]? = some x := ⟨_, List.getElem?_eq_getElem hk⟩
  obtain ⟨h1, h2, h3⟩ := h.at_ k x p hx hp
  obtain ⟨g, rfl, z0, z1⟩ := Rq.cell h.row (j := k) (x := x) (by rw [List.getElem?_append_left hk]; exact hx)
  have hcap : x.2.n + 2 ≤ x.2.c := (Kd.R_reads' h3).2.1
  refine ⟨⟨g, 0, none⟩, x.2.A, x.2.c, rfl, by have := World.block_lt_of_cell? w _ z0; exact this, by rw [add_zero_plain, z0, h1], by rw [add_zero_plain, z1, h2], by omega, ?_⟩
  have h4 := h3.rd
  rw [h2] at h4
  exact h4
theorem Tw2.tail {w : World} {b n c : Nat} {A : Option Addr} {T : List (Int × Sl)} {ps : List (Int × List Int)} (h : Tw2 w b (.slice A n c) T ps) :
    n = ps.length + 2 ∧ n ≤ c ∧ ∃ g, A = some ⟨g, 0, none⟩ ∧ w.cell? ⟨g, ps.length * 2, none⟩ = some (.int .i64 (-71)) ∧ w.cell? ⟨g, ps.length * 2 + 1, none⟩ = some (.slice none 0 0) ∧
      w.cell? ⟨g, (ps.length + 1) * 2, none⟩ = some (.int .i64 (-72)) ∧ w.cell? ⟨g, (ps.length + 1) * 2 + 1, none⟩ = some (.slice none 0 0) := by
  obtain ⟨hn, hc, _⟩ := Kd.R_reads' h.row
  obtain ⟨g, rfl, z0, z1⟩ := Rq.cell h.row (j := ps.length) (x := (-71, nilS)) (by rw [List.getElem?_append_right (by rw [h.len]; exact Nat.le_refl _), h.len, Nat.sub_self]; rfl)
  obtain ⟨g', e, y0, y1⟩ := Rq.cell h.row (j := ps.length + 1) (x := (-72, nilS)) (by rw [List.getElem?_append_right (by rw [h.len]; omega), h.len, Nat.add_sub_cancel_left]; rfl)
  cases e
  have hl := h.len
  exact ⟨by rw [List.length_append, show two.length = 2 from rfl] at hn; omega, hc, g, rfl, z0, z1, y0, y1⟩
def mkE (t : Nat) : Int := (t : Int)
set_option maxRecDepth 100000 in
set_option maxHeartbeats 4000000 in
theorem law_any {w : World} {A C : Option Addr} {n c k0 kc : Nat} {bs : List Int} {ps : List (Int × List Int)} (hx : Rd w (.slice A n c) bs) (hp : PendAt w (.slice C k0 kc) ps)
    (hn : bs.length ≤ 1048576) (hL : ps.length ≤ 1048576) (hl : ∀ p ∈ ps, p.2.length ≤ 1048576) (hb64 : ∀ p ∈ ps, -9223372036854775808 ≤ p.1 ∧ p.1 ≤ 9223372036854775807) (hby : Byts bs) (hpy : ∀ p ∈ ps, Byts p.2) :
    Calls Try.prog 4 #[.slice A n c, .slice C k0 kc] w fun e w' => e = .returned (.bool true) ∧ Below w.heap.size w w' := by
  have HX := Lib.hid hx
  have HPE := Lib.hid hp
  obtain ⟨C1, kc1, e1, hq⟩ := hp
  clear hq
  cases e1
  have hnn := hx.cells.1
  subst hnn
  have HL := Lib.hid hl
  have HB64 := Lib.hid hb64
  have HBY := Lib.hid hby
  have HPY := Lib.hid hpy
  have hl2 : ∀ p ∈ ps, p.2.length ≤ 1099511627776 := fun p h => Nat.le_trans (hl p h) (by decide)
  have HL2 := Lib.hid hl2
  clear hx hl hb64 hby hpy hl2
  go_enter Try.func4, Try.ntmps4
  go_wp2_with fail
  refine (known_any _).mono ?_
  rintro e w1 ⟨rfl, hb1⟩
  have HX1 := Lib.hid (HX.out.below (Nat.le_refl _) hb1)
  have HP1 := Lib.hid (HPE.out.below (Nat.le_refl _) hb1)
  have HB1 := Lib.hid hb1
  clear hb1
  go_wp2_with fail
  refine (bytes_any HX1.out (by omega)).mono ?_
  rintro e w2 ⟨v2, rfl, hR2, hb2⟩
  obtain ⟨A2, c2, e2⟩ := Kd.R_slice hR2
  subst e2
  have HR2 := Lib.hid hR2
  have HB2 := Lib.hid hb2
  clear hR2 hb2
  obtain ⟨i0, hi, hz0, hz1, hz2⟩ := info_parts info5
  have HO := Lib.hid (Kd.own_of_R (HR2.out.below (below_alloc (Below.refl _ w2) (.cells #[.int .u8 203, .int .u8 204] 5))))
  have HS : Hid (w1.heap.size ≤ (w2.alloc (.cells #[.int .u8 203, .int .u8 204] 5)).heap.size) := by
    have := HB2.out.size
    show _ ≤ _
    rw [World.size_alloc]
    omega
  go_upto_region 7 with (first | (at_builtin; go_loud (refine wpList_append_own _ rfl (.tmp 27) (.tmp 28) 24 rfl w1.heap.size 5 i0 (.int .u8 0) 1 1 Try.underlying24 hi hz0 hz1 hz2 rfl (by decide) (.slice A2 bs.length c2) bs.length (encs byt bs) rfl HO.out ⟨w2.heap.size, 0, none⟩ 2 2 [.int .u8 203, .int .u8 204] rfl rfl (two_cells w2 _ _ 5) (by intro u hu; simp only [List.mem_cons, List.not_mem_nil, or_false] at hu; rcases hu with rfl | rfl <;> rfl) (by unfold maxLen; omega) (by omega) HS.out ?_); intro v3 w3 ho3 hg3 hz; clear hz; have HO3 := Lib.hid ho3; have HG3 := Lib.hid hg3; clear ho3 hg3))
  have hg3' : (w2.alloc (.cells #[.int .u8 203, .int .u8 204] 5)).grownBy w3 (Value.slice A2 bs.length c2).ownBlock := HG3.out
  have hR3 : Rb w3 w1.heap.size v3 (bs ++ [203, 204]) := Kd.R_of_own (xs := bs ++ [203, 204]) (by have := HO3.out; simpa [encs] using this) (fun _ _ => trivial)
  have hB3 : Below w1.heap.size w1 w3 := (HB2.out.trans ((below_alloc (Below.refl w2.heap.size w2) _).mono HB2.out.size)).grown hg3' HS.out (fun j hj => HR2.out.base j hj)
  obtain ⟨A3, c3, e3⟩ := Kd.R_slice hR3
  subst e3
  have hcap : bs.length + 2 ≤ c3 := by have := (Kd.R_reads' hR3).2.1; simpa using this
  simp only [List.length_append, List.length_cons, List.length_nil, Nat.zero_add, Nat.reduceAdd] at hR3
  have hcc : (bs.length : Int) ≤ (c3 : Int) := by omega
  have HR3 := Lib.hid hR3
  have HB3 : Hid (Below w.heap.size w w3) := HB1.out.trans (hB3.mono HB1.out.size)
  have HP3 := Lib.hid (HP1.out.below (Nat.le_refl _) hB3)
  have HX3 := Lib.hid (HX1.out.below (Nat.le_refl _) hB3)
  clear hg3' hR3 hB3 HO HS HO3 HG3 HR2 HB2 HX1 HP1 hi hz0 hz1 hz2 HX HPE
  go_wp2_with fail
  refine (twin_any HP3.out HL2.out (by omega)).mono ?_
  rintro e w4 ⟨v4, T, rfl, hT, hb4⟩
  have HT := Lib.hid hT
  have HB4 := Lib.hid hb4
  obtain ⟨A4, c4, e4⟩ := Kd.R_slice hT.row
  rw [hT.len] at e4
  subst e4
  have HTl := Lib.hid hT.len
  obtain ⟨hx0, inner, ho, hr⟩ := (Rq.keep hT.row (fun k hk => Below.heap_alloc w4 (.cells #[.int .i64 (-71), .slice none 0 0, .int .i64 (-72), .slice none 0 0] 30) _ (Kd.R_lt hT.row k hk)))
  have HIN : Hid ((w4.alloc (.cells #[.int .i64 (-71), .slice none 0 0, .int .i64 (-72), .slice none 0 0] 30)).ownsRow w3.heap.size 30 2 (.slice A4 ps.length c4) ps.length inner) := by have h2 := ho; rw [hT.len] at h2; exact h2
  have HRP := Lib.hid hr
  have HS4 : Hid (w3.heap.size ≤ (w4.alloc (.cells #[.int .i64 (-71), .slice none 0 0, .int .i64 (-72), .slice none 0 0] 30)).heap.size) := by
    have := hb4.size
    show _ ≤ _
    rw [World.size_alloc]
    omega
  clear hT hb4 ho hr i0 hx0
  obtain ⟨i0, hi, hz0, hz1, hz2⟩ := info_parts info30
  go_upto_region 9 with (first | (at_builtin; go_loud (refine wpList_append_own _ rfl (.tmp 34) (.tmp 37) 25 rfl w3.heap.size 30 i0 (.agg #[.int .i64 0, .slice none 0 0]) 2 32 Try.underlying25 hi hz0 hz1 hz2 rfl (by decide) (.slice A4 ps.length c4) ps.length inner rfl HIN.out ⟨w4.heap.size, 0, none⟩ 2 2 [.int .i64 (-71), .slice none 0 0, .int .i64 (-72), .slice none 0 0] rfl rfl (four_cells w4 _ _ _ _ 30) (by intro u hu; simp only [List.mem_cons, List.not_mem_nil, or_false] at hu; rcases hu with rfl | rfl | rfl | rfl <;> rfl) (by unfold maxLen; omega) (by omega) HS4.out ?_); intro v5 w5 ho5 hg5 hz; clear hz; have HO5 := Lib.hid ho5; have HG5 := Lib.hid hg5; clear ho5 hg5))
  have hg5' : (w4.alloc (.cells #[.int .i64 (-71), .slice none 0 0, .int .i64 (-72), .slice none 0 0] 30)).grownBy w5 (Value.slice A4 ps.length c4).ownBlock := HG5.out
  have hT5 : Tw2 w5 w3.heap.size v5 T ps := (HT.out.below (below_alloc (Below.refl _ w4) _)).two (Rq.two (x := (-71, nilS)) (y := (-72, nilS)) HRP.out (by have := HO5.out; rw [HTl.out]; exact this)) hg5'
  have hb5 : Below w3.heap.size w3 w5 := (HB4.out.trans ((below_alloc (Below.refl w4.heap.size w4) _).mono HB4.out.size)).grown hg5' HS4.out (fun j hj => Kd.R_base HT.out.row j hj)
  obtain ⟨A5, c5, e5⟩ := Kd.R_slice hT5.row
  rw [List.length_append, hT5.len, show two.length = 2 from rfl] at e5
  subst e5
  have hcp : (ps.length : Int) ≤ (c5 : Int) := by have := hT5.tail.2.1; omega
  have HT5 := Lib.hid hT5
  have HB5 : Hid (Below w.heap.size w w5) := HB3.out.trans (hb5.mono HB3.out.size)
  have HP5 := Lib.hid (HP3.out.below (Nat.le_refl _) hb5)
  have HX5 := Lib.hid (HX3.out.below (Nat.le_refl _) hb5)
  have HR5 := Lib.hid (HR3.out.below hb5)
  have hrs : Hid (∀ m, Calls Try.prog 12 #[.slice A3 bs.length c3, .slice A5 ps.length c5] (w5.drewN m) (Out (w5.drewN m) bs ps)) := fun m =>
    images_any (HR5.out.rd.front.drewN m) (HT5.out.mark.pend.drewN m) hn hL HL.out HB64.out HBY.out HPY.out
  clear hT5 hb5 hg5' HT HB4 HO5 HG5 HRP HIN HS4 HTl hi hz0 hz1 hz2 HB3 HP3 HX3 HR3
  go_region_law (go_simp; go_at_call 12; refine (hrs.out _).mono ?_; rintro e w6 ⟨v6, L, rfl, hI, hb6⟩; have HI := Lib.hid hI; have HB6 := Lib.hid hb6; clear hI hb6)
  have hb6 : Below w5.heap.size w5 w6 := (pw_below_drewN (Below.refl _ w5) 1).trans HB6.out
  have hI6 : Im w6 w5.heap.size v6 L (images bs ps) := HI.out
  have HX6 := Lib.hid (HX5.out.below (Nat.le_refl _) hb6)
  have HP6 := Lib.hid (HP5.out.below (Nat.le_refl _) hb6)
  have HR6 := Lib.hid (HR5.out.below hb6)
  have HT6 := Lib.hid (HT5.out.below hb6)
  have HI6 := Lib.hid hI6
  have HB6' : Hid (Below w.heap.size w w6) := HB5.out.trans (hb6.mono HB5.out.size)
  have HS5 : Hid (w.heap.size ≤ w5.heap.size) := HB5.out.size
  have HQ6 : Hid (w5.heap.size ≤ w6.heap.size) := hb6.size
  clear hb6 hI6 HI HB6 HX5 HP5 HR5 HT5 hrs HB5
  go_wp2_with fail
  refine (rimages_any HX6.out HP6.out hn hL HL.out HB64.out).mono ?_
  rintro e w7 ⟨v7, L7, rfl, hI7, hb7⟩
  have HL6 := Lib.hid (HI6.out.below hb7).list
  have HL7 := Lib.hid hI7.list
  have HX7 := Lib.hid (HX6.out.below (Nat.le_refl _) hb7)
  have HP7 := Lib.hid (HP6.out.below (Nat.le_refl _) hb7)
  have HR7 := Lib.hid (HR6.out.below hb7)
  have HT7 := Lib.hid (HT6.out.below hb7)
  have HI7 := Lib.hid (HI6.out.below hb7)
  have HQ7 : Hid (w5.heap.size ≤ w7.heap.size) := Nat.le_trans HQ6.out hb7.size
  have HB7 : Hid (Below w.heap.size w w7) := HB6'.out.trans (hb7.mono HB6'.out.size)
  obtain ⟨A6, c6, e6⟩ := Kd.R_slice HI6.out.row
  subst e6
  obtain ⟨A7, c7, e7⟩ := Kd.R_slice hI7.row
  subst e7
  clear hI7 hb7 HX6 HP6 HR6 HT6 HI6 HB6'
  go_wp2_with fail
  refine (lists_same HL6.out HL7.out (fun X hX => by rw [images_each hX]; omega) (by have := images_len (bs := bs) (ps := ps); omega)).mono ?_
  rintro e w8 ⟨rfl, m8, rfl⟩
  obtain ⟨w8, hw8⟩ : ∃ w8, w7.drewN m8 = w8 := ⟨_, rfl⟩
  have hb8 : Below w7.heap.size w7 w8 := by subst hw8; exact pw_below_drewN (Below.refl _ _) _
  rw [hw8]
  have HX8 := Lib.hid (HX7.out.below (Nat.le_refl _) hb8)
  have HP8 := Lib.hid (HP7.out.below (Nat.le_refl _) hb8)
  have HR8 := Lib.hid (HR7.out.below hb8)
  have HT8 := Lib.hid (HT7.out.below hb8)
  have HI8 := Lib.hid (HI7.out.below hb8)
  have HQ8 : Hid (w5.heap.size ≤ w8.heap.size) := Nat.le_trans HQ7.out hb8.size
  have HB8 : Hid (Below w.heap.size w w8) := HB7.out.trans (hb8.mono HB7.out.size)
  clear hw8 hb8 HX7 HP7 HR7 HT7 HI7 HB7 HL6 HL7
  go_wp2_with fail
  refine (stays_any HT8.out.mark HP8.out HL2.out (by omega)).mono ?_
  rintro e w9 ⟨rfl, m9, hw9⟩
  have hb9 : Below w8.heap.size w8 w9 := by subst hw9; exact pw_below_drewN (Below.refl _ _) _
  have HX9 := Lib.hid (HX8.out.below (Nat.le_refl _) hb9)
  have HR9 := Lib.hid (HR8.out.below hb9)
  have HI9 := Lib.hid (HI8.out.below hb9)
  have HQ9 : Hid (w5.heap.size ≤ w9.heap.size) := Nat.le_trans HQ8.out hb9.size
  have HB9 : Hid (Below w.heap.size w w9) := HB8.out.trans (hb9.mono HB8.out.size)
  obtain ⟨_, _, g5, rfl, z0, z1, y0, y1⟩ := (HT8.out.below hb9).tail
  clear hw9 hb9 HX8 HP8 HR8 HT8 HI8 HB8
  go_wp2_with fail
  refine (num_any _ _).mono ?_
  rintro e w10 ⟨rfl, rfl⟩
  clear z0 z1 y0 y1
  go_wp2_with fail
  refine (same_any HR9.out.rd.front HX9.out (by omega)).mono ?_
  rintro e w10 ⟨rfl, m10, hw10⟩
  rw [decide_eq_true rfl]
  have hb10 : Below w9.heap.size w9 w10 := by subst hw10; exact pw_below_drewN (Below.refl _ _) _
  have HR10 := Lib.hid (HR9.out.below hb10)
  have HI10 := Lib.hid (HI9.out.below hb10)
  have HQ10 : Hid (w5.heap.size ≤ w10.heap.size) := Nat.le_trans HQ9.out hb10.size
  have HB10 : Hid (Below w.heap.size w w10) := HB9.out.trans (hb10.mono HB9.out.size)
  clear hw10 hb10 HX9 HR9 HI9 HB9
  obtain ⟨d1, e1, _, x1⟩ := HR10.out.rd.cells.2 bs.length (by omega)
  obtain ⟨d2, e2, _, x2⟩ := HR10.out.rd.cells.2 (bs.length + 1) (by omega)
  subst e1
  cases e2
  obtain ⟨g3, rfl⟩ := Kd.R_head HR10.out
  rw [add_zero_plain] at x1 x2
  have v1 : (bs ++ [203, 204]).getD bs.length (0 : Int) = 203 := by simp
  have v2 : (bs ++ [203, 204]).getD (bs.length + 1) (0 : Int) = 204 := by simp [List.getD_eq_getElem?_getD]
  rw [v1] at x1
  rw [v2] at x2
  clear v1 v2
  go_wp2
  clear x1 x2 HR10
  have HLs := Lib.hid HI10.out.lists
  have HIM := Lib.hid (fun X (hX : X ∈ images bs ps) => images_each (bs := bs) (ps := ps) hX)
  have hL256 : L.length ≤ 256 := by rw [HI10.out.len]; exact images_len
  have HV : Hid (∀ wr, Only (LB L) w10 wr → Rv wr w5.heap.size (.slice A6 L.length c6) L) := fun wr ho => HI10.out.row.lists HLs.out ho
  have HXn : Hid (∀ (t : Nat) (x : Sl), L[t]? = some x → x.n = bs.length) := fun t x hx => by
    obtain ⟨X, hX, h1, _⟩ := HI10.out.get hx
    rw [h1]
    exact HIM.out X (List.mem_of_getElem? hX)
  have HEND : Hid (∀ wr, Only (LB L) w10 wr → Below w.heap.size w wr) := fun wr ho =>
    HB10.out.trans (ho.below HB10.out.size (fun q hq => by
      obtain ⟨t, x, hx, e⟩ := hq
      obtain ⟨X, _, _, hR⟩ := HI10.out.get hx
      exact Nat.le_trans HS5.out (hR.base q e)))
  obtain ⟨X, hX⟩ : ∃ X : Nat → List Int, (fun t => (images bs ps).getD t []) = X := ⟨_, rfl⟩
  rw [hX] at HLs
  have HS10 : Hid (w5.heap.size ≤ w10.heap.size) := HQ10
  clear hX HI10 HIM HB10 HQ10 HQ9 HQ8 HQ7 HQ6
  go_loopw [15, 16] (fun vF i wr => ∃ (k : Nat) (F : List KE), k ≤ L.length ∧ i = .int .i64 k ∧ Ph mkE 600 w10 wr w5.heap.size L X F vF k) (fun _ i _ => L.length - (intOf i).toNat)
  case atStart => exact ⟨0, [], Nat.zero_le _, rfl, Ph.start HLs.out⟩
  case round =>
    obtain ⟨i, F, hi, rfl, hp⟩ := hrel
    obtain ⟨AF, cF, eF⟩ := Kd.R_slice hp.farV
    subst eF
    have hFl : (F.map KE.sl).length = i := by rw [List.length_map]; exact hp.len
    rw [hFl] at hp ⊢
    have HFL := Lib.hid hFl
    clear hFl
    by_cases hlt : i < L.length
    · obtain ⟨x, hx⟩ : ∃ x, L[i]? = some x := ⟨_, List.getElem?_eq_getElem hlt⟩
      obtain ⟨xA, xn, xc⟩ := x
      have hxn : xn = bs.length := HXn.out i _ hx
      have HX := Lib.hid hx
      have HP : Hid (Ph mkE 600 w10 wr w5.heap.size L (upd X i (List.replicate 0 (mkE i) ++ (X i).drop 0)) F (.slice AF i cF) i) := hp.congr (fun t ht _ => by
        by_cases e : t = i
        · subst e; rw [upd_same]; simp
        · rw [upd_ne _ _ e])
      obtain ⟨g, hA, hc0⟩ := (HV.out _ hp.only).cell HX.out
      subst hA
      have hx20 : xn ≤ 1048576 := by omega
      have HXN := Lib.hid hxn
      clear hx hp hxn
      go_wp2
      go_loopw [17] (fun j ws => ∃ k : Nat, k ≤ xn ∧ j = .int .i64 k ∧ Ph mkE 600 w10 ws w5.heap.size L (upd X i (List.replicate k (mkE i) ++ (X i).drop k)) F (.slice AF i cF) i) (fun j _ => xn - (intOf j).toNat)
      case atStart => exact ⟨0, Nat.zero_le _, rfl, HP.out⟩
      case round =>
        obtain ⟨k, hk, rfl, h2⟩ := hrel
        obtain ⟨g', hA, hc0⟩ := (HV.out _ h2.only).cell HX.out
        cases hA
        by_cases hkn : k < xn
        · obtain ⟨hR1, hL2⟩ := h2.todo i _ HX.out (Nat.le_refl _)
          rw [upd_same] at hR1 hL2
          simp only at hL2
          obtain ⟨gx, hgx⟩ : ∃ gx, xA = some ⟨gx, 0, none⟩ := by
            obtain ⟨ad, e, _⟩ := (Kd.R_reads' hR1).2.2.2.2 (by rw [hL2]; omega)
            subst e
            obtain ⟨gx, rfl⟩ := Kd.R_head hR1
            exact ⟨gx, rfl⟩
          subst hgx
          have hcell := Kd.R_cell (d := (0 : Int)) (by rw [hL2]; exact hR1) (k : Int) (by omega) (by omega)
          simp only [Int.toNat_natCast] at hcell
          obtain ⟨hc1, hf1⟩ := hcell
          have hXl : (X i).length = xn := (HLs.out.own i _ HX.out).2
          have HN : Hid (Ph mkE 600 w10 (wr.setCell ⟨gx, k, none⟩ (.int .u8 (mkE i))) w5.heap.size L (upd X i (List.replicate (k + 1) (mkE i) ++ (X i).drop (k + 1))) F (.slice AF i cF) i) :=
            (h2.put HLs.out (Nat.le_refl _) HX.out (k := k) (mkE i)).congr (fun t ht _ => by
              by_cases e : t = i
              · subst e
                rw [upd_same, upd_same, upd_same]
                exact fill_next (X t) (mkE t) (by omega)
              · rw [upd_ne _ _ e, upd_ne _ _ e, upd_ne _ _ e])
          clear h2 hR1 hL2 HP hXl
          go_wp2
          go_roundw
          case rel => exact ⟨k + 1, hkn, by go_num, HN.out⟩
          case measure => simp [intOf]; omega
        · obtain rfl : k = xn := by omega
          have hYi : upd X i (List.replicate k (mkE i) ++ (X i).drop k) i = List.replicate k (mkE i) := by
            rw [upd_same]
            have hXl : (X i).length = k := (HLs.out.own i _ HX.out).2
            rw [← hXl, List.drop_length, List.append_nil]
          have HP2 := Lib.hid h2
          have HYi := Lib.hid hYi
          clear h2 HP hYi
          have hG0 : G2 wr wr wr w5.heap.size (.slice xA k xc) (.slice xA k xc) k 0 (mkE i) := ⟨by have h := (HP2.out.todo i _ HX.out (Nat.le_refl _)).1; rw [HYi.out] at h; exact h, fun _ h => h, Only.refl _ _, .inl rfl, Nat.le_refl _⟩
          have HG0 := Lib.hid hG0
          clear hG0
          obtain ⟨w11, hw11⟩ : ∃ w11, wr = w11 := ⟨_, rfl⟩
          subst hw11
          rename World => w11
          go_wp2
          go_loopw [18, 19] (fun v2 j ws => ∃ q : Nat, q ≤ 600 ∧ j = .int .i64 q ∧ G2 w11 w11 ws w5.heap.size (.slice xA k xc) v2 k q (mkE i)) (fun _ j _ => 600 - (intOf j).toNat)
          case atStart => exact ⟨0, Nat.zero_le _, rfl, HG0.out⟩
          case round =>
            obtain ⟨q, hq, rfl, hg2⟩ := hrel
            obtain ⟨A2', c2', e2⟩ := Kd.R_slice hg2.1
            rw [List.length_replicate] at e2
            subst e2
            have HG := Lib.hid hg2
            clear hg2 HG0
            by_cases hq6 : q < 600
            · have HRL2 : Hid ((List.replicate (k + q) (mkE i)).length ≤ 1099511627776) := by show (List.replicate (k + q) (mkE i)).length ≤ 1099511627776; simp; omega
              have HSZ : Hid (w5.heap.size ≤ wr.heap.size) := by
                have h1 := HG.out.2.2.1.size
                have h2 := HP2.out.only.size
                have h3 := HS10.out
                exact Nat.le_trans h3 (Nat.le_trans h2 h1)
              go_wp2_with (first | (at_builtin; go_loud (refine wpList_append_keep w5.heap.size rfl (.tmp 169) (.tmp 172) rfl (.slice A2' (k + q) c2') (List.replicate (k + q) (mkE i)) (mkE i) rfl rfl HG.out.1 HSZ.out HRL2.out ?_); intro v3 w4 ha3; have HA3 := Lib.hid ha3; clear ha3))
              go_roundw
              case rel => exact ⟨q + 1, hq6, by go_num, HG.out.next HA3.out⟩
              case measure => simp [intOf]; omega
            · obtain rfl : q = 600 := by omega
              have HFs : Hid (Rv wr w10.heap.size (.slice AF i cF) (F.map KE.sl)) := by
                have h1 := HP2.out.farV
                refine Rv.keep h1 (fun k' hk' => HG.out.2.2.1.block k' (h1.lt k' hk') (fun e => ?_))
                have h2 := Kd.R_base h1 k' hk'
                have h3 := HLs.out.lt HX.out k' e.symm
                omega
              have HFb : Hid (w10.heap.size ≤ wr.heap.size) := by
                have h1 := HG.out.2.2.1.size
                have h2 := HP2.out.only.size
                exact Nat.le_trans h2 h1
              go_wp2_with (first | (at_builtin; go_loud (refine Kd.R_append kV (w0 := wr) w10.heap.size rfl (.tmp 174) (.tmp 176) 31 24 (.slice none 0 0) 24 rfl Try.underlying31 info24 rfl (by decide) (by decide) (.slice AF i cF) (F.map KE.sl) (⟨A2', k + 600, c2'⟩ : Sl) [.slice A2' (k + 600) c2'] (fun _ => True) (fun _ => False) rfl rfl (kV_mk rfl) (fun _ hk => hk.elim) (fun _ _ => trivial) HFs.out (Below.refl _ _) HFb.out (by rw [HFL.out]; omega) ?_); intro v9 w9 hR9 _ hg9 hat9; have HN := Lib.hid ((HP2.out.next HLs.out HX.out HYi.out HG.out hR9 hg9 hat9).congr (Y' := X) (fun t ht _ => upd_ne _ _ (by omega))); clear hR9 hg9 hat9))
              go_roundw
              case rel => exact ⟨i + 1, _, hlt, by go_num, HN.out⟩
              case measure => simp [intOf]; omega
    · obtain rfl : i = L.length := by omega
      have HP := Lib.hid hp
      have HV2 := Lib.hid (HV.out _ hp.only)
      have HE := Lib.hid (HEND.out _ hp.only)
      obtain ⟨w11, hw11⟩ : ∃ w11, wr = w11 := ⟨_, rfl⟩
      subst hw11
      rename World => w11
      clear hp hlt hi
      go_wp2
      go_loopw [20] (fun i ws => ∃ k : Nat, k ≤ L.length ∧ i = .int .i64 k ∧ ws = w11) (fun i _ => L.length - (intOf i).toNat)
      case atStart => exact ⟨0, Nat.zero_le _, rfl, rfl⟩
      case round =>
        obtain ⟨k, hk, rfl, hww⟩ := hrel
        have hww2 := hww.symm
        subst hww2
        by_cases hlt : k < L.length
        · obtain ⟨x, hx⟩ : ∃ x, L[k]? = some x := ⟨_, List.getElem?_eq_getElem hlt⟩
          have hkF : k < F.length := by have := HP.out.len; omega
          obtain ⟨e, he⟩ : ∃ e, F[k]? = some e := ⟨_, List.getElem?_eq_getElem hkF⟩
          obtain ⟨gL, hA, hcL⟩ := HV2.out.cell hx
          obtain ⟨gF, hAF, hcF⟩ := Rv.cell HP.out.farV (j := k) (x := e.sl) (by rw [List.getElem?_map, he]; rfl)
          subst hA
          subst hAF
          obtain ⟨hH, hm, ⟨y, hy, hen, _⟩, _⟩ := HP.out.far k e he
          rw [hx] at hy
          cases hy
          have hHx := HP.out.old k x hx hlt
          have hxn : x.n = bs.length := HXn.out k x hx
          obtain ⟨xA, xn, xc⟩ := x
          obtain ⟨eA, ec, em, en⟩ := e
          simp only at hm hen hxn
          subst hm
          simp only [KE.sl] at hcF
          have HH := Lib.hid hH
          have HHx := Lib.hid hHx
          have hx20 : xn ≤ 1048576 := by omega
          clear hH hHx hx he hkF hxn
          go_wp2
          go_loopw [21] (fun j ws => ∃ i : Nat, i ≤ en ∧ j = .int .i64 i ∧ ws = w11) (fun j _ => en - (intOf j).toNat)
          case atStart => exact ⟨0, Nat.zero_le _, rfl, rfl⟩
          case round =>
            obtain ⟨i, hi, rfl, hww⟩ := hrel
            have hww2 := hww.symm
            subst hww2
            by_cases hil : i < en
            · obtain ⟨ad, hA1, hc1⟩ := HH.out.cell hil
              simp only [mkE] at hA1 hc1
              subst hA1
              by_cases hix : i < xn
              · obtain ⟨ad2, hA2, hc2⟩ := HHx.out.cell hix
                simp only [mkE, Sl.ke] at hA2 hc2
                subst hA2
                go_wp2
                go_roundw
                case rel => exact ⟨i + 1, hil, by go_num, trivial⟩
                case measure => simp [intOf]; omega
              · go_wp2
                go_roundw
                case rel => exact ⟨i + 1, hil, by go_num, trivial⟩
                case measure => simp [intOf]; omega
            · go_wp2
              go_roundw
              case rel => exact ⟨k + 1, hlt, by go_num, trivial⟩
              case measure => simp [intOf]; omega
        · go_wp2
          go_ret
          exact ⟨rfl, HE.out⟩
end Go.Proofs.Ytekgdlpicgibhab.EX
