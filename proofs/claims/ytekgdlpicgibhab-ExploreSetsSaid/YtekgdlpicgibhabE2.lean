/-
  full; the two packages' Image and Size, each by its walk.
-/
import Derived.Test.YtekgdlpicgibhabE1
import Derived.Maps.OwnOps
namespace Go.Proofs.Ytekgdlpicgibhab.EX
open Go.RowKit Go.Proofs.YtekgdlpicgibhabW.PrintWords

theorem made_row (w : World) (n : Nat) (hn : n ≤ maxLen) : Rb (w.alloc (.cells (madeCells #[.int .u8 0] n) 5)) w.heap.size (.slice (some ⟨w.heap.size, 0, none⟩) n n) (List.replicate n 0) := by
  have hcells : madeCells #[.int .u8 0] n = (List.replicate n (Value.int .u8 0)).toArray := by
    apply Array.ext'
    simp [toList_madeCells_one]
  rw [hcells]
  have h : (w.alloc (.cells (List.replicate n (Value.int .u8 0)).toArray 5)).ownsRow w.heap.size 5 1 (.slice (some ⟨w.heap.size, 0, none⟩) n n) n (encs (Value.int .u8) (List.replicate n 0)) := by
    refine ⟨by rw [encs_length]; simp, .inr ⟨w.heap.size, n, (List.replicate n (Value.int .u8 0)).toArray, rfl, Nat.le_refl _, heap_alloc_new w _, Nat.le_refl _, hn, by simp, by simp [encs]⟩⟩
  exact Kd.R_of_own (xs := List.replicate n (0 : Int)) (by rw [List.length_replicate]; exact h) (fun _ _ => trivial)
theorem fill_next (xs : List Int) (m : Int) {k : Nat} (hk : k < xs.length) : (List.replicate k m ++ xs.drop k).set k m = List.replicate (k + 1) m ++ xs.drop (k + 1) := by
  rw [List.drop_eq_getElem_cons hk, List.set_append_right _ _ (by simp)]
  rw [List.length_replicate, Nat.sub_self, List.set_cons_zero, List.replicate_succ', List.append_assoc]
  rfl
set_option maxRecDepth 100000 in
theorem full_any (x : Int) (w : World) : Calls Try.prog 23 #[.int .u8 x] w (Copied w (List.replicate 512 x)) := by
  have hmk : ∀ W : World, (Instr.makeSlice 24 (.int .i64 512) (.int .i64 512)).run Try.prog W = .ok (.slice (some ⟨W.heap.size, 0, none⟩) 512 512) (W.alloc (.cells (madeCells #[.int .u8 0] 512) 5)) := fun W =>
    run_make_row' 24 5 (.int .u8 0) 1 Try.underlying24 info5 rfl .i64 .i64 512 (by decide) (by decide) W
  have H0 : Hid (Rb (w.alloc (.cells (madeCells #[.int .u8 0] 512) 5)) w.heap.size (.slice (some ⟨w.heap.size, 0, none⟩) 512 512) (List.replicate 0 x ++ (List.replicate 512 0).drop 0)) := by
    have := made_row w 512 (by decide)
    exact this
  obtain ⟨g, hg⟩ : ∃ g, w.heap.size = g := ⟨_, rfl⟩
  go_enter Try.func23, Try.ntmps23
  go_wp2
  clear hmk
  obtain ⟨W, hW⟩ : ∃ W, w.alloc (.cells (madeCells #[.int .u8 0] 512) 5) = W := ⟨_, rfl⟩
  rw [hW] at H0 ⊢
  have HB : Hid (Below w.heap.size w W) := by subst hW; exact below_alloc (Below.refl _ _) _
  clear hW
  rw [hg] at H0 HB
  go_loopw [4] (fun i wr => ∃ k : Nat, k ≤ 512 ∧ i = .int .i64 k ∧ Rb wr g (.slice (some ⟨g, 0, none⟩) 512 512) (List.replicate k x ++ (List.replicate 512 0).drop k) ∧ Below g w wr) (fun i _ => 512 - (intOf i).toNat)
  case atStart => exact ⟨0, Nat.zero_le _, rfl, H0.out, HB.out⟩
  case round =>
    obtain ⟨k, hk, rfl, hR1, hb1⟩ := hrel
    by_cases hlt : k < 512
    · have hL : (List.replicate k x ++ (List.replicate 512 (0 : Int)).drop k).length = 512 := by rw [List.length_append, List.length_replicate, List.length_drop, List.length_replicate]; omega
      have hcell := Kd.R_cell (d := (0 : Int)) (by rw [hL]; exact hR1) (k : Int) (by omega) (by omega)
      simp only [Int.toNat_natCast] at hcell
      obtain ⟨hc1, hf1⟩ := hcell
      have hput := Kd.R_putn hR1 (k : Int) x
      simp only [Int.toNat_natCast] at hput
      rw [fill_next (List.replicate 512 (0 : Int)) x (by rw [List.length_replicate]; exact hlt)] at hput
      have hbb : Below g w (wr.setCell ⟨g, k, none⟩ (.int .u8 x)) := ⟨hb1.os, hb1.tape, hb1.output, by simpa using hb1.size, fun j hj => (Below.heap_setCell wr _ _ j (by show j ≠ g; omega)).trans (hb1.block j hj)⟩
      have HP := Lib.hid hput
      have HBB := Lib.hid hbb
      clear hR1 hb1 hput hL hbb H0 HB
      go_wp2
      go_roundw
      case rel => exact ⟨k + 1, hlt, by go_num, HP.out, HBB.out⟩
      case measure => simp [intOf]; omega
    · obtain rfl : k = 512 := by omega
      have HP := Lib.hid hR1
      have HBB := Lib.hid hb1
      clear hR1 hb1 H0 HB
      go_wp2
      go_ret
      refine ⟨_, rfl, ?_, by rw [hg]; exact HBB.out⟩
      have h := HP.out
      rw [List.drop_eq_nil_of_le (by rw [List.length_replicate]; exact Nat.le_refl _), List.append_nil] at h
      rw [hg]
      exact h

/-- What Image asks of the bytes' number. -/
def Sized (n : Nat) : Prop := n % 512 = 0 ∧ 1 ≤ n / 512 ∧ n / 512 ≤ 4096
/-- A device: at g, its first slice is of n bytes. -/
def DevAt (w : World) (o g n : Nat) : Prop := ∃ A c, w.cell? ⟨g, o, none⟩ = some (.slice A n c)
theorem DevAt.below {w w1 : World} {o g n : Nat} (h : DevAt w o g n) (hb : Below w.heap.size w w1) : DevAt w1 o g n := by
  obtain ⟨A, c, h⟩ := h
  exact ⟨A, c, (hb.cell (World.block_lt_of_cell? w _ h)).trans h⟩
set_option maxRecDepth 100000 in
theorem image_no {w : World} {A : Option Addr} {n cap : Nat} (h : ¬ Sized n) (hl : n ≤ 1099511627776) :
    Calls Try.prog 33 #[.slice A n cap] w fun e w' => e = .returned (.tuple #[.pointer none, .int .i64 51]) ∧ w = w' := by
  have hq : ((n : Int)).tdiv 512 = ((n / 512 : Nat) : Int) := by rw [Int.tdiv_eq_ediv_of_nonneg (by omega)]; omega
  have hr : ((n : Int)).tmod 512 = ((n % 512 : Nat) : Int) := by rw [Int.tmod_eq_emod_of_nonneg (by omega)]; omega
  have hm : n % 512 = 0 ∨ n % 512 ≠ 0 := by omega
  rcases hm with hm | hm
  · have hs : n / 512 < 1 ∨ 4096 < n / 512 := by
      unfold Sized at h
      omega
    rw [hm] at hr
    have hsb : n / 512 ≤ 1099511627776 := by omega
    obtain ⟨s, hs2⟩ : ∃ s, n / 512 = s := ⟨_, rfl⟩
    rw [hs2] at hq hs hsb
    clear h hm hs2
    rcases hs with hs | hs
    · go_enter Try.func33, Try.ntmps33
      go_wp2
      go_ret2
      exact ⟨rfl, rfl⟩
    · have h1 : ¬ ((s : Int) < 1) := by omega
      go_enter Try.func33, Try.ntmps33
      go_wp2
      go_ret2
      exact ⟨rfl, rfl⟩
  · obtain ⟨r, hr2⟩ : ∃ r, n % 512 = r := ⟨_, rfl⟩
    have hsb : n / 512 ≤ 1099511627776 := by omega
    obtain ⟨s, hs2⟩ : ∃ s, n / 512 = s := ⟨_, rfl⟩
    rw [hs2] at hq hsb
    rw [hr2] at hr hm
    have h1 : ((r : Int) != 0) = true := bne_iff_ne.2 (by omega)
    have h2 : ¬ ((r : Int) = 0) := by omega
    clear h hr2 hs2 hm
    go_enter Try.func33, Try.ntmps33
    go_wp2
    go_ret2
    exact ⟨rfl, rfl⟩
theorem made_any {w : World} (A : Option Addr) (n cap : Nat) : Calls Try.prog 40 #[.slice A n cap] w fun e w' => ∃ g, e = .returned (.pointer (some ⟨g, 0, none⟩)) ∧ Below w.heap.size w w' ∧ DevAt w' 2 g n := by
  have hmm := @run_makeMap Try.prog
  go_enter Try.func40, Try.ntmps40
  go_wp2
  go_ret
  refine ⟨w.heap.size + 1, rfl, below_alloc (below_alloc (Below.refl _ _) _) _, A, cap, ?_⟩
  have h := heap_alloc_new (w.alloc (.map #[] 0)) (.cells #[.int .i32 0, .int .u32 0, .slice A n cap, .slice none 0 0, .map (some w.heap.size), .bool false, .int .i64 0] 87)
  rw [World.size_alloc] at h
  exact (blk_cell h 2).trans rfl
theorem image_yes {w : World} {A : Option Addr} {n cap : Nat} {xs : List Int} (hx : Rd w (.slice A n cap) xs) (h : Sized n) :
    Calls Try.prog 33 #[.slice A n cap] w fun e w' => ∃ g, e = .returned (.tuple #[.pointer (some ⟨g, 0, none⟩), .int .i64 0]) ∧ Below w.heap.size w w' ∧ DevAt w' 2 g n := by
  have hq : ((n : Int)).tdiv 512 = ((n / 512 : Nat) : Int) := by rw [Int.tdiv_eq_ediv_of_nonneg (by omega)]; omega
  have hr : ((n : Int)).tmod 512 = 0 := by rw [Int.tmod_eq_emod_of_nonneg (by omega)]; unfold Sized at h; omega
  have hl : xs.length ≤ 1099511627776 := by
    have := hx.cells.1
    unfold Sized at h
    omega
  obtain ⟨s, hs2⟩ : ∃ s, n / 512 = s := ⟨_, rfl⟩
  have h1 : 1 ≤ s ∧ s ≤ 4096 := by unfold Sized at h; omega
  obtain ⟨h1, h2⟩ := h1
  rw [hs2] at hq
  have HN := Lib.hid hx.cells.1
  have HX := Lib.hid hx
  clear h hx hs2
  go_enter Try.func33, Try.ntmps33
  go_wp2_with fail
  refine (clone_any HX.out hl).mono ?_
  rintro e w1 ⟨v, rfl, hR, hb⟩
  obtain ⟨A1, c1, e1⟩ := Kd.R_slice hR
  rw [← HN.out] at e1
  subst e1
  have HB := Lib.hid hb
  clear hR hb
  go_wp2_with fail
  refine (made_any A1 n c1).mono ?_
  rintro e w2 ⟨g, rfl, hb2, hd⟩
  have HB2 := Lib.hid hb2
  have HD := Lib.hid hd
  clear hb2 hd
  go_wp2
  go_ret2
  exact ⟨g, rfl, HB.out.trans (HB2.out.mono HB.out.size), HD.out⟩
theorem size_any {w : World} {g n : Nat} (h : DevAt w 2 g n) (hn : n ≤ 1099511627776) : Calls Try.prog 34 #[.pointer (some ⟨g, 0, none⟩)] w fun e w' => e = .returned (.int .i64 ((n / 512 : Nat) : Int)) ∧ w = w' := by
  obtain ⟨A, c, hc⟩ := h
  have hq : ((n : Int)).tdiv 512 = ((n / 512 : Nat) : Int) := by rw [Int.tdiv_eq_ediv_of_nonneg (by omega)]; omega
  have hsb : n / 512 ≤ 1099511627776 := by omega
  obtain ⟨s, hs2⟩ : ∃ s, n / 512 = s := ⟨_, rfl⟩
  rw [hs2] at hq hsb ⊢
  clear hs2
  go_enter Try.func34, Try.ntmps34
  go_wp2
  go_ret
  exact ⟨rfl, rfl⟩
theorem rsize_any {w : World} {g n : Nat} (h : DevAt w 0 g n) (hn : n ≤ 1099511627776) : Calls Try.prog 37 #[.pointer (some ⟨g, 0, none⟩)] w fun e w' => e = .returned (.int .i64 ((n / 512 : Nat) : Int)) ∧ w = w' := by
  obtain ⟨A, c, hc⟩ := h
  have hq : ((n : Int)).tdiv 512 = ((n / 512 : Nat) : Int) := by rw [Int.tdiv_eq_ediv_of_nonneg (by omega)]; omega
  have hsb : n / 512 ≤ 1099511627776 := by omega
  obtain ⟨s, hs2⟩ : ∃ s, n / 512 = s := ⟨_, rfl⟩
  rw [hs2] at hq hsb ⊢
  clear hs2
  go_enter Try.func37, Try.ntmps37
  go_wp2
  go_ret
  exact ⟨rfl, rfl⟩
set_option maxRecDepth 100000 in
theorem rimage_no {w : World} {A : Option Addr} {n cap : Nat} (h : ¬ Sized n) (hl : n ≤ 1099511627776) :
    Calls Try.prog 36 #[.slice A n cap] w fun e w' => e = .returned (.tuple #[.pointer none, .int .i64 51]) ∧ w = w' := by
  have hq : ((n : Int)).tdiv 512 = ((n / 512 : Nat) : Int) := by rw [Int.tdiv_eq_ediv_of_nonneg (by omega)]; omega
  have hr : ((n : Int)).tmod 512 = ((n % 512 : Nat) : Int) := by rw [Int.tmod_eq_emod_of_nonneg (by omega)]; omega
  have hm : n % 512 = 0 ∨ n % 512 ≠ 0 := by omega
  rcases hm with hm | hm
  · have hs : n / 512 < 1 ∨ 4096 < n / 512 := by
      unfold Sized at h
      omega
    rw [hm] at hr
    have hsb : n / 512 ≤ 1099511627776 := by omega
    obtain ⟨s, hs2⟩ : ∃ s, n / 512 = s := ⟨_, rfl⟩
    rw [hs2] at hq hs hsb
    clear h hm hs2
    rcases hs with hs | hs
    · go_enter Try.func36, Try.ntmps36
      go_wp2
      go_ret2
      exact ⟨rfl, rfl⟩
    · have h1 : ¬ ((s : Int) < 1) := by omega
      go_enter Try.func36, Try.ntmps36
      go_wp2
      go_ret2
      exact ⟨rfl, rfl⟩
  · obtain ⟨r, hr2⟩ : ∃ r, n % 512 = r := ⟨_, rfl⟩
    have hsb : n / 512 ≤ 1099511627776 := by omega
    obtain ⟨s, hs2⟩ : ∃ s, n / 512 = s := ⟨_, rfl⟩
    rw [hs2] at hq hsb
    rw [hr2] at hr hm
    have h1 : ((r : Int) != 0) = true := bne_iff_ne.2 (by omega)
    have h2 : ¬ ((r : Int) = 0) := by omega
    clear h hr2 hs2 hm
    go_enter Try.func36, Try.ntmps36
    go_wp2
    go_ret2
    exact ⟨rfl, rfl⟩
set_option maxRecDepth 100000 in
theorem rimage_yes {w : World} {A : Option Addr} {n cap : Nat} {xs : List Int} (hx : Rd w (.slice A n cap) xs) (h : Sized n) :
    Calls Try.prog 36 #[.slice A n cap] w fun e w' => ∃ g, e = .returned (.tuple #[.pointer (some ⟨g, 0, none⟩), .int .i64 0]) ∧ Below w.heap.size w w' ∧ DevAt w' 0 g n := by
  have hq : ((n : Int)).tdiv 512 = ((n / 512 : Nat) : Int) := by rw [Int.tdiv_eq_ediv_of_nonneg (by omega)]; omega
  have hr : ((n : Int)).tmod 512 = 0 := by rw [Int.tmod_eq_emod_of_nonneg (by omega)]; unfold Sized at h; omega
  have hl : xs.length ≤ 1099511627776 := by
    have := hx.cells.1
    unfold Sized at h
    omega
  obtain ⟨s, hs2⟩ : ∃ s, n / 512 = s := ⟨_, rfl⟩
  have h1 : 1 ≤ s ∧ s ≤ 4096 := by unfold Sized at h; omega
  have hn1 : 1 ≤ n := by unfold Sized at h; omega
  obtain ⟨h1, h2⟩ := h1
  rw [hs2] at hq
  obtain ⟨ad, rfl, _⟩ := hx.cells.2 0 (by omega)
  have HN := Lib.hid hx.cells.1
  have HX := Lib.hid hx.cells.2
  clear h hx hs2
  obtain ⟨i0, hi, hz0, hz1, hz2⟩ := info_parts info5
  have HO := Lib.hid (World.ownsRow_nil w w.heap.size 5 1)
  go_enter Try.func36, Try.ntmps36
  go_wp2_with (at_builtin; refine wpList_append_own _ rfl (.const (.slice none 0 0)) (.tmp 20) 24 rfl w.heap.size 5 i0 (.int .u8 0) 1 1 Try.underlying24 hi hz0 hz1 hz2 rfl (by decide) _ 0 [] rfl HO.out ad n cap (encs (Value.int .u8) xs) rfl (by rw [encs_length]; have := HN.out; omega) ?c1 ?c2 (by have := HN.out; unfold maxLen; omega) (by have := HN.out; omega) (Nat.le_refl _) ?_; rotate_right; intro v1 w1 ho hg hz; clear hz; have hR1 : Rb w1 w.heap.size v1 xs := Kd.R_of_own (by have := HN.out; rw [← this]; simpa using ho) (fun _ _ => trivial); have hg' : w.grownBy w1 none := hg; have hb1 : Below w.heap.size w w1 := (Below.refl _ w).grown hg' (Nat.le_refl _) (fun k hk => by cases hk); obtain ⟨A1, c1, e1⟩ := Kd.R_slice hR1; rw [← HN.out] at e1; subst e1; have HB1 := Lib.hid hb1; clear hR1 hb1 ho hg hg')
  case c1 =>
    intro j u hj
    have hjl : j < xs.length := by have := (List.getElem?_eq_some_iff.1 hj).1; rwa [encs_length] at this
    obtain ⟨ad', he, hlt, hc⟩ := HX.out j (by have := HN.out; omega)
    injection he with he
    subst he
    rw [hc]
    simp [encs, List.getElem?_eq_getElem hjl] at hj
    simp [List.getD_eq_getElem?_getD, List.getElem?_eq_getElem hjl, hj]
  case c2 =>
    intro u hu
    simp only [encs, List.mem_map] at hu
    obtain ⟨x, _, rfl⟩ := hu
    rfl
  · skip
    go_wp2
    go_ret2
    refine ⟨w1.heap.size, rfl, HB1.out.trans ((below_alloc (Below.refl _ _) _).mono HB1.out.size), A1, c1, ?_⟩
    exact (blk_cell (heap_alloc_new w1 _) 0).trans rfl
end Go.Proofs.Ytekgdlpicgibhab.EX
