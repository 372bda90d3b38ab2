/-
  laid: those of the writes whose bit is set, laid.
-/
import Derived.Test.YtekgdlpicgibhabD6
namespace Go.Proofs.Ytekgdlpicgibhab.EX
open Go.RowKit Go.Proofs.YtekgdlpicgibhabW.PrintWords Go.MuLone

set_option maxRecDepth 100000 in
set_option maxHeartbeats 4000000 in
theorem laid_any {w : World} {A C : Option Addr} {n c k0 kc N mm : Nat} {bs : List Int} {ps : List (Int × List Int)} (hx : Rd w (.slice A n c) bs) (hp : PendAt w (.slice C k0 kc) ps) (hbl : bs.length = 512 * N) (hok : Ok N ps) (hN1 : 1 ≤ N) (hN : N ≤ 4096)
    (hL : ps.length ≤ 8) :
    Calls Try.prog 28 #[.slice A n c, .slice C k0 kc, .int .i64 mm] w fun e w' => ∃ v, e = .returned v ∧ Rb w' w.heap.size v (img bs ps mm) ∧ Below w.heap.size w w' := by
  have HX := Lib.hid hx
  obtain ⟨C1, kc1, e1, hP⟩ := hp
  cases e1
  have HP := Lib.hid hP
  have hnn := hx.cells.1
  subst hnn
  have HBL := Lib.hid hbl
  have HOK := Lib.hid hok
  have hbs : bs.length ≤ 2097152 := by omega
  have hq : (bs.length : Int).tdiv 512 = (N : Int) := by rw [Int.tdiv_eq_ediv_of_nonneg (by omega)]; omega
  clear hP hx hbl hok
  go_enter Try.func28, Try.ntmps28
  go_wp2_with fail
  refine (bytes_any HX.out (by omega)).mono ?_
  rintro e w3 ⟨v3, rfl, hR3, hb3⟩
  obtain ⟨A3, c3, e3⟩ := Kd.R_slice hR3
  subst e3
  obtain ⟨g3, hg3⟩ : ∃ g3, A3 = some ⟨g3, 0, none⟩ := by
    obtain ⟨ad, e, _⟩ := (Kd.R_reads' hR3).2.2.2.2 (by have := HBL.out; omega)
    subst e
    obtain ⟨g3, rfl⟩ := Kd.R_head hR3
    exact ⟨g3, rfl⟩
  subst hg3
  have HR3 := Lib.hid hR3
  have HB3 := Lib.hid hb3
  clear hR3 hb3
  go_wp2
  go_loopw [8] (fun i ws => ∃ k : Nat, k ≤ ps.length ∧ i = .int .i64 k ∧ Rb ws w.heap.size (.slice (some ⟨g3, 0, none⟩) bs.length c3) (imgK bs ps mm k) ∧ Below w.heap.size w ws) (fun i _ => ps.length - (intOf i).toNat)
  case atStart => exact ⟨0, Nat.zero_le _, rfl, HR3.out, HB3.out⟩
  case round =>
    obtain ⟨k, hk2, rfl, hR, hb⟩ := hrel
    have HR := Lib.hid hR
    have HBr := Lib.hid hb
    clear hR hb
    by_cases hkl : k < ps.length
    · obtain ⟨p, hp⟩ : ∃ p, ps[k]? = some p := ⟨_, List.getElem?_eq_getElem hkl⟩
      obtain ⟨bk, x⟩ := p
      obtain ⟨h1, h2, h3⟩ := HOK.out _ (List.mem_of_getElem? hp)
      simp only at h1 h2 h3
      obtain ⟨bn, rfl⟩ := Int.eq_ofNat_of_zero_le h1
      have HPk := Lib.hid hp
      have H3 := Lib.hid h3
      obtain ⟨ad, A1', c1', rfl, had, hc0, hc1, hRx⟩ := HP.out k _ hp
      simp only at hc0 hc1 hRx
      have z0 := (HBr.out.cell (p := ad.add (k * 2)) (by rw [add_block]; exact had)).trans hc0
      have z1 := (HBr.out.cell (p := ⟨(ad.add (k * 2)).block, (ad.add (k * 2)).off + 1, none⟩) (by show (ad.add (k * 2)).block < _; rw [add_block]; exact had)).trans hc1
      rw [h3] at z1
      have hnb : ¬ ((N : Int) ≤ (bn : Int)) := by omega
      have hd0 : decide ((bn : Int) < 0) = false := decide_eq_false (by omega)
      clear hp hc0 hc1 hRx h3
      by_cases hbit : mm / 2 ^ k % 2 = 1
      · have tb : ((mm : Int) / 2 ^ k).tmod 2 = 1 := by rw [bit_int]; omega
        have hlenK := imgK_len HBL.out HOK.out mm k
        have hbN : 512 * bn + 512 ≤ bs.length := by
          have h4 : bn + 1 ≤ N := by omega
          have := Nat.mul_le_mul_left 512 h4
          have := HBL.out
          omega
        obtain ⟨Y, hY⟩ : ∃ Y, imgK bs ps mm k = Y := ⟨_, rfl⟩
        have HY := Lib.hid hY
        have hYl : Y.length = bs.length := by rw [← hY, hlenK]; exact HBL.out.symm
        have HYl := Lib.hid hYl
        clear hlenK hY hYl
        go_wp2

        rename World => w5
        go_loopw [9] (fun i ws => ∃ j : Nat, j ≤ 512 ∧ i = .int .i64 j ∧ Rb ws w.heap.size (.slice (some ⟨g3, 0, none⟩) bs.length c3) (putJ Y bn x j) ∧ Below w.heap.size w ws) (fun i _ => 512 - (intOf i).toNat)
        case atStart => exact ⟨0, by decide, rfl, by rw [putJ_zero, ← HY.out]; exact HR.out, HBr.out⟩
        case round =>
          obtain ⟨j, hj, rfl, hR5, hb5⟩ := hrel
          have HR5 := Lib.hid hR5
          have HB5 := Lib.hid hb5
          clear hR5 hb5 z0 z1
          by_cases hj5 : j < 512
          · obtain ⟨ad2, A1'', c1'', e2, had2, hc0, hc1, hRx⟩ := HP.out k _ HPk.out
            cases e2
            simp only at hc0 hc1 hRx
            obtain ⟨xd, hxA, hxb, hcx⟩ := hRx.cells.2 j (by rw [H3.out]; exact hj5)
            have hbel := HB5.out
            have z0 := (hbel.cell (p := ad.add (k * 2)) (by rw [add_block]; exact had)).trans hc0
            have z1 := (hbel.cell (p := ⟨(ad.add (k * 2)).block, (ad.add (k * 2)).off + 1, none⟩) (by show (ad.add (k * 2)).block < _; rw [add_block]; exact had)).trans hc1
            rw [H3.out, hxA] at z1
            have z2 := (hbel.cell (p := xd.add j) (by rw [add_block]; exact hxb)).trans hcx
            obtain ⟨y, hy⟩ : ∃ y, x.getD j 0 = y := ⟨_, rfl⟩
            rw [hy] at z2
            have hLn : (putJ Y bn x j).length = bs.length := by rw [putJ_len H3.out hj (by rw [HYl.out]; exact hbN)]; exact HYl.out
            have hcell := Kd.R_cell (d := (0 : Int)) (by rw [hLn]; exact HR5.out) ((512 * bn + j : Nat) : Int) (by omega) (by omega)
            simp only [Int.toNat_natCast] at hcell
            obtain ⟨hc5, hf5⟩ := hcell
            have hput := Kd.R_putn HR5.out ((512 * bn + j : Nat) : Int) y
            simp only [Int.toNat_natCast] at hput
            rw [← hy, putJ_next H3.out hj5 (by rw [HYl.out]; exact hbN)] at hput
            obtain ⟨t, ht⟩ : ∃ t, 512 * bn + j = t := ⟨_, rfl⟩
            have q0 : 512 * (bn : Int) + (j : Int) = (t : Int) := by omega
            have q1 : IntKind.i64.wrap (512 * (bn : Int)) = 512 * (bn : Int) := IntWalk.i64_in _ (by omega)
            have q2 : IntKind.i64.wrap (t : Int) = (t : Int) := IntWalk.i64_in _ (by omega)
            have q3 : (t : Int) < (bs.length : Int) := by omega
            rw [ht] at hc5 hf5 hput
            rw [hy] at hput
            have HPUT := Lib.hid hput
            have HBN : Hid (Below w.heap.size w (wr.setCell ⟨g3, t, none⟩ (.int .u8 y))) := by
              have hb5 := HB5.out
              have hge := HR5.out.base g3 rfl
              exact ⟨hb5.os, hb5.tape, hb5.output, by simpa using hb5.size, fun i hi => (Below.heap_setCell wr _ _ i (by show i ≠ g3; omega)).trans (hb5.block i hi)⟩
            clear hput hLn hy hbel hc0 hc1 hRx hcx ht hxA
            go_wp2
            go_region_law (fail)
            all_goals
              go_wp2
              go_roundw
              case rel => exact ⟨j + 1, hj5, by go_num, by first | exact HPUT.out | exact Kd.R_drew HPUT.out | exact Kd.R_drewN HPUT.out _, by first | exact HBN.out | exact below_drew HBN.out | exact pw_below_drewN HBN.out _⟩
              case measure => simp [intOf]; omega
          · obtain rfl : j = 512 := by omega
            have HNX : Hid (Rb wr w.heap.size (.slice (some ⟨g3, 0, none⟩) bs.length c3) (imgK bs ps mm (k + 1))) := by
              have h := HR5.out
              rw [putJ_full _ _ _ H3.out, ← HY.out] at h
              have e := imgK_yes (bs := bs) HPk.out hbit
              simp only [Int.toNat_natCast] at e
              rw [← e] at h
              exact h
            go_wp2
            go_roundw
            case rel => exact ⟨k + 1, hkl, by go_num, HNX.out, HB5.out⟩
            case measure => simp [intOf]; omega
      · have tb : (((mm : Int) / 2 ^ k).tmod 2 == 1) = false := beq_eq_false_iff_ne.2 (by rw [bit_int]; omega)
        have HNX : Hid (Rb wr w.heap.size (.slice (some ⟨g3, 0, none⟩) bs.length c3) (imgK bs ps mm (k + 1))) := by
          have h := HR.out
          rw [← imgK_no hbit] at h
          exact h
        go_wp2
        go_roundw
        case rel => exact ⟨k + 1, hkl, by go_num, HNX.out, HBr.out⟩
        case measure => simp [intOf]; omega
    · obtain rfl : k = ps.length := by omega
      go_wp2
      go_ret
      exact ⟨_, rfl, HR.out, HBr.out⟩
end Go.Proofs.Ytekgdlpicgibhab.EX
