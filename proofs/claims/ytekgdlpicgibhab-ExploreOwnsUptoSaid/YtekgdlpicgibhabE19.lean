/-
  apartLists: each list of images written full with marks of its own, then gone on behind its end: no other one shows it.
-/
import Derived.Test.YtekgdlpicgibhabE18
import Derived.IntWalk
namespace Go.Proofs.Ytekgdlpicgibhab.EX
open Go.RowKit Go.Proofs.YtekgdlpicgibhabW.PrintWords

theorem info31 : (Try.prog.info? 31).map (fun i => (i.zero, i.size, i.bytes)) = some (some (.slice none 0 0), 1, 24) := by kernel_rfl
set_option maxRecDepth 100000 in
set_option maxHeartbeats 8000000 in
theorem apartL_any {w : World} {b bL : Nat} {vL : Value} {LS : List Sl} (hL : RL w b LS) (hV : Ru w bL vL LS) (hb : b ≤ w.heap.size) (hl : LS.length ≤ 100) (hn : ∀ (t : Nat) (x : Sl), LS[t]? = some x → x.n ≤ 1048576) :
    Calls Try.prog 20 #[vL] w fun e w' => e = .returned (.bool true) ∧ Only (LB LS) w w' := by
  obtain ⟨A, cap, rfl⟩ := Kd.R_slice hV
  have HV : Hid (∀ wr, Only (LB LS) w wr → Ru wr bL (.slice A LS.length cap) LS) := fun wr ho => hV.lists hL ho
  have HL := Lib.hid hL
  have HN := Lib.hid hn
  clear hV hL hn
  go_enter Try.func20, Try.ntmps20
  go_wp2
  go_loopw [4] (fun i wr => ∃ k : Nat, k ≤ LS.length ∧ i = .int .i64 k ∧ P1 w wr b LS (fun t => if t < k then 1048576 else 0)) (fun i _ => LS.length - (intOf i).toNat)
  case atStart => exact ⟨0, Nat.zero_le _, rfl, (P1.start HL.out).congr (fun t _ => if_neg (Nat.not_lt_zero t))⟩
  case round =>
    obtain ⟨i, hi, rfl, hp⟩ := hrel
    by_cases hlt : i < LS.length
    · obtain ⟨x, hx⟩ : ∃ x, LS[i]? = some x := ⟨_, List.getElem?_eq_getElem hlt⟩
      obtain ⟨xA, xn, xc⟩ := x
      have HX := Lib.hid hx
      have HP : Hid (P1 w wr b LS (updN (fun t => if t < i then 1048576 else 0) i 0)) := hp.congr (fun t _ => by
        unfold updN
        by_cases e : t = i
        · subst e; rw [if_pos rfl, if_neg (Nat.lt_irrefl _)]
        · rw [if_neg e])
      have h64 : xn ≤ 1048576 := HN.out i _ HX.out
      have hi100 : i < 100 := by omega
      clear hx hp
      go_wp2
      go_loopw [5] (fun j ws => ∃ k : Nat, k ≤ xn ∧ j = .int .i64 k ∧ P1 w ws b LS (updN (fun t => if t < i then 1048576 else 0) i k)) (fun j _ => xn - (intOf j).toNat)
      case atStart => exact ⟨0, Nat.zero_le _, rfl, HP.out⟩
      case round =>
        obtain ⟨k, hk, rfl, h2⟩ := hrel
        obtain ⟨g, hA, hc0⟩ := (HV.out _ h2.only).cell HX.out
        subst hA
        by_cases hkn : k < xn
        · obtain ⟨Y, hR1, hL2, _⟩ := h2.row i _ HX.out
          obtain ⟨y, hy⟩ : ∃ y, Y[k]? = some y := ⟨_, List.getElem?_eq_getElem (by simp only at hL2; omega)⟩
          obtain ⟨gx, hgx, hc1⟩ := Rv.cell hR1 hy
          simp only at hgx
          subst hgx
          have hf1 : wr.frozen? ⟨gx, k, none⟩ = false := by
            obtain ⟨cs, hcs⟩ := Kd.R_typed hR1 gx rfl
            exact not_frozen hcs k
          have hgl : gx < wr.heap.size := Rv.lt hR1 gx rfl
          have HNX := Lib.hid ((h2.put HL.out HX.out (k := k) (if_pos rfl)).congr (q' := updN (fun t => if t < i then 1048576 else 0) i (k + 1)) (fun t _ => by
            unfold updN
            by_cases e : t = i
            · rw [if_pos e, if_pos e]
            · rw [if_neg e, if_neg e, if_neg e]))
          clear h2 hR1 hL2 HP hy
          go_wp2
          go_roundw
          case rel => exact ⟨k + 1, hkn, by go_num, by rw [← World.setCell_alloc_past _ _ _ _ hgl]; exact HNX.out⟩
          case measure => simp [intOf]; omega
        · obtain rfl : k = xn := by omega
          have HT : Hid (P1 w wr b LS (fun t => if t < i + 1 then 1048576 else 0)) := by
            refine ⟨h2.only, fun t x hx => ?_⟩
            obtain ⟨Y, h1, h3, h4⟩ := h2.row t x hx
            refine ⟨Y, h1, h3, fun j y hj hy => h4 j y ?_ hy⟩
            have hjn := (List.getElem?_eq_some_iff.1 hy).1
            unfold updN
            by_cases e : t = i
            · subst e
              rw [HX.out] at hx
              cases hx
              rw [if_pos rfl]
              simp only at h3
              omega
            · rw [if_neg e]
              have hj : j < if t < i + 1 then 1048576 else 0 := hj
              show j < if t < i then 1048576 else 0
              by_cases h1 : t < i
              · rw [if_pos h1]; rw [if_pos (by omega)] at hj; exact hj
              · rw [if_neg h1]; rw [if_neg (by omega)] at hj; exact hj
          clear h2 HP
          go_wp2
          go_roundw
          case rel => exact ⟨i + 1, hlt, by go_num, HT.out⟩
          case measure => simp [intOf]; omega
    · obtain rfl : i = LS.length := by omega
      have H2 : Hid (PhL w wr b LS [] (.slice none 0 0) 0) := hp.done (fun t x hx => by
        rw [if_pos (List.getElem?_eq_some_iff.1 hx).1]
        exact HN.out t x hx)
      clear hp hlt hi
      go_wp2
      go_loopw [3, 6] (fun vF i wr => ∃ (k : Nat) (F : List KE), k ≤ LS.length ∧ i = .int .i64 k ∧ PhL w wr b LS F vF k) (fun _ i _ => LS.length - (intOf i).toNat)
      case atStart => exact ⟨0, [], Nat.zero_le _, rfl, H2.out⟩
      case round =>
        obtain ⟨i, F, hi, rfl, hp⟩ := hrel
        obtain ⟨AF, cF, eF⟩ := Kd.R_slice hp.farV
        subst eF
        have hFl : (F.map KE.sl).length = i := by rw [List.length_map]; exact hp.len
        rw [hFl] at hp ⊢
        clear H2
        by_cases hlt : i < LS.length
        · obtain ⟨x, hx⟩ : ∃ x, LS[i]? = some x := ⟨_, List.getElem?_eq_getElem hlt⟩
          obtain ⟨xA, xn, xc⟩ := x
          have HX := Lib.hid hx
          obtain ⟨g, hA, hc0⟩ := (HV.out _ hp.only).cell HX.out
          subst hA
          have HP2 := Lib.hid hp
          have HFL := Lib.hid hFl
          obtain ⟨Y, hY1, hY2, hY3⟩ := hp.todo i _ hx (Nat.le_refl _)
          have HG0 := Lib.hid (G2L.start (x := ⟨xA, xn, xc⟩) hY1 hY2 hY3)
          have h64 : xn ≤ 1048576 := HN.out i _ HX.out
          have hi100 : i < 100 := by omega
          clear hx hp hFl hY1 hY2 hY3
          obtain ⟨w2, hw2⟩ : ∃ w2, wr = w2 := ⟨_, rfl⟩
          subst hw2
          rename World => w2
          go_wp2
          go_loopw [7, 8] (fun v2 j ws => ∃ q : Nat, q ≤ 90 ∧ j = .int .i64 q ∧ G2L w2 ws b ⟨xA, xn, xc⟩ v2 q (mkL i)) (fun _ j _ => 90 - (intOf j).toNat)
          case atStart => exact ⟨0, Nat.zero_le _, rfl, HG0.out⟩
          case round =>
            obtain ⟨q, hq, rfl, hg2⟩ := hrel
            obtain ⟨Z, hZ1, hZ2, hZ3⟩ := hg2.row
            obtain ⟨A2, c2, e2⟩ := Kd.R_slice hZ1
            rw [hZ2] at e2
            subst e2
            have HG := Lib.hid hg2
            have HZ1 := Lib.hid hZ1
            have HZ2 := Lib.hid hZ2
            have HZ3 := Lib.hid hZ3
            clear hg2 HG0 hZ1 hZ2 hZ3
            simp only at HG HZ1 HZ2 HZ3 ⊢
            by_cases hq6 : q < 90
            · have HRL2 : Hid (Z.length ≤ 1099511627776) := by show Z.length ≤ 1099511627776; rw [HZ2.out]; omega
              have HSZ : Hid (b ≤ (wr.alloc (.cells #[.int .u8 (mkL i)] 5)).heap.size) := by
                have h1 := HG.out.only.size
                have h2 := HP2.out.only.size
                show _ ≤ _
                rw [World.size_alloc]
                omega
              have HRA : Hid (Rv (wr.alloc (.cells #[.int .u8 (1 + (i : Int))] 5)) b (.slice A2 (xn + q) c2) Z) := HZ1.out.keep (fun k hk => Below.heap_alloc _ _ _ (Rv.lt HZ1.out k hk))
              go_wp2_with (first | (at_builtin; go_loud (refine wpList_append_keep1 (W := wr.alloc (.cells #[.int .u8 (1 + (i : Int))] 5)) b (wr.heap.size + 1) (World.size_alloc _ _) rfl (.tmp 50) (.tmp 55) rfl (.slice A2 (xn + q) c2) Z ⟨some ⟨wr.heap.size, 0, none⟩, 1, 1⟩ rfl rfl HRA.out HSZ.out HRL2.out ?_); intro v3 w4 ha3; have HA3 := Lib.hid ha3; clear ha3))
              go_roundw
              case rel => exact ⟨q + 1, hq6, by go_num, HG.out.next HZ1.out HZ2.out HZ3.out HA3.out⟩
              case measure => simp [intOf]; omega
            · obtain rfl : q = 90 := by omega
              have HFs : Hid (Ru wr w.heap.size (.slice AF i cF) (F.map KE.sl)) := by
                have h1 := HP2.out.farV
                refine Ru.keep h1 (fun k' hk' => HG.out.only.block k' (h1.lt k' hk') (fun e => ?_))
                have h2 := Kd.R_base h1 k' hk'
                have h3 := HL.out.lt HX.out k' e.symm
                omega
              have HFb : Hid (w.heap.size ≤ wr.heap.size) := by
                have h1 := HG.out.only.size
                have h2 := HP2.out.only.size
                exact Nat.le_trans h2 h1
              go_wp2_with (first | (at_builtin; go_loud (refine Kd.R_append kV (w0 := wr) w.heap.size rfl (.tmp 57) (.tmp 59) 42 31 (.slice none 0 0) 24 rfl Try.underlying42 info31 rfl (by decide) (by decide) (.slice AF i cF) (F.map KE.sl) (⟨A2, xn + 90, c2⟩ : Sl) [.slice A2 (xn + 90) c2] (fun _ => True) (fun _ => False) rfl rfl (kV_mk rfl) (fun _ hk => hk.elim) (fun _ _ => trivial) HFs.out (Below.refl _ _) HFb.out (by rw [HFL.out]; omega) ?_); intro v9 w9 hR9 _ hg9 hat9; have HN9 := Lib.hid (HP2.out.next HL.out HX.out HG.out HFs.out hR9 hg9 hat9); clear hR9 hg9 hat9))
              go_roundw
              case rel => exact ⟨i + 1, _, hlt, by go_num, HN9.out⟩
              case measure => simp [intOf]; omega
        · obtain rfl : i = LS.length := by omega
          have HP := Lib.hid hp
          have HFL := Lib.hid hFl
          have HV2 := Lib.hid (HV.out _ hp.only)
          obtain ⟨w2, hw2⟩ : ∃ w2, wr = w2 := ⟨_, rfl⟩
          subst hw2
          rename World => w2
          clear hp hFl hlt hi
          go_wp2
          go_loopw [9] (fun i ws => ∃ k : Nat, k ≤ LS.length ∧ i = .int .i64 k ∧ ws = w2) (fun i _ => LS.length - (intOf i).toNat)
          case atStart => exact ⟨0, Nat.zero_le _, rfl, rfl⟩
          case round =>
            obtain ⟨k, hk, rfl, hww⟩ := hrel
            have hww2 := hww.symm
            subst hww2
            by_cases hlt : k < LS.length
            · obtain ⟨x, hx⟩ : ∃ x, LS[k]? = some x := ⟨_, List.getElem?_eq_getElem hlt⟩
              have hkF : k < F.length := by have := HP.out.len; omega
              obtain ⟨e, he⟩ : ∃ e, F[k]? = some e := ⟨_, List.getElem?_eq_getElem hkF⟩
              obtain ⟨gL, hA, hcL⟩ := HV2.out.cell hx
              obtain ⟨gF, hAF, hcF⟩ := Ru.cell HP.out.farV (j := k) (x := e.sl) (by rw [List.getElem?_map, he]; rfl)
              subst hA
              subst hAF
              obtain ⟨hH, hm, ⟨y, hy, hen, _⟩, _⟩ := HP.out.far k e he
              rw [hx] at hy
              cases hy
              have hHx := HP.out.old k x hx hlt
              have h64 : x.n ≤ 1048576 := HN.out k x hx
              obtain ⟨xA, xn, xc⟩ := x
              obtain ⟨eA, ec, em, en⟩ := e
              simp only at hm hen h64
              subst hm
              simp only [KE.sl] at hcF
              have HH := Lib.hid hH
              have HHx := Lib.hid hHx
              have hi100 : k < 100 := by omega
              clear hH hHx hx he hkF
              go_wp2
              go_loopw [10] (fun j ws => ∃ i : Nat, i ≤ en ∧ j = .int .i64 i ∧ ws = w2) (fun j _ => en - (intOf j).toNat)
              case atStart => exact ⟨0, Nat.zero_le _, rfl, rfl⟩
              case round =>
                obtain ⟨i, hi, rfl, hww⟩ := hrel
                have hww2 := hww.symm
                subst hww2
                by_cases hil : i < en
                · obtain ⟨g1, u1, hA1, hc1, m1, hu1, hm1⟩ := HH.out i hil
                  have hb1 : w2.cell? ⟨m1, 0, none⟩ = some (.int .u8 (1 + (k : Int))) := (blk_cell hm1 0).trans rfl
                  try simp only at hA1
                  subst hA1
                  subst hu1
                  by_cases hix : i < xn
                  · obtain ⟨g2, u2, hA2, hc2, m2, hu2, hm2⟩ := HHx.out i hix
                    have hb2 : w2.cell? ⟨m2, 0, none⟩ = some (.int .u8 (1 + (k : Int))) := (blk_cell hm2 0).trans rfl
                    try simp only at hA2
                    subst hA2
                    subst hu2
                    clear hm1 hm2
                    go_wp2
                    go_roundw
                    case rel => exact ⟨i + 1, hil, by go_num, trivial⟩
                    case measure => simp [intOf]; omega
                  · clear hm1
                    go_wp2
                    go_roundw
                    case rel => exact ⟨i + 1, hil, by go_num, trivial⟩
                    case measure => simp [intOf]; omega
                · go_wp2
                  go_roundw
                  case rel => exact ⟨k + 1, hlt, by go_num, trivial⟩
                  case measure => simp [intOf]; omega
            · go_wp2
              go_ret
              exact ⟨rfl, HP.out.only⟩
end Go.Proofs.Ytekgdlpicgibhab.EX
