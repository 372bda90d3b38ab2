/-
  apart: each list written full with a mark of its own, then gone on behind its end: no other one shows it.
-/
import Derived.Test.YtekgdlpicgibhaaO2
namespace Go.Proofs.Ytekgdlpicgibhaa.QI
open Go.RowKit Go.Proofs.YtekgdlpicgibhaaW.PrintWords Go.Proofs.Ytekgdlpicgibhaa.QQ

/-- The lists' blocks. -/
def LB (L : List Sl) (g : Nat) : Prop := ∃ (t : Nat) (x : Sl), L[t]? = some x ∧ x.val.ownBlock = some g
theorem RV.lists {w wr : World} {b bL : Nat} {vL : Value} {L : List Sl} {X : Nat → List Int} (hL : Lists w b L X) (h : RV w bL vL L) (ho : Only (LB L) w wr) : RV wr bL vL L :=
  h.keep (fun k hk => ho.block k (h.lt k hk) (fun ⟨t, x, hx, e⟩ => by
    obtain ⟨c1, h1⟩ := Kd.R_typed h k hk
    obtain ⟨c2, h2⟩ := Kd.R_typed (hL.own t x hx).1 k e
    exact cells_ne h1 h2 (by decide) rfl))

set_option maxRecDepth 100000 in
set_option maxHeartbeats 8000000 in
theorem apart_any {w : World} {b bL : Nat} {vL : Value} {L : List Sl} {X : Nat → List Int} (hL : Lists w b L X) (hV : RV w bL vL L) (hb : b ≤ w.heap.size) (hl : L.length ≤ 1000) :
    Calls Try.prog 30 #[vL] w fun e w' => e = .returned (.bool true) ∧ Only (LB L) w w' := by
  obtain ⟨A, cap, rfl⟩ := Kd.R_slice hV
  have HV : Hid (∀ wr, Only (LB L) w wr → RV wr bL (.slice A L.length cap) L) := fun wr ho => hV.lists hL ho
  have HL := Lib.hid hL
  clear hV hL
  go_enter Try.func30, Try.ntmps30
  go_wp2
  go_loopw [4] (fun i wr => ∃ k : Nat, k ≤ L.length ∧ i = .int .i64 k ∧ Ph1 w wr b L X k 0) (fun i _ => L.length - (intOf i).toNat)
  case atStart => exact ⟨0, Nat.zero_le _, rfl, Ph1.start HL.out⟩
  case round =>
    obtain ⟨i, hi, rfl, hp⟩ := hrel
    by_cases hlt : i < L.length
    · obtain ⟨x, hx⟩ : ∃ x, L[i]? = some x := ⟨_, List.getElem?_eq_getElem hlt⟩
      obtain ⟨xA, xn, xc⟩ := x
      have HX := Lib.hid hx
      have HP := Lib.hid hp
      have h64 : xn ≤ 64 := (HL.out.own i _ HX.out).2.2
      clear hx hp
      go_wp2
      go_loopw [5] (fun j ws => ∃ k : Nat, k ≤ xn ∧ j = .int .i64 k ∧ Ph1 w ws b L X i k) (fun j _ => xn - (intOf j).toNat)
      case atStart => exact ⟨0, Nat.zero_le _, rfl, HP.out⟩
      case round =>
        obtain ⟨k, hk, rfl, h2⟩ := hrel
        obtain ⟨g, hA, hc0⟩ := (HV.out _ h2.only).cell HX.out
        subst hA
        by_cases hkn : k < xn
        · have hlx : (X i).length = xn := (HL.out.own i _ HX.out).2.1
          have hL2 : (List.replicate k (mk_ i) ++ (X i).drop k).length = xn := by rw [List.length_append, List.length_replicate, List.length_drop, hlx]; omega
          have hR1 := h2.now _ HX.out
          obtain ⟨gx, hgx⟩ : ∃ gx, xA = some ⟨gx, 0, none⟩ := by
            obtain ⟨ad, e, _⟩ := (Kd.R_reads' hR1).2.2.2.2 (by rw [hL2]; omega)
            subst e
            obtain ⟨gx, rfl⟩ := Kd.R_head hR1
            exact ⟨gx, rfl⟩
          subst hgx
          have hcell := Kd.R_cell (d := (0 : Int)) (by rw [hL2]; exact hR1) (k : Int) (by omega) (by omega)
          simp only [Int.toNat_natCast] at hcell
          obtain ⟨hc1, hf1⟩ := hcell
          have HN := Lib.hid (Ph1.put HL.out h2 HX.out hkn)
          clear h2 hR1 hL2 hlx HP
          go_wp2
          go_roundw
          case rel => exact ⟨k + 1, hkn, by go_num, HN.out⟩
          case measure => simp [intOf]; omega
        · have HT := Lib.hid (h2.turn HL.out HX.out (by show k = xn; omega))
          clear h2 HP
          go_wp2
          go_roundw
          case rel => exact ⟨i + 1, hlt, by go_num, HT.out⟩
          case measure => simp [intOf]; omega
    · obtain rfl : i = L.length := by omega
      have H2 := Lib.hid (Ph2.start hp)
      clear hp hlt hi
      go_wp2
      go_loopw [3, 6] (fun vF i wr => ∃ (k : Nat) (F : List KE), k ≤ L.length ∧ i = .int .i64 k ∧ Ph2 w wr b L F vF k) (fun _ i _ => L.length - (intOf i).toNat)
      case atStart => exact ⟨0, [], Nat.zero_le _, rfl, H2.out⟩
      case round =>
        obtain ⟨i, F, hi, rfl, hp⟩ := hrel
        obtain ⟨AF, cF, eF⟩ := Kd.R_slice hp.farV
        subst eF
        have hFl : (F.map KE.sl).length = i := by rw [List.length_map]; exact hp.len
        rw [hFl] at hp ⊢
        clear H2
        by_cases hlt : i < L.length
        · obtain ⟨x, hx⟩ : ∃ x, L[i]? = some x := ⟨_, List.getElem?_eq_getElem hlt⟩
          obtain ⟨xA, xn, xc⟩ := x
          have HX := Lib.hid hx
          obtain ⟨g, hA, hc0⟩ := (HV.out _ hp.only).cell HX.out
          subst hA
          have HP := Lib.hid hp
          have HFL := Lib.hid hFl
          clear hx hp hFl
          have hG0 : G2 wr wr wr b (.slice xA xn xc) (.slice xA xn xc) xn 0 (mk_ i) := ⟨HP.out.todo i _ HX.out (Nat.le_refl _), fun _ h => h, Only.refl _ _, .inl rfl, Nat.le_refl _⟩
          have HG0 := Lib.hid hG0
          clear hG0
          have h64 : xn ≤ 64 := (HL.out.own i _ HX.out).2.2
          rename World => w2
          go_wp2
          go_loopw [7, 8] (fun v2 j ws => ∃ k : Nat, k ≤ 90 ∧ j = .int .i64 k ∧ G2 w2 w2 ws b (.slice xA xn xc) v2 xn k (mk_ i)) (fun _ j _ => 90 - (intOf j).toNat)
          case atStart => exact ⟨0, Nat.zero_le _, rfl, HG0.out⟩
          case round =>
            obtain ⟨k, hk, rfl, hg2⟩ := hrel
            obtain ⟨A2, c2, e2⟩ := Kd.R_slice hg2.1
            rw [List.length_replicate] at e2
            subst e2
            have HG := Lib.hid hg2
            clear hg2 HG0
            by_cases hk90 : k < 90
            · have HRL2 : Hid ((List.replicate (xn + k) (mk_ i)).length ≤ 8192) := by show (List.replicate (xn + k) (mk_ i)).length ≤ 8192; have := h64; simp; omega
              have HSZ : Hid (b ≤ wr.heap.size) := by
                have h1 := HG.out.2.2.1.size
                have h2 := HP.out.only.size
                exact Nat.le_trans hb (Nat.le_trans h2 h1)
              go_wp2_with (first | (at_builtin; go_loud (refine wpList_append_keep b rfl (.tmp 48) (.tmp 51) rfl (.slice A2 (xn + k) c2) (List.replicate (xn + k) (mk_ i)) (mk_ i) rfl rfl HG.out.1 HSZ.out HRL2.out ?_); intro v3 w4 ha3; have HA3 := Lib.hid ha3; clear ha3))
              go_roundw
              case rel => exact ⟨k + 1, hk90, by go_num, HG.out.next HA3.out⟩
              case measure => simp [intOf]; omega
            · obtain rfl : k = 90 := by omega
              have HFs : Hid (RV wr w.heap.size (.slice AF i cF) (F.map KE.sl)) := by
                have h1 := HP.out.farV
                refine RV.keep h1 (fun k' hk' => HG.out.2.2.1.block k' (h1.lt k' hk') (fun e => ?_))
                have h2 := Kd.R_base h1 k' hk'
                have h3 := HL.out.lt HX.out k' e.symm
                omega
              have HFb : Hid (w.heap.size ≤ wr.heap.size) := by
                have h1 := HG.out.2.2.1.size
                have h2 := HP.out.only.size
                exact Nat.le_trans h2 h1
              go_wp2_with (first | (at_builtin; go_loud (refine Kd.R_append kV (w0 := wr) w.heap.size rfl (.tmp 53) (.tmp 55) 64 40 (.slice none 0 0) 24 rfl Try.underlying64 info40 rfl (by decide) (by decide) (.slice AF i cF) (F.map KE.sl) (⟨A2, xn + 90, c2⟩ : Sl) [.slice A2 (xn + 90) c2] (fun _ => True) (fun _ => False) rfl rfl (kV_mk rfl) (fun _ hk => hk.elim) (fun _ _ => trivial) HFs.out (Below.refl _ _) HFb.out (by rw [HFL.out]; omega) ?_); intro v9 w9 hR9 _ hg9 hat9; have HN := Lib.hid (Ph2.next HL.out HP.out HX.out HG.out hR9 hg9 hat9); clear hR9 hg9 hat9))
              go_roundw
              case rel => exact ⟨i + 1, _, hlt, by go_num, HN.out⟩
              case measure => simp [intOf]; omega
        · obtain rfl : i = L.length := by omega
          have HP := Lib.hid hp
          have HFL := Lib.hid hFl
          have HV2 := Lib.hid (HV.out _ hp.only)
          rename World => w2
          clear hp hFl hlt hi
          go_wp2
          go_loopw [9] (fun i ws => ∃ k : Nat, k ≤ L.length ∧ i = .int .i64 k ∧ ws = w2) (fun i _ => L.length - (intOf i).toNat)
          case atStart => exact ⟨0, Nat.zero_le _, rfl, rfl⟩
          case round =>
            obtain ⟨k, hk, rfl, hww⟩ := hrel
            have hww2 := hww.symm
            subst hww2
            by_cases hlt : k < L.length
            · obtain ⟨x, hx⟩ : ∃ x, L[k]? = some x := ⟨_, List.getElem?_eq_getElem hlt⟩
              have hkF : k < F.length := by have := HP.out.len; omega
              obtain ⟨e, he⟩ : ∃ e, F[k]? = some e := ⟨_, List.getElem?_eq_getElem hkF⟩
              obtain ⟨gL, hA, hcL⟩ := HV2.out.cell hx
              obtain ⟨gF, hAF, hcF⟩ := RV.cell HP.out.farV (j := k) (x := e.sl) (by rw [List.getElem?_map, he]; rfl)
              subst hA
              subst hAF
              obtain ⟨hH, hm, ⟨y, hy, hen, _⟩, _⟩ := HP.out.far k e he
              rw [hx] at hy
              cases hy
              have hHx := HP.out.old k x hx hlt
              obtain ⟨xA, xn, xc⟩ := x
              obtain ⟨eA, ec, em, en⟩ := e
              simp only at hm hen
              subst hm
              simp only [KE.sl] at hcF
              have HH := Lib.hid hH
              have HHx := Lib.hid hHx
              have h64 : xn ≤ 64 := (HL.out.own k _ hx).2.2
              clear hH hHx hx he hkF
              go_wp2
              go_loopw [10] (fun j ws => ∃ i : Nat, i ≤ en ∧ j = .int .i64 i ∧ ws = w2) (fun j _ => en - (intOf j).toNat)
              case atStart => exact ⟨0, Nat.zero_le _, rfl, rfl⟩
              case round =>
                obtain ⟨i, hi, rfl, hww⟩ := hrel
                have hww2 := hww.symm
                subst hww2
                by_cases hil : i < en
                · obtain ⟨ad, hA1, hc1⟩ := HH.out.cell hil
                  simp only [mk_] at hA1 hc1
                  subst hA1
                  by_cases hix : i < xn
                  · obtain ⟨ad2, hA2, hc2⟩ := HHx.out.cell hix
                    simp only [mk_, Sl.ke] at hA2 hc2
                    subst hA2
                    go_wp2
                    go_roundw
                    case rel => exact ⟨i + 1, hil, by go_num, trivial⟩
                    case measure => simp [intOf]; omega
                  · go_wp2
                    go_roundw
                    case rel => exact ⟨i + 1, hil, by go_num, trivial⟩
                    case measure => simp [intOf]; omega
                · go_wp2
                  go_roundw
                  case rel => exact ⟨k + 1, hlt, by go_num, trivial⟩
                  case measure => simp [intOf]; omega
            · go_wp2
              go_ret
              exact ⟨rfl, HP.out.only⟩
end Go.Proofs.Ytekgdlpicgibhaa.QI
