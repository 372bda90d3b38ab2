/-
  apartImages: each image written full with a mark of its own, then gone on behind its end: no other one shows it.
-/
import Derived.Test.YtekgdlpicgibhabE15
import Derived.IntWalk
namespace Go.Proofs.Ytekgdlpicgibhab.EX
open Go.RowKit Go.Proofs.YtekgdlpicgibhabW.PrintWords

def mkA (t : Nat) : Int := 1 + ((t % 250 : Nat) : Int)
/-- The first k are full. -/
def full (X : Nat → List Int) (k : Nat) : Nat → List Int := fun t => if t < k then List.replicate (X t).length (mkA t) else X t
theorem tmod_nat (i : Nat) : (i : Int).tmod 250 = ((i % 250 : Nat) : Int) := rfl
set_option maxRecDepth 100000 in
set_option maxHeartbeats 8000000 in
theorem apartI_any {w : World} {b bL : Nat} {vL : Value} {L : List Sl} {X : Nat → List Int} (hL : Lists w b L X) (hV : Rv w bL vL L) (hb : b ≤ w.heap.size) (hl : L.length ≤ 100000) (hn : ∀ (t : Nat) (x : Sl), L[t]? = some x → x.n ≤ 1048576) :
    Calls Try.prog 19 #[vL] w fun e w' => e = .returned (.bool true) ∧ Only (LB L) w w' := by
  obtain ⟨A, cap, rfl⟩ := Kd.R_slice hV
  have HV : Hid (∀ wr, Only (LB L) w wr → Rv wr bL (.slice A L.length cap) L) := fun wr ho => hV.lists hL ho
  have HL := Lib.hid hL
  have HN := Lib.hid hn
  clear hV hL hn
  go_enter Try.func19, Try.ntmps19
  go_wp2
  go_loopw [4] (fun i wr => ∃ k : Nat, k ≤ L.length ∧ i = .int .i64 k ∧ Ph mkA 600 w wr b L (full X k) [] (.slice none 0 0) 0) (fun i _ => L.length - (intOf i).toNat)
  case atStart => exact ⟨0, Nat.zero_le _, rfl, (Ph.start HL.out).congr (fun t _ _ => (if_neg (Nat.not_lt_zero t)).symm)⟩
  case round =>
    obtain ⟨i, hi, rfl, hp⟩ := hrel
    by_cases hlt : i < L.length
    · obtain ⟨x, hx⟩ : ∃ x, L[i]? = some x := ⟨_, List.getElem?_eq_getElem hlt⟩
      obtain ⟨xA, xn, xc⟩ := x
      have HX := Lib.hid hx
      have hXl : (X i).length = xn := (HL.out.own i _ hx).2
      have HXL := Lib.hid hXl
      have HP : Hid (Ph mkA 600 w wr b L (upd (full X i) i (List.replicate 0 (mkA i) ++ (X i).drop 0)) [] (.slice none 0 0) 0) := hp.congr (fun t _ _ => by
        by_cases e : t = i
        · subst e; rw [upd_same]; simp [full]
        · rw [upd_ne _ _ e])
      have h64 : xn ≤ 1048576 := HN.out i _ HX.out
      obtain ⟨rm, hrm⟩ : ∃ rm, i % 250 = rm := ⟨_, rfl⟩
      have hr2 : (i : Int).tmod 250 = (rm : Int) := by rw [tmod_nat, hrm]
      have hrl : rm < 250 := by omega
      have HMK : Hid (mkA i = 1 + (rm : Int)) := by show mkA i = _; unfold mkA; rw [hrm]
      clear hx hp hXl hrm
      go_wp2
      go_loopw [5] (fun j ws => ∃ k : Nat, k ≤ xn ∧ j = .int .i64 k ∧ Ph mkA 600 w ws b L (upd (full X i) i (List.replicate k (mkA i) ++ (X i).drop k)) [] (.slice none 0 0) 0) (fun j _ => xn - (intOf j).toNat)
      case atStart => exact ⟨0, Nat.zero_le _, rfl, HP.out⟩
      case round =>
        obtain ⟨k, hk, rfl, h2⟩ := hrel
        obtain ⟨g, hA, hc0⟩ := (HV.out _ h2.only).cell HX.out
        subst hA
        by_cases hkn : k < xn
        · obtain ⟨hR1, hL2⟩ := h2.todo i _ HX.out (Nat.zero_le _)
          rw [upd_same] at hR1 hL2
          simp only at hL2
          obtain ⟨gx, hgx⟩ : ∃ gx, xA = some ⟨gx, 0, none⟩ := by
            obtain ⟨ad, e, _⟩ := (Kd.R_reads' hR1).2.2.2.2 (by rw [hL2]; omega)
            subst e
            obtain ⟨gx, rfl⟩ := Kd.R_head hR1
            exact ⟨gx, rfl⟩
          subst hgx
          have hcell := Kd.R_cell (d := (0 : Int)) (by rw [hL2]; exact hR1) (k : Int) (by omega) (by omega)
          simp only [Int.toNat_natCast] at hcell
          obtain ⟨hc1, hf1⟩ := hcell
          have HNX : Hid (Ph mkA 600 w (wr.setCell ⟨gx, k, none⟩ (.int .u8 (1 + (rm : Int)))) b L (upd (full X i) i (List.replicate (k + 1) (mkA i) ++ (X i).drop (k + 1))) [] (.slice none 0 0) 0) := by
            rw [← HMK.out]
            exact (h2.put HL.out (Nat.zero_le _) HX.out (k := k) (mkA i)).congr (fun t _ _ => by
              by_cases e : t = i
              · subst e
                rw [upd_same, upd_same, upd_same]
                exact fill_next (X t) (mkA t) (by have := HXL.out; omega)
              · rw [upd_ne _ _ e, upd_ne _ _ e, upd_ne _ _ e])
          clear h2 hR1 hL2 HP
          go_wp2
          go_roundw
          case rel => exact ⟨k + 1, hkn, by go_num, HNX.out⟩
          case measure => simp [intOf]; omega
        · obtain rfl : k = xn := by omega
          have HT : Hid (Ph mkA 600 w wr b L (full X (i + 1)) [] (.slice none 0 0) 0) := h2.congr (fun t _ _ => by
            by_cases e : t = i
            · subst e
              rw [upd_same]
              simp only [full, Nat.lt_succ_self, if_true]
              rw [HXL.out, ← HXL.out, List.drop_length, List.append_nil]
            · rw [upd_ne _ _ e]
              simp only [full]
              by_cases h1 : t < i
              · rw [if_pos h1, if_pos (by omega)]
              · rw [if_neg h1, if_neg (by omega)])
          clear h2 HP
          go_wp2
          go_roundw
          case rel => exact ⟨i + 1, hlt, by go_num, HT.out⟩
          case measure => simp [intOf]; omega
    · obtain rfl : i = L.length := by omega
      have H2 := Lib.hid hp
      clear hp hlt hi
      go_wp2
      go_loopw [3, 6] (fun vF i wr => ∃ (k : Nat) (F : List KE), k ≤ L.length ∧ i = .int .i64 k ∧ Ph mkA 600 w wr b L (full X L.length) F vF k) (fun _ i _ => L.length - (intOf i).toNat)
      case atStart => exact ⟨0, [], Nat.zero_le _, rfl, H2.out⟩
      case round =>
        obtain ⟨i, F, hi, rfl, hp⟩ := hrel
        obtain ⟨AF, cF, eF⟩ := Kd.R_slice hp.farV
        subst eF
        have hFl : (F.map KE.sl).length = i := by rw [List.length_map]; exact hp.len
        rw [hFl] at hp ⊢
        clear H2
        by_cases hlt : i < L.length
        · obtain ⟨x, hx⟩ : ∃ x, L[i]? = some x := ⟨_, List.getElem?_eq_getElem hlt⟩
          obtain ⟨xA, xn, xc⟩ := x
          have HX := Lib.hid hx
          obtain ⟨g, hA, hc0⟩ := (HV.out _ hp.only).cell HX.out
          subst hA
          have hYi : full X L.length i = List.replicate xn (mkA i) := by
            have hXl : (X i).length = xn := (HL.out.own i _ hx).2
            simp only [full]
            rw [if_pos hlt, hXl]
          have HYi := Lib.hid hYi
          have HP2 := Lib.hid hp
          have HFL := Lib.hid hFl
          obtain ⟨rm, hrm⟩ : ∃ rm, i % 250 = rm := ⟨_, rfl⟩
          have hr2 : (i : Int).tmod 250 = (rm : Int) := by rw [tmod_nat, hrm]
          have hrl : rm < 250 := by omega
          have HMK : Hid (mkA i = 1 + (rm : Int)) := by show mkA i = _; unfold mkA; rw [hrm]
          clear hx hp hFl hYi hrm
          have hG0 : G2 wr wr wr b (.slice xA xn xc) (.slice xA xn xc) xn 0 (mkA i) := ⟨by have h := (HP2.out.todo i _ HX.out (Nat.le_refl _)).1; rw [HYi.out] at h; exact h, fun _ h => h, Only.refl _ _, .inl rfl, Nat.le_refl _⟩
          have HG0 := Lib.hid hG0
          clear hG0
          have h64 : xn ≤ 1048576 := HN.out i _ HX.out
          obtain ⟨w2, hw2⟩ : ∃ w2, wr = w2 := ⟨_, rfl⟩
          subst hw2
          rename World => w2
          go_wp2
          go_loopw [7, 8] (fun v2 j ws => ∃ q : Nat, q ≤ 600 ∧ j = .int .i64 q ∧ G2 w2 w2 ws b (.slice xA xn xc) v2 xn q (mkA i)) (fun _ j _ => 600 - (intOf j).toNat)
          case atStart => exact ⟨0, Nat.zero_le _, rfl, HG0.out⟩
          case round =>
            obtain ⟨q, hq, rfl, hg2⟩ := hrel
            obtain ⟨A2, c2, e2⟩ := Kd.R_slice hg2.1
            rw [List.length_replicate] at e2
            subst e2
            have HG := Lib.hid hg2
            clear hg2 HG0
            by_cases hq6 : q < 600
            · have HRL2 : Hid ((List.replicate (xn + q) (mkA i)).length ≤ 1099511627776) := by show (List.replicate (xn + q) (mkA i)).length ≤ 1099511627776; simp; omega
              have HSZ : Hid (b ≤ wr.heap.size) := by
                have h1 := HG.out.2.2.1.size
                have h2 := HP2.out.only.size
                exact Nat.le_trans hb (Nat.le_trans h2 h1)
              have HR1 : Hid (Rb wr b (.slice A2 (xn + q) c2) (List.replicate (xn + q) (mkA i))) := HG.out.1
              go_wp2_with (first | (at_builtin; go_loud (refine wpList_append_keep b rfl (.tmp 50) (.tmp 55) rfl (.slice A2 (xn + q) c2) (List.replicate (xn + q) (mkA i)) (1 + (rm : Int)) rfl rfl HR1.out HSZ.out HRL2.out ?_); intro v3 w4 ha3; have HA3 : Hid (App wr w4 b (.slice A2 (xn + q) c2) v3 (List.replicate (xn + q) (mkA i)) (mkA i)) := (by show App _ _ _ _ _ _ _; rw [HMK.out]; rw [HMK.out] at ha3; exact ha3); clear ha3))
              go_roundw
              case rel => exact ⟨q + 1, hq6, by go_num, HG.out.next HA3.out⟩
              case measure => simp [intOf]; omega
            · obtain rfl : q = 600 := by omega
              have HFs : Hid (Rv wr w.heap.size (.slice AF i cF) (F.map KE.sl)) := by
                have h1 := HP2.out.farV
                refine Rv.keep h1 (fun k' hk' => HG.out.2.2.1.block k' (h1.lt k' hk') (fun e => ?_))
                have h2 := Kd.R_base h1 k' hk'
                have h3 := HL.out.lt HX.out k' e.symm
                omega
              have HFb : Hid (w.heap.size ≤ wr.heap.size) := by
                have h1 := HG.out.2.2.1.size
                have h2 := HP2.out.only.size
                exact Nat.le_trans h2 h1
              go_wp2_with (first | (at_builtin; go_loud (refine Kd.R_append kV (w0 := wr) w.heap.size rfl (.tmp 57) (.tmp 59) 31 24 (.slice none 0 0) 24 rfl Try.underlying31 info24 rfl (by decide) (by decide) (.slice AF i cF) (F.map KE.sl) (⟨A2, xn + 600, c2⟩ : Sl) [.slice A2 (xn + 600) c2] (fun _ => True) (fun _ => False) rfl rfl (kV_mk rfl) (fun _ hk => hk.elim) (fun _ _ => trivial) HFs.out (Below.refl _ _) HFb.out (by rw [HFL.out]; omega) ?_); intro v9 w9 hR9 _ hg9 hat9; have HN9 := Lib.hid (HP2.out.next HL.out HX.out HYi.out HG.out hR9 hg9 hat9); clear hR9 hg9 hat9))
              go_roundw
              case rel => exact ⟨i + 1, _, hlt, by go_num, HN9.out⟩
              case measure => simp [intOf]; omega
        · obtain rfl : i = L.length := by omega
          have HP := Lib.hid hp
          have HFL := Lib.hid hFl
          have HV2 := Lib.hid (HV.out _ hp.only)
          obtain ⟨w2, hw2⟩ : ∃ w2, wr = w2 := ⟨_, rfl⟩
          subst hw2
          rename World => w2
          clear hp hFl hlt hi
          go_wp2
          go_loopw [9] (fun i ws => ∃ k : Nat, k ≤ L.length ∧ i = .int .i64 k ∧ ws = w2) (fun i _ => L.length - (intOf i).toNat)
          case atStart => exact ⟨0, Nat.zero_le _, rfl, rfl⟩
          case round =>
            obtain ⟨k, hk, rfl, hww⟩ := hrel
            have hww2 := hww.symm
            subst hww2
            by_cases hlt : k < L.length
            · obtain ⟨x, hx⟩ : ∃ x, L[k]? = some x := ⟨_, List.getElem?_eq_getElem hlt⟩
              have hkF : k < F.length := by have := HP.out.len; omega
              obtain ⟨e, he⟩ : ∃ e, F[k]? = some e := ⟨_, List.getElem?_eq_getElem hkF⟩
              obtain ⟨gL, hA, hcL⟩ := HV2.out.cell hx
              obtain ⟨gF, hAF, hcF⟩ := Rv.cell HP.out.farV (j := k) (x := e.sl) (by rw [List.getElem?_map, he]; rfl)
              subst hA
              subst hAF
              obtain ⟨hH, hm, ⟨y, hy, hen, _⟩, _⟩ := HP.out.far k e he
              rw [hx] at hy
              cases hy
              have hHx := HP.out.old k x hx hlt
              have h64 : x.n ≤ 1048576 := HN.out k x hx
              obtain ⟨xA, xn, xc⟩ := x
              obtain ⟨eA, ec, em, en⟩ := e
              simp only at hm hen h64
              subst hm
              simp only [KE.sl] at hcF
              have HH := Lib.hid hH
              have HHx := Lib.hid hHx
              obtain ⟨rm, hrm⟩ : ∃ rm, k % 250 = rm := ⟨_, rfl⟩
              have hr2 : (k : Int).tmod 250 = (rm : Int) := by rw [tmod_nat, hrm]
              have hrl : rm < 250 := by omega
              have HMK : Hid (mkA k = 1 + (rm : Int)) := by show mkA k = _; unfold mkA; rw [hrm]
              clear hH hHx hx he hkF hrm
              go_wp2
              go_loopw [10] (fun j ws => ∃ i : Nat, i ≤ en ∧ j = .int .i64 i ∧ ws = w2) (fun j _ => en - (intOf j).toNat)
              case atStart => exact ⟨0, Nat.zero_le _, rfl, rfl⟩
              case round =>
                obtain ⟨i, hi, rfl, hww⟩ := hrel
                have hww2 := hww.symm
                subst hww2
                by_cases hil : i < en
                · obtain ⟨ad, hA1, hc1⟩ := HH.out.cell hil
                  simp only [HMK.out] at hA1 hc1
                  subst hA1
                  by_cases hix : i < xn
                  · obtain ⟨ad2, hA2, hc2⟩ := HHx.out.cell hix
                    simp only [HMK.out, Sl.ke] at hA2 hc2
                    subst hA2
                    go_wp2
                    go_roundw
                    case rel => exact ⟨i + 1, hil, by go_num, trivial⟩
                    case measure => simp [intOf]; omega
                  · go_wp2
                    go_roundw
                    case rel => exact ⟨i + 1, hil, by go_num, trivial⟩
                    case measure => simp [intOf]; omega
                · go_wp2
                  go_roundw
                  case rel => exact ⟨k + 1, hlt, by go_num, trivial⟩
                  case measure => simp [intOf]; omega
            · go_wp2
              go_ret
              exact ⟨rfl, HP.out.only⟩
end Go.Proofs.Ytekgdlpicgibhab.EX
