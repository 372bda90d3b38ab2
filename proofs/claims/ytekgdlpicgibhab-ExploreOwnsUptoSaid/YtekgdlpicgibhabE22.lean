/-
  ExploreOwns, walked.
-/
import Derived.Test.YtekgdlpicgibhabE16
import Derived.Test.YtekgdlpicgibhabE17
import Derived.Test.YtekgdlpicgibhabE19
import Derived.Test.YtekgdlpicgibhabE21
namespace Go.Proofs.Ytekgdlpicgibhab.EX
open Go.RowKit Go.Proofs.YtekgdlpicgibhabW.PrintWords

theorem PendAt.take {w : World} {C : Option Addr} {n c : Nat} {ps : List (Int × List Int)} (h : PendAt w (.slice C n c) ps) (m : Nat) (hm : m ≤ ps.length) : PendAt w (.slice C m c) (ps.take m) := by
  obtain ⟨A, c', e, h⟩ := h
  cases e
  refine ⟨C, c, by rw [List.length_take, Nat.min_eq_left hm], fun k p hp => h k p ?_⟩
  have hk := (List.getElem?_eq_some_iff.1 hp).1
  rw [List.getElem?_take_of_lt (by simp at hk; omega)] at hp
  exact hp
/-- The answers so far, of q askings at the most. -/
def Asked (w W : World) (b0 b1 B : Nat) (vd vp vl vw : Value) (T : List (Int × Sl)) (bs : List Int) (ps : List (Int × List Int)) (q : Nat) : Prop :=
  ∃ LS WS M N XX, OS w W b0 b1 B vd vp vl vw T bs ps LS WS M N XX XX ∧ XX.length ≤ q ∧ ∀ X ∈ XX, X.length ≤ 256 ∧ ∀ x ∈ X, x.length ≤ 8192
theorem fine_images {bs : List Int} {ps : List (Int × List Int)} (h : bs.length ≤ 8192) : (images bs ps).length ≤ 256 ∧ ∀ x ∈ images bs ps, x.length ≤ 8192 := ⟨images_len, fun x hx => by rw [images_each hx]; exact h⟩
theorem Asked.slices {w W : World} {b0 b1 B : Nat} {vd vp vl vw : Value} {T : List (Int × Sl)} {bs : List Int} {ps : List (Int × List Int)} {q : Nat} (h : Asked w W b0 b1 B vd vp vl vw T bs ps q) :
    ∃ A n c A' n' c', vl = .slice A n c ∧ vw = .slice A' n' c' := by
  obtain ⟨LS, WS, M, N, XX, h, _⟩ := h
  obtain ⟨A, c, e⟩ := Kd.R_slice h.ol.row
  obtain ⟨A', c', e'⟩ := Kd.R_slice h.ow.row
  exact ⟨_, _, _, _, _, _, e, e'⟩
theorem OB.far {W W1 : World} {B : Nat} {v : Value} {LS : List Sl} {M : List (List Sl)} {XX : List (List (List Int))} (h : OB W B v LS M XX) (hap : ApartL LS) (ho : Only (LB M.flatten) W W1) : Ru W1 B v LS ∧ RL W1 B LS := by
  have h5 : ∀ k, LB M.flatten k → ∃ cs, W.heap[k]? = some (.cells cs 5 (0, 0)) := fun k hk => by
    obtain ⟨t, x, hx, e⟩ := hk
    obtain ⟨_, _, Y, _, _, hR⟩ := h.mem (List.mem_of_getElem? hx)
    exact Kd.R_typed hR k e
  refine ⟨h.row.keep (fun k hk => ho.block k (h.row.lt k hk) (fun e => ?_)), fun t x hx => ?_, hap⟩
  · obtain ⟨c1, q1⟩ := h5 k e
    obtain ⟨c2, q2⟩ := h.row.typed k hk
    exact cells_ne q2 q1 (by decide) rfl
  · obtain ⟨L, X, hL, hX, hi⟩ := h.get hx
    refine ⟨L, hi.row.keep (fun k hk => ho.block k (hi.row.lt k hk) (fun e => ?_)), ((Kd.R_reads' hi.row).1).symm⟩
    obtain ⟨c1, q1⟩ := h5 k e
    obtain ⟨c2, q2⟩ := Kd.R_typed hi.row k hk
    exact cells_ne q2 q1 (by decide) rfl
theorem Rv.base {w : World} {b : Nat} {v : Value} {xs : List Sl} (h : Rv w b v xs) : ∀ k, v.ownBlock = some k → b ≤ k := Kd.R_base h
theorem Rv.reads {w : World} {b : Nat} {A : Option Addr} {n c : Nat} {L : List Sl} (h : Rv w b (.slice A n c) L) (hn : n ≤ 1048576) : ReadsOf Sl.val nilS w A n L := by
  have hl := (Kd.R_reads' h).1
  refine ⟨hl.symm, Nat.le_trans hn (by decide), fun h0 => ?_⟩
  obtain ⟨x, hx⟩ : ∃ x, L[0]? = some x := ⟨_, List.getElem?_eq_getElem (by omega)⟩
  obtain ⟨g, e, _⟩ := h.cell hx
  refine ⟨⟨g, 0, none⟩, e, fun j hj => ?_⟩
  obtain ⟨y, hy⟩ : ∃ y, L[j]? = some y := ⟨_, List.getElem?_eq_getElem (by omega)⟩
  obtain ⟨g', e', hc⟩ := h.cell hy
  rw [e] at e'
  cases e'
  rw [add_zero_plain, List.getD_eq_getElem?_getD, hy]
  exact hc
theorem flatten_take {M : List (List Sl)} {k : Nat} {L : List Sl} (h : M[k]? = some L) : (M.take k).flatten ++ L = (M.take (k + 1)).flatten := by
  rw [List.take_add_one, h]
  simp
theorem flatten_len {M : List (List Sl)} {n : Nat} (h : ∀ L ∈ M, L.length ≤ n) : M.flatten.length ≤ M.length * n := by
  induction M with
  | nil => simp
  | cons L r ih =>
    have h1 := h L (by simp)
    have h2 := ih (fun L' h' => h L' (by simp [h']))
    simp only [List.flatten_cons, List.length_append, List.length_cons]
    rw [Nat.succ_mul]
    omega
set_option maxRecDepth 100000 in
set_option maxHeartbeats 8000000 in
theorem owns_any {w : World} {A C : Option Addr} {n c k0 kc : Nat} {at_ : Int} {bs : List Int} {ps : List (Int × List Int)} (hx : Rd w (.slice A n c) bs) (hp : PendAt w (.slice C k0 kc) ps) (hcap : k0 ≤ kc)
    (hn : bs.length ≤ 1048576) (hL : ps.length ≤ 1048576) (hl : ∀ p ∈ ps, p.2.length ≤ 1048576) (hb64 : ∀ p ∈ ps, -9223372036854775808 ≤ p.1 ∧ p.1 ≤ 9223372036854775807) (hby : Byts bs) (hpy : ∀ p ∈ ps, Byts p.2) :
    Calls Try.prog 5 #[.slice A n c, .slice C k0 kc, .int .i64 at_] w fun e w' => e = .returned (.bool true) ∧ Below w.heap.size w w' := by
  have HX := Lib.hid hx
  have HPE := Lib.hid hp
  obtain ⟨C1, kc1, e1, hq⟩ := hp
  clear hq
  cases e1
  have hnn := hx.cells.1
  subst hnn
  have HL := Lib.hid hl
  have HB64 := Lib.hid hb64
  have HBY := Lib.hid hby
  have HPY := Lib.hid hpy
  clear hx hl hb64 hby hpy
  go_enter Try.func5, Try.ntmps5
  go_wp2_with fail
  refine (known_any _).mono ?_
  rintro e w1 ⟨rfl, hb1⟩
  have HX1 := Lib.hid (HX.out.below (Nat.le_refl _) hb1)
  have HP1 := Lib.hid (HPE.out.below (Nat.le_refl _) hb1)
  have HB1 := Lib.hid hb1
  clear hb1
  by_cases hbig : bs.length ≤ 8192
  · go_wp2_with fail
    refine (bytes_any HX1.out (by omega)).mono ?_
    rintro e w2 ⟨v2, rfl, hR2, hb2⟩
    obtain ⟨A2, c2, e2⟩ := Kd.R_slice hR2
    subst e2
    have HR2 := Lib.hid hR2
    have HB2 := Lib.hid hb2
    have HP2 := Lib.hid (HP1.out.below (Nat.le_refl _) hb2)
    clear hR2 hb2
    obtain ⟨m, hm⟩ : ∃ m : Nat, (ps.length ≤ 5 ∧ m = ps.length) ∨ (5 < ps.length ∧ m = 5) := by
      by_cases h : ps.length ≤ 5
      · exact ⟨_, .inl ⟨h, rfl⟩⟩
      · exact ⟨_, .inr ⟨by omega, rfl⟩⟩
    have hml : m ≤ ps.length := by omega
    have hm5 : m ≤ 5 := by omega
    have HF0 : Hid (Fine bs (ps.take m)) := ⟨hbig, HBY.out, by rw [List.length_take]; omega, fun p hp => HL.out p (List.mem_of_mem_take hp), fun p hp => HPY.out p (List.mem_of_mem_take hp), fun p hp => HB64.out p (List.mem_of_mem_take hp)⟩
    have HPT := Lib.hid (HP2.out.take m hml)
    obtain ⟨qs, hqs⟩ : ∃ qs, ps.take m = qs := ⟨_, rfl⟩
    rw [hqs] at HF0 HPT
    clear hqs
    rcases hm with ⟨h5, rfl⟩ | ⟨h5, rfl⟩
    all_goals
      go_wp2_with fail
      refine (twinA_any HPT.out (fun p hp => Nat.le_trans (HF0.out.pn p hp) (by decide)) (by have := HF0.out.pl; omega)).mono ?_
      rintro e w3 ⟨v3, T, rfl, hT, hb3⟩
      obtain ⟨A3, c3, e3⟩ := Kd.R_slice hT.row
      rw [hT.len] at e3
      subst e3
      have HS0 : Hid (OS w w3 w1.heap.size w2.heap.size w3.heap.size (.slice A2 bs.length c2) (.slice A3 qs.length c3) (.slice none 0 0) (.slice none 0 0) T bs qs [] [] [] [] [] []) :=
        ⟨⟨HR2.out.below hb3, HR2.out.lt, hT, fun k hk => Kd.R_lt hT.row k hk, fun t x k hx hk => (hT.toTw.lt hx k hk).2, hb3.size⟩, OB.nil _ _, OB.nil _ _, fun t t' g x x' h => by simp at h, fun t t' g x x' h => by simp at h, fun k h => by simp [Value.ownBlock] at h,
          (HB1.out.trans (HB2.out.mono HB1.out.size)).trans (hb3.mono (Nat.le_trans HB1.out.size HB2.out.size)), HB1.out.size, Nat.le_trans HB1.out.size HB2.out.size, Nat.le_refl _⟩
      clear hT hb3 HPT HP2 HR2 HB2 HB1 HP1 HX1 HX HPE HL HB64 HBY HPY
      have hql : qs.length ≤ 5 := HF0.out.pl
      go_wp2
      go_loopw [10, 11, 12] (fun vl vw i wr => ∃ (k : Nat) (bs' : List Int) (qs' : List (Int × List Int)), k ≤ 2 ∧ i = .int .i64 k ∧ Asked w wr w1.heap.size w2.heap.size w3.heap.size (.slice A2 bs.length c2) (.slice A3 qs.length c3) vl vw T bs' qs' (2 * k) ∧ Fine bs' qs' ∧ bs'.length = bs.length ∧ qs'.length = qs.length) (fun _ _ i _ => 2 - (intOf i).toNat)
      case atStart => exact ⟨0, bs, qs, Nat.zero_le _, rfl, ⟨_, _, _, _, _, HS0.out, by simp, fun X hX => by simp at hX⟩, HF0.out, rfl, rfl⟩
      case round =>
        obtain ⟨i, bs1, qs1, hi, rfl, hA, hF, hbl, hql1⟩ := hrel
        have HF := Lib.hid hF
        have HBL := Lib.hid hbl
        have HQL := Lib.hid hql1
        have HA := Lib.hid hA
        obtain ⟨Al, nl, cl, Aw, nw, cw, rfl, rfl⟩ := hA.slices
        clear hA hF hbl hql1 HS0 HF0
        by_cases hi2 : i < 2
        · have hdi : decide ((i : Int) < 2) = true := decide_eq_true (by omega)
          go_wp2
          go_loopw [10, 11, 13] (fun vl vw j wr => ∃ k : Nat, k ≤ 2 ∧ j = .int .i64 k ∧ Asked w wr w1.heap.size w2.heap.size w3.heap.size (.slice A2 bs.length c2) (.slice A3 qs.length c3) vl vw T bs1 qs1 (2 * i + k)) (fun _ _ j _ => 2 - (intOf j).toNat)
          case atStart => exact ⟨0, Nat.zero_le _, rfl, HA.out⟩
          case round =>
            obtain ⟨j, hj, rfl, hA⟩ := hrel
            by_cases hj2 : j < 2
            · obtain ⟨LS, WS, M, N, XX, hOS, hXl, hXX⟩ := hA
              obtain ⟨Al, cl, el⟩ := Kd.R_slice hOS.ol.row
              obtain ⟨Aw, cw, ew⟩ := Kd.R_slice hOS.ow.row
              subst el
              subst ew
              have HOS := Lib.hid hOS
              have HXX := Lib.hid hXX
              have HXL := Lib.hid hXl
              have HRd : Hid (Rd wr (.slice A2 bs.length c2) bs1) := hOS.od.d.rd
              have HPd : Hid (PendAt wr (.slice A3 qs.length c3) qs1) := hOS.od.p.toTw.pend
              have hb20 : bs1.length ≤ 1048576 := Nat.le_trans HF.out.bl (by decide)
              have hq20 : qs1.length ≤ 1048576 := Nat.le_trans HF.out.pl (by decide)
              clear hOS hXX hXl HA
              go_wp2_with fail
              refine (images_any HRd.out HPd.out hb20 hq20 HF.out.pn HF.out.pr HF.out.bb HF.out.pb).mono ?_
              rintro e w4 ⟨v4, L4, rfl, hI4, hb4⟩
              have HI4 := Lib.hid hI4
              have HB4 := Lib.hid hb4
              have HRd4 := Lib.hid (HRd.out.below (Nat.le_refl _) hb4)
              have HPd4 := Lib.hid (HPd.out.below (Nat.le_refl _) hb4)
              clear hI4 hb4
              go_wp2_with fail
              refine (rimages_any HRd4.out HPd4.out hb20 hq20 HF.out.pn HF.out.pr).mono ?_
              rintro e w5 ⟨v5, L5, rfl, hI5, hb5⟩
              have HI5 := Lib.hid hI5
              have HB5 : Hid (Below wr.heap.size wr w5) := HB4.out.trans (hb5.mono HB4.out.size)
              have HI45 := Lib.hid (HI4.out.below hb5)
              have HL4 := Lib.hid HI45.out.list
              have HL5 := Lib.hid hI5.list
              obtain ⟨A4, c4, e4⟩ := Kd.R_slice HI45.out.row
              subst e4
              obtain ⟨A5, c5, e5⟩ := Kd.R_slice hI5.row
              subst e5
              clear hI5 hb5 HI4 HRd4 HPd4
              go_wp2_with fail
              refine (lists_same HL4.out HL5.out (fun X hX => by have := (fine_images (ps := qs1) HF.out.bl).2 X hX; omega) (by have := images_len (bs := bs1) (ps := qs1); omega)).mono ?_
              rintro e w6 ⟨rfl, m6, hw6⟩
              have hb6 : Below w5.heap.size w5 w6 := by subst hw6; exact pw_below_drewN (Below.refl _ _) _
              have HB6 : Hid (Below wr.heap.size wr w6) := HB5.out.trans (hb6.mono HB5.out.size)
              have HI6 := Lib.hid (HI45.out.below hb6)
              have HI56 := Lib.hid (HI5.out.below hb6)
              have HO6 := Lib.hid (HOS.out.next HB6.out)
              clear hw6 hb6 HL4 HL5 HI45 HI5 HB5
              go_wp2_with fail
              refine (num_any _ _).mono ?_
              rintro e w7 ⟨rfl, rfl⟩
              have HBw : Hid (w3.heap.size ≤ w6.heap.size) := HO6.out.Bw
              have hLS : LS.length ≤ 4 := by have h1 := HO6.out.ol.len; have h2 := HO6.out.ol.lenX; have h3 := HXL.out; omega
              have hWS : WS.length ≤ 4 := by have h1 := HO6.out.ow.len; have h2 := HO6.out.ow.lenX; have h3 := HXL.out; omega
              go_wp2_with (first | (at_builtin; go_loud ((refine Kd.R_append kV (w0 := w6) w3.heap.size rfl (.tmp 75) (.tmp 77) 42 31 (.slice none 0 0) 24 rfl Try.underlying42 info31 rfl (by decide) (by decide) (.slice Al LS.length cl) LS (⟨A4, L4.length, c4⟩ : Sl) [.slice A4 L4.length c4] (fun _ => True) (fun _ => False) rfl rfl (kV_mk rfl) (fun _ hk => hk.elim) (fun _ _ => trivial) HO6.out.ol.row (show Below w3.heap.size w6 w6 from ⟨rfl, rfl, rfl, Nat.le_refl _, fun _ _ => rfl⟩) HBw.out (by omega) ?_; intro v8 w8 hR8 _ hg8 hat8; have HO8 := Lib.hid (HOS.out.addL (x := ⟨A4, L4.length, c4⟩) HB6.out HI6.out hR8 hg8 hat8); have HI8 := Lib.hid (HI56.out.grown31 hg8 HO6.out.ol.row.typed); clear hR8 hg8 hat8))))
              refine (copies_any HI8.out.list (fun X hX => by have := (fine_images (ps := qs1) HF.out.bl).2 X hX; omega) (by have := images_len (bs := bs1) (ps := qs1); omega)).mono ?_
              rintro e w9 ⟨v9, L9, rfl, hI9, hb9⟩
              obtain ⟨A9, c9, e9⟩ := Kd.R_slice hI9.row
              subst e9
              have HO9 := Lib.hid (HO8.out.next hb9)
              have HI9 := Lib.hid (hI9.lower HO8.out.Bw)
              have HBw9 : Hid (w3.heap.size ≤ w9.heap.size) := HO9.out.Bw
              clear hI9 hb9
              go_wp2_with (first | (at_builtin; go_loud ((refine Kd.R_append kV (w0 := w9) w3.heap.size rfl (.tmp 79) (.tmp 82) 42 31 (.slice none 0 0) 24 rfl Try.underlying42 info31 rfl (by decide) (by decide) (.slice Aw WS.length cw) WS (⟨A9, L9.length, c9⟩ : Sl) [.slice A9 L9.length c9] (fun _ => True) (fun _ => False) rfl rfl (kV_mk rfl) (fun _ hk => hk.elim) (fun _ _ => trivial) HO9.out.ow.row (show Below w3.heap.size w9 w9 from ⟨rfl, rfl, rfl, Nat.le_refl _, fun _ _ => rfl⟩) HBw9.out (by omega) ?_; intro v10 w10 hR10 _ hg10 hat10; have HO10 := Lib.hid (HO9.out.addW (x := ⟨A9, L9.length, c9⟩) HI9.out hR10 hg10 hat10); clear hR10 hg10 hat10))))
              go_roundw
              case rel => exact ⟨j + 1, hj2, by go_num, _, _, _, _, _, HO10.out, by have := HXL.out; simp; omega, fun X hX => by
                rcases List.mem_append.1 hX with hX | hX
                · exact HXX.out X hX
                · rw [List.mem_singleton.1 hX]; exact fine_images HF.out.bl⟩
              case measure => simp [intOf]; omega
            · obtain rfl : j = 2 := by omega
              rw [show ((2 : Nat) : Int) = 2 from rfl]
              clear HA
              obtain ⟨Al2, nl2, cl2, Aw2, nw2, cw2, rfl, rfl⟩ := hA.slices
              obtain ⟨LS, WS, M, N, XX, hOS, hXl, hXX⟩ := hA
              have HOS := Lib.hid hOS
              have HXX := Lib.hid hXX
              have HXL := Lib.hid hXl
              clear hOS hXX hXl
              by_cases hbz : bs.length = 0
              · have HD : Hid (Asked w wr w1.heap.size w2.heap.size w3.heap.size (.slice A2 bs.length c2) (.slice A3 qs.length c3) (.slice Al2 nl2 cl2) (.slice Aw2 nw2 cw2) T (flipB 255 at_ bs1) qs1 (2 * i + 2)) := by
                  have e : bs1 = [] := List.eq_nil_of_length_eq_zero (by rw [HBL.out]; exact hbz)
                  have e2 : flipB 255 at_ bs1 = bs1 := by rw [e]; rfl
                  show Asked _ _ _ _ _ _ _ _ _ _ _ _ _
                  rw [e2]
                  exact ⟨LS, WS, M, N, XX, HOS.out, HXL.out, HXX.out⟩
                go_wp2
                obtain ⟨wX, hwX⟩ : ∃ wX, wr = wX := ⟨_, rfl⟩
                subst hwX
                rename World => wX
                clear HOS HXL HXX hbz
                go_loopw [20] (fun j ws => ∃ k : Nat, k ≤ qs.length ∧ j = .int .i64 k ∧ Asked w ws w1.heap.size w2.heap.size w3.heap.size (.slice A2 bs.length c2) (.slice A3 qs.length c3) (.slice Al2 nl2 cl2) (.slice Aw2 nw2 cw2) T (flipB 255 at_ bs1) (part at_ qs1 k) (2 * i + 2)) (fun j _ => qs.length - (intOf j).toNat)
                case atStart => exact ⟨0, Nat.zero_le _, rfl, by rw [part_zero]; exact HD.out⟩
                case round =>
                  obtain ⟨k, hk, rfl, hA⟩ := hrel
                  obtain ⟨LS, WS, M, N, XX, hOS, hXl, hXX⟩ := hA
                  have HOS := Lib.hid hOS
                  have HXX := Lib.hid hXX
                  have HXL := Lib.hid hXl
                  clear hOS hXX hXl HD
                  by_cases hkq : k < qs.length
                  · obtain ⟨p, hp⟩ : ∃ p, qs1[k]? = some p := ⟨_, List.getElem?_eq_getElem (by rw [HQL.out]; exact hkq)⟩
                    have HPP := Lib.hid (part_get at_ qs1 hp)
                    have HPN := Lib.hid (part_next at_ qs1 hp)
                    have hTl : T.length = qs.length := by rw [HOS.out.od.p.len, part_len]; exact HQL.out
                    obtain ⟨x, hx⟩ : ∃ x, T[k]? = some x := ⟨_, List.getElem?_eq_getElem (by omega)⟩
                    obtain ⟨hx1, hx2, hx3⟩ := HOS.out.od.p.at_ k x p hx HPP.out
                    obtain ⟨g9, e9, z0, z1⟩ := Rq.cell HOS.out.od.p.row hx
                    subst e9
                    obtain ⟨pb, pd⟩ := p
                    obtain ⟨xb, xA, xn, xc⟩ := x
                    simp only at hx1 hx2 hx3 z0 z1
                    subst hx1
                    subst hx2
                    have hpl : pd.length ≤ 1048576 := HF.out.pn _ (List.mem_of_getElem? hp)
                    have HTX := Lib.hid hx
                    clear hp hx hTl
                    by_cases hpz : pd.length = 0
                    · have HN : Hid (Asked w wr w1.heap.size w2.heap.size w3.heap.size (.slice A2 bs.length c2) (.slice (some ⟨g9, 0, none⟩) qs.length c3) (.slice Al2 nl2 cl2) (.slice Aw2 nw2 cw2) T (flipB 255 at_ bs1) (part at_ qs1 (k + 1)) (2 * i + 2)) := by
                        refine ⟨LS, WS, M, N, XX, ?_, HXL.out, HXX.out⟩
                        have e : pd = [] := List.eq_nil_of_length_eq_zero hpz
                        have h1 := HPN.out
                        have h2 := HPP.out
                        rw [e] at h1 h2
                        rw [← h1]
                        have h3 : (part at_ qs1 k).set k (flipP at_ (xb, [])) = part at_ qs1 k := by
                          have h4 := List.getElem?_eq_some_iff.1 h2
                          obtain ⟨h5, h6⟩ := h4
                          have h7 : flipP at_ (xb, []) = (xb, []) := rfl
                          rw [h7, ← h6, List.set_getElem_self]
                        rw [h3]
                        exact HOS.out
                      clear HOS HXL HXX HPP HPN
                      go_wp2
                      go_roundw
                      case rel => exact ⟨k + 1, hkq, by go_num, HN.out⟩
                      case measure => simp [intOf]; omega
                    · have hbp : 0 < pd.length := by omega
                      obtain ⟨hj, hjn⟩ := flipJ_lt at_ hbp
                      obtain ⟨j0, hj0⟩ : ∃ j0, flipJ pd.length at_ = j0 := ⟨_, rfl⟩
                      obtain ⟨r, hr⟩ : ∃ r, at_.tmod (pd.length : Int) = r := ⟨_, rfl⟩
                      have hr1 : -(pd.length : Int) < r := by rw [← hr]; exact Int.lt_tmod_of_pos _ (by omega)
                      have hr2 : r < (pd.length : Int) := by rw [← hr]; exact Int.tmod_lt_of_pos _ (by omega)
                      rw [hr, hj0] at hj
                      rw [hj0] at hjn
                      obtain ⟨d1, e1, _, x1⟩ := hx3.rd.cells.2 j0 (by omega)
                      subst e1
                      obtain ⟨ge, rfl⟩ := Kd.R_head hx3
                      rw [add_zero_plain] at x1
                      obtain ⟨y, hy⟩ : ∃ y, pd.getD j0 0 = y := ⟨_, rfl⟩
                      have hy2 : (pd ++ [201, 202]).getD j0 0 = y := by
                        rw [← hy, List.getD_eq_getElem?_getD, List.getD_eq_getElem?_getD, List.getElem?_append_left hjn]
                      rw [hy2] at x1
                      have hfz : wr.frozen? ⟨ge, j0, none⟩ = false := by
                        obtain ⟨cs, hcs⟩ := Kd.R_typed hx3 ge rfl
                        exact not_frozen hcs j0
                      have hw1 : IntKind.i64.wrap (r + (pd.length : Int)) = r + (pd.length : Int) := IntWalk.i64_in _ (by omega)
                      have HFL : Hid (flipP at_ (xb, pd) = (xb, pd.set j0 (bits .xor .u8 y 1))) := by
                        show flipP at_ (xb, pd) = (xb, pd.set j0 (bits .xor .u8 y 1))
                        unfold flipP flipB
                        simp only
                        rw [hj0, hy]
                      clear hy hj0 hy2 hx3
                      go_wp2
                      go_quiet (fail)
                      obtain ⟨wY, hwY⟩ : ∃ wY, wr.drewN nq = wY := ⟨_, rfl⟩
                      have hbY : Below wr.heap.size wr wY := by rw [← hwY]; exact pw_below_drewN (Below.refl _ _) _
                      rw [hwY]
                      have HN : Hid (∀ m, Asked w ((wY.setCell ⟨ge, j0, none⟩ (.int .u8 (bits .xor .u8 y 1))).drewN m) w1.heap.size w2.heap.size w3.heap.size (.slice A2 bs.length c2) (.slice (some ⟨g9, 0, none⟩) qs.length c3) (.slice Al2 nl2 cl2) (.slice Aw2 nw2 cw2) T (flipB 255 at_ bs1) (part at_ qs1 (k + 1)) (2 * i + 2)) := fun m => by
                        refine ⟨LS, WS, M, N, XX, ?_, HXL.out, HXX.out⟩
                        have h := ((HOS.out.next hbY).setp HTX.out HPP.out hjn (bits .xor .u8 y 1)).next (pw_below_drewN (Below.refl _ _) m)
                        rw [← HPN.out, HFL.out]
                        exact h
                      have z1 := (hbY.cell (p := ⟨g9, k * 2 + 1, none⟩) (World.block_lt_of_cell? wr _ z1)).trans z1
                      have x1 := (hbY.cell (p := ⟨ge, j0, none⟩) (World.block_lt_of_cell? wr _ x1)).trans x1
                      have hfz : wY.frozen? ⟨ge, j0, none⟩ = false := (hbY.frozen (p := ⟨ge, j0, none⟩) (World.block_lt_of_cell? wr _ (by assumption))).trans hfz
                      clear hwY hbY HOS HXL HXX HPP HPN
                      go_wp2
                      go_region
                      all_goals
                        go_wp2
                        go_roundw
                        case rel => exact ⟨k + 1, hkq, by go_num, HN.out 1⟩
                        case measure => simp [intOf]; omega
                  · obtain rfl : k = qs.length := by omega
                    have HE : Hid (Asked w wr w1.heap.size w2.heap.size w3.heap.size (.slice A2 bs.length c2) (.slice A3 qs.length c3) (.slice Al2 nl2 cl2) (.slice Aw2 nw2 cw2) T (flipB 255 at_ bs1) (qs1.map (flipP at_)) (2 * (i + 1))) := by
                      refine ⟨LS, WS, M, N, XX, ?_, HXL.out, HXX.out⟩
                      have h := HOS.out
                      rw [← HQL.out, part_all] at h
                      rw [← HQL.out]
                      exact h
                    have HFN := Lib.hid (HF.out.flip at_)
                    have HBN := Lib.hid ((flipB_len 255 at_ bs1).trans HBL.out)
                    have HQN : Hid ((qs1.map (flipP at_)).length = qs.length) := by show _ = _; rw [List.length_map]; exact HQL.out
                    clear HOS HXL HXX
                    go_wp2
                    go_roundw
                    case rel => exact ⟨i + 1, _, _, hi2, by go_num, HE.out, HFN.out, HBN.out, HQN.out⟩
                    case measure => simp [intOf]; omega
              · have hbp : 0 < bs.length := by omega
                obtain ⟨hj, hjn⟩ := flipJ_lt at_ hbp
                obtain ⟨j0, hj0⟩ : ∃ j0, flipJ bs.length at_ = j0 := ⟨_, rfl⟩
                obtain ⟨r, hr⟩ : ∃ r, at_.tmod (bs.length : Int) = r := ⟨_, rfl⟩
                have hr1 : -(bs.length : Int) < r := by rw [← hr]; exact Int.lt_tmod_of_pos _ (by omega)
                have hr2 : r < (bs.length : Int) := by rw [← hr]; exact Int.tmod_lt_of_pos _ (by omega)
                rw [hr, hj0] at hj
                rw [hj0] at hjn
                obtain ⟨d1, e1, _, x1⟩ := HOS.out.od.d.rd.cells.2 j0 hjn
                subst e1
                obtain ⟨gd, rfl⟩ := Kd.R_head HOS.out.od.d
                rw [add_zero_plain] at x1
                obtain ⟨y, hy⟩ : ∃ y, bs1.getD j0 0 = y := ⟨_, rfl⟩
                rw [hy] at x1
                have hfz : wr.frozen? ⟨gd, j0, none⟩ = false := by
                  obtain ⟨cs, hcs⟩ := Kd.R_typed HOS.out.od.d gd rfl
                  exact not_frozen hcs j0
                have HY := Lib.hid hy
                have HJ := Lib.hid hj0
                clear hy hj0
                have HD0 : Hid (Asked w (wr.setCell ⟨gd, j0, none⟩ (.int .u8 (bits .xor .u8 y 255))) w1.heap.size w2.heap.size w3.heap.size (.slice (some ⟨gd, 0, none⟩) bs.length c2) (.slice A3 qs.length c3) (.slice Al2 nl2 cl2) (.slice Aw2 nw2 cw2) T (flipB 255 at_ bs1) qs1 (2 * i + 2)) := by
                  refine ⟨LS, WS, M, N, XX, ?_, HXL.out, HXX.out⟩
                  have h := HOS.out.setd j0 (bits .xor .u8 y 255)
                  unfold flipB
                  rw [HBL.out, HJ.out, HY.out]
                  exact h
                go_wp2
                obtain ⟨wX, hwX⟩ : ∃ wX, wr.setCell ⟨gd, j0, none⟩ (.int .u8 (bits .xor .u8 y 255)) = wX := ⟨_, rfl⟩
                rw [hwX] at HD0 ⊢
                have HD := HD0
                clear HOS HXL HXX hwX HD0 x1 hfz HY HJ
                go_loopw [20] (fun j ws => ∃ k : Nat, k ≤ qs.length ∧ j = .int .i64 k ∧ Asked w ws w1.heap.size w2.heap.size w3.heap.size (.slice (some ⟨gd, 0, none⟩) bs.length c2) (.slice A3 qs.length c3) (.slice Al2 nl2 cl2) (.slice Aw2 nw2 cw2) T (flipB 255 at_ bs1) (part at_ qs1 k) (2 * i + 2)) (fun j _ => qs.length - (intOf j).toNat)
                case atStart => exact ⟨0, Nat.zero_le _, rfl, by rw [part_zero]; exact HD.out⟩
                case round =>
                  obtain ⟨k, hk, rfl, hA⟩ := hrel
                  obtain ⟨LS, WS, M, N, XX, hOS, hXl, hXX⟩ := hA
                  have HOS := Lib.hid hOS
                  have HXX := Lib.hid hXX
                  have HXL := Lib.hid hXl
                  clear hOS hXX hXl HD
                  by_cases hkq : k < qs.length
                  · obtain ⟨p, hp⟩ : ∃ p, qs1[k]? = some p := ⟨_, List.getElem?_eq_getElem (by rw [HQL.out]; exact hkq)⟩
                    have HPP := Lib.hid (part_get at_ qs1 hp)
                    have HPN := Lib.hid (part_next at_ qs1 hp)
                    have hTl : T.length = qs.length := by rw [HOS.out.od.p.len, part_len]; exact HQL.out
                    obtain ⟨x, hx⟩ : ∃ x, T[k]? = some x := ⟨_, List.getElem?_eq_getElem (by omega)⟩
                    obtain ⟨hx1, hx2, hx3⟩ := HOS.out.od.p.at_ k x p hx HPP.out
                    obtain ⟨g9, e9, z0, z1⟩ := Rq.cell HOS.out.od.p.row hx
                    subst e9
                    obtain ⟨pb, pd⟩ := p
                    obtain ⟨xb, xA, xn, xc⟩ := x
                    simp only at hx1 hx2 hx3 z0 z1
                    subst hx1
                    subst hx2
                    have hpl : pd.length ≤ 1048576 := HF.out.pn _ (List.mem_of_getElem? hp)
                    have HTX := Lib.hid hx
                    clear hp hx hTl
                    by_cases hpz : pd.length = 0
                    · have HN : Hid (Asked w wr w1.heap.size w2.heap.size w3.heap.size (.slice (some ⟨gd, 0, none⟩) bs.length c2) (.slice (some ⟨g9, 0, none⟩) qs.length c3) (.slice Al2 nl2 cl2) (.slice Aw2 nw2 cw2) T (flipB 255 at_ bs1) (part at_ qs1 (k + 1)) (2 * i + 2)) := by
                        refine ⟨LS, WS, M, N, XX, ?_, HXL.out, HXX.out⟩
                        have e : pd = [] := List.eq_nil_of_length_eq_zero hpz
                        have h1 := HPN.out
                        have h2 := HPP.out
                        rw [e] at h1 h2
                        rw [← h1]
                        have h3 : (part at_ qs1 k).set k (flipP at_ (xb, [])) = part at_ qs1 k := by
                          have h4 := List.getElem?_eq_some_iff.1 h2
                          obtain ⟨h5, h6⟩ := h4
                          have h7 : flipP at_ (xb, []) = (xb, []) := rfl
                          rw [h7, ← h6, List.set_getElem_self]
                        rw [h3]
                        exact HOS.out
                      clear HOS HXL HXX HPP HPN
                      go_wp2
                      go_roundw
                      case rel => exact ⟨k + 1, hkq, by go_num, HN.out⟩
                      case measure => simp [intOf]; omega
                    · have hbp : 0 < pd.length := by omega
                      obtain ⟨hj, hjn⟩ := flipJ_lt at_ hbp
                      obtain ⟨j0, hj0⟩ : ∃ j0, flipJ pd.length at_ = j0 := ⟨_, rfl⟩
                      obtain ⟨r, hr⟩ : ∃ r, at_.tmod (pd.length : Int) = r := ⟨_, rfl⟩
                      have hr1 : -(pd.length : Int) < r := by rw [← hr]; exact Int.lt_tmod_of_pos _ (by omega)
                      have hr2 : r < (pd.length : Int) := by rw [← hr]; exact Int.tmod_lt_of_pos _ (by omega)
                      rw [hr, hj0] at hj
                      rw [hj0] at hjn
                      obtain ⟨d1, e1, _, x1⟩ := hx3.rd.cells.2 j0 (by omega)
                      subst e1
                      obtain ⟨ge, rfl⟩ := Kd.R_head hx3
                      rw [add_zero_plain] at x1
                      obtain ⟨y, hy⟩ : ∃ y, pd.getD j0 0 = y := ⟨_, rfl⟩
                      have hy2 : (pd ++ [201, 202]).getD j0 0 = y := by
                        rw [← hy, List.getD_eq_getElem?_getD, List.getD_eq_getElem?_getD, List.getElem?_append_left hjn]
                      rw [hy2] at x1
                      have hfz : wr.frozen? ⟨ge, j0, none⟩ = false := by
                        obtain ⟨cs, hcs⟩ := Kd.R_typed hx3 ge rfl
                        exact not_frozen hcs j0
                      have hw1 : IntKind.i64.wrap (r + (pd.length : Int)) = r + (pd.length : Int) := IntWalk.i64_in _ (by omega)
                      have HFL : Hid (flipP at_ (xb, pd) = (xb, pd.set j0 (bits .xor .u8 y 1))) := by
                        show flipP at_ (xb, pd) = (xb, pd.set j0 (bits .xor .u8 y 1))
                        unfold flipP flipB
                        simp only
                        rw [hj0, hy]
                      clear hy hj0 hy2 hx3
                      go_wp2
                      go_quiet (fail)
                      obtain ⟨wY, hwY⟩ : ∃ wY, wr.drewN nq = wY := ⟨_, rfl⟩
                      have hbY : Below wr.heap.size wr wY := by rw [← hwY]; exact pw_below_drewN (Below.refl _ _) _
                      rw [hwY]
                      have HN : Hid (∀ m, Asked w ((wY.setCell ⟨ge, j0, none⟩ (.int .u8 (bits .xor .u8 y 1))).drewN m) w1.heap.size w2.heap.size w3.heap.size (.slice (some ⟨gd, 0, none⟩) bs.length c2) (.slice (some ⟨g9, 0, none⟩) qs.length c3) (.slice Al2 nl2 cl2) (.slice Aw2 nw2 cw2) T (flipB 255 at_ bs1) (part at_ qs1 (k + 1)) (2 * i + 2)) := fun m => by
                        refine ⟨LS, WS, M, N, XX, ?_, HXL.out, HXX.out⟩
                        have h := ((HOS.out.next hbY).setp HTX.out HPP.out hjn (bits .xor .u8 y 1)).next (pw_below_drewN (Below.refl _ _) m)
                        rw [← HPN.out, HFL.out]
                        exact h
                      have z1 := (hbY.cell (p := ⟨g9, k * 2 + 1, none⟩) (World.block_lt_of_cell? wr _ z1)).trans z1
                      have x1 := (hbY.cell (p := ⟨ge, j0, none⟩) (World.block_lt_of_cell? wr _ x1)).trans x1
                      have hfz : wY.frozen? ⟨ge, j0, none⟩ = false := (hbY.frozen (p := ⟨ge, j0, none⟩) (World.block_lt_of_cell? wr _ (by assumption))).trans hfz
                      clear hwY hbY HOS HXL HXX HPP HPN
                      go_wp2
                      go_region
                      all_goals
                        go_wp2
                        go_roundw
                        case rel => exact ⟨k + 1, hkq, by go_num, HN.out 1⟩
                        case measure => simp [intOf]; omega
                  · obtain rfl : k = qs.length := by omega
                    have HE : Hid (Asked w wr w1.heap.size w2.heap.size w3.heap.size (.slice (some ⟨gd, 0, none⟩) bs.length c2) (.slice A3 qs.length c3) (.slice Al2 nl2 cl2) (.slice Aw2 nw2 cw2) T (flipB 255 at_ bs1) (qs1.map (flipP at_)) (2 * (i + 1))) := by
                      refine ⟨LS, WS, M, N, XX, ?_, HXL.out, HXX.out⟩
                      have h := HOS.out
                      rw [← HQL.out, part_all] at h
                      rw [← HQL.out]
                      exact h
                    have HFN := Lib.hid (HF.out.flip at_)
                    have HBN := Lib.hid ((flipB_len 255 at_ bs1).trans HBL.out)
                    have HQN : Hid ((qs1.map (flipP at_)).length = qs.length) := by show _ = _; rw [List.length_map]; exact HQL.out
                    clear HOS HXL HXX
                    go_wp2
                    go_roundw
                    case rel => exact ⟨i + 1, _, _, hi2, by go_num, HE.out, HFN.out, HBN.out, HQN.out⟩
                    case measure => simp [intOf]; omega
        · obtain rfl : i = 2 := by omega
          rw [show ((2 : Nat) : Int) = 2 from rfl]
          obtain ⟨LS, WS, M, N, XX, hOS, hXl, hXX⟩ := HA.out
          obtain ⟨Al, cl, el⟩ := Kd.R_slice hOS.ol.row
          cases el
          obtain ⟨Aw, cw, ew⟩ := Kd.R_slice hOS.ow.row
          cases ew
          have hlw : WS.length = LS.length := by rw [hOS.ow.len, hOS.ow.lenX, hOS.ol.len, hOS.ol.lenX]
          have hls4 : LS.length ≤ 4 := by rw [hOS.ol.len, hOS.ol.lenX]; omega
          have hM : M.length = LS.length := hOS.ol.len.symm
          have HOS := Lib.hid hOS
          have HXX := Lib.hid hXX
          have HLW := Lib.hid hlw
          have HM := Lib.hid hM
          have HLN : Hid (∀ L ∈ M, L.length ≤ 256) := fun L hL => by
            obtain ⟨x, X, hX, hi⟩ := hOS.ol.memx hL
            rw [hi.len]
            exact (hXX X hX).1
          clear hOS hXX hXl HA hlw hM
          obtain ⟨wb, hwb⟩ : ∃ wb, wr = wb := ⟨_, rfl⟩
          subst hwb
          rename World => wb
          go_wp2
          go_loopw [22, 23] (fun va i ws => ∃ k : Nat, k ≤ LS.length ∧ i = .int .i64 k ∧ Rv ws wb.heap.size va (M.take k).flatten ∧ Below wb.heap.size wb ws) (fun _ i _ => LS.length - (intOf i).toNat)
          case atStart => exact ⟨0, Nat.zero_le _, rfl, Kd.R_nil _ _ _ _ _, Below.refl _ _⟩
          case round =>
            obtain ⟨k, hk, rfl, hV, hb⟩ := hrel
            obtain ⟨F, hF⟩ : ∃ F, (M.take k).flatten = F := ⟨_, rfl⟩
            rw [hF] at hV
            obtain ⟨Aa, ca, ea⟩ := Kd.R_slice hV
            subst ea
            have HFk := Lib.hid hF
            clear hF
            have HV := Lib.hid hV
            have HB := Lib.hid hb
            have HO := Lib.hid (HOS.out.next hb)
            clear hV hb
            by_cases hkl : k < LS.length
            · have hkw : k < WS.length := by rw [HLW.out]; exact hkl
              obtain ⟨x, hx⟩ : ∃ x, LS[k]? = some x := ⟨_, List.getElem?_eq_getElem hkl⟩
              obtain ⟨y, hy⟩ : ∃ y, WS[k]? = some y := ⟨_, List.getElem?_eq_getElem (by rw [HLW.out]; exact hkl)⟩
              obtain ⟨L, X, hL, hX, hi⟩ := HO.out.ol.get hx
              obtain ⟨L', X', hL', hX', hi'⟩ := HO.out.ow.get hy
              rw [hX] at hX'
              cases hX'
              obtain ⟨g1, e1, z1⟩ := Ru.cell HO.out.ol.row hx
              obtain ⟨g2, e2, z2⟩ := Ru.cell HO.out.ow.row hy
              subst e1
              subst e2
              obtain ⟨xA, xn, xc⟩ := x
              obtain ⟨yA, yn, yc⟩ := y
              have hsz := HXX.out X (List.mem_of_getElem? hX)
              have hs1 : ∀ x ∈ X, x.length ≤ 1099511627776 := fun x hx => Nat.le_trans (hsz.2 x hx) (by decide)
              have hs2 : X.length ≤ 1099511627776 := Nat.le_trans hsz.1 (by decide)
              have hrs : Hid (∀ m, Calls Try.prog 14 #[.slice xA xn xc, .slice yA yn yc] (wr.drewN m) fun e w' => e = .returned (.bool true) ∧ ∃ k, w' = wr.drewN k) := fun m =>
                (lists_same (hi.list.drewN m) (hi'.list.drewN m) hs1 hs2).mono (by rintro e w' ⟨rfl, k, rfl⟩; exact ⟨rfl, _, World.drewN_drewN ..⟩)
              have hxn : L.length = xn := ((Kd.R_reads' hi.row).1).symm
              have hx256 : xn ≤ 256 := by rw [← hxn]; exact HLN.out L (List.mem_of_getElem? hL)
              have HI := Lib.hid hi
              have HL := Lib.hid hL
              have HLk : Hid (F.length ≤ 1024) := by
                show F.length ≤ 1024
                rw [← HFk.out]
                have h1 := flatten_len (M := M.take k) (fun L hL => HLN.out L (List.mem_of_mem_take hL))
                rw [List.length_take] at h1
                have h2 : min k M.length * 256 ≤ 4 * 256 := Nat.mul_le_mul_right _ (by rw [HM.out]; omega)
                omega
              have HXN := Lib.hid hxn
              simp only at z1 z2
              clear hx hy hL hX hi hi' hs1 hs2 hsz hL' hxn
              go_upto_region 33 with fail
              go_region_law (go_simp; go_at_call 14; refine (hrs.out _).mono ?_; rintro e w6 ⟨rfl, m6, rfl⟩)
              all_goals
                obtain ⟨wZ, hwZ⟩ : ∃ wZ, wr.drewN m6 = wZ := ⟨_, rfl⟩
                rw [hwZ]
                have hbZ : Below wr.heap.size wr wZ := by rw [← hwZ]; exact pw_below_drewN (Below.refl _ _) _
                have z1 := (hbZ.cell (p := ⟨g1, k, none⟩) (World.block_lt_of_cell? wr _ z1)).trans z1
                have HVZ : Hid (Rv wZ wb.heap.size (.slice Aa F.length ca) F) := HV.out.keep (fun q hq => hbZ.block q (HV.out.lt q hq))
                have HRZ : Hid (ReadsOf Sl.val nilS wZ xA xn L) := Rv.reads ((HI.out.below hbZ).row) (by omega)
                have HBZ : Hid (Below wb.heap.size wb wZ) := HB.out.trans (hbZ.mono HB.out.size)
                have HBS : Hid (wb.heap.size ≤ wZ.heap.size) := HBZ.out.size
                clear hwZ hbZ hrs
                go_wp2_with (first | (at_builtin; go_loud ((refine print_append_row_of (w0 := wb) Sl.val nilS wb.heap.size rfl (.tmp 173) (.tmp 177) 31 24 (.slice none 0 0) 24 rfl Try.underlying31 info24 rfl (by decide) (fun _ => rfl) (.slice Aa F.length ca) F L xA xn xc rfl rfl (own_of_Rv HVZ.out) HRZ.out HBZ.out HBS.out (by have := HLk.out; omega) ?_; intro v9 w9 ho9 hb9 hg9 hat9; have HN9 : Hid (Rv w9 wb.heap.size v9 (M.take (k + 1)).flatten) := (by show Rv _ _ _ _; rw [← flatten_take HL.out, HFk.out]; exact Rv_of_own ho9); have HBN := Lib.hid hb9; clear ho9 hb9 hg9 hat9))))
                go_roundw
                case rel => exact ⟨k + 1, hkl, by go_num, HN9.out, HBN.out⟩
                case measure => simp [intOf]; omega
            · obtain rfl : k = LS.length := by omega
              obtain ⟨XL, hXL⟩ := HO.out.ol.lists HO.out.apM
              have hFl : F = M.flatten := by rw [← HFk.out, ← HM.out, List.take_length]
              have hVF : Rv wr wb.heap.size (.slice Aa F.length ca) M.flatten := by have h := HV.out; rw [← hFl]; exact h
              have hFL : M.flatten.length ≤ 100000 := by
                have h1 := flatten_len (M := M) (fun L hL => HLN.out L hL)
                have h2 : M.length * 256 ≤ 4 * 256 := Nat.mul_le_mul_right _ (by rw [HM.out]; omega)
                omega
              have hFn : ∀ (t : Nat) (x : Sl), M.flatten[t]? = some x → x.n ≤ 1048576 := fun t x hx => by
                obtain ⟨X, hX, Y, hY, h1, _⟩ := HO.out.ol.mem (List.mem_of_getElem? hx)
                have := (HXX.out X hX).2 Y hY
                omega
              have HBw := Lib.hid HO.out.Bw
              have hcall := apartI_any hXL hVF HO.out.Bw hFL hFn
              have HC1 := Lib.hid hcall
              have HFl := Lib.hid hFl
              clear hXL hVF hFl hFL hFn hcall
              go_wp2_with fail
              refine HC1.out.mono ?_
              rintro e wc ⟨rfl, hoc⟩
              obtain ⟨hRc, hRL⟩ := HO.out.ol.far HO.out.apL hoc
              have hBc : Below w.heap.size w wc := HO.out.below.trans (hoc.below HO.out.below.size (fun q hq => by
                obtain ⟨t, x, hx, e⟩ := hq
                obtain ⟨_, _, Y, _, _, hR⟩ := HO.out.ol.mem (List.mem_of_getElem? hx)
                have h1 := hR.base q e
                have h2 := HO.out.B1
                have h3 := HO.out.od.le
                omega))
              have hLn : ∀ (t : Nat) (x : Sl), LS[t]? = some x → x.n ≤ 1048576 := fun t x hx => by
                obtain ⟨L, X, hL, hX, hi⟩ := HO.out.ol.get hx
                have h1 := (Kd.R_reads' hi.row).1
                have h2 := HLN.out L (List.mem_of_getElem? hL)
                omega
              have HC2 := Lib.hid (apartL_any hRL hRc (Nat.le_trans HBw.out hoc.size) (by omega) hLn)
              have HBc := Lib.hid hBc
              have HLB : Hid (∀ q, LB LS q → w.heap.size ≤ q) := fun q hq => by
                obtain ⟨t, x, hx, e⟩ := hq
                obtain ⟨Y, hR, _⟩ := hRL.own t x hx
                have h1 := Rv.base hR q e
                have h2 := HO.out.B1
                have h3 := HO.out.od.le
                omega
              clear hoc hRc hRL hBc hLn HC1 HFl
              go_wp2_with fail
              refine HC2.out.mono ?_
              rintro e wd ⟨rfl, hod⟩
              have HBd : Hid (Below w.heap.size w wd) := HBc.out.trans (hod.below HBc.out.size HLB.out)
              clear hod
              go_wp2_with fail
              refine (known_any _).mono ?_
              rintro e we ⟨rfl, hbe⟩
              have HBe : Hid (Below w.heap.size w we) := HBd.out.trans (hbe.mono HBd.out.size)
              clear hbe
              go_wp2
              go_ret
              exact ⟨rfl, HBe.out⟩
  · go_wp2
    go_ret
    exact ⟨rfl, HB1.out⟩
end Go.Proofs.Ytekgdlpicgibhab.EX
