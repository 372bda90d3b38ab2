/-
  Proved: QueueOwns: for every three arguments the law answers true: Each is asked twice behind each step; all answers stay as they were; each written full and gone on behind its end shows in no other one, nor in the queue. No condition.
-/
import Derived.Test.YtekgdlpicgibhaaRows
import Derived.Test.YtekgdlpicgibhaaO5
import Derived.Test.YtekgdlpicgibhaaClose
import Derived.Test.YtekgdlpicgibhaaReadO
import Derived.ProofKit
import Derived.OpenShut
import Derived.SizedLaws
import Derived.BigQuiet
namespace Go.Proofs.Ytekgdlpicgibhaa.Owns
open Go.ChangeShapes Go.WideShapes Go.ChangeAt Go.RowKit Go.Proofs.YtekgdlpicgibhaaW.PrintWords Go.Proofs.YtekgdlpicgibhaaRead Go.Proofs.Ytekgdlpicgibhaa.QQ Go.Proofs.Ytekgdlpicgibhaa.QI

variable {w : World}
set_option maxRecDepth 100000 in
set_option maxHeartbeats 8000000 in
theorem walk (c0 p0 : Int) (A : Option Addr) (len cap : Nat) (_xs : Unit) (hr : OpsAt w A len) (_hl : len * 32 ≤ 140737488351232) :
    Calls Try.prog 9 #[.int .i64 c0, .int .i64 p0, .slice A len cap] w fun e w' => e = .returned (.bool true) ∧ Below w.heap.size w w' := by
  have HC := Lib.hid hr
  clear hr
  go_enter Try.func9, Try.ntmps9
  go_wp2_with fail
  refine (known _).mono ?_
  rintro e w1 ⟨rfl, hb⟩
  have HB1 := Lib.hid hb
  clear hb
  go_wp2_with fail
  refine (bound_nat' _ _ _ (by decide) (by decide)).mono ?_
  rintro e w' ⟨n, n1, n2, rfl, rfl⟩
  go_wp2_with fail
  refine (bound_nat' _ _ _ (by decide) (by decide)).mono ?_
  rintro e w' ⟨p, p1, p2, rfl, rfl⟩
  go_wp2_with fail
  refine (new_any n p _ (by omega) (by omega) (by omega) (by omega)).mono ?_
  rintro e w3 ⟨qb, rfl, hq, hb3⟩
  have HQ := Lib.hid hq
  have HB3 := Lib.hid hb3
  clear hq hb3
  go_wp2_with fail
  refine (rnew_yes n p _ (by omega) (by omega) (by omega) (by omega)).mono ?_
  rintro e w4 ⟨rb, rfl, hq4, hb4⟩
  have hP := PIn.new (B := w.heap.size) HB1.out.size HQ.out HB3.out hq4 hb4 (QM.empty_wf (by omega) (by omega) (by omega) (by omega))
  have HP := Lib.hid hP
  have HB4 := Lib.hid ((HB1.out.trans (HB3.out.mono HB1.out.size)).trans (hb4.mono (Nat.le_trans HB1.out.size HB3.out.size)))
  clear hP hq4 hb4
  have hos := os_start (pb := w4.heap.size) (HB4.out.trans ((below_alloc (Below.refl _ _) (.cells #[.pointer (some ⟨qb, 0, none⟩), .pointer (some ⟨rb, 0, none⟩)] 49)).mono HB4.out.size)) (HP.out.below (below_alloc (Below.refl _ _) _)) (fun k hk => by have := HB1.out.size; have := HB3.out.size; have := HP.out.hi1 k; have := HP.out.hi2 k; omega) HB4.out.size (heap_alloc_new w4 _) (fun _ => [])
  have H0 := Lib.hid hos
  clear hos HP HQ HB3 HB4 HB1
  go_wp2
  go_loopw [11, 12, 13] (fun vl vw i wr => ∃ k : Nat, ∃ f q L Wr X, k ≤ len ∧ k ≤ 40 ∧ i = .int .i64 k ∧ L.length = 2 * k ∧ q.rows.length = n ∧ OS w wr w4.heap.size f qb rb q vl vw L Wr X) (fun _ _ i _ => len - (intOf i).toNat)
  case atStart => exact ⟨0, _, _, [], [], _, Nat.zero_le _, by decide, rfl, rfl, by simp [QM.empty], H0.out⟩
  case round =>
    obtain ⟨k, f, q, L, Wr, X, hk, hk40, rfl, hL2, hqn, hs⟩ := hrel
    have HL2 := Lib.hid hL2
    have HQN := Lib.hid hqn
    obtain ⟨Al, cl, rfl⟩ := Kd.R_slice hs.ls
    obtain ⟨Aw, cw, rfl⟩ := Kd.R_slice hs.were
    have HS := Lib.hid hs
    clear hs hL2 hqn H0
    by_cases hlt : k < len ∧ k < 40
    · obtain ⟨h1, h2⟩ := hlt
      obtain ⟨ad, kd, who, a, b, hA, had, z⟩ := HC.out k h1
      subst hA
      obtain ⟨x0, x1, x2, x3⟩ := op_later HS.out.below had z
      have HZ := Lib.hid z
      have bx0 : wr.cell? ⟨w4.heap.size, 0, none⟩ = some (.pointer (some ⟨qb, 0, none⟩)) := (blk_cell HS.out.box 0).trans rfl
      have bx1 : wr.cell? ⟨w4.heap.size, 1, none⟩ = some (.pointer (some ⟨rb, 0, none⟩)) := (blk_cell HS.out.box 1).trans rfl
      have d2 : decide ((k : Int) < 40) = true := decide_eq_true (by omega)
      clear z
      go_upto_region 13 with fail
      go_region_law (go_simp; go_at_call 22; refine (stepO HS.out kd who a b _).mono ?_; rintro e w3 ⟨v3, f3, q3, rfl, hq3, h3⟩; have H3 := Lib.hid h3; have HQ3 := Lib.hid hq3; clear h3 hq3)
      all_goals
        obtain ⟨y0, y1, y2, y3⟩ := op_later H3.out.below had HZ.out
        have a1 : -(n : Int) < a.tmod (n : Int) := by have := Int.lt_tmod_of_pos a (show 0 < (n : Int) by omega); omega
        have a2 : a.tmod (n : Int) < (n : Int) := Int.tmod_lt_of_pos a (by omega)
        have hn0 : ¬ n = 0 := by omega
        go_wp2
        obtain ⟨c, hc⟩ : ∃ c : Int, (a.tmod (n : Int) + (n : Int)) % (n : Int) = c := ⟨_, rfl⟩
        rw [hc]
        clear hc
        go_loopw [11, 12, 17] (fun vl vw i ws => ∃ j : Nat, ∃ f L Wr X, j ≤ 2 ∧ i = .int .i64 j ∧ L.length = 2 * k + j ∧ OS w ws w4.heap.size f qb rb q3 vl vw L Wr X) (fun _ _ i _ => 2 - (intOf i).toNat)
        case atStart => exact ⟨0, _, L, Wr, X, by decide, rfl, HL2.out, H3.out⟩
        case round =>
          obtain ⟨j, f5, L5, Wr5, X5, hj, rfl, hL5, hs5⟩ := hrel
          have HL5 := Lib.hid hL5
          obtain ⟨Al5, cl5, rfl⟩ := Kd.R_slice hs5.ls
          obtain ⟨Aw5, cw5, rfl⟩ := Kd.R_slice hs5.were
          have H5 := Lib.hid hs5
          clear hs5 hL5 H3
          by_cases hj2 : j < 2
          · have HPa := Lib.hid H5.out.pairAt
            have hxl := rowP HPa.out c
            obtain ⟨xs, hxs⟩ : ∃ xs, rowI q3 c = xs := ⟨_, rfl⟩
            rw [hxs] at hxl
            have HXS := Lib.hid hxs
            clear hxs
            go_wp2_with fail
            refine (eachP HPa.out c).mono ?_
            rintro e wA ⟨va, rfl, hRa, hBa⟩
            rw [HXS.out] at hRa
            obtain ⟨Aa, ca, ea⟩ := Kd.R_slice hRa
            subst ea
            have HRa := Lib.hid hRa
            have HBa := Lib.hid hBa
            clear hRa hBa
            go_wp2_with fail
            refine (reachP (HPa.out.later HBa.out) c).mono ?_
            rintro e wB ⟨vb, rfl, hRb, hBb⟩
            rw [HXS.out] at hRb
            obtain ⟨Ab, cb, eb⟩ := Kd.R_slice hRb
            subst eb
            have HRb := Lib.hid hRb
            have HBb := Lib.hid hBb
            clear hRb hBb
            go_wp2_with fail
            refine (sameR (Kd.R_below HRa.out HBb.out) HRb.out rfl).mono ?_
            rintro e wC' ⟨rfl, m5, hwC⟩
            obtain ⟨wC, rfl⟩ : ∃ wC, wC' = wC := ⟨_, rfl⟩
            have HBC : Hid (Below wB.heap.size wB wC') := by subst hwC; exact pw_below_drewN (Below.refl _ _) m5
            clear hwC
            have HBw : Hid (Below wr.heap.size wr wC') := HBa.out.trans ((HBb.out.mono HBa.out.size).trans (HBC.out.mono (Nat.le_trans HBa.out.size HBb.out.size)))
            have HV : Hid (K.R 3 wC' wr.heap.size (fun _ => True) (.slice Aa xs.length ca) xs) := Kd.R_below (Kd.R_below HRa.out HBb.out) HBC.out
            have HM : Hid (K.R 3 wC' wA.heap.size (fun _ => True) (.slice Ab xs.length cb) xs) := Kd.R_below HRb.out HBC.out
            have HAs : Hid (wr.heap.size ≤ wA.heap.size ∧ wA.heap.size ≤ wC'.heap.size) := ⟨HBa.out.size, Nat.le_trans HBb.out.size HBC.out.size⟩
            have H6 := Lib.hid (H5.out.later HBw.out)
            clear HRa HRb HBa HBb HBC
            have HL6 : Hid (L5.length ≤ 82 ∧ Wr5.length ≤ 82) := ⟨by have := HL5.out; omega, by have := HL5.out; have := H5.out.len; omega⟩
            go_upto_region 26 with (first | (at_builtin; go_loud (refine Kd.R_append kV (w0 := wC') w.heap.size rfl (.tmp 99) (.tmp 101) 64 40 (.slice none 0 0) 24 rfl Try.underlying64 info40 rfl (by decide) (by decide) (.slice Al5 L5.length cl5) L5 (⟨Aa, xs.length, ca⟩ : Sl) [.slice Aa xs.length ca] (fun _ => True) (fun _ => False) rfl rfl (kV_mk rfl) (fun _ hk => hk.elim) (fun _ _ => trivial) H6.out.ls (Below.refl _ _) H6.out.below.size (by have := HL6.out.1; omega) ?_); intro v9 w9 hR9 _ hg9 hat9; have HR9 := Lib.hid hR9; have HG9 := Lib.hid hg9; have HAT9 := Lib.hid hat9; clear hR9 hg9 hat9))
            obtain ⟨A9, c9, e9⟩ := Kd.R_slice HR9.out
            simp only [List.length_append, List.length_singleton] at e9
            subst e9
            have HM9 : Hid (K.R 3 w9 wA.heap.size (fun _ => True) (.slice Ab xs.length cb) xs) := kR_keep HM.out (fun k hk => HG9.out.block k (Kd.R_lt HM.out k hk) (fun e => by have h1 := Kd.R_base HM.out k hk; have h2 := H5.out.ls.lt k e.symm; have h3 := HAs.out.1; omega))
            go_wp2_with fail
            refine (copyR HM9.out rfl hxl).mono ?_
            rintro e w10 ⟨vy, rfl, hRy, hBy⟩
            obtain ⟨Ay, cy, ey⟩ := Kd.R_slice hRy
            subst ey
            have HRy := Lib.hid hRy
            have HBy := Lib.hid hBy
            clear hRy hBy
            have HW10 := Lib.hid (H5.out.were_later HBw.out HG9.out HBy.out)
            have HS10 : Hid (w.heap.size ≤ w10.heap.size) := by
              have h1 := H6.out.below.size
              have h2 := HG9.out.size
              exact Nat.le_trans h1 (Nat.le_trans h2 HBy.out.size)
            go_wp2_with (first | (at_builtin; go_loud (refine Kd.R_append kV (w0 := w10) w.heap.size rfl (.tmp 103) (.tmp 106) 64 40 (.slice none 0 0) 24 rfl Try.underlying64 info40 rfl (by decide) (by decide) (.slice Aw5 Wr5.length cw5) Wr5 (⟨Ay, xs.length, cy⟩ : Sl) [.slice Ay xs.length cy] (fun _ => True) (fun _ => False) rfl rfl (kV_mk rfl) (fun _ hk => hk.elim) (fun _ _ => trivial) HW10.out (Below.refl _ _) HS10.out (by have := HL6.out.2; omega) ?_); intro v11 w11 hR11 _ hg11 hat11; have HN := Lib.hid (H5.out.row HBw.out (x := ⟨Aa, xs.length, ca⟩) (y := ⟨Ay, xs.length, cy⟩) HV.out rfl hxl HR9.out HG9.out HAT9.out HBy.out HRy.out rfl hR11 hg11 hat11); clear hR11 hg11 hat11))
            go_roundw
            case rel =>
              obtain ⟨f', h⟩ := HN.out
              exact ⟨j + 1, f', _, _, _, hj2, by go_num, by have := HL5.out; simp; omega, h⟩
            case measure => simp [intOf]; omega
          · obtain rfl : j = 2 := by omega
            go_wp2
            go_roundw
            case rel => exact ⟨k + 1, f5, q3, L5, Wr5, X5, h1, h2, by go_num, by have := HL5.out; omega, HQ3.out.trans HQN.out, H5.out⟩
            case measure => simp [intOf]; omega
    · have hend : (len : Int) ≤ (k : Int) ∨ ((k : Int) < (len : Int) ∧ ¬ ((k : Int) < 40)) := by omega
      clear hlt
      have hll : Hid (L.length ≤ 1000) := by have := HL2.out; show L.length ≤ 1000; omega
      have hlen : L.length ≤ 1000 := hll.out
      rcases hend with he | ⟨he1, he2⟩
      all_goals
        go_wp2
        go_loopw [21] (fun i ws => ∃ t : Nat, t ≤ L.length ∧ i = .int .i64 t ∧ OS w ws w4.heap.size f qb rb q (.slice Al L.length cl) (.slice Aw Wr.length cw) L Wr X) (fun i _ => L.length - (intOf i).toNat)
        case atStart => exact ⟨0, Nat.zero_le _, rfl, HS.out⟩
        case round =>
          obtain ⟨t, ht, rfl, hs5⟩ := hrel
          have H5 := Lib.hid hs5
          clear hs5
          by_cases htl : t < L.length
          · obtain ⟨x, hx⟩ : ∃ x, L[t]? = some x := ⟨_, List.getElem?_eq_getElem htl⟩
            obtain ⟨y, hy⟩ : ∃ y, Wr[t]? = some y := ⟨_, List.getElem?_eq_getElem (by have := H5.out.len; omega)⟩
            obtain ⟨gL, hAl, hcL⟩ := H5.out.ls.cell hx
            obtain ⟨gW, hAw, hcW⟩ := H5.out.were.cell hy
            subst hAl
            subst hAw
            have HX := Lib.hid hx
            have HY := Lib.hid hy
            have b0 : (t : Int) < (Wr.length : Int) := by have := H5.out.len; omega
            clear hx hy
            go_upto_region 30 with fail
            go_region_law (go_simp; go_at_call 26; refine (sameO H5.out HX.out HY.out _).mono ?_; rintro e w6 ⟨rfl, h6⟩; have H6 := Lib.hid h6; clear h6)
            all_goals
              go_wp2
              go_roundw
              case rel => exact ⟨t + 1, htl, by go_num, H6.out⟩
              case measure => simp [intOf]; omega
          · go_wp2_with fail
            refine (apartO H5.out hll.out).mono ?_
            rintro e w6 ⟨rfl, h6⟩
            have H6 := Lib.hid h6
            clear h6
            go_wp2
            go_loopw [24] (fun i ws => ∃ t : Nat, t ≤ n ∧ i = .int .i64 t ∧ PairAt w ws qb rb q) (fun i _ => n - (intOf i).toNat)
            case atStart => exact ⟨0, Nat.zero_le _, rfl, H6.out⟩
            case round =>
              obtain ⟨c, hcn, rfl, hs7⟩ := hrel
              have HPa := Lib.hid hs7
              clear hs7
              by_cases hcl : c < n
              · obtain ⟨xs, hxs⟩ : ∃ xs, rowI q c = xs := ⟨_, rfl⟩
                have HXS := Lib.hid hxs
                clear hxs
                go_wp2_with fail
                refine (eachP HPa.out c).mono ?_
                rintro e wA ⟨va, rfl, hRa, hBa⟩
                rw [HXS.out] at hRa
                obtain ⟨Aa, ca, ea⟩ := Kd.R_slice hRa
                subst ea
                have HRa := Lib.hid hRa
                have HBa := Lib.hid hBa
                clear hRa hBa
                go_wp2_with fail
                refine (reachP (HPa.out.later HBa.out) c).mono ?_
                rintro e wB ⟨vb, rfl, hRb, hBb⟩
                rw [HXS.out] at hRb
                obtain ⟨Ab, cb, eb⟩ := Kd.R_slice hRb
                subst eb
                have HRb := Lib.hid hRb
                have HBb := Lib.hid hBb
                clear hRb hBb
                go_wp2_with fail
                refine (sameR (Kd.R_below HRa.out HBb.out) HRb.out rfl).mono ?_
                rintro e wC ⟨rfl, m5, hwC⟩
                have HN : Hid (PairAt w wC qb rb q) := by subst hwC; exact ((HPa.out.later HBa.out).later HBb.out).later (pw_below_drewN (Below.refl _ _) m5)
                clear hwC
                go_wp2
                go_roundw
                case rel => exact ⟨c + 1, hcl, by go_num, HN.out⟩
                case measure => simp [intOf]; omega
              · go_wp2
                go_ret
                exact ⟨rfl, HPa.out.1⟩
theorem own : ownKnob Try.prog.godebug = none := by kernel_rfl
theorem laidOut : laidOutB Try.prog = true := by kernel_rfl
set_option maxRecDepth 100000 in
theorem lifted (os : Os) (started : os.Started) (H : Type) (enc : TypeId × Value → H) :
    ReturnsInHanded {} Try.checked os 9 .any (Rows.queueOwnsSpec.pre6 enc Try.prog Try.f9 Rows.queueOwnsRow.domain false) (Rows.queueOwnsSpec.post enc Try.prog Try.f9 false true false false) := by
  refine returnsInHanded_of_change_sized (C := Try.checked) own started (by kernel_rfl) Try.func9
    (ChangeSpec.witness6 (enc := enc) (C := Try.checked) false ⟨#[], #[.int .i64 0, .int .i64 0, .slice none 0 0], []⟩ 8 (by kernel_rfl) (by kernel_rfl) (by kernel_rfl) (by kernel_rfl)) ?_
  intro W base args ds gs before hval0 hW hcnd hsz0 _
  have hval : ∀ (j : Nat) t v, Try.f9.params[j]? = some t → args[j]? = some v → Value.okWide Try.prog W .any base t v := hval0
  have hsz : (DataW.weightsEach Try.prog (Try.f9.params.toList ++ Rows.queueOwnsSpec.plain.varTypes Try.prog) (ds ++ gs)).all (· ≤ reachBytes) = true := hsz0
  have hW' := hW
  obtain ⟨p, q, hA0, hV, rfl, hfz, hnd⟩ := hW
  have hA : DataW.TrodAll enc Try.prog W 0 (fun _ => true) true Try.f9.params.toList args.toList ds p := hA0
  rw [Try.params9] at hA hval hsz
  obtain ⟨v0, vs0, d0, ds0, p0, q0, hargs, rfl, rfl, h0, r0⟩ := trodAll_cons hA
  obtain ⟨v1, vs1, d1, ds1, p1, q1, rfl, rfl, rfl, h1, r1⟩ := trodAll_cons r0
  obtain ⟨v2, vs2, d2, ds2, p2, q2, rfl, rfl, rfl, h2, r2⟩ := trodAll_cons r1
  obtain ⟨rfl, rfl, rfl⟩ := trodAll_nil r2
  obtain rfl : args = #[v0, v1, v2] := by cases args; simp_all
  obtain ⟨rfl, rfl⟩ := trodVars_none hV
  obtain ⟨a0, rfl, rfl, rfl, w0⟩ := open_int Try.underlying3 (hval 0 3 v0 rfl rfl) h0
  obtain ⟨a1, rfl, rfl, rfl, w1⟩ := open_int Try.underlying3 (hval 1 3 v1 rfl rfl) h1
  obtain ⟨A2, len2, cap2, rfl⟩ := okWide_slice Try.underlying46 (hval 2 46 v2 rfl rfl)
  obtain ⟨xs2, hr2, hl2⟩ := read_four (P := Try.prog) Try.underlying46 Try.underlying53 (by kernel_rfl) ⟨rfl, rfl, rfl, rfl⟩ ⟨by kernel_rfl, by kernel_rfl, by kernel_rfl, by kernel_rfl⟩ ⟨Try.underlying3, Try.underlying3, Try.underlying3, Try.underlying3⟩ (show Try.prog.bytesOf 53 = 32 by kernel_rfl) hsz (j := 2) rfl rfl h2
  clear hA0 hval0 hsz0
  simp only [List.append_nil] at hW'
  refine (walk (w := W) a0 a1 A2 len2 cap2 xs2 hr2 hl2).mono fun e W' ⟨he, hg⟩ => ?_
  subst he
  exact ⟨_, rfl, YtekgdlpicgibhaaClose.post_true laidOut (by rfl) Try.underlying4 rfl (by kernel_rfl) hW' rfl hg⟩

theorem proved : Rows.QueueOwnsSaid :=
  OpenClaim.holds_of_wide 9 Try.f9 rfl rfl rfl rfl rfl rfl rfl ⟨rfl, rfl, rfl, rfl, rfl⟩ rfl rfl rfl rfl rfl (by kernel_rfl) Try.func9 (by kernel_rfl)
    (of_decide_eq_true (by kernel_rfl)) (by unfold Func.isWrapper; first | (rw [if_pos (by decide +kernel)]; kernel_rfl) | (rw [if_neg (by decide +kernel)]; exact ⟨rfl, rfl⟩))
    (fun os started H enc _ => lifted os started H enc)
end Go.Proofs.Ytekgdlpicgibhaa.Owns
