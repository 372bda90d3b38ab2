/-
  Proved: QueueMany: for every four arguments the law answers true: twenty queues of ints and one of structs beside one another: none touches another one. No condition.
-/
import Derived.Test.YtekgdlpicgibhaaRows
import Derived.Test.YtekgdlpicgibhaaN2
import Derived.Test.YtekgdlpicgibhaaClose
import Derived.Test.YtekgdlpicgibhaaReadI
import Derived.ProofKit
import Derived.OpenShut
import Derived.SizedLaws
import Derived.BigQuiet
import Derived.IntWalk
namespace Go.Proofs.Ytekgdlpicgibhaa.Many
open Go.ChangeShapes Go.WideShapes Go.ChangeAt Go.RowKit Go.Proofs.YtekgdlpicgibhaaW.PrintWords Go.Proofs.YtekgdlpicgibhaaRead Go.Proofs.Ytekgdlpicgibhaa.QQ Go.Proofs.Ytekgdlpicgibhaa.QI

theorem item_later {w0 w : World} (h : Below w0.heap.size w0 w) {ad : Addr} {j : Nat} {x y z : Int} (had : ad.block < w0.heap.size) (h3 : w0.cell? (ad.add j) = some (.int .i64 x) ∧ w0.cell? ⟨(ad.add j).block, (ad.add j).off + 1, none⟩ = some (.int .i64 y) ∧ w0.cell? ⟨(ad.add j).block, (ad.add j).off + 2, none⟩ = some (.int .i64 z)) :
    w.cell? (ad.add j) = some (.int .i64 x) ∧ w.cell? ⟨(ad.add j).block, (ad.add j).off + 1, none⟩ = some (.int .i64 y) ∧ w.cell? ⟨(ad.add j).block, (ad.add j).off + 2, none⟩ = some (.int .i64 z) := by
  have hab : (ad.add j).block = ad.block := by unfold Addr.add; split <;> rfl
  exact ⟨(h.cell (p := ad.add j) (by rw [hab]; exact had)).trans h3.1, (h.cell (p := ⟨(ad.add j).block, (ad.add j).off + 1, none⟩) (by rw [hab]; exact had)).trans h3.2.1, (h.cell (p := ⟨(ad.add j).block, (ad.add j).off + 2, none⟩) (by rw [hab]; exact had)).trans h3.2.2⟩

variable {w : World}
set_option maxRecDepth 100000 in
set_option maxHeartbeats 8000000 in
theorem walk (c0 p0 : Int) (A : Option Addr) (len cap : Nat) (_xs : Unit) (hr : OpsAt w A len) (hl : len * 32 ≤ 140737488351232) (B : Option Addr) (ilen icap : Nat) (I : Nat → Int × Int × Int) (hi : ItemsAt w B ilen I) (_hl2 : ilen * 24 ≤ 140737488351232) :
    Calls Try.prog 10 #[.int .i64 c0, .int .i64 p0, .slice A len cap, .slice B ilen icap] w fun e w' => e = .returned (.bool true) ∧ Below w.heap.size w w' := by
  have HC := Lib.hid hr
  have HI := Lib.hid hi
  clear hr hi
  go_enter Try.func10, Try.ntmps10
  go_wp2_with fail
  refine (known _).mono ?_
  rintro e w1 ⟨rfl, hb⟩
  have HB1 := Lib.hid hb
  clear hb
  go_wp2_with fail
  refine (bound_nat' _ _ _ (by decide) (by decide)).mono ?_
  rintro e w' ⟨n, n1, n2, rfl, rfl⟩
  go_wp2_with fail
  refine (bound_nat' _ _ _ (by decide) (by decide)).mono ?_
  rintro e w' ⟨p, p1, p2, rfl, rfl⟩
  go_wp2
  go_loopw [10, 11] (fun vp i wr => ∃ k : Nat, ∃ f P, k ≤ 20 ∧ i = .int .i64 k ∧ P.length = k ∧ MS w wr f n vp P none) (fun _ i _ => 20 - (intOf i).toNat)
  case atStart => exact ⟨0, _, [], by decide, rfl, rfl, MS.start HB1.out n⟩
  case round =>
    obtain ⟨k, f, P, hk, rfl, hPl, hs⟩ := hrel
    have HPL := Lib.hid hPl
    obtain ⟨Ap, cp, rfl⟩ := Kd.R_slice hs.ps
    have HS := Lib.hid hs
    clear hs hPl
    by_cases hlt : k < 20
    · go_wp2_with fail
      refine (new_any n p _ (by omega) (by omega) (by omega) (by omega)).mono ?_
      rintro e w3 ⟨qb, rfl, hq, hb3⟩
      have HQ := Lib.hid hq
      have HB3 := Lib.hid hb3
      clear hq hb3
      go_wp2_with fail
      refine (rnew_yes n p _ (by omega) (by omega) (by omega) (by omega)).mono ?_
      rintro e w4 ⟨rb, rfl, hq4, hb4⟩
      have hP := PIn.new (B := w.heap.size) HS.out.below.size HQ.out HB3.out hq4 hb4 (QM.empty_wf (by omega) (by omega) (by omega) (by omega))
      have HP := Lib.hid hP
      have HB4 := Lib.hid (HB3.out.trans (hb4.mono HB3.out.size))
      clear hP hq4 hb4
      go_upto_region 9 with fail
      obtain ⟨W4, hW4⟩ : ∃ W4, w4.alloc (.cells #[.pointer (some ⟨qb, 0, none⟩), .pointer (some ⟨rb, 0, none⟩)] 49) = W4 := ⟨_, rfl⟩
      rw [hW4]
      have hbl : W4.heap[w4.heap.size]? = some (.cells #[.pointer (some ⟨qb, 0, none⟩), .pointer (some ⟨rb, 0, none⟩)] 49 (0, 0)) := by subst hW4; exact heap_alloc_new w4 _
      have hB5 : Below w4.heap.size w4 W4 := by subst hW4; exact below_alloc (Below.refl _ _) _
      have x0 : W4.cell? ⟨w4.heap.size, 0, none⟩ = some (.pointer (some ⟨qb, 0, none⟩)) := (blk_cell hbl 0).trans rfl
      have x1 : W4.cell? ⟨w4.heap.size, 1, none⟩ = some (.pointer (some ⟨rb, 0, none⟩)) := (blk_cell hbl 1).trans rfl
      have HP4 := Lib.hid (HP.out.below hB5)
      have HBw := Lib.hid (HB4.out.trans (hB5.mono HB4.out.size))
      have HS4 := Lib.hid (HS.out.later HBw.out)
      clear hbl hB5 hW4
      go_wp2_with (first | (at_builtin; go_loud (refine Kd.R_append kP (w0 := W4) w.heap.size rfl (.tmp 55) (.tmp 57) 68 49 (.agg #[.pointer none, .pointer none]) 16 rfl Try.underlying68 info49 rfl (by decide) (by decide) (.slice Ap P.length cp) P (qb, rb) [.pointer (some ⟨qb, 0, none⟩), .pointer (some ⟨rb, 0, none⟩)] (fun _ => True) (fun _ => False) rfl rfl (kP_mk rfl) (fun _ hk => hk.elim) (fun _ _ => trivial) HS4.out.ps (Below.refl _ _) HS4.out.below.size (by have := HPL.out; omega) ?_); intro v9 w9 hR9 _ hg9 hat9; have HN := Lib.hid (HS.out.add (by have := HPL.out; omega) HBw.out HP4.out (fun k hk => by have := HB3.out.size; omega) (by simp [QM.empty]) hR9 hg9 hat9); clear hR9 hg9 hat9))
      go_roundw
      case rel =>
        obtain ⟨f', h⟩ := HN.out
        exact ⟨k + 1, f', _, hlt, by go_num, by have := HPL.out; simp; omega, h⟩
      case measure => simp [intOf]; omega
    · obtain rfl : k = 20 := by omega
      go_wp2_with fail
      refine (QT.new_any 1 64 _ (by decide) (by decide) (by decide) (by decide)).mono ?_
      rintro e w3 ⟨ib, rfl, hq, hb3⟩
      rw [QT.one_empty] at hq
      obtain ⟨fi, hs3⟩ := HS.out.addItem hb3 hq
      have H3 := Lib.hid hs3
      clear hs3 hq hb3 HS
      have hPl := HPL.out
      go_wp2
      go_loopw [14, 15] (fun nv i wr => ∃ k m : Nat, ∃ f, k ≤ len ∧ m ≤ ilen ∧ m ≤ 64 ∧ nv = .int .i64 m ∧ i = .int .i64 k ∧ MS w wr f n (.slice Ap P.length cp) P (some (ib, upTo I m))) (fun _ i _ => len - (intOf i).toNat)
      case atStart => exact ⟨0, 0, _, Nat.zero_le _, Nat.zero_le _, by decide, rfl, rfl, H3.out⟩
      case round =>
        obtain ⟨k, m, f4, hk, hm, hm64, rfl, rfl, hs⟩ := hrel
        have HS := Lib.hid hs
        clear hs H3
        by_cases hlt : k < len
        · obtain ⟨ad, kd, who, a, b, hA, had, z⟩ := HC.out k hlt
          subst hA
          obtain ⟨x0, x1, x2, x3⟩ := op_later HS.out.below had z
          clear z
          obtain ⟨j, hj⟩ : ∃ j, 7 * k % 20 = j := ⟨_, rfl⟩
          have hj20 : j < 20 := by omega
          obtain ⟨pr, hpr⟩ : ∃ pr, P[j]? = some pr := ⟨_, List.getElem?_eq_getElem (by omega)⟩
          obtain ⟨gP, hAp, y0, y1⟩ := HS.out.ps.cell hpr
          subst hAp
          obtain ⟨pq, pr2⟩ := pr
          simp only at y0 y1
          have HPR := Lib.hid hpr
          have e1 : IntKind.i64.wrap (7 * (k : Int)) = 7 * (k : Int) := IntWalk.i64_in _ (by omega)
          have e2 : (7 * (k : Int)).tmod 20 = (j : Int) := by rw [Int.tmod_eq_emod_of_nonneg (by omega)]; omega
          have e3 : 7 * (k : Int) % 20 = (j : Int) := by omega
          have b0 : (j : Int) < 20 := by omega
          clear hpr hj
          go_upto_region 19 with fail
          go_region_law (go_simp; go_at_call 22; refine (stepM HS.out HPR.out kd who a b _).mono ?_; rintro e w3 ⟨v3, f5, rfl, h3⟩; have H5 := Lib.hid h3; clear h3)
          all_goals
            by_cases hm2 : m < ilen ∧ m < 64
            · obtain ⟨g1, g2⟩ := hm2
              obtain ⟨bd, hB, hbd, hz⟩ := HI.out m g1
              subst hB
              obtain ⟨t0, t1, t2⟩ := item_later H5.out.below hbd hz
              have d2 : decide ((m : Int) < 64) = true := decide_eq_true (by omega)
              clear hz
              go_wp2_with fail
              refine (pushM H5.out (by rw [upTo_len]; exact g2) (itx I m)).mono ?_
              rintro e w6 ⟨rfl, f6, h6⟩
              rw [upTo_succ] at h6
              have H6 := Lib.hid h6
              clear h6
              go_wp2_with fail
              refine (num _ _).mono ?_
              rintro e w' ⟨rfl, rfl⟩
              go_wp2
              go_roundw
              case rel => exact ⟨k + 1, m + 1, f6, hlt, g1, g2, by go_num, by go_num, H6.out⟩
              case measure => simp [intOf]; omega
            · have hm3 : (ilen : Int) ≤ (m : Int) ∨ ((m : Int) < (ilen : Int) ∧ ¬ ((m : Int) < 64)) := by omega
              clear hm2
              rcases hm3 with g1 | ⟨g1, g2⟩
              · go_wp2
                go_roundw
                case rel => exact ⟨k + 1, m, f5, hlt, hm, hm64, by go_num, by go_num, H5.out⟩
                case measure => simp [intOf]; omega
              · go_wp2
                go_roundw
                case rel => exact ⟨k + 1, m, f5, hlt, hm, hm64, by go_num, by go_num, H5.out⟩
                case measure => simp [intOf]; omega
        · go_wp2
          go_loopw [19] (fun i ws => ∃ t : Nat, t ≤ 20 ∧ i = .int .i64 t ∧ MS w ws f4 n (.slice Ap P.length cp) P (some (ib, upTo I m))) (fun i _ => 20 - (intOf i).toNat)
          case atStart => exact ⟨0, by decide, rfl, HS.out⟩
          case round =>
            obtain ⟨t, ht, rfl, hs5⟩ := hrel
            have H5 := Lib.hid hs5
            clear hs5
            by_cases ht20 : t < 20
            · obtain ⟨pr, hpr⟩ : ∃ pr, P[t]? = some pr := ⟨_, List.getElem?_eq_getElem (by omega)⟩
              obtain ⟨gP, hAp, _, _⟩ := H5.out.ps.cell hpr
              subst hAp
              obtain ⟨pq, pr2⟩ := pr
              have HPR := Lib.hid hpr
              clear hpr
              go_wp2
              go_loopw [20] (fun i ws => ∃ c : Nat, c ≤ n ∧ i = .int .i64 c ∧ MS w ws f4 n (.slice (some ⟨gP, 0, none⟩) P.length cp) P (some (ib, upTo I m))) (fun i _ => n - (intOf i).toNat)
              case atStart => exact ⟨0, Nat.zero_le _, rfl, H5.out⟩
              case round =>
                obtain ⟨c, hcn, rfl, hs7⟩ := hrel
                have H7 := Lib.hid hs7
                clear hs7
                by_cases hcl : c < n
                · obtain ⟨gP2, hAp2, y0, y1⟩ := H7.out.ps.cell HPR.out
                  cases hAp2
                  simp only at y0 y1
                  obtain ⟨q, hPa⟩ := pairM H7.out HPR.out
                  simp only at hPa
                  have HPa := Lib.hid hPa
                  clear hPa
                  obtain ⟨xs, hxs⟩ : ∃ xs, rowI q c = xs := ⟨_, rfl⟩
                  have HXS := Lib.hid hxs
                  clear hxs
                  have b0 : (t : Int) < 20 := by omega
                  go_wp2_with fail
                  refine (eachP HPa.out c).mono ?_
                  rintro e wA ⟨va, rfl, hRa, hBa⟩
                  rw [HXS.out] at hRa
                  obtain ⟨Aa, ca, ea⟩ := Kd.R_slice hRa
                  subst ea
                  have HRa := Lib.hid hRa
                  have HBa := Lib.hid hBa
                  have HA := Lib.hid (H7.out.later hBa)
                  obtain ⟨gP3, hAp3, y2, y3⟩ := HA.out.ps.cell HPR.out
                  cases hAp3
                  simp only at y2 y3
                  clear hRa hBa
                  go_wp2_with fail
                  refine (reachP (HPa.out.later HBa.out) c).mono ?_
                  rintro e wB ⟨vb, rfl, hRb, hBb⟩
                  rw [HXS.out] at hRb
                  obtain ⟨Ab, cb, eb⟩ := Kd.R_slice hRb
                  subst eb
                  have HRb := Lib.hid hRb
                  have HBb := Lib.hid hBb
                  clear hRb hBb
                  go_wp2_with fail
                  refine (sameR (Kd.R_below HRa.out HBb.out) HRb.out rfl).mono ?_
                  rintro e wC ⟨rfl, m5, hwC⟩
                  have HN : Hid (MS w wC f4 n (.slice (some ⟨gP, 0, none⟩) P.length cp) P (some (ib, upTo I m))) := by subst hwC; exact (HA.out.later HBb.out).later (pw_below_drewN (Below.refl _ _) m5)
                  clear hwC
                  go_wp2
                  go_roundw
                  case rel => exact ⟨c + 1, hcl, by go_num, HN.out⟩
                  case measure => simp [intOf]; omega
                · go_wp2
                  go_roundw
                  case rel => exact ⟨t + 1, ht20, by go_num, H7.out⟩
                  case measure => simp [intOf]; omega
            · go_wp2
              go_loopw [24] (fun i ws => ∃ t : Nat, ∃ f, t ≤ m ∧ i = .int .i64 t ∧ MS w ws f n (.slice Ap P.length cp) P (some (ib, (upTo I m).drop t))) (fun i _ => m - (intOf i).toNat)
              case atStart => exact ⟨0, f4, Nat.zero_le _, rfl, H5.out⟩
              case round =>
                obtain ⟨t, f7, ht, rfl, hs7⟩ := hrel
                have H7 := Lib.hid hs7
                clear hs7
                by_cases htm : t < m
                · obtain ⟨bd, hB, hbd, hz⟩ := HI.out t (by omega)
                  subst hB
                  have HZ := Lib.hid hz
                  have hpop := popM (x := itx I t) (xs := (upTo I m).drop (t + 1)) (by rw [← upTo_drop I htm]; exact H7.out)
                  have HPOP := Lib.hid hpop
                  clear hpop hz
                  go_wp2_with fail
                  refine HPOP.out.mono ?_
                  rintro e w6 ⟨rfl, f8, h8⟩
                  have H8 := Lib.hid h8
                  clear h8
                  obtain ⟨t0, t1, t2⟩ := item_later H8.out.below hbd HZ.out
                  have b0 : (t : Int) < (ilen : Int) := by omega
                  go_upto_region 42 with fail
                  obtain ⟨W6, hW6⟩ : ∃ W6, w6.alloc (.cells #[.int .i64 (itx I t).c, .int .i64 (itx I t).v, .int .i64 (itx I t).l] 43) = W6 := ⟨_, rfl⟩
                  rw [hW6]
                  have hbl : W6.heap[w6.heap.size]? = some (.cells #[.int .i64 (itx I t).c, .int .i64 (itx I t).v, .int .i64 (itx I t).l] 43 (0, 0)) := by subst hW6; exact heap_alloc_new w6 _
                  have hB6 : Below w6.heap.size w6 W6 := by subst hW6; exact below_alloc (Below.refl _ _) _
                  have H9 := Lib.hid (H8.out.later hB6)
                  obtain ⟨t0, t1, t2⟩ := item_later H9.out.below hbd HZ.out
                  have u0 : W6.cell? ⟨w6.heap.size, 0, none⟩ = some (.int .i64 (I t).1) := (blk_cell hbl 0).trans rfl
                  have u1 : W6.cell? ⟨w6.heap.size, 1, none⟩ = some (.int .i64 (I t).2.1) := (blk_cell hbl 1).trans rfl
                  have u2 : W6.cell? ⟨w6.heap.size, 2, none⟩ = some (.int .i64 (I t).2.2) := (blk_cell hbl 2).trans rfl
                  clear hbl hB6 hW6
                  go_quiet (fail)
                  have H10 := fun m => H9.out.later (pw_below_drewN (Below.refl _ W6) m)
                  go_wp2
                  go_roundw
                  case rel => exact ⟨t + 1, f8, htm, by go_num, H10 _⟩
                  case measure => simp [intOf]; omega
                · obtain rfl : t = m := by omega
                  have h7 := H7.out
                  rw [upTo_end] at h7
                  have H8 := Lib.hid h7
                  clear h7
                  go_wp2_with fail
                  refine (popM0 H8.out).mono ?_
                  rintro e w6 ⟨rfl, f8, h8⟩
                  have H9 := Lib.hid h8
                  clear h8
                  go_wp2
                  go_ret
                  exact ⟨rfl, (H9.out.later (below_alloc (Below.refl _ _) _)).below⟩
theorem own : ownKnob Try.prog.godebug = none := by kernel_rfl
theorem laidOut : laidOutB Try.prog = true := by kernel_rfl
set_option maxRecDepth 100000 in
theorem lifted (os : Os) (started : os.Started) (H : Type) (enc : TypeId × Value → H) :
    ReturnsInHanded {} Try.checked os 10 .any (Rows.queueManySpec.pre6 enc Try.prog Try.f10 Rows.queueManyRow.domain false) (Rows.queueManySpec.post enc Try.prog Try.f10 false true false false) := by
  refine returnsInHanded_of_change_sized (C := Try.checked) own started (by kernel_rfl) Try.func10
    (ChangeSpec.witness6 (enc := enc) (C := Try.checked) false ⟨#[], #[.int .i64 0, .int .i64 0, .slice none 0 0, .slice none 0 0], []⟩ 8 (by kernel_rfl) (by kernel_rfl) (by kernel_rfl) (by kernel_rfl)) ?_
  intro W base args ds gs before hval0 hW hcnd hsz0 _
  have hval : ∀ (j : Nat) t v, Try.f10.params[j]? = some t → args[j]? = some v → Value.okWide Try.prog W .any base t v := hval0
  have hsz : (DataW.weightsEach Try.prog (Try.f10.params.toList ++ Rows.queueManySpec.plain.varTypes Try.prog) (ds ++ gs)).all (· ≤ reachBytes) = true := hsz0
  have hW' := hW
  obtain ⟨p, q, hA0, hV, rfl, hfz, hnd⟩ := hW
  have hA : DataW.TrodAll enc Try.prog W 0 (fun _ => true) true Try.f10.params.toList args.toList ds p := hA0
  rw [Try.params10] at hA hval hsz
  obtain ⟨v0, vs0, d0, ds0, p0, q0, hargs, rfl, rfl, h0, r0⟩ := trodAll_cons hA
  obtain ⟨v1, vs1, d1, ds1, p1, q1, rfl, rfl, rfl, h1, r1⟩ := trodAll_cons r0
  obtain ⟨v2, vs2, d2, ds2, p2, q2, rfl, rfl, rfl, h2, r2⟩ := trodAll_cons r1
  obtain ⟨v3, vs3, d3, ds3, p3, q3, rfl, rfl, rfl, h3, r3⟩ := trodAll_cons r2
  obtain ⟨rfl, rfl, rfl⟩ := trodAll_nil r3
  obtain rfl : args = #[v0, v1, v2, v3] := by cases args; simp_all
  obtain ⟨rfl, rfl⟩ := trodVars_none hV
  obtain ⟨a0, rfl, rfl, rfl, w0⟩ := open_int Try.underlying3 (hval 0 3 v0 rfl rfl) h0
  obtain ⟨a1, rfl, rfl, rfl, w1⟩ := open_int Try.underlying3 (hval 1 3 v1 rfl rfl) h1
  obtain ⟨A2, len2, cap2, rfl⟩ := okWide_slice Try.underlying46 (hval 2 46 v2 rfl rfl)
  obtain ⟨xs2, hr2, hl2⟩ := read_four (P := Try.prog) Try.underlying46 Try.underlying53 (by kernel_rfl) ⟨rfl, rfl, rfl, rfl⟩ ⟨by kernel_rfl, by kernel_rfl, by kernel_rfl, by kernel_rfl⟩ ⟨Try.underlying3, Try.underlying3, Try.underlying3, Try.underlying3⟩ (show Try.prog.bytesOf 53 = 32 by kernel_rfl) hsz (j := 2) rfl rfl h2
  obtain ⟨A3, len3, cap3, rfl⟩ := okWide_slice Try.underlying41 (hval 3 41 v3 rfl rfl)
  obtain ⟨xs3, hr3, hl3⟩ := read_three (P := Try.prog) Try.underlying41 Try.underlying43 (by kernel_rfl) ⟨rfl, rfl, rfl⟩ ⟨by kernel_rfl, by kernel_rfl, by kernel_rfl⟩ ⟨Try.underlying3, Try.underlying3, Try.underlying3⟩ (show Try.prog.bytesOf 43 = 24 by kernel_rfl) hsz (j := 3) rfl rfl h3
  clear hA0 hval0 hsz0
  simp only [List.append_nil] at hW'
  refine (walk (w := W) a0 a1 A2 len2 cap2 xs2 hr2 hl2 A3 len3 cap3 xs3 hr3 hl3).mono fun e W' ⟨he, hg⟩ => ?_
  subst he
  exact ⟨_, rfl, YtekgdlpicgibhaaClose.post_true laidOut (by rfl) Try.underlying4 rfl (by kernel_rfl) hW' rfl hg⟩

theorem proved : Rows.QueueManySaid :=
  OpenClaim.holds_of_wide 10 Try.f10 rfl rfl rfl rfl rfl rfl rfl ⟨rfl, rfl, rfl, rfl, rfl⟩ rfl rfl rfl rfl rfl (by kernel_rfl) Try.func10 (by kernel_rfl)
    (of_decide_eq_true (by kernel_rfl)) (by unfold Func.isWrapper; first | (rw [if_pos (by decide +kernel)]; kernel_rfl) | (rw [if_neg (by decide +kernel)]; exact ⟨rfl, rfl⟩))
    (fun os started H enc _ => lifted os started H enc)
end Go.Proofs.Ytekgdlpicgibhaa.Many
