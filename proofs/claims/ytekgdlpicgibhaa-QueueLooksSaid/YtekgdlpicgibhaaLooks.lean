/-
  Proved: QueueLooks: for every four arguments the law answers true: Len, Total and Each change nothing and tell what Pops bring then. No condition.
-/
import Derived.Test.YtekgdlpicgibhaaRows
import Derived.Test.YtekgdlpicgibhaaQ6
import Derived.Test.YtekgdlpicgibhaaLooksM
import Derived.Test.YtekgdlpicgibhaaClose
import Derived.Test.YtekgdlpicgibhaaRead
import Derived.ProofKit
import Derived.OpenShut
import Derived.SizedLaws
import Derived.BigQuiet
namespace Go.Proofs.Ytekgdlpicgibhaa.Looks
open Go.ChangeShapes Go.WideShapes Go.ChangeAt Go.RowKit Go.Proofs.YtekgdlpicgibhaaW.PrintWords Go.Proofs.YtekgdlpicgibhaaRead Go.Proofs.Ytekgdlpicgibhaa.QQ Go.Proofs.Ytekgdlpicgibhaa.QI

theorem bound_nat (x m : Int) (w : World) (h1 : 1 ≤ m) (h2 : m ≤ 4096) : Calls Try.prog 12 #[.int .i64 x, .int .i64 m] w fun e w' => ∃ n : Nat, 1 ≤ n ∧ (n : Int) ≤ m ∧ e = .returned (.int .i64 (n : Int)) ∧ w = w' := by
  refine (bound_ok x m w h1 h2).mono ?_
  rintro e w' ⟨rfl, rfl⟩
  have a := Int.emod_nonneg x (show m ≠ 0 by omega)
  have b := Int.emod_lt_of_pos x (show 0 < m by omega)
  exact ⟨(1 + x % m).toNat, by omega, by omega, ret_int (by omega), rfl⟩
theorem add_block (a : Addr) (k : Nat) : (a.add k).block = a.block := by
  unfold Addr.add
  split <;> rfl

/-- Some queue of n clients. -/
def Some_ (w0 w : World) (qb n : Nat) : Prop := ∃ q, St w0 w qb q ∧ q.rows.length = n
theorem some_push {w0 w : World} {qb n : Nat} (h : Some_ w0 w qb n) (c x : Int) :
    Calls Try.prog 19 #[.pointer (some ⟨qb, 0, none⟩), .int .i64 c, .int .i64 x] w fun e w' => ∃ r, e = .returned (.int .i64 r) ∧ Some_ w0 w' qb n := by
  obtain ⟨q, hq, hn⟩ := h
  refine (push_st hq c x).mono ?_
  rintro e w' ⟨rfl, h'⟩
  exact ⟨_, rfl, _, h', by rw [QM.push_len]; exact hn⟩
theorem some_pop {w0 w : World} {qb n : Nat} (h : Some_ w0 w qb n) :
    Calls Try.prog 18 #[.pointer (some ⟨qb, 0, none⟩)] w fun e w' => ∃ a b c, e = .returned (.tuple #[.int .i64 a, .int .i64 b, .bool c]) ∧ Some_ w0 w' qb n := by
  obtain ⟨q, hq, hn⟩ := h
  refine (pop_st hq).mono ?_
  rintro e w' ⟨rfl, h'⟩
  have hs : Some_ w0 w' qb n := ⟨_, h', by rw [QM.pop_len]; exact hn⟩
  cases hp : q.pop.1 with
  | none => exact ⟨_, _, _, rfl, hs⟩
  | some p => exact ⟨_, _, _, rfl, hs⟩

variable {w : World}
set_option maxRecDepth 100000 in
set_option maxHeartbeats 1000000 in
theorem walk (c0 p0 : Int) (A : Option Addr) (len cap : Nat) (zs : List Int) (hr : ReadsOf (Value.int .i64) 0 w A len zs) (hl : len * 8 ≤ 140737488351232) (x0 : Int) :
    Calls Try.prog 8 #[.int .i64 c0, .int .i64 p0, .slice A len cap, .int .i64 x0] w fun e w' => e = .returned (.bool true) ∧ Below w.heap.size w w' := by
  have hcell : ∀ k, k < len → ∃ ad, A = some ad ∧ ad.block < w.heap.size ∧ w.cell? (ad.add k) = some (.int .i64 (zs.getD k 0)) := by
    intro k hk
    obtain ⟨ad, e, hc⟩ := hr.2.2 (by omega)
    refine ⟨ad, e, ?_, hc k hk⟩
    have := World.block_lt_of_cell? w _ (hc 0 (by omega))
    simpa [Addr.add] using this
  have HC := Lib.hid hcell
  clear hcell hr
  go_enter Try.func8, Try.ntmps8
  go_wp2_with fail
  refine (known _).mono ?_
  rintro e w1 ⟨rfl, hb⟩
  go_wp2_with fail
  refine (bound_nat _ _ _ (by decide) (by decide)).mono ?_
  rintro e w' ⟨n, n1, n2, rfl, rfl⟩
  go_wp2_with fail
  refine (bound_nat _ _ _ (by decide) (by decide)).mono ?_
  rintro e w' ⟨p, p1, p2, rfl, rfl⟩
  go_wp2_with fail
  refine (new_st hb _ _ (by omega) (by omega) (by omega) (by omega)).mono ?_
  rintro e w2 ⟨qb, rfl, h⟩
  have hn0 : ¬ n = 0 := by omega
  have H0 : Hid (Some_ w w2 qb n) := ⟨_, h, by simp [QM.empty]⟩
  clear h hb
  go_wp2
  go_loopw [11] (fun i wr => ∃ k : Nat, k ≤ len ∧ k ≤ 1000 ∧ i = .int .i64 k ∧ Some_ w wr qb n) (fun i _ => len - (intOf i).toNat)
  case atStart => exact ⟨0, Nat.zero_le _, by decide, rfl, H0.out⟩
  case round =>
    obtain ⟨k, hk, hk1, rfl, hq⟩ := hrel
    have HQ := Lib.hid hq
    clear hq H0
    by_cases hlt : k < len ∧ k < 1000
    · obtain ⟨h1, h2⟩ := hlt
      obtain ⟨ad, rfl, had, hc⟩ := HC.out k h1
      obtain ⟨x, hx⟩ : ∃ x, zs.getD k 0 = x := ⟨_, rfl⟩
      have hbel : Below w.heap.size w wr := by obtain ⟨q, h, _⟩ := HQ.out; exact h.below
      have hcr : wr.cell? (ad.add k) = some (.int .i64 x) := by rw [← hx]; exact (hbel.cell (p := ad.add k) (by rw [add_block]; exact had)).trans hc
      have d2 : decide ((k : Int) < 1000) = true := decide_eq_true (by omega)
      clear hc hx hbel
      by_cases hx0 : 0 ≤ x
      · go_wp2_with (go_at_call 19; refine (some_push HQ.out _ _).mono ?_; rintro e w3 ⟨r, rfl, h3⟩; have H3 := Lib.hid h3; clear h3)
        go_roundw
        case rel => exact ⟨k + 1, h1, h2, by go_num, H3.out⟩
        case measure => simp [intOf]; omega
      · go_wp2_with (go_at_call 18; refine (some_pop HQ.out).mono ?_; rintro e w3 ⟨a, b, c, rfl, h3⟩; have H3 := Lib.hid h3; clear h3)
        go_roundw
        case rel => exact ⟨k + 1, h1, h2, by go_num, H3.out⟩
        case measure => simp [intOf]; omega
    · have hend : (len : Int) ≤ (k : Int) ∨ ((k : Int) < (len : Int) ∧ ¬ ((k : Int) < 1000)) := by omega
      clear hlt
      have a1 : -(n : Int) < x0.tmod (n : Int) := by have := Int.lt_tmod_of_pos x0 (show 0 < (n : Int) by omega); omega
      have a2 : x0.tmod (n : Int) < (n : Int) := Int.tmod_lt_of_pos x0 (by omega)
      obtain ⟨c, hc⟩ : ∃ c : Nat, x0.tmod (n : Int) % (n : Int) = (c : Int) := ⟨(x0.tmod (n : Int) % (n : Int)).toNat, by have := Int.emod_nonneg (x0.tmod (n : Int)) (show (n : Int) ≠ 0 by omega); omega⟩
      have hcn : c < n := by have := Int.emod_lt_of_pos (x0.tmod (n : Int)) (show 0 < (n : Int) by omega); omega
      obtain ⟨q, hq, hqn⟩ := HQ.out
      have hS := Lib.hid (Sep.of_st hq)
      have HN := Lib.hid hqn
      have e1 : Hid (rowI q (c : Int) = q.row c) := by show (if 0 ≤ (c : Int) then q.row (c : Int).toNat else []) = _; rw [if_pos (by omega)]; rfl
      have e2 : Hid (rowI q (n : Int) = []) := by show (if 0 ≤ (n : Int) then q.row (n : Int).toNat else []) = _; rw [if_pos (by omega)]; exact q.row_out (by rw [Int.toNat_natCast]; omega)
      have e3 : Hid (rowI q (-1) = []) := by show (if (0 : Int) ≤ -1 then q.row (-1 : Int).toNat else []) = _; rw [if_neg (by omega)]
      have hll : (q.row c).length ≤ 64 := by have := QM.row_le hq.wf c; have := hq.wf.p2; omega
      have htt : q.total ≤ 4096 := QM.total_le hq.wf
      obtain ⟨L, hL⟩ : ∃ L, L = q.row c := ⟨_, rfl⟩
      rw [← hL] at hll
      have HL := Lib.hid hL
      clear hq hqn hL
      rcases hend with he | ⟨he1, he2⟩
      all_goals
        go_wp2_with fail
        refine (each_sep hS.out _).mono ?_
        rintro e w3 ⟨v1, rfl, h3⟩
        rw [e1.out, ← HL.out] at h3
        obtain ⟨A1, d1, hv1, _⟩ := h3.reads (v := v1) (xs := L) (by simp)
        have H3 := Lib.hid h3
        have HV1 := Lib.hid hv1
        clear h3
        rw [hv1]
        clear hv1
        go_wp2_with fail
        refine (each_sep H3.out _).mono ?_
        rintro e w4 ⟨v2, rfl, h4⟩
        rw [e1.out, ← HL.out] at h4
        obtain ⟨A2, d2, hv2, _⟩ := h4.reads (v := v2) (xs := L) (by simp)
        have H4 := Lib.hid h4
        have HV2 := Lib.hid hv2
        clear h4
        rw [hv2]
        clear hv2
        go_wp2_with fail
        refine (total_sep H4.out).mono ?_
        rintro e w' ⟨rfl, rfl⟩
        go_wp2_with fail
        have hsame : Hid (Calls Try.prog 26 #[.slice A1 L.length d1, .slice A2 L.length d2] w4 fun e w' => e = .returned (.bool true) ∧ ∃ k, w' = w4.drewN k) := by
          obtain ⟨B1, x1, e1', r1⟩ := H4.out.reads (v := v1) (xs := L) (by simp)
          obtain ⟨B2, x2, e2', r2⟩ := H4.out.reads (v := v2) (xs := L) (by simp)
          rw [HV1.out] at e1'
          rw [HV2.out] at e2'
          cases e1'
          cases e2'
          exact same_any r1 r2
        refine hsame.out.mono ?_
        rintro e w' ⟨rfl, m, rfl⟩
        clear hsame
        have H5 := Lib.hid (H4.out.drewN m)
        clear H4 H3
        go_wp2_with fail
        refine (len_sep H5.out _).mono ?_
        rintro e w' ⟨rfl, rfl⟩
        rw [e1.out, ← HL.out]
        go_wp2_with fail
        refine (each_sep H5.out _).mono ?_
        rintro e w5 ⟨v3, rfl, h6⟩
        rw [e2.out] at h6
        obtain ⟨A3, d3, hv3, _⟩ := h6.reads (v := v3) (xs := []) (by simp)
        have H6 := Lib.hid h6
        have HV3 := Lib.hid hv3
        clear h6
        rw [hv3]
        clear hv3
        go_wp2_with fail
        refine (len_sep H6.out _).mono ?_
        rintro e w' ⟨rfl, rfl⟩
        rw [e3.out]
        have H7 : Hid (∃ V, (v1, L) ∈ V ∧ Sep w w5 qb q V) := ⟨_, by simp, H6.out⟩
        clear H6 H5
        go_wp2
        go_loopw [16, 17] (fun a i ws => ∃ j r : Nat, ∃ q' V, j ≤ q.total ∧ r ≤ 64 ∧ a = .int .i64 r ∧ i = .int .i64 j ∧ (v1, L) ∈ V ∧ Sep w ws qb q' V ∧ Lk q c j r q') (fun _ i _ => q.total - (intOf i).toNat)
        case atStart =>
          obtain ⟨V, hV, hs⟩ := H7.out
          exact ⟨0, 0, q, V, Nat.zero_le _, by decide, rfl, rfl, hV, hs, lk_start q c⟩
        case round =>
          obtain ⟨j, r, q', V, hj, hr64, rfl, rfl, hV, hs, hk2⟩ := hrel
          have HS := Lib.hid hs
          have HK := Lib.hid hk2
          have HVm := Lib.hid hV
          clear hs hk2 hV
          by_cases hjt : j < q.total
          · obtain ⟨d, x, hp, hdn, hcase⟩ := lk_pop HS.out.wf HK.out hjt
            have hpop : Hid (Calls Try.prog 18 #[.pointer (some ⟨qb, 0, none⟩)] wr fun e w' => e = .returned (.tuple #[.int .i64 (d : Int), .int .i64 x, .bool true]) ∧ Sep w w' qb (q'.popped d) V) := by
              have := pop_sep HS.out
              rw [hp] at this
              exact this
            have HD := Lib.hid hdn
            by_cases hdc : d = c
            · rw [if_pos hdc] at hcase
              obtain ⟨hrl, hrx, hlk⟩ := hcase
              rw [← HL.out] at hrl hrx
              have t1 : ((d : Int) == (c : Int)) = true := beq_iff_eq.2 (by omega)
              have HRX := Lib.hid hrx
              have HLK := Lib.hid hlk
              have hcellr : Hid (∀ w6, Sep w w6 qb (q'.popped d) V → ∃ ad, A1 = some ad ∧ w6.cell? (ad.add r) = some (.int .i64 x)) := by
                intro w6 h6
                obtain ⟨B1, y1, e1', r1⟩ := h6.reads HVm.out
                rw [HV1.out] at e1'
                cases e1'
                obtain ⟨ad, e, hc⟩ := r1.2.2 (by omega)
                exact ⟨ad, e, by rw [hc r hrl, HRX.out]⟩
              have b1 : (r : Int) < (L.length : Int) := by omega
              clear hp hdc hdn hrx hlk
              go_wp2_with fail
              refine hpop.out.mono ?_
              rintro e w6 ⟨rfl, h6⟩
              obtain ⟨ad, hA1, hc1⟩ := hcellr.out w6 h6
              subst hA1
              have H8 := Lib.hid h6
              clear h6
              go_wp2
              go_roundw
              case rel => exact ⟨j + 1, r + 1, _, V, hjt, by omega, by go_num, by go_num, HVm.out, H8.out, HLK.out⟩
              case measure => simp [intOf]; omega
            · rw [if_neg hdc] at hcase
              have t1 : ((d : Int) == (c : Int)) = false := beq_eq_false_iff_ne.2 (by omega)
              have HLK := Lib.hid hcase
              clear hp hdc hdn hcase
              go_wp2_with fail
              refine hpop.out.mono ?_
              rintro e w6 ⟨rfl, h6⟩
              have H8 := Lib.hid h6
              clear h6
              go_wp2
              go_roundw
              case rel => exact ⟨j + 1, r, _, V, hjt, by omega, by go_num, by go_num, HVm.out, H8.out, HLK.out⟩
              case measure => simp [intOf]; omega
          · obtain rfl : j = q.total := by omega
            obtain ⟨hp, ht0, hrl⟩ := lk_end HS.out.wf HK.out
            rw [← HL.out] at hrl
            have hpop : Hid (Calls Try.prog 18 #[.pointer (some ⟨qb, 0, none⟩)] wr fun e w' => e = .returned (.tuple #[.int .i64 0, .int .i64 0, .bool false]) ∧ Sep w w' qb q' V) := by
              have := pop_sep HS.out
              rw [hp] at this
              exact this
            have t1 : ((r : Int) == (L.length : Int)) = true := beq_iff_eq.2 (by omega)
            have HT := Lib.hid ht0
            clear hp hrl ht0
            go_wp2_with fail
            refine hpop.out.mono ?_
            rintro e w6 ⟨rfl, h6⟩
            have H8 := Lib.hid h6
            clear h6
            go_wp2_with fail
            refine (total_sep H8.out).mono ?_
            rintro e w' ⟨rfl, rfl⟩
            rw [HT.out]
            go_wp2
            go_ret
            exact ⟨rfl, H8.out.below⟩

theorem own : ownKnob Try.prog.godebug = none := by kernel_rfl
theorem laidOut : laidOutB Try.prog = true := by kernel_rfl
theorem cells3 : Try.prog.cellsOf 3 = 1 := by kernel_rfl
theorem bytes3 : Try.prog.bytesOf 3 = 8 := by kernel_rfl
set_option maxRecDepth 100000 in
theorem lifted (os : Os) (started : os.Started) (H : Type) (enc : TypeId × Value → H) :
    ReturnsInHanded {} Try.checked os 8 .any (Rows.queueLooksSpec.pre6 enc Try.prog Try.f8 Rows.queueLooksRow.domain false) (Rows.queueLooksSpec.post enc Try.prog Try.f8 false true false false) := by
  refine returnsInHanded_of_change_sized (C := Try.checked) own started (by kernel_rfl) Try.func8
    (ChangeSpec.witness6 (enc := enc) (C := Try.checked) false ⟨#[], #[.int .i64 0, .int .i64 0, .slice none 0 0, .int .i64 0], []⟩ 8 (by kernel_rfl) (by kernel_rfl) (by kernel_rfl) (by kernel_rfl)) ?_
  intro W base args ds gs before hval0 hW hcnd hsz0 _
  have hval : ∀ (j : Nat) t v, Try.f8.params[j]? = some t → args[j]? = some v → Value.okWide Try.prog W .any base t v := hval0
  have hsz : (DataW.weightsEach Try.prog (Try.f8.params.toList ++ Rows.queueLooksSpec.plain.varTypes Try.prog) (ds ++ gs)).all (· ≤ reachBytes) = true := hsz0
  have hW' := hW
  obtain ⟨p, q, hA0, hV, rfl, hfz, hnd⟩ := hW
  have hA : DataW.TrodAll enc Try.prog W 0 (fun _ => true) true Try.f8.params.toList args.toList ds p := hA0
  rw [Try.params8] at hA hval hsz
  obtain ⟨v0, vs0, d0, ds0, p0, q0, hargs, rfl, rfl, h0, r0⟩ := trodAll_cons hA
  obtain ⟨v1, vs1, d1, ds1, p1, q1, rfl, rfl, rfl, h1, r1⟩ := trodAll_cons r0
  obtain ⟨v2, vs2, d2, ds2, p2, q2, rfl, rfl, rfl, h2, r2⟩ := trodAll_cons r1
  obtain ⟨v3, vs3, d3, ds3, p3, q3, rfl, rfl, rfl, h3, r3⟩ := trodAll_cons r2
  obtain ⟨rfl, rfl, rfl⟩ := trodAll_nil r3
  obtain rfl : args = #[v0, v1, v2, v3] := by cases args; simp_all
  obtain ⟨rfl, rfl⟩ := trodVars_none hV
  obtain ⟨a0, rfl, rfl, rfl, w0⟩ := open_int Try.underlying3 (hval 0 3 v0 rfl rfl) h0
  obtain ⟨a1, rfl, rfl, rfl, w1⟩ := open_int Try.underlying3 (hval 1 3 v1 rfl rfl) h1
  obtain ⟨A2, len2, cap2, rfl⟩ := okWide_slice Try.underlying40 (hval 2 40 v2 rfl rfl)
  obtain ⟨xs2, hr2, hwf2, hl2⟩ := read_ints (k := .i64) Try.underlying40 Try.underlying3 cells3 bytes3 hsz (j := 2) rfl rfl h2
  obtain ⟨a3, rfl, rfl, rfl, w3⟩ := open_int Try.underlying3 (hval 3 3 v3 rfl rfl) h3
  clear hA0 hval0 hsz0
  simp only [List.append_nil] at hW'
  refine (walk (w := W) a0 a1 A2 len2 cap2 xs2 hr2 hl2 a3).mono fun e W' ⟨he, hg⟩ => ?_
  subst he
  exact ⟨_, rfl, YtekgdlpicgibhaaClose.post_true laidOut (by rfl) Try.underlying4 rfl (by kernel_rfl) hW' rfl hg⟩

theorem proved : Rows.QueueLooksSaid :=
  OpenClaim.holds_of_wide 8 Try.f8 rfl rfl rfl rfl rfl rfl rfl ⟨rfl, rfl, rfl, rfl, rfl⟩ rfl rfl rfl rfl rfl (by kernel_rfl) Try.func8 (by kernel_rfl)
    (of_decide_eq_true (by kernel_rfl)) (by unfold Func.isWrapper; first | (rw [if_pos (by decide +kernel)]; kernel_rfl) | (rw [if_neg (by decide +kernel)]; exact ⟨rfl, rfl⟩))
    (fun os started H enc _ => lifted os started H enc)

end Go.Proofs.Ytekgdlpicgibhaa.Looks
