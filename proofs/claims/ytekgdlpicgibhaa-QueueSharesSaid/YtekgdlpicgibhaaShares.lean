/-
  Proved: QueueShares: for every three numbers the law answers true: n clients that all have something waiting are served one after the other. No condition.
-/
import Derived.Test.YtekgdlpicgibhaaRows
import Derived.Test.YtekgdlpicgibhaaQ5
import Derived.Test.YtekgdlpicgibhaaSharesM
import Derived.Test.YtekgdlpicgibhaaClose
import Derived.ProofKit
import Derived.OpenShut
import Derived.SizedLaws
namespace Go.Proofs.Ytekgdlpicgibhaa.Shares
open Go.ChangeShapes Go.WideShapes Go.ChangeAt Go.RowKit Go.Proofs.YtekgdlpicgibhaaW.PrintWords Go.Proofs.Ytekgdlpicgibhaa.QQ Go.Proofs.Ytekgdlpicgibhaa.QI

theorem bound_nat (x m : Int) (w : World) (h1 : 1 ≤ m) (h2 : m ≤ 4096) : Calls Try.prog 12 #[.int .i64 x, .int .i64 m] w fun e w' => ∃ n : Nat, 1 ≤ n ∧ (n : Int) ≤ m ∧ e = .returned (.int .i64 (n : Int)) ∧ w = w' := by
  refine (bound_ok x m w h1 h2).mono ?_
  rintro e w' ⟨rfl, rfl⟩
  have a := Int.emod_nonneg x (show m ≠ 0 by omega)
  have b := Int.emod_lt_of_pos x (show 0 < m by omega)
  exact ⟨(1 + x % m).toNat, by omega, by omega, ret_int (by omega), rfl⟩

theorem fill_any {w0 w : World} {qb n p c k : Nat} {q : QM Int} (h : St w0 w qb q) (hf : Fill n p c k q) (hc : c < n) (hk : k < p) :
    Calls Try.prog 19 #[.pointer (some ⟨qb, 0, none⟩), .int .i64 (c : Int), .int .i64 (1000 * (c : Int) + (k : Int))] w fun e w' => e = .returned (.int .i64 0) ∧ ∃ q', St w0 w' qb q' ∧ Fill n p c (k + 1) q' := by
  obtain ⟨e1, e2⟩ := fill_push hf hc hk
  refine (push_to h _ _ e1).mono ?_
  rintro e w' ⟨rfl, h'⟩
  exact ⟨rfl, _, h', e2⟩
theorem take_any {w0 w : World} {qb n p i : Nat} {q : QM Int} (h : St w0 w qb q) (ht : Taken n p i q) (hi : i < n * p) :
    Calls Try.prog 18 #[.pointer (some ⟨qb, 0, none⟩)] w fun e w' => e = .returned (.tuple #[.int .i64 ((i : Int) % (n : Int)), .int .i64 (1000 * ((i : Int) % (n : Int)) + (i : Int) / (n : Int)), .bool true]) ∧ ∃ q', St w0 w' qb q' ∧ Taken n p (i + 1) q' := by
  obtain ⟨e1, e2⟩ := taken_pop h.wf ht hi
  refine (pop_to h e1).mono ?_
  rintro e w' ⟨rfl, h'⟩
  exact ⟨by simp [popValue], _, h', e2⟩

theorem walk (c0 p0 x0 : Int) (w : World) : Calls Try.prog 6 #[.int .i64 c0, .int .i64 p0, .int .i64 x0] w fun e w' => e = .returned (.bool true) ∧ Below w.heap.size w w' := by
  go_enter Try.func6, Try.ntmps6
  go_wp2_with fail
  refine (known _).mono ?_
  rintro e w1 ⟨rfl, hb⟩
  go_wp2_with fail
  refine (bound_nat _ _ _ (by decide) (by decide)).mono ?_
  rintro e w' ⟨n, n1, n2, rfl, rfl⟩
  go_wp2_with fail
  refine (bound_nat _ _ _ (by decide) (by decide)).mono ?_
  rintro e w' ⟨p, p1, p2, rfl, rfl⟩
  have hnp : n * p ≤ 4096 := by have : n * p ≤ 64 * 64 := Nat.mul_le_mul (by omega) (by omega); omega
  have hnp1 : 1 ≤ n * p := Nat.mul_pos (by omega) (by omega)
  go_wp2_with fail
  refine (new_st hb _ _ (by omega) (by omega) (by omega) (by omega)).mono ?_
  rintro e w2 ⟨qb, rfl, h⟩
  have H0 : Hid (∃ q, St w w2 qb q ∧ Fill n p 0 0 q) := ⟨_, by simpa using h, fill_start n p⟩
  clear h hb
  go_wp2
  go_loopw [9] (fun c wr => ∃ k : Nat, k ≤ n ∧ c = .int .i64 k ∧ ∃ q, St w wr qb q ∧ Fill n p k 0 q) (fun c _ => n - (intOf c).toNat)
  case atStart => exact ⟨0, Nat.zero_le _, rfl, H0.out⟩
  case round =>
    obtain ⟨c, hc, rfl, q, hq, hf⟩ := hrel
    have HQ := Lib.hid hq
    have HF := Lib.hid hf
    clear hq hf H0
    by_cases hlt : c < n
    · obtain ⟨wo, hwo⟩ : ∃ wo : World, wo = wr := ⟨_, rfl⟩
      have HWO := Lib.hid hwo
      go_wp2
      go_loopw [10] (fun j ws => ∃ k : Nat, k ≤ p ∧ j = .int .i64 k ∧ ∃ q, St w ws qb q ∧ Fill n p c k q) (fun j _ => p - (intOf j).toNat)
      case atStart => exact ⟨0, Nat.zero_le _, rfl, q, HQ.out, HF.out⟩
      case round =>
        obtain ⟨k, hk, rfl, q1, hq1, hf1⟩ := hrel
        have HQ1 := Lib.hid hq1
        have HF1 := Lib.hid hf1
        clear hq1 hf1
        by_cases hkp : k < p
        · go_wp2_with (first | (go_at_call 19; refine (fill_any HQ1.out HF1.out hlt hkp).mono ?_; rintro e w3 ⟨rfl, q2, hq2, hf2⟩; have HQ2 := Lib.hid hq2; have HF2 := Lib.hid hf2; clear hq2 hf2) | (go_at_call 15; refine (num _ _).mono ?_; rintro e w' ⟨rfl, rfl⟩))
          go_roundw
          case rel => exact ⟨k + 1, hkp, by go_num, q2, HQ2.out, HF2.out⟩
          case measure => simp [intOf]; omega
        · obtain rfl : k = p := by omega
          go_wp2
          go_roundw
          case rel => exact ⟨c + 1, hlt, by go_num, q1, HQ1.out, fill_next HF1.out⟩
          case measure => simp [intOf]; omega
    · obtain rfl : c = n := by omega
      go_wp2_with fail
      refine (bound_nat _ _ _ (by omega) (by omega)).mono ?_
      rintro e w' ⟨m, m1, m2, rfl, rfl⟩
      have HT : Hid (Taken c p 0 q) := taken_start HF.out
      have cn : (1 : Int) ≤ (c : Int) := by omega
      go_wp2
      go_loopw [12] (fun j ws => ∃ k : Nat, k ≤ m ∧ j = .int .i64 k ∧ ∃ q, St w ws qb q ∧ Taken c p k q) (fun j _ => m - (intOf j).toNat)
      case atStart => exact ⟨0, Nat.zero_le _, rfl, q, HQ.out, HT.out⟩
      case round =>
        obtain ⟨k, hk, rfl, q1, hq1, ht1⟩ := hrel
        have HQ1 := Lib.hid hq1
        have HT1 := Lib.hid ht1
        clear hq1 ht1
        by_cases hkm : k < m
        · have hkn : k < c * p := by omega
          have d0 : (0 : Int) ≤ (k : Int) % (c : Int) := Int.emod_nonneg _ (by omega)
          have d1 : (k : Int) % (c : Int) < 64 := by have := Int.emod_lt_of_pos (k : Int) (show 0 < (c : Int) by omega); omega
          have d2 : (0 : Int) ≤ (k : Int) / (c : Int) := Int.ediv_nonneg (by omega) (by omega)
          have d3 : (k : Int) / (c : Int) ≤ 4096 := by have := Int.ediv_le_self (c : Int) (show 0 ≤ (k : Int) by omega); omega
          go_wp2_with (first | (go_at_call 18; refine (take_any HQ1.out HT1.out hkn).mono ?_; rintro e w3 ⟨rfl, q2, hq2, ht2⟩; have HQ2 := Lib.hid hq2; have HT2 := Lib.hid ht2; clear hq2 ht2))
          go_roundw
          case rel => exact ⟨k + 1, hkm, by go_num, q2, HQ2.out, HT2.out⟩
          case measure => simp [intOf]; omega
        · obtain rfl : k = m := by omega
          have htot := HT1.out.tot
          have hcp : ((c * p : Nat) : Int) = (c : Int) * (p : Int) := by simp
          have ht : ((q1.total : Int) == (c : Int) * (p : Int) - (k : Int)) = true := beq_iff_eq.2 (by rw [← hcp]; omega)
          clear htot hcp
          go_wp2_with (go_at_call 20; refine (total_st HQ1.out).mono ?_; rintro e w' ⟨rfl, rfl⟩)
          go_ret
          exact ⟨rfl, HQ1.out.below⟩

theorem own : ownKnob Try.prog.godebug = none := by kernel_rfl
theorem laidOut : laidOutB Try.prog = true := by kernel_rfl
set_option maxRecDepth 100000 in
theorem lifted (os : Os) (started : os.Started) (H : Type) (enc : TypeId × Value → H) :
    ReturnsInHanded {} Try.checked os 6 .any (Rows.queueSharesSpec.pre6 enc Try.prog Try.f6 Rows.queueSharesRow.domain false) (Rows.queueSharesSpec.post enc Try.prog Try.f6 false true false false) := by
  refine returnsInHanded_of_change_sized (C := Try.checked) own started (by kernel_rfl) Try.func6
    (ChangeSpec.witness6 (enc := enc) (C := Try.checked) false ⟨#[], #[.int .i64 0, .int .i64 0, .int .i64 0], []⟩ 8 (by kernel_rfl) (by kernel_rfl) (by kernel_rfl) (by kernel_rfl)) ?_
  intro W base args ds gs before hval0 hW hcnd hsz0 _
  have hval : ∀ (j : Nat) t v, Try.f6.params[j]? = some t → args[j]? = some v → Value.okWide Try.prog W .any base t v := hval0
  have hsz : (DataW.weightsEach Try.prog (Try.f6.params.toList ++ Rows.queueSharesSpec.plain.varTypes Try.prog) (ds ++ gs)).all (· ≤ reachBytes) = true := hsz0
  have hW' := hW
  obtain ⟨p, q, hA0, hV, rfl, hfz, hnd⟩ := hW
  have hA : DataW.TrodAll enc Try.prog W 0 (fun _ => true) true Try.f6.params.toList args.toList ds p := hA0
  rw [Try.params6] at hA hval hsz
  obtain ⟨v0, vs0, d0, ds0, p0, q0, hargs, rfl, rfl, h0, r0⟩ := trodAll_cons hA
  obtain ⟨v1, vs1, d1, ds1, p1, q1, rfl, rfl, rfl, h1, r1⟩ := trodAll_cons r0
  obtain ⟨v2, vs2, d2, ds2, p2, q2, rfl, rfl, rfl, h2, r2⟩ := trodAll_cons r1
  obtain ⟨rfl, rfl, rfl⟩ := trodAll_nil r2
  obtain rfl : args = #[v0, v1, v2] := by cases args; simp_all
  obtain ⟨rfl, rfl⟩ := trodVars_none hV
  obtain ⟨a0, rfl, rfl, rfl, w0⟩ := open_int Try.underlying3 (hval 0 3 v0 rfl rfl) h0
  obtain ⟨a1, rfl, rfl, rfl, w1⟩ := open_int Try.underlying3 (hval 1 3 v1 rfl rfl) h1
  obtain ⟨a2, rfl, rfl, rfl, w2⟩ := open_int Try.underlying3 (hval 2 3 v2 rfl rfl) h2
  clear hA0 hval0 hsz0
  simp only [List.append_nil] at hW'
  refine (walk a0 a1 a2 W).mono fun e W' ⟨he, hg⟩ => ?_
  subst he
  exact ⟨_, rfl, YtekgdlpicgibhaaClose.post_true laidOut (by rfl) Try.underlying4 rfl (by kernel_rfl) hW' rfl hg⟩

theorem proved : Rows.QueueSharesSaid :=
  OpenClaim.holds_of_wide 6 Try.f6 rfl rfl rfl rfl rfl rfl rfl ⟨rfl, rfl, rfl, rfl, rfl⟩ rfl rfl rfl rfl rfl (by kernel_rfl) Try.func6 (by kernel_rfl)
    (of_decide_eq_true (by kernel_rfl)) (by unfold Func.isWrapper; first | (rw [if_pos (by decide +kernel)]; kernel_rfl) | (rw [if_neg (by decide +kernel)]; exact ⟨rfl, rfl⟩))
    (fun os started H enc _ => lifted os started H enc)

end Go.Proofs.Ytekgdlpicgibhaa.Shares
