/-
  Proved: QueueTexts: for every number and every list of texts the law answers true: what was pushed comes, byte for byte. No condition.
-/
import Derived.Test.YtekgdlpicgibhaaRows
import Derived.Test.YtekgdlpicgibhaaS5
import Derived.Test.YtekgdlpicgibhaaQ5
import Derived.Test.YtekgdlpicgibhaaTextsM
import Derived.Test.YtekgdlpicgibhaaClose
import Derived.Test.YtekgdlpicgibhaaRead
import Derived.ProofKit
import Derived.OpenShut
import Derived.SizedLaws
namespace Go.Proofs.Ytekgdlpicgibhaa.Texts
open Go.ChangeShapes Go.WideShapes Go.ChangeAt Go.RowKit Go.Proofs.YtekgdlpicgibhaaW.PrintWords Go.Proofs.YtekgdlpicgibhaaRead Go.Proofs.Ytekgdlpicgibhaa.QQ Go.Proofs.Ytekgdlpicgibhaa.QI

theorem bound_nat (x m : Int) (w : World) (h1 : 1 ≤ m) (h2 : m ≤ 4096) : Calls Try.prog 12 #[.int .i64 x, .int .i64 m] w fun e w' => ∃ n : Nat, 1 ≤ n ∧ (n : Int) ≤ m ∧ e = .returned (.int .i64 (n : Int)) ∧ w = w' := by
  refine (bound_ok x m w h1 h2).mono ?_
  rintro e w' ⟨rfl, rfl⟩
  have a := Int.emod_nonneg x (show m ≠ 0 by omega)
  have b := Int.emod_lt_of_pos x (show 0 < m by omega)
  exact ⟨(1 + x % m).toNat, by omega, by omega, ret_int (by omega), rfl⟩

variable {w : World}
abbrev tx (ss : List ByteArray) (i : Nat) : ByteArray := ss.getD i ByteArray.empty

theorem put_any {w0 w : World} {qb n m : Nat} {ss : List ByteArray} {q : QM ByteArray} (h : QS.St w0 w qb q) (hf : Put (tx ss) n m q) (hn : 0 < n) (hm : m < 64) {x : ByteArray} (hx : x = tx ss m) :
    Calls Try.prog 14 #[.pointer (some ⟨qb, 0, none⟩), .int .i64 ((m : Int) % (n : Int)), .string x] w fun e w' => e = .returned (.int .i64 0) ∧ ∃ q', QS.St w0 w' qb q' ∧ Put (tx ss) n (m + 1) q' := by
  subst hx
  obtain ⟨e1, e2⟩ := put_push hf hn hm
  refine (QS.push_to h _ _ e1).mono ?_
  rintro e w' ⟨rfl, h'⟩
  exact ⟨rfl, _, h', e2⟩
theorem take_any {w0 w : World} {qb n m i : Nat} {ss : List ByteArray} {q : QM ByteArray} (h : QS.St w0 w qb q) (ht : Tk (tx ss) n m i q) (hi : i < m) {x : ByteArray} (hx : x = tx ss i) :
    Calls Try.prog 16 #[.pointer (some ⟨qb, 0, none⟩)] w fun e w' => e = .returned (.tuple #[.int .i64 ((i : Int) % (n : Int)), .string x, .bool true]) ∧ ∃ q', QS.St w0 w' qb q' ∧ Tk (tx ss) n m (i + 1) q' := by
  subst hx
  obtain ⟨e1, e2⟩ := tk_pop h.wf ht hi
  refine (QS.pop_to h e1).mono ?_
  rintro e w' ⟨rfl, h'⟩
  exact ⟨by simp [QS.popValue], _, h', e2⟩
theorem end_any {w0 w : World} {qb n m : Nat} {ss : List ByteArray} {q : QM ByteArray} (h : QS.St w0 w qb q) (ht : Tk (tx ss) n m m q) :
    Calls Try.prog 16 #[.pointer (some ⟨qb, 0, none⟩)] w fun e w' => e = .returned (.tuple #[.int .i64 0, .string ⟨#[]⟩, .bool false]) ∧ QS.St w0 w' qb q := by
  refine (QS.pop_to h (tk_end h.wf ht)).mono ?_
  rintro e w' ⟨rfl, h'⟩
  exact ⟨rfl, h'⟩


theorem add_block (a : Addr) (k : Nat) : (a.add k).block = a.block := by
  unfold Addr.add
  split <;> rfl
theorem walk (c0 : Int) (A : Option Addr) (len cap : Nat) (ss : List ByteArray) (hr : ReadsOf Value.string ByteArray.empty w A len ss) (hl : len * 16 ≤ 140737488351232) :
    Calls Try.prog 3 #[.int .i64 c0, .slice A len cap] w fun e w' => e = .returned (.bool true) ∧ Below w.heap.size w w' := by
  have hcell : ∀ k, k < len → ∃ ad, A = some ad ∧ ad.block < w.heap.size ∧ w.cell? (ad.add k) = some (.string (tx ss k)) := by
    intro k hk
    obtain ⟨ad, e, hc⟩ := hr.2.2 (by omega)
    refine ⟨ad, e, ?_, hc k hk⟩
    have := World.block_lt_of_cell? w _ (hc 0 (by omega))
    simpa [Addr.add] using this
  have HC := Lib.hid hcell
  clear hcell hr
  go_enter Try.func3, Try.ntmps3
  go_wp2_with fail
  refine (known _).mono ?_
  rintro e w1 ⟨rfl, hb⟩
  go_wp2_with fail
  refine (bound_nat _ _ _ (by decide) (by decide)).mono ?_
  rintro e w' ⟨n, n1, n2, rfl, rfl⟩
  go_wp2_with fail
  refine (QS.new_st hb _ _ (by omega) (by omega) (by decide) (by decide)).mono ?_
  rintro e w2 ⟨qb, rfl, h⟩
  have hn0 : ¬ n = 0 := by omega
  have H0 : Hid (∃ q, QS.St w w2 qb q ∧ Put (tx ss) n 0 q) := ⟨_, by simpa using h, put_start (tx ss) n⟩
  clear h hb
  go_wp2
  go_loopw [7, 8] (fun m i wr => ∃ k : Nat, k ≤ len ∧ k ≤ 64 ∧ m = .int .i64 k ∧ i = .int .i64 k ∧ ∃ q, QS.St w wr qb q ∧ Put (tx ss) n k q) (fun _ i _ => len - (intOf i).toNat)
  case atStart => exact ⟨0, Nat.zero_le _, by decide, rfl, rfl, H0.out⟩
  case round =>
    obtain ⟨k, hk, hk64, rfl, rfl, q, hq, hf⟩ := hrel
    have HQ := Lib.hid hq
    have HF := Lib.hid hf
    clear hq hf H0
    by_cases hlt : k < len ∧ k < 64
    · obtain ⟨h1, h2⟩ := hlt
      obtain ⟨ad, rfl, had, hc⟩ := HC.out k h1
      obtain ⟨x, hx⟩ : ∃ x, x = tx ss k := ⟨_, rfl⟩
      have hcr : wr.cell? (ad.add k) = some (.string x) := by rw [hx]; exact (HQ.out.below.cell (p := ad.add k) (by rw [add_block]; exact had)).trans hc
      have HX := Lib.hid hx
      have d1 : ((k : Int)).tmod (n : Int) = (k : Int) % (n : Int) := Int.tmod_eq_emod_of_nonneg (by omega)
      have d2 : decide ((k : Int) < 64) = true := decide_eq_true (by omega)
      clear hc hx
      go_wp2
      go_region_law (go_simp; go_at_call 14; refine (put_any (HQ.out.drew) HF.out (by omega) h2 HX.out).mono ?_; rintro e w3 ⟨rfl, q2, hq2, hf2⟩; have HQ2 := Lib.hid hq2; have HF2 := Lib.hid hf2; clear hq2 hf2)
      all_goals go_wp2_with (go_at_call 15; refine (num _ _).mono ?_; rintro e w' ⟨rfl, rfl⟩)
      all_goals go_roundw
      all_goals first | exact ⟨k + 1, h1, h2, by go_num, by go_num, q2, HQ2.out, HF2.out⟩ | (simp [intOf]; omega)
    · have hend : (len : Int) ≤ (k : Int) ∨ ((k : Int) < (len : Int) ∧ ¬ ((k : Int) < 64)) := by omega
      clear hlt
      have HT : Hid (Tk (tx ss) n k 0 q) := tk_start HF.out
      have HK : ∀ i, i < k → i < len := fun i hi => by omega
      rcases hend with he | ⟨he1, he2⟩
      all_goals
        go_wp2
        go_loopw [10] (fun i ws => ∃ j : Nat, j ≤ k ∧ i = .int .i64 j ∧ ∃ q, QS.St w ws qb q ∧ Tk (tx ss) n k j q) (fun i _ => k - (intOf i).toNat)
        case atStart => exact ⟨0, Nat.zero_le _, rfl, q, HQ.out, HT.out⟩
        case round =>
          obtain ⟨j, hj, rfl, q1, hq1, ht1⟩ := hrel
          have HQ1 := Lib.hid hq1
          have HT1 := Lib.hid ht1
          clear hq1 ht1
          by_cases hjk : j < k
          · obtain ⟨ad, rfl, had, hc⟩ := HC.out j (HK j hjk)
            have hjl := HK j hjk
            obtain ⟨x, hx⟩ : ∃ x, x = tx ss j := ⟨_, rfl⟩
            have hcr : ∀ w3, Below w.heap.size w w3 → w3.cell? (ad.add j) = some (.string x) := fun w3 hb => by rw [hx]; exact (hb.cell (p := ad.add j) (by rw [add_block]; exact had)).trans hc
            have HCR := Lib.hid hcr
            have HX := Lib.hid hx
            have d1 : ((j : Int)).tmod (n : Int) = (j : Int) % (n : Int) := Int.tmod_eq_emod_of_nonneg (by omega)
            clear hc hx hcr
            go_wp2_with (go_at_call 16; refine (take_any HQ1.out HT1.out hjk HX.out).mono ?_; rintro e w3 ⟨rfl, q2, hq2, ht2⟩; have hc3 := HCR.out w3 hq2.below; have HQ2 := Lib.hid hq2; have HT2 := Lib.hid ht2; clear hq2 ht2)
            go_roundw
            case rel => exact ⟨j + 1, hjk, by go_num, q2, HQ2.out, HT2.out⟩
            case measure => simp [intOf]; omega
          · obtain rfl : j = k := by omega
            go_wp2_with (go_at_call 16; refine (end_any HQ1.out HT1.out).mono ?_; rintro e w3 ⟨rfl, hq2⟩; have HQ2 := Lib.hid hq2; clear hq2)
            go_ret
            exact ⟨rfl, HQ2.out.below⟩
theorem own : ownKnob Try.prog.godebug = none := by kernel_rfl
theorem laidOut : laidOutB Try.prog = true := by kernel_rfl
theorem cells9 : Try.prog.cellsOf 9 = 1 := by kernel_rfl
theorem bytes9 : Try.prog.bytesOf 9 = 16 := by kernel_rfl
set_option maxRecDepth 100000 in
theorem lifted (os : Os) (started : os.Started) (H : Type) (enc : TypeId × Value → H) :
    ReturnsInHanded {} Try.checked os 3 .any (Rows.queueTextsSpec.pre6 enc Try.prog Try.f3 Rows.queueTextsRow.domain false) (Rows.queueTextsSpec.post enc Try.prog Try.f3 false true false false) := by
  refine returnsInHanded_of_change_sized (C := Try.checked) own started (by kernel_rfl) Try.func3
    (ChangeSpec.witness6 (enc := enc) (C := Try.checked) false ⟨#[], #[.int .i64 0, .slice none 0 0], []⟩ 8 (by kernel_rfl) (by kernel_rfl) (by kernel_rfl) (by kernel_rfl)) ?_
  intro W base args ds gs before hval0 hW hcnd hsz0 _
  have hval : ∀ (j : Nat) t v, Try.f3.params[j]? = some t → args[j]? = some v → Value.okWide Try.prog W .any base t v := hval0
  have hsz : (DataW.weightsEach Try.prog (Try.f3.params.toList ++ Rows.queueTextsSpec.plain.varTypes Try.prog) (ds ++ gs)).all (· ≤ reachBytes) = true := hsz0
  have hW' := hW
  obtain ⟨p, q, hA0, hV, rfl, hfz, hnd⟩ := hW
  have hA : DataW.TrodAll enc Try.prog W 0 (fun _ => true) true Try.f3.params.toList args.toList ds p := hA0
  rw [Try.params3] at hA hval hsz
  obtain ⟨v0, vs0, d0, ds0, p0, q0, hargs, rfl, rfl, h0, r0⟩ := trodAll_cons hA
  obtain ⟨v1, vs1, d1, ds1, p1, q1, rfl, rfl, rfl, h1, r1⟩ := trodAll_cons r0
  obtain ⟨rfl, rfl, rfl⟩ := trodAll_nil r1
  obtain rfl : args = #[v0, v1] := by cases args; simp_all
  obtain ⟨rfl, rfl⟩ := trodVars_none hV
  obtain ⟨a0, rfl, rfl, rfl, w0⟩ := open_int Try.underlying3 (hval 0 3 v0 rfl rfl) h0
  obtain ⟨A1, len1, cap1, rfl⟩ := okWide_slice Try.underlying22 (hval 1 22 v1 rfl rfl)
  obtain ⟨xs1, hr1, hl1⟩ := read_strs Try.underlying22 Try.underlying9 cells9 bytes9 hsz (j := 1) rfl rfl h1
  clear hA0 hval0 hsz0
  simp only [List.append_nil] at hW'
  refine (walk (w := W) a0 A1 len1 cap1 xs1 hr1 hl1).mono fun e W' ⟨he, hg⟩ => ?_
  subst he
  exact ⟨_, rfl, YtekgdlpicgibhaaClose.post_true laidOut (by rfl) Try.underlying4 rfl (by kernel_rfl) hW' rfl hg⟩

theorem proved : Rows.QueueTextsSaid :=
  OpenClaim.holds_of_wide 3 Try.f3 rfl rfl rfl rfl rfl rfl rfl ⟨rfl, rfl, rfl, rfl, rfl⟩ rfl rfl rfl rfl rfl (by kernel_rfl) Try.func3 (by kernel_rfl)
    (of_decide_eq_true (by kernel_rfl)) (by unfold Func.isWrapper; first | (rw [if_pos (by decide +kernel)]; kernel_rfl) | (rw [if_neg (by decide +kernel)]; exact ⟨rfl, rfl⟩))
    (fun os started H enc _ => lifted os started H enc)

end Go.Proofs.Ytekgdlpicgibhaa.Texts
