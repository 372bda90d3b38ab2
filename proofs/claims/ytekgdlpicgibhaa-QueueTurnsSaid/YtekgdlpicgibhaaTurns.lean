/-
  Proved: QueueTurns: for every two numbers and every script the law answers true: what waits comes in its client's order, within its number of Pops. No condition.
-/
import Derived.Test.YtekgdlpicgibhaaRows
import Derived.Test.YtekgdlpicgibhaaQ6
import Derived.Test.YtekgdlpicgibhaaTurnsW
import Derived.Test.YtekgdlpicgibhaaClose
import Derived.Test.YtekgdlpicgibhaaRead
import Derived.ProofKit
import Derived.OpenShut
import Derived.SizedLaws
import Derived.BigQuiet
import Derived.Outline
namespace Go.Proofs.Ytekgdlpicgibhaa.Turns
open Go.ChangeShapes Go.WideShapes Go.ChangeAt Go.RowKit Go.Proofs.YtekgdlpicgibhaaW.PrintWords Go.Proofs.YtekgdlpicgibhaaRead Go.Proofs.Ytekgdlpicgibhaa.QQ Go.Proofs.Ytekgdlpicgibhaa.QI

theorem num_take (W : List It) (c : Nat) {i : Nat} {y : It} (hy : W[i]? = some y) : num (W.take (i + 1)) c = if y.c = c then num (W.take i) c + 1 else num (W.take i) c := by
  have e : W.take (i + 1) = W.take i ++ [y] := by
    rw [List.take_add_one, hy]; rfl
  rw [e]
  unfold num
  rw [List.filter_append, List.length_append]
  split
  · next h => simp [h]
  · next h => simp [h]
theorem wrote_all {w0 w w' : World} {qb : Nat} {q : QM Int} {v v1 : Value} {W W1 : List It} (h : TSt w0 w qb q v W) (hg : w.grownBy w' v.ownBlock) (hat : v1.ownBlock = v.ownBlock ∨ ∃ b, v1.ownBlock = some b ∧ w.heap.size ≤ b) (hR : RI w' w0.heap.size v1 W1) : TSt w0 w' qb q v1 W1 := h.wrote hg hat hR
theorem push_item {W : List It} {m n c : Nat} {v : Int} (h : m = num W c) : W ++ [⟨c, v, ((m : Int) + 1) * n⟩] = W ++ [⟨c, v, ((num W c + 1) * n : Nat)⟩] := by
  rw [h]; push_cast; rfl
/-- Midway through the list, behind a Pop: what is laid anew. -/
def Lp (d : Nat) (v : Int) (W : List It) (w3 ws : World) (r : Value) (i : Nat) (f : Bool) (R : List It) : Prop :=
  Below w3.heap.size w3 ws ∧ RI ws w3.heap.size r R ∧ R.length ≤ i ∧ Okk d v f (W.drop i) ∧ R ++ out d f (W.drop i) = out d false W ∧ (f = true ∨ ∃ y, y ∈ W.drop i ∧ y.c = d)
theorem lp_cell {d : Nat} {v : Int} {W : List It} {w3 ws : World} {r : Value} {i : Nat} {f : Bool} {R : List It} (h : Lp d v W w3 ws r i f R) {b : Nat} {A : Option Addr} {n c : Nat} (hr : RI w3 b (.slice A n c) W) {y : It} (hy : W[i]? = some y) :
    ∃ g, A = some ⟨g, 0, none⟩ ∧ g < w3.heap.size ∧ ws.cell? ⟨g, i * 3, none⟩ = some (.int .i64 (y.c : Int)) ∧ ws.cell? ⟨g, i * 3 + 1, none⟩ = some (.int .i64 y.v) ∧ ws.cell? ⟨g, i * 3 + 2, none⟩ = some (.int .i64 y.left) := by
  obtain ⟨ad, hA, z0, z1, z2⟩ := (hr.below h.1).cell i y hy
  subst hA
  obtain ⟨g, rfl⟩ := Kd.R_head hr
  have hlt : g < w3.heap.size := hr.lt g rfl
  have e : ∀ n, Addr.add ⟨g, 0, none⟩ n = ⟨g, n, none⟩ := by
    intro n
    unfold Addr.add
    split
    · next h => rw [h]
    · simp
  rw [e] at z0 z1 z2
  exact ⟨g, rfl, hlt, z0, z1, z2⟩
theorem drop_at {W : List It} {i : Nat} {y : It} (hy : W[i]? = some y) : W.drop i = y :: W.drop (i + 1) := by
  obtain ⟨h, rfl⟩ := List.getElem?_eq_some_iff.1 hy
  exact List.drop_eq_getElem_cons h
theorem lp_ok_true {d : Nat} {v : Int} {W : List It} {w3 ws : World} {r : Value} {i : Nat} {R : List It} (h : Lp d v W w3 ws r i true R) {y : It} (hy : W[i]? = some y) : 0 < y.left - 1 := by
  have := h.2.2.2.1
  rw [drop_at hy] at this
  exact this.1
theorem lp_ok_found {d : Nat} {v : Int} {W : List It} {w3 ws : World} {r : Value} {i : Nat} {R : List It} (h : Lp d v W w3 ws r i false R) {y : It} (hy : W[i]? = some y) (hc : y.c = d) : y.v = v := by
  have := h.2.2.2.1
  rw [drop_at hy, Okk, if_pos hc] at this
  exact this.1
theorem lp_ok_other {d : Nat} {v : Int} {W : List It} {w3 ws : World} {r : Value} {i : Nat} {R : List It} (h : Lp d v W w3 ws r i false R) {y : It} (hy : W[i]? = some y) (hc : ¬ y.c = d) : 0 < y.left - 1 := by
  have := h.2.2.2.1
  rw [drop_at hy, Okk, if_neg hc] at this
  exact this.1
theorem lp_found {d : Nat} {v : Int} {W : List It} {w3 ws ws' : World} {r : Value} {i : Nat} {R : List It} (h : Lp d v W w3 ws r i false R) {y : It} (hy : W[i]? = some y) (hc : y.c = d) (hb : Below ws.heap.size ws ws') : Lp d v W w3 ws' r (i + 1) true R := by
  obtain ⟨h1, h2, h3, h4, h5, h6⟩ := h
  rw [drop_at hy] at h4 h5
  rw [Okk, if_pos hc] at h4
  rw [out, if_pos hc] at h5
  exact ⟨h1.trans (hb.mono h1.size), h2.below hb, by omega, h4.2, h5, .inl rfl⟩
theorem lp_kept {d : Nat} {v : Int} {W : List It} {w3 ws w4 w5 : World} {r r' : Value} {i : Nat} {f : Bool} {R : List It} (h : Lp d v W w3 ws r i f R) {y : It} (hy : W[i]? = some y) (hc : f = true ∨ ¬ y.c = d) (hb : Below ws.heap.size ws w4)
    (hR : RI w5 w3.heap.size r' (R ++ [dec y])) (hg : w4.grownBy w5 r.ownBlock) : Lp d v W w3 w5 r' (i + 1) f (R ++ [dec y]) := by
  obtain ⟨h1, h2, h3, h4, h5, h6⟩ := h
  have hb3 : Below w3.heap.size w3 w5 := (h1.trans (hb.mono h1.size)).grown hg (Nat.le_trans h1.size hb.size) (fun k hk => Kd.R_base h2 k hk)
  rw [drop_at hy] at h4 h5 h6
  cases f with
  | true => exact ⟨hb3, hR, by simp; omega, h4.2, by rw [List.append_assoc]; exact h5, .inl rfl⟩
  | false =>
    have hc' : ¬ y.c = d := hc.elim (fun h => by cases h) id
    rw [Okk, if_neg hc'] at h4
    rw [out, if_neg hc'] at h5
    refine ⟨hb3, hR, by simp; omega, h4.2, by rw [List.append_assoc]; exact h5, .inr ?_⟩
    rcases h6 with h6 | ⟨z, hz, hzd⟩
    · cases h6
    · rcases List.mem_cons.1 hz with rfl | hz
      · exact absurd hzd hc'
      · exact ⟨z, hz, hzd⟩
theorem left_pos {n nx : Nat} {cnt : Nat → Nat} {W : List It} (h : LeftOk n nx cnt W) (y : It) (hy : y ∈ W) : 0 < y.left := by
  induction W generalizing cnt with
  | nil => cases hy
  | cons x xs ih =>
    obtain ⟨h1, h2⟩ := h
    rcases List.mem_cons.1 hy with rfl | hy
    · omega
    · exact ih h2 hy
theorem lp_end {d : Nat} {v : Int} {W : List It} {w3 ws : World} {r : Value} {f : Bool} {R : List It} (h : Lp d v W w3 ws r W.length f R) : f = true ∧ R = out d false W := by
  obtain ⟨_, _, _, _, h5, h6⟩ := h
  rw [List.drop_length] at h5 h6
  refine ⟨h6.elim id (fun ⟨y, hy, _⟩ => by cases hy), ?_⟩
  rw [← h5]
  cases f <;> simp [out]
variable {w : World}
set_option maxRecDepth 100000 in
set_option maxHeartbeats 4000000 in
theorem walk (c0 p0 : Int) (A : Option Addr) (len cap : Nat) (zs : List Int) (hr : ReadsOf (Value.int .i64) 0 w A len zs) (hl : len * 8 ≤ 140737488351232) :
    Calls Try.prog 5 #[.int .i64 c0, .int .i64 p0, .slice A len cap] w fun e w' => e = .returned (.bool true) ∧ Below w.heap.size w w' := by
  have hcell : ∀ k, k < len → ∃ ad, A = some ad ∧ ad.block < w.heap.size ∧ w.cell? (ad.add k) = some (.int .i64 (zs.getD k 0)) := by
    intro k hk
    obtain ⟨ad, e, hc⟩ := hr.2.2 (by omega)
    refine ⟨ad, e, ?_, hc k hk⟩
    have := World.block_lt_of_cell? w _ (hc 0 (by omega))
    simpa [Addr.add] using this
  have HC := Lib.hid hcell
  clear hcell hr
  go_enter Try.func5, Try.ntmps5
  go_wp2_with fail
  refine (known _).mono ?_
  rintro e w1 ⟨rfl, hb⟩
  go_wp2_with fail
  refine (bound_nat _ _ _ (by decide) (by decide)).mono ?_
  rintro e w' ⟨n, n1, n2, rfl, rfl⟩
  go_wp2_with fail
  refine (bound_nat _ _ _ (by decide) (by decide)).mono ?_
  rintro e w' ⟨p, p1, p2, rfl, rfl⟩
  go_wp2_with fail
  refine (new_st hb _ _ (by omega) (by omega) (by omega) (by omega)).mono ?_
  rintro e w2 ⟨qb, rfl, h⟩
  have hn0 : ¬ n = 0 := by omega
  have H0 : Hid (∃ q, TSt w w2 qb q (.slice none 0 0) [] ∧ Inv n [] q ∧ q.places = p) := ⟨_, TSt.of_st h, by simpa using inv_start n p, by simp [QM.empty]⟩
  clear h hb
  go_wp2
  go_loopw [9, 10] (fun v i wr => ∃ k : Nat, ∃ q W, k ≤ len ∧ k ≤ 2000 ∧ i = .int .i64 k ∧ TSt w wr qb q v W ∧ Inv n W q ∧ q.places = p) (fun _ i _ => len - (intOf i).toNat)
  case atStart =>
    obtain ⟨q, h1, h2, h3⟩ := H0.out
    exact ⟨0, q, [], Nat.zero_le _, by decide, rfl, h1, h2, h3⟩
  case round =>
    obtain ⟨k, q, W, hk, hk1, rfl, hs, hi, hp⟩ := hrel
    obtain ⟨Aw, cw, rfl⟩ := hs.shape
    have HS := Lib.hid hs
    have HI := Lib.hid hi
    have HP := Lib.hid hp
    clear hs hi hp H0
    by_cases hlt : k < len ∧ k < 2000
    · obtain ⟨h1, h2⟩ := hlt
      obtain ⟨ad, rfl, had, hc⟩ := HC.out k h1
      obtain ⟨x, hx⟩ : ∃ x, zs.getD k 0 = x := ⟨_, rfl⟩
      have hbel := HS.out.below
      have hcr : wr.cell? (ad.add k) = some (.int .i64 x) := by rw [← hx]; exact (hbel.cell (p := ad.add k) (by rw [add_block]; exact had)).trans hc
      have d2 : decide ((k : Int) < 2000) = true := decide_eq_true (by omega)
      have HQW : Hid q.Wf := HS.out.wf
      have hWl : W.length ≤ 4096 := by have := HI.out.tot; have := QM.total_le HS.out.wf; omega
      clear hc hx hbel
      by_cases hx0 : 0 ≤ x
      · obtain ⟨c, hcx⟩ : ∃ c : Nat, x % (n : Int) = (c : Int) := ⟨(x % (n : Int)).toNat, by have := Int.emod_nonneg x (show (n : Int) ≠ 0 by omega); omega⟩
        have hcn : c < n := by have := Int.emod_lt_of_pos x (show 0 < (n : Int) by omega); omega
        have HC1 : Hid (x % (n : Int) = (c : Int)) := hcx
        have hxm : x.tmod (n : Int) = (c : Int) := by rw [← hcx]; exact Int.tmod_eq_emod_of_nonneg hx0
        clear hcx
        go_wp2
        go_loopw [12, 13] (fun a j ws => ∃ i m : Nat, i ≤ W.length ∧ m ≤ i ∧ m = num (W.take i) c ∧ a = .int .i64 m ∧ j = .int .i64 i ∧ TSt w ws qb q (.slice Aw W.length cw) W) (fun _ j _ => W.length - (intOf j).toNat)
        case atStart => exact ⟨0, 0, Nat.zero_le _, Nat.le_refl _, by simp [num], rfl, rfl, HS.out⟩
        case round =>
          obtain ⟨i, m, hi, hmi, hm, rfl, rfl, hs⟩ := hrel
          by_cases hil : i < W.length
          · obtain ⟨y, hy⟩ : ∃ y, W[i]? = some y := ⟨_, List.getElem?_eq_getElem hil⟩
            obtain ⟨ad2, hA, z0, z1, z2⟩ := hs.row.cell i y hy
            subst hA
            have hnx := num_take W c hy
            have HS2 := Lib.hid hs
            have HM := Lib.hid hm
            have HNX := Lib.hid hnx
            clear hs hm hnx z1 z2
            by_cases hyc : y.c = c
            · have HYC := Lib.hid hyc
              have t1 : ((y.c : Int) == (c : Int)) = true := beq_iff_eq.2 (by omega)
              clear hyc
              go_wp2
              go_roundw
              case rel => exact ⟨i + 1, m + 1, hil, by omega, by rw [HNX.out, if_pos HYC.out, HM.out], by go_num, by go_num, HS2.out⟩
              case measure => simp [intOf]; omega
            · have HYC := Lib.hid hyc
              have t1 : ((y.c : Int) == (c : Int)) = false := beq_eq_false_iff_ne.2 (by omega)
              clear hyc
              go_wp2
              go_roundw
              case rel => exact ⟨i + 1, m, hil, by omega, by rw [HNX.out, if_neg HYC.out, HM.out], by go_num, by go_num, HS2.out⟩
              case measure => simp [intOf]; omega
          · obtain rfl : i = W.length := by omega
            rw [List.take_length] at hm
            have HS2 := Lib.hid hs
            clear hs HS
            rcases push_case HI.out HP.out hcn (100 + (k : Int)) with ⟨hlt, hpu⟩ | ⟨hge, r, hr0, hpu⟩
            · have HM := Lib.hid hm
              have HPU := Lib.hid hpu
              have t1 : decide (m < p) = true := decide_eq_true (by omega)
              clear hpu hlt hm
              go_wp2_with fail
              refine (HS2.out.push _ _ HPU.out).mono ?_
              rintro e w3 ⟨rfl, h3⟩
              have H3 := Lib.hid h3
              clear h3 HS2
              go_wp2_with fail
              refine (QI.num _ _).mono ?_
              rintro e w' ⟨rfl, rfl⟩
              go_wp2_with fail
              refine (QI.num _ _).mono ?_
              rintro e w' ⟨rfl, rfl⟩
              have hown : Hid (∃ B, w.heap.size = B ∧ B ≤ w3.heap.size) := ⟨_, rfl, H3.out.below.size⟩
              have hmn : (((m : Int) + 1) * (n : Int)) ≤ 4097 * 64 := by
                have a : ((m : Int) + 1) ≤ 4097 := by omega
                exact Int.le_trans (Int.mul_le_mul_of_nonneg_right a (by omega)) (Int.mul_le_mul_of_nonneg_left n2 (by decide))
              have hmn0 : 0 ≤ (((m : Int) + 1) * (n : Int)) := Int.mul_nonneg (by omega) (by omega)
              have HN2 := Lib.hid hmn
              have HN3 := Lib.hid hmn0
              go_upto_region 23 with fail
              go_wp2_with (first | (at_builtin; go_loud (refine Kd.R_append kI (w0 := w3) w.heap.size rfl (.tmp 88) (.tmp 97) 41 43 (.agg #[.int .i64 0, .int .i64 0, .int .i64 0]) 24 rfl Try.underlying41 info43 rfl (by decide) (by decide) (.slice Aw W.length cw) W ⟨c, 100 + (k : Int), ((m : Int) + 1) * n⟩ (cellsI ⟨c, 100 + (k : Int), ((m : Int) + 1) * n⟩) (fun _ => True) (fun _ => False) rfl rfl (kI_mkM _ _ _ _) (fun _ hk => hk.elim) (fun _ _ => trivial) H3.out.row (Below.refl _ _) H3.out.below.size (by omega) ?_); intro v1 w4 hR1 hb1 hg1 hat1; have HW := Lib.hid (wrote_all H3.out hg1 hat1 hR1); clear hR1 hb1 hg1 hat1; obtain ⟨A4, c4, e4⟩ := HW.out.shape; subst e4))
              go_roundw
              case rel => exact ⟨k + 1, q.pushed c (100 + (k : Int)), W ++ [⟨c, 100 + (k : Int), ((m : Int) + 1) * n⟩], h1, by omega, by go_num, by have := HW.out; simp only [List.length_append, List.length_singleton] at this; exact this, by rw [push_item HM.out]; exact inv_push HQW.out HI.out hcn (by rw [HP.out, ← HM.out]; exact of_decide_eq_true t1), HP.out⟩
              case measure => simp [intOf]; omega
            · have HM := Lib.hid hm
              have HPU := Lib.hid hpu
              have t1 : decide (m < p) = false := decide_eq_false (by omega)
              have t2 : (r == 0) = false := beq_eq_false_iff_ne.2 hr0
              clear hpu hge hm
              go_wp2_with fail
              refine (HS2.out.push _ _ HPU.out).mono ?_
              rintro e w3 ⟨rfl, h3⟩
              have H3 := Lib.hid h3
              clear h3 HS2
              go_wp2_with fail
              refine (QI.num _ _).mono ?_
              rintro e w' ⟨rfl, rfl⟩
              go_wp2_with fail
              refine (QI.num _ _).mono ?_
              rintro e w' ⟨rfl, rfl⟩
              go_wp2_with fail
              go_roundw
              case rel => exact ⟨k + 1, q, W, h1, by omega, by go_num, H3.out, HI.out, HP.out⟩
              case measure => simp [intOf]; omega
      · have hwf : q.Wf := HS.out.wf
        by_cases hW : W = []
        · subst hW
          have hpop : Hid (Calls Try.prog 18 #[.pointer (some ⟨qb, 0, none⟩)] wr fun e w' => e = .returned (.tuple #[.int .i64 0, .int .i64 0, .bool false]) ∧ TSt w w' qb q (.slice Aw ([] : List It).length cw) []) := HS.out.pop (inv_none hwf HI.out)
          clear hwf
          go_wp2_with fail
          refine hpop.out.mono ?_
          rintro e w3 ⟨rfl, h3⟩
          have H3 := Lib.hid h3
          clear h3 hpop HS
          go_wp2
          go_loopw [18, 19, 20] (fun r f j ws => r = .slice none 0 0 ∧ f = .bool false ∧ j = .int .i64 0 ∧ TSt w ws qb q (.slice Aw 0 cw) []) (fun _ _ _ _ => 0)
          case atStart => exact ⟨rfl, rfl, rfl, H3.out⟩
          case round =>
            obtain ⟨rfl, rfl, rfl, h4⟩ := hrel
            have H4 := Lib.hid h4
            clear h4
            go_wp2
            go_roundw
            case rel => exact ⟨k + 1, q, [], h1, by omega, by go_num, H4.out, HI.out, HP.out⟩
            case measure => simp [intOf]; omega
        · have hWp : 0 < W.length := List.length_pos_iff.2 hW
          obtain ⟨d, v, hd, hpq, hok, hinv, hex⟩ := inv_pop hwf HI.out hW
          have hpop : Hid (Calls Try.prog 18 #[.pointer (some ⟨qb, 0, none⟩)] wr fun e w' => e = .returned (.tuple #[.int .i64 (d : Int), .int .i64 v, .bool true]) ∧ TSt w w' qb (q.popped d) (.slice Aw W.length cw) W) := HS.out.pop hpq
          have HK := Lib.hid hok
          have HI2 := Lib.hid hinv
          have HE := Lib.hid hex
          have t1 : decide (0 < W.length) = true := decide_eq_true hWp
          clear hwf hpq hok hinv hex
          go_wp2_with fail
          refine hpop.out.mono ?_
          rintro e w3 ⟨rfl, h3⟩
          have H3 := Lib.hid h3
          clear h3 hpop HS
          go_wp2
          go_loopw [18, 19, 20] (fun r f j ws => ∃ i : Nat, ∃ fb R, i ≤ W.length ∧ j = .int .i64 i ∧ f = .bool fb ∧ Lp d v W w3 ws r i fb R) (fun _ _ j _ => W.length - (intOf j).toNat)
          case atStart => exact ⟨0, false, [], Nat.zero_le _, rfl, rfl, Below.refl _ _, RI.nil _ _, Nat.le_refl _, by rw [List.drop_zero]; exact HK.out, by simp, by rw [List.drop_zero]; exact .inr HE.out⟩
          case round =>
            obtain ⟨i, fb, R, hi, rfl, rfl, hL⟩ := hrel
            obtain ⟨Ar, cr, rfl⟩ := hL.2.1.shape
            have HL := Lib.hid hL
            clear hL
            by_cases hil : i < W.length
            · obtain ⟨y, hy⟩ : ∃ y, W[i]? = some y := ⟨_, List.getElem?_eq_getElem hil⟩
              obtain ⟨g, hA, hg, z0, z1, z2⟩ := lp_cell HL.out H3.out.row hy
              subst hA
              have hleft : y.left ≤ 4224 := HI.out.small y (List.mem_of_getElem? hy)
              have hleft0 : 0 ≤ y.left := by have := left_pos HI.out.left y (List.mem_of_getElem? hy); omega
              have HY := Lib.hid hy
              clear hy
              cases fb with
              | true =>
                have hok : 0 < y.left - 1 := lp_ok_true HL.out HY.out
                go_wp2_with (first | (at_builtin; go_loud (refine Kd.R_append kI (w0 := wr) w3.heap.size rfl (.tmp 139) (.tmp 141) 41 43 (.agg #[.int .i64 0, .int .i64 0, .int .i64 0]) 24 rfl Try.underlying41 info43 rfl (by decide) (by decide) (.slice Ar R.length cr) R (dec y) (cellsI (dec y)) (fun _ => True) (fun _ => False) rfl (by show Value.slice (some ⟨wr.heap.size + 1, 0, none⟩) 1 1 = _; simp) (kI_mkM _ _ _ _) (fun _ hk => hk.elim) (fun _ _ => trivial) (Kd.R_alloc HL.out.2.1 _) ((below_alloc (Below.refl wr.heap.size wr) _).mono HL.out.1.size) (by have := HL.out.1.size; simp; omega) (by have := HL.out.2.2.1; omega) ?_); intro v1 w4 hR1 hb1 hg1 hat1; have HW := Lib.hid (lp_kept HL.out HY.out (.inl rfl) (below_alloc (Below.refl _ _) _) hR1 hg1); clear hR1 hb1 hg1 hat1; obtain ⟨A4, c4, e4⟩ := HW.out.2.1.shape; subst e4))
                go_roundw
                case rel => exact ⟨i + 1, true, R ++ [dec y], hil, by go_num, rfl, by have := HW.out; simp only [List.length_append, List.length_singleton] at this; exact this⟩
                case measure => simp [intOf]; omega
              | false =>
                by_cases hyc : y.c = d
                · have hv : y.v = v := lp_ok_found HL.out HY.out hyc
                  have t2 : ((y.c : Int) == (d : Int)) = true := beq_iff_eq.2 (by omega)
                  have t3 : (y.v == v) = true := beq_iff_eq.2 hv
                  have HYC := Lib.hid hyc
                  clear hyc hv
                  go_wp2
                  go_roundw
                  case rel => exact ⟨i + 1, true, R, hil, by go_num, rfl, lp_found HL.out HY.out HYC.out (below_alloc (Below.refl _ _) _)⟩
                  case measure => simp [intOf]; omega
                · have hok : 0 < y.left - 1 := lp_ok_other HL.out HY.out hyc
                  have t2 : ((y.c : Int) == (d : Int)) = false := beq_eq_false_iff_ne.2 (by omega)
                  have HYC := Lib.hid hyc
                  clear hyc
                  go_wp2_with (first | (at_builtin; go_loud (refine Kd.R_append kI (w0 := wr) w3.heap.size rfl (.tmp 139) (.tmp 141) 41 43 (.agg #[.int .i64 0, .int .i64 0, .int .i64 0]) 24 rfl Try.underlying41 info43 rfl (by decide) (by decide) (.slice Ar R.length cr) R (dec y) (cellsI (dec y)) (fun _ => True) (fun _ => False) rfl (by show Value.slice (some ⟨wr.heap.size + 1, 0, none⟩) 1 1 = _; simp) (kI_mkM _ _ _ _) (fun _ hk => hk.elim) (fun _ _ => trivial) (Kd.R_alloc HL.out.2.1 _) ((below_alloc (Below.refl wr.heap.size wr) _).mono HL.out.1.size) (by have := HL.out.1.size; simp; omega) (by have := HL.out.2.2.1; omega) ?_); intro v1 w4 hR1 hb1 hg1 hat1; have HW := Lib.hid (lp_kept HL.out HY.out (.inr HYC.out) (below_alloc (Below.refl _ _) _) hR1 hg1); clear hR1 hb1 hg1 hat1; obtain ⟨A4, c4, e4⟩ := HW.out.2.1.shape; subst e4))
                  go_roundw
                  case rel => exact ⟨i + 1, false, R ++ [dec y], hil, by go_num, rfl, by have := HW.out; simp only [List.length_append, List.length_singleton] at this; exact this⟩
                  case measure => simp [intOf]; omega
            · obtain rfl : i = W.length := by omega
              obtain ⟨hfb, hR⟩ := lp_end HL.out
              subst hfb
              go_wp2
              go_roundw
              case rel => exact ⟨k + 1, q.popped d, R, h1, by omega, by go_num, H3.out.swap HL.out.1 HL.out.2.1, by rw [hR]; exact HI2.out, HP.out⟩
              case measure => simp [intOf]; omega
    · have hend : (len : Int) ≤ (k : Int) ∨ ((k : Int) < (len : Int) ∧ ¬ ((k : Int) < 2000)) := by omega
      clear hlt
      rcases hend with he | ⟨he1, he2⟩
      all_goals
        go_wp2_with fail
        refine HS.out.total.mono ?_
        rintro e w' ⟨rfl, rfl⟩
        rw [HI.out.tot]
        go_wp2
        go_ret
        exact ⟨rfl, HS.out.below⟩

theorem own : ownKnob Try.prog.godebug = none := by kernel_rfl
theorem laidOut : laidOutB Try.prog = true := by kernel_rfl
theorem cells3 : Try.prog.cellsOf 3 = 1 := by kernel_rfl
theorem bytes3 : Try.prog.bytesOf 3 = 8 := by kernel_rfl
set_option maxRecDepth 100000 in
theorem lifted (os : Os) (started : os.Started) (H : Type) (enc : TypeId × Value → H) :
    ReturnsInHanded {} Try.checked os 5 .any (Rows.queueTurnsSpec.pre6 enc Try.prog Try.f5 Rows.queueTurnsRow.domain false) (Rows.queueTurnsSpec.post enc Try.prog Try.f5 false true false false) := by
  refine returnsInHanded_of_change_sized (C := Try.checked) own started (by kernel_rfl) Try.func5
    (ChangeSpec.witness6 (enc := enc) (C := Try.checked) false ⟨#[], #[.int .i64 0, .int .i64 0, .slice none 0 0], []⟩ 8 (by kernel_rfl) (by kernel_rfl) (by kernel_rfl) (by kernel_rfl)) ?_
  intro W base args ds gs before hval0 hW hcnd hsz0 _
  have hval : ∀ (j : Nat) t v, Try.f5.params[j]? = some t → args[j]? = some v → Value.okWide Try.prog W .any base t v := hval0
  have hsz : (DataW.weightsEach Try.prog (Try.f5.params.toList ++ Rows.queueTurnsSpec.plain.varTypes Try.prog) (ds ++ gs)).all (· ≤ reachBytes) = true := hsz0
  have hW' := hW
  obtain ⟨p, q, hA0, hV, rfl, hfz, hnd⟩ := hW
  have hA : DataW.TrodAll enc Try.prog W 0 (fun _ => true) true Try.f5.params.toList args.toList ds p := hA0
  rw [Try.params5] at hA hval hsz
  obtain ⟨v0, vs0, d0, ds0, p0, q0, hargs, rfl, rfl, h0, r0⟩ := trodAll_cons hA
  obtain ⟨v1, vs1, d1, ds1, p1, q1, rfl, rfl, rfl, h1, r1⟩ := trodAll_cons r0
  obtain ⟨v2, vs2, d2, ds2, p2, q2, rfl, rfl, rfl, h2, r2⟩ := trodAll_cons r1
  obtain ⟨rfl, rfl, rfl⟩ := trodAll_nil r2
  obtain rfl : args = #[v0, v1, v2] := by cases args; simp_all
  obtain ⟨rfl, rfl⟩ := trodVars_none hV
  obtain ⟨a0, rfl, rfl, rfl, w0⟩ := open_int Try.underlying3 (hval 0 3 v0 rfl rfl) h0
  obtain ⟨a1, rfl, rfl, rfl, w1⟩ := open_int Try.underlying3 (hval 1 3 v1 rfl rfl) h1
  obtain ⟨A2, len2, cap2, rfl⟩ := okWide_slice Try.underlying40 (hval 2 40 v2 rfl rfl)
  obtain ⟨xs2, hr2, hwf2, hl2⟩ := read_ints (k := .i64) Try.underlying40 Try.underlying3 cells3 bytes3 hsz (j := 2) rfl rfl h2
  clear hA0 hval0 hsz0
  simp only [List.append_nil] at hW'
  refine (walk (w := W) a0 a1 A2 len2 cap2 xs2 hr2 hl2).mono fun e W' ⟨he, hg⟩ => ?_
  subst he
  exact ⟨_, rfl, YtekgdlpicgibhaaClose.post_true laidOut (by rfl) Try.underlying4 rfl (by kernel_rfl) hW' rfl hg⟩

theorem proved : Rows.QueueTurnsSaid :=
  OpenClaim.holds_of_wide 5 Try.f5 rfl rfl rfl rfl rfl rfl rfl ⟨rfl, rfl, rfl, rfl, rfl⟩ rfl rfl rfl rfl rfl (by kernel_rfl) Try.func5 (by kernel_rfl)
    (of_decide_eq_true (by kernel_rfl)) (by unfold Func.isWrapper; first | (rw [if_pos (by decide +kernel)]; kernel_rfl) | (rw [if_neg (by decide +kernel)]; exact ⟨rfl, rfl⟩))
    (fun os started H enc _ => lifted os started H enc)


end Go.Proofs.Ytekgdlpicgibhaa.Turns
