/-
  slices.Clone, Each, Len, SameInts by their walks; a law's queue beside lists that it has handed out.
-/
import Derived.Test.YtekgdlpicgibhaaQ5
import Derived.WalkSpells
namespace Go.Proofs.Ytekgdlpicgibhaa.QI
open Go.RowKit Go.Proofs.YtekgdlpicgibhaaW.PrintWords Go.Proofs.Ytekgdlpicgibhaa.QQ

/-- A copy in new memory. -/
def Copied (w : World) (xs : List Int) (e : Ending) (w' : World) : Prop := ∃ v, e = .returned v ∧ K.R 3 w' w.heap.size (fun _ => True) v xs ∧ Below w.heap.size w w'

theorem clone_any {w : World} {base : Nat} {v : Value} {xs : List Int} (hR : K.R 3 w base (fun _ => True) v xs) (hl : xs.length ≤ 1099511627776) : Calls Try.prog 42 #[v] w (Copied w xs) := by
  obtain ⟨A, cap, rfl, hlc, hC⟩ := Kd.R_reads hR
  have heq := Lib.run_eql_slice_nil (P := Try.prog) (t := 40) (e := 3)
  cases A with
  | none =>
    have hx : xs.length = 0 := by
      rcases Nat.eq_zero_or_pos xs.length with h | h
      · exact h
      · obtain ⟨ad, e, _⟩ := hC.2.2 h
        cases e
    obtain rfl : xs = [] := List.eq_nil_of_length_eq_zero hx
    have e1 : ∀ W, (binOp .eql 40 (.slice none 0 cap) (.slice none 0 0)).run Try.prog W = .ok (.bool true) W := fun W => Lib.run_eql_slice_nil W 40 3 none 0 cap 0 0 Try.underlying40
    clear heq hR hC
    go_enter Try.func42, Try.ntmps42
    go_wp2
    go_ret
    exact ⟨_, rfl, Kd.R_nil _ _ _ _ _, Below.refl _ _⟩
  | some ad =>
    have e1 : ∀ W, (binOp .eql 40 (.slice (some ad) xs.length cap) (.slice none 0 0)).run Try.prog W = .ok (.bool false) W := fun W => Lib.run_eql_slice_nil W 40 3 (some ad) xs.length cap 0 0 Try.underlying40
    have hreads : ReadsOf (Value.int .i64) 0 w (some ad) xs.length xs := Kd.reads_of_C hC
    have HRd := Lib.hid hreads
    clear heq hR hC hreads
    obtain ⟨i0, hi, hz0, hz1, hz2⟩ := info_parts info3
    have hown : (w.alloc (.cells #[] 3)).ownsRow w.heap.size 3 1 (.slice (some ⟨w.heap.size, 0, none⟩) 0 0) 0 [] := World.ownsRow_made w #[] 0 (Nat.le_refl _) (Nat.zero_le _) rfl
    have HO := Lib.hid hown
    clear hown
    go_enter Try.func42, Try.ntmps42
    go_wp2_with (at_builtin; refine wpList_append_own _ rfl (.tmp 5) (.tmp 6) 40 rfl w.heap.size 3 i0 (.int .i64 0) 1 8 Try.underlying40 hi hz0 hz1 hz2 rfl (by decide) _ 0 [] rfl HO.out ad xs.length cap (encs (Value.int .i64) xs) rfl (by rw [encs_length]; omega) ?c1 ?c2 (by unfold maxLen; omega) (by omega) (by simp) ?_; rotate_right; intro v1 w1 ho hg _)
    case c1 =>
      intro j u hj
      have hjl : j < xs.length := by have := (List.getElem?_eq_some_iff.1 hj).1; rwa [encs_length] at this
      obtain ⟨ad', he, hc⟩ := HRd.out.2.2 (by omega)
      injection he with he
      subst he
      have := hc j hjl
      have hlt := World.block_lt_of_cell? w _ this
      rw [Below.cell (below_alloc (Below.refl _ w) _) hlt, this]
      simp [encs, List.getElem?_eq_getElem hjl] at hj
      simp [List.getD_eq_getElem?_getD, List.getElem?_eq_getElem hjl, hj]
    case c2 =>
      intro u hu
      simp only [encs, List.mem_map] at hu
      obtain ⟨x, _, rfl⟩ := hu
      rfl
    · have hR1 : K.R 3 w1 w.heap.size (fun _ => True) v1 xs := Kd.R_of_own (by simpa using ho) (fun _ _ => trivial)
      have hb1 : Below w.heap.size w w1 := (below_alloc (Below.refl _ w) _).grown hg (by simp) (fun k hk => by cases hk; exact Nat.le_refl _)
      have HR1 := Lib.hid hR1
      have HB1 := Lib.hid hb1
      clear hR1 hb1 ho hg
      go_wp2
      go_ret
      exact ⟨_, rfl, HR1.out, HB1.out⟩

theorem len_in {w : World} {base qb rb : Nat} {vals : List Value} {q : QM Int} (h : At w base qb rb vals q) (c : Nat) (hc : c < q.rows.length) :
    Calls Try.prog 27 #[.pointer (some ⟨qb, 0, none⟩), .int .i64 (c : Int)] w fun e w' => e = .returned (.int .i64 ((q.row c).length : Int)) ∧ w = w' := by
  obtain ⟨v, xs, hv, hx, hR⟩ := h.val hc
  have hrow : xs = q.row c := by rw [q.row_get hc] at hx; cases hx; rfl
  subst hrow
  obtain ⟨A, cap, rfl, hl, _⟩ := Kd.R_reads hR
  obtain ⟨c0, c1, c2, c3⟩ := h.cell
  have hr := h.rcell hv
  have b0 : (0 : Int) ≤ (c : Int) := by omega
  have b1 : (c : Int) < (q.rows.length : Int) := by omega
  have H := Lib.hid h
  clear h hv hR hx
  go_enter Try.func27, Try.ntmps27
  go_wp2_with (go_at_call 37; refine (has_yes H.out c hc).mono ?_; rintro e w' ⟨rfl, rfl⟩)
  go_ret
  exact ⟨rfl, rfl⟩
theorem len_out {w : World} {base qb rb : Nat} {vals : List Value} {q : QM Int} (h : At w base qb rb vals q) (c : Int) (hc : c < 0 ∨ (0 ≤ c ∧ (q.rows.length : Int) ≤ c)) :
    Calls Try.prog 27 #[.pointer (some ⟨qb, 0, none⟩), .int .i64 c] w fun e w' => e = .returned (.int .i64 0) ∧ w = w' := by
  have H := Lib.hid h
  have HC := Lib.hid hc
  clear h hc
  go_enter Try.func27, Try.ntmps27
  go_wp2_with (go_at_call 37; refine (has_no H.out c HC.out).mono ?_; rintro e w' ⟨rfl, rfl⟩)
  go_ret
  exact ⟨rfl, rfl⟩
theorem each_in {w : World} {base qb rb : Nat} {vals : List Value} {q : QM Int} (h : At w base qb rb vals q) (c : Nat) (hc : c < q.rows.length) (hl : (q.row c).length ≤ 64) :
    Calls Try.prog 25 #[.pointer (some ⟨qb, 0, none⟩), .int .i64 (c : Int)] w (Copied w (q.row c)) := by
  obtain ⟨v, xs, hv, hx, hR⟩ := h.val hc
  have hrow : xs = q.row c := by rw [q.row_get hc] at hx; cases hx; rfl
  subst hrow
  obtain ⟨A, cap, rfl, hlc, _⟩ := Kd.R_reads hR
  obtain ⟨c0, c1, c2, c3⟩ := h.cell
  have hr := h.rcell hv
  have b0 : (0 : Int) ≤ (c : Int) := by omega
  have b1 : (c : Int) < (q.rows.length : Int) := by omega
  have H := Lib.hid h
  have HR := Lib.hid hR
  clear h hv hR hx
  go_enter Try.func25, Try.ntmps25
  go_wp2_with (first | (go_at_call 37; refine (has_yes H.out c hc).mono ?_; rintro e w' ⟨rfl, rfl⟩) | (go_at_call 42; refine (clone_any HR.out (by omega)).mono ?_; rintro e w' ⟨v, rfl, hR1, hb1⟩; have HR1 := Lib.hid hR1; have HB1 := Lib.hid hb1; clear hR1 hb1))
  go_ret
  exact ⟨v, rfl, HR1.out, HB1.out⟩
theorem each_out {w : World} {base qb rb : Nat} {vals : List Value} {q : QM Int} (h : At w base qb rb vals q) (c : Int) (hc : c < 0 ∨ (0 ≤ c ∧ (q.rows.length : Int) ≤ c)) :
    Calls Try.prog 25 #[.pointer (some ⟨qb, 0, none⟩), .int .i64 c] w (Copied w []) := by
  have H := Lib.hid h
  have HC := Lib.hid hc
  clear h hc
  go_enter Try.func25, Try.ntmps25
  go_wp2_with (go_at_call 37; refine (has_no H.out c HC.out).mono ?_; rintro e w' ⟨rfl, rfl⟩)
  go_ret
  exact ⟨_, rfl, Kd.R_nil _ _ _ _ _, Below.refl _ _⟩

/-- The row of a client, whatever its number. -/
def rowI (q : QM Int) (c : Int) : List Int := if 0 ≤ c then q.row c.toNat else []
theorem each_any {w : World} {base qb : Nat} {S : Nat → Prop} {q : QM Int} (h : QIn w base S qb q) (hw : q.Wf) (c : Int) :
    Calls Try.prog 25 #[.pointer (some ⟨qb, 0, none⟩), .int .i64 c] w (Copied w (rowI q c)) := by
  obtain ⟨rb, vals, hA, _⟩ := h
  by_cases hc : 0 ≤ c
  · obtain ⟨n, rfl⟩ := Int.eq_ofNat_of_zero_le hc
    have e : rowI q (n : Int) = q.row n := by unfold rowI; rw [if_pos hc]; rfl
    rw [e]
    by_cases hn : n < q.rows.length
    · exact each_in hA n hn (by have := QM.row_le hw n; have := hw.p2; omega)
    · rw [q.row_out (by omega)]
      exact each_out hA _ (by omega)
  · have e : rowI q c = [] := by unfold rowI; rw [if_neg hc]
    rw [e]
    exact each_out hA c (by omega)
theorem len_any {w : World} {base qb : Nat} {S : Nat → Prop} {q : QM Int} (h : QIn w base S qb q) (c : Int) :
    Calls Try.prog 27 #[.pointer (some ⟨qb, 0, none⟩), .int .i64 c] w fun e w' => e = .returned (.int .i64 ((rowI q c).length : Int)) ∧ w = w' := by
  obtain ⟨rb, vals, hA, _⟩ := h
  by_cases hc : 0 ≤ c
  · obtain ⟨n, rfl⟩ := Int.eq_ofNat_of_zero_le hc
    have e : rowI q (n : Int) = q.row n := by unfold rowI; rw [if_pos hc]; rfl
    rw [e]
    by_cases hn : n < q.rows.length
    · exact len_in hA n hn
    · rw [q.row_out (by omega)]
      exact len_out hA _ (by omega)
  · have e : rowI q c = [] := by unfold rowI; rw [if_neg hc]
    rw [e]
    exact len_out hA c (by omega)

/-- SameInts at two rows that are read as one list. -/
theorem same_any {w : World} {A B : Option Addr} {n c d : Nat} {xs : List Int} (hx : ReadsOf (Value.int .i64) 0 w A n xs) (hy : ReadsOf (Value.int .i64) 0 w B n xs) :
    Calls Try.prog 26 #[.slice A n c, .slice B n d] w fun e w' => e = .returned (.bool true) ∧ ∃ k, w' = w.drewN k := by
  have hn : n ≤ 9223372036854775807 := hx.2.1
  have HX := Lib.hid hx
  have HY := Lib.hid hy
  clear hx hy
  go_enter Try.func26, Try.ntmps26
  go_wp2
  go_loopw [5] (fun i wr => ∃ k m : Nat, k ≤ n ∧ i = .int .i64 k ∧ wr = w.drewN m) (fun i _ => n - (intOf i).toNat)
  case atStart => exact ⟨0, 0, Nat.zero_le _, rfl, rfl⟩
  case round =>
    obtain ⟨k, m, hk, rfl, rfl⟩ := hrel
    by_cases hlt : k < n
    · obtain ⟨a, rfl, ha⟩ := HX.out.2.2 (by omega)
      obtain ⟨b, rfl, hb⟩ := HY.out.2.2 (by omega)
      have ca := ha k hlt
      have cb := hb k hlt
      have b0 : (0 : Int) ≤ (k : Int) := by omega
      have b1 : (k : Int) < (n : Int) := by omega
      obtain ⟨x, hx⟩ : ∃ x, xs.getD k 0 = x := ⟨_, rfl⟩
      rw [hx] at ca cb
      clear ha hb hx
      go_wp2
      go_quiet (fail)
      go_wp2
      go_roundw
      case rel => exact ⟨k + 1, _, hlt, by go_num, rfl⟩
      case measure => simp [intOf]; omega
    · go_wp2
      go_ret
      exact ⟨rfl, m, rfl⟩

/-! ### A queue beside lists that have been handed out -/
/-- The queue lies in S; the lists lie elsewhere. -/
def Sep (w0 w : World) (qb : Nat) (q : QM Int) (V : List (Value × List Int)) : Prop :=
  ∃ B S, w0.heap.size ≤ B ∧ B ≤ w.heap.size ∧ (∀ k, S k → B ≤ k) ∧ QIn w B S qb q ∧ q.Wf ∧ Below w0.heap.size w0 w ∧
    ∀ p, p ∈ V → K.R 3 w B (fun _ => True) p.1 p.2 ∧ ∀ k, p.1.ownBlock = some k → ¬ S k
theorem Sep.of_st {w0 w : World} {qb : Nat} {q : QM Int} (h : St w0 w qb q) : Sep w0 w qb q [] := by
  obtain ⟨B, h1, h2, h3, h4, h5⟩ := h
  exact ⟨B, _, h1, h2, fun _ h => h, h3, h4, h5, fun p hp => by cases hp⟩
theorem Sep.below {w0 w : World} {qb : Nat} {q : QM Int} {V : List (Value × List Int)} (h : Sep w0 w qb q V) : Below w0.heap.size w0 w := by
  obtain ⟨B, S, _, _, _, _, _, h, _⟩ := h; exact h
theorem Sep.wf {w0 w : World} {qb : Nat} {q : QM Int} {V : List (Value × List Int)} (h : Sep w0 w qb q V) : q.Wf := by
  obtain ⟨B, S, _, _, _, _, h, _, _⟩ := h; exact h
theorem R_keep_only {w w' : World} {B : Nat} {v : Value} {xs : List Int} {S : Nat → Prop} (h : K.R 3 w B (fun _ => True) v xs) (ho : Only S w w') (hs : ∀ k, v.ownBlock = some k → ¬ S k) : K.R 3 w' B (fun _ => True) v xs :=
  Kd.R_mono (Kd.R_step (Kd.R_tight rfl h) (fun k hk hlt => ho.block k hlt (hs k hk.symm))) (fun _ _ => trivial)
theorem Sep.left {w0 w w' : World} {qb : Nat} {q' : QM Int} {V : List (Value × List Int)} {B : Nat} {S : Nat → Prop} (h1 : w0.heap.size ≤ B) (h2 : B ≤ w.heap.size) (hS : ∀ k, S k → B ≤ k) (h5 : Below w0.heap.size w0 w) (hV : ∀ p, p ∈ V → K.R 3 w B (fun _ => True) p.1 p.2 ∧ ∀ k, p.1.ownBlock = some k → ¬ S k)
    (hw : q'.Wf) (hl : Left w B S qb q' w') : Sep w0 w' qb q' V := by
  obtain ⟨hq, ho⟩ := hl
  refine ⟨B, Grow S w, h1, Nat.le_trans h2 ho.size, fun k hk => hk.elim (hS k) (fun h => Nat.le_trans h2 h), hq, hw, h5.trans ((ho.below h2 hS).mono h1), fun p hp => ?_⟩
  obtain ⟨hR, hn⟩ := hV p hp
  refine ⟨R_keep_only hR ho hn, fun k hk hg => hg.elim (hn k hk) (fun h => ?_)⟩
  obtain ⟨_, inner, hown, _⟩ := hR
  have := YtekgdlpicgibhaaW.PrintWords.own_lt hown k hk
  omega
theorem pop_sep {w0 w : World} {qb : Nat} {q : QM Int} {V : List (Value × List Int)} (h : Sep w0 w qb q V) :
    Calls Try.prog 18 #[.pointer (some ⟨qb, 0, none⟩)] w fun e w' => e = .returned (popValue q.pop.1) ∧ Sep w0 w' qb q.pop.2 V := by
  obtain ⟨B, S, h1, h2, hS, h3, h4, h5, hV⟩ := h
  refine (pop_any h3 h4 h2).mono ?_
  rintro e w' ⟨he, hl⟩
  exact ⟨he, Sep.left h1 h2 hS h5 hV (QM.pop_wf h4) hl⟩
theorem push_sep {w0 w : World} {qb : Nat} {q : QM Int} {V : List (Value × List Int)} (h : Sep w0 w qb q V) (c x : Int) :
    Calls Try.prog 19 #[.pointer (some ⟨qb, 0, none⟩), .int .i64 c, .int .i64 x] w fun e w' => e = .returned (.int .i64 (q.push c x).1) ∧ Sep w0 w' qb (q.push c x).2 V := by
  obtain ⟨B, S, h1, h2, hS, h3, h4, h5, hV⟩ := h
  refine (push_any h3 h4 h2 c x).mono ?_
  rintro e w' ⟨he, hl⟩
  exact ⟨he, Sep.left h1 h2 hS h5 hV (QM.push_wf h4 c x) hl⟩
theorem total_sep {w0 w : World} {qb : Nat} {q : QM Int} {V : List (Value × List Int)} (h : Sep w0 w qb q V) :
    Calls Try.prog 20 #[.pointer (some ⟨qb, 0, none⟩)] w fun e w' => e = .returned (.int .i64 (q.total : Int)) ∧ w = w' := by
  obtain ⟨B, S, h1, h2, hS, h3, h4, h5, hV⟩ := h
  exact total_any h3
theorem len_sep {w0 w : World} {qb : Nat} {q : QM Int} {V : List (Value × List Int)} (h : Sep w0 w qb q V) (c : Int) :
    Calls Try.prog 27 #[.pointer (some ⟨qb, 0, none⟩), .int .i64 c] w fun e w' => e = .returned (.int .i64 ((rowI q c).length : Int)) ∧ w = w' := by
  obtain ⟨B, S, h1, h2, hS, h3, h4, h5, hV⟩ := h
  exact len_any h3 c
theorem each_sep {w0 w : World} {qb : Nat} {q : QM Int} {V : List (Value × List Int)} (h : Sep w0 w qb q V) (c : Int) :
    Calls Try.prog 25 #[.pointer (some ⟨qb, 0, none⟩), .int .i64 c] w fun e w' => ∃ v, e = .returned v ∧ Sep w0 w' qb q ((v, rowI q c) :: V) := by
  obtain ⟨B, S, h1, h2, hS, h3, h4, h5, hV⟩ := h
  refine (each_any h3 h4 c).mono ?_
  rintro e w' ⟨v, rfl, hR, hb⟩
  have h3' := h3.bound
  refine ⟨v, rfl, B, fun k => S k ∧ B ≤ k ∧ k < w.heap.size, h1, Nat.le_trans h2 hb.size, fun k hk => hS k hk.1, h3'.below hb, h4, h5.trans (hb.mono (Nat.le_trans h1 h2)), ?_⟩
  intro p hp
  rcases List.mem_cons.1 hp with rfl | hp
  · refine ⟨Kd.R_lower hR h2, fun k hk hS => ?_⟩
    obtain ⟨_, inner, hown, _⟩ := hR
    have := YtekgdlpicgibhaaW.PrintWords.own_base hown k hk
    omega
  · obtain ⟨hR', hn⟩ := hV p hp
    exact ⟨Kd.R_below hR' hb, fun k hk hS => hn k hk hS.1⟩
theorem Sep.drewN {w0 w : World} {qb : Nat} {q : QM Int} {V : List (Value × List Int)} (h : Sep w0 w qb q V) (n : Nat) : Sep w0 (w.drewN n) qb q V := by
  obtain ⟨B, S, h1, h2, hS, h3, h4, h5, hV⟩ := h
  exact ⟨B, S, h1, h2, hS, h3.below (pw_below_drewN (Below.refl _ _) n), h4, pw_below_drewN h5 n, fun p hp => ⟨Kd.R_drewN (hV p hp).1 n, (hV p hp).2⟩⟩
/-- A list that was handed out is read. -/
theorem Sep.reads {w0 w : World} {qb : Nat} {q : QM Int} {V : List (Value × List Int)} (h : Sep w0 w qb q V) {v : Value} {xs : List Int} (hp : (v, xs) ∈ V) : ∃ A c, v = .slice A xs.length c ∧ ReadsOf (Value.int .i64) 0 w A xs.length xs := by
  obtain ⟨B, S, h1, h2, hS, h3, h4, h5, hV⟩ := h
  obtain ⟨A, c, e, _, hC⟩ := Kd.R_reads (hV _ hp).1
  exact ⟨A, c, e, Kd.reads_of_C hC⟩
end Go.Proofs.Ytekgdlpicgibhaa.QI
