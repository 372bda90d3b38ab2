/-
  The helpers on bytes: Bytes, SameBytes, AllZero, full, num, slices.Clone, each by its walk.
-/
import Derived.Test.YtekgdlpicgibhabE0
namespace Go.Proofs.Ytekgdlpicgibhab.EX
open Go.RowKit Go.Proofs.YtekgdlpicgibhabW.PrintWords

theorem take_snoc {xs : List Int} {k : Nat} (h : k < xs.length) : xs.take k ++ [xs.getD k 0] = xs.take (k + 1) := by
  rw [List.take_add_one, List.getElem?_eq_getElem h, List.getD_eq_getElem?_getD, List.getElem?_eq_getElem h]
  rfl
theorem bytes_any {w : World} {A : Option Addr} {n cap : Nat} {xs : List Int} (hC : Rd w (.slice A n cap) xs) (hl : xs.length ≤ 1099511627776) : Calls Try.prog 10 #[.slice A n cap] w (Copied w xs) := by
  obtain ⟨rfl, hC⟩ := hC.cells
  have HC := Lib.hid hC
  clear hC
  go_enter Try.func10, Try.ntmps10
  go_wp2
  go_loopw [3, 4] (fun v i wr => ∃ k : Nat, k ≤ xs.length ∧ i = .int .i64 k ∧ Rb wr w.heap.size v (xs.take k) ∧ Below w.heap.size w wr) (fun _ i _ => xs.length - (intOf i).toNat)
  case atStart => exact ⟨0, Nat.zero_le _, rfl, by rw [List.take_zero]; exact Kd.R_nil _ _ _ _ _, Below.refl _ _⟩
  case round =>
    obtain ⟨k, hk, rfl, hR, hb⟩ := hrel
    obtain ⟨Ar, cr, e⟩ := Kd.R_slice hR
    rw [List.length_take, Nat.min_eq_left hk] at e
    subst e
    have HR := Lib.hid hR
    have HB := Lib.hid hb
    clear hR hb
    by_cases hlt : k < xs.length
    · obtain ⟨ad, rfl, had, hc⟩ := HC.out k hlt
      obtain ⟨x, hx⟩ : ∃ x, xs.getD k 0 = x := ⟨_, rfl⟩
      have hcr : wr.cell? (ad.add k) = some (.int .u8 x) := by
        rw [← hx]
        exact (HB.out.cell (p := ad.add k) (by rw [add_block]; exact had)).trans hc
      have HX := Lib.hid hx
      clear hx hc
      go_wp2_with (first | (at_builtin; go_loud (refine Kd.R_append K (w0 := w) w.heap.size rfl (.tmp 11) (.tmp 16) 24 5 (.int .u8 0) 1 rfl Try.underlying24 info5 rfl (by decide) (by decide) (.slice Ar k cr) (xs.take k) x [.int .u8 x] (fun _ => True) (fun _ => False) rfl rfl rfl (fun _ hk => hk.elim) (fun _ _ => trivial) HR.out HB.out HB.out.size (by rw [List.length_take]; omega) ?_); intro v1 w4 hR1 hb1 hg1 hat1; have HR1 := Lib.hid hR1; have HB1 := Lib.hid hb1; clear hR1 hb1 hg1 hat1))
      go_roundw
      case rel => exact ⟨k + 1, hlt, by go_num, by rw [← take_snoc hlt, HX.out]; exact HR1.out, HB1.out⟩
      case measure => simp [intOf]; omega
    · obtain rfl : k = xs.length := by omega
      go_wp2
      go_ret
      exact ⟨_, rfl, by have := HR.out; rwa [List.take_length] at this, HB.out⟩

theorem eq_of_take {xs ys : List Int} (hl : xs.length = ys.length) (h : xs.take xs.length = ys.take xs.length) : xs = ys := by
  rw [List.take_length] at h
  rw [h, hl, List.take_length]
theorem ne_of_getD {xs ys : List Int} {k : Nat} (h : xs.getD k 0 ≠ ys.getD k 0) : decide (xs = ys) = false := decide_eq_false (fun e => h (by rw [e]))
/-- SameBytes at two slices. -/
theorem same_any {w : World} {A B : Option Addr} {n m c d : Nat} {xs ys : List Int} (hx : Rd w (.slice A n c) xs) (hy : Rd w (.slice B m d) ys) (hl : xs.length ≤ 1099511627776) :
    Calls Try.prog 17 #[.slice A n c, .slice B m d] w fun e w' => e = .returned (.bool (decide (xs = ys))) ∧ ∃ k, w' = w.drewN k := by
  obtain ⟨rfl, hX⟩ := hx.cells
  obtain ⟨rfl, hY⟩ := hy.cells
  have HX := Lib.hid hX
  have HY := Lib.hid hY
  clear hX hY hx hy
  by_cases hlen : xs.length = ys.length
  · have HLe := Lib.hid hlen
    obtain ⟨N, hN⟩ : ∃ N, xs.length = N := ⟨_, rfl⟩
    rw [← hlen, hN]
    rw [hN] at HX hl
    rw [← hlen, hN] at HY
    have HN := Lib.hid hN
    clear hlen hN
    go_enter Try.func17, Try.ntmps17
    go_wp2
    go_loopw [5] (fun i wr => ∃ k m : Nat, k ≤ N ∧ i = .int .i64 k ∧ xs.take k = ys.take k ∧ wr = w.drewN m) (fun i _ => N - (intOf i).toNat)
    case atStart => exact ⟨0, 0, Nat.zero_le _, rfl, by simp, rfl⟩
    case round =>
      obtain ⟨k, m, hk, rfl, ht, rfl⟩ := hrel
      have HT := Lib.hid ht
      clear ht
      by_cases hlt : k < N
      · obtain ⟨ad, rfl, had, hc⟩ := HX.out k hlt
        obtain ⟨bd, rfl, hbd, hd⟩ := HY.out k hlt
        have b0 : (k : Int) < (N : Int) := by omega
        obtain ⟨x, hx⟩ : ∃ x, xs.getD k 0 = x := ⟨_, rfl⟩
        obtain ⟨y, hy⟩ : ∃ y, ys.getD k 0 = y := ⟨_, rfl⟩
        rw [hx] at hc
        rw [hy] at hd
        have HXx := Lib.hid hx
        have HYy := Lib.hid hy
        clear hx hy
        by_cases hxy : x = y
        · subst hxy
          go_wp2
          go_quiet (fail)
          go_wp2
          go_roundw
          case rel => exact ⟨k + 1, _, hlt, by go_num, by rw [← take_snoc (by rw [HN.out]; exact hlt), ← take_snoc (by rw [← HLe.out, HN.out]; exact hlt), HT.out, HXx.out, HYy.out], rfl⟩
          case measure => simp [intOf]; omega
        · have hne : (x != y) = true := bne_iff_ne.2 hxy
          go_wp2
          go_quiet (fail)
          go_wp2
          go_ret
          exact ⟨by rw [ne_of_getD (k := k) (by rw [HXx.out, HYy.out]; exact hxy)]; rfl, _, World.drewN_drewN ..⟩
      · obtain rfl : k = N := by omega
        go_wp2
        go_ret
        refine ⟨?_, m, rfl⟩
        have := HT.out
        rw [← HN.out] at this
        rw [decide_eq_true (eq_of_take HLe.out this)]
        rfl
  · have hd : decide (xs = ys) = false := decide_eq_false (fun e => hlen (by rw [e]))
    have h2 : ¬ ((xs.length : Int) = (ys.length : Int)) := by omega
    have h3 : ((xs.length : Int) != (ys.length : Int)) = true := bne_iff_ne.2 h2
    have HD := Lib.hid hd
    clear hd hlen
    go_enter Try.func17, Try.ntmps17
    go_wp2
    go_ret
    exact ⟨by rw [HD.out]; rfl, 0, rfl⟩

theorem num_any (x : Int) (w : World) : Calls Try.prog 16 #[.int .i64 x] w fun e w' => e = .returned (.int .i64 x) ∧ w = w' := by
  go_enter Try.func16, Try.ntmps16
  go_wp2
  go_ret
  exact ⟨rfl, rfl⟩

set_option maxRecDepth 100000 in
/-- AllZero of zeros. -/
theorem zero_any {w : World} {A : Option Addr} {n cap : Nat} (hC : Rd w (.slice A n cap) (List.replicate n 0)) (hl : n ≤ 1099511627776) : Calls Try.prog 32 #[.slice A n cap] w fun e w' => e = .returned (.bool true) ∧ w = w' := by
  have HC := Lib.hid hC.cells.2
  clear hC
  go_enter Try.func32, Try.ntmps32
  go_wp2
  go_loopw [3] (fun i wr => ∃ k : Nat, k ≤ n ∧ i = .int .i64 k ∧ w = wr) (fun i _ => n - (intOf i).toNat)
  case atStart => exact ⟨0, Nat.zero_le _, rfl, rfl⟩
  case round =>
    obtain ⟨k, hk, rfl, rfl⟩ := hrel
    by_cases hlt : k < n
    · obtain ⟨ad, rfl, had, hc⟩ := HC.out k hlt
      simp only [List.getD_eq_getElem?_getD, List.getElem?_replicate, hlt, if_true, Option.getD_some] at hc
      go_wp2
      go_roundw
      case rel => exact ⟨k + 1, hlt, by go_num, trivial⟩
      case measure => simp [intOf]; omega
    · go_wp2
      go_ret
      exact ⟨rfl, rfl⟩

set_option maxRecDepth 100000 in
/-- slices.Clone. -/
theorem clone_any {w : World} {A : Option Addr} {n cap : Nat} {xs : List Int} (hC : Rd w (.slice A n cap) xs) (hl : xs.length ≤ 1099511627776) : Calls Try.prog 45 #[.slice A n cap] w (Copied w xs) := by
  obtain ⟨rfl, hR⟩ := hC.cells
  cases A with
  | none =>
    have hx : xs.length = 0 := by
      rcases Nat.eq_zero_or_pos xs.length with h | h
      · exact h
      · obtain ⟨ad, e, _⟩ := hR 0 h
        cases e
    obtain rfl : xs = [] := List.eq_nil_of_length_eq_zero hx
    have e1 : ∀ W, (binOp .eql 24 (.slice none 0 cap) (.slice none 0 0)).run Try.prog W = .ok (.bool true) W := fun W => Lib.run_eql_slice_nil W 24 5 none 0 cap 0 0 Try.underlying24
    clear hC hR
    go_enter Try.func45, Try.ntmps45
    go_wp2
    go_ret
    exact ⟨_, rfl, Kd.R_nil _ _ _ _ _, Below.refl _ _⟩
  | some ad =>
    have e1 : ∀ W, (binOp .eql 24 (.slice (some ad) xs.length cap) (.slice none 0 0)).run Try.prog W = .ok (.bool false) W := fun W => Lib.run_eql_slice_nil W 24 5 (some ad) xs.length cap 0 0 Try.underlying24
    have HRd := Lib.hid hR
    clear hC hR
    obtain ⟨i0, hi, hz0, hz1, hz2⟩ := info_parts info5
    have hown : (w.alloc (.cells #[] 5)).ownsRow w.heap.size 5 1 (.slice (some ⟨w.heap.size, 0, none⟩) 0 0) 0 [] := World.ownsRow_made w #[] 0 (Nat.le_refl _) (Nat.zero_le _) rfl
    have HO := Lib.hid hown
    clear hown
    go_enter Try.func45, Try.ntmps45
    go_wp2_with (at_builtin; refine wpList_append_own _ rfl (.tmp 5) (.tmp 6) 24 rfl w.heap.size 5 i0 (.int .u8 0) 1 1 Try.underlying24 hi hz0 hz1 hz2 rfl (by decide) _ 0 [] rfl HO.out ad xs.length cap (encs (Value.int .u8) xs) rfl (by rw [encs_length]; omega) ?c1 ?c2 (by unfold maxLen; omega) (by omega) (by simp) ?_; rotate_right; intro v1 w1 ho hg _)
    case c1 =>
      intro j u hj
      have hjl : j < xs.length := by have := (List.getElem?_eq_some_iff.1 hj).1; rwa [encs_length] at this
      obtain ⟨ad', he, hlt, hc⟩ := HRd.out j hjl
      injection he with he
      subst he
      rw [Below.cell (below_alloc (Below.refl _ w) _) (by rw [add_block]; exact hlt), hc]
      simp [encs, List.getElem?_eq_getElem hjl] at hj
      simp [List.getD_eq_getElem?_getD, List.getElem?_eq_getElem hjl, hj]
    case c2 =>
      intro u hu
      simp only [encs, List.mem_map] at hu
      obtain ⟨x, _, rfl⟩ := hu
      rfl
    · have hR1 : K.R 5 w1 w.heap.size (fun _ => True) v1 xs := Kd.R_of_own (by simpa using ho) (fun _ _ => trivial)
      have hb1 : Below w.heap.size w w1 := (below_alloc (Below.refl _ w) _).grown hg (by simp) (fun k hk => by cases hk; exact Nat.le_refl _)
      have HR1 := Lib.hid hR1
      have HB1 := Lib.hid hb1
      clear hR1 hb1 ho hg
      go_wp2
      go_ret
      exact ⟨_, rfl, HR1.out, HB1.out⟩
end Go.Proofs.Ytekgdlpicgibhab.EX
