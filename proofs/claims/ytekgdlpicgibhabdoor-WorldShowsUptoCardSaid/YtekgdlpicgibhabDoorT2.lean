/-
  The text of a word: the walk of the reference's Text.
-/
import Derived.Test.YtekgdlpicgibhabDoorT1
namespace Go.Proofs.YtekgdlpicgibhabDoor.PT
open Go.RowKit Go.Proofs.YtekgdlpicgibhabDoorW.PrintWords Go.Proofs.YtekgdlpicgibhabDoor.PWorldShows

theorem Row.of {s : ByteArray} {w w1 : World} {k : Nat} {v1 : Value} {xs : List Int} (hn : escTo s k ++ escB (bt s k) = xs)
    (h : w1.ownsRow w.heap.size 5 1 v1 xs.length (nums .u8 xs)) (hb : Below w.heap.size w w1) : Row s w w1 (k + 1) v1 := by
  subst hn
  exact ⟨h, hb⟩
/-- plain holds so far -/
def PlainTo (s : ByteArray) (k : Nat) (b : Bool) : Prop := b = true ↔ (s.size ≠ 0 ∧ BareTo s k)
theorem plainTo_step {s : ByteArray} {k : Nat} {b : Bool} (h : PlainTo s k b) (hk : k < s.size) : PlainTo s (k + 1) (b && bareB (bt s k)) := by
  have e : ((s[k]'hk).toNat : Int) = bt s k := bt_at s k (by simpa using hk)
  unfold PlainTo at *
  rw [Bool.and_eq_true, h]
  constructor
  · rintro ⟨⟨h1, h2⟩, h3⟩
    exact ⟨h1, bareTo_step h2 hk (by rw [e]; exact h3)⟩
  · rintro ⟨h1, h2⟩
    exact ⟨⟨h1, fun j hj hlt => h2 j hj (by omega)⟩, by have := h2 k hk (by omega); rwa [e] at this⟩
theorem tdiv16 (c : Int) (h0 : 0 ≤ c) : c.tdiv 16 = c / 16 := Int.tdiv_eq_ediv_of_nonneg h0

set_option maxRecDepth 100000 in
set_option maxHeartbeats 1000000 in
theorem text8 (s : ByteArray) (w : World) (hs : s.size ≤ 1048576) :
    Calls Tryd.prog 14 #[.string s] w fun e w' => e = .returned (.string (textOf s)) ∧ Below w.heap.size w w' := by
  obtain ⟨b0, hb0⟩ : ∃ b0 : Bool, b0 = true ↔ s.size ≠ 0 := ⟨decide (s.size ≠ 0), by simp⟩
  have hne : s.toList.isEmpty = !b0 := by
    by_cases h : s.size = 0
    · rw [empty_of h]
      cases b0 with
      | true => exact absurd h (hb0.1 rfl)
      | false => rfl
    · rw [not_empty_of h, hb0.2 h]
      rfl
  have HB0 := Lib.hid hb0
  clear hb0
  go_enter Tryd.func14, Tryd.ntmps14
  go_wp2
  go_loopw [3, 4] (fun v i wr => ∃ (k : Nat) (b : Bool), k ≤ s.size ∧ v = .bool b ∧ i = .int .i64 k ∧ PlainTo s k b ∧ Below w.heap.size w wr) (fun _ i _ => s.size - (intOf i).toNat)
  case atStart =>
    refine ⟨0, b0, Nat.zero_le _, rfl, rfl, ?_, Below.refl _ _⟩
    unfold PlainTo
    rw [HB0.out]
    exact ⟨fun h => ⟨h, fun _ _ h => absurd h (Nat.not_lt_zero _)⟩, fun h => h.1⟩
  case round =>
    obtain ⟨k, b, hk, rfl, rfl, hP, hB⟩ := hrel
    have HP := Lib.hid hP
    have HB := Lib.hid hB
    clear hP hB hne
    by_cases hlt : k < s.size
    · have hx : ∀ h : k < s.size, ((s[k]'h).toNat : Int) = bt s (k : Int) := fun h => bt_at s k (by simpa using h)
      have hs1 := plainTo_step HP.out hlt
      have HS1 := Lib.hid hs1
      clear hs1
      cases b with
      | true =>
        go_wp2_with (go_at_call 21; refine (bare31 _ _).mono ?_; rintro e w' ⟨rfl, hd⟩)
        go_roundw
        case rel => exact ⟨k + 1, _, hlt, rfl, by go_num, by simpa using HS1.out, below_then HB.out HB.out.size hd.below⟩
        case measure => simp [intOf]; omega
      | false =>
        go_wp2_with (go_at_call 21; refine (bare31 _ _).mono ?_; rintro e w' ⟨rfl, hd⟩)
        go_roundw
        case rel => exact ⟨k + 1, _, hlt, rfl, by go_num, by simpa using HS1.out, below_then HB.out HB.out.size hd.below⟩
        case measure => simp [intOf]; omega
    · obtain rfl : k = s.size := by omega
      cases b with
      | true =>
        have hfin : textOf s = s := by
          have h := HP.out.1 rfl
          simp [textOf, show Plain s from h]
        have Hfin := Lib.hid hfin
        clear hfin
        go_wp2
        go_ret
        exact ⟨by rw [Hfin.out] <;> rfl, HB.out⟩
      | false =>
        have hfin : textOf s = strOfNums (escTo s s.size ++ [34]) := by
          have h : ¬ Plain s := fun h => by have := HP.out.2 h; cases this
          simp [textOf, h]
        have Hfin := Lib.hid hfin
        clear hfin
        go_wp2
        go_loopw [6, 7] (fun v i wr => ∃ k : Nat, k ≤ s.size ∧ i = .int .i64 k ∧ Row s w wr k v) (fun _ i _ => s.size - (intOf i).toNat)
        case atStart => exact ⟨0, Nat.zero_le _, rfl, row_start s HB.out⟩
        case round =>
          obtain ⟨k, hk, rfl, hR⟩ := hrel
          have HR := Lib.hid hR
          clear hR
          have hel := escTo_le s k
          by_cases hlt : k < s.size
          · have hx : ∀ h : k < s.size, ((s[k]'h).toNat : Int) = bt s (k : Int) := fun h => bt_at s k (by simpa using h)
            obtain ⟨hb0, hb1⟩ := bt_range s k
            have hcs : bt s k = 34 ∨ (bt s k ≠ 34 ∧ bt s k = 92) ∨ (bt s k ≠ 34 ∧ bt s k ≠ 92 ∧ bt s k < 32) ∨ (bt s k ≠ 34 ∧ bt s k ≠ 92 ∧ 126 < bt s k) ∨ (bt s k ≠ 34 ∧ bt s k ≠ 92 ∧ 32 ≤ bt s k ∧ bt s k ≤ 126) := by omega
            rcases hcs with hc | hc | hc | hc | hc
            · have c1 : (bt s k == 34) = true := beq_iff_eq.2 hc
              have HE := Lib.hid (esc_q (.inl hc))
              clear hc
              go_wp2_with (first | (at_builtin; refine app_row w.heap.size rfl (.tmp 48) (.tmp 49) 23 5 rfl Tryd.underlying23 info5 _ (escTo s k) [92] 1 _ rfl rfl rfl rfl HR.out.own HR.out.bel HR.out.bel.size (by simp; omega) ?_; intro v0 w0 ho0 hb0) | (at_builtin; refine app_row w.heap.size rfl (.tmp 51) (.tmp 53) 23 5 rfl Tryd.underlying23 info5 _ (escTo s k ++ [92]) [bt s k] 1 _ rfl rfl rfl rfl ho0 hb0 hb0.size (by simp; omega) ?_; intro v1 w1 ho hb))
              go_roundw
              case rel => exact ⟨k + 1, hlt, by go_num, Row.of (by rw [HE.out] <;> simp) ho hb⟩
              case measure => simp [intOf]; omega
            · have c1 : (bt s k == 34) = false := beq_eq_false_iff_ne.2 hc.1
              have c2 : (bt s k == 92) = true := beq_iff_eq.2 hc.2
              have HE := Lib.hid (esc_q (.inr hc.2))
              clear hc
              go_wp2_with (first | (at_builtin; refine app_row w.heap.size rfl (.tmp 48) (.tmp 49) 23 5 rfl Tryd.underlying23 info5 _ (escTo s k) [92] 1 _ rfl rfl rfl rfl HR.out.own HR.out.bel HR.out.bel.size (by simp; omega) ?_; intro v0 w0 ho0 hb0) | (at_builtin; refine app_row w.heap.size rfl (.tmp 51) (.tmp 53) 23 5 rfl Tryd.underlying23 info5 _ (escTo s k ++ [92]) [bt s k] 1 _ rfl rfl rfl rfl ho0 hb0 hb0.size (by simp; omega) ?_; intro v1 w1 ho hb))
              go_roundw
              case rel => exact ⟨k + 1, hlt, by go_num, Row.of (by rw [HE.out] <;> simp) ho hb⟩
              case measure => simp [intOf]; omega
            · have c1 : (bt s k == 34) = false := beq_eq_false_iff_ne.2 hc.1
              have c2 : (bt s k == 92) = false := beq_eq_false_iff_ne.2 hc.2.1
              have c3 := hc.2.2
              have HE := Lib.hid (esc_x hc.1 hc.2.1 (.inl hc.2.2))
              clear hc
              have i1 : 0 ≤ bt s k / 16 := by omega
              have i2 : bt s k / 16 < 16 := by omega
              have i3 : 0 ≤ bt s k % 16 := by omega
              have i4 : bt s k % 16 < 16 := by omega
              have x1 := hexd_walk (bt s k / 16)
              have x2 := hexd_walk (bt s k % 16)
              go_wp2_with (first | (at_builtin; refine app_row w.heap.size rfl (.tmp 62) (.tmp 63) 23 5 rfl Tryd.underlying23 info5 _ (escTo s k) [92] 1 _ rfl rfl rfl rfl HR.out.own HR.out.bel HR.out.bel.size (by simp; omega) ?_; intro v0 w0 ho0 hb0) | (at_builtin; refine app_row w.heap.size rfl (.tmp 65) (.tmp 66) 23 5 rfl Tryd.underlying23 info5 _ (escTo s k ++ [92]) [120] 1 _ rfl rfl rfl rfl ho0 hb0 hb0.size (by simp; omega) ?_; intro v1 w1 ho1 hb1) | (at_builtin; refine app_row w.heap.size rfl (.tmp 68) (.tmp 72) 23 5 rfl Tryd.underlying23 info5 _ (escTo s k ++ [92] ++ [120]) [hexd (bt s k / 16)] 1 _ rfl rfl rfl rfl ho1 hb1 hb1.size (by simp; omega) ?_; intro v2 w2 ho2 hb2) | (at_builtin; refine app_row w.heap.size rfl (.tmp 74) (.tmp 78) 23 5 rfl Tryd.underlying23 info5 _ (escTo s k ++ [92] ++ [120] ++ [hexd (bt s k / 16)]) [hexd (bt s k % 16)] 1 _ rfl rfl rfl rfl ho2 hb2 hb2.size (by simp; omega) ?_; intro v3 w3 ho hb))
              go_roundw
              case rel => exact ⟨k + 1, hlt, by go_num, Row.of (by rw [HE.out] <;> simp) ho hb⟩
              case measure => simp [intOf]; omega
            · have c1 : (bt s k == 34) = false := beq_eq_false_iff_ne.2 hc.1
              have c2 : (bt s k == 92) = false := beq_eq_false_iff_ne.2 hc.2.1
              have c3 := hc.2.2
              have HE := Lib.hid (esc_x hc.1 hc.2.1 (.inr hc.2.2))
              clear hc
              have i1 : 0 ≤ bt s k / 16 := by omega
              have i2 : bt s k / 16 < 16 := by omega
              have i3 : 0 ≤ bt s k % 16 := by omega
              have i4 : bt s k % 16 < 16 := by omega
              have x1 := hexd_walk (bt s k / 16)
              have x2 := hexd_walk (bt s k % 16)
              go_wp2_with (first | (at_builtin; refine app_row w.heap.size rfl (.tmp 62) (.tmp 63) 23 5 rfl Tryd.underlying23 info5 _ (escTo s k) [92] 1 _ rfl rfl rfl rfl HR.out.own HR.out.bel HR.out.bel.size (by simp; omega) ?_; intro v0 w0 ho0 hb0) | (at_builtin; refine app_row w.heap.size rfl (.tmp 65) (.tmp 66) 23 5 rfl Tryd.underlying23 info5 _ (escTo s k ++ [92]) [120] 1 _ rfl rfl rfl rfl ho0 hb0 hb0.size (by simp; omega) ?_; intro v1 w1 ho1 hb1) | (at_builtin; refine app_row w.heap.size rfl (.tmp 68) (.tmp 72) 23 5 rfl Tryd.underlying23 info5 _ (escTo s k ++ [92] ++ [120]) [hexd (bt s k / 16)] 1 _ rfl rfl rfl rfl ho1 hb1 hb1.size (by simp; omega) ?_; intro v2 w2 ho2 hb2) | (at_builtin; refine app_row w.heap.size rfl (.tmp 74) (.tmp 78) 23 5 rfl Tryd.underlying23 info5 _ (escTo s k ++ [92] ++ [120] ++ [hexd (bt s k / 16)]) [hexd (bt s k % 16)] 1 _ rfl rfl rfl rfl ho2 hb2 hb2.size (by simp; omega) ?_; intro v3 w3 ho hb))
              go_roundw
              case rel => exact ⟨k + 1, hlt, by go_num, Row.of (by rw [HE.out] <;> simp) ho hb⟩
              case measure => simp [intOf]; omega
            · have c1 : (bt s k == 34) = false := beq_eq_false_iff_ne.2 hc.1
              have c2 : (bt s k == 92) = false := beq_eq_false_iff_ne.2 hc.2.1
              have c3 := hc.2.2.1
              have c4 := hc.2.2.2
              have HE := Lib.hid (esc_p hc.1 hc.2.1 hc.2.2.1 hc.2.2.2)
              clear hc
              go_wp2_with (first | (at_builtin; refine app_row w.heap.size rfl (.tmp 37) (.tmp 39) 23 5 rfl Tryd.underlying23 info5 _ (escTo s k) [bt s k] 1 _ rfl rfl rfl rfl HR.out.own HR.out.bel HR.out.bel.size (by simp; omega) ?_; intro v0 w0 ho hb))
              go_roundw
              case rel => exact ⟨k + 1, hlt, by go_num, Row.of (by rw [HE.out] <;> simp) ho hb⟩
              case measure => simp [intOf]; omega
          · obtain rfl : k = s.size := by omega
            go_wp2_with (at_builtin; refine app_row w.heap.size rfl (.tmp 80) (.tmp 81) 23 5 rfl Tryd.underlying23 info5 _ (escTo s s.size) [34] 1 _ rfl rfl rfl rfl HR.out.own HR.out.bel HR.out.size (by simp; omega) ?_; intro v1 w1 ho hb; have hcv := own_string (P := Tryd.prog) Tryd.underlying23 Tryd.underlying5 Tryd.underlying9 ho)
            go_ret
            exact ⟨by rw [Hfin.out] <;> rfl, hb⟩
end Go.Proofs.YtekgdlpicgibhabDoor.PT
