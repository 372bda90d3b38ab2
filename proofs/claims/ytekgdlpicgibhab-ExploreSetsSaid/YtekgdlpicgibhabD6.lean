/-
  New; in; laid; the masks.
-/
import Derived.Test.YtekgdlpicgibhabD5
import Derived.Test.YtekgdlpicgibhabE16
namespace Go.Proofs.Ytekgdlpicgibhab.EX
open Go.RowKit Go.Proofs.YtekgdlpicgibhabW.PrintWords Go.MuLone

set_option maxRecDepth 100000 in
/-- New, of one to six blocks. -/
theorem new_any (N : Nat) (h1 : 1 ≤ N) (h6 : N ≤ 6) (w : World) : Calls Try.prog 21 #[.int .i64 N] w fun e w' => ∃ g mb gd, e = .returned (.pointer (some ⟨g, 0, none⟩)) ∧ Below w.heap.size w w' ∧
    Dev w' 0 w.heap.size g mb 0 (.slice (some ⟨gd, 0, none⟩) (512 * N) (512 * N)) (.slice none 0 0) [] (List.replicate (512 * N) 0) [] := by
  have hmk : ∀ W : World, (Instr.makeSlice 24 (.int .i64 ((512 * N : Nat) : Int)) (.int .i64 ((512 * N : Nat) : Int))).run Try.prog W = .ok (.slice (some ⟨W.heap.size, 0, none⟩) (512 * N) (512 * N)) (W.alloc (.cells (madeCells #[.int .u8 0] (512 * N)) 5)) := fun W =>
    run_make_row' 24 5 (.int .u8 0) 1 Try.underlying24 info5 rfl .i64 .i64 (512 * N) (by first | omega | (unfold maxLen; omega)) (by first | omega | (unfold maxLen; omega)) W
  have hmd : Hid (Calls Try.prog 40 #[.slice (some ⟨w.heap.size, 0, none⟩) (512 * N) (512 * N)] (w.alloc (.cells (madeCells #[.int .u8 0] (512 * N)) 5)) fun e w' => ∃ g mb, e = .returned (.pointer (some ⟨g, 0, none⟩)) ∧ Below (w.alloc (.cells (madeCells #[.int .u8 0] (512 * N)) 5)).heap.size (w.alloc (.cells (madeCells #[.int .u8 0] (512 * N)) 5)) w' ∧
      Dev w' 0 w.heap.size g mb 0 (.slice (some ⟨w.heap.size, 0, none⟩) (512 * N) (512 * N)) (.slice none 0 0) [] (List.replicate (512 * N) 0) []) :=
    made_dev (made_row w (512 * N) (by unfold maxLen; omega)) (by rw [World.size_alloc]; omega)
  have he : ((512 * N : Nat) : Int) = (N : Int) * 512 := by omega
  rw [he] at hmk
  clear he
  go_enter Try.func21, Try.ntmps21
  go_wp2_with fail
  refine hmd.out.mono ?_
  rintro e w2 ⟨g, mb, rfl, hb, hd⟩
  have HB := Lib.hid hb
  have HD := Lib.hid hd
  clear hb hd
  go_wp2
  go_ret
  exact ⟨g, mb, _, rfl, (below_alloc (Below.refl _ _) _).trans (HB.out.mono (by rw [World.size_alloc]; omega)), HD.out⟩
/-- in: is the image among them? -/
theorem in_any {w : World} {A B : Option Addr} {n c d m : Nat} {Xs : List (List Int)} {y : List Int} (hx : ListAt w (.slice A n c) Xs) (hy : Rd w (.slice B m d) y) (hl : ∀ x ∈ Xs, x.length ≤ 1099511627776) (hL : Xs.length ≤ 1048576) (N : Nat) :
    Calls Try.prog 27 #[.slice A n c, .slice B m d] (w.drewN N) fun e w' => e = .returned (.bool (decide (y ∈ Xs))) ∧ ∃ k, w' = w.drewN k := by
  have hx' := hx.drewN N
  have hy' := hy.drewN N
  obtain ⟨w0, hw0⟩ : ∃ w0, w.drewN N = w0 := ⟨_, rfl⟩
  rw [hw0] at hx' hy' ⊢
  have HW := Lib.hid hw0
  have HY := Lib.hid hy'
  obtain ⟨A1, c1, e1, hX⟩ := hx'
  cases e1
  have HX := Lib.hid hX
  have HL := Lib.hid hl
  clear hX hl hx hy hy' hw0
  go_enter Try.func27, Try.ntmps27
  go_wp2
  go_loopw [5] (fun i wr => ∃ k q : Nat, k ≤ Xs.length ∧ i = .int .i64 k ∧ (∀ j x, j < k → Xs[j]? = some x → x ≠ y) ∧ wr = w0.drewN q) (fun i _ => Xs.length - (intOf i).toNat)
  case atStart => exact ⟨0, 0, Nat.zero_le _, rfl, fun j x h => by omega, rfl⟩
  case round =>
    obtain ⟨k, q, hk, rfl, hne, rfl⟩ := hrel
    have HNE := Lib.hid hne
    clear hne
    by_cases hlt : k < Xs.length
    · obtain ⟨x, hx⟩ : ∃ x, Xs[k]? = some x := ⟨_, List.getElem?_eq_getElem hlt⟩
      obtain ⟨ad, A1', c1', rfl, had, hc, hR⟩ := HX.out k x hx
      have hxl := HL.out x (List.mem_of_getElem? hx)
      have HR := Lib.hid hR
      have HXL := Lib.hid hxl
      have HXk := Lib.hid hx
      clear hR hx hxl
      by_cases heq : x = y
      · have HEQ := Lib.hid heq
        have hsm : Hid (∀ M, Calls Try.prog 17 #[.slice A1' x.length c1', .slice B m d] (w0.drewN M) fun e w' => e = .returned (.bool true) ∧ ∃ k, w' = w0.drewN k) := fun M => same_at HR.out HY.out HXL.out (decide_eq_true HEQ.out) M
        clear heq
        go_wp2_with (go_at_call 17; refine (hsm.out _).mono ?_; rintro e w6 ⟨rfl, m6, rfl⟩)
        go_ret
        have hmem : y ∈ Xs := by rw [← HEQ.out]; exact List.mem_of_getElem? HXk.out
        exact ⟨by rw [decide_eq_true hmem]; rfl, _, by rw [← HW.out, World.drewN_drewN]⟩
      · have hsm : Hid (∀ M, Calls Try.prog 17 #[.slice A1' x.length c1', .slice B m d] (w0.drewN M) fun e w' => e = .returned (.bool false) ∧ ∃ k, w' = w0.drewN k) := fun M => same_at HR.out HY.out HXL.out (decide_eq_false heq) M
        have HN2 : Hid (∀ j x, j < k + 1 → Xs[j]? = some x → x ≠ y) := fun j x' hj hx' => by
          by_cases ej : j = k
          · subst ej
            rw [HXk.out] at hx'
            cases hx'
            exact heq
          · exact HNE.out j x' (by omega) hx'
        clear heq
        go_wp2_with (go_at_call 17; refine (hsm.out _).mono ?_; rintro e w6 ⟨rfl, m6, rfl⟩)
        go_roundw
        case rel => exact ⟨k + 1, _, hlt, by go_num, HN2.out, rfl⟩
        case measure => simp [intOf]; omega
    · obtain rfl : k = Xs.length := by omega
      have hmem : ¬ y ∈ Xs := fun h => by
        obtain ⟨j, hj⟩ := List.getElem?_of_mem h
        exact HNE.out j y (List.getElem?_eq_some_iff.1 hj).1 hj rfl
      have HM := Lib.hid hmem
      clear hmem
      go_wp2
      go_ret
      exact ⟨by rw [decide_eq_false HM.out]; rfl, _, by rw [← HW.out, World.drewN_drewN]⟩
end Go.Proofs.Ytekgdlpicgibhab.EX
