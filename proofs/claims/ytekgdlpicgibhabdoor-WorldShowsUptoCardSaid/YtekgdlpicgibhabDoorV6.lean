/-
  The program's cell and put: which field a letter stands for, and filling it.
-/
import Derived.Test.YtekgdlpicgibhabDoorV4
namespace Go.Proofs.YtekgdlpicgibhabDoor.SH
open Go.RowKit Go.Proofs.YtekgdlpicgibhabDoorW.PrintWords PT

theorem unfrozenB {w : World} {g : Nat} {cs : Array Value} {t : TypeId} (h : w.heap[g]? = some (.cells cs t (0, 0))) (i : Nat) : w.frozen? ⟨g, i, none⟩ = false := by simp [World.frozen?, h]
theorem cell26_h (g : Nat) (w : World) : Calls Tryd.prog 26 #[.pointer (some ⟨g, 0, none⟩), .int .u8 104] w fun e w' => e = .returned (.pointer (some ⟨g, 1, none⟩)) ∧ w' = w := by
  go_enter Tryd.func26, Tryd.ntmps26
  go_wp2
  go_ret
  exact ⟨rfl, rfl⟩
theorem cell26_i (g : Nat) (w : World) : Calls Tryd.prog 26 #[.pointer (some ⟨g, 0, none⟩), .int .u8 105] w fun e w' => e = .returned (.pointer (some ⟨g, 2, none⟩)) ∧ w' = w := by
  go_enter Tryd.func26, Tryd.ntmps26
  go_wp2
  go_ret
  exact ⟨rfl, rfl⟩
theorem cell26_o (g : Nat) (w : World) : Calls Tryd.prog 26 #[.pointer (some ⟨g, 0, none⟩), .int .u8 111] w fun e w' => e = .returned (.pointer (some ⟨g, 3, none⟩)) ∧ w' = w := by
  go_enter Tryd.func26, Tryd.ntmps26
  go_wp2
  go_ret
  exact ⟨rfl, rfl⟩
theorem cell26_l (g : Nat) (w : World) : Calls Tryd.prog 26 #[.pointer (some ⟨g, 0, none⟩), .int .u8 108] w fun e w' => e = .returned (.pointer (some ⟨g, 4, none⟩)) ∧ w' = w := by
  go_enter Tryd.func26, Tryd.ntmps26
  go_wp2
  go_ret
  exact ⟨rfl, rfl⟩
theorem cell26_t (g : Nat) (l : Int) (hl : l = 112 ∨ l = 110 ∨ l = 50 ∨ l = 100) (w : World) : Calls Tryd.prog 26 #[.pointer (some ⟨g, 0, none⟩), .int .u8 l] w fun e w' => e = .returned (.pointer none) ∧ w' = w := by
  rcases hl with rfl | rfl | rfl | rfl
  all_goals
    go_enter Tryd.func26, Tryd.ntmps26
    go_wp2
    go_ret
    exact ⟨rfl, rfl⟩

set_option maxRecDepth 100000
theorem put28_p (g : Nat) (cs : Array Value) (s : ByteArray) (w : World) (hb : w.heap[g]? = some (.cells cs 25 (0, 0))) (h9 : cs.size = 9) :
    Calls Tryd.prog 28 #[.pointer (some ⟨g, 0, none⟩), .int .u8 112, .string s] w fun e w' => e = .returned (.tuple #[]) ∧ w' = w.setCell ⟨g, 5, none⟩ (.string s) := by
  obtain ⟨v, hv⟩ : ∃ v, cs[5]? = some v := ⟨cs[5], by simp [h9]⟩
  have hv5 := (cellB hb 5).trans hv
  have hf5 := unfrozenB hb 5
  go_enter Tryd.func28, Tryd.ntmps28
  go_wp2
  refine bodyPost_end (results_none rfl _ _ _) rfl ?_
  exact ⟨rfl, rfl⟩
theorem put28_n (g : Nat) (cs : Array Value) (s : ByteArray) (w : World) (hb : w.heap[g]? = some (.cells cs 25 (0, 0))) (h9 : cs.size = 9) :
    Calls Tryd.prog 28 #[.pointer (some ⟨g, 0, none⟩), .int .u8 110, .string s] w fun e w' => e = .returned (.tuple #[]) ∧ w' = w.setCell ⟨g, 6, none⟩ (.string s) := by
  obtain ⟨v, hv⟩ : ∃ v, cs[6]? = some v := ⟨cs[6], by simp [h9]⟩
  have hv5 := (cellB hb 6).trans hv
  have hf5 := unfrozenB hb 6
  go_enter Tryd.func28, Tryd.ntmps28
  go_wp2
  refine bodyPost_end (results_none rfl _ _ _) rfl ?_
  exact ⟨rfl, rfl⟩
theorem put28_t (g : Nat) (cs : Array Value) (s : ByteArray) (w : World) (hb : w.heap[g]? = some (.cells cs 25 (0, 0))) (h9 : cs.size = 9) :
    Calls Tryd.prog 28 #[.pointer (some ⟨g, 0, none⟩), .int .u8 50, .string s] w fun e w' => e = .returned (.tuple #[]) ∧ w' = w.setCell ⟨g, 7, none⟩ (.string s) := by
  obtain ⟨v, hv⟩ : ∃ v, cs[7]? = some v := ⟨cs[7], by simp [h9]⟩
  have hv5 := (cellB hb 7).trans hv
  have hf5 := unfrozenB hb 7
  go_enter Tryd.func28, Tryd.ntmps28
  go_wp2
  refine bodyPost_end (results_none rfl _ _ _) rfl ?_
  exact ⟨rfl, rfl⟩
theorem put28_d (g : Nat) (cs : Array Value) (s : ByteArray) (w : World) (hb : w.heap[g]? = some (.cells cs 25 (0, 0))) (h9 : cs.size = 9) (hs : s.size ≤ 1048576) :
    Calls Tryd.prog 28 #[.pointer (some ⟨g, 0, none⟩), .int .u8 100, .string s] w fun e w' => e = .returned (.tuple #[]) ∧ ∃ (A : Option Addr) (c : Nat) (w1 : World), Below w.heap.size w w1 ∧ Kd.C (Kd.int .u8) w1 A s.size (bytesOf s) ∧ (∀ ad, A = some ad → w.heap.size ≤ ad.block) ∧ s.size ≤ c ∧ w' = w1.setCell ⟨g, 8, none⟩ (.slice A s.size c) := by
  have hg : g < w.heap.size := by
    rcases Nat.lt_or_ge g w.heap.size with h' | h'
    · exact h'
    · rw [Array.getElem?_eq_none h'] at hb; cases hb
  have hb2 := (Lib.bytesWorld_at_old w 5 s g hg).trans hb
  obtain ⟨v, hv⟩ : ∃ v, cs[8]? = some v := ⟨cs[8], by simp [h9]⟩
  have hv5 := (cellB hb2 8).trans hv
  have hf5 := unfrozenB hb2 8
  have hcv := Lib.run_convert_string_bytes (P := Tryd.prog) w 9 23 5 s Tryd.underlying9 Tryd.underlying23 Tryd.underlying5
  obtain ⟨gc, hgc⟩ : ∃ gc, grownCap w s.size 0 5 = gc := ⟨_, rfl⟩
  rw [hgc] at hcv
  obtain ⟨w1, hw1⟩ : ∃ w1, w1 = Lib.bytesWorld w 5 s := ⟨_, rfl⟩
  have HW := Lib.hid hw1
  rw [← hw1] at hcv hv5 hf5
  clear hw1 hb2 hb hv
  go_enter Tryd.func28, Tryd.ntmps28
  go_wp2
  refine bodyPost_end (results_none rfl _ _ _) rfl ?_
  refine ⟨rfl, _, _, w1, ?_, ?_, ?_, ?_, rfl⟩
  · rw [HW.out]; exact bytes_below (Below.refl _ _) (Nat.le_refl _) 5 s
  · rw [HW.out]; exact Kd.C_of_reads (enc := Value.int .u8) (d := (0 : Int)) (bytes_reads w 5 s (by omega))
  · rintro ad ⟨⟩; exact Nat.le_refl _
  · rw [← hgc]; exact grownCap_ge _ _ _ _
end Go.Proofs.YtekgdlpicgibhabDoor.SH
