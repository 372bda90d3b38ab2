/-
  A call as the reference writes it (PrintCall, call).
-/
import Derived.Test.YtekgdlpicgibhabDoorV3
import Derived.Test.YtekgdlpicgibhabDoorV4
import Derived.Laws.Rows
namespace Go.Proofs.YtekgdlpicgibhabDoor.SH
open Go.RowKit Go.Proofs.YtekgdlpicgibhabDoorW.PrintWords PT PWorldShows

/-- What either PrintCall answers. -/
def PrintPost (c : Cl) (w : World) (e : Ending) (w' : World) : Prop :=
  ∃ (s : ByteArray) (n : Int), e = .returned (.tuple #[.string s, .int .i64 n]) ∧ ((okC c ∧ (textC c).length ≤ 1048576) ∧ n = 0 ∧ s = by_ (textC c) ∨ ¬ (okC c ∧ (textC c).length ≤ 1048576) ∧ n ≠ 0) ∧ Below w.heap.size w w'

theorem textC_le {w : World} {c : Cl} {A : Option Addr} {cap : Nat} (h : ClIn w c A cap) : (textC c).length ≤ 16777300 := by
  unfold textC
  have g1 := nameOf_len c.op
  rw [← forms_same]
  have g2 := spaced_le_of ((formR c.op).map (wordOf c)) 4194306 (fun x hx => by
    rw [List.mem_map] at hx
    obtain ⟨l, _, rfl⟩ := hx
    exact wordOf_le h l)
  have g3 : ((formR c.op).map (wordOf c)).length ≤ 4 := by rw [List.length_map]; exact formR_len _
  have g4 := Nat.mul_le_mul_left 4194307 g3
  simp only [List.length_append]
  omega

theorem cells9 {w : World} {g : Nat} {a0 a1 a2 a3 a4 a5 a6 a7 a8 : Value} {t : TypeId} {fr : Nat × Nat} (h : w.heap[g]? = some (.cells #[a0, a1, a2, a3, a4, a5, a6, a7, a8] t fr)) :
    w.cell? ⟨g, 0, none⟩ = some a0 ∧ w.cell? ⟨g, 1, none⟩ = some a1 ∧ w.cell? ⟨g, 2, none⟩ = some a2 ∧ w.cell? ⟨g, 3, none⟩ = some a3 ∧ w.cell? ⟨g, 4, none⟩ = some a4 ∧ w.cell? ⟨g, 5, none⟩ = some a5 ∧ w.cell? ⟨g, 6, none⟩ = some a6 ∧ w.cell? ⟨g, 7, none⟩ = some a7 ∧ w.cell? ⟨g, 8, none⟩ = some a8 :=
  ⟨cellB h 0, cellB h 1, cellB h 2, cellB h 3, cellB h 4, cellB h 5, cellB h 6, cellB h 7, cellB h 8⟩
set_option maxRecDepth 100000 in
set_option maxHeartbeats 8000000 in
theorem print20 {B : Nat} (c : Cl) (A : Option Addr) (cap : Nat) (w : World) (hT : Tabs B w) (hB : B ≤ w.heap.size) (hc : ClIn w c A cap) :
    Calls Tryd.prog 20 #[.agg (c.cells A cap).toArray] w (PrintPost c w) := by
  have e0 : (nameOf c.op ++ spaced ((formR c.op).map (wordOf c))) = textC c := by rw [forms_same]; rfl
  have htl := textC_le hc
  obtain ⟨T, hT1⟩ : ∃ T, T = by_ (textC c) := ⟨_, rfl⟩
  have hTs : T.size = (textC c).length := by rw [hT1, by_size]
  have HT := Lib.hid hT
  have HB := Lib.hid hB
  have HC := Lib.hid hc
  have HX := Lib.hid hT1
  clear hT hB hc hT1
  have H31 := Lib.hid (fun (w1 : World) h1 h2 => callErr31 (B := B) c A cap w1 h1 h2)
  have H32 := Lib.hid (fun (w1 : World) h1 h2 h3 h4 => callText32 (B := B) c A cap w1 h1 h2 h3 h4)
  have hcc : c.cells A cap = [.int .i64 c.op, .int .i64 c.h, .int .i64 c.h2, .int .i64 c.off, .int .i64 c.len, .string c.path, .string c.name, .string c.name2, .slice A c.data.length cap] := rfl
  rw [hcc] at H31 H32 ⊢
  clear hcc
  have E0 := Lib.hid e0
  by_cases hok : okC c
  · by_cases hl : (textC c).length ≤ 1048576
    · have hd : decide (1048576 < (T.size : Int)) = false := decide_eq_false (by omega)
      have hTb : T.size ≤ 9223372036854775807 := by omega
      have HL := Lib.hid hl
      clear hTs e0 htl hl
      go_enter Tryd.func20, Tryd.ntmps20
      go_wp2_with (first | (go_at_call 31; refine (H31.out _ (HT.out.on_up HB.out (below_alloc (Below.refl _ w) _)) (Nat.le_trans HB.out (by rw [alloc_size]; omega))).mono ?_; rintro e w1 ⟨n, rfl, hn, hb⟩; obtain rfl := hn.2 hok; have hblk := (hb.block w.heap.size (by rw [alloc_size]; omega)).trans (heap_alloc_new w _)) | (refine wpList_load_row rfl 25 _ rfl w.heap.size rfl 25 _ _ _ hblk Tryd.underlying25 rfl (by kernel_rfl) ?_; go_simp) | (go_at_call 32; refine (H32.out _ (HT.out.on_up HB.out (below_then (below_alloc (Below.refl _ w) _) (by rw [alloc_size]; omega) hb)) (Nat.le_trans HB.out (Nat.le_trans (by rw [alloc_size]; omega) hb.size)) (HC.out.on (below_then (below_alloc (Below.refl _ w) _) (by rw [alloc_size]; omega) hb)) hok.1).mono ?_; rw [E0.out, ← HX.out]; rintro e w2 ⟨rfl, hb2⟩; clear hblk hn))
      go_ret2
      exact ⟨T, 0, rfl, .inl ⟨⟨hok, HL.out⟩, rfl, HX.out⟩, below_then (below_then (below_alloc (Below.refl _ w) _) (by rw [alloc_size]; omega) hb) (Nat.le_trans (by rw [alloc_size]; omega) hb.size) hb2⟩
    · have hd : decide (1048576 < (T.size : Int)) = true := decide_eq_true (by omega)
      have hTb : T.size ≤ 9223372036854775807 := by omega
      have HL := Lib.hid hl
      clear hTs e0 htl hl
      go_enter Tryd.func20, Tryd.ntmps20
      go_wp2_with (first | (go_at_call 31; refine (H31.out _ (HT.out.on_up HB.out (below_alloc (Below.refl _ w) _)) (Nat.le_trans HB.out (by rw [alloc_size]; omega))).mono ?_; rintro e w1 ⟨n, rfl, hn, hb⟩; obtain rfl := hn.2 hok; have hblk := (hb.block w.heap.size (by rw [alloc_size]; omega)).trans (heap_alloc_new w _)) | (refine wpList_load_row rfl 25 _ rfl w.heap.size rfl 25 _ _ _ hblk Tryd.underlying25 rfl (by kernel_rfl) ?_; go_simp) | (go_at_call 32; refine (H32.out _ (HT.out.on_up HB.out (below_then (below_alloc (Below.refl _ w) _) (by rw [alloc_size]; omega) hb)) (Nat.le_trans HB.out (Nat.le_trans (by rw [alloc_size]; omega) hb.size)) (HC.out.on (below_then (below_alloc (Below.refl _ w) _) (by rw [alloc_size]; omega) hb)) hok.1).mono ?_; rw [E0.out, ← HX.out]; rintro e w2 ⟨rfl, hb2⟩; clear hblk hn))
      go_ret2
      exact ⟨_, 216, rfl, .inr ⟨fun h => HL.out h.2, by decide⟩, below_then (below_then (below_alloc (Below.refl _ w) _) (by rw [alloc_size]; omega) hb) (Nat.le_trans (by rw [alloc_size]; omega) hb.size) hb2⟩
  · clear hTs e0 htl
    go_enter Tryd.func20, Tryd.ntmps20
    go_wp2_with (go_at_call 31; refine (H31.out _ (HT.out.on_up HB.out (below_alloc (Below.refl _ w) _)) (Nat.le_trans HB.out (by rw [alloc_size]; omega))).mono ?_; rintro e w1 ⟨n, rfl, hn, hb⟩; have hne : (n == 0) = false := beq_eq_false_iff_ne.2 (fun e => hok (hn.1 e)))
    go_ret2
    exact ⟨_, n, rfl, .inr ⟨fun h => hok h.1, fun e => hok (hn.1 e)⟩, below_then (below_alloc (Below.refl _ w) _) (by rw [alloc_size]; omega) hb⟩

theorem callB_yes {c : Cl} (h : okC c ∧ (textC c).length ≤ 1048576) : callB c = textC c := by unfold callB; exact if_pos h
theorem callB_no {c : Cl} (h : ¬ (okC c ∧ (textC c).length ≤ 1048576)) : callB c = [63] := by unfold callB; exact if_neg h
set_option maxRecDepth 100000 in
set_option maxHeartbeats 8000000 in
theorem call12 {B : Nat} (c : Cl) (A : Option Addr) (cap : Nat) (w : World) (hT : Tabs B w) (hB : B ≤ w.heap.size) (hc : ClIn w c A cap) :
    Calls Tryd.prog 12 #[.agg (c.cells A cap).toArray] w fun e w' => e = .returned (.string (by_ (callB c))) ∧ Below w.heap.size w w' := by
  have H20 := Lib.hid (print20 (B := B) c A cap (w.alloc (.cells (c.cells A cap).toArray 25)) (hT.on_up hB (below_alloc (Below.refl _ w) _)) (Nat.le_trans hB (by rw [alloc_size]; omega)) (hc.on (below_alloc (Below.refl _ w) _)))
  clear hT hB hc
  have hcc : c.cells A cap = [.int .i64 c.op, .int .i64 c.h, .int .i64 c.h2, .int .i64 c.off, .int .i64 c.len, .string c.path, .string c.name, .string c.name2, .slice A c.data.length cap] := rfl
  rw [hcc] at H20 ⊢
  clear hcc
  by_cases hok : okC c ∧ (textC c).length ≤ 1048576
  · have HK := Lib.hid hok
    clear hok
    go_enter Tryd.func12, Tryd.ntmps12
    go_wp2_with (go_at_call 20; refine H20.out.mono ?_; rintro e w1 ⟨s, n, rfl, hn, hb⟩; obtain ⟨_, rfl, rfl⟩ := hn.resolve_right (fun h => h.1 HK.out); clear hn)
    go_ret
    exact ⟨by rw [callB_yes HK.out] <;> rfl, below_then (below_alloc (Below.refl _ w) _) (by rw [alloc_size]; omega) hb⟩
  · have HK := Lib.hid hok
    clear hok
    go_enter Tryd.func12, Tryd.ntmps12
    go_wp2_with (go_at_call 20; refine H20.out.mono ?_; rintro e w1 ⟨s, n, rfl, hn, hb⟩; obtain ⟨_, hn0⟩ := hn.resolve_left (fun h => HK.out h.1); have hne : (n == 0) = false := beq_eq_false_iff_ne.2 hn0; clear hn hn0)
    go_ret
    exact ⟨by rw [callB_no HK.out] <;> rfl, below_then (below_alloc (Below.refl _ w) _) (by rw [alloc_size]; omega) hb⟩
end Go.Proofs.YtekgdlpicgibhabDoor.SH
