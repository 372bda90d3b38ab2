/-
  An event's line, as the reference writes it (Show).
-/
import Derived.Test.YtekgdlpicgibhabDoorV12
namespace Go.Proofs.YtekgdlpicgibhabDoor.SH
open Go.RowKit Go.Proofs.YtekgdlpicgibhabDoorW.PrintWords PT PWorldShows

theorem line_nums (s : List UInt8) (l : List Int) : by_ s ++ by_ (spaced (l.map Lib.itoa)) = by_ (wordsT (.txt (by_ s) :: l.map Wd.num)) := by
  rw [by_app, wordsT_cons]
  simp [Wd.text, by_data, List.map_map, Function.comp_def]
theorem line_last (s : List UInt8) (l : List Int) (X : ByteArray) : by_ s ++ by_ (spaced (l.map Lib.itoa)) ++ ⟨#[32]⟩ ++ X = by_ (wordsT (.txt (by_ s) :: (l.map Wd.num ++ [.txt X]))) := by
  have e : X = by_ X.data.toList := (by_toList X).symm
  conv => lhs; rw [e]
  rw [by_app, show (⟨#[32]⟩ : ByteArray) = by_ [32] from rfl, by_app, by_app, wordsT_cons]
  congr 1
  simp [Wd.text, by_data, List.map_map, Function.comp_def, spaced]
theorem line_ret (a : Int) (r : Rs) : by_ [114, 101, 116, 117, 114, 110, 101, 100] ++ by_ (spaced ([a].map Lib.itoa)) ++ by_ (resText r) = by_ (wordsT (retHead a r ++ rowW r.list)) := by
  rw [by_app, by_app, ret_text]
  rfl
theorem resTo_le2 {w : World} {r : Rs} {A : Option Addr} {c : Nat} {L : Option Addr} {d : Nat} (h : RsIn w r A c L d) : (resText r).length ≤ 140737488355328 := by
  rw [← resTo_all]; exact resTo_le h _
set_option maxRecDepth 100000 in
set_option maxHeartbeats 8000000 in
theorem show5_1 {B : Nat} (e : Ev) (p : At) (w : World) (hT : Tabs B w) (hB : B ≤ w.heap.size) (he : EvIn w e p) (hk : e.kind = 1) :
    Calls Tryd.prog 5 #[.agg (e.cells p).toArray] w fun r w' => r = .returned (.string (by_ (wordsT (ev1 e)))) ∧ Below w.heap.size w w' := by
  have t1 : (e.kind == 1) = true := beq_iff_eq.2 hk
  have hA := below_alloc (Below.refl w.heap.size w) (.cells (e.cells p).toArray 38)
  have hblk := Go.heap_alloc_new w (.cells (e.cells p).toArray 38)
  obtain ⟨w1, hw1⟩ : ∃ w1, w1 = w.alloc (.cells (e.cells p).toArray 38) := ⟨_, rfl⟩
  rw [← hw1] at hA hblk
  have y1 : w1.cell? ⟨w.heap.size, 1, none⟩ = some (.int .i64 e.a) := (cellB hblk 1).trans (by unfold Ev.cells; rfl)
  have y2 : w1.cell? ⟨w.heap.size, 2, none⟩ = some (.int .i64 e.k) := (cellB hblk 2).trans (by unfold Ev.cells; rfl)
  have y4 : w1.cell? ⟨w.heap.size, 4, none⟩ = some (.int .i64 e.code) := (cellB hblk 4).trans (by unfold Ev.cells; rfl)
  unfold Ev.cells at hw1
  have HW := Lib.hid hw1
  have HT := Lib.hid hT
  have HB := Lib.hid hB
  have HE := Lib.hid he
  have HA := Lib.hid hA
  clear hT hB he hA hblk hk hw1
  unfold Ev.cells
  go_enter Tryd.func5, Tryd.ntmps5
  go_upto_region 3 with (fail)
  rw [← HW.out]
  obtain ⟨T, hT1⟩ : ∃ T, T = by_ (spaced ([e.a, e.k, e.code].map Lib.itoa)) := ⟨_, rfl⟩
  have hrr : ∀ x ∈ [e.a, e.k, e.code], IntR x := (by intro x hx; simp only [List.mem_cons, List.not_mem_nil, or_false] at hx; rcases hx with rfl | rfl | rfl; exact HE.out.a; exact HE.out.k; exact HE.out.code)
  have hTs : T.size ≤ 22 * 3 := by rw [hT1, by_size]; exact spaced_le _ hrr
  have HRR := Lib.hid hrr
  have HT1 := Lib.hid hT1
  clear hrr hT1
  have H11 := Lib.hid (nums_later (B := B) [e.a, e.k, e.code] w1 (w1.alloc (.cells #[.int .i64 e.a, .int .i64 e.k, .int .i64 e.code] 3)) #[.int .i64 e.a, .int .i64 e.k, .int .i64 e.code] 3 3 3 rfl rfl (Below.refl _ _) (HT.out.on_up HB.out HA.out) (Nat.le_trans HB.out HA.out.size) (by simp) HRR.out)
  rw [← HT1.out] at H11
  go_wp2_with (go_at_call 11; refine H11.out.mono ?_; rintro e6 w6 ⟨rfl, hd6⟩)
  go_ret
  exact ⟨congrArg (fun t => Ending.returned (.string t)) (by rw [HT1.out]; exact line_nums [114, 101, 102, 117, 115, 101, 100] [e.a, e.k, e.code]), chain1 HA.out hd6⟩
set_option maxRecDepth 100000 in
set_option maxHeartbeats 8000000 in
theorem show5_2 {B : Nat} (e : Ev) (p : At) (w : World) (hT : Tabs B w) (hB : B ≤ w.heap.size) (he : EvIn w e p) (hk : e.kind = 2) :
    Calls Tryd.prog 5 #[.agg (e.cells p).toArray] w fun r w' => r = .returned (.string (by_ (wordsT (ev2 e)))) ∧ Below w.heap.size w w' := by
  have t1 : (e.kind == 1) = false := beq_eq_false_iff_ne.2 (by omega)
  have t2 : (e.kind == 2) = true := beq_iff_eq.2 hk
  have hA := below_alloc (Below.refl w.heap.size w) (.cells (e.cells p).toArray 38)
  have hblk := Go.heap_alloc_new w (.cells (e.cells p).toArray 38)
  obtain ⟨w1, hw1⟩ : ∃ w1, w1 = w.alloc (.cells (e.cells p).toArray 38) := ⟨_, rfl⟩
  rw [← hw1] at hA hblk
  have y1 : w1.cell? ⟨w.heap.size, 1, none⟩ = some (.int .i64 e.a) := (cellB hblk 1).trans (by unfold Ev.cells; rfl)
  have y2 : w1.cell? ⟨w.heap.size, 2, none⟩ = some (.int .i64 e.k) := (cellB hblk 2).trans (by unfold Ev.cells; rfl)
  have y5 : w1.cell? ⟨w.heap.size, 5, none⟩ = some (.int .i64 e.call.op) := (cellB hblk 5).trans (by unfold Ev.cells; rfl)
  have y6 : w1.cell? ⟨w.heap.size, 6, none⟩ = some (.int .i64 e.call.h) := (cellB hblk 6).trans (by unfold Ev.cells; rfl)
  have y7 : w1.cell? ⟨w.heap.size, 7, none⟩ = some (.int .i64 e.call.h2) := (cellB hblk 7).trans (by unfold Ev.cells; rfl)
  have y8 : w1.cell? ⟨w.heap.size, 8, none⟩ = some (.int .i64 e.call.off) := (cellB hblk 8).trans (by unfold Ev.cells; rfl)
  have y9 : w1.cell? ⟨w.heap.size, 9, none⟩ = some (.int .i64 e.call.len) := (cellB hblk 9).trans (by unfold Ev.cells; rfl)
  have y10 : w1.cell? ⟨w.heap.size, 10, none⟩ = some (.string e.call.path) := (cellB hblk 10).trans (by unfold Ev.cells; rfl)
  have y11 : w1.cell? ⟨w.heap.size, 11, none⟩ = some (.string e.call.name) := (cellB hblk 11).trans (by unfold Ev.cells; rfl)
  have y12 : w1.cell? ⟨w.heap.size, 12, none⟩ = some (.string e.call.name2) := (cellB hblk 12).trans (by unfold Ev.cells; rfl)
  have y13 : w1.cell? ⟨w.heap.size, 13, none⟩ = some (.slice p.A1 e.call.data.length p.c1) := (cellB hblk 13).trans (by unfold Ev.cells; rfl)
  unfold Ev.cells at hw1
  have HW := Lib.hid hw1
  have HT := Lib.hid hT
  have HB := Lib.hid hB
  have HE := Lib.hid he
  have HA := Lib.hid hA
  clear hT hB he hA hblk hk hw1
  unfold Ev.cells
  go_enter Tryd.func5, Tryd.ntmps5
  go_upto_region 5 with (fail)
  rw [← HW.out]
  obtain ⟨T, hT1⟩ : ∃ T, T = by_ (spaced ([e.a, e.k].map Lib.itoa)) := ⟨_, rfl⟩
  have hrr : ∀ x ∈ [e.a, e.k], IntR x := (by intro x hx; simp only [List.mem_cons, List.not_mem_nil, or_false] at hx; rcases hx with rfl | rfl; exact HE.out.a; exact HE.out.k)
  have hTs : T.size ≤ 22 * 2 := by rw [hT1, by_size]; exact spaced_le _ hrr
  have HRR := Lib.hid hrr
  have HT1 := Lib.hid hT1
  clear hrr hT1
  have hX : (by_ (callB e.call)).size ≤ 140737488355328 := by rw [by_size]; exact Nat.le_trans (callB_le e.call) (by omega)
  have k1 : ¬ (9223372036854775807 < 7 + T.size) := by omega
  have k2 : ¬ (9223372036854775807 < 7 + T.size + 1) := by omega
  obtain ⟨X, hX1⟩ : ∃ X, X = (by_ (callB e.call)) := ⟨_, rfl⟩
  rw [← hX1] at hX
  have k3 : ¬ (9223372036854775807 < 7 + T.size + 1 + X.size) := by omega
  have HX1 := Lib.hid hX1
  clear hX1
  have hu25 := Tryd.underlying25
  go_region_held3 (fun W => W.cell? ⟨w.heap.size, 1, none⟩ = some (.int .i64 e.a) ∧ W.cell? ⟨w.heap.size, 2, none⟩ = some (.int .i64 e.k) ∧ W.cell? ⟨w.heap.size, 5, none⟩ = some (.int .i64 e.call.op) ∧ W.cell? ⟨w.heap.size, 6, none⟩ = some (.int .i64 e.call.h) ∧ W.cell? ⟨w.heap.size, 7, none⟩ = some (.int .i64 e.call.h2) ∧ W.cell? ⟨w.heap.size, 8, none⟩ = some (.int .i64 e.call.off) ∧ W.cell? ⟨w.heap.size, 9, none⟩ = some (.int .i64 e.call.len) ∧ W.cell? ⟨w.heap.size, 10, none⟩ = some (.string e.call.path) ∧ W.cell? ⟨w.heap.size, 11, none⟩ = some (.string e.call.name) ∧ W.cell? ⟨w.heap.size, 12, none⟩ = some (.string e.call.name2) ∧ W.cell? ⟨w.heap.size, 13, none⟩ = some (.slice p.A1 e.call.data.length p.c1)) (first | exact ⟨y1, y2, y5, y6, y7, y8, y9, y10, y11, y12, y13⟩ | assumption | (have hs := ‹_ ∧ _ ∧ _ ∧ _ ∧ _ ∧ _ ∧ _ ∧ _ ∧ _ ∧ _ ∧ _›; first | exact ⟨cell_on hd6 hs.1, cell_on hd6 hs.2.1, cell_on hd6 hs.2.2.1, cell_on hd6 hs.2.2.2.1, cell_on hd6 hs.2.2.2.2.1, cell_on hd6 hs.2.2.2.2.2.1, cell_on hd6 hs.2.2.2.2.2.2.1, cell_on hd6 hs.2.2.2.2.2.2.2.1, cell_on hd6 hs.2.2.2.2.2.2.2.2.1, cell_on hd6 hs.2.2.2.2.2.2.2.2.2.1, cell_on hd6 hs.2.2.2.2.2.2.2.2.2.2⟩ | exact ⟨cell_on (below_alloc (Below.refl _ _) _) hs.1, cell_on (below_alloc (Below.refl _ _) _) hs.2.1, cell_on (below_alloc (Below.refl _ _) _) hs.2.2.1, cell_on (below_alloc (Below.refl _ _) _) hs.2.2.2.1, cell_on (below_alloc (Below.refl _ _) _) hs.2.2.2.2.1, cell_on (below_alloc (Below.refl _ _) _) hs.2.2.2.2.2.1, cell_on (below_alloc (Below.refl _ _) _) hs.2.2.2.2.2.2.1, cell_on (below_alloc (Below.refl _ _) _) hs.2.2.2.2.2.2.2.1, cell_on (below_alloc (Below.refl _ _) _) hs.2.2.2.2.2.2.2.2.1, cell_on (below_alloc (Below.refl _ _) _) hs.2.2.2.2.2.2.2.2.2.1, cell_on (below_alloc (Below.refl _ _) _) hs.2.2.2.2.2.2.2.2.2.2⟩ | exact ⟨cell_on hdX hs.1, cell_on hdX hs.2.1, cell_on hdX hs.2.2.1, cell_on hdX hs.2.2.2.1, cell_on hdX hs.2.2.2.2.1, cell_on hdX hs.2.2.2.2.2.1, cell_on hdX hs.2.2.2.2.2.2.1, cell_on hdX hs.2.2.2.2.2.2.2.1, cell_on hdX hs.2.2.2.2.2.2.2.2.1, cell_on hdX hs.2.2.2.2.2.2.2.2.2.1, cell_on hdX hs.2.2.2.2.2.2.2.2.2.2⟩)) (first | (go_at_call 11; refine (nums_later (B := B) [e.a, e.k] w1.drew _ #[.int .i64 e.a, .int .i64 e.k] 3 2 2 rfl rfl (Below.refl _ _) (HT.out.on_up HB.out (below_drew HA.out)) (Nat.le_trans HB.out HA.out.size) (by simp) HRR.out).mono ?_; rw [← HT1.out]; rintro e6 w6 ⟨rfl, hd6⟩) | (go_at_call 12; refine (call12 (B := B) e.call p.A1 p.c1 _ (HT.out.on_up HB.out (below_then HA.out HA.out.size (chain1 (below_drew (Below.refl w1.heap.size w1)) hd6))) (Nat.le_trans HB.out (below_then HA.out HA.out.size (chain1 (below_drew (Below.refl w1.heap.size w1)) hd6)).size) (HE.out.on (below_then HA.out HA.out.size (chain1 (below_drew (Below.refl w1.heap.size w1)) hd6))).call).mono ?_; rw [← HX1.out]; rintro eX wX ⟨rfl, hdX⟩))
  all_goals
    go_wp2_with fail
    go_ret
    exact ⟨congrArg (fun t => Ending.returned (.string t)) (by rw [HT1.out, HX1.out]; exact line_last [115, 116, 97, 114, 116, 101, 100] [e.a, e.k] (by_ (callB e.call))), below_then (below_then HA.out HA.out.size (chain1 (below_drew (Below.refl w1.heap.size w1)) hd6)) (below_then HA.out HA.out.size (chain1 (below_drew (Below.refl w1.heap.size w1)) hd6)).size hdX⟩
set_option maxRecDepth 100000 in
set_option maxHeartbeats 8000000 in
theorem show5_3 {B : Nat} (e : Ev) (p : At) (w : World) (hT : Tabs B w) (hB : B ≤ w.heap.size) (he : EvIn w e p) (hk : e.kind = 3) :
    Calls Tryd.prog 5 #[.agg (e.cells p).toArray] w fun r w' => r = .returned (.string (by_ (wordsT (ev3 e)))) ∧ Below w.heap.size w w' := by
  have t1 : (e.kind == 1) = false := beq_eq_false_iff_ne.2 (by omega)
  have t2 : (e.kind == 2) = false := beq_eq_false_iff_ne.2 (by omega)
  have t3 : (e.kind == 3) = true := beq_iff_eq.2 hk
  have hA := below_alloc (Below.refl w.heap.size w) (.cells (e.cells p).toArray 38)
  have hblk := Go.heap_alloc_new w (.cells (e.cells p).toArray 38)
  obtain ⟨w1, hw1⟩ : ∃ w1, w1 = w.alloc (.cells (e.cells p).toArray 38) := ⟨_, rfl⟩
  rw [← hw1] at hA hblk
  have y1 : w1.cell? ⟨w.heap.size, 1, none⟩ = some (.int .i64 e.a) := (cellB hblk 1).trans (by unfold Ev.cells; rfl)
  have y2 : w1.cell? ⟨w.heap.size, 2, none⟩ = some (.int .i64 e.k) := (cellB hblk 2).trans (by unfold Ev.cells; rfl)
  unfold Ev.cells at hw1
  have HW := Lib.hid hw1
  have HT := Lib.hid hT
  have HB := Lib.hid hB
  have HE := Lib.hid he
  have HA := Lib.hid hA
  clear hT hB he hA hblk hk hw1
  unfold Ev.cells
  go_enter Tryd.func5, Tryd.ntmps5
  go_upto_region 7 with (fail)
  rw [← HW.out]
  obtain ⟨T, hT1⟩ : ∃ T, T = by_ (spaced ([e.a, e.k].map Lib.itoa)) := ⟨_, rfl⟩
  have hrr : ∀ x ∈ [e.a, e.k], IntR x := (by intro x hx; simp only [List.mem_cons, List.not_mem_nil, or_false] at hx; rcases hx with rfl | rfl; exact HE.out.a; exact HE.out.k)
  have hTs : T.size ≤ 22 * 2 := by rw [hT1, by_size]; exact spaced_le _ hrr
  have HRR := Lib.hid hrr
  have HT1 := Lib.hid hT1
  clear hrr hT1
  have H11 := Lib.hid (nums_later (B := B) [e.a, e.k] w1 (w1.alloc (.cells #[.int .i64 e.a, .int .i64 e.k] 3)) #[.int .i64 e.a, .int .i64 e.k] 3 2 2 rfl rfl (Below.refl _ _) (HT.out.on_up HB.out HA.out) (Nat.le_trans HB.out HA.out.size) (by simp) HRR.out)
  rw [← HT1.out] at H11
  go_wp2_with (go_at_call 11; refine H11.out.mono ?_; rintro e6 w6 ⟨rfl, hd6⟩)
  go_ret
  exact ⟨congrArg (fun t => Ending.returned (.string t)) (by rw [HT1.out]; exact line_nums [115, 101, 110, 116] [e.a, e.k]), chain1 HA.out hd6⟩
set_option maxRecDepth 100000 in
set_option maxHeartbeats 8000000 in
theorem show5_4 {B : Nat} (e : Ev) (p : At) (w : World) (hT : Tabs B w) (hB : B ≤ w.heap.size) (he : EvIn w e p) (hk : e.kind = 4) :
    Calls Tryd.prog 5 #[.agg (e.cells p).toArray] w fun r w' => r = .returned (.string (by_ (wordsT (ev4 e)))) ∧ Below w.heap.size w w' := by
  have t1 : (e.kind == 1) = false := beq_eq_false_iff_ne.2 (by omega)
  have t2 : (e.kind == 2) = false := beq_eq_false_iff_ne.2 (by omega)
  have t3 : (e.kind == 3) = false := beq_eq_false_iff_ne.2 (by omega)
  have t4 : (e.kind == 4) = true := beq_iff_eq.2 hk
  have hA := below_alloc (Below.refl w.heap.size w) (.cells (e.cells p).toArray 38)
  have hblk := Go.heap_alloc_new w (.cells (e.cells p).toArray 38)
  obtain ⟨w1, hw1⟩ : ∃ w1, w1 = w.alloc (.cells (e.cells p).toArray 38) := ⟨_, rfl⟩
  rw [← hw1] at hA hblk
  have y2 : w1.cell? ⟨w.heap.size, 2, none⟩ = some (.int .i64 e.k) := (cellB hblk 2).trans (by unfold Ev.cells; rfl)
  unfold Ev.cells at hw1
  have HW := Lib.hid hw1
  have HT := Lib.hid hT
  have HB := Lib.hid hB
  have HE := Lib.hid he
  have HA := Lib.hid hA
  clear hT hB he hA hblk hk hw1
  unfold Ev.cells
  go_enter Tryd.func5, Tryd.ntmps5
  go_upto_region 9 with (fail)
  rw [← HW.out]
  obtain ⟨T, hT1⟩ : ∃ T, T = by_ (spaced ([e.k].map Lib.itoa)) := ⟨_, rfl⟩
  have hrr : ∀ x ∈ [e.k], IntR x := (by intro x hx; simp only [List.mem_cons, List.not_mem_nil, or_false] at hx; subst hx; exact HE.out.k)
  have hTs : T.size ≤ 22 * 1 := by rw [hT1, by_size]; exact spaced_le _ hrr
  have HRR := Lib.hid hrr
  have HT1 := Lib.hid hT1
  clear hrr hT1
  have H11 := Lib.hid (nums_later (B := B) [e.k] w1 (w1.alloc (.cells #[.int .i64 e.k] 3)) #[.int .i64 e.k] 3 1 1 rfl rfl (Below.refl _ _) (HT.out.on_up HB.out HA.out) (Nat.le_trans HB.out HA.out.size) (by simp) HRR.out)
  rw [← HT1.out] at H11
  go_wp2_with (go_at_call 11; refine H11.out.mono ?_; rintro e6 w6 ⟨rfl, hd6⟩)
  go_ret
  exact ⟨congrArg (fun t => Ending.returned (.string t)) (by rw [HT1.out]; exact line_nums [115, 101, 114, 118, 101, 100] [e.k]), chain1 HA.out hd6⟩
set_option maxRecDepth 100000 in
set_option maxHeartbeats 8000000 in
theorem show5_5 {B : Nat} (e : Ev) (p : At) (w : World) (hT : Tabs B w) (hB : B ≤ w.heap.size) (he : EvIn w e p) (hk : e.kind = 5) :
    Calls Tryd.prog 5 #[.agg (e.cells p).toArray] w fun r w' => r = .returned (.string (by_ (wordsT (ev5 e)))) ∧ Below w.heap.size w w' := by
  have t1 : (e.kind == 1) = false := beq_eq_false_iff_ne.2 (by omega)
  have t2 : (e.kind == 2) = false := beq_eq_false_iff_ne.2 (by omega)
  have t3 : (e.kind == 3) = false := beq_eq_false_iff_ne.2 (by omega)
  have t4 : (e.kind == 4) = false := beq_eq_false_iff_ne.2 (by omega)
  have t5 : (e.kind == 5) = true := beq_iff_eq.2 hk
  have hA := below_alloc (Below.refl w.heap.size w) (.cells (e.cells p).toArray 38)
  have hblk := Go.heap_alloc_new w (.cells (e.cells p).toArray 38)
  obtain ⟨w1, hw1⟩ : ∃ w1, w1 = w.alloc (.cells (e.cells p).toArray 38) := ⟨_, rfl⟩
  rw [← hw1] at hA hblk
  have y1 : w1.cell? ⟨w.heap.size, 1, none⟩ = some (.int .i64 e.a) := (cellB hblk 1).trans (by unfold Ev.cells; rfl)
  have y14 : w1.cell? ⟨w.heap.size, 14, none⟩ = some (.int .i64 e.res.call) := (cellB hblk 14).trans (by unfold Ev.cells; rfl)
  have y15 : w1.cell? ⟨w.heap.size, 15, none⟩ = some (.int .i64 e.res.op) := (cellB hblk 15).trans (by unfold Ev.cells; rfl)
  have y16 : w1.cell? ⟨w.heap.size, 16, none⟩ = some (.int .i64 e.res.status) := (cellB hblk 16).trans (by unfold Ev.cells; rfl)
  have y17 : w1.cell? ⟨w.heap.size, 17, none⟩ = some (.int .i64 e.res.handle) := (cellB hblk 17).trans (by unfold Ev.cells; rfl)
  have y18 : w1.cell? ⟨w.heap.size, 18, none⟩ = some (.int .i64 e.res.aid) := (cellB hblk 18).trans (by unfold Ev.cells; rfl)
  have y19 : w1.cell? ⟨w.heap.size, 19, none⟩ = some (.int .i64 e.res.akind) := (cellB hblk 19).trans (by unfold Ev.cells; rfl)
  have y20 : w1.cell? ⟨w.heap.size, 20, none⟩ = some (.int .i64 e.res.asize) := (cellB hblk 20).trans (by unfold Ev.cells; rfl)
  have y21 : w1.cell? ⟨w.heap.size, 21, none⟩ = some (.int .i64 e.res.achange) := (cellB hblk 21).trans (by unfold Ev.cells; rfl)
  have y22 : w1.cell? ⟨w.heap.size, 22, none⟩ = some (.slice p.A2 e.res.data.length p.c2) := (cellB hblk 22).trans (by unfold Ev.cells; rfl)
  have y23 : w1.cell? ⟨w.heap.size, 23, none⟩ = some (.slice p.A3 e.res.list.length p.c3) := (cellB hblk 23).trans (by unfold Ev.cells; rfl)
  have y24 : w1.cell? ⟨w.heap.size, 24, none⟩ = some (.bool e.res.more) := (cellB hblk 24).trans (by unfold Ev.cells; rfl)
  unfold Ev.cells at hw1
  have HW := Lib.hid hw1
  have HT := Lib.hid hT
  have HB := Lib.hid hB
  have HE := Lib.hid he
  have HA := Lib.hid hA
  clear hT hB he hA hblk hk hw1
  unfold Ev.cells
  go_enter Tryd.func5, Tryd.ntmps5
  go_upto_region 11 with (fail)
  rw [← HW.out]
  obtain ⟨T, hT1⟩ : ∃ T, T = by_ (spaced ([e.a].map Lib.itoa)) := ⟨_, rfl⟩
  have hrr : ∀ x ∈ [e.a], IntR x := (by intro x hx; simp only [List.mem_cons, List.not_mem_nil, or_false] at hx; subst hx; exact HE.out.a)
  have hTs : T.size ≤ 22 * 1 := by rw [hT1, by_size]; exact spaced_le _ hrr
  have HRR := Lib.hid hrr
  have HT1 := Lib.hid hT1
  clear hrr hT1
  have hX : (by_ (resText e.res)).size ≤ 140737488355328 := by rw [by_size]; exact Nat.le_trans (resTo_le2 HE.out.res) (by omega)
  have k1 : ¬ (9223372036854775807 < 8 + T.size) := by omega
  have k2 : ¬ (9223372036854775807 < 8 + T.size + 1) := by omega
  obtain ⟨X, hX1⟩ : ∃ X, X = (by_ (resText e.res)) := ⟨_, rfl⟩
  rw [← hX1] at hX
  have k3 : ¬ (9223372036854775807 < 8 + T.size + X.size) := by omega
  have HX1 := Lib.hid hX1
  clear hX1
  have hu30 := Tryd.underlying30
  go_region_held3 (fun W => W.cell? ⟨w.heap.size, 1, none⟩ = some (.int .i64 e.a) ∧ W.cell? ⟨w.heap.size, 14, none⟩ = some (.int .i64 e.res.call) ∧ W.cell? ⟨w.heap.size, 15, none⟩ = some (.int .i64 e.res.op) ∧ W.cell? ⟨w.heap.size, 16, none⟩ = some (.int .i64 e.res.status) ∧ W.cell? ⟨w.heap.size, 17, none⟩ = some (.int .i64 e.res.handle) ∧ W.cell? ⟨w.heap.size, 18, none⟩ = some (.int .i64 e.res.aid) ∧ W.cell? ⟨w.heap.size, 19, none⟩ = some (.int .i64 e.res.akind) ∧ W.cell? ⟨w.heap.size, 20, none⟩ = some (.int .i64 e.res.asize) ∧ W.cell? ⟨w.heap.size, 21, none⟩ = some (.int .i64 e.res.achange) ∧ W.cell? ⟨w.heap.size, 22, none⟩ = some (.slice p.A2 e.res.data.length p.c2) ∧ W.cell? ⟨w.heap.size, 23, none⟩ = some (.slice p.A3 e.res.list.length p.c3) ∧ W.cell? ⟨w.heap.size, 24, none⟩ = some (.bool e.res.more)) (first | exact ⟨y1, y14, y15, y16, y17, y18, y19, y20, y21, y22, y23, y24⟩ | assumption | (have hs := ‹_ ∧ _ ∧ _ ∧ _ ∧ _ ∧ _ ∧ _ ∧ _ ∧ _ ∧ _ ∧ _ ∧ _›; first | exact ⟨cell_on hd6 hs.1, cell_on hd6 hs.2.1, cell_on hd6 hs.2.2.1, cell_on hd6 hs.2.2.2.1, cell_on hd6 hs.2.2.2.2.1, cell_on hd6 hs.2.2.2.2.2.1, cell_on hd6 hs.2.2.2.2.2.2.1, cell_on hd6 hs.2.2.2.2.2.2.2.1, cell_on hd6 hs.2.2.2.2.2.2.2.2.1, cell_on hd6 hs.2.2.2.2.2.2.2.2.2.1, cell_on hd6 hs.2.2.2.2.2.2.2.2.2.2.1, cell_on hd6 hs.2.2.2.2.2.2.2.2.2.2.2⟩ | exact ⟨cell_on (below_alloc (Below.refl _ _) _) hs.1, cell_on (below_alloc (Below.refl _ _) _) hs.2.1, cell_on (below_alloc (Below.refl _ _) _) hs.2.2.1, cell_on (below_alloc (Below.refl _ _) _) hs.2.2.2.1, cell_on (below_alloc (Below.refl _ _) _) hs.2.2.2.2.1, cell_on (below_alloc (Below.refl _ _) _) hs.2.2.2.2.2.1, cell_on (below_alloc (Below.refl _ _) _) hs.2.2.2.2.2.2.1, cell_on (below_alloc (Below.refl _ _) _) hs.2.2.2.2.2.2.2.1, cell_on (below_alloc (Below.refl _ _) _) hs.2.2.2.2.2.2.2.2.1, cell_on (below_alloc (Below.refl _ _) _) hs.2.2.2.2.2.2.2.2.2.1, cell_on (below_alloc (Below.refl _ _) _) hs.2.2.2.2.2.2.2.2.2.2.1, cell_on (below_alloc (Below.refl _ _) _) hs.2.2.2.2.2.2.2.2.2.2.2⟩ | exact ⟨cell_on hdX hs.1, cell_on hdX hs.2.1, cell_on hdX hs.2.2.1, cell_on hdX hs.2.2.2.1, cell_on hdX hs.2.2.2.2.1, cell_on hdX hs.2.2.2.2.2.1, cell_on hdX hs.2.2.2.2.2.2.1, cell_on hdX hs.2.2.2.2.2.2.2.1, cell_on hdX hs.2.2.2.2.2.2.2.2.1, cell_on hdX hs.2.2.2.2.2.2.2.2.2.1, cell_on hdX hs.2.2.2.2.2.2.2.2.2.2.1, cell_on hdX hs.2.2.2.2.2.2.2.2.2.2.2⟩)) (first | (go_at_call 11; refine (nums_later (B := B) [e.a] w1.drew _ #[.int .i64 e.a] 3 1 1 rfl rfl (Below.refl _ _) (HT.out.on_up HB.out (below_drew HA.out)) (Nat.le_trans HB.out HA.out.size) (by simp) HRR.out).mono ?_; rw [← HT1.out]; rintro e6 w6 ⟨rfl, hd6⟩) | (go_at_call 13; refine (result13 (B := B) e.res p.A2 p.c2 p.A3 p.c3 _ (HT.out.on_up HB.out (below_then HA.out HA.out.size (chain1 (below_drew (Below.refl w1.heap.size w1)) hd6))) (Nat.le_trans HB.out (below_then HA.out HA.out.size (chain1 (below_drew (Below.refl w1.heap.size w1)) hd6)).size) (HE.out.on (below_then HA.out HA.out.size (chain1 (below_drew (Below.refl w1.heap.size w1)) hd6))).res).mono ?_; rw [← HX1.out]; rintro eX wX ⟨rfl, hdX⟩))
  all_goals
    go_wp2_with fail
    go_ret
    exact ⟨congrArg (fun t => Ending.returned (.string t)) (by rw [HT1.out, HX1.out]; exact line_ret e.a e.res), below_then (below_then HA.out HA.out.size (chain1 (below_drew (Below.refl w1.heap.size w1)) hd6)) (below_then HA.out HA.out.size (chain1 (below_drew (Below.refl w1.heap.size w1)) hd6)).size hdX⟩
set_option maxRecDepth 100000 in
set_option maxHeartbeats 8000000 in
theorem show5_6 {B : Nat} (e : Ev) (p : At) (w : World) (hT : Tabs B w) (hB : B ≤ w.heap.size) (he : EvIn w e p) (hk : e.kind = 6) :
    Calls Tryd.prog 5 #[.agg (e.cells p).toArray] w fun r w' => r = .returned (.string (by_ (wordsT (ev6 e)))) ∧ Below w.heap.size w w' := by
  have t1 : (e.kind == 1) = false := beq_eq_false_iff_ne.2 (by omega)
  have t2 : (e.kind == 2) = false := beq_eq_false_iff_ne.2 (by omega)
  have t3 : (e.kind == 3) = false := beq_eq_false_iff_ne.2 (by omega)
  have t4 : (e.kind == 4) = false := beq_eq_false_iff_ne.2 (by omega)
  have t5 : (e.kind == 5) = false := beq_eq_false_iff_ne.2 (by omega)
  have t6 : (e.kind == 6) = true := beq_iff_eq.2 hk
  have hA := below_alloc (Below.refl w.heap.size w) (.cells (e.cells p).toArray 38)
  have hblk := Go.heap_alloc_new w (.cells (e.cells p).toArray 38)
  obtain ⟨w1, hw1⟩ : ∃ w1, w1 = w.alloc (.cells (e.cells p).toArray 38) := ⟨_, rfl⟩
  rw [← hw1] at hA hblk
  have y1 : w1.cell? ⟨w.heap.size, 1, none⟩ = some (.int .i64 e.a) := (cellB hblk 1).trans (by unfold Ev.cells; rfl)
  have y25 : w1.cell? ⟨w.heap.size, 25, none⟩ = some (.int .i64 e.hn) := (cellB hblk 25).trans (by unfold Ev.cells; rfl)
  have y26 : w1.cell? ⟨w.heap.size, 26, none⟩ = some (.int .i64 e.hi) := (cellB hblk 26).trans (by unfold Ev.cells; rfl)
  have y27 : w1.cell? ⟨w.heap.size, 27, none⟩ = some (.int .i64 e.he) := (cellB hblk 27).trans (by unfold Ev.cells; rfl)
  have y28 : w1.cell? ⟨w.heap.size, 28, none⟩ = some (.string e.hp) := (cellB hblk 28).trans (by unfold Ev.cells; rfl)
  unfold Ev.cells at hw1
  have HW := Lib.hid hw1
  have HT := Lib.hid hT
  have HB := Lib.hid hB
  have HE := Lib.hid he
  have HA := Lib.hid hA
  clear hT hB he hA hblk hk hw1
  unfold Ev.cells
  go_enter Tryd.func5, Tryd.ntmps5
  go_upto_region 13 with (fail)
  rw [← HW.out]
  obtain ⟨T, hT1⟩ : ∃ T, T = by_ (spaced ([e.a, e.hn, e.hi, e.he].map Lib.itoa)) := ⟨_, rfl⟩
  have hrr : ∀ x ∈ [e.a, e.hn, e.hi, e.he], IntR x := (by intro x hx; simp only [List.mem_cons, List.not_mem_nil, or_false] at hx; rcases hx with rfl | rfl | rfl | rfl; exact HE.out.a; exact HE.out.hn; exact HE.out.hi; exact HE.out.he)
  have hTs : T.size ≤ 22 * 4 := by rw [hT1, by_size]; exact spaced_le _ hrr
  have HRR := Lib.hid hrr
  have HT1 := Lib.hid hT1
  clear hrr hT1
  have hu := Tryd.underlying32
  go_upto_region 14 with (fail)
  clear hu
  have hA2 := below_alloc (Below.refl w1.heap.size w1) (.cells #[.int .i64 e.hn, .int .i64 e.hi, .int .i64 e.he, .string e.hp] 32)
  have hblk2 := Go.heap_alloc_new w1 (.cells #[.int .i64 e.hn, .int .i64 e.hi, .int .i64 e.he, .string e.hp] 32)
  have z25 : (w1.alloc (.cells #[.int .i64 e.hn, .int .i64 e.hi, .int .i64 e.he, .string e.hp] 32)).cell? ⟨w1.heap.size, 0, none⟩ = some (.int .i64 e.hn) := cellB hblk2 0
  have z26 : (w1.alloc (.cells #[.int .i64 e.hn, .int .i64 e.hi, .int .i64 e.he, .string e.hp] 32)).cell? ⟨w1.heap.size, 1, none⟩ = some (.int .i64 e.hi) := cellB hblk2 1
  have z27 : (w1.alloc (.cells #[.int .i64 e.hn, .int .i64 e.hi, .int .i64 e.he, .string e.hp] 32)).cell? ⟨w1.heap.size, 2, none⟩ = some (.int .i64 e.he) := cellB hblk2 2
  have z28 : (w1.alloc (.cells #[.int .i64 e.hn, .int .i64 e.hi, .int .i64 e.he, .string e.hp] 32)).cell? ⟨w1.heap.size, 3, none⟩ = some (.string e.hp) := cellB hblk2 3
  have x1 : (w1.alloc (.cells #[.int .i64 e.hn, .int .i64 e.hi, .int .i64 e.he, .string e.hp] 32)).cell? ⟨w.heap.size, 1, none⟩ = some (.int .i64 e.a) := cell_on hA2 y1
  generalize w1.alloc (.cells #[.int .i64 e.hn, .int .i64 e.hi, .int .i64 e.he, .string e.hp] 32) = w2 at *
  have hB2 := below_then HA.out HA.out.size hA2
  have HB2 := Lib.hid hB2
  clear hB2 hA2 hblk2 y1 y25 y26 y27 y28
  have k1 : ¬ (9223372036854775807 < 6 + T.size) := by omega
  have k2 : ¬ (9223372036854775807 < 6 + T.size + 1) := by omega
  have hX : (textOf e.hp).size ≤ 140737488355328 := (by have h1 := textOf_le e.hp; have h2 := HE.out.hp; omega)
  obtain ⟨X, hX1⟩ : ∃ X, X = (textOf e.hp) := ⟨_, rfl⟩
  rw [← hX1] at hX
  have k3 : ¬ (9223372036854775807 < 6 + T.size + 1 + X.size) := by omega
  have HX1 := Lib.hid hX1
  clear hX1
  go_region_held3 (fun W => W.cell? ⟨w.heap.size, 1, none⟩ = some (.int .i64 e.a) ∧ W.cell? ⟨w1.heap.size, 0, none⟩ = some (.int .i64 e.hn) ∧ W.cell? ⟨w1.heap.size, 1, none⟩ = some (.int .i64 e.hi) ∧ W.cell? ⟨w1.heap.size, 2, none⟩ = some (.int .i64 e.he) ∧ W.cell? ⟨w1.heap.size, 3, none⟩ = some (.string e.hp)) (first | exact ⟨x1, z25, z26, z27, z28⟩ | assumption | (have hs := ‹_ ∧ _ ∧ _ ∧ _ ∧ _›; first | exact ⟨cell_on hd6 hs.1, cell_on hd6 hs.2.1, cell_on hd6 hs.2.2.1, cell_on hd6 hs.2.2.2.1, cell_on hd6 hs.2.2.2.2⟩ | exact ⟨cell_on (below_alloc (Below.refl _ _) _) hs.1, cell_on (below_alloc (Below.refl _ _) _) hs.2.1, cell_on (below_alloc (Below.refl _ _) _) hs.2.2.1, cell_on (below_alloc (Below.refl _ _) _) hs.2.2.2.1, cell_on (below_alloc (Below.refl _ _) _) hs.2.2.2.2⟩ | exact ⟨cell_on hdX hs.1, cell_on hdX hs.2.1, cell_on hdX hs.2.2.1, cell_on hdX hs.2.2.2.1, cell_on hdX hs.2.2.2.2⟩)) (first | (go_at_call 11; refine (nums_later (B := B) [e.a, e.hn, e.hi, e.he] w2.drew _ #[.int .i64 e.a, .int .i64 e.hn, .int .i64 e.hi, .int .i64 e.he] 3 4 4 rfl rfl (Below.refl _ _) (HT.out.on_up HB.out (below_drew HB2.out)) (Nat.le_trans HB.out HB2.out.size) (by simp) HRR.out).mono ?_; rw [← HT1.out]; rintro e6 w6 ⟨rfl, hd6⟩) | (go_at_call 14; refine (text8 e.hp _ HE.out.hp).mono ?_; rw [← HX1.out]; rintro eX wX ⟨rfl, hdX⟩))
  all_goals
    go_wp2_with fail
    go_ret
    exact ⟨congrArg (fun t => Ending.returned (.string t)) (by rw [HT1.out, HX1.out]; exact line_last [104, 97, 110, 100, 108, 101] [e.a, e.hn, e.hi, e.he] (textOf e.hp)), below_then (below_then HB2.out HB2.out.size (chain1 (below_drew (Below.refl w2.heap.size w2)) hd6)) (below_then HB2.out HB2.out.size (chain1 (below_drew (Below.refl w2.heap.size w2)) hd6)).size hdX⟩
set_option maxRecDepth 100000 in
set_option maxHeartbeats 8000000 in
theorem show5_7 {B : Nat} (e : Ev) (p : At) (w : World) (hT : Tabs B w) (hB : B ≤ w.heap.size) (he : EvIn w e p) (hk : e.kind = 7) :
    Calls Tryd.prog 5 #[.agg (e.cells p).toArray] w fun r w' => r = .returned (.string (by_ (wordsT (ev7 e)))) ∧ Below w.heap.size w w' := by
  have t1 : (e.kind == 1) = false := beq_eq_false_iff_ne.2 (by omega)
  have t2 : (e.kind == 2) = false := beq_eq_false_iff_ne.2 (by omega)
  have t3 : (e.kind == 3) = false := beq_eq_false_iff_ne.2 (by omega)
  have t4 : (e.kind == 4) = false := beq_eq_false_iff_ne.2 (by omega)
  have t5 : (e.kind == 5) = false := beq_eq_false_iff_ne.2 (by omega)
  have t6 : (e.kind == 6) = false := beq_eq_false_iff_ne.2 (by omega)
  have t7 : (e.kind == 7) = true := beq_iff_eq.2 hk
  have hA := below_alloc (Below.refl w.heap.size w) (.cells (e.cells p).toArray 38)
  have hblk := Go.heap_alloc_new w (.cells (e.cells p).toArray 38)
  obtain ⟨w1, hw1⟩ : ∃ w1, w1 = w.alloc (.cells (e.cells p).toArray 38) := ⟨_, rfl⟩
  rw [← hw1] at hA hblk
  have y4 : w1.cell? ⟨w.heap.size, 4, none⟩ = some (.int .i64 e.code) := (cellB hblk 4).trans (by unfold Ev.cells; rfl)
  have y2 : w1.cell? ⟨w.heap.size, 2, none⟩ = some (.int .i64 e.k) := (cellB hblk 2).trans (by unfold Ev.cells; rfl)
  have y3 : w1.cell? ⟨w.heap.size, 3, none⟩ = some (.int .i64 e.m) := (cellB hblk 3).trans (by unfold Ev.cells; rfl)
  unfold Ev.cells at hw1
  have HW := Lib.hid hw1
  have HT := Lib.hid hT
  have HB := Lib.hid hB
  have HE := Lib.hid he
  have HA := Lib.hid hA
  clear hT hB he hA hblk hk hw1
  unfold Ev.cells
  go_enter Tryd.func5, Tryd.ntmps5
  go_upto_region 16 with (fail)
  rw [← HW.out]
  obtain ⟨T, hT1⟩ : ∃ T, T = by_ (spaced ([e.code, e.k, e.m].map Lib.itoa)) := ⟨_, rfl⟩
  have hrr : ∀ x ∈ [e.code, e.k, e.m], IntR x := (by intro x hx; simp only [List.mem_cons, List.not_mem_nil, or_false] at hx; rcases hx with rfl | rfl | rfl; exact HE.out.code; exact HE.out.k; exact HE.out.m)
  have hTs : T.size ≤ 22 * 3 := by rw [hT1, by_size]; exact spaced_le _ hrr
  have HRR := Lib.hid hrr
  have HT1 := Lib.hid hT1
  clear hrr hT1
  have H11 := Lib.hid (nums_later (B := B) [e.code, e.k, e.m] w1 (w1.alloc (.cells #[.int .i64 e.code, .int .i64 e.k, .int .i64 e.m] 3)) #[.int .i64 e.code, .int .i64 e.k, .int .i64 e.m] 3 3 3 rfl rfl (Below.refl _ _) (HT.out.on_up HB.out HA.out) (Nat.le_trans HB.out HA.out.size) (by simp) HRR.out)
  rw [← HT1.out] at H11
  go_wp2_with (go_at_call 11; refine H11.out.mono ?_; rintro e6 w6 ⟨rfl, hd6⟩)
  go_ret
  exact ⟨congrArg (fun t => Ending.returned (.string t)) (by rw [HT1.out]; exact line_nums [100, 111, 119, 110] [e.code, e.k, e.m]), chain1 HA.out hd6⟩
set_option maxRecDepth 100000 in
set_option maxHeartbeats 8000000 in
theorem show5_8 {B : Nat} (e : Ev) (p : At) (w : World) (hT : Tabs B w) (hB : B ≤ w.heap.size) (he : EvIn w e p) (hk : e.kind = 8) :
    Calls Tryd.prog 5 #[.agg (e.cells p).toArray] w fun r w' => r = .returned (.string (by_ (wordsT (ev8 e)))) ∧ Below w.heap.size w w' := by
  have t1 : (e.kind == 1) = false := beq_eq_false_iff_ne.2 (by omega)
  have t2 : (e.kind == 2) = false := beq_eq_false_iff_ne.2 (by omega)
  have t3 : (e.kind == 3) = false := beq_eq_false_iff_ne.2 (by omega)
  have t4 : (e.kind == 4) = false := beq_eq_false_iff_ne.2 (by omega)
  have t5 : (e.kind == 5) = false := beq_eq_false_iff_ne.2 (by omega)
  have t6 : (e.kind == 6) = false := beq_eq_false_iff_ne.2 (by omega)
  have t7 : (e.kind == 7) = false := beq_eq_false_iff_ne.2 (by omega)
  have t8 : (e.kind == 8) = true := beq_iff_eq.2 hk
  have hA := below_alloc (Below.refl w.heap.size w) (.cells (e.cells p).toArray 38)
  have hblk := Go.heap_alloc_new w (.cells (e.cells p).toArray 38)
  obtain ⟨w1, hw1⟩ : ∃ w1, w1 = w.alloc (.cells (e.cells p).toArray 38) := ⟨_, rfl⟩
  rw [← hw1] at hA hblk
  have y2 : w1.cell? ⟨w.heap.size, 2, none⟩ = some (.int .i64 e.k) := (cellB hblk 2).trans (by unfold Ev.cells; rfl)
  unfold Ev.cells at hw1
  have HW := Lib.hid hw1
  have HT := Lib.hid hT
  have HB := Lib.hid hB
  have HE := Lib.hid he
  have HA := Lib.hid hA
  clear hT hB he hA hblk hk hw1
  unfold Ev.cells
  go_enter Tryd.func5, Tryd.ntmps5
  go_upto_region 18 with (fail)
  rw [← HW.out]
  obtain ⟨T, hT1⟩ : ∃ T, T = by_ (spaced ([e.k].map Lib.itoa)) := ⟨_, rfl⟩
  have hrr : ∀ x ∈ [e.k], IntR x := (by intro x hx; simp only [List.mem_cons, List.not_mem_nil, or_false] at hx; subst hx; exact HE.out.k)
  have hTs : T.size ≤ 22 * 1 := by rw [hT1, by_size]; exact spaced_le _ hrr
  have HRR := Lib.hid hrr
  have HT1 := Lib.hid hT1
  clear hrr hT1
  have H11 := Lib.hid (nums_later (B := B) [e.k] w1 (w1.alloc (.cells #[.int .i64 e.k] 3)) #[.int .i64 e.k] 3 1 1 rfl rfl (Below.refl _ _) (HT.out.on_up HB.out HA.out) (Nat.le_trans HB.out HA.out.size) (by simp) HRR.out)
  rw [← HT1.out] at H11
  go_wp2_with (go_at_call 11; refine H11.out.mono ?_; rintro e6 w6 ⟨rfl, hd6⟩)
  go_ret
  exact ⟨congrArg (fun t => Ending.returned (.string t)) (by rw [HT1.out]; exact line_nums [117, 112] [e.k]), chain1 HA.out hd6⟩
set_option maxRecDepth 100000 in
set_option maxHeartbeats 8000000 in
theorem show5_9 {B : Nat} (e : Ev) (p : At) (w : World) (hT : Tabs B w) (hB : B ≤ w.heap.size) (he : EvIn w e p) (hk : e.kind = 9) :
    Calls Tryd.prog 5 #[.agg (e.cells p).toArray] w fun r w' => r = .returned (.string (by_ (wordsT (ev9 e)))) ∧ Below w.heap.size w w' := by
  have t1 : (e.kind == 1) = false := beq_eq_false_iff_ne.2 (by omega)
  have t2 : (e.kind == 2) = false := beq_eq_false_iff_ne.2 (by omega)
  have t3 : (e.kind == 3) = false := beq_eq_false_iff_ne.2 (by omega)
  have t4 : (e.kind == 4) = false := beq_eq_false_iff_ne.2 (by omega)
  have t5 : (e.kind == 5) = false := beq_eq_false_iff_ne.2 (by omega)
  have t6 : (e.kind == 6) = false := beq_eq_false_iff_ne.2 (by omega)
  have t7 : (e.kind == 7) = false := beq_eq_false_iff_ne.2 (by omega)
  have t8 : (e.kind == 8) = false := beq_eq_false_iff_ne.2 (by omega)
  have t9 : (e.kind == 9) = true := beq_iff_eq.2 hk
  have hA := below_alloc (Below.refl w.heap.size w) (.cells (e.cells p).toArray 38)
  have hblk := Go.heap_alloc_new w (.cells (e.cells p).toArray 38)
  obtain ⟨w1, hw1⟩ : ∃ w1, w1 = w.alloc (.cells (e.cells p).toArray 38) := ⟨_, rfl⟩
  rw [← hw1] at hA hblk
  have y1 : w1.cell? ⟨w.heap.size, 1, none⟩ = some (.int .i64 e.a) := (cellB hblk 1).trans (by unfold Ev.cells; rfl)
  have y2 : w1.cell? ⟨w.heap.size, 2, none⟩ = some (.int .i64 e.k) := (cellB hblk 2).trans (by unfold Ev.cells; rfl)
  have y3 : w1.cell? ⟨w.heap.size, 3, none⟩ = some (.int .i64 e.m) := (cellB hblk 3).trans (by unfold Ev.cells; rfl)
  unfold Ev.cells at hw1
  have HW := Lib.hid hw1
  have HT := Lib.hid hT
  have HB := Lib.hid hB
  have HE := Lib.hid he
  have HA := Lib.hid hA
  clear hT hB he hA hblk hk hw1
  unfold Ev.cells
  go_enter Tryd.func5, Tryd.ntmps5
  go_upto_region 20 with (fail)
  rw [← HW.out]
  obtain ⟨T, hT1⟩ : ∃ T, T = by_ (spaced ([e.a, e.k, e.m].map Lib.itoa)) := ⟨_, rfl⟩
  have hrr : ∀ x ∈ [e.a, e.k, e.m], IntR x := (by intro x hx; simp only [List.mem_cons, List.not_mem_nil, or_false] at hx; rcases hx with rfl | rfl | rfl; exact HE.out.a; exact HE.out.k; exact HE.out.m)
  have hTs : T.size ≤ 22 * 3 := by rw [hT1, by_size]; exact spaced_le _ hrr
  have HRR := Lib.hid hrr
  have HT1 := Lib.hid hT1
  clear hrr hT1
  have H11 := Lib.hid (nums_later (B := B) [e.a, e.k, e.m] w1 (w1.alloc (.cells #[.int .i64 e.a, .int .i64 e.k, .int .i64 e.m] 3)) #[.int .i64 e.a, .int .i64 e.k, .int .i64 e.m] 3 3 3 rfl rfl (Below.refl _ _) (HT.out.on_up HB.out HA.out) (Nat.le_trans HB.out HA.out.size) (by simp) HRR.out)
  rw [← HT1.out] at H11
  go_wp2_with (go_at_call 11; refine H11.out.mono ?_; rintro e6 w6 ⟨rfl, hd6⟩)
  go_ret
  exact ⟨congrArg (fun t => Ending.returned (.string t)) (by rw [HT1.out]; exact line_nums [115, 101, 114, 118, 101, 114] [e.a, e.k, e.m]), chain1 HA.out hd6⟩
set_option maxRecDepth 100000 in
set_option maxHeartbeats 8000000 in
theorem show5_10 {B : Nat} (e : Ev) (p : At) (w : World) (hT : Tabs B w) (hB : B ≤ w.heap.size) (he : EvIn w e p) (hk : e.kind = 10) :
    Calls Tryd.prog 5 #[.agg (e.cells p).toArray] w fun r w' => r = .returned (.string (by_ (wordsT (ev10 e)))) ∧ Below w.heap.size w w' := by
  have t1 : (e.kind == 1) = false := beq_eq_false_iff_ne.2 (by omega)
  have t2 : (e.kind == 2) = false := beq_eq_false_iff_ne.2 (by omega)
  have t3 : (e.kind == 3) = false := beq_eq_false_iff_ne.2 (by omega)
  have t4 : (e.kind == 4) = false := beq_eq_false_iff_ne.2 (by omega)
  have t5 : (e.kind == 5) = false := beq_eq_false_iff_ne.2 (by omega)
  have t6 : (e.kind == 6) = false := beq_eq_false_iff_ne.2 (by omega)
  have t7 : (e.kind == 7) = false := beq_eq_false_iff_ne.2 (by omega)
  have t8 : (e.kind == 8) = false := beq_eq_false_iff_ne.2 (by omega)
  have t9 : (e.kind == 9) = false := beq_eq_false_iff_ne.2 (by omega)
  have t10 : (e.kind == 10) = true := beq_iff_eq.2 hk
  have hA := below_alloc (Below.refl w.heap.size w) (.cells (e.cells p).toArray 38)
  have hblk := Go.heap_alloc_new w (.cells (e.cells p).toArray 38)
  obtain ⟨w1, hw1⟩ : ∃ w1, w1 = w.alloc (.cells (e.cells p).toArray 38) := ⟨_, rfl⟩
  rw [← hw1] at hA hblk
  have y29 : w1.cell? ⟨w.heap.size, 29, none⟩ = some (.int .i64 e.kcl) := (cellB hblk 29).trans (by unfold Ev.cells; rfl)
  have y30 : w1.cell? ⟨w.heap.size, 30, none⟩ = some (.int .i64 e.kseq) := (cellB hblk 30).trans (by unfold Ev.cells; rfl)
  have y31 : w1.cell? ⟨w.heap.size, 31, none⟩ = some (.int .i64 e.kst) := (cellB hblk 31).trans (by unfold Ev.cells; rfl)
  have y32 : w1.cell? ⟨w.heap.size, 32, none⟩ = some (.slice p.A4 e.kdata.length p.c4) := (cellB hblk 32).trans (by unfold Ev.cells; rfl)
  unfold Ev.cells at hw1
  have HW := Lib.hid hw1
  have HT := Lib.hid hT
  have HB := Lib.hid hB
  have HE := Lib.hid he
  have HA := Lib.hid hA
  clear hT hB he hA hblk hk hw1
  unfold Ev.cells
  go_enter Tryd.func5, Tryd.ntmps5
  go_upto_region 22 with (fail)
  rw [← HW.out]
  obtain ⟨T, hT1⟩ : ∃ T, T = by_ (spaced ([e.kcl, e.kseq, e.kst].map Lib.itoa)) := ⟨_, rfl⟩
  have hrr : ∀ x ∈ [e.kcl, e.kseq, e.kst], IntR x := (by intro x hx; simp only [List.mem_cons, List.not_mem_nil, or_false] at hx; rcases hx with rfl | rfl | rfl; exact HE.out.kcl; exact HE.out.kseq; exact HE.out.kst)
  have hTs : T.size ≤ 22 * 3 := by rw [hT1, by_size]; exact spaced_le _ hrr
  have HRR := Lib.hid hrr
  have HT1 := Lib.hid hT1
  clear hrr hT1
  have hu := Tryd.underlying34
  go_upto_region 23 with (fail)
  clear hu
  have hA2 := below_alloc (Below.refl w1.heap.size w1) (.cells #[.int .i64 e.kcl, .int .i64 e.kseq, .int .i64 e.kst, .slice p.A4 e.kdata.length p.c4] 34)
  have hblk2 := Go.heap_alloc_new w1 (.cells #[.int .i64 e.kcl, .int .i64 e.kseq, .int .i64 e.kst, .slice p.A4 e.kdata.length p.c4] 34)
  have z29 : (w1.alloc (.cells #[.int .i64 e.kcl, .int .i64 e.kseq, .int .i64 e.kst, .slice p.A4 e.kdata.length p.c4] 34)).cell? ⟨w1.heap.size, 0, none⟩ = some (.int .i64 e.kcl) := cellB hblk2 0
  have z30 : (w1.alloc (.cells #[.int .i64 e.kcl, .int .i64 e.kseq, .int .i64 e.kst, .slice p.A4 e.kdata.length p.c4] 34)).cell? ⟨w1.heap.size, 1, none⟩ = some (.int .i64 e.kseq) := cellB hblk2 1
  have z31 : (w1.alloc (.cells #[.int .i64 e.kcl, .int .i64 e.kseq, .int .i64 e.kst, .slice p.A4 e.kdata.length p.c4] 34)).cell? ⟨w1.heap.size, 2, none⟩ = some (.int .i64 e.kst) := cellB hblk2 2
  have z32 : (w1.alloc (.cells #[.int .i64 e.kcl, .int .i64 e.kseq, .int .i64 e.kst, .slice p.A4 e.kdata.length p.c4] 34)).cell? ⟨w1.heap.size, 3, none⟩ = some (.slice p.A4 e.kdata.length p.c4) := cellB hblk2 3
  generalize w1.alloc (.cells #[.int .i64 e.kcl, .int .i64 e.kseq, .int .i64 e.kst, .slice p.A4 e.kdata.length p.c4] 34) = w2 at *
  have hB2 := below_then HA.out HA.out.size hA2
  have HB2 := Lib.hid hB2
  clear hB2 hA2 hblk2 y29 y30 y31 y32
  have k1 : ¬ (9223372036854775807 < 4 + T.size) := by omega
  have k2 : ¬ (9223372036854775807 < 4 + T.size + 1) := by omega
  have hX : (hexW e.kdata).size ≤ 140737488355328 := (by have h1 := hexW_le e.kdata; have h2 := HE.out.kdata.len; omega)
  obtain ⟨X, hX1⟩ : ∃ X, X = (hexW e.kdata) := ⟨_, rfl⟩
  rw [← hX1] at hX
  have k3 : ¬ (9223372036854775807 < 4 + T.size + 1 + X.size) := by omega
  have HX1 := Lib.hid hX1
  clear hX1
  go_region_held3 (fun W => W.cell? ⟨w1.heap.size, 0, none⟩ = some (.int .i64 e.kcl) ∧ W.cell? ⟨w1.heap.size, 1, none⟩ = some (.int .i64 e.kseq) ∧ W.cell? ⟨w1.heap.size, 2, none⟩ = some (.int .i64 e.kst) ∧ W.cell? ⟨w1.heap.size, 3, none⟩ = some (.slice p.A4 e.kdata.length p.c4)) (first | exact ⟨z29, z30, z31, z32⟩ | assumption | (have hs := ‹_ ∧ _ ∧ _ ∧ _›; first | exact ⟨cell_on hd6 hs.1, cell_on hd6 hs.2.1, cell_on hd6 hs.2.2.1, cell_on hd6 hs.2.2.2⟩ | exact ⟨cell_on (below_alloc (Below.refl _ _) _) hs.1, cell_on (below_alloc (Below.refl _ _) _) hs.2.1, cell_on (below_alloc (Below.refl _ _) _) hs.2.2.1, cell_on (below_alloc (Below.refl _ _) _) hs.2.2.2⟩ | exact ⟨cell_on hdX hs.1, cell_on hdX hs.2.1, cell_on hdX hs.2.2.1, cell_on hdX hs.2.2.2⟩)) (first | (go_at_call 11; refine (nums_later (B := B) [e.kcl, e.kseq, e.kst] w2.drew _ #[.int .i64 e.kcl, .int .i64 e.kseq, .int .i64 e.kst] 3 3 3 rfl rfl (Below.refl _ _) (HT.out.on_up HB.out (below_drew HB2.out)) (Nat.le_trans HB.out HB2.out.size) (by simp) HRR.out).mono ?_; rw [← HT1.out]; rintro e6 w6 ⟨rfl, hd6⟩) | (go_at_call 15; refine (Hex15 e.kdata p.A4 p.c4 _ HE.out.kdata.bytes HE.out.kdata.len (HE.out.on (below_then HB2.out HB2.out.size (chain1 (below_drew (Below.refl w2.heap.size w2)) hd6))).kdata.rd HE.out.kdata.cap).mono ?_; rw [← HX1.out]; rintro eX wX ⟨rfl, hdX⟩))
  all_goals
    go_wp2_with fail
    go_ret
    exact ⟨congrArg (fun t => Ending.returned (.string t)) (by rw [HT1.out, HX1.out]; exact line_last [107, 101, 112, 116] [e.kcl, e.kseq, e.kst] (hexW e.kdata)), below_then (below_then HB2.out HB2.out.size (chain1 (below_drew (Below.refl w2.heap.size w2)) hd6)) (below_then HB2.out HB2.out.size (chain1 (below_drew (Below.refl w2.heap.size w2)) hd6)).size hdX⟩
set_option maxRecDepth 100000 in
set_option maxHeartbeats 8000000 in
theorem show5_11 {B : Nat} (e : Ev) (p : At) (w : World) (hT : Tabs B w) (hB : B ≤ w.heap.size) (he : EvIn w e p) (hk : e.kind = 11) :
    Calls Tryd.prog 5 #[.agg (e.cells p).toArray] w fun r w' => r = .returned (.string (by_ (wordsT (ev11 e)))) ∧ Below w.heap.size w w' := by
  have t1 : (e.kind == 1) = false := beq_eq_false_iff_ne.2 (by omega)
  have t2 : (e.kind == 2) = false := beq_eq_false_iff_ne.2 (by omega)
  have t3 : (e.kind == 3) = false := beq_eq_false_iff_ne.2 (by omega)
  have t4 : (e.kind == 4) = false := beq_eq_false_iff_ne.2 (by omega)
  have t5 : (e.kind == 5) = false := beq_eq_false_iff_ne.2 (by omega)
  have t6 : (e.kind == 6) = false := beq_eq_false_iff_ne.2 (by omega)
  have t7 : (e.kind == 7) = false := beq_eq_false_iff_ne.2 (by omega)
  have t8 : (e.kind == 8) = false := beq_eq_false_iff_ne.2 (by omega)
  have t9 : (e.kind == 9) = false := beq_eq_false_iff_ne.2 (by omega)
  have t10 : (e.kind == 10) = false := beq_eq_false_iff_ne.2 (by omega)
  have t11 : (e.kind == 11) = true := beq_iff_eq.2 hk
  have hA := below_alloc (Below.refl w.heap.size w) (.cells (e.cells p).toArray 38)
  have hblk := Go.heap_alloc_new w (.cells (e.cells p).toArray 38)
  obtain ⟨w1, hw1⟩ : ∃ w1, w1 = w.alloc (.cells (e.cells p).toArray 38) := ⟨_, rfl⟩
  rw [← hw1] at hA hblk
  have y1 : w1.cell? ⟨w.heap.size, 1, none⟩ = some (.int .i64 e.a) := (cellB hblk 1).trans (by unfold Ev.cells; rfl)
  have y2 : w1.cell? ⟨w.heap.size, 2, none⟩ = some (.int .i64 e.k) := (cellB hblk 2).trans (by unfold Ev.cells; rfl)
  have y3 : w1.cell? ⟨w.heap.size, 3, none⟩ = some (.int .i64 e.m) := (cellB hblk 3).trans (by unfold Ev.cells; rfl)
  unfold Ev.cells at hw1
  have HW := Lib.hid hw1
  have HT := Lib.hid hT
  have HB := Lib.hid hB
  have HE := Lib.hid he
  have HA := Lib.hid hA
  clear hT hB he hA hblk hk hw1
  unfold Ev.cells
  go_enter Tryd.func5, Tryd.ntmps5
  go_upto_region 25 with (fail)
  rw [← HW.out]
  obtain ⟨T, hT1⟩ : ∃ T, T = by_ (spaced ([e.a, e.k, e.m].map Lib.itoa)) := ⟨_, rfl⟩
  have hrr : ∀ x ∈ [e.a, e.k, e.m], IntR x := (by intro x hx; simp only [List.mem_cons, List.not_mem_nil, or_false] at hx; rcases hx with rfl | rfl | rfl; exact HE.out.a; exact HE.out.k; exact HE.out.m)
  have hTs : T.size ≤ 22 * 3 := by rw [hT1, by_size]; exact spaced_le _ hrr
  have HRR := Lib.hid hrr
  have HT1 := Lib.hid hT1
  clear hrr hT1
  have H11 := Lib.hid (nums_later (B := B) [e.a, e.k, e.m] w1 (w1.alloc (.cells #[.int .i64 e.a, .int .i64 e.k, .int .i64 e.m] 3)) #[.int .i64 e.a, .int .i64 e.k, .int .i64 e.m] 3 3 3 rfl rfl (Below.refl _ _) (HT.out.on_up HB.out HA.out) (Nat.le_trans HB.out HA.out.size) (by simp) HRR.out)
  rw [← HT1.out] at H11
  go_wp2_with (go_at_call 11; refine H11.out.mono ?_; rintro e6 w6 ⟨rfl, hd6⟩)
  go_ret
  exact ⟨congrArg (fun t => Ending.returned (.string t)) (by rw [HT1.out]; exact line_nums [109, 97, 114, 107] [e.a, e.k, e.m]), chain1 HA.out hd6⟩
set_option maxRecDepth 100000 in
set_option maxHeartbeats 8000000 in
theorem show5_12 {B : Nat} (e : Ev) (p : At) (w : World) (hT : Tabs B w) (hB : B ≤ w.heap.size) (he : EvIn w e p) (hk : e.kind = 12) :
    Calls Tryd.prog 5 #[.agg (e.cells p).toArray] w fun r w' => r = .returned (.string (by_ (wordsT (ev12 e)))) ∧ Below w.heap.size w w' := by
  have t1 : (e.kind == 1) = false := beq_eq_false_iff_ne.2 (by omega)
  have t2 : (e.kind == 2) = false := beq_eq_false_iff_ne.2 (by omega)
  have t3 : (e.kind == 3) = false := beq_eq_false_iff_ne.2 (by omega)
  have t4 : (e.kind == 4) = false := beq_eq_false_iff_ne.2 (by omega)
  have t5 : (e.kind == 5) = false := beq_eq_false_iff_ne.2 (by omega)
  have t6 : (e.kind == 6) = false := beq_eq_false_iff_ne.2 (by omega)
  have t7 : (e.kind == 7) = false := beq_eq_false_iff_ne.2 (by omega)
  have t8 : (e.kind == 8) = false := beq_eq_false_iff_ne.2 (by omega)
  have t9 : (e.kind == 9) = false := beq_eq_false_iff_ne.2 (by omega)
  have t10 : (e.kind == 10) = false := beq_eq_false_iff_ne.2 (by omega)
  have t11 : (e.kind == 11) = false := beq_eq_false_iff_ne.2 (by omega)
  have t12 : (e.kind == 12) = true := beq_iff_eq.2 hk
  have hA := below_alloc (Below.refl w.heap.size w) (.cells (e.cells p).toArray 38)
  have hblk := Go.heap_alloc_new w (.cells (e.cells p).toArray 38)
  obtain ⟨w1, hw1⟩ : ∃ w1, w1 = w.alloc (.cells (e.cells p).toArray 38) := ⟨_, rfl⟩
  rw [← hw1] at hA hblk
  have y33 : w1.cell? ⟨w.heap.size, 33, none⟩ = some (.int .i64 e.fno) := (cellB hblk 33).trans (by unfold Ev.cells; rfl)
  have y34 : w1.cell? ⟨w.heap.size, 34, none⟩ = some (.int .i64 e.fto) := (cellB hblk 34).trans (by unfold Ev.cells; rfl)
  have y35 : w1.cell? ⟨w.heap.size, 35, none⟩ = some (.slice p.A5 e.fdata.length p.c5) := (cellB hblk 35).trans (by unfold Ev.cells; rfl)
  unfold Ev.cells at hw1
  have HW := Lib.hid hw1
  have HT := Lib.hid hT
  have HB := Lib.hid hB
  have HE := Lib.hid he
  have HA := Lib.hid hA
  clear hT hB he hA hblk hk hw1
  unfold Ev.cells
  go_enter Tryd.func5, Tryd.ntmps5
  go_upto_region 27 with (fail)
  rw [← HW.out]
  obtain ⟨T, hT1⟩ : ∃ T, T = by_ (spaced ([e.fno, e.fto].map Lib.itoa)) := ⟨_, rfl⟩
  have hrr : ∀ x ∈ [e.fno, e.fto], IntR x := (by intro x hx; simp only [List.mem_cons, List.not_mem_nil, or_false] at hx; rcases hx with rfl | rfl; exact HE.out.fno; exact HE.out.fto)
  have hTs : T.size ≤ 22 * 2 := by rw [hT1, by_size]; exact spaced_le _ hrr
  have HRR := Lib.hid hrr
  have HT1 := Lib.hid hT1
  clear hrr hT1
  have hu := Tryd.underlying36
  go_upto_region 28 with (fail)
  clear hu
  have hA2 := below_alloc (Below.refl w1.heap.size w1) (.cells #[.int .i64 e.fno, .int .i64 e.fto, .slice p.A5 e.fdata.length p.c5] 36)
  have hblk2 := Go.heap_alloc_new w1 (.cells #[.int .i64 e.fno, .int .i64 e.fto, .slice p.A5 e.fdata.length p.c5] 36)
  have z33 : (w1.alloc (.cells #[.int .i64 e.fno, .int .i64 e.fto, .slice p.A5 e.fdata.length p.c5] 36)).cell? ⟨w1.heap.size, 0, none⟩ = some (.int .i64 e.fno) := cellB hblk2 0
  have z34 : (w1.alloc (.cells #[.int .i64 e.fno, .int .i64 e.fto, .slice p.A5 e.fdata.length p.c5] 36)).cell? ⟨w1.heap.size, 1, none⟩ = some (.int .i64 e.fto) := cellB hblk2 1
  have z35 : (w1.alloc (.cells #[.int .i64 e.fno, .int .i64 e.fto, .slice p.A5 e.fdata.length p.c5] 36)).cell? ⟨w1.heap.size, 2, none⟩ = some (.slice p.A5 e.fdata.length p.c5) := cellB hblk2 2
  generalize w1.alloc (.cells #[.int .i64 e.fno, .int .i64 e.fto, .slice p.A5 e.fdata.length p.c5] 36) = w2 at *
  have hB2 := below_then HA.out HA.out.size hA2
  have HB2 := Lib.hid hB2
  clear hB2 hA2 hblk2 y33 y34 y35
  have k1 : ¬ (9223372036854775807 < 6 + T.size) := by omega
  have k2 : ¬ (9223372036854775807 < 6 + T.size + 1) := by omega
  have hX : (hexW e.fdata).size ≤ 140737488355328 := (by have h1 := hexW_le e.fdata; have h2 := HE.out.fdata.len; omega)
  obtain ⟨X, hX1⟩ : ∃ X, X = (hexW e.fdata) := ⟨_, rfl⟩
  rw [← hX1] at hX
  have k3 : ¬ (9223372036854775807 < 6 + T.size + 1 + X.size) := by omega
  have HX1 := Lib.hid hX1
  clear hX1
  go_region_held3 (fun W => W.cell? ⟨w1.heap.size, 0, none⟩ = some (.int .i64 e.fno) ∧ W.cell? ⟨w1.heap.size, 1, none⟩ = some (.int .i64 e.fto) ∧ W.cell? ⟨w1.heap.size, 2, none⟩ = some (.slice p.A5 e.fdata.length p.c5)) (first | exact ⟨z33, z34, z35⟩ | assumption | (have hs := ‹_ ∧ _ ∧ _›; first | exact ⟨cell_on hd6 hs.1, cell_on hd6 hs.2.1, cell_on hd6 hs.2.2⟩ | exact ⟨cell_on (below_alloc (Below.refl _ _) _) hs.1, cell_on (below_alloc (Below.refl _ _) _) hs.2.1, cell_on (below_alloc (Below.refl _ _) _) hs.2.2⟩ | exact ⟨cell_on hdX hs.1, cell_on hdX hs.2.1, cell_on hdX hs.2.2⟩)) (first | (go_at_call 11; refine (nums_later (B := B) [e.fno, e.fto] w2.drew _ #[.int .i64 e.fno, .int .i64 e.fto] 3 2 2 rfl rfl (Below.refl _ _) (HT.out.on_up HB.out (below_drew HB2.out)) (Nat.le_trans HB.out HB2.out.size) (by simp) HRR.out).mono ?_; rw [← HT1.out]; rintro e6 w6 ⟨rfl, hd6⟩) | (go_at_call 15; refine (Hex15 e.fdata p.A5 p.c5 _ HE.out.fdata.bytes HE.out.fdata.len (HE.out.on (below_then HB2.out HB2.out.size (chain1 (below_drew (Below.refl w2.heap.size w2)) hd6))).fdata.rd HE.out.fdata.cap).mono ?_; rw [← HX1.out]; rintro eX wX ⟨rfl, hdX⟩))
  all_goals
    go_wp2_with fail
    go_ret
    exact ⟨congrArg (fun t => Ending.returned (.string t)) (by rw [HT1.out, HX1.out]; exact line_last [102, 108, 105, 103, 104, 116] [e.fno, e.fto] (hexW e.fdata)), below_then (below_then HB2.out HB2.out.size (chain1 (below_drew (Below.refl w2.heap.size w2)) hd6)) (below_then HB2.out HB2.out.size (chain1 (below_drew (Below.refl w2.heap.size w2)) hd6)).size hdX⟩
set_option maxRecDepth 100000 in
set_option maxHeartbeats 8000000 in
theorem show5_no {B : Nat} (e : Ev) (p : At) (w : World) (hT : Tabs B w) (hB : B ≤ w.heap.size) (he : EvIn w e p) (hk : e.kind < 1 ∨ 12 < e.kind) :
    Calls Tryd.prog 5 #[.agg (e.cells p).toArray] w fun r w' => r = .returned (.string ⟨#[]⟩) ∧ Below w.heap.size w w' := by
  have t1 : (e.kind == 1) = false := beq_eq_false_iff_ne.2 (by omega)
  have t2 : (e.kind == 2) = false := beq_eq_false_iff_ne.2 (by omega)
  have t3 : (e.kind == 3) = false := beq_eq_false_iff_ne.2 (by omega)
  have t4 : (e.kind == 4) = false := beq_eq_false_iff_ne.2 (by omega)
  have t5 : (e.kind == 5) = false := beq_eq_false_iff_ne.2 (by omega)
  have t6 : (e.kind == 6) = false := beq_eq_false_iff_ne.2 (by omega)
  have t7 : (e.kind == 7) = false := beq_eq_false_iff_ne.2 (by omega)
  have t8 : (e.kind == 8) = false := beq_eq_false_iff_ne.2 (by omega)
  have t9 : (e.kind == 9) = false := beq_eq_false_iff_ne.2 (by omega)
  have t10 : (e.kind == 10) = false := beq_eq_false_iff_ne.2 (by omega)
  have t11 : (e.kind == 11) = false := beq_eq_false_iff_ne.2 (by omega)
  have t12 : (e.kind == 12) = false := beq_eq_false_iff_ne.2 (by omega)
  have hA := below_alloc (Below.refl w.heap.size w) (.cells (e.cells p).toArray 38)
  have hblk := Go.heap_alloc_new w (.cells (e.cells p).toArray 38)
  obtain ⟨w1, hw1⟩ : ∃ w1, w1 = w.alloc (.cells (e.cells p).toArray 38) := ⟨_, rfl⟩
  rw [← hw1] at hA hblk
  unfold Ev.cells at hw1
  have HW := Lib.hid hw1
  have HT := Lib.hid hT
  have HB := Lib.hid hB
  have HE := Lib.hid he
  have HA := Lib.hid hA
  clear hT hB he hA hblk hk hw1
  unfold Ev.cells
  go_enter Tryd.func5, Tryd.ntmps5
  go_wp2
  go_ret
  exact ⟨rfl, by rw [← HW.out]; exact HA.out⟩
/-- An event's line. -/
theorem show5 {B : Nat} (e : Ev) (p : At) (w : World) (hT : Tabs B w) (hB : B ≤ w.heap.size) (he : EvIn w e p) :
    Calls Tryd.prog 5 #[.agg (e.cells p).toArray] w fun r w' => r = .returned (.string (evT e)) ∧ Below w.heap.size w w' := by
  by_cases h1 : e.kind = 1
  · have h : evT e = by_ (wordsT (ev1 e)) := by unfold evT; rw [if_pos h1]
    rw [h]
    exact show5_1 e p w hT hB he h1
  by_cases h2 : e.kind = 2
  · have h : evT e = by_ (wordsT (ev2 e)) := by unfold evT; rw [if_neg h1, if_pos h2]
    rw [h]
    exact show5_2 e p w hT hB he h2
  by_cases h3 : e.kind = 3
  · have h : evT e = by_ (wordsT (ev3 e)) := by unfold evT; rw [if_neg h1, if_neg h2, if_pos h3]
    rw [h]
    exact show5_3 e p w hT hB he h3
  by_cases h4 : e.kind = 4
  · have h : evT e = by_ (wordsT (ev4 e)) := by unfold evT; rw [if_neg h1, if_neg h2, if_neg h3, if_pos h4]
    rw [h]
    exact show5_4 e p w hT hB he h4
  by_cases h5 : e.kind = 5
  · have h : evT e = by_ (wordsT (ev5 e)) := by unfold evT; rw [if_neg h1, if_neg h2, if_neg h3, if_neg h4, if_pos h5]
    rw [h]
    exact show5_5 e p w hT hB he h5
  by_cases h6 : e.kind = 6
  · have h : evT e = by_ (wordsT (ev6 e)) := by unfold evT; rw [if_neg h1, if_neg h2, if_neg h3, if_neg h4, if_neg h5, if_pos h6]
    rw [h]
    exact show5_6 e p w hT hB he h6
  by_cases h7 : e.kind = 7
  · have h : evT e = by_ (wordsT (ev7 e)) := by unfold evT; rw [if_neg h1, if_neg h2, if_neg h3, if_neg h4, if_neg h5, if_neg h6, if_pos h7]
    rw [h]
    exact show5_7 e p w hT hB he h7
  by_cases h8 : e.kind = 8
  · have h : evT e = by_ (wordsT (ev8 e)) := by unfold evT; rw [if_neg h1, if_neg h2, if_neg h3, if_neg h4, if_neg h5, if_neg h6, if_neg h7, if_pos h8]
    rw [h]
    exact show5_8 e p w hT hB he h8
  by_cases h9 : e.kind = 9
  · have h : evT e = by_ (wordsT (ev9 e)) := by unfold evT; rw [if_neg h1, if_neg h2, if_neg h3, if_neg h4, if_neg h5, if_neg h6, if_neg h7, if_neg h8, if_pos h9]
    rw [h]
    exact show5_9 e p w hT hB he h9
  by_cases h10 : e.kind = 10
  · have h : evT e = by_ (wordsT (ev10 e)) := by unfold evT; rw [if_neg h1, if_neg h2, if_neg h3, if_neg h4, if_neg h5, if_neg h6, if_neg h7, if_neg h8, if_neg h9, if_pos h10]
    rw [h]
    exact show5_10 e p w hT hB he h10
  by_cases h11 : e.kind = 11
  · have h : evT e = by_ (wordsT (ev11 e)) := by unfold evT; rw [if_neg h1, if_neg h2, if_neg h3, if_neg h4, if_neg h5, if_neg h6, if_neg h7, if_neg h8, if_neg h9, if_neg h10, if_pos h11]
    rw [h]
    exact show5_11 e p w hT hB he h11
  by_cases h12 : e.kind = 12
  · have h : evT e = by_ (wordsT (ev12 e)) := by unfold evT; rw [if_neg h1, if_neg h2, if_neg h3, if_neg h4, if_neg h5, if_neg h6, if_neg h7, if_neg h8, if_neg h9, if_neg h10, if_neg h11, if_pos h12]
    rw [h]
    exact show5_12 e p w hT hB he h12
  have h : evT e = ⟨#[]⟩ := by unfold evT; rw [if_neg h1, if_neg h2, if_neg h3, if_neg h4, if_neg h5, if_neg h6, if_neg h7, if_neg h8, if_neg h9, if_neg h10, if_neg h11, if_neg h12]
  rw [h]
  exact show5_no e p w hT hB he (by omega)
end Go.Proofs.YtekgdlpicgibhabDoor.SH
