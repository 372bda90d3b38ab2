/-
  An event's line, as the program writes it (world.Show).
-/
import Derived.Test.YtekgdlpicgibhabDoorV12
namespace Go.Proofs.YtekgdlpicgibhabDoor.SH
open Go.RowKit Go.Proofs.YtekgdlpicgibhabDoorW.PrintWords PT PWorldShows

set_option maxRecDepth 100000 in
set_option maxHeartbeats 8000000 in
theorem show4_1 {B : Nat} (e : Ev) (p : At) (w : World) (hT : Tabs B w) (hB : B ≤ w.heap.size) (he : EvIn w e p) (hk : e.kind = 1) :
    Calls Tryd.prog 4 #[.agg (e.cells p).toArray] w fun r w' => r = .returned (.string (by_ (wordsT (ev1 e)))) ∧ Below w.heap.size w w' := by
  have t1 : (e.kind == 1) = true := beq_iff_eq.2 hk
  have hA := below_alloc (Below.refl w.heap.size w) (.cells (e.cells p).toArray 38)
  have hblk := Go.heap_alloc_new w (.cells (e.cells p).toArray 38)
  obtain ⟨w1, hw1⟩ : ∃ w1, w1 = w.alloc (.cells (e.cells p).toArray 38) := ⟨_, rfl⟩
  rw [← hw1] at hA hblk
  have y1 : w1.cell? ⟨w.heap.size, 1, none⟩ = some (.int .i64 e.a) := (cellB hblk 1).trans (by unfold Ev.cells; rfl)
  have y2 : w1.cell? ⟨w.heap.size, 2, none⟩ = some (.int .i64 e.k) := (cellB hblk 2).trans (by unfold Ev.cells; rfl)
  have y4 : w1.cell? ⟨w.heap.size, 4, none⟩ = some (.int .i64 e.code) := (cellB hblk 4).trans (by unfold Ev.cells; rfl)
  unfold Ev.cells at hw1
  have HW := Lib.hid hw1
  have HT := Lib.hid hT
  have HB := Lib.hid hB
  have HE := Lib.hid he
  have HA := Lib.hid hA
  clear hT hB he hA hblk hk hw1
  unfold Ev.cells
  go_enter Tryd.func4, Tryd.ntmps4
  go_upto_region 3 with (fail)
  rw [← HW.out]
  have H6 := Lib.hid (words_later (B := B) (ev1 e) w1 (w1.alloc (.cells #[.iface 9 (.string ⟨#[114, 101, 102, 117, 115, 101, 100]⟩), .iface 3 (.int .i64 e.a), .iface 3 (.int .i64 e.k), .iface 3 (.int .i64 e.code)] 20)) #[.iface 9 (.string ⟨#[114, 101, 102, 117, 115, 101, 100]⟩), .iface 3 (.int .i64 e.a), .iface 3 (.int .i64 e.k), .iface 3 (.int .i64 e.code)] 20 4 4 rfl rfl (Below.refl _ _) (HT.out.on_up HB.out HA.out) (Nat.le_trans HB.out HA.out.size) (by simp [ev1]) (ev1_ok HE.out) (by simp [ev1]))
  go_wp2_with (go_at_call 6; refine H6.out.mono ?_; rintro e6 w6 ⟨rfl, hd6⟩)
  go_ret
  exact ⟨rfl, chain1 HA.out hd6⟩
set_option maxRecDepth 100000 in
set_option maxHeartbeats 8000000 in
theorem show4_2 {B : Nat} (e : Ev) (p : At) (w : World) (hT : Tabs B w) (hB : B ≤ w.heap.size) (he : EvIn w e p) (hk : e.kind = 2) :
    Calls Tryd.prog 4 #[.agg (e.cells p).toArray] w fun r w' => r = .returned (.string (by_ (wordsT (ev2 e)))) ∧ Below w.heap.size w w' := by
  have t1 : (e.kind == 1) = false := beq_eq_false_iff_ne.2 (by omega)
  have t2 : (e.kind == 2) = true := beq_iff_eq.2 hk
  have hA := below_alloc (Below.refl w.heap.size w) (.cells (e.cells p).toArray 38)
  have hblk := Go.heap_alloc_new w (.cells (e.cells p).toArray 38)
  obtain ⟨w1, hw1⟩ : ∃ w1, w1 = w.alloc (.cells (e.cells p).toArray 38) := ⟨_, rfl⟩
  rw [← hw1] at hA hblk
  have y1 : w1.cell? ⟨w.heap.size, 1, none⟩ = some (.int .i64 e.a) := (cellB hblk 1).trans (by unfold Ev.cells; rfl)
  have y2 : w1.cell? ⟨w.heap.size, 2, none⟩ = some (.int .i64 e.k) := (cellB hblk 2).trans (by unfold Ev.cells; rfl)
  have hrg : w1.rangeAt w.heap.size 5 (e.call.cells p.A1 p.c1) := range_call hblk
  have HRG := Lib.hid hrg
  clear hrg
  unfold Ev.cells at hw1
  have HW := Lib.hid hw1
  have HT := Lib.hid hT
  have HB := Lib.hid hB
  have HE := Lib.hid he
  have HA := Lib.hid hA
  clear hT hB he hA hblk hk hw1
  unfold Ev.cells
  go_enter Tryd.func4, Tryd.ntmps4
  go_upto_region 5 with (fail)
  rw [← HW.out]
  by_cases hok : okC e.call ∧ (textC e.call).length ≤ 1048576
  · have HK := Lib.hid hok
    clear hok
    go_upto_region 8 with (first | (refine wpList_load_mid rfl 25 _ rfl w.heap.size 5 rfl (e.call.cells p.A1 p.c1) _ HRG.out Tryd.underlying25 rfl (by kernel_rfl) ?_; go_simp) | (go_at_call 7; refine (print7 (B := B) e.call p.A1 p.c1 w1 (HT.out.on_up HB.out HA.out) (Nat.le_trans HB.out HA.out.size) (HE.out.on HA.out).call HE.out.cb).mono ?_; rintro e7 w7 ⟨s7, n7, rfl, hn7, hd7⟩; obtain ⟨_, rfl, rfl⟩ := hn7.resolve_right (fun h => h.1 HK.out); clear hn7))
    have z1 := cell_on hd7 y1
    have z2 := cell_on hd7 y2
    clear y1 y2
    have hbb := below_then HA.out HA.out.size hd7
    have HBB := Lib.hid hbb
    clear hbb hd7
    have H6 := Lib.hid (words_later (B := B) (ev2 e) w7 (w7.alloc (.cells #[.iface 9 (.string ⟨#[115, 116, 97, 114, 116, 101, 100]⟩), .iface 3 (.int .i64 e.a), .iface 3 (.int .i64 e.k), .iface 9 (.string (by_ (textC e.call)))] 20)) #[.iface 9 (.string ⟨#[115, 116, 97, 114, 116, 101, 100]⟩), .iface 3 (.int .i64 e.a), .iface 3 (.int .i64 e.k), .iface 9 (.string (by_ (textC e.call)))] 20 4 4 (by simp only [ev2, List.map_cons, List.map_nil, Wd.val, callB_yes HK.out]; rfl) rfl (Below.refl _ _) (HT.out.on_up HB.out HBB.out) (Nat.le_trans HB.out HBB.out.size) (by simp [ev2]) (ev2_ok HE.out) (by simp [ev2]))
    go_wp2_with (go_at_call 6; refine H6.out.mono ?_; rintro e6 w6 ⟨rfl, hd6⟩)
    go_ret
    exact ⟨rfl, chain1 HBB.out hd6⟩
  · have HK := Lib.hid hok
    clear hok
    go_upto_region 8 with (first | (refine wpList_load_mid rfl 25 _ rfl w.heap.size 5 rfl (e.call.cells p.A1 p.c1) _ HRG.out Tryd.underlying25 rfl (by kernel_rfl) ?_; go_simp) | (go_at_call 7; refine (print7 (B := B) e.call p.A1 p.c1 w1 (HT.out.on_up HB.out HA.out) (Nat.le_trans HB.out HA.out.size) (HE.out.on HA.out).call HE.out.cb).mono ?_; rintro e7 w7 ⟨s7, n7, rfl, hn7, hd7⟩; obtain ⟨_, hn0⟩ := hn7.resolve_left (fun h => HK.out h.1); have hne : (n7 == 0) = false := beq_eq_false_iff_ne.2 hn0; clear hn7 hn0))
    have z1 := cell_on hd7 y1
    have z2 := cell_on hd7 y2
    clear y1 y2
    have hbb := below_then HA.out HA.out.size hd7
    have HBB := Lib.hid hbb
    clear hbb hd7
    have H6 := Lib.hid (words_later (B := B) (ev2 e) w7 (w7.alloc (.cells #[.iface 9 (.string ⟨#[115, 116, 97, 114, 116, 101, 100]⟩), .iface 3 (.int .i64 e.a), .iface 3 (.int .i64 e.k), .iface 9 (.string ⟨#[63]⟩)] 20)) #[.iface 9 (.string ⟨#[115, 116, 97, 114, 116, 101, 100]⟩), .iface 3 (.int .i64 e.a), .iface 3 (.int .i64 e.k), .iface 9 (.string ⟨#[63]⟩)] 20 4 4 (by simp only [ev2, List.map_cons, List.map_nil, Wd.val, callB_no HK.out]; rfl) rfl (Below.refl _ _) (HT.out.on_up HB.out HBB.out) (Nat.le_trans HB.out HBB.out.size) (by simp [ev2]) (ev2_ok HE.out) (by simp [ev2]))
    go_wp2_with (go_at_call 6; refine H6.out.mono ?_; rintro e6 w6 ⟨rfl, hd6⟩)
    go_ret
    exact ⟨rfl, chain1 HBB.out hd6⟩
set_option maxRecDepth 100000 in
set_option maxHeartbeats 8000000 in
theorem show4_3 {B : Nat} (e : Ev) (p : At) (w : World) (hT : Tabs B w) (hB : B ≤ w.heap.size) (he : EvIn w e p) (hk : e.kind = 3) :
    Calls Tryd.prog 4 #[.agg (e.cells p).toArray] w fun r w' => r = .returned (.string (by_ (wordsT (ev3 e)))) ∧ Below w.heap.size w w' := by
  have t1 : (e.kind == 1) = false := beq_eq_false_iff_ne.2 (by omega)
  have t2 : (e.kind == 2) = false := beq_eq_false_iff_ne.2 (by omega)
  have t3 : (e.kind == 3) = true := beq_iff_eq.2 hk
  have hA := below_alloc (Below.refl w.heap.size w) (.cells (e.cells p).toArray 38)
  have hblk := Go.heap_alloc_new w (.cells (e.cells p).toArray 38)
  obtain ⟨w1, hw1⟩ : ∃ w1, w1 = w.alloc (.cells (e.cells p).toArray 38) := ⟨_, rfl⟩
  rw [← hw1] at hA hblk
  have y1 : w1.cell? ⟨w.heap.size, 1, none⟩ = some (.int .i64 e.a) := (cellB hblk 1).trans (by unfold Ev.cells; rfl)
  have y2 : w1.cell? ⟨w.heap.size, 2, none⟩ = some (.int .i64 e.k) := (cellB hblk 2).trans (by unfold Ev.cells; rfl)
  unfold Ev.cells at hw1
  have HW := Lib.hid hw1
  have HT := Lib.hid hT
  have HB := Lib.hid hB
  have HE := Lib.hid he
  have HA := Lib.hid hA
  clear hT hB he hA hblk hk hw1
  unfold Ev.cells
  go_enter Tryd.func4, Tryd.ntmps4
  go_upto_region 10 with (fail)
  rw [← HW.out]
  have H6 := Lib.hid (words_later (B := B) (ev3 e) w1 (w1.alloc (.cells #[.iface 9 (.string ⟨#[115, 101, 110, 116]⟩), .iface 3 (.int .i64 e.a), .iface 3 (.int .i64 e.k)] 20)) #[.iface 9 (.string ⟨#[115, 101, 110, 116]⟩), .iface 3 (.int .i64 e.a), .iface 3 (.int .i64 e.k)] 20 3 3 rfl rfl (Below.refl _ _) (HT.out.on_up HB.out HA.out) (Nat.le_trans HB.out HA.out.size) (by simp [ev3]) (ev3_ok HE.out) (by simp [ev3]))
  go_wp2_with (go_at_call 6; refine H6.out.mono ?_; rintro e6 w6 ⟨rfl, hd6⟩)
  go_ret
  exact ⟨rfl, chain1 HA.out hd6⟩
set_option maxRecDepth 100000 in
set_option maxHeartbeats 8000000 in
theorem show4_4 {B : Nat} (e : Ev) (p : At) (w : World) (hT : Tabs B w) (hB : B ≤ w.heap.size) (he : EvIn w e p) (hk : e.kind = 4) :
    Calls Tryd.prog 4 #[.agg (e.cells p).toArray] w fun r w' => r = .returned (.string (by_ (wordsT (ev4 e)))) ∧ Below w.heap.size w w' := by
  have t1 : (e.kind == 1) = false := beq_eq_false_iff_ne.2 (by omega)
  have t2 : (e.kind == 2) = false := beq_eq_false_iff_ne.2 (by omega)
  have t3 : (e.kind == 3) = false := beq_eq_false_iff_ne.2 (by omega)
  have t4 : (e.kind == 4) = true := beq_iff_eq.2 hk
  have hA := below_alloc (Below.refl w.heap.size w) (.cells (e.cells p).toArray 38)
  have hblk := Go.heap_alloc_new w (.cells (e.cells p).toArray 38)
  obtain ⟨w1, hw1⟩ : ∃ w1, w1 = w.alloc (.cells (e.cells p).toArray 38) := ⟨_, rfl⟩
  rw [← hw1] at hA hblk
  have y2 : w1.cell? ⟨w.heap.size, 2, none⟩ = some (.int .i64 e.k) := (cellB hblk 2).trans (by unfold Ev.cells; rfl)
  unfold Ev.cells at hw1
  have HW := Lib.hid hw1
  have HT := Lib.hid hT
  have HB := Lib.hid hB
  have HE := Lib.hid he
  have HA := Lib.hid hA
  clear hT hB he hA hblk hk hw1
  unfold Ev.cells
  go_enter Tryd.func4, Tryd.ntmps4
  go_upto_region 12 with (fail)
  rw [← HW.out]
  have H6 := Lib.hid (words_later (B := B) (ev4 e) w1 (w1.alloc (.cells #[.iface 9 (.string ⟨#[115, 101, 114, 118, 101, 100]⟩), .iface 3 (.int .i64 e.k)] 20)) #[.iface 9 (.string ⟨#[115, 101, 114, 118, 101, 100]⟩), .iface 3 (.int .i64 e.k)] 20 2 2 rfl rfl (Below.refl _ _) (HT.out.on_up HB.out HA.out) (Nat.le_trans HB.out HA.out.size) (by simp [ev4]) (ev4_ok HE.out) (by simp [ev4]))
  go_wp2_with (go_at_call 6; refine H6.out.mono ?_; rintro e6 w6 ⟨rfl, hd6⟩)
  go_ret
  exact ⟨rfl, chain1 HA.out hd6⟩
set_option maxRecDepth 100000 in
set_option maxHeartbeats 8000000 in
theorem show4_5 {B : Nat} (e : Ev) (p : At) (w : World) (hT : Tabs B w) (hB : B ≤ w.heap.size) (he : EvIn w e p) (hk : e.kind = 5) :
    Calls Tryd.prog 4 #[.agg (e.cells p).toArray] w fun r w' => r = .returned (.string (by_ (wordsT (ev5 e)))) ∧ Below w.heap.size w w' := by
  have t1 : (e.kind == 1) = false := beq_eq_false_iff_ne.2 (by omega)
  have t2 : (e.kind == 2) = false := beq_eq_false_iff_ne.2 (by omega)
  have t3 : (e.kind == 3) = false := beq_eq_false_iff_ne.2 (by omega)
  have t4 : (e.kind == 4) = false := beq_eq_false_iff_ne.2 (by omega)
  have t5 : (e.kind == 5) = true := beq_iff_eq.2 hk
  have hA := below_alloc (Below.refl w.heap.size w) (.cells (e.cells p).toArray 38)
  have hblk := Go.heap_alloc_new w (.cells (e.cells p).toArray 38)
  obtain ⟨w1, hw1⟩ : ∃ w1, w1 = w.alloc (.cells (e.cells p).toArray 38) := ⟨_, rfl⟩
  rw [← hw1] at hA hblk
  have y1 : w1.cell? ⟨w.heap.size, 1, none⟩ = some (.int .i64 e.a) := (cellB hblk 1).trans (by unfold Ev.cells; rfl)
  have hrg : w1.rangeAt w.heap.size 14 (e.res.cells p.A2 p.c2 p.A3 p.c3) := range_res hblk
  have HRG := Lib.hid hrg
  clear hrg
  unfold Ev.cells at hw1
  have HW := Lib.hid hw1
  have HT := Lib.hid hT
  have HB := Lib.hid hB
  have HE := Lib.hid he
  have HA := Lib.hid hA
  clear hT hB he hA hblk hk hw1
  unfold Ev.cells
  go_enter Tryd.func4, Tryd.ntmps4
  go_upto_region 14 with (fail)
  rw [← HW.out]
  go_wp2_with (first | (refine wpList_load_mid rfl 30 _ rfl w.heap.size 14 rfl (e.res.cells p.A2 p.c2 p.A3 p.c3) _ HRG.out Tryd.underlying30 rfl (by kernel_rfl) ?_; go_simp) | (go_at_call 8; refine (returned8 (B := B) e.a e.res p.A2 p.c2 p.A3 p.c3 w1 (HT.out.on_up HB.out HA.out) (Nat.le_trans HB.out HA.out.size) (HE.out.on HA.out).res HE.out.a).mono ?_; rintro e6 w6 ⟨rfl, hd6⟩))
  go_ret
  exact ⟨rfl, below_then HA.out HA.out.size hd6⟩
set_option maxRecDepth 100000 in
set_option maxHeartbeats 8000000 in
theorem show4_6 {B : Nat} (e : Ev) (p : At) (w : World) (hT : Tabs B w) (hB : B ≤ w.heap.size) (he : EvIn w e p) (hk : e.kind = 6) :
    Calls Tryd.prog 4 #[.agg (e.cells p).toArray] w fun r w' => r = .returned (.string (by_ (wordsT (ev6 e)))) ∧ Below w.heap.size w w' := by
  have t1 : (e.kind == 1) = false := beq_eq_false_iff_ne.2 (by omega)
  have t2 : (e.kind == 2) = false := beq_eq_false_iff_ne.2 (by omega)
  have t3 : (e.kind == 3) = false := beq_eq_false_iff_ne.2 (by omega)
  have t4 : (e.kind == 4) = false := beq_eq_false_iff_ne.2 (by omega)
  have t5 : (e.kind == 5) = false := beq_eq_false_iff_ne.2 (by omega)
  have t6 : (e.kind == 6) = true := beq_iff_eq.2 hk
  have hA := below_alloc (Below.refl w.heap.size w) (.cells (e.cells p).toArray 38)
  have hblk := Go.heap_alloc_new w (.cells (e.cells p).toArray 38)
  obtain ⟨w1, hw1⟩ : ∃ w1, w1 = w.alloc (.cells (e.cells p).toArray 38) := ⟨_, rfl⟩
  rw [← hw1] at hA hblk
  have y1 : w1.cell? ⟨w.heap.size, 1, none⟩ = some (.int .i64 e.a) := (cellB hblk 1).trans (by unfold Ev.cells; rfl)
  have y25 : w1.cell? ⟨w.heap.size, 25, none⟩ = some (.int .i64 e.hn) := (cellB hblk 25).trans (by unfold Ev.cells; rfl)
  have y26 : w1.cell? ⟨w.heap.size, 26, none⟩ = some (.int .i64 e.hi) := (cellB hblk 26).trans (by unfold Ev.cells; rfl)
  have y27 : w1.cell? ⟨w.heap.size, 27, none⟩ = some (.int .i64 e.he) := (cellB hblk 27).trans (by unfold Ev.cells; rfl)
  have y28 : w1.cell? ⟨w.heap.size, 28, none⟩ = some (.string e.hp) := (cellB hblk 28).trans (by unfold Ev.cells; rfl)
  unfold Ev.cells at hw1
  have HW := Lib.hid hw1
  have HT := Lib.hid hT
  have HB := Lib.hid hB
  have HE := Lib.hid he
  have HA := Lib.hid hA
  clear hT hB he hA hblk hk hw1
  unfold Ev.cells
  go_enter Tryd.func4, Tryd.ntmps4
  go_upto_region 16 with (fail)
  rw [← HW.out]
  go_region_held3 (fun W => W.cell? ⟨w.heap.size, 1, none⟩ = some (.int .i64 e.a) ∧ W.cell? ⟨w.heap.size, 25, none⟩ = some (.int .i64 e.hn) ∧ W.cell? ⟨w.heap.size, 26, none⟩ = some (.int .i64 e.hi) ∧ W.cell? ⟨w.heap.size, 27, none⟩ = some (.int .i64 e.he) ∧ W.cell? ⟨w.heap.size, 28, none⟩ = some (.string e.hp)) (first | exact ⟨y1, y25, y26, y27, y28⟩ | assumption | (have hs := ‹_ ∧ _ ∧ _ ∧ _ ∧ _›; first | exact ⟨cell_on hdX hs.1, cell_on hdX hs.2.1, cell_on hdX hs.2.2.1, cell_on hdX hs.2.2.2.1, cell_on hdX hs.2.2.2.2⟩ | exact ⟨cell_on (below_alloc (Below.refl _ _) _) hs.1, cell_on (below_alloc (Below.refl _ _) _) hs.2.1, cell_on (below_alloc (Below.refl _ _) _) hs.2.2.1, cell_on (below_alloc (Below.refl _ _) _) hs.2.2.2.1, cell_on (below_alloc (Below.refl _ _) _) hs.2.2.2.2⟩ | exact ⟨cell_on hd6 hs.1, cell_on hd6 hs.2.1, cell_on hd6 hs.2.2.1, cell_on hd6 hs.2.2.2.1, cell_on hd6 hs.2.2.2.2⟩)) (first | (go_at_call 9; refine (text7 e.hp _ HE.out.hp).mono ?_; rintro eX wX ⟨rfl, hdX⟩) | (go_at_call 6; refine (words_later (B := B) (ev6 e) wX _ #[.iface 9 (.string ⟨#[104, 97, 110, 100, 108, 101]⟩), .iface 3 (.int .i64 e.a), .iface 3 (.int .i64 e.hn), .iface 3 (.int .i64 e.hi), .iface 3 (.int .i64 e.he), .iface 9 (.string (textOf e.hp))] 20 6 6 rfl rfl (Below.refl _ _) (HT.out.on_up HB.out (below_then (below_drew HA.out) HA.out.size hdX)) (Nat.le_trans HB.out (below_then (below_drew HA.out) HA.out.size hdX).size) (by simp [ev6]) (ev6_ok HE.out) (by simp [ev6])).mono ?_; rintro e6 w6 ⟨rfl, hd6⟩))
  all_goals
    go_wp2_with fail
    go_ret
    exact ⟨rfl, chain1 (below_then (below_drew HA.out) HA.out.size hdX) hd6⟩
set_option maxRecDepth 100000 in
set_option maxHeartbeats 8000000 in
theorem show4_7 {B : Nat} (e : Ev) (p : At) (w : World) (hT : Tabs B w) (hB : B ≤ w.heap.size) (he : EvIn w e p) (hk : e.kind = 7) :
    Calls Tryd.prog 4 #[.agg (e.cells p).toArray] w fun r w' => r = .returned (.string (by_ (wordsT (ev7 e)))) ∧ Below w.heap.size w w' := by
  have t1 : (e.kind == 1) = false := beq_eq_false_iff_ne.2 (by omega)
  have t2 : (e.kind == 2) = false := beq_eq_false_iff_ne.2 (by omega)
  have t3 : (e.kind == 3) = false := beq_eq_false_iff_ne.2 (by omega)
  have t4 : (e.kind == 4) = false := beq_eq_false_iff_ne.2 (by omega)
  have t5 : (e.kind == 5) = false := beq_eq_false_iff_ne.2 (by omega)
  have t6 : (e.kind == 6) = false := beq_eq_false_iff_ne.2 (by omega)
  have t7 : (e.kind == 7) = true := beq_iff_eq.2 hk
  have hA := below_alloc (Below.refl w.heap.size w) (.cells (e.cells p).toArray 38)
  have hblk := Go.heap_alloc_new w (.cells (e.cells p).toArray 38)
  obtain ⟨w1, hw1⟩ : ∃ w1, w1 = w.alloc (.cells (e.cells p).toArray 38) := ⟨_, rfl⟩
  rw [← hw1] at hA hblk
  have y4 : w1.cell? ⟨w.heap.size, 4, none⟩ = some (.int .i64 e.code) := (cellB hblk 4).trans (by unfold Ev.cells; rfl)
  have y2 : w1.cell? ⟨w.heap.size, 2, none⟩ = some (.int .i64 e.k) := (cellB hblk 2).trans (by unfold Ev.cells; rfl)
  have y3 : w1.cell? ⟨w.heap.size, 3, none⟩ = some (.int .i64 e.m) := (cellB hblk 3).trans (by unfold Ev.cells; rfl)
  unfold Ev.cells at hw1
  have HW := Lib.hid hw1
  have HT := Lib.hid hT
  have HB := Lib.hid hB
  have HE := Lib.hid he
  have HA := Lib.hid hA
  clear hT hB he hA hblk hk hw1
  unfold Ev.cells
  go_enter Tryd.func4, Tryd.ntmps4
  go_upto_region 18 with (fail)
  rw [← HW.out]
  have H6 := Lib.hid (words_later (B := B) (ev7 e) w1 (w1.alloc (.cells #[.iface 9 (.string ⟨#[100, 111, 119, 110]⟩), .iface 3 (.int .i64 e.code), .iface 3 (.int .i64 e.k), .iface 3 (.int .i64 e.m)] 20)) #[.iface 9 (.string ⟨#[100, 111, 119, 110]⟩), .iface 3 (.int .i64 e.code), .iface 3 (.int .i64 e.k), .iface 3 (.int .i64 e.m)] 20 4 4 rfl rfl (Below.refl _ _) (HT.out.on_up HB.out HA.out) (Nat.le_trans HB.out HA.out.size) (by simp [ev7]) (ev7_ok HE.out) (by simp [ev7]))
  go_wp2_with (go_at_call 6; refine H6.out.mono ?_; rintro e6 w6 ⟨rfl, hd6⟩)
  go_ret
  exact ⟨rfl, chain1 HA.out hd6⟩
set_option maxRecDepth 100000 in
set_option maxHeartbeats 8000000 in
theorem show4_8 {B : Nat} (e : Ev) (p : At) (w : World) (hT : Tabs B w) (hB : B ≤ w.heap.size) (he : EvIn w e p) (hk : e.kind = 8) :
    Calls Tryd.prog 4 #[.agg (e.cells p).toArray] w fun r w' => r = .returned (.string (by_ (wordsT (ev8 e)))) ∧ Below w.heap.size w w' := by
  have t1 : (e.kind == 1) = false := beq_eq_false_iff_ne.2 (by omega)
  have t2 : (e.kind == 2) = false := beq_eq_false_iff_ne.2 (by omega)
  have t3 : (e.kind == 3) = false := beq_eq_false_iff_ne.2 (by omega)
  have t4 : (e.kind == 4) = false := beq_eq_false_iff_ne.2 (by omega)
  have t5 : (e.kind == 5) = false := beq_eq_false_iff_ne.2 (by omega)
  have t6 : (e.kind == 6) = false := beq_eq_false_iff_ne.2 (by omega)
  have t7 : (e.kind == 7) = false := beq_eq_false_iff_ne.2 (by omega)
  have t8 : (e.kind == 8) = true := beq_iff_eq.2 hk
  have hA := below_alloc (Below.refl w.heap.size w) (.cells (e.cells p).toArray 38)
  have hblk := Go.heap_alloc_new w (.cells (e.cells p).toArray 38)
  obtain ⟨w1, hw1⟩ : ∃ w1, w1 = w.alloc (.cells (e.cells p).toArray 38) := ⟨_, rfl⟩
  rw [← hw1] at hA hblk
  have y2 : w1.cell? ⟨w.heap.size, 2, none⟩ = some (.int .i64 e.k) := (cellB hblk 2).trans (by unfold Ev.cells; rfl)
  unfold Ev.cells at hw1
  have HW := Lib.hid hw1
  have HT := Lib.hid hT
  have HB := Lib.hid hB
  have HE := Lib.hid he
  have HA := Lib.hid hA
  clear hT hB he hA hblk hk hw1
  unfold Ev.cells
  go_enter Tryd.func4, Tryd.ntmps4
  go_upto_region 20 with (fail)
  rw [← HW.out]
  have H6 := Lib.hid (words_later (B := B) (ev8 e) w1 (w1.alloc (.cells #[.iface 9 (.string ⟨#[117, 112]⟩), .iface 3 (.int .i64 e.k)] 20)) #[.iface 9 (.string ⟨#[117, 112]⟩), .iface 3 (.int .i64 e.k)] 20 2 2 rfl rfl (Below.refl _ _) (HT.out.on_up HB.out HA.out) (Nat.le_trans HB.out HA.out.size) (by simp [ev8]) (ev8_ok HE.out) (by simp [ev8]))
  go_wp2_with (go_at_call 6; refine H6.out.mono ?_; rintro e6 w6 ⟨rfl, hd6⟩)
  go_ret
  exact ⟨rfl, chain1 HA.out hd6⟩
set_option maxRecDepth 100000 in
set_option maxHeartbeats 8000000 in
theorem show4_9 {B : Nat} (e : Ev) (p : At) (w : World) (hT : Tabs B w) (hB : B ≤ w.heap.size) (he : EvIn w e p) (hk : e.kind = 9) :
    Calls Tryd.prog 4 #[.agg (e.cells p).toArray] w fun r w' => r = .returned (.string (by_ (wordsT (ev9 e)))) ∧ Below w.heap.size w w' := by
  have t1 : (e.kind == 1) = false := beq_eq_false_iff_ne.2 (by omega)
  have t2 : (e.kind == 2) = false := beq_eq_false_iff_ne.2 (by omega)
  have t3 : (e.kind == 3) = false := beq_eq_false_iff_ne.2 (by omega)
  have t4 : (e.kind == 4) = false := beq_eq_false_iff_ne.2 (by omega)
  have t5 : (e.kind == 5) = false := beq_eq_false_iff_ne.2 (by omega)
  have t6 : (e.kind == 6) = false := beq_eq_false_iff_ne.2 (by omega)
  have t7 : (e.kind == 7) = false := beq_eq_false_iff_ne.2 (by omega)
  have t8 : (e.kind == 8) = false := beq_eq_false_iff_ne.2 (by omega)
  have t9 : (e.kind == 9) = true := beq_iff_eq.2 hk
  have hA := below_alloc (Below.refl w.heap.size w) (.cells (e.cells p).toArray 38)
  have hblk := Go.heap_alloc_new w (.cells (e.cells p).toArray 38)
  obtain ⟨w1, hw1⟩ : ∃ w1, w1 = w.alloc (.cells (e.cells p).toArray 38) := ⟨_, rfl⟩
  rw [← hw1] at hA hblk
  have y1 : w1.cell? ⟨w.heap.size, 1, none⟩ = some (.int .i64 e.a) := (cellB hblk 1).trans (by unfold Ev.cells; rfl)
  have y2 : w1.cell? ⟨w.heap.size, 2, none⟩ = some (.int .i64 e.k) := (cellB hblk 2).trans (by unfold Ev.cells; rfl)
  have y3 : w1.cell? ⟨w.heap.size, 3, none⟩ = some (.int .i64 e.m) := (cellB hblk 3).trans (by unfold Ev.cells; rfl)
  unfold Ev.cells at hw1
  have HW := Lib.hid hw1
  have HT := Lib.hid hT
  have HB := Lib.hid hB
  have HE := Lib.hid he
  have HA := Lib.hid hA
  clear hT hB he hA hblk hk hw1
  unfold Ev.cells
  go_enter Tryd.func4, Tryd.ntmps4
  go_upto_region 22 with (fail)
  rw [← HW.out]
  have H6 := Lib.hid (words_later (B := B) (ev9 e) w1 (w1.alloc (.cells #[.iface 9 (.string ⟨#[115, 101, 114, 118, 101, 114]⟩), .iface 3 (.int .i64 e.a), .iface 3 (.int .i64 e.k), .iface 3 (.int .i64 e.m)] 20)) #[.iface 9 (.string ⟨#[115, 101, 114, 118, 101, 114]⟩), .iface 3 (.int .i64 e.a), .iface 3 (.int .i64 e.k), .iface 3 (.int .i64 e.m)] 20 4 4 rfl rfl (Below.refl _ _) (HT.out.on_up HB.out HA.out) (Nat.le_trans HB.out HA.out.size) (by simp [ev9]) (ev9_ok HE.out) (by simp [ev9]))
  go_wp2_with (go_at_call 6; refine H6.out.mono ?_; rintro e6 w6 ⟨rfl, hd6⟩)
  go_ret
  exact ⟨rfl, chain1 HA.out hd6⟩
set_option maxRecDepth 100000 in
set_option maxHeartbeats 8000000 in
theorem show4_10 {B : Nat} (e : Ev) (p : At) (w : World) (hT : Tabs B w) (hB : B ≤ w.heap.size) (he : EvIn w e p) (hk : e.kind = 10) :
    Calls Tryd.prog 4 #[.agg (e.cells p).toArray] w fun r w' => r = .returned (.string (by_ (wordsT (ev10 e)))) ∧ Below w.heap.size w w' := by
  have t1 : (e.kind == 1) = false := beq_eq_false_iff_ne.2 (by omega)
  have t2 : (e.kind == 2) = false := beq_eq_false_iff_ne.2 (by omega)
  have t3 : (e.kind == 3) = false := beq_eq_false_iff_ne.2 (by omega)
  have t4 : (e.kind == 4) = false := beq_eq_false_iff_ne.2 (by omega)
  have t5 : (e.kind == 5) = false := beq_eq_false_iff_ne.2 (by omega)
  have t6 : (e.kind == 6) = false := beq_eq_false_iff_ne.2 (by omega)
  have t7 : (e.kind == 7) = false := beq_eq_false_iff_ne.2 (by omega)
  have t8 : (e.kind == 8) = false := beq_eq_false_iff_ne.2 (by omega)
  have t9 : (e.kind == 9) = false := beq_eq_false_iff_ne.2 (by omega)
  have t10 : (e.kind == 10) = true := beq_iff_eq.2 hk
  have hA := below_alloc (Below.refl w.heap.size w) (.cells (e.cells p).toArray 38)
  have hblk := Go.heap_alloc_new w (.cells (e.cells p).toArray 38)
  obtain ⟨w1, hw1⟩ : ∃ w1, w1 = w.alloc (.cells (e.cells p).toArray 38) := ⟨_, rfl⟩
  rw [← hw1] at hA hblk
  have y29 : w1.cell? ⟨w.heap.size, 29, none⟩ = some (.int .i64 e.kcl) := (cellB hblk 29).trans (by unfold Ev.cells; rfl)
  have y30 : w1.cell? ⟨w.heap.size, 30, none⟩ = some (.int .i64 e.kseq) := (cellB hblk 30).trans (by unfold Ev.cells; rfl)
  have y31 : w1.cell? ⟨w.heap.size, 31, none⟩ = some (.int .i64 e.kst) := (cellB hblk 31).trans (by unfold Ev.cells; rfl)
  have y32 : w1.cell? ⟨w.heap.size, 32, none⟩ = some (.slice p.A4 e.kdata.length p.c4) := (cellB hblk 32).trans (by unfold Ev.cells; rfl)
  unfold Ev.cells at hw1
  have HW := Lib.hid hw1
  have HT := Lib.hid hT
  have HB := Lib.hid hB
  have HE := Lib.hid he
  have HA := Lib.hid hA
  clear hT hB he hA hblk hk hw1
  unfold Ev.cells
  go_enter Tryd.func4, Tryd.ntmps4
  go_upto_region 24 with (fail)
  rw [← HW.out]
  have hd1 := (HE.out.on HA.out).kdata.rd
  have HD := Lib.hid hd1
  clear hd1
  go_region_held3 (fun W => W.cell? ⟨w.heap.size, 29, none⟩ = some (.int .i64 e.kcl) ∧ W.cell? ⟨w.heap.size, 30, none⟩ = some (.int .i64 e.kseq) ∧ W.cell? ⟨w.heap.size, 31, none⟩ = some (.int .i64 e.kst) ∧ W.cell? ⟨w.heap.size, 32, none⟩ = some (.slice p.A4 e.kdata.length p.c4)) (first | exact ⟨y29, y30, y31, y32⟩ | assumption | (have hs := ‹_ ∧ _ ∧ _ ∧ _›; first | exact ⟨cell_on hdX hs.1, cell_on hdX hs.2.1, cell_on hdX hs.2.2.1, cell_on hdX hs.2.2.2⟩ | exact ⟨cell_on (below_alloc (Below.refl _ _) _) hs.1, cell_on (below_alloc (Below.refl _ _) _) hs.2.1, cell_on (below_alloc (Below.refl _ _) _) hs.2.2.1, cell_on (below_alloc (Below.refl _ _) _) hs.2.2.2⟩ | exact ⟨cell_on hd6 hs.1, cell_on hd6 hs.2.1, cell_on hd6 hs.2.2.1, cell_on hd6 hs.2.2.2⟩)) (first | (go_at_call 10; refine (hexed10 e.kdata p.A4 p.c4 _ HE.out.kdata.bytes HE.out.kdata.len (Kd.C_below HD.out (below_drew (Below.refl _ _))) HE.out.kdata.cap).mono ?_; rintro eX wX ⟨rfl, hdX⟩) | (go_at_call 6; refine (words_later (B := B) (ev10 e) wX _ #[.iface 9 (.string ⟨#[107, 101, 112, 116]⟩), .iface 3 (.int .i64 e.kcl), .iface 3 (.int .i64 e.kseq), .iface 3 (.int .i64 e.kst), .iface 9 (.string (hexW e.kdata))] 20 5 5 rfl rfl (Below.refl _ _) (HT.out.on_up HB.out (below_then (below_drew HA.out) HA.out.size hdX)) (Nat.le_trans HB.out (below_then (below_drew HA.out) HA.out.size hdX).size) (by simp [ev10]) (ev10_ok HE.out) (by simp [ev10])).mono ?_; rintro e6 w6 ⟨rfl, hd6⟩))
  all_goals
    go_wp2_with fail
    go_ret
    exact ⟨rfl, chain1 (below_then (below_drew HA.out) HA.out.size hdX) hd6⟩
set_option maxRecDepth 100000 in
set_option maxHeartbeats 8000000 in
theorem show4_11 {B : Nat} (e : Ev) (p : At) (w : World) (hT : Tabs B w) (hB : B ≤ w.heap.size) (he : EvIn w e p) (hk : e.kind = 11) :
    Calls Tryd.prog 4 #[.agg (e.cells p).toArray] w fun r w' => r = .returned (.string (by_ (wordsT (ev11 e)))) ∧ Below w.heap.size w w' := by
  have t1 : (e.kind == 1) = false := beq_eq_false_iff_ne.2 (by omega)
  have t2 : (e.kind == 2) = false := beq_eq_false_iff_ne.2 (by omega)
  have t3 : (e.kind == 3) = false := beq_eq_false_iff_ne.2 (by omega)
  have t4 : (e.kind == 4) = false := beq_eq_false_iff_ne.2 (by omega)
  have t5 : (e.kind == 5) = false := beq_eq_false_iff_ne.2 (by omega)
  have t6 : (e.kind == 6) = false := beq_eq_false_iff_ne.2 (by omega)
  have t7 : (e.kind == 7) = false := beq_eq_false_iff_ne.2 (by omega)
  have t8 : (e.kind == 8) = false := beq_eq_false_iff_ne.2 (by omega)
  have t9 : (e.kind == 9) = false := beq_eq_false_iff_ne.2 (by omega)
  have t10 : (e.kind == 10) = false := beq_eq_false_iff_ne.2 (by omega)
  have t11 : (e.kind == 11) = true := beq_iff_eq.2 hk
  have hA := below_alloc (Below.refl w.heap.size w) (.cells (e.cells p).toArray 38)
  have hblk := Go.heap_alloc_new w (.cells (e.cells p).toArray 38)
  obtain ⟨w1, hw1⟩ : ∃ w1, w1 = w.alloc (.cells (e.cells p).toArray 38) := ⟨_, rfl⟩
  rw [← hw1] at hA hblk
  have y1 : w1.cell? ⟨w.heap.size, 1, none⟩ = some (.int .i64 e.a) := (cellB hblk 1).trans (by unfold Ev.cells; rfl)
  have y2 : w1.cell? ⟨w.heap.size, 2, none⟩ = some (.int .i64 e.k) := (cellB hblk 2).trans (by unfold Ev.cells; rfl)
  have y3 : w1.cell? ⟨w.heap.size, 3, none⟩ = some (.int .i64 e.m) := (cellB hblk 3).trans (by unfold Ev.cells; rfl)
  unfold Ev.cells at hw1
  have HW := Lib.hid hw1
  have HT := Lib.hid hT
  have HB := Lib.hid hB
  have HE := Lib.hid he
  have HA := Lib.hid hA
  clear hT hB he hA hblk hk hw1
  unfold Ev.cells
  go_enter Tryd.func4, Tryd.ntmps4
  go_upto_region 26 with (fail)
  rw [← HW.out]
  have H6 := Lib.hid (words_later (B := B) (ev11 e) w1 (w1.alloc (.cells #[.iface 9 (.string ⟨#[109, 97, 114, 107]⟩), .iface 3 (.int .i64 e.a), .iface 3 (.int .i64 e.k), .iface 3 (.int .i64 e.m)] 20)) #[.iface 9 (.string ⟨#[109, 97, 114, 107]⟩), .iface 3 (.int .i64 e.a), .iface 3 (.int .i64 e.k), .iface 3 (.int .i64 e.m)] 20 4 4 rfl rfl (Below.refl _ _) (HT.out.on_up HB.out HA.out) (Nat.le_trans HB.out HA.out.size) (by simp [ev11]) (ev11_ok HE.out) (by simp [ev11]))
  go_wp2_with (go_at_call 6; refine H6.out.mono ?_; rintro e6 w6 ⟨rfl, hd6⟩)
  go_ret
  exact ⟨rfl, chain1 HA.out hd6⟩
set_option maxRecDepth 100000 in
set_option maxHeartbeats 8000000 in
theorem show4_12 {B : Nat} (e : Ev) (p : At) (w : World) (hT : Tabs B w) (hB : B ≤ w.heap.size) (he : EvIn w e p) (hk : e.kind = 12) :
    Calls Tryd.prog 4 #[.agg (e.cells p).toArray] w fun r w' => r = .returned (.string (by_ (wordsT (ev12 e)))) ∧ Below w.heap.size w w' := by
  have t1 : (e.kind == 1) = false := beq_eq_false_iff_ne.2 (by omega)
  have t2 : (e.kind == 2) = false := beq_eq_false_iff_ne.2 (by omega)
  have t3 : (e.kind == 3) = false := beq_eq_false_iff_ne.2 (by omega)
  have t4 : (e.kind == 4) = false := beq_eq_false_iff_ne.2 (by omega)
  have t5 : (e.kind == 5) = false := beq_eq_false_iff_ne.2 (by omega)
  have t6 : (e.kind == 6) = false := beq_eq_false_iff_ne.2 (by omega)
  have t7 : (e.kind == 7) = false := beq_eq_false_iff_ne.2 (by omega)
  have t8 : (e.kind == 8) = false := beq_eq_false_iff_ne.2 (by omega)
  have t9 : (e.kind == 9) = false := beq_eq_false_iff_ne.2 (by omega)
  have t10 : (e.kind == 10) = false := beq_eq_false_iff_ne.2 (by omega)
  have t11 : (e.kind == 11) = false := beq_eq_false_iff_ne.2 (by omega)
  have t12 : (e.kind == 12) = true := beq_iff_eq.2 hk
  have hA := below_alloc (Below.refl w.heap.size w) (.cells (e.cells p).toArray 38)
  have hblk := Go.heap_alloc_new w (.cells (e.cells p).toArray 38)
  obtain ⟨w1, hw1⟩ : ∃ w1, w1 = w.alloc (.cells (e.cells p).toArray 38) := ⟨_, rfl⟩
  rw [← hw1] at hA hblk
  have y33 : w1.cell? ⟨w.heap.size, 33, none⟩ = some (.int .i64 e.fno) := (cellB hblk 33).trans (by unfold Ev.cells; rfl)
  have y34 : w1.cell? ⟨w.heap.size, 34, none⟩ = some (.int .i64 e.fto) := (cellB hblk 34).trans (by unfold Ev.cells; rfl)
  have y35 : w1.cell? ⟨w.heap.size, 35, none⟩ = some (.slice p.A5 e.fdata.length p.c5) := (cellB hblk 35).trans (by unfold Ev.cells; rfl)
  unfold Ev.cells at hw1
  have HW := Lib.hid hw1
  have HT := Lib.hid hT
  have HB := Lib.hid hB
  have HE := Lib.hid he
  have HA := Lib.hid hA
  clear hT hB he hA hblk hk hw1
  unfold Ev.cells
  go_enter Tryd.func4, Tryd.ntmps4
  go_upto_region 28 with (fail)
  rw [← HW.out]
  have hd1 := (HE.out.on HA.out).fdata.rd
  have HD := Lib.hid hd1
  clear hd1
  go_region_held3 (fun W => W.cell? ⟨w.heap.size, 33, none⟩ = some (.int .i64 e.fno) ∧ W.cell? ⟨w.heap.size, 34, none⟩ = some (.int .i64 e.fto) ∧ W.cell? ⟨w.heap.size, 35, none⟩ = some (.slice p.A5 e.fdata.length p.c5)) (first | exact ⟨y33, y34, y35⟩ | assumption | (have hs := ‹_ ∧ _ ∧ _›; first | exact ⟨cell_on hdX hs.1, cell_on hdX hs.2.1, cell_on hdX hs.2.2⟩ | exact ⟨cell_on (below_alloc (Below.refl _ _) _) hs.1, cell_on (below_alloc (Below.refl _ _) _) hs.2.1, cell_on (below_alloc (Below.refl _ _) _) hs.2.2⟩ | exact ⟨cell_on hd6 hs.1, cell_on hd6 hs.2.1, cell_on hd6 hs.2.2⟩)) (first | (go_at_call 10; refine (hexed10 e.fdata p.A5 p.c5 _ HE.out.fdata.bytes HE.out.fdata.len (Kd.C_below HD.out (below_drew (Below.refl _ _))) HE.out.fdata.cap).mono ?_; rintro eX wX ⟨rfl, hdX⟩) | (go_at_call 6; refine (words_later (B := B) (ev12 e) wX _ #[.iface 9 (.string ⟨#[102, 108, 105, 103, 104, 116]⟩), .iface 3 (.int .i64 e.fno), .iface 3 (.int .i64 e.fto), .iface 9 (.string (hexW e.fdata))] 20 4 4 rfl rfl (Below.refl _ _) (HT.out.on_up HB.out (below_then (below_drew HA.out) HA.out.size hdX)) (Nat.le_trans HB.out (below_then (below_drew HA.out) HA.out.size hdX).size) (by simp [ev12]) (ev12_ok HE.out) (by simp [ev12])).mono ?_; rintro e6 w6 ⟨rfl, hd6⟩))
  all_goals
    go_wp2_with fail
    go_ret
    exact ⟨rfl, chain1 (below_then (below_drew HA.out) HA.out.size hdX) hd6⟩
set_option maxRecDepth 100000 in
set_option maxHeartbeats 8000000 in
theorem show4_no {B : Nat} (e : Ev) (p : At) (w : World) (hT : Tabs B w) (hB : B ≤ w.heap.size) (he : EvIn w e p) (hk : e.kind < 1 ∨ 12 < e.kind) :
    Calls Tryd.prog 4 #[.agg (e.cells p).toArray] w fun r w' => r = .returned (.string ⟨#[]⟩) ∧ Below w.heap.size w w' := by
  have t1 : (e.kind == 1) = false := beq_eq_false_iff_ne.2 (by omega)
  have t2 : (e.kind == 2) = false := beq_eq_false_iff_ne.2 (by omega)
  have t3 : (e.kind == 3) = false := beq_eq_false_iff_ne.2 (by omega)
  have t4 : (e.kind == 4) = false := beq_eq_false_iff_ne.2 (by omega)
  have t5 : (e.kind == 5) = false := beq_eq_false_iff_ne.2 (by omega)
  have t6 : (e.kind == 6) = false := beq_eq_false_iff_ne.2 (by omega)
  have t7 : (e.kind == 7) = false := beq_eq_false_iff_ne.2 (by omega)
  have t8 : (e.kind == 8) = false := beq_eq_false_iff_ne.2 (by omega)
  have t9 : (e.kind == 9) = false := beq_eq_false_iff_ne.2 (by omega)
  have t10 : (e.kind == 10) = false := beq_eq_false_iff_ne.2 (by omega)
  have t11 : (e.kind == 11) = false := beq_eq_false_iff_ne.2 (by omega)
  have t12 : (e.kind == 12) = false := beq_eq_false_iff_ne.2 (by omega)
  have hA := below_alloc (Below.refl w.heap.size w) (.cells (e.cells p).toArray 38)
  have hblk := Go.heap_alloc_new w (.cells (e.cells p).toArray 38)
  obtain ⟨w1, hw1⟩ : ∃ w1, w1 = w.alloc (.cells (e.cells p).toArray 38) := ⟨_, rfl⟩
  rw [← hw1] at hA hblk
  unfold Ev.cells at hw1
  have HW := Lib.hid hw1
  have HT := Lib.hid hT
  have HB := Lib.hid hB
  have HE := Lib.hid he
  have HA := Lib.hid hA
  clear hT hB he hA hblk hk hw1
  unfold Ev.cells
  go_enter Tryd.func4, Tryd.ntmps4
  go_wp2
  go_ret
  exact ⟨rfl, by rw [← HW.out]; exact HA.out⟩
/-- An event's line. -/
theorem show4 {B : Nat} (e : Ev) (p : At) (w : World) (hT : Tabs B w) (hB : B ≤ w.heap.size) (he : EvIn w e p) :
    Calls Tryd.prog 4 #[.agg (e.cells p).toArray] w fun r w' => r = .returned (.string (evT e)) ∧ Below w.heap.size w w' := by
  by_cases h1 : e.kind = 1
  · have h : evT e = by_ (wordsT (ev1 e)) := by unfold evT; rw [if_pos h1]
    rw [h]
    exact show4_1 e p w hT hB he h1
  by_cases h2 : e.kind = 2
  · have h : evT e = by_ (wordsT (ev2 e)) := by unfold evT; rw [if_neg h1, if_pos h2]
    rw [h]
    exact show4_2 e p w hT hB he h2
  by_cases h3 : e.kind = 3
  · have h : evT e = by_ (wordsT (ev3 e)) := by unfold evT; rw [if_neg h1, if_neg h2, if_pos h3]
    rw [h]
    exact show4_3 e p w hT hB he h3
  by_cases h4 : e.kind = 4
  · have h : evT e = by_ (wordsT (ev4 e)) := by unfold evT; rw [if_neg h1, if_neg h2, if_neg h3, if_pos h4]
    rw [h]
    exact show4_4 e p w hT hB he h4
  by_cases h5 : e.kind = 5
  · have h : evT e = by_ (wordsT (ev5 e)) := by unfold evT; rw [if_neg h1, if_neg h2, if_neg h3, if_neg h4, if_pos h5]
    rw [h]
    exact show4_5 e p w hT hB he h5
  by_cases h6 : e.kind = 6
  · have h : evT e = by_ (wordsT (ev6 e)) := by unfold evT; rw [if_neg h1, if_neg h2, if_neg h3, if_neg h4, if_neg h5, if_pos h6]
    rw [h]
    exact show4_6 e p w hT hB he h6
  by_cases h7 : e.kind = 7
  · have h : evT e = by_ (wordsT (ev7 e)) := by unfold evT; rw [if_neg h1, if_neg h2, if_neg h3, if_neg h4, if_neg h5, if_neg h6, if_pos h7]
    rw [h]
    exact show4_7 e p w hT hB he h7
  by_cases h8 : e.kind = 8
  · have h : evT e = by_ (wordsT (ev8 e)) := by unfold evT; rw [if_neg h1, if_neg h2, if_neg h3, if_neg h4, if_neg h5, if_neg h6, if_neg h7, if_pos h8]
    rw [h]
    exact show4_8 e p w hT hB he h8
  by_cases h9 : e.kind = 9
  · have h : evT e = by_ (wordsT (ev9 e)) := by unfold evT; rw [if_neg h1, if_neg h2, if_neg h3, if_neg h4, if_neg h5, if_neg h6, if_neg h7, if_neg h8, if_pos h9]
    rw [h]
    exact show4_9 e p w hT hB he h9
  by_cases h10 : e.kind = 10
  · have h : evT e = by_ (wordsT (ev10 e)) := by unfold evT; rw [if_neg h1, if_neg h2, if_neg h3, if_neg h4, if_neg h5, if_neg h6, if_neg h7, if_neg h8, if_neg h9, if_pos h10]
    rw [h]
    exact show4_10 e p w hT hB he h10
  by_cases h11 : e.kind = 11
  · have h : evT e = by_ (wordsT (ev11 e)) := by unfold evT; rw [if_neg h1, if_neg h2, if_neg h3, if_neg h4, if_neg h5, if_neg h6, if_neg h7, if_neg h8, if_neg h9, if_neg h10, if_pos h11]
    rw [h]
    exact show4_11 e p w hT hB he h11
  by_cases h12 : e.kind = 12
  · have h : evT e = by_ (wordsT (ev12 e)) := by unfold evT; rw [if_neg h1, if_neg h2, if_neg h3, if_neg h4, if_neg h5, if_neg h6, if_neg h7, if_neg h8, if_neg h9, if_neg h10, if_neg h11, if_pos h12]
    rw [h]
    exact show4_12 e p w hT hB he h12
  have h : evT e = ⟨#[]⟩ := by unfold evT; rw [if_neg h1, if_neg h2, if_neg h3, if_neg h4, if_neg h5, if_neg h6, if_neg h7, if_neg h8, if_neg h9, if_neg h10, if_neg h11, if_neg h12]
  rw [h]
  exact show4_no e p w hT hB he (by omega)
end Go.Proofs.YtekgdlpicgibhabDoor.SH
