/-
  How a call has ended, as the program writes it (world.returned).
-/
import Derived.Test.YtekgdlpicgibhabDoorV9
namespace Go.Proofs.YtekgdlpicgibhabDoor.SH
open Go.RowKit Go.Proofs.YtekgdlpicgibhabDoorW.PrintWords PT PWorldShows

theorem cells11 {w : World} {g : Nat} {a0 a1 a2 a3 a4 a5 a6 a7 a8 a9 a10 : Value} {t : TypeId} {fr : Nat × Nat} (h : w.heap[g]? = some (.cells #[a0, a1, a2, a3, a4, a5, a6, a7, a8, a9, a10] t fr)) :
    w.cell? ⟨g, 0, none⟩ = some a0 ∧ w.cell? ⟨g, 1, none⟩ = some a1 ∧ w.cell? ⟨g, 2, none⟩ = some a2 ∧ w.cell? ⟨g, 3, none⟩ = some a3 ∧ w.cell? ⟨g, 4, none⟩ = some a4 ∧ w.cell? ⟨g, 5, none⟩ = some a5 ∧ w.cell? ⟨g, 6, none⟩ = some a6 ∧ w.cell? ⟨g, 7, none⟩ = some a7 ∧ w.cell? ⟨g, 8, none⟩ = some a8 ∧ w.cell? ⟨g, 9, none⟩ = some a9 ∧ w.cell? ⟨g, 10, none⟩ = some a10 :=
  ⟨cellB h 0, cellB h 1, cellB h 2, cellB h 3, cellB h 4, cellB h 5, cellB h 6, cellB h 7, cellB h 8, cellB h 9, cellB h 10⟩
set_option maxRecDepth 100000 in
set_option maxHeartbeats 8000000 in
theorem returned8 {B : Nat} (a : Int) (r : Rs) (A : Option Addr) (c : Nat) (L : Option Addr) (d : Nat) (w : World) (hT : Tabs B w) (hB : B ≤ w.heap.size) (hr : RsIn w r A c L d) (ha : IntR a) :
    Calls Tryd.prog 8 #[.int .i64 a, .agg (r.cells A c L d).toArray] w fun e w' => e = .returned (.string (by_ (wordsT (retHead a r ++ rowW r.list)))) ∧ Below w.heap.size w w' := by
  have hok1 := retHead_ok hr ha
  have hok2 := rowW_ok hr.list.ok
  have hll := hr.list.len
  have hok : ∀ y ∈ retHead a r ++ rowW r.list, y.ok ∧ y.text.data.toList.length ≤ 4194306 := fun y hy => (List.mem_append.1 hy).elim (hok1 y) (hok2 y)
  have hwl := words_le hok (by rw [List.length_append, rowW_len]; simp [retHead]; omega)
  have HOK := Lib.hid hok
  have HWL := Lib.hid hwl
  have hrl := rowW_len r.list
  have HRL := Lib.hid hrl
  obtain ⟨call, op, status, handle, aid, akind, asize, achange, data, list, more⟩ := r
  have hA := below_alloc (Below.refl w.heap.size w) (.cells #[.int .i64 call, .int .i64 op, .int .i64 status, .int .i64 handle, .int .i64 aid, .int .i64 akind, .int .i64 asize, .int .i64 achange, .slice A data.length c, .slice L list.length d, .bool more] 30)
  have hblk := Go.heap_alloc_new w (.cells #[.int .i64 call, .int .i64 op, .int .i64 status, .int .i64 handle, .int .i64 aid, .int .i64 akind, .int .i64 asize, .int .i64 achange, .slice A data.length c, .slice L list.length d, .bool more] 30)
  obtain ⟨y0, y1, y2, y3, y4, y5, y6, y7, y8, y9, y10⟩ := cells11 hblk
  have hcv := fun (W : World) (h : Kd.C (Kd.int .u8) W A data.length data) => Kd.C_string (P := Tryd.prog) (c := c) Tryd.underlying23 Tryd.underlying5 Tryd.underlying9 h
  have HRW := Lib.hid (hr.on hA).rd
  have HT := Lib.hid hT
  have HB := Lib.hid hB
  have HR := Lib.hid hr
  have HA := Lib.hid hA
  have hll' : list.length ≤ 1048576 := hll
  clear hT hB hr hok1 hok2 hok hwl hrl hA hblk hll
  simp only [Rs.cells]
  cases more with
  | true =>
    go_enter Tryd.func8, Tryd.ntmps8
    go_upto_region 4 with (fail)
    generalize w.alloc (.cells #[.int .i64 call, .int .i64 op, .int .i64 status, .int .i64 handle, .int .i64 aid, .int .i64 akind, .int .i64 asize, .int .i64 achange, .slice A data.length c, .slice L list.length d, .bool true] 30) = w1 at *
    go_cut [6] (fun v wx => wx.ownsRow w.heap.size 20 1 v (retHead a ⟨call, op, status, handle, aid, akind, asize, achange, data, list, true⟩).length (encs Wd.val (retHead a ⟨call, op, status, handle, aid, akind, asize, achange, data, list, true⟩)) ∧ Below w1.heap.size w1 wx)
    case first =>
      go_region_held3 (fun W => W.cell? ⟨w.heap.size, 0, none⟩ = some (.int .i64 call) ∧ W.cell? ⟨w.heap.size, 1, none⟩ = some (.int .i64 op) ∧ W.cell? ⟨w.heap.size, 2, none⟩ = some (.int .i64 status) ∧ W.cell? ⟨w.heap.size, 3, none⟩ = some (.int .i64 handle) ∧ W.cell? ⟨w.heap.size, 4, none⟩ = some (.int .i64 aid) ∧ W.cell? ⟨w.heap.size, 5, none⟩ = some (.int .i64 akind) ∧ W.cell? ⟨w.heap.size, 6, none⟩ = some (.int .i64 asize) ∧ W.cell? ⟨w.heap.size, 7, none⟩ = some (.int .i64 achange) ∧ W.cell? ⟨w.heap.size, 8, none⟩ = some (.slice A data.length c) ∧ Kd.C (Kd.int .u8) W A data.length data) (first | exact ⟨y0, y1, y2, y3, y4, y5, y6, y7, y8, HRW.out⟩ | (have hs := ‹_ ∧ _ ∧ _ ∧ _ ∧ _ ∧ _ ∧ _ ∧ _ ∧ _ ∧ _›; exact ⟨cell_on hd hs.1, cell_on hd hs.2.1, cell_on hd hs.2.2.1, cell_on hd hs.2.2.2.1, cell_on hd hs.2.2.2.2.1, cell_on hd hs.2.2.2.2.2.1, cell_on hd hs.2.2.2.2.2.2.1, cell_on hd hs.2.2.2.2.2.2.2.1, cell_on hd hs.2.2.2.2.2.2.2.2.1, Kd.C_below hs.2.2.2.2.2.2.2.2.2 hd⟩) | (have hs := ‹_ ∧ _ ∧ _ ∧ _ ∧ _ ∧ _ ∧ _ ∧ _ ∧ _ ∧ _›; exact ⟨cell_on (below_alloc (Below.refl _ _) _) hs.1, cell_on (below_alloc (Below.refl _ _) _) hs.2.1, cell_on (below_alloc (Below.refl _ _) _) hs.2.2.1, cell_on (below_alloc (Below.refl _ _) _) hs.2.2.2.1, cell_on (below_alloc (Below.refl _ _) _) hs.2.2.2.2.1, cell_on (below_alloc (Below.refl _ _) _) hs.2.2.2.2.2.1, cell_on (below_alloc (Below.refl _ _) _) hs.2.2.2.2.2.2.1, cell_on (below_alloc (Below.refl _ _) _) hs.2.2.2.2.2.2.2.1, cell_on (below_alloc (Below.refl _ _) _) hs.2.2.2.2.2.2.2.2.1, Kd.C_below hs.2.2.2.2.2.2.2.2.2 (below_alloc (Below.refl _ _) _)⟩) | assumption) (first | (go_at_call 9; refine (text7 (strOfNums data) _ (by rw [strOfNums_size]; exact HR.out.dlen)).mono ?_; rintro e w9 ⟨rfl, hd⟩))
      all_goals
        go_wp2_with fail
        go_meet
        have ho := own_lit_of (enc := Wd.val) w9 w.heap.size 20 (retHead a ⟨call, op, status, handle, aid, akind, asize, achange, data, list, true⟩) (Nat.le_trans HA.out.size hd.size) (by simp [retHead])
        exact ⟨ho, below_alloc (below_then (below_drew (Below.refl _ _)) (by simp) hd) _⟩
    case rest =>
      obtain ⟨hown, hbx⟩ := hcut
      rename World => wx
      have z9 := cell_on hbx y9
      have hB0 := below_then HA.out HA.out.size hbx
      obtain ⟨H, hH⟩ : ∃ H, H = retHead a ⟨call, op, status, handle, aid, akind, asize, achange, data, list, true⟩ := ⟨_, rfl⟩
      rw [← hH] at hown HOK HWL
      have hHl : H.length = 12 := by rw [hH]; rfl
      have HHH := Lib.hid hH
      clear y0 y1 y2 y3 y4 y5 y6 y7 y8 y9 y10 hcv HRW hH hbx
      have HO := Lib.hid hown
      have HB0 := Lib.hid hB0
      clear hown hB0
      have hT0 := hll'
      go_wp2_with fail
      go_loopw [6, 53] (fun v i wr => ∃ k : Nat, k ≤ list.length ∧ i = .int .i64 k ∧ wr.ownsRow w.heap.size 20 1 v (H ++ rowW (list.take k)).length (encs Wd.val (H ++ rowW (list.take k))) ∧ Below w.heap.size w wr) (fun _ i _ => list.length - (intOf i).toNat)
      case atStart => exact ⟨0, Nat.zero_le _, rfl, by have h := HO.out; simpa [rowW] using h, HB0.out⟩
      case round =>
        obtain ⟨k, hk, rfl, hOw, hBw⟩ := hrel
        have HOW := Lib.hid hOw
        have HBW := Lib.hid hBw
        clear hOw hBw HO HB0
        by_cases hlt : k < list.length
        · obtain ⟨x, hx⟩ : ∃ x, list[k]? = some x := ⟨list[k], by simp [hlt]⟩
          obtain ⟨ad, rfl, hcs⟩ := (HR.out.list.on HBW.out).at_ (by show 0 < list.length; omega)
          obtain ⟨c1, c2, c3⟩ := hcs k x hx
          have hxo := HR.out.list.ok x (List.mem_of_getElem? hx)
          have HXO := Lib.hid hxo
          have HSN := Lib.hid (rowW_snoc list k x hx)
          clear hcs hx hxo z9
          go_upto_region 8 with (fail)
          have hA2 := below_alloc (Below.refl wr.heap.size wr) (.cells #[.string x.name, .int .i64 x.id, .int .i64 x.kind] 56)
          have hn2 := Go.heap_alloc_new wr (.cells #[.string x.name, .int .i64 x.id, .int .i64 x.kind] 56)
          have d0 := cellB hn2 0
          have d1 := cellB hn2 1
          have d2 := cellB hn2 2
          clear hn2 c1 c2 c3
          replace d0 : (wr.alloc (.cells #[.string x.name, .int .i64 x.id, .int .i64 x.kind] 56)).cell? ⟨wr.heap.size, 0, none⟩ = some (.string x.name) := d0
          replace d1 : (wr.alloc (.cells #[.string x.name, .int .i64 x.id, .int .i64 x.kind] 56)).cell? ⟨wr.heap.size, 1, none⟩ = some (.int .i64 x.id) := d1
          replace d2 : (wr.alloc (.cells #[.string x.name, .int .i64 x.id, .int .i64 x.kind] 56)).cell? ⟨wr.heap.size, 2, none⟩ = some (.int .i64 x.kind) := d2
          generalize wr.alloc (.cells #[.string x.name, .int .i64 x.id, .int .i64 x.kind] 56) = w2 at *
          have HA2 := Lib.hid hA2
          clear hA2
          go_region_held3 (fun W => W.cell? ⟨wr.heap.size, 0, none⟩ = some (.string x.name) ∧ W.cell? ⟨wr.heap.size, 1, none⟩ = some (.int .i64 x.id) ∧ W.cell? ⟨wr.heap.size, 2, none⟩ = some (.int .i64 x.kind)) (first | exact ⟨d0, d1, d2⟩ | (have hs := ‹_ ∧ _ ∧ _›; exact ⟨cell_on hd hs.1, cell_on hd hs.2.1, cell_on hd hs.2.2⟩) | (have hs := ‹_ ∧ _ ∧ _›; exact ⟨cell_on (below_alloc (Below.refl _ _) _) hs.1, cell_on (below_alloc (Below.refl _ _) _) hs.2.1, cell_on (below_alloc (Below.refl _ _) _) hs.2.2⟩) | (have hs := ‹_ ∧ _ ∧ _›; exact ⟨cell_app HOW.out hg hs.1, cell_app HOW.out hg hs.2.1, cell_app HOW.out hg hs.2.2⟩)) (first | (go_at_call 9; refine (text7 x.name _ HXO.out.1).mono ?_; rintro e w9 ⟨rfl, hd⟩) | (refine app_wd_step w.heap.size rfl (.tmp 57) (.tmp 68) 51 20 rfl Tryd.underlying51 info20 _ (H ++ rowW (list.take k)) [.txt (textOf x.name), .num x.id, .num x.kind] 3 _ rfl rfl rfl rfl (own_up HOW.out (below_then HA2.out HA2.out.size (below_then (below_drew (Below.refl w2.heap.size w2)) (by simp) hd))) (below_then HBW.out HBW.out.size (below_then HA2.out HA2.out.size (below_then (below_drew (Below.refl w2.heap.size w2)) (by simp) hd))) (Nat.le_trans HBW.out.size (Nat.le_trans HA2.out.size hd.size)) (by rw [List.length_append, rowW_len, List.length_take]; simp; omega) ?_; intro v1 w1' ho hb hg))
          all_goals
            go_wp2_with fail
            go_roundw
            case rel => exact ⟨k + 1, hlt, by go_num, by rw [HSN.out, ← List.append_assoc]; exact ho, hb⟩
            case measure => simp [intOf]; omega
        · obtain rfl : k = list.length := by omega
          have hO := HOW.out
          rw [List.take_length] at hO
          have HW9 : Hid (∀ y ∈ H ++ rowW list, y.ok ∧ y.text.data.toList.length ≤ 4194306) := HOK
          have HL9 : Hid ((wordsT (H ++ rowW list)).length ≤ 140737488355328) := HWL
          have hxl : (H ++ rowW list).length ≤ 4000000 := by rw [List.length_append, rowW_len]; omega
          have hxp : 0 < (H ++ rowW list).length := by rw [List.length_append]; omega
          have hJE : wordsT (retHead a ⟨call, op, status, handle, aid, akind, asize, achange, data, list, true⟩ ++ rowW list) = wordsT (H ++ rowW list) := by rw [HHH.out]
          have HJE := Lib.hid hJE
          clear hJE HOW HOK HWL
          obtain ⟨xs, hxs⟩ : ∃ xs, xs = H ++ rowW list := ⟨_, rfl⟩
          rw [← hxs] at hO HW9 HL9 hxl hxp HJE
          clear hxs
          have hcells := fun g' hg' => hO.cells (g := g') hg'
          have hgl := own_lt hO
          obtain ⟨n5, hn5⟩ : ∃ n5, n5 = xs.length := ⟨_, rfl⟩
          rcases hO.2 with ⟨_, e⟩ | ⟨gb, cap0, cur, rfl, hgb, hh, hr5⟩
          · omega
          have HJ := Lib.hid (words6 (B := B) xs gb cap0 wr (HT.out.on_up HB.out HBW.out) (Nat.le_trans HB.out HBW.out.size) (hgl gb rfl) (fun j x hx => by
            have h' := hcells gb rfl j x.val (by simp only [encs, List.getElem?_map]; rw [hx]; rfl)
            rwa [add0] at h') (by omega) (fun y hy => (HW9.out y hy).1) HL9.out (fun e => by rw [e] at hxp; simp at hxp))
          rw [← hn5] at HJ
          rw [← hn5]
          clear hO hcells hgl hh hr5 hgb hxl hxp hn5
          go_wp2_with (go_at_call 6; refine HJ.out.mono ?_; rintro e w8 ⟨rfl, hb8⟩)
          go_ret
          exact ⟨(congrArg (fun t => Ending.returned (.string (by_ t))) HJE.out).symm, below_then HBW.out HBW.out.size hb8⟩
  | false =>
    go_enter Tryd.func8, Tryd.ntmps8
    go_upto_region 4 with (fail)
    generalize w.alloc (.cells #[.int .i64 call, .int .i64 op, .int .i64 status, .int .i64 handle, .int .i64 aid, .int .i64 akind, .int .i64 asize, .int .i64 achange, .slice A data.length c, .slice L list.length d, .bool false] 30) = w1 at *
    go_cut [6] (fun v wx => wx.ownsRow w.heap.size 20 1 v (retHead a ⟨call, op, status, handle, aid, akind, asize, achange, data, list, false⟩).length (encs Wd.val (retHead a ⟨call, op, status, handle, aid, akind, asize, achange, data, list, false⟩)) ∧ Below w1.heap.size w1 wx)
    case first =>
      go_region_held3 (fun W => W.cell? ⟨w.heap.size, 0, none⟩ = some (.int .i64 call) ∧ W.cell? ⟨w.heap.size, 1, none⟩ = some (.int .i64 op) ∧ W.cell? ⟨w.heap.size, 2, none⟩ = some (.int .i64 status) ∧ W.cell? ⟨w.heap.size, 3, none⟩ = some (.int .i64 handle) ∧ W.cell? ⟨w.heap.size, 4, none⟩ = some (.int .i64 aid) ∧ W.cell? ⟨w.heap.size, 5, none⟩ = some (.int .i64 akind) ∧ W.cell? ⟨w.heap.size, 6, none⟩ = some (.int .i64 asize) ∧ W.cell? ⟨w.heap.size, 7, none⟩ = some (.int .i64 achange) ∧ W.cell? ⟨w.heap.size, 8, none⟩ = some (.slice A data.length c) ∧ Kd.C (Kd.int .u8) W A data.length data) (first | exact ⟨y0, y1, y2, y3, y4, y5, y6, y7, y8, HRW.out⟩ | (have hs := ‹_ ∧ _ ∧ _ ∧ _ ∧ _ ∧ _ ∧ _ ∧ _ ∧ _ ∧ _›; exact ⟨cell_on hd hs.1, cell_on hd hs.2.1, cell_on hd hs.2.2.1, cell_on hd hs.2.2.2.1, cell_on hd hs.2.2.2.2.1, cell_on hd hs.2.2.2.2.2.1, cell_on hd hs.2.2.2.2.2.2.1, cell_on hd hs.2.2.2.2.2.2.2.1, cell_on hd hs.2.2.2.2.2.2.2.2.1, Kd.C_below hs.2.2.2.2.2.2.2.2.2 hd⟩) | (have hs := ‹_ ∧ _ ∧ _ ∧ _ ∧ _ ∧ _ ∧ _ ∧ _ ∧ _ ∧ _›; exact ⟨cell_on (below_alloc (Below.refl _ _) _) hs.1, cell_on (below_alloc (Below.refl _ _) _) hs.2.1, cell_on (below_alloc (Below.refl _ _) _) hs.2.2.1, cell_on (below_alloc (Below.refl _ _) _) hs.2.2.2.1, cell_on (below_alloc (Below.refl _ _) _) hs.2.2.2.2.1, cell_on (below_alloc (Below.refl _ _) _) hs.2.2.2.2.2.1, cell_on (below_alloc (Below.refl _ _) _) hs.2.2.2.2.2.2.1, cell_on (below_alloc (Below.refl _ _) _) hs.2.2.2.2.2.2.2.1, cell_on (below_alloc (Below.refl _ _) _) hs.2.2.2.2.2.2.2.2.1, Kd.C_below hs.2.2.2.2.2.2.2.2.2 (below_alloc (Below.refl _ _) _)⟩) | assumption) (first | (go_at_call 9; refine (text7 (strOfNums data) _ (by rw [strOfNums_size]; exact HR.out.dlen)).mono ?_; rintro e w9 ⟨rfl, hd⟩))
      all_goals
        go_wp2_with fail
        go_meet
        have ho := own_lit_of (enc := Wd.val) w9 w.heap.size 20 (retHead a ⟨call, op, status, handle, aid, akind, asize, achange, data, list, false⟩) (Nat.le_trans HA.out.size hd.size) (by simp [retHead])
        exact ⟨ho, below_alloc (below_then (below_drew (Below.refl _ _)) (by simp) hd) _⟩
    case rest =>
      obtain ⟨hown, hbx⟩ := hcut
      rename World => wx
      have z9 := cell_on hbx y9
      have hB0 := below_then HA.out HA.out.size hbx
      obtain ⟨H, hH⟩ : ∃ H, H = retHead a ⟨call, op, status, handle, aid, akind, asize, achange, data, list, false⟩ := ⟨_, rfl⟩
      rw [← hH] at hown HOK HWL
      have hHl : H.length = 12 := by rw [hH]; rfl
      have HHH := Lib.hid hH
      clear y0 y1 y2 y3 y4 y5 y6 y7 y8 y9 y10 hcv HRW hH hbx
      have HO := Lib.hid hown
      have HB0 := Lib.hid hB0
      clear hown hB0
      have hT0 := hll'
      go_wp2_with fail
      go_loopw [6, 53] (fun v i wr => ∃ k : Nat, k ≤ list.length ∧ i = .int .i64 k ∧ wr.ownsRow w.heap.size 20 1 v (H ++ rowW (list.take k)).length (encs Wd.val (H ++ rowW (list.take k))) ∧ Below w.heap.size w wr) (fun _ i _ => list.length - (intOf i).toNat)
      case atStart => exact ⟨0, Nat.zero_le _, rfl, by have h := HO.out; simpa [rowW] using h, HB0.out⟩
      case round =>
        obtain ⟨k, hk, rfl, hOw, hBw⟩ := hrel
        have HOW := Lib.hid hOw
        have HBW := Lib.hid hBw
        clear hOw hBw HO HB0
        by_cases hlt : k < list.length
        · obtain ⟨x, hx⟩ : ∃ x, list[k]? = some x := ⟨list[k], by simp [hlt]⟩
          obtain ⟨ad, rfl, hcs⟩ := (HR.out.list.on HBW.out).at_ (by show 0 < list.length; omega)
          obtain ⟨c1, c2, c3⟩ := hcs k x hx
          have hxo := HR.out.list.ok x (List.mem_of_getElem? hx)
          have HXO := Lib.hid hxo
          have HSN := Lib.hid (rowW_snoc list k x hx)
          clear hcs hx hxo z9
          go_upto_region 8 with (fail)
          have hA2 := below_alloc (Below.refl wr.heap.size wr) (.cells #[.string x.name, .int .i64 x.id, .int .i64 x.kind] 56)
          have hn2 := Go.heap_alloc_new wr (.cells #[.string x.name, .int .i64 x.id, .int .i64 x.kind] 56)
          have d0 := cellB hn2 0
          have d1 := cellB hn2 1
          have d2 := cellB hn2 2
          clear hn2 c1 c2 c3
          replace d0 : (wr.alloc (.cells #[.string x.name, .int .i64 x.id, .int .i64 x.kind] 56)).cell? ⟨wr.heap.size, 0, none⟩ = some (.string x.name) := d0
          replace d1 : (wr.alloc (.cells #[.string x.name, .int .i64 x.id, .int .i64 x.kind] 56)).cell? ⟨wr.heap.size, 1, none⟩ = some (.int .i64 x.id) := d1
          replace d2 : (wr.alloc (.cells #[.string x.name, .int .i64 x.id, .int .i64 x.kind] 56)).cell? ⟨wr.heap.size, 2, none⟩ = some (.int .i64 x.kind) := d2
          generalize wr.alloc (.cells #[.string x.name, .int .i64 x.id, .int .i64 x.kind] 56) = w2 at *
          have HA2 := Lib.hid hA2
          clear hA2
          go_region_held3 (fun W => W.cell? ⟨wr.heap.size, 0, none⟩ = some (.string x.name) ∧ W.cell? ⟨wr.heap.size, 1, none⟩ = some (.int .i64 x.id) ∧ W.cell? ⟨wr.heap.size, 2, none⟩ = some (.int .i64 x.kind)) (first | exact ⟨d0, d1, d2⟩ | (have hs := ‹_ ∧ _ ∧ _›; exact ⟨cell_on hd hs.1, cell_on hd hs.2.1, cell_on hd hs.2.2⟩) | (have hs := ‹_ ∧ _ ∧ _›; exact ⟨cell_on (below_alloc (Below.refl _ _) _) hs.1, cell_on (below_alloc (Below.refl _ _) _) hs.2.1, cell_on (below_alloc (Below.refl _ _) _) hs.2.2⟩) | (have hs := ‹_ ∧ _ ∧ _›; exact ⟨cell_app HOW.out hg hs.1, cell_app HOW.out hg hs.2.1, cell_app HOW.out hg hs.2.2⟩)) (first | (go_at_call 9; refine (text7 x.name _ HXO.out.1).mono ?_; rintro e w9 ⟨rfl, hd⟩) | (refine app_wd_step w.heap.size rfl (.tmp 57) (.tmp 68) 51 20 rfl Tryd.underlying51 info20 _ (H ++ rowW (list.take k)) [.txt (textOf x.name), .num x.id, .num x.kind] 3 _ rfl rfl rfl rfl (own_up HOW.out (below_then HA2.out HA2.out.size (below_then (below_drew (Below.refl w2.heap.size w2)) (by simp) hd))) (below_then HBW.out HBW.out.size (below_then HA2.out HA2.out.size (below_then (below_drew (Below.refl w2.heap.size w2)) (by simp) hd))) (Nat.le_trans HBW.out.size (Nat.le_trans HA2.out.size hd.size)) (by rw [List.length_append, rowW_len, List.length_take]; simp; omega) ?_; intro v1 w1' ho hb hg))
          all_goals
            go_wp2_with fail
            go_roundw
            case rel => exact ⟨k + 1, hlt, by go_num, by rw [HSN.out, ← List.append_assoc]; exact ho, hb⟩
            case measure => simp [intOf]; omega
        · obtain rfl : k = list.length := by omega
          have hO := HOW.out
          rw [List.take_length] at hO
          have HW9 : Hid (∀ y ∈ H ++ rowW list, y.ok ∧ y.text.data.toList.length ≤ 4194306) := HOK
          have HL9 : Hid ((wordsT (H ++ rowW list)).length ≤ 140737488355328) := HWL
          have hxl : (H ++ rowW list).length ≤ 4000000 := by rw [List.length_append, rowW_len]; omega
          have hxp : 0 < (H ++ rowW list).length := by rw [List.length_append]; omega
          have hJE : wordsT (retHead a ⟨call, op, status, handle, aid, akind, asize, achange, data, list, false⟩ ++ rowW list) = wordsT (H ++ rowW list) := by rw [HHH.out]
          have HJE := Lib.hid hJE
          clear hJE HOW HOK HWL
          obtain ⟨xs, hxs⟩ : ∃ xs, xs = H ++ rowW list := ⟨_, rfl⟩
          rw [← hxs] at hO HW9 HL9 hxl hxp HJE
          clear hxs
          have hcells := fun g' hg' => hO.cells (g := g') hg'
          have hgl := own_lt hO
          obtain ⟨n5, hn5⟩ : ∃ n5, n5 = xs.length := ⟨_, rfl⟩
          rcases hO.2 with ⟨_, e⟩ | ⟨gb, cap0, cur, rfl, hgb, hh, hr5⟩
          · omega
          have HJ := Lib.hid (words6 (B := B) xs gb cap0 wr (HT.out.on_up HB.out HBW.out) (Nat.le_trans HB.out HBW.out.size) (hgl gb rfl) (fun j x hx => by
            have h' := hcells gb rfl j x.val (by simp only [encs, List.getElem?_map]; rw [hx]; rfl)
            rwa [add0] at h') (by omega) (fun y hy => (HW9.out y hy).1) HL9.out (fun e => by rw [e] at hxp; simp at hxp))
          rw [← hn5] at HJ
          rw [← hn5]
          clear hO hcells hgl hh hr5 hgb hxl hxp hn5
          go_wp2_with (go_at_call 6; refine HJ.out.mono ?_; rintro e w8 ⟨rfl, hb8⟩)
          go_ret
          exact ⟨(congrArg (fun t => Ending.returned (.string (by_ t))) HJE.out).symm, below_then HBW.out HBW.out.size hb8⟩
end Go.Proofs.YtekgdlpicgibhabDoor.SH
